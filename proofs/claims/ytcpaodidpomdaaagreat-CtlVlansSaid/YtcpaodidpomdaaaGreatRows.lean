/-
  No cell of these rows narrows 'for every input' (looked for: loops, veiled, ifaces, maps, wideKeys, modest, calm, conditions, laid).
  DERIVED. THE GIVEN ROWS OF THIS SEAT. 8 by the template 'for every input the law returns true; each argument reads behind the call as it read before'; 0 by the template 'total and deterministic' (their statements: YtcpaodidpomdaaaGreatTotals.lean).
  GIVEN WITH THE SEED: the statements are not yours to turn. If you find one false, say at which input.
  Laid BY PROGRAM, IN A SANDBOX (cutbox-rows.mjs): the forced cells as the released guide's own fill.sh prints them over the translation 0ac465a5ccbacbc9… (all of the seat's roots in one cut). By AI agents, Wed Nov 11 2026. No macro, syntax, notation, axiom, sorry.
-/
import Derived.Test.YtcpaodidpomdaaaGreatChecked
import GoSem.Claim
import GoSem.ClaimJoined
import GoSem.ClaimMapViews
import Derived.JoinedTies
import Derived.KernelRfl
namespace Go.Proofs.YtcpaodidpomdaaaGreat
/- THE CELL 'sum', in the pinned program and in every row, IS THE sha256 OF THE DUMP (.gsa) THAT YtcpaodidpomdaaaGreatProg.lean LOADS. Nothing in Lean hashes anything: it is a label: what it is worth is what the hold of that sum in a sandbox is worth. -/
noncomputable def Tryz.pinned : Pinned := { name := "ytcpaodidpomdaaagreat", sum := "0ac465a5ccbacbc9aa22a47d214fcfaf8ba57afcdd7fefd65826d4cef46f90ac", checked := Tryz.checked }
namespace Rows
def none {H : Type} : Left H := { results := [], args := [] }

/-- 'patchbaylaw21.EgressFair': WHATEVER THE INPUT: true; the input reads as it did. -/
def egressFairSpec : ChangeSpec := { name := "egressFair", fn := fun _ => fun
  | [d1, d2, d3] => { results := [.lit (.bool true)], args := [d1, d2, d3] }
  | _ => none }
def egressFairRow : OpenClaim := { program := "ytcpaodidpomdaaagreat", sum := "0ac465a5ccbacbc9aa22a47d214fcfaf8ba57afcdd7fefd65826d4cef46f90ac", func := "patchbay/patchbaylaw21.EgressFair", spec := "egressFair", unfollowed := true, recurses := true, apart := false }
def EgressFairSaid : Prop := egressFairRow.holds Tryz.pinned (OpenSpec.ofChange egressFairSpec)

/-- ITS FALSE NEIGHBOUR: 'it returns false'. Refute it at one input. -/
def egressFairWrong : ChangeSpec := { name := "egressFair", fn := fun _ => fun
  | [d1, d2, d3] => { results := [.lit (.bool false)], args := [d1, d2, d3] }
  | _ => none }
def EgressFairWrongFalsely : Prop := egressFairRow.holds Tryz.pinned (OpenSpec.ofChange egressFairWrong)

/-- 'patchbaylaw21.EgressNews': WHATEVER THE INPUT: true; the input reads as it did. -/
def egressNewsSpec : ChangeSpec := { name := "egressNews", fn := fun _ => fun
  | [d1, d2, d3] => { results := [.lit (.bool true)], args := [d1, d2, d3] }
  | _ => none }
def egressNewsRow : OpenClaim := { program := "ytcpaodidpomdaaagreat", sum := "0ac465a5ccbacbc9aa22a47d214fcfaf8ba57afcdd7fefd65826d4cef46f90ac", func := "patchbay/patchbaylaw21.EgressNews", spec := "egressNews", unfollowed := true, recurses := true, apart := false }
def EgressNewsSaid : Prop := egressNewsRow.holds Tryz.pinned (OpenSpec.ofChange egressNewsSpec)

/-- ITS FALSE NEIGHBOUR: 'it returns false'. Refute it at one input. -/
def egressNewsWrong : ChangeSpec := { name := "egressNews", fn := fun _ => fun
  | [d1, d2, d3] => { results := [.lit (.bool false)], args := [d1, d2, d3] }
  | _ => none }
def EgressNewsWrongFalsely : Prop := egressNewsRow.holds Tryz.pinned (OpenSpec.ofChange egressNewsWrong)

/-- 'patchbaylaw19.CtlWaits': WHATEVER THE INPUT: true; the input reads as it did. -/
def ctlWaitsSpec : ChangeSpec := { name := "ctlWaits", fn := fun _ => fun
  | [d1, d2, d3] => { results := [.lit (.bool true)], args := [d1, d2, d3] }
  | _ => none }
def ctlWaitsRow : OpenClaim := { program := "ytcpaodidpomdaaagreat", sum := "0ac465a5ccbacbc9aa22a47d214fcfaf8ba57afcdd7fefd65826d4cef46f90ac", func := "patchbay/patchbaylaw19.CtlWaits", spec := "ctlWaits", unfollowed := true, recurses := true, apart := false }
def CtlWaitsSaid : Prop := ctlWaitsRow.holds Tryz.pinned (OpenSpec.ofChange ctlWaitsSpec)

/-- ITS FALSE NEIGHBOUR: 'it returns false'. Refute it at one input. -/
def ctlWaitsWrong : ChangeSpec := { name := "ctlWaits", fn := fun _ => fun
  | [d1, d2, d3] => { results := [.lit (.bool false)], args := [d1, d2, d3] }
  | _ => none }
def CtlWaitsWrongFalsely : Prop := ctlWaitsRow.holds Tryz.pinned (OpenSpec.ofChange ctlWaitsWrong)

/-- 'patchbaylaw19.CtlVlans': WHATEVER THE INPUT: true; the input reads as it did. -/
def ctlVlansSpec : ChangeSpec := { name := "ctlVlans", fn := fun _ => fun
  | [d1, d2] => { results := [.lit (.bool true)], args := [d1, d2] }
  | _ => none }
def ctlVlansRow : OpenClaim := { program := "ytcpaodidpomdaaagreat", sum := "0ac465a5ccbacbc9aa22a47d214fcfaf8ba57afcdd7fefd65826d4cef46f90ac", func := "patchbay/patchbaylaw19.CtlVlans", spec := "ctlVlans", unfollowed := true, recurses := true, apart := false }
def CtlVlansSaid : Prop := ctlVlansRow.holds Tryz.pinned (OpenSpec.ofChange ctlVlansSpec)

/-- ITS FALSE NEIGHBOUR: 'it returns false'. Refute it at one input. -/
def ctlVlansWrong : ChangeSpec := { name := "ctlVlans", fn := fun _ => fun
  | [d1, d2] => { results := [.lit (.bool false)], args := [d1, d2] }
  | _ => none }
def CtlVlansWrongFalsely : Prop := ctlVlansRow.holds Tryz.pinned (OpenSpec.ofChange ctlVlansWrong)

/-- 'patchbaylaw19.CtlDrains': WHATEVER THE INPUT: true; the input reads as it did. -/
def ctlDrainsSpec : ChangeSpec := { name := "ctlDrains", fn := fun _ => fun
  | [d1, d2, d3] => { results := [.lit (.bool true)], args := [d1, d2, d3] }
  | _ => none }
def ctlDrainsRow : OpenClaim := { program := "ytcpaodidpomdaaagreat", sum := "0ac465a5ccbacbc9aa22a47d214fcfaf8ba57afcdd7fefd65826d4cef46f90ac", func := "patchbay/patchbaylaw19.CtlDrains", spec := "ctlDrains", unfollowed := true, recurses := true, apart := false }
def CtlDrainsSaid : Prop := ctlDrainsRow.holds Tryz.pinned (OpenSpec.ofChange ctlDrainsSpec)

/-- ITS FALSE NEIGHBOUR: 'it returns false'. Refute it at one input. -/
def ctlDrainsWrong : ChangeSpec := { name := "ctlDrains", fn := fun _ => fun
  | [d1, d2, d3] => { results := [.lit (.bool false)], args := [d1, d2, d3] }
  | _ => none }
def CtlDrainsWrongFalsely : Prop := ctlDrainsRow.holds Tryz.pinned (OpenSpec.ofChange ctlDrainsWrong)

/-- 'patchbaylaw19.CtlAlone': WHATEVER THE INPUT: true; the input reads as it did. -/
def ctlAloneSpec : ChangeSpec := { name := "ctlAlone", fn := fun _ => fun
  | [d1, d2, d3] => { results := [.lit (.bool true)], args := [d1, d2, d3] }
  | _ => none }
def ctlAloneRow : OpenClaim := { program := "ytcpaodidpomdaaagreat", sum := "0ac465a5ccbacbc9aa22a47d214fcfaf8ba57afcdd7fefd65826d4cef46f90ac", func := "patchbay/patchbaylaw19.CtlAlone", spec := "ctlAlone", unfollowed := true, recurses := true, apart := false }
def CtlAloneSaid : Prop := ctlAloneRow.holds Tryz.pinned (OpenSpec.ofChange ctlAloneSpec)

/-- ITS FALSE NEIGHBOUR: 'it returns false'. Refute it at one input. -/
def ctlAloneWrong : ChangeSpec := { name := "ctlAlone", fn := fun _ => fun
  | [d1, d2, d3] => { results := [.lit (.bool false)], args := [d1, d2, d3] }
  | _ => none }
def CtlAloneWrongFalsely : Prop := ctlAloneRow.holds Tryz.pinned (OpenSpec.ofChange ctlAloneWrong)

/-- 'patchbaylaw19.CtlNews': WHATEVER THE INPUT: true; the input reads as it did. -/
def ctlNewsSpec : ChangeSpec := { name := "ctlNews", fn := fun _ => fun
  | [d1, d2, d3] => { results := [.lit (.bool true)], args := [d1, d2, d3] }
  | _ => none }
def ctlNewsRow : OpenClaim := { program := "ytcpaodidpomdaaagreat", sum := "0ac465a5ccbacbc9aa22a47d214fcfaf8ba57afcdd7fefd65826d4cef46f90ac", func := "patchbay/patchbaylaw19.CtlNews", spec := "ctlNews", unfollowed := true, recurses := true, apart := false }
def CtlNewsSaid : Prop := ctlNewsRow.holds Tryz.pinned (OpenSpec.ofChange ctlNewsSpec)

/-- ITS FALSE NEIGHBOUR: 'it returns false'. Refute it at one input. -/
def ctlNewsWrong : ChangeSpec := { name := "ctlNews", fn := fun _ => fun
  | [d1, d2, d3] => { results := [.lit (.bool false)], args := [d1, d2, d3] }
  | _ => none }
def CtlNewsWrongFalsely : Prop := ctlNewsRow.holds Tryz.pinned (OpenSpec.ofChange ctlNewsWrong)

/-- 'patchbaylaw21.EgressAlone': WHATEVER THE INPUT: true; the input reads as it did. -/
def egressAloneSpec : ChangeSpec := { name := "egressAlone", fn := fun _ => fun
  | [d1, d2, d3] => { results := [.lit (.bool true)], args := [d1, d2, d3] }
  | _ => none }
def egressAloneRow : OpenClaim := { program := "ytcpaodidpomdaaagreat", sum := "0ac465a5ccbacbc9aa22a47d214fcfaf8ba57afcdd7fefd65826d4cef46f90ac", func := "patchbay/patchbaylaw21.EgressAlone", spec := "egressAlone", unfollowed := true, recurses := true, apart := false }
def EgressAloneSaid : Prop := egressAloneRow.holds Tryz.pinned (OpenSpec.ofChange egressAloneSpec)

/-- ITS FALSE NEIGHBOUR: 'it returns false'. Refute it at one input. -/
def egressAloneWrong : ChangeSpec := { name := "egressAlone", fn := fun _ => fun
  | [d1, d2, d3] => { results := [.lit (.bool false)], args := [d1, d2, d3] }
  | _ => none }
def EgressAloneWrongFalsely : Prop := egressAloneRow.holds Tryz.pinned (OpenSpec.ofChange egressAloneWrong)

/- THE SECOND FORM. 'bulk': how many values and letters a reading holds, each counted each time it is reached (what is shared counts as often as it is met; a slice's spare places count too). A statement '..UptoSaid' is the law's where the arguments, and the package variables that the reading takes, are together of bulk at most 1048576: NARROWER than '..Said'. Prove '..Said' where nothing that the law and all that it calls make is longer than what came in: it says more and counts as full. Else prove '..UptoSaid'. A law counts once. -/
mutual
def uptoBulk {H : Type} : DataW H → Nat
  | .lit (.string bytes) => bytes.length + 1
  | .lit _ => 1
  | .nil => 1
  | .ptr d => uptoBulk d + 1
  | .slice elems spare => uptoBulkAll elems + uptoBulkAll spare + 1
  | .agg parts => uptoBulkAll parts + 1
  | .iface _ d => uptoBulk d + 1
  | .map entries => uptoBulkEntries entries + 1
  | .held _ => 1
def uptoBulkAll {H : Type} : List (DataW H) → Nat
  | [] => 0
  | d :: r => uptoBulk d + uptoBulkAll r
def uptoBulkEntries {H : Type} : List (Lit × DataW H) → Nat
  | [] => 0
  | x :: r => uptoBulkEntry x + uptoBulkEntries r
def uptoBulkEntry {H : Type} : Lit × DataW H → Nat
  | (.string bytes, d) => bytes.length + uptoBulk d + 1
  | (_, d) => uptoBulk d + 1
 end
def uptoSmall : (H : Type) → List (DataW H) → Bool := fun _ ds => decide (uptoBulkAll ds ≤ 1048576)
def OpenSpec.upto (s : _root_.Go.ChangeSpec) : _root_.Go.OpenSpec := { _root_.Go.OpenSpec.ofChange s with cond := some uptoSmall }

/-- 'patchbaylaw21.EgressFair', WHERE WHAT IT READS IS OF BULK AT MOST 1048576: true; the input reads as it did. -/
def egressFairUptoRow : OpenClaim := { program := "ytcpaodidpomdaaagreat", sum := "0ac465a5ccbacbc9aa22a47d214fcfaf8ba57afcdd7fefd65826d4cef46f90ac", func := "patchbay/patchbaylaw21.EgressFair", spec := "egressFair", unfollowed := true, recurses := true, apart := false, narrowed := true }
def EgressFairUptoSaid : Prop := egressFairUptoRow.holds Tryz.pinned (OpenSpec.upto egressFairSpec)

/-- 'patchbaylaw21.EgressNews', WHERE WHAT IT READS IS OF BULK AT MOST 1048576: true; the input reads as it did. -/
def egressNewsUptoRow : OpenClaim := { program := "ytcpaodidpomdaaagreat", sum := "0ac465a5ccbacbc9aa22a47d214fcfaf8ba57afcdd7fefd65826d4cef46f90ac", func := "patchbay/patchbaylaw21.EgressNews", spec := "egressNews", unfollowed := true, recurses := true, apart := false, narrowed := true }
def EgressNewsUptoSaid : Prop := egressNewsUptoRow.holds Tryz.pinned (OpenSpec.upto egressNewsSpec)

/-- 'patchbaylaw19.CtlWaits', WHERE WHAT IT READS IS OF BULK AT MOST 1048576: true; the input reads as it did. -/
def ctlWaitsUptoRow : OpenClaim := { program := "ytcpaodidpomdaaagreat", sum := "0ac465a5ccbacbc9aa22a47d214fcfaf8ba57afcdd7fefd65826d4cef46f90ac", func := "patchbay/patchbaylaw19.CtlWaits", spec := "ctlWaits", unfollowed := true, recurses := true, apart := false, narrowed := true }
def CtlWaitsUptoSaid : Prop := ctlWaitsUptoRow.holds Tryz.pinned (OpenSpec.upto ctlWaitsSpec)

/-- 'patchbaylaw19.CtlVlans', WHERE WHAT IT READS IS OF BULK AT MOST 1048576: true; the input reads as it did. -/
def ctlVlansUptoRow : OpenClaim := { program := "ytcpaodidpomdaaagreat", sum := "0ac465a5ccbacbc9aa22a47d214fcfaf8ba57afcdd7fefd65826d4cef46f90ac", func := "patchbay/patchbaylaw19.CtlVlans", spec := "ctlVlans", unfollowed := true, recurses := true, apart := false, narrowed := true }
def CtlVlansUptoSaid : Prop := ctlVlansUptoRow.holds Tryz.pinned (OpenSpec.upto ctlVlansSpec)

/-- 'patchbaylaw19.CtlDrains', WHERE WHAT IT READS IS OF BULK AT MOST 1048576: true; the input reads as it did. -/
def ctlDrainsUptoRow : OpenClaim := { program := "ytcpaodidpomdaaagreat", sum := "0ac465a5ccbacbc9aa22a47d214fcfaf8ba57afcdd7fefd65826d4cef46f90ac", func := "patchbay/patchbaylaw19.CtlDrains", spec := "ctlDrains", unfollowed := true, recurses := true, apart := false, narrowed := true }
def CtlDrainsUptoSaid : Prop := ctlDrainsUptoRow.holds Tryz.pinned (OpenSpec.upto ctlDrainsSpec)

/-- 'patchbaylaw19.CtlAlone', WHERE WHAT IT READS IS OF BULK AT MOST 1048576: true; the input reads as it did. -/
def ctlAloneUptoRow : OpenClaim := { program := "ytcpaodidpomdaaagreat", sum := "0ac465a5ccbacbc9aa22a47d214fcfaf8ba57afcdd7fefd65826d4cef46f90ac", func := "patchbay/patchbaylaw19.CtlAlone", spec := "ctlAlone", unfollowed := true, recurses := true, apart := false, narrowed := true }
def CtlAloneUptoSaid : Prop := ctlAloneUptoRow.holds Tryz.pinned (OpenSpec.upto ctlAloneSpec)

/-- 'patchbaylaw19.CtlNews', WHERE WHAT IT READS IS OF BULK AT MOST 1048576: true; the input reads as it did. -/
def ctlNewsUptoRow : OpenClaim := { program := "ytcpaodidpomdaaagreat", sum := "0ac465a5ccbacbc9aa22a47d214fcfaf8ba57afcdd7fefd65826d4cef46f90ac", func := "patchbay/patchbaylaw19.CtlNews", spec := "ctlNews", unfollowed := true, recurses := true, apart := false, narrowed := true }
def CtlNewsUptoSaid : Prop := ctlNewsUptoRow.holds Tryz.pinned (OpenSpec.upto ctlNewsSpec)

/-- 'patchbaylaw21.EgressAlone', WHERE WHAT IT READS IS OF BULK AT MOST 1048576: true; the input reads as it did. -/
def egressAloneUptoRow : OpenClaim := { program := "ytcpaodidpomdaaagreat", sum := "0ac465a5ccbacbc9aa22a47d214fcfaf8ba57afcdd7fefd65826d4cef46f90ac", func := "patchbay/patchbaylaw21.EgressAlone", spec := "egressAlone", unfollowed := true, recurses := true, apart := false, narrowed := true }
def EgressAloneUptoSaid : Prop := egressAloneUptoRow.holds Tryz.pinned (OpenSpec.upto egressAloneSpec)

end Rows
end Go.Proofs.YtcpaodidpomdaaaGreat

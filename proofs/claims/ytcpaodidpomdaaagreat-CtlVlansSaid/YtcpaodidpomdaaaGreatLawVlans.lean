/- CtlVlans: for every plan and every list of sets, whatever VLANs were set to, read one by one, they are what was set last, of the plan's ports; no condition. -/
import Derived.Test.YtcpaodidpomdaaaGreatRows
import Derived.Test.YtcpaodidpomdaaaGreatVlans
import Derived.Test.YtcpaodidpomdaaaGreatOpenPlan
import Derived.WalkKit
import Derived.ProofKit
import Derived.OpenShut
import Derived.ShutString
import Derived.ChangeOld
import Derived.Below
import Derived.SizedLaws
set_option linter.unusedVariables false
set_option linter.unusedSimpArgs false
set_option maxRecDepth 100000
namespace Go.Proofs.YtcpaodidpomdaaaGreat
open Go.ChangeShapes Go.WideShapes Go.ChangeAt Go.RowKit

theorem own : ownKnob Tryz.prog.godebug = none := by kernel_rfl
theorem laidOut : laidOutB Tryz.prog = true := by kernel_rfl
section
variable {H : Type} {enc : TypeId × Value → H} {w : World} {base : Nat} {spare : Nat → Bool} {held : Bool}
theorem open_pair2 : ∀ n cs' y, DataW.trod enc Tryz.prog w base spare held n 81 cs' = some y → ∃ x : Nat × Nat, cs' = [.int .u64 (x.1 : Int), .int .u64 (x.2 : Int)] ∧ (U64 x.1 ∧ U64 x.2) := by
  intro n cs' y h
  obtain ⟨xs, m, _, _, hl, hxl, hf⟩ := DataW.trod_array Tryz.underlying81 h
  rw [show Tryz.prog.cellsOf 81 = 2 by kernel_rfl] at hl
  match cs', hl, xs, hxl with
  | [v0, v1], _, [y0, y1], _ =>
    have g0 := hf 0 (by omega)
    have g1 := hf 1 (by omega)
    simp [show Tryz.prog.cellsOf 33 = 1 by kernel_rfl] at g0 g1
    obtain ⟨a, ha, _, wa⟩ := DataW.trod_int Tryz.underlying33 g0
    obtain ⟨b, hb, _, wb⟩ := DataW.trod_int Tryz.underlying33 g1
    cases ha
    cases hb
    obtain ⟨a', rfl, ua⟩ := wf_u64 wa
    obtain ⟨b', rfl, ub⟩ := wf_u64 wb
    exact ⟨(a', b'), rfl, ua, ub⟩
end

theorem agg_cells {cs : Array Value} {l : List Value} (h : (Value.agg cs).cells.toList = l) : Value.agg cs = .agg l.toArray := by
  subst h
  simp [Value.cells]

set_option maxRecDepth 100000 in
theorem vlans_lifted (os : Os) (started : os.Started) (H : Type) (enc : TypeId × Value → H) :
    ReturnsInHanded {} Tryz.checked os 6 .any (Rows.ctlVlansSpec.pre6 enc Tryz.prog Tryz.f6 Rows.ctlVlansRow.domain false) (Rows.ctlVlansSpec.post enc Tryz.prog Tryz.f6 false true false false) := by
  refine returnsInHanded_of_change_sized (C := Tryz.checked) own started (by kernel_rfl) Tryz.func6
    (ChangeSpec.witness6 (enc := enc) (C := Tryz.checked) false ⟨#[], #[.agg #[.int .i64 0, .slice none 0 0, .slice none 0 0, .int .i64 0, .int .i64 0, .int .i64 0, .int .i64 0, .int .i64 0, .int .u32 0, .int .u32 0], .slice none 0 0], []⟩ 8 (by kernel_rfl) (by kernel_rfl) (by kernel_rfl) (by kernel_rfl)) ?_
  intro W base args ds gs before hval0 hW hcnd hsz0 _
  have hval : ∀ (j : Nat) t v, Tryz.f6.params[j]? = some t → args[j]? = some v → Value.okWide Tryz.prog W .any base t v := hval0
  have hW' := hW
  obtain ⟨p, q, hA0, hV, rfl, hfz, hnd⟩ := hW
  have hA : DataW.TrodAll enc Tryz.prog W 0 (fun _ => true) true Tryz.f6.params.toList args.toList ds p := hA0
  rw [Tryz.params6] at hA hval
  obtain ⟨v0, vs0, d0, ds0, p0, q0, hargs, rfl, rfl, h0, r0⟩ := trodAll_cons hA
  obtain ⟨v1, vs1, d1, ds1, p1, q1, rfl, rfl, rfl, h1, r1⟩ := trodAll_cons r0
  obtain ⟨rfl, rfl, rfl⟩ := trodAll_nil r1
  obtain rfl : args = #[v0, v1] := by cases args; simp_all
  obtain ⟨rfl, rfl⟩ := trodVars_none hV
  obtain ⟨cs0, rfl, hcs0⟩ := okWide_struct Tryz.underlying28 (hval 0 28 v0 rfl rfl)
  have k0 := h0
  have lt0 : ∀ x ∈ p0, x.block < W.heap.size := by obtain ⟨m, hm⟩ := k0; exact DataW.trod_lt m _ _ _ hm
  obtain ⟨a1, len1, cap1, rfl⟩ := okWide_slice Tryz.underlying78 (hval 1 78 v1 rfl rfl)
  have k1 := h1
  have lt1 : ∀ x ∈ p1, x.block < W.heap.size := by obtain ⟨m, hm⟩ := k1; exact DataW.trod_lt m _ _ _ hm
  obtain ⟨fuel0, hf0⟩ := h0
  obtain ⟨fuel1, hf1⟩ := h1
  obtain ⟨pl, A1, A2, rules, vls, c1, c2, e0, hr1, hr2, hl1, hl2, hu⟩ := open_plan hf0
  obtain ⟨As, sets, cs, e1, hr3, hl3, hsu⟩ := open_rows (fun x : Nat × Nat => [.int .u64 (x.1 : Int), .int .u64 (x.2 : Int)]) (fun x => U64 x.1 ∧ U64 x.2) 2 (by omega) (fun _ => rfl) Tryz.underlying78 (by kernel_rfl) open_pair2 hf1
  have ea := agg_cells e0
  have eb : Value.slice a1 len1 cap1 = .slice As sets.length cs := by simpa [Value.cells] using e1
  clear hA0 hval0 hsz0
  rw [ea] at k0
  rw [eb] at k1
  rw [ea, eb] at hW' ⊢
  refine (vlans_walk W pl A1 A2 As rules vls sets c1 c2 cs hr1 hr2 hl1 hl2 hu hr3 hl3 hsu).mono fun e W' ⟨he, bel⟩ => ?_
  subst he
  exact ⟨_, rfl, _, _, _, [], _, [], hW', trodAll_mk1 (shut_bool Tryz.underlying4 _), (trodAll_cons_mk (Below.trod laidOut (by kernel_rfl) (of_decide_eq_true (by kernel_rfl)) k0 bel lt0) (trodAll_cons_mk (Below.trod laidOut (by kernel_rfl) (of_decide_eq_true (by kernel_rfl)) k1 bel lt1) trodAll_mk0)), rfl, bel.frame _, fun h => by cases h⟩

theorem ctlVlans_holds : Rows.CtlVlansSaid :=
  OpenClaim.holds_of_wide 6 Tryz.f6 rfl rfl rfl rfl rfl rfl rfl ⟨rfl, rfl, rfl, rfl, rfl⟩ rfl rfl rfl rfl rfl (by kernel_rfl) Tryz.func6 (by kernel_rfl)
    (of_decide_eq_true (by kernel_rfl)) (by unfold Func.isWrapper; first | (rw [if_pos (by decide +kernel)]; kernel_rfl) | (rw [if_neg (by decide +kernel)]; exact ⟨rfl, rfl⟩))
    (fun os started H enc _ => vlans_lifted os started H enc)
#print axioms ctlVlans_holds
end Go.Proofs.YtcpaodidpomdaaaGreat

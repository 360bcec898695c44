/- What is handed in, as data: a plan; pairs of numbers. -/
import Derived.Test.YtcpaodidpomdaaaGreatPlan
import Derived.Deep.Slices
import Derived.OpenShut
import Derived.ChangeArms
import Derived.ChangeSame
set_option linter.unusedVariables false
set_option linter.unusedSimpArgs false
set_option maxRecDepth 100000
namespace Go.Proofs.YtcpaodidpomdaaaGreat
open Go.RowKit Go.Deep Go.ChangeShapes Go.WideShapes

section
variable {H : Type} {enc : TypeId × Value → H} {P : Program} {w : World} {base : Nat} {spare : Nat → Bool} {held : Bool}
theorem flatMap_get {α : Type} (f : α → List Value) (sz : Nat) (hs : 0 < sz) (hf : ∀ r, (f r).length = sz) : ∀ (l : List α) (j : Nat) (v : Value), (l.flatMap f)[j]? = some v → ∃ r, l[j / sz]? = some r ∧ (f r)[j % sz]? = some v := by
  intro l
  induction l with
  | nil => intro j v h; simp at h
  | cons r l ih =>
    intro j v h
    rw [List.flatMap_cons] at h
    by_cases hj : j < sz
    · rw [List.getElem?_append_left (by rw [hf]; exact hj)] at h
      exact ⟨r, by rw [Nat.div_eq_of_lt hj]; rfl, by rw [Nat.mod_eq_of_lt hj]; exact h⟩
    · rw [List.getElem?_append_right (by rw [hf]; omega), hf] at h
      obtain ⟨r', h1, h2⟩ := ih _ _ h
      have e : j = (j - sz) + sz := by omega
      refine ⟨r', ?_, ?_⟩
      · rw [e, Nat.add_div_right _ hs]
        exact h1
      · rw [e, Nat.add_mod_right]
        exact h2

/-- A slice whose elements are so many cells each. -/
theorem open_rows {α : Type} (f : α → List Value) (Q : α → Prop) (sz : Nat) (hs : 0 < sz) (hf : ∀ r, (f r).length = sz) {t e : TypeId} {fuel : Nat} {cs : List Value} {x : DataW H × List MemPlace} (ht : P.underlying t = some (.slice e)) (ce : P.cellsOf e = sz)
    (hq : ∀ n cs' y, DataW.trod enc P w base spare held n e cs' = some y → ∃ r, cs' = f r ∧ Q r) (h : DataW.trod enc P w base spare held fuel t cs = some x) :
    ∃ (A : Option Addr) (l : List α) (c : Nat), cs = [.slice A l.length c] ∧ Rd w A (l.flatMap f) ∧ l.length ≤ maxLen ∧ ∀ r ∈ l, Q r := by
  rcases open_slice ht h with ⟨rfl, _⟩ | ⟨a, len, cap, m, n, D, Pl, rfl, hb, hl, hm, hmm, rfl, hx⟩
  · exact ⟨none, [], 0, rfl, Rd.nil _ _, by simp [maxLen], fun r hr => by cases hr⟩
  have hlm : len ≤ m := by rw [hmm]; split <;> omega
  have each : ∀ i : Fin len, ∃ r, w.cells? base (a.add (i.1 * sz)) sz = some (f r) ∧ Q r := fun i => by
    obtain ⟨cs', h1, h2⟩ := hx i.1 (by omega)
    obtain ⟨r, rfl, hr⟩ := hq _ _ _ h2
    rw [ce] at h1
    exact ⟨r, h1, hr⟩
  have hch : ∃ g : Fin len → α, ∀ i, w.cells? base (a.add (i.1 * sz)) sz = some (f (g i)) ∧ Q (g i) := ⟨fun i => (each i).choose, fun i => (each i).choose_spec⟩
  obtain ⟨g, hg⟩ := hch
  refine ⟨some a, List.ofFn g, cap, by simp, ⟨?_⟩, by simp; omega, ?_⟩
  · intro j v hv
    obtain ⟨r, h1, h2⟩ := flatMap_get f sz hs hf _ _ _ hv
    have hi : j / sz < len := by have := (List.getElem?_eq_some_iff.1 h1).1; simpa using this
    have hpos : 0 < len := Nat.lt_of_le_of_lt (Nat.zero_le _) hi
    have hr : g ⟨j / sz, hi⟩ = r := by
      have := List.getElem?_ofFn (f := g) (i := j / sz)
      rw [h1, dif_pos hi] at this
      exact (Option.some.inj this).symm
    have hc := (hg ⟨j / sz, hi⟩).1
    rw [hr] at hc
    obtain ⟨_, _, hcell⟩ := World.cells?_some hc
    have hcl := hcell (j % sz) (Nat.mod_lt _ hs)
    rw [add_add, h2, show j / sz * sz + j % sz = j by rw [Nat.mul_comm]; exact Nat.div_add_mod j sz] at hcl
    have hsp := World.cell?_spot hcl
    obtain ⟨b, o, sp⟩ := a
    by_cases h0 : j = 0
    · subst h0
      have e0 : (⟨b, o, sp⟩ : Addr).add 0 = ⟨b, o, sp⟩ := by simp [Addr.add]
      rw [e0] at hcl hsp
      obtain rfl : sp = none := hsp
      exact ⟨b, o, rfl, hcl⟩
    · have hz : w.cells? base ((⟨b, o, sp⟩ : Addr).add (0 * sz)) sz = some (f (g ⟨0, hpos⟩)) := (hg ⟨0, hpos⟩).1
      obtain ⟨_, hlen0, hcell0⟩ := World.cells?_some hz
      have h00 := hcell0 0 hs
      obtain ⟨v0, hv0⟩ := get_of_lt (l := f (g ⟨0, hpos⟩)) (i := 0) (by rw [hf]; exact hs)
      rw [hv0] at h00
      have hsp0 := World.cell?_spot h00
      have e0 : ((⟨b, o, sp⟩ : Addr).add (0 * sz)).add 0 = ⟨b, o, sp⟩ := by simp [Addr.add]
      rw [e0] at hsp0
      obtain rfl : sp = none := hsp0
      refine ⟨b, o, rfl, ?_⟩
      have ea : (⟨b, o, none⟩ : Addr).add j = ⟨b, o + j, none⟩ := by unfold Addr.add; split <;> simp_all
      rwa [ea] at hcl
  · intro r hr
    obtain ⟨i, rfl⟩ := List.mem_ofFn.1 hr
    exact (hg i).2
end

section
variable {H : Type} {enc : TypeId × Value → H} {w : World} {base : Nat} {spare : Nat → Bool} {held : Bool}
theorem wf_u64 {n : Int} (h : (Lit.int .u64 n).wf = true) : ∃ m : Nat, n = (m : Int) ∧ U64 m := by
  simp [Lit.wf, IntKind.min, IntKind.max, IntKind.signed, IntKind.bits] at h
  exact ⟨n.toNat, by omega, by unfold U64; omega⟩
theorem open_rule : ∀ n cs' y, DataW.trod enc Tryz.prog w base spare held n 124 cs' = some y → ∃ r : Rule, cs' = [.int .i64 r.pvid, .int .i64 r.accept] ∧ True := by
  intro n cs' y h
  obtain ⟨xs, m, _, _, hl, hxl, hf⟩ := DataW.trod_struct Tryz.underlying124 h
  rw [show Tryz.prog.cellsOf 124 = 2 by kernel_rfl] at hl
  match cs', hl, xs, hxl with
  | [v0, v1], _, [y0, y1], _ =>
    have g0 := hf 0 _ rfl
    have g1 := hf 1 _ rfl
    simp [show Tryz.prog.cellsOf 3 = 1 by kernel_rfl] at g0 g1
    obtain ⟨a, ha, _, _⟩ := DataW.trod_int Tryz.underlying3 g0
    obtain ⟨b, hb, _, _⟩ := DataW.trod_int Tryz.underlying3 g1
    cases ha
    cases hb
    exact ⟨⟨a, b⟩, rfl, trivial⟩
theorem open_vlan : ∀ n cs' y, DataW.trod enc Tryz.prog w base spare held n 80 cs' = some y → ∃ v : Vl, cs' = [.int .i64 v.vid, .int .u64 (v.mem : Int), .int .u64 (v.unt : Int)] ∧ (U64 v.mem ∧ U64 v.unt) := by
  intro n cs' y h
  obtain ⟨xs, m, _, _, hl, hxl, hf⟩ := DataW.trod_struct Tryz.underlying80 h
  rw [show Tryz.prog.cellsOf 80 = 3 by kernel_rfl] at hl
  match cs', hl, xs, hxl with
  | [v0, v1, v2], _, [y0, y1, y2], _ =>
    have g0 := hf 0 _ rfl
    have g1 := hf 1 _ rfl
    have g2 := hf 2 _ rfl
    simp [show Tryz.prog.cellsOf 3 = 1 by kernel_rfl, show Tryz.prog.cellsOf 33 = 1 by kernel_rfl] at g0 g1 g2
    obtain ⟨a, ha, _, _⟩ := DataW.trod_int Tryz.underlying3 g0
    obtain ⟨b, hb, _, wb⟩ := DataW.trod_int Tryz.underlying33 g1
    obtain ⟨c, hc, _, wc⟩ := DataW.trod_int Tryz.underlying33 g2
    cases ha
    cases hb
    cases hc
    obtain ⟨b', rfl, ub⟩ := wf_u64 wb
    obtain ⟨c', rfl, uc⟩ := wf_u64 wc
    exact ⟨⟨a, b', c'⟩, rfl, ub, uc⟩
theorem open_plan {fuel : Nat} {cs : List Value} {x : DataW H × List MemPlace} (h : DataW.trod enc Tryz.prog w base spare held fuel 28 cs = some x) :
    ∃ (p : Nums) (A1 A2 : Option Addr) (rules : List Rule) (vls : List Vl) (c1 c2 : Nat), cs = p.cells (.slice A1 rules.length c1) (.slice A2 vls.length c2) ∧ Rd w A1 (ruleCells rules) ∧ Rd w A2 (vlCells vls) ∧ rules.length ≤ maxLen ∧ vls.length ≤ maxLen ∧ ∀ v ∈ vls, U64 v.mem ∧ U64 v.unt := by
  obtain ⟨xs, m, _, _, hl, hxl, hf⟩ := DataW.trod_struct Tryz.underlying28 h
  rw [show Tryz.prog.cellsOf 28 = 10 by kernel_rfl] at hl
  match cs, hl, xs, hxl with
  | [v0, v1, v2, v3, v4, v5, v6, v7, v8, v9], _, [y0, y1, y2, y3, y4, y5, y6, y7], _ =>
    have g0 := hf 0 _ rfl
    have g1 := hf 1 _ rfl
    have g2 := hf 2 _ rfl
    have g3 := hf 3 _ rfl
    have g4 := hf 4 _ rfl
    have g5 := hf 5 _ rfl
    have g6 := hf 6 _ rfl
    have g7 := hf 7 _ rfl
    simp [show Tryz.prog.cellsOf 3 = 1 by kernel_rfl, show Tryz.prog.cellsOf 26 = 1 by kernel_rfl, show Tryz.prog.cellsOf 22 = 1 by kernel_rfl, show Tryz.prog.cellsOf 23 = 1 by kernel_rfl, show Tryz.prog.cellsOf 25 = 3 by kernel_rfl] at g0 g1 g2 g3 g4 g5 g6 g7
    obtain ⟨xs3, m3, _, _, hl3, hxl3, hf3⟩ := DataW.trod_struct Tryz.underlying25 g3
    match xs3, hxl3 with
    | [z0, z1, z2], _ =>
      have k0 := hf3 0 _ rfl
      have k1 := hf3 1 _ rfl
      have k2 := hf3 2 _ rfl
      simp [show Tryz.prog.cellsOf 3 = 1 by kernel_rfl] at k0 k1 k2
      obtain ⟨a0, e0, _, _⟩ := DataW.trod_int Tryz.underlying3 g0
      obtain ⟨a3, e3, _, _⟩ := DataW.trod_int Tryz.underlying3 k0
      obtain ⟨a4, e4, _, _⟩ := DataW.trod_int Tryz.underlying3 k1
      obtain ⟨a5, e5, _, _⟩ := DataW.trod_int Tryz.underlying3 k2
      obtain ⟨a6, e6, _, _⟩ := DataW.trod_int Tryz.underlying3 g4
      obtain ⟨a7, e7, _, _⟩ := DataW.trod_int Tryz.underlying3 g5
      obtain ⟨a8, e8, _, _⟩ := DataW.trod_int Tryz.underlying26 g6
      obtain ⟨a9, e9, _, _⟩ := DataW.trod_int Tryz.underlying26 g7
      obtain ⟨A1, rules, c1, e1, r1, l1, _⟩ := open_rows (fun r : Rule => [.int .i64 r.pvid, .int .i64 r.accept]) (fun _ => True) 2 (by omega) (fun _ => rfl) Tryz.underlying22 (by kernel_rfl) open_rule g1
      obtain ⟨A2, vls, c2, e2, r2, l2, q2⟩ := open_rows (fun v : Vl => [.int .i64 v.vid, .int .u64 (v.mem : Int), .int .u64 (v.unt : Int)]) (fun v => U64 v.mem ∧ U64 v.unt) 3 (by omega) (fun _ => rfl) Tryz.underlying23 (by kernel_rfl) open_vlan g2
      cases e0; cases e1; cases e2; cases e3; cases e4; cases e5; cases e6; cases e7; cases e8; cases e9
      exact ⟨⟨a0, a3, a4, a5, a6, a7, a8, a9⟩, A1, A2, rules, vls, c1, c2, rfl, r1, r2, l1, l2, q2⟩
end
end Go.Proofs.YtcpaodidpomdaaaGreat

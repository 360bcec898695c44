/- ctl.copied: a plan with lists of its own. -/
import Derived.Test.YtcpaodidpomdaaaGreatClone
set_option linter.unusedVariables false
set_option linter.unusedSimpArgs false
namespace Go.Proofs.YtcpaodidpomdaaaGreat
open Go.RowKit

theorem ruleCells_one (l : List Rule) : ∀ u ∈ ruleCells l, u.oneCell' = true := by
  intro u hu
  simp [ruleCells] at hu
  obtain ⟨r, _, h | h⟩ := hu <;> subst h <;> rfl
theorem vlCells_one (l : List Vl) : ∀ u ∈ vlCells l, u.oneCell' = true := by
  intro u hu
  simp [vlCells] at hu
  obtain ⟨r, _, h | h | h⟩ := hu <;> subst h <;> rfl
theorem vlCells_len (l : List Vl) : (vlCells l).length = l.length * 3 := by
  induction l with
  | nil => rfl
  | cons r l ih => simp [vlCells] at *; omega

/-- A slice's value that reads: nil, or somewhere, no mark on it. -/
structure Sv (A : Option Addr) (n c : Nat) : Prop where
  nil : A = none → n = 0 ∧ c = 0
  spot : ∀ a, A = some a → a.spot = none
theorem Sv.of_own {w : World} {base n sz c : Nat} {T : TypeId} {A : Option Addr} {xs : List Value} (h : Own w base T sz (.slice A n c) n xs) : Sv A n c := by
  rcases h.out.2 with ⟨e, h0⟩ | ⟨g, cap, cur, e, _⟩
  · cases e; exact ⟨fun _ => ⟨rfl, rfl⟩, fun a h => (by cases h)⟩
  · cases e; exact ⟨fun h => (by cases h), fun a h => (by cases h; rfl)⟩

structure CopA (w wx : World) (p : Nums) (rs : List Rule) (vs : List Vl) (r v : Value) : Prop where
  b0 : Blk wx w.heap.size (p.cells r v) 107
  b1 : Blk wx (w.heap.size + 1) ((⟨0, 0, 0, 0, 0, 0, 0, 0⟩ : Nums).cells (.slice none 0 0) (.slice none 0 0)) 107
  own : Own wx w.heap.size 187 2 r rs.length (ruleCells rs)
  ownV : Own wx w.heap.size 182 3 v vs.length (vlCells vs)
  hB : Below w.heap.size w wx

def CopPost (w : World) (p : Nums) (rs : List Rule) (vs : List Vl) (e : Ending) (w' : World) : Prop := ∃ (A B : Option Addr) (c d : Nat), e = .returned (p.agg (.slice A rs.length c) (.slice B vs.length d)) ∧
  Own w' w.heap.size 187 2 (.slice A rs.length c) rs.length (ruleCells rs) ∧ Own w' w.heap.size 182 3 (.slice B vs.length d) vs.length (vlCells vs) ∧ Below w.heap.size w w'

set_option maxRecDepth 100000 in
set_option maxHeartbeats 4000000 in
theorem copied_calls (w : World) (p : Nums) (A B : Option Addr) (rs : List Rule) (vs : List Vl) (c d : Nat) (hA : Rd w A (ruleCells rs)) (hB : Rd w B (vlCells vs)) (hr : rs.length ≤ 1000) (hv : vs.length ≤ 1000) (hsA : Sv A rs.length c) (hsB : Sv B vs.length d) :
    Calls Tryz.prog 96 #[p.agg (.slice A rs.length c) (.slice B vs.length d)] w (CopPost w p rs vs) := by
  unfold Nums.agg
  go_enter Tryz.func96, Tryz.ntmps96
  go_upto_region 1 with fail
  go_cut [] (fun wx => ∃ A' c' B' d', CopA w wx p rs vs (.slice A' rs.length c') (.slice B' vs.length d'))
  case first =>
    have b0 := ((Blk.new w (p.cells (.slice A rs.length c) (.slice B vs.length d)) 107).alloc (.cells ((⟨0, 0, 0, 0, 0, 0, 0, 0⟩ : Nums).cells (.slice none 0 0) (.slice none 0 0)).toArray 107)).drew
    have b1 := (Blk.new' (w.alloc (.cells (p.cells (.slice A rs.length c) (.slice B vs.length d)).toArray 107)) ((⟨0, 0, 0, 0, 0, 0, 0, 0⟩ : Nums).cells (.slice none 0 0) (.slice none 0 0)) 107 (b := w.heap.size + 1) (by simp)).drew
    have hK := (((Kp.refl w (fun _ => False)).alloc (.cells (p.cells (.slice A rs.length c) (.slice B vs.length d)).toArray 107)).alloc (.cells ((⟨0, 0, 0, 0, 0, 0, 0, 0⟩ : Nums).cells (.slice none 0 0) (.slice none 0 0)).toArray 107)).drew
    have hz : (((w.alloc (.cells (p.cells (.slice A rs.length c) (.slice B vs.length d)).toArray 107)).alloc (.cells ((⟨0, 0, 0, 0, 0, 0, 0, 0⟩ : Nums).cells (.slice none 0 0) (.slice none 0 0)).toArray 107))).drew.heap.size = w.heap.size + 1 + 1 := by simp
    have hR := hA.kp hK (fun _ _ _ h => h)
    have hRV := hB.kp hK (fun _ _ _ h => h)
    simp only [Nums.cells] at b0 b1 hK hz hR hRV
    generalize ((w.alloc _).alloc _) = W at b0 b1 hK hz hR hRV ⊢
    have hr1 := cloneRule_calls W.drew A rs.length c _ (ruleCells_len rs) (ruleCells_one rs) hR hsA.nil hsA.spot (by omega)
    have d1 := b0.get 1 rfl
    have d2 := b0.get 2 rfl
    obtain ⟨b, hb⟩ : ∃ b, w.heap.size = b := ⟨_, rfl⟩
    rw [hb] at b0 b1 hz d1 d2 ⊢
    have HB := Go.Lib.hid hb
    have HZ := Go.Lib.hid hz
    clear hz hb
    go_region_with (first
      | (go_at_call 149; refine hr1.mono ?_; rintro e w1 ⟨A1, c1, rfl, hO1, hB1⟩; have b01 := b0.below hB1; have e1 := b01.get 1 rfl; have e2 := b01.get 2 rfl; have hr2 := cloneVlan_calls w1 B vs.length d _ (vlCells_len vs) (vlCells_one vs) (hRV.below hB1) hsB.nil hsB.spot (by omega))
      | (go_at_call 150; refine hr2.mono ?_; rintro e w2 ⟨A2, c2, rfl, hO2, hB2⟩; have b02 := b01.below hB2; have e3 := b02.get 1 rfl; have e4 := b02.get 2 rfl; have e5 := b02.frozen 1; have e6 := b02.frozen 2))
    all_goals
      have hb := HB.out
      have hz := HZ.out
      clear HB HZ
      have hs1 := hB1.size
      have q1 := hO1.ne_blk b01 (by decide)
      have q2 := hO2.ne_blk b02 (by decide)
      have hO1' := hO1.kp (Kp.of_below (S := fun _ => False) hB2) (fun _ _ h => h)
      have hr' : Own ((w2.setCell ⟨b, 1, none⟩ (.slice A1 rs.length c1)).setCell ⟨b, 2, none⟩ (.slice A2 vs.length c2)) w.heap.size 187 2 (.slice A1 rs.length c1) rs.length (ruleCells rs) := (((hO1'.far (p := ⟨b, 1, none⟩) q1 _).far (p := ⟨b, 2, none⟩) q1 _)).mono (by omega)
      have hv' : Own ((w2.setCell ⟨b, 1, none⟩ (.slice A1 rs.length c1)).setCell ⟨b, 2, none⟩ (.slice A2 vs.length c2)) w.heap.size 182 3 (.slice A2 vs.length c2) vs.length (vlCells vs) := (((hO2.far (p := ⟨b, 1, none⟩) q2 _).far (p := ⟨b, 2, none⟩) q2 _)).mono (by omega)
      have hb' := (b02.set 1 (.slice A1 rs.length c1)).set 2 (.slice A2 vs.length c2)
      have hc' := (((b1.below hB1).below hB2).far (p := ⟨b, 1, none⟩) (by show b + 1 ≠ b; omega) (.slice A1 rs.length c1)).far (p := ⟨b, 2, none⟩) (by show b + 1 ≠ b; omega) (.slice A2 vs.length c2)
      have hk' := (((hK.trans (Kp.of_below (S := fun _ => False) hB1) (fun _ _ h => h)).trans (Kp.of_below (S := fun _ => False) hB2) (fun _ _ h => h)).setCell (p := ⟨b, 1, none⟩) (fun h => by have h : b < w.heap.size := h; omega) (.slice A1 rs.length c1)).setCell (p := ⟨b, 2, none⟩) (fun h => by have h : b < w.heap.size := h; omega) (.slice A2 vs.length c2)
      subst hb
      have hfin : CopA w ((w2.setCell ⟨w.heap.size, 1, none⟩ (.slice A1 rs.length c1)).setCell ⟨w.heap.size, 2, none⟩ (.slice A2 vs.length c2)) p rs vs (.slice A1 rs.length c1) (.slice A2 vs.length c2) := ⟨hb', hc', hr', hv', hk'.toBelow⟩
      clear hb' hc' hr' hv' hk' hO1 hO2 hO1' hB1 hB2 q1 q2
      go_wp2_with fail
      go_meet
      exact ⟨A1, c1, A2, c2, hfin⟩
  case rest =>
    obtain ⟨A1, c1, A2, c2, hC⟩ := hcut
    obtain ⟨p0, p1, p2, p3, p4, p5, p6, p7, p8, p9⟩ := plan_cells hC.b0
    obtain ⟨r0, r1, r2, r3, r4, r5, r6, r7, r8, r9⟩ := plan_cells hC.b1
    have t0 := hC.b1.frozen 0
    have t1 := hC.b1.frozen 1
    have t2 := hC.b1.frozen 2
    have t3 := hC.b1.frozen 3
    have t4 := hC.b1.frozen 4
    have t5 := hC.b1.frozen 5
    have t6 := hC.b1.frozen 6
    have t7 := hC.b1.frozen 7
    have t8 := hC.b1.frozen 8
    have t9 := hC.b1.frozen 9
    have hW := laidPlan_kp wc (w.heap.size + 1) p (.slice A1 rs.length c1) (.slice A2 vs.length c2)
    have hWb := laidPlan_blk (q := p) (r := .slice A1 rs.length c1) (v := .slice A2 vs.length c2) hC.b1
    have hpost : CopPost w p rs vs (.returned (p.agg (.slice A1 rs.length c1) (.slice A2 vs.length c2))) (laidPlan wc (w.heap.size + 1) p (.slice A1 rs.length c1) (.slice A2 vs.length c2)) :=
      ⟨A1, A2, c1, c2, rfl, hC.own.kp hW (fun b hb e => hC.own.ne_blk hC.b1 (by decide) (e ▸ hb)), hC.ownV.kp hW (fun b hb e => hC.ownV.ne_blk hC.b1 (by decide) (e ▸ hb)),
        ((Kp.of_below (S := fun _ => False) hC.hB).trans hW (fun b hlt hs => by omega)).toBelow⟩
    have HP := Go.Lib.hid hpost
    have HWB := Go.Lib.hid hWb
    clear hpost hWb hW hC
    go_wp2_with fail
    have hcs := plan_cells HWB.out
    have hp := HP.out
    unfold laidPlan at hcs hp
    refine bodyPost_ret (v := p.agg (.slice A1 rs.length c1) (.slice A2 vs.length c2)) (by simp [results, Tryz.results96, go_sem, Nums.agg, hcs]) rfl hp
end Go.Proofs.YtcpaodidpomdaaaGreat

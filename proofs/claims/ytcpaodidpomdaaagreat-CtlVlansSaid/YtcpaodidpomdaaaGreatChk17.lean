/- patchbayref17.Check of a plan that may be; patchbayref19.Bound. -/
import Derived.Test.YtcpaodidpomdaaaGreatChk3
set_option linter.unusedVariables false
set_option linter.unusedSimpArgs false
set_option maxRecDepth 100000
namespace Go.Proofs.YtcpaodidpomdaaaGreat
open Go.RowKit

theorem r3right_calls (w : World) (r : Rule) (h : r.Right) :
    Calls Tryz.prog 94 #[.agg #[.int .i64 r.pvid, .int .i64 r.accept]] w fun e w' => e = .returned (.bool true) ∧ Below w.heap.size w w' := by
  have h1 := h.pvid.1
  have h2 := h.pvid.2
  have h3 := h.accept.1
  have h4 := h.accept.2
  have hB := (Below.refl w.heap.size w).alloc (Nat.le_refl _) (.cells #[.int .i64 r.pvid, .int .i64 r.accept] 124)
  clear h
  go_enter Tryz.func94, Tryz.ntmps94
  go_wp2
  go_ret
  exact ⟨rfl, hB⟩
theorem r11right_calls (w : World) (a b c : Int) (h : (1 ≤ a ∧ a ≤ 8) ∧ (1 ≤ b ∧ b ≤ 16) ∧ (1 ≤ c ∧ c ≤ 8)) :
    Calls Tryz.prog 93 #[.agg #[.int .i64 a, .int .i64 b, .int .i64 c]] w fun e w' => e = .returned (.bool true) ∧ w.alloc (.cells #[.int .i64 a, .int .i64 b, .int .i64 c] 25) = w' := by
  obtain ⟨⟨h1, h2⟩, ⟨h3, h4⟩, ⟨h5, h6⟩⟩ := h
  go_enter Tryz.func93, Tryz.ntmps93
  go_wp2
  go_ret
  exact ⟨rfl, rfl⟩
set_option maxHeartbeats 1000000 in
theorem r12bound_calls (w : World) (a b c t : Int) (h : (1 ≤ a ∧ a ≤ 8) ∧ (1 ≤ b ∧ b ≤ 16) ∧ (1 ≤ c ∧ c ≤ 8)) (ht : 1 ≤ t ∧ t ≤ 8) :
    Calls Tryz.prog 80 #[.agg #[.int .i64 a, .int .i64 b, .int .i64 c], .int .i64 t] w fun e w' => e = .returned (.int .i64 (fdbBound a b c t)) ∧ Below w.heap.size w w' := by
  have hB := (Kp.refl w (fun _ => False)).alloc (.cells #[.int .i64 a, .int .i64 b, .int .i64 c] 25)
  have hB2 := (hB.alloc (.cells #[.int .i64 a, .int .i64 b, .int .i64 c] 25)).toBelow
  have hbk := fun W => r11right_calls W a b c h
  obtain ⟨⟨h1, h2⟩, ⟨h3, h4⟩, ⟨h5, h6⟩⟩ := h
  obtain ⟨t1, t2⟩ := ht
  obtain ⟨x1, x2⟩ := mul_bd t (4 + 4 * c) 8 36 (by omega) t2 (by omega) (by omega)
  obtain ⟨y1, y2⟩ := mul_bd b (8 + 8 * c) 16 72 (by omega) h4 (by omega) (by omega)
  obtain ⟨z1, z2⟩ := mul_bd a (4 + b * (8 + 8 * c)) 8 1156 (by omega) h2 (by omega) (by omega)
  go_enter Tryz.func80, Tryz.ntmps80
  go_wp2_with (go_at_call 93; refine (hbk _).mono ?_; rintro e w3 ⟨rfl, rfl⟩)
  go_ret
  exact ⟨rfl, hB2⟩

set_option maxHeartbeats 1000000 in
theorem r17check_calls (w : World) (p : Nums) (A B : Option Addr) (rs : List Rule) (vs : List Vl) (c d : Nat) (hg : p.Good) (hn : (rs.length : Int) = p.ports) (hr : ∀ r ∈ rs, r.Right) (hv : ∀ v ∈ vs, Vl.Ok p.ports.toNat v) (hri : Rising 0 vs) (hvl : vs.length ≤ 8)
    (hA : Rd w A (ruleCells rs)) (hB : Rd w B (vlCells vs)) :
    Calls Tryz.prog 49 #[p.agg (.slice A rs.length c) (.slice B vs.length d)] w fun e w' => e = .returned (.int .i64 0) ∧ Below w.heap.size w w' := by
  have hp := hg.ports
  have hz := (Below.refl w.heap.size w).alloc (Nat.le_refl _) (.cells (p.cells (.slice A rs.length c) (.slice B vs.length d)).toArray 28)
  have hb := Blk.new w (p.cells (.slice A rs.length c) (.slice B vs.length d)) 28
  have hvc := r3check_calls _ B vs d p.ports hp.1 hp.2 (hB.below hz) hvl hv hri
  have hbk := fun W => r11right_calls W p.sh p.bu p.sl ⟨hg.sh, hg.bu, hg.sl⟩
  have g1 := hg.tries.1
  have g2 := hg.tries.2
  have g3 := hg.ring.1
  have g4 := hg.ring.2
  unfold Nums.agg
  unfold Nums.cells at hz hb hvc
  have hne : ((rs.length : Int) != p.ports) = false := by rw [hn]; simp
  have hn8 : rs.length ≤ 8 := by omega
  clear hn
  have HBK := Go.Lib.hid hbk
  have HR := Go.Lib.hid hr
  clear hbk hr hv
  go_enter Tryz.func49, Tryz.ntmps49
  go_wp2_with fail
  generalize (w.alloc _) = W at *
  refine hvc.mono ?_
  rintro e w1 ⟨rfl, hB1⟩
  have hB2 := hz.trans (hB1.mono hz.size)
  have hb1 := hb.below hB1
  obtain ⟨p0, p1, p2, p3, p4, p5, p6, p7, p8, p9⟩ := plan_cells (p := p) (r := .slice A rs.length c) (v := .slice B vs.length d) hb1
  have hlt1 := hb1.lt
  have HB1 := Go.Lib.hid hb1
  have HB2 := Go.Lib.hid hB2
  clear hvc hz hb hb1 hB1 hB2
  go_wp2_with (go_at_call 93; refine (HBK.out _).mono ?_; rintro e w3 ⟨rfl, rfl⟩)
  have HB3 := Go.Lib.hid (HB2.out.alloc HB2.out.size (.cells #[.int .i64 p.sh, .int .i64 p.bu, .int .i64 p.sl] 25))
  have HB4 := Go.Lib.hid (HB1.out.alloc (.cells #[.int .i64 p.sh, .int .i64 p.bu, .int .i64 p.sl] 25))
  clear HB1 HB2 p0 p1 p2 p3 p4 p5 p6 p7 p8 p9
  generalize (World.alloc _ _) = W3 at *
  go_loopg [4] rs.length (fun d i wr => ∃ k : Nat, k + d = rs.length ∧ i = .int .i64 k ∧ Below W3.heap.size W3 wr)
  case atStart => exact ⟨0, by omega, rfl, Below.refl _ _⟩
  case round =>
    obtain ⟨k, hk, rfl, hB3⟩ := hrel
    have hb4 := HB4.out.below hB3
    have p1 := hb4.get 1 rfl
    by_cases hlt : k < rs.length
    · obtain ⟨v, hv⟩ := get_of_lt hlt
      have ok := HR.out v (List.mem_of_getElem? hv)
      obtain ⟨k1, k2⟩ := ruleCells_get rs _ v hv
      obtain ⟨ba, oa, hA1, m1⟩ := hA.out _ _ k1
      obtain ⟨ba', oa', hA2, m2⟩ := hA.out _ _ k2
      rw [hA1] at hA2
      obtain ⟨rfl, rfl⟩ : ba' = ba ∧ oa' = oa := by
        injection hA2 with h
        injection h with h3 h4
        exact ⟨h3.symm, h4.symm⟩
      subst hA1
      rw [← Nat.add_assoc] at m2
      have lt0 : ba' < w.heap.size := World.block_lt_of_cell? w _ m1
      have hBw := HB3.out.trans (hB3.mono HB3.out.size)
      have M1 : wr.cell? ⟨ba', oa' + k * 2, none⟩ = some (.int .i64 v.pvid) := (hBw.cell (p := ⟨ba', oa' + k * 2, none⟩) lt0).trans m1
      have M2 : wr.cell? ⟨ba', oa' + k * 2 + 1, none⟩ = some (.int .i64 v.accept) := (hBw.cell (p := ⟨ba', oa' + k * 2 + 1, none⟩) lt0).trans m2
      have lk : (k : Int) < (rs.length : Int) := by omega
      have hg : 0 < gk := by omega
      have HK := Go.Lib.hid hk
      have HB5 := Go.Lib.hid hB3
      have hw := r3right_calls wr v ok
      clear hk hA2 k1 k2 hv m1 m2 hB3 ok hb4 hBw
      go_wp2_with (go_at_call 94; refine hw.mono ?_; rintro e w' ⟨rfl, hB6⟩)
      go_roundg (gk - 1)
      case measure => omega
      case rel => exact ⟨k + 1, by have := HK.out; omega, by simp, HB5.out.trans (hB6.mono HB5.out.size)⟩
    · have hge : (rs.length : Int) ≤ (k : Int) := by omega
      clear hlt hb4
      go_wp2_with fail
      go_ret
      exact ⟨rfl, HB3.out.trans (hB3.mono HB3.out.size)⟩

def bound19 (p : Nums) : Int := fdbBound p.sh p.bu p.sl p.tries + 64 + p.ports * (16 + 8 * p.ring)
theorem bound19_bd (p : Nums) (hg : p.Good) : 80 ≤ bound19 p ∧ bound19 p ≤ 30000 := by
  obtain ⟨p1, p2⟩ := hg.ports
  obtain ⟨r1, r2⟩ := hg.ring
  have h := fdbBound_bd p.sh p.bu p.sl p.tries ⟨hg.sh, hg.bu, hg.sl⟩ hg.tries
  have x := mul_bd p.ports (16 + 8 * p.ring) 8 528 (by omega) p2 (by omega) (by omega)
  unfold bound19
  omega
set_option maxHeartbeats 1000000 in
theorem bound19_calls (w : World) (p : Nums) (A B : Option Addr) (rs : List Rule) (vs : List Vl) (c d : Nat) (hg : p.Good) (hn : (rs.length : Int) = p.ports) (hr : ∀ r ∈ rs, r.Right) (hv : ∀ v ∈ vs, Vl.Ok p.ports.toNat v) (hri : Rising 0 vs) (hvl : vs.length ≤ 8)
    (hA : Rd w A (ruleCells rs)) (hB : Rd w B (vlCells vs)) :
    Calls Tryz.prog 30 #[p.agg (.slice A rs.length c) (.slice B vs.length d)] w fun e w' => e = .returned (.int .i64 (bound19 p)) ∧ Below w.heap.size w w' := by
  have hz := (Below.refl w.heap.size w).alloc (Nat.le_refl _) (.cells (p.cells (.slice A rs.length c) (.slice B vs.length d)).toArray 28)
  have hb := Blk.new w (p.cells (.slice A rs.length c) (.slice B vs.length d)) 28
  have hch := r17check_calls _ p A B rs vs c d hg hn hr hv hri hvl (hA.below hz) (hB.below hz)
  have h12 := fun W => r12bound_calls W p.sh p.bu p.sl p.tries ⟨hg.sh, hg.bu, hg.sl⟩ hg.tries
  have hbd := fdbBound_bd p.sh p.bu p.sl p.tries ⟨hg.sh, hg.bu, hg.sl⟩ hg.tries
  obtain ⟨p1, p2⟩ := hg.ports
  obtain ⟨r1, r2⟩ := hg.ring
  have x := mul_bd p.ports (16 + 8 * p.ring) 8 528 (by omega) p2 (by omega) (by omega)
  unfold Nums.cells at hz hb hch
  unfold Nums.agg at hch ⊢
  unfold bound19
  generalize fdbBound p.sh p.bu p.sl p.tries = BD at *
  clear hr hv hri hA hB hn
  go_enter Tryz.func30, Tryz.ntmps30
  go_wp2_with fail
  generalize (w.alloc _) = W at *
  refine hch.mono ?_
  rintro e w1 ⟨rfl, hB1⟩
  have hb1 := hb.below hB1
  have HB2 := Go.Lib.hid (hz.trans (hB1.mono hz.size))
  obtain ⟨p0, p1', p2', p3, p4, p5, p6, p7, p8, p9⟩ := plan_cells (p := p) (r := .slice A rs.length c) (v := .slice B vs.length d) hb1
  have HH := Go.Lib.hid hb1
  clear hch hz hb hB1 hb1
  have keepB : ∀ {W}, Blk W w.heap.size (p.cells (.slice A rs.length c) (.slice B vs.length d)) 28 → W.cell? ⟨w.heap.size, 0, none⟩ = some (.int .i64 p.ports) ∧ W.cell? ⟨w.heap.size, 3, none⟩ = some (.int .i64 p.sh) ∧ W.cell? ⟨w.heap.size, 4, none⟩ = some (.int .i64 p.bu) ∧ W.cell? ⟨w.heap.size, 5, none⟩ = some (.int .i64 p.sl) ∧ W.cell? ⟨w.heap.size, 6, none⟩ = some (.int .i64 p.tries) ∧ W.cell? ⟨w.heap.size, 7, none⟩ = some (.int .i64 p.ring) :=
    fun h => ⟨h.get 0 rfl, h.get 3 rfl, h.get 4 rfl, h.get 5 rfl, h.get 6 rfl, h.get 7 rfl⟩
  have KB := Go.Lib.hid (fun W => @keepB W)
  clear p0 p1' p2' p3 p4 p5 p6 p7 p8 p9
  obtain ⟨p0, p3, p4, p5, p6, p7⟩ := keepB HH.out.drew
  clear keepB
  have e1 : IntKind.i64.wrap (8 * p.ring) = 8 * p.ring := IntWalk.i64_in _ (by omega)
  have e2 : IntKind.i64.wrap (16 + 8 * p.ring) = 16 + 8 * p.ring := IntWalk.i64_in _ (by omega)
  have e3 : IntKind.i64.wrap (BD + 64) = BD + 64 := IntWalk.i64_in _ (by omega)
  have e4 : IntKind.i64.wrap (p.ports * (16 + 8 * p.ring)) = p.ports * (16 + 8 * p.ring) := IntWalk.i64_in _ (by omega)
  have e5 : IntKind.i64.wrap (BD + 64 + p.ports * (16 + 8 * p.ring)) = BD + 64 + p.ports * (16 + 8 * p.ring) := IntWalk.i64_in _ (by omega)
  go_wp2_with fail
  go_region_held3 (fun W => W.cell? ⟨w.heap.size, 0, none⟩ = some (.int .i64 p.ports) ∧ W.cell? ⟨w.heap.size, 3, none⟩ = some (.int .i64 p.sh) ∧ W.cell? ⟨w.heap.size, 4, none⟩ = some (.int .i64 p.bu) ∧ W.cell? ⟨w.heap.size, 5, none⟩ = some (.int .i64 p.sl) ∧ W.cell? ⟨w.heap.size, 6, none⟩ = some (.int .i64 p.tries) ∧ W.cell? ⟨w.heap.size, 7, none⟩ = some (.int .i64 p.ring))
    (first | exact KB.out _ hb2 | exact ⟨p0, p3, p4, p5, p6, p7⟩)
    (first | (go_at_call 80; refine (h12 _).mono ?_; rintro e w2 ⟨rfl, hB2⟩; have hb2 := HH.out.drew.below hB2))
  clear e1 e2 e3 e4 e5
  have hfin : Below w.heap.size w w2 := (Below.drawn HB2.out 1).trans (hB2.mono HB2.out.size)
  clear hb2
  go_wp2_with fail
  go_ret
  exact ⟨rfl, hfin⟩
end Go.Proofs.YtcpaodidpomdaaaGreat

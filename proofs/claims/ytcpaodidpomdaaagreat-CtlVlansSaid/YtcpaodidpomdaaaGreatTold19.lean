/- patchbaylaw19.told: a port is set. -/
import Derived.Test.YtcpaodidpomdaaaGreatRunF
import Derived.Test.YtcpaodidpomdaaaGreatNewFab
import Derived.Test.YtcpaodidpomdaaaGreatChk17
set_option linter.unusedVariables false
set_option linter.unusedSimpArgs false
set_option maxRecDepth 100000
namespace Go.Proofs.YtcpaodidpomdaaaGreat
open Go.RowKit

/-- Fix of the plan without anything. -/
theorem fix0_calls (w : World) : Calls Tryz.prog 11 #[.agg #[.int .i64 0, .slice none 0 0, .slice none 0 0, .int .i64 0, .int .i64 0, .int .i64 0, .int .i64 0, .int .i64 0, .int .u32 0, .int .u32 0]] w (FixPost2 w) :=
  fix_calls w ⟨0, 0, 0, 0, 0, 0, 0, 0⟩ none none [] [] 0 0 (Rd.nil _ _) (Rd.nil _ _) (by simp [maxLen]) (by simp [maxLen]) (fun v h => by cases h)

set_option maxHeartbeats 1000000 in
theorem told19_calls (w : World) : Calls Tryz.prog 25 #[] w fun e w' => e = .returned (.bool true) ∧ Below w.heap.size w w' := by
  go_enter Tryz.func25, Tryz.ntmps25
  go_wp2_with fail
  refine (fix0_calls w).mono ?_
  rintro e w1 ⟨q, rs, vs, A, B, c, d, rfl, hg, hn, hr, hv, hri, hvl, hA, hB, hBw, _, _⟩
  unfold Nums.agg
  go_wp2_with fail
  have hb := Blk.new w1 (q.cells (.slice A rs.length c) (.slice B vs.length d)) 28
  have hz := (Below.refl w1.heap.size w1).alloc (Nat.le_refl _) (.cells (q.cells (.slice A rs.length c) (.slice B vs.length d)).toArray 28)
  have hA2 := hA.below hz
  have hB2 := hB.below hz
  have hw2 := hBw.trans (hz.mono hBw.size)
  simp only [Nums.cells] at hb hz hA2 hB2 hw2
  generalize (w1.alloc _) = W2 at hb hz hA2 hB2 hw2 ⊢
  obtain ⟨pb, hpb⟩ : ∃ n, w1.heap.size = n := ⟨_, rfl⟩
  rw [hpb] at hb ⊢
  have hpl : w.heap.size ≤ pb := by rw [← hpb]; exact hBw.size
  clear hz hpb hA hB hBw
  have hmk := make19f_calls W2 q A B rs vs c d hg hn hr hv hri hvl hA2 hB2
  unfold Nums.agg at hmk
  refine hmk.mono ?_
  rintro e W3 ⟨F, s, rfl, hN⟩
  have hp2 := hg.ports.1
  obtain ⟨rfl, rfl, rfl⟩ : q = F.p ∧ rs = F.rs ∧ vs = F.vs := ⟨hN.ep.symm, hN.ers.symm, hN.evs.symm⟩
  have hb3 := hb.below hN.below
  have hA3 := hA2.below hN.below
  have hB3 := hB2.below hN.below
  have hw3 := hw2.trans (hN.below.mono hw2.size)
  have hF3 := hN.fab
  have hst := hN.stand
  have hlk := hN.locks
  have ht := hN.t1
  have hnl := hF3.nlocks
  have hcm := command_state_calls hF3 9 ⟨8, 1, 0, 0, 4, 0, 0, 0, 0, 0, 0, 0, 0, 0⟩ (by omega) rfl (by show (0 : Int) ≤ 1; omega) (by show (1 : Int) < _; omega) (by show (0 : Int) ≤ 4; omega) (by show (4 : Int) ≤ 4; omega)
  have hok := hF3.ok
  have hwb : w.heap.size ≤ F.wb.heap.size := by rw [hN.ewb]; exact hw2.size
  have hwc := hok.sizes
  have HN := Go.Lib.hid (And.intro hst (And.intro hlk ht))
  have HB3 := Go.Lib.hid hb3
  have HW := Go.Lib.hid hw3
  have HBD := Go.Lib.hid (fun W (h : Below W3.heap.size W3 W) => bound19_calls W F.p A B F.rs F.vs c d hg hn hr hv hri hvl (hA3.below h) (hB3.below h))
  have hbd := bound19_bd F.p hg
  have HF3 := Go.Lib.hid hF3
  clear hmk hb hA2 hB2 hw2 hb3 hA3 hB3 hw3 hst hlk ht hn hr hv hri hvl hF3 hN
  unfold OpS.agg at hcm
  go_wp2_with (first
    | (go_at_call 28; refine hcm.mono ?_; rintro e W4 ⟨b, lg, lk, rfl, hA4, hF4, hB4⟩; have hb4 := HB3.out.below hB4; obtain ⟨p0, p1, p2, p3, p4, p5, p6, p7, p8, p9⟩ := plan_cells hb4))
  obtain ⟨BN, hBN⟩ : ∃ BN : Nat, bound19 F.p = (BN : Int) := ⟨(bound19 F.p).toNat, by omega⟩
  have hbn := HBD.out W4 hB4
  rw [hBN] at hbn hbd
  have HBN := Go.Lib.hid hBN
  unfold Nums.agg at hbn
  clear hBN p0 p1 p2 p3 p4 p5 p6 p7 p8 p9 hb4
  refine hbn.mono ?_
  rintro e W5 ⟨rfl, hB5⟩
  have hA5 := hA4.below hB5
  have hF5 := hF4.below hB5
  obtain ⟨hst, hlk, htm⟩ := HN.out
  have hsh := hg.sh.1
  have hfin := setfwd_calls (b := b) ⟨hA5, hF5, CStep.refl _ _ _ _⟩ (by omega) 1 0 0 rfl rfl rfl rfl rfl rfl (by show (0 : Int) ≤ 9; omega) rfl _ rfl (by omega) (by omega) (by rw [standW0]; exact hst 1 (by show (1 : Int) < _; omega)) (by omega) (by omega) (by omega) (by omega) (hlk 1 (by omega)) BN (by omega) (by omega)
  have c0 : s.cells[0]? = some 0 := hst 0 (by show (0 : Int) < _; omega)
  have l0 : s.locks[0]? = some (-1) := hlk 0 (by omega)
  have hw5 := HW.out.trans ((hB4.trans (hB5.mono hB4.size)).mono HW.out.size)
  have HW5 := Go.Lib.hid hw5
  have hc1 : 1 < s.cells.length := by have := hF5.ncells; omega
  clear hst hlk hA4 hF4 hB4 hA5 hF5 hB5 hw5 hcm hbn
  go_wp2_with fail
  refine hfin.mono ?_
  rintro e W6 ⟨rfl, hat⟩
  have hA6 := hat.act
  have hF6 := hat.fab
  have hans := canswer_calls hA6 rfl _ [] rfl
  have hlog := clog1_calls hA6 _ rfl
  have HA6 := Go.Lib.hid hA6
  have HF6 := Go.Lib.hid hF6
  have HK6 := Go.Lib.hid hat.since.kp
  have HC := Go.Lib.hid (And.intro c0 (And.intro l0 hc1))
  clear hat hfin hA6 hF6 c0 l0 hc1
  go_wp2_with (first
    | (go_at_call 36; refine hans.mono ?_; rintro e w7 ⟨rfl, rfl⟩)
    | (go_at_call 33; refine hlog.mono ?_; rintro e W7 ⟨g7, c7, rfl, hO7, hB7⟩))
  obtain ⟨c0, l0, hc1⟩ := HC.out
  have hF7 := HF6.out.below hB7
  have hs1 := fstand_calls hF7 (Small.add (t := s.time) (by omega) 4 (by omega)) 1 4 1 (by omega) (by omega) (by show (s.cells.set 1 (standW 4 (0 + 1)))[1]? = _; rw [List.getElem?_set_self hc1]; rfl) (by omega) (by omega) (by omega) (by omega)
  have hK7 := (HK6.out.trans (S2 := fun _ => False) (Kp.of_below hB7) (fun _ _ h => h.elim))
  have HK7 := Go.Lib.hid hK7
  have hfld := stand_state
  clear hK7 hO7 hB7 hF7 hans hlog
  refine hs1.mono ?_
  rintro e W8 ⟨rfl, hF8, hK8⟩
  have hs2 := fstand_calls hF8 (by show s.time + 4 + 1 < 4611686018427387904; omega) 0 0 0 (by omega) (by omega) (by show (s.cells.set 1 (standW 4 (0 + 1)))[0]? = _; rw [List.getElem?_set_ne (by omega)]; exact c0) (by omega) (by omega) (by omega) (by omega)
  have HK8 := Go.Lib.hid hK8
  clear hF8 hK8 hs1
  go_wp2_with fail
  refine hs2.mono ?_
  rintro e W9 ⟨rfl, hF9, hK9⟩
  have hl0 : 0 < s.locks.length := (List.getElem?_eq_some_iff.1 l0).1
  have ht1 := ftake_yes hF9 (by show s.time + 4 + 1 + 1 < 4611686018427387904; omega) 0 1 (by omega) (by omega) (by omega) l0
  have HK9 := Go.Lib.hid hK9
  clear hF9 hK9 hs2
  go_wp2_with fail
  refine ht1.mono ?_
  rintro e WA ⟨rfl, hFA, hKA⟩
  have hg1 : (s.locks.set 0 1)[0]? = some 1 := List.getElem?_set_self hl0
  have ht2 := ftake_no hFA (by show s.time + 4 + 1 + 1 + 1 < 4611686018427387904; omega) 0 2 (by omega) (by omega) (by omega) (by show (s.locks.set 0 1)[0]? ≠ some (-1); rw [hg1]; decide)
  have HKA := Go.Lib.hid hKA
  clear hFA hKA ht1
  go_wp2_with fail
  refine ht2.mono ?_
  rintro e WB ⟨rfl, hFB, hKB⟩
  have ht3 := ffree_yes hFB (by show s.time + 4 + 1 + 1 + 1 + 1 < 4611686018427387904; omega) 0 1 (by omega) (by omega) (by omega) hg1
  have HKB := Go.Lib.hid hKB
  clear hFB hKB ht2 hg1
  go_wp2_with fail
  refine ht3.mono ?_
  rintro e WC ⟨rfl, hFC, hKC⟩
  have HKC := Go.Lib.hid hKC
  clear hFC hKC ht3
  go_wp2_with fail
  go_ret
  refine ⟨rfl, ?_⟩
  have hD : ∀ k, k < w.heap.size → F.D k → False := fun k hk e => by have := hok.new e; omega
  have hA : ∀ k, k < w.heap.size → F.a.has k → False := fun k hk e => hD k hk (.inl e)
  have hx := HA6.out
  have hk5 := (Kp.of_below (S := fun _ => False) HW5.out).trans HK7.out (fun k hk e => by
    rcases e with e | e | e | e
    · exact hD k hk e
    · have := hx.base; omega
    · have := (hx.log.lt (k := k) e).1; omega
    · cases e)
  exact (((((hk5.trans HK8.out hA).trans HK9.out hA).trans HKA.out hA).trans HKB.out hA).trans HKC.out hA).toBelow
end Go.Proofs.YtcpaodidpomdaaaGreat

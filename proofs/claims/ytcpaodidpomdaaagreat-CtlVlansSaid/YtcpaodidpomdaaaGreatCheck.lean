/- model.Check: a plan that may be is told so. -/
import Derived.Test.YtcpaodidpomdaaaGreatPlan
import Derived.Deep.LoopGhost
import Derived.Deep.CutRange
set_option linter.unusedVariables false
set_option linter.unusedSimpArgs false
namespace Go.Proofs.YtcpaodidpomdaaaGreat
open Go.RowKit

theorem andNot_zero (a b : Nat) (ha : U64 a) (hb : U64 b) (h : a &&& b = a) : bits .andNot .u64 (a : Int) (b : Int) = 0 := by
  unfold U64 at ha hb
  rw [u64_andNot_nat a b ha hb]
  have e : a &&& (18446744073709551615 - b) = 0 := by
    have e2 : 18446744073709551615 - b = 2 ^ 64 - (b + 1) := by omega
    rw [e2]
    apply Nat.eq_of_testBit_eq
    intro i
    rw [Nat.testBit_and, Nat.testBit_two_pow_sub_succ (by omega), Nat.zero_testBit]
    have hi : (a &&& b).testBit i = a.testBit i := by rw [h]
    rw [Nat.testBit_and] at hi
    cases h1 : a.testBit i <;> cases h2 : b.testBit i <;> simp_all
  rw [e]
  rfl
theorem and_all {m n : Nat} (h : m < pw n) : m &&& (pw n - 1) = m := by
  unfold pw at *
  rw [Nat.and_two_pow_sub_one_eq_mod, Nat.mod_eq_of_lt h]

theorem vall_calls (w : World) (n : Int) (h1 : 1 ≤ n) (h2 : n ≤ 8) :
    Calls Tryz.prog 174 #[.int .i64 n] w fun e w' => e = .returned (.int .u64 ((pw n.toNat - 1 : Nat) : Int)) ∧ w = w' := by
  go_enter Tryz.func174, Tryz.ntmps174
  go_wp2
  go_ret
  have e : IntKind.u64.wrap (IntKind.u64.wrap (2 ^ n.toNat) - 1) = ((pw n.toNat - 1 : Nat) : Int) := by
    have h3 := pw_pos n.toNat
    have h4 := pw_lt (show n.toNat < 64 by omega)
    have h5 : (2 : Int) ^ n.toNat = ((pw n.toNat : Nat) : Int) := by unfold pw; exact (Int.natCast_pow 2 n.toNat).symm
    rw [h5]
    generalize pw n.toNat = u at *
    rw [IntWalk.u64_in (u : Int) (by omega), IntWalk.u64_in _ (by omega)]
    omega
  exact ⟨ret_int e, rfl⟩

theorem vmay_calls (w : World) (v : Int) (h1 : 1 ≤ v) (h2 : v ≤ 4094) :
    Calls Tryz.prog 202 #[.int .i64 v] w fun e w' => e = .returned (.bool true) ∧ w = w' := by
  go_enter Tryz.func202, Tryz.ntmps202
  go_wp2
  go_ret
  exact ⟨rfl, rfl⟩

theorem lastVid_take (a : Int) (l : List Vl) (k : Nat) (v : Vl) (h : l[k]? = some v) (hr : Rising a l) : lastVid a (l.take k) < v.vid ∧ lastVid a (l.take (k + 1)) = v.vid := by
  induction l generalizing a k with
  | nil => simp at h
  | cons x l ih =>
    cases k with
    | zero => simp at h; subst h; exact ⟨hr.1, rfl⟩
    | succ k =>
      simp at h
      exact ih x.vid k h hr.2

/-- VLANs' cells, as the program has them. -/
theorem vcheck_calls (w : World) (A : Option Addr) (vs : List Vl) (c : Nat) (n : Int) (h1 : 2 ≤ n) (h2 : n ≤ 8) (hR : Rd w A (vlCells vs)) (hlen : vs.length ≤ 8) (hok : ∀ v ∈ vs, Vl.Ok n.toNat v) (hr : Rising 0 vs) :
    Calls Tryz.prog 144 #[.slice A vs.length c, .int .i64 n] w fun e w' => e = .returned (.int .i64 0) ∧ Below w.heap.size w w' := by
  have hl : (vs.length : Int) ≤ 16 := by omega
  have H0 := Below.refl w.heap.size w
  have HR := Go.Lib.hid hr
  have HOK := Go.Lib.hid hok
  clear hr hok
  go_enter Tryz.func144, Tryz.ntmps144
  go_wp2_with fail
  go_loopg [5, 7, 21, 25, 36, 43] vs.length (fun d s5 _ i _ _ _ wr => ∃ k : Nat, k + d = vs.length ∧ i = .int .i64 k ∧ s5 = .int .i64 (lastVid 0 (vs.take k)) ∧ Below w.heap.size w wr)
  case atStart => exact ⟨0, by omega, rfl, rfl, H0⟩
  case round =>
    obtain ⟨k, hk, rfl, rfl, hB⟩ := hrel
    by_cases hlt : k < vs.length
    · obtain ⟨v, hv⟩ := get_of_lt hlt
      obtain ⟨q1, q2⟩ := lastVid_take 0 vs k v hv HR.out
      have ok := HOK.out v (List.mem_of_getElem? hv)
      obtain ⟨k1, k2, k3⟩ := vlCells_get vs _ v hv
      obtain ⟨ba, oa, hA1, m1⟩ := hR.out _ _ k1
      obtain ⟨ba', oa', hA2, m2⟩ := hR.out _ _ k2
      obtain ⟨ba'', oa'', hA3, m3⟩ := hR.out _ _ k3
      rw [hA1] at hA2 hA3
      obtain ⟨rfl, rfl⟩ : ba' = ba ∧ oa' = oa := by
        injection hA2 with h
        injection h with h3 h4
        exact ⟨h3.symm, h4.symm⟩
      obtain ⟨rfl, rfl⟩ : ba'' = ba' ∧ oa'' = oa' := by
        injection hA3 with h
        injection h with h3 h4
        exact ⟨h3.symm, h4.symm⟩
      subst hA1
      rw [← Nat.add_assoc] at m2 m3
      have lt0 : ba'' < w.heap.size := World.block_lt_of_cell? w _ m1
      have hz := hB.size
      have lt1 : ba'' < wr.heap.size := by omega
      have M1 : wr.cell? ⟨ba'', oa'' + k * 3, none⟩ = some (.int .i64 v.vid) := (hB.cell (p := ⟨ba'', oa'' + k * 3, none⟩) lt0).trans m1
      have M2 : wr.cell? ⟨ba'', oa'' + k * 3 + 1, none⟩ = some (.int .u64 (v.mem : Int)) := (hB.cell (p := ⟨ba'', oa'' + k * 3 + 1, none⟩) lt0).trans m2
      have M3 : wr.cell? ⟨ba'', oa'' + k * 3 + 2, none⟩ = some (.int .u64 (v.unt : Int)) := (hB.cell (p := ⟨ba'', oa'' + k * 3 + 2, none⟩) lt0).trans m3
      have g1 := ok.vid.1
      have g2 := ok.vid.2
      have hp := pw_le (show n.toNat ≤ 63 by omega)
      rw [pw_63] at hp
      have hm := ok.mem
      have hum : v.unt ≤ v.mem := by rw [← ok.unt]; exact Nat.and_le_right
      have B1 : bits .andNot .u64 (v.mem : Int) ((pw n.toNat - 1 : Nat) : Int) = 0 := andNot_zero _ _ (by unfold U64; omega) (by unfold U64; omega) (and_all hm)
      have B2 : bits .andNot .u64 (v.unt : Int) (v.mem : Int) = 0 := andNot_zero _ _ (by unfold U64; omega) (by unfold U64; omega) ok.unt
      have hvl : v.vid ≤ 4094 := by omega
      have hB2 := hB.alloc (by omega) (.cells #[.int .i64 v.vid, .int .u64 (v.mem : Int), .int .u64 (v.unt : Int)] 182)
      have HB2 := Go.Lib.hid hB2
      have HQ := Go.Lib.hid q2
      have HK := Go.Lib.hid hk
      have lk : (k : Int) < (vs.length : Int) := by omega
      have hg : 0 < gk := by omega
      have hva := vall_calls
      clear hB2 q2 hk hA2 hA3 k1 k2 k3 hv m1 m2 m3 hum hm hp ok
      go_wp2_with (first | (go_at_call 202; refine (vmay_calls _ _ g1 hvl).mono ?_; rintro e w' ⟨rfl, rfl⟩))
      go_quiet ((go_at_call 174; exact quiet_eq (vall_calls _ n (by omega) h2)))
      go_wp2_with fail
      go_roundg (gk - 1)
      case measure => omega
      case rel => exact ⟨k + 1, by have := HK.out; omega, by simp, by rw [HQ.out], Below.drawn HB2.out _⟩
    · have e : k = vs.length := by omega
      have hge : (vs.length : Int) ≤ (k : Int) := by omega
      clear e hlt
      go_wp2_with fail
      go_ret
      exact ⟨rfl, hB⟩

theorem vright_calls (w : World) (r : Rule) (h : r.Right) :
    Calls Tryz.prog 146 #[.agg #[.int .i64 r.pvid, .int .i64 r.accept]] w fun e w' => e = .returned (.bool true) ∧ Below w.heap.size w w' := by
  have h1 := h.pvid.1
  have h2 := h.pvid.2
  have h3 := h.accept.1
  have h4 := h.accept.2
  have hB := (Below.refl w.heap.size w).alloc (Nat.le_refl _) (.cells #[.int .i64 r.pvid, .int .i64 r.accept] 187)
  clear h
  go_enter Tryz.func146, Tryz.ntmps146
  go_wp2_with (go_at_call 202; refine (vmay_calls _ _ h1 h2).mono ?_; rintro e w' ⟨rfl, rfl⟩)
  go_ret
  exact ⟨rfl, hB⟩

/-- 'wrong' of model.Check, at a rule that may be. -/
theorem wrong_calls (w : World) (r : Rule) (h : r.Right) :
    Calls Tryz.prog 145 #[.agg #[.int .i64 r.pvid, .int .i64 r.accept]] w fun e w' => e = .returned (.bool false) ∧ Below w.heap.size w w' := by
  have hv := vright_calls (w.alloc (.cells #[.int .i64 r.pvid, .int .i64 r.accept] 187)) r h
  have hB := (Below.refl w.heap.size w).alloc (Nat.le_refl _) (.cells #[.int .i64 r.pvid, .int .i64 r.accept] 187)
  go_enter Tryz.func145, Tryz.ntmps145
  go_wp2_with (go_at_call 146; refine hv.mono ?_; rintro e w' ⟨rfl, hB1⟩)
  go_ret
  exact ⟨rfl, hB.trans (hB1.mono (by simp))⟩

theorem ruleIndex_calls (w : World) (A : Option Addr) (rs : List Rule) (c : Nat) (hR : Rd w A (ruleCells rs)) (hlen : rs.length ≤ 8) (hok : ∀ r ∈ rs, r.Right) :
    Calls Tryz.prog 203 #[.slice A rs.length c, fnv 145] w fun e w' => e = .returned (.int .i64 (-1)) ∧ Below w.heap.size w w' := by
  have H0 := Below.refl w.heap.size w
  have HOK := Go.Lib.hid hok
  clear hok
  go_enter Tryz.func203, Tryz.ntmps203
  go_wp2_with fail
  go_loopg [5, 8] rs.length (fun d _ i wr => ∃ k : Nat, k + d = rs.length ∧ i = .int .i64 k ∧ Below w.heap.size w wr)
  case atStart => exact ⟨0, by omega, rfl, H0⟩
  case round =>
    obtain ⟨k, hk, rfl, hB⟩ := hrel
    by_cases hlt : k < rs.length
    · obtain ⟨v, hv⟩ := get_of_lt hlt
      have ok := HOK.out v (List.mem_of_getElem? hv)
      obtain ⟨k1, k2⟩ := ruleCells_get rs _ v hv
      obtain ⟨ba, oa, hA1, m1⟩ := hR.out _ _ k1
      obtain ⟨ba', oa', hA2, m2⟩ := hR.out _ _ k2
      rw [hA1] at hA2
      obtain ⟨rfl, rfl⟩ : ba' = ba ∧ oa' = oa := by
        injection hA2 with h
        injection h with h3 h4
        exact ⟨h3.symm, h4.symm⟩
      subst hA1
      rw [← Nat.add_assoc] at m2
      have lt0 : ba' < w.heap.size := World.block_lt_of_cell? w _ m1
      have hz := hB.size
      have M1 : wr.cell? ⟨ba', oa' + k * 2, none⟩ = some (.int .i64 v.pvid) := (hB.cell (p := ⟨ba', oa' + k * 2, none⟩) lt0).trans m1
      have M2 : wr.cell? ⟨ba', oa' + k * 2 + 1, none⟩ = some (.int .i64 v.accept) := (hB.cell (p := ⟨ba', oa' + k * 2 + 1, none⟩) lt0).trans m2
      have lk : (k : Int) < (rs.length : Int) := by omega
      have hg : 0 < gk := by omega
      have HK := Go.Lib.hid hk
      have HB := Go.Lib.hid hB
      have hw := wrong_calls wr v ok
      clear hk hA2 k1 k2 hv m1 m2 hB ok
      go_wp2_with (go_at_call 145; refine hw.mono ?_; rintro e w' ⟨rfl, hB1⟩)
      go_roundg (gk - 1)
      case measure => omega
      case rel => exact ⟨k + 1, by have := HK.out; omega, by simp, HB.out.trans (hB1.mono hz)⟩
    · have hge : (rs.length : Int) ≤ (k : Int) := by omega
      clear hlt
      go_wp2_with fail
      go_ret
      exact ⟨rfl, hB⟩

theorem bookRight_calls (w : World) (a b c : Int) (h : (1 ≤ a ∧ a ≤ 8) ∧ (1 ≤ b ∧ b ≤ 16) ∧ (1 ≤ c ∧ c ≤ 8)) :
    Calls Tryz.prog 148 #[.agg #[.int .i64 a, .int .i64 b, .int .i64 c]] w fun e w' => e = .returned (.bool true) ∧ w.alloc (.cells #[.int .i64 a, .int .i64 b, .int .i64 c] 105) = w' := by
  obtain ⟨⟨h1, h2⟩, ⟨h3, h4⟩, ⟨h5, h6⟩⟩ := h
  go_enter Tryz.func148, Tryz.ntmps148
  go_wp2
  go_ret
  exact ⟨rfl, rfl⟩

set_option maxHeartbeats 1000000 in
theorem check_calls (w : World) (p : Nums) (A B : Option Addr) (rs : List Rule) (vs : List Vl) (c d : Nat) (hg : p.Good) (hn : (rs.length : Int) = p.ports) (hr : ∀ r ∈ rs, r.Right) (hv : ∀ v ∈ vs, Vl.Ok p.ports.toNat v) (hri : Rising 0 vs) (hvl : vs.length ≤ 8)
    (hA : Rd w A (ruleCells rs)) (hB : Rd w B (vlCells vs)) :
    Calls Tryz.prog 95 #[p.agg (.slice A rs.length c) (.slice B vs.length d)] w fun e w' => e = .returned (.int .i64 0) ∧ Below w.heap.size w w' := by
  have hp := hg.ports
  have hz := (Below.refl w.heap.size w).alloc (Nat.le_refl _) (.cells (p.cells (.slice A rs.length c) (.slice B vs.length d)).toArray 107)
  have hb := Blk.new w (p.cells (.slice A rs.length c) (.slice B vs.length d)) 107
  have hvc := vcheck_calls _ B vs d p.ports hp.1 hp.2 (hB.below hz) hvl hv hri
  have hri2 := fun w1 (h : Below w.heap.size w w1) => ruleIndex_calls w1 A rs c (hA.below h) (by omega) hr
  have hbk := fun W => bookRight_calls W p.sh p.bu p.sl ⟨hg.sh, hg.bu, hg.sl⟩
  have g1 := hg.tries.1
  have g2 := hg.tries.2
  have g3 := hg.ring.1
  have g4 := hg.ring.2
  unfold Nums.agg
  unfold Nums.cells at hz hb hvc
  have hne : ((rs.length : Int) != p.ports) = false := by rw [hn]; simp
  clear hn
  have HR2 := Go.Lib.hid hri2
  have HBK := Go.Lib.hid hbk
  clear hri2 hbk hr hv
  go_enter Tryz.func95, Tryz.ntmps95
  go_wp2_with fail
  generalize (w.alloc _) = W at *
  refine hvc.mono ?_
  rintro e w1 ⟨rfl, hB1⟩
  have hB2 := hz.trans (hB1.mono hz.size)
  have hb1 := hb.below hB1
  obtain ⟨p0, p1, p2, p3, p4, p5, p6, p7, p8, p9⟩ := plan_cells (p := p) (r := .slice A rs.length c) (v := .slice B vs.length d) hb1
  have hidx := HR2.out w1 hB2
  clear hvc hz hb HR2
  go_wp2_with (first | (go_at_call 203; refine hidx.mono ?_; rintro e w2 ⟨rfl, hB3⟩; have hb2 := hb1.below hB3; obtain ⟨q0, q1, q2, q3, q4, q5, q6, q7, q8, q9⟩ := plan_cells (p := p) (r := .slice A rs.length c) (v := .slice B vs.length d) hb2; have lt2 := hb2.lt; have HB4 := Go.Lib.hid (hB2.trans (hB3.mono hB2.size)); clear hB3 hB1 hb1 hb2) | (go_at_call 148; refine (HBK.out _).mono ?_; rintro e w3 ⟨rfl, rfl⟩) | go_in)
  go_ret
  exact ⟨rfl, HB4.out.alloc (by omega) _⟩
end Go.Proofs.YtcpaodidpomdaaaGreat

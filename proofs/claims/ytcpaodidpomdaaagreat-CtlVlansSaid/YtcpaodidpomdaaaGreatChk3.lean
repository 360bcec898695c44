/- patchbayref03.Check of VLANs that may be. -/
import Derived.Test.YtcpaodidpomdaaaGreatFab0
import Derived.Test.YtcpaodidpomdaaaGreatFix
set_option linter.unusedVariables false
set_option linter.unusedSimpArgs false
set_option maxRecDepth 100000
namespace Go.Proofs.YtcpaodidpomdaaaGreat
open Go.RowKit

theorem within_calls (w : World) (a c : Nat) (ha : U64 a) (hc : U64 c) (h : a &&& c = a) :
    Calls Tryz.prog 143 #[.int .u64 a, .int .u64 c] w fun e w' => e = .returned (.bool true) ∧ w = w' := by
  have hs : ∀ k, inS a k = true → inS c k = true := fun k hk => by
    have := inS_and a c k
    rw [h, hk] at this
    simpa using this.symm
  have HS := Go.Lib.hid hs
  clear hs h
  go_enter Tryz.func143, Tryz.ntmps143
  go_wp2_with fail
  go_loop [5] (fun i => ∃ k : Nat, k ≤ 64 ∧ i = .int .i64 k) (fun i => 64 - (intOf i).toNat)
  case atStart => exact ⟨0, by omega, rfl⟩
  case round =>
    obtain ⟨k, hk, rfl⟩ := hrel
    by_cases hlt : k < 64
    · have hk1 : (k : Int) < 64 := by omega
      have hA := fun W => has_calls W a k ha hlt
      have hC := fun W => has_calls W c k hc hlt
      cases hin : inS a k with
      | false =>
        rw [hin] at hA
        clear hin
        go_wp2_with (go_at_call_of 39 (Value.int .u64 (a : Int)); refine (hA _).mono ?_; rintro e w' ⟨rfl, rfl⟩)
        go_round
        case rel => exact ⟨k + 1, by omega, by go_num⟩
        case measure => simp [intOf]; omega
      | true =>
        have h2 := HS.out k hin
        rw [hin] at hA
        rw [h2] at hC
        clear hin h2
        go_wp2_with (first | (go_at_call_of 39 (Value.int .u64 (a : Int)); refine (hA _).mono ?_; rintro e w' ⟨rfl, rfl⟩) | (go_at_call_of 39 (Value.int .u64 (c : Int)); refine (hC _).mono ?_; rintro e w' ⟨rfl, rfl⟩))
        go_round
        case rel => exact ⟨k + 1, by omega, by go_num⟩
        case measure => simp [intOf]; omega
    · obtain rfl : k = 64 := by omega
      clear hlt hk
      go_wp2_with fail
      go_ret
      exact ⟨rfl, rfl⟩
theorem drewFacts {W : World} {a b c : Addr} {x y z : Value} (h1 : W.cell? a = some x) (h2 : W.cell? b = some y) (h3 : W.cell? c = some z) : W.drew.cell? a = some x ∧ W.drew.cell? b = some y ∧ W.drew.cell? c = some z := ⟨h1, h2, h3⟩
set_option maxHeartbeats 1000000 in
theorem r3check_calls (w : World) (A : Option Addr) (vs : List Vl) (c : Nat) (n : Int) (h1 : 2 ≤ n) (h2 : n ≤ 8) (hR : Rd w A (vlCells vs)) (hlen : vs.length ≤ 8) (hok : ∀ v ∈ vs, Vl.Ok n.toNat v) (hr : Rising 0 vs) :
    Calls Tryz.prog 92 #[.slice A vs.length c, .int .i64 n] w fun e w' => e = .returned (.int .i64 0) ∧ Below w.heap.size w w' := by
  have hl : (vs.length : Int) ≤ 16 := by omega
  have H0 := Below.refl w.heap.size w
  have HR := Go.Lib.hid hr
  have HOK := Go.Lib.hid hok
  clear hr hok
  go_enter Tryz.func92, Tryz.ntmps92
  go_wp2_with fail
  go_loopg [5] vs.length (fun d i wr => ∃ k : Nat, k + d = vs.length ∧ i = .int .i64 k ∧ Below w.heap.size w wr)
  case atStart => exact ⟨0, by omega, rfl, H0⟩
  case round =>
    obtain ⟨k, hk, rfl, hB⟩ := hrel
    by_cases hlt : k < vs.length
    · obtain ⟨v, hv⟩ := get_of_lt hlt
      obtain ⟨q1, q2⟩ := lastVid_take 0 vs k v hv HR.out
      have ok := HOK.out v (List.mem_of_getElem? hv)
      obtain ⟨k1, k2, k3⟩ := vlCells_get vs _ v hv
      obtain ⟨ba, oa, hA1, m1⟩ := hR.out _ _ k1
      obtain ⟨ba', oa', hA2, m2⟩ := hR.out _ _ k2
      obtain ⟨ba'', oa'', hA3, m3⟩ := hR.out _ _ k3
      rw [hA1] at hA2 hA3
      obtain ⟨rfl, rfl⟩ : ba' = ba ∧ oa' = oa := by
        injection hA2 with h
        injection h with h3 h4
        exact ⟨h3.symm, h4.symm⟩
      obtain ⟨rfl, rfl⟩ : ba'' = ba' ∧ oa'' = oa' := by
        injection hA3 with h
        injection h with h3 h4
        exact ⟨h3.symm, h4.symm⟩
      subst hA1
      rw [← Nat.add_assoc] at m2 m3
      have lt0 : ba'' < w.heap.size := World.block_lt_of_cell? w _ m1
      have hz := hB.size
      have M1 : wr.cell? ⟨ba'', oa'' + k * 3, none⟩ = some (.int .i64 v.vid) := (hB.cell (p := ⟨ba'', oa'' + k * 3, none⟩) lt0).trans m1
      have M2 : wr.cell? ⟨ba'', oa'' + k * 3 + 1, none⟩ = some (.int .u64 (v.mem : Int)) := (hB.cell (p := ⟨ba'', oa'' + k * 3 + 1, none⟩) lt0).trans m2
      have M3 : wr.cell? ⟨ba'', oa'' + k * 3 + 2, none⟩ = some (.int .u64 (v.unt : Int)) := (hB.cell (p := ⟨ba'', oa'' + k * 3 + 2, none⟩) lt0).trans m3
      have g1 := ok.vid.1
      have g2 : v.vid ≤ 4094 := by have := ok.vid.2; omega
      have hp := pw_le (show n.toNat ≤ 63 by omega)
      rw [pw_63] at hp
      have hm := ok.mem
      have hum : v.unt ≤ v.mem := by rw [← ok.unt]; exact Nat.and_le_right
      have hwa := fun W => within_calls W v.mem (pw n.toNat - 1) (by unfold U64; omega) (by unfold U64; omega) (and_all hm)
      have hwb := fun W => within_calls W v.unt v.mem (by unfold U64; omega) (by unfold U64; omega) ok.unt
      have hall := fun W => allI_calls W n (by omega) (by omega)
      have HWB := Go.Lib.hid hwb
      have HWA := Go.Lib.hid hwa
      have HALL := Go.Lib.hid hall
      have HB2 := Go.Lib.hid hB
      have HK := Go.Lib.hid hk
      have lk : (k : Int) < (vs.length : Int) := by omega
      have hg : 0 < gk := by omega
      have hprev : 0 < k → ∃ u : Vl, u.vid < v.vid ∧ wr.cell? ⟨ba'', oa'' + (k - 1) * 3, none⟩ = some (.int .i64 u.vid) := fun hk0 => by
        obtain ⟨u, hu⟩ := get_of_lt (l := vs) (i := k - 1) (by omega)
        obtain ⟨j1, _, _⟩ := vlCells_get vs _ u hu
        obtain ⟨b2, o2, e2, n1⟩ := hR.out _ _ j1
        cases e2
        refine ⟨u, ?_, (hB.cell (p := ⟨ba'', oa'' + (k - 1) * 3, none⟩) lt0).trans n1⟩
        have h3 := (lastVid_take 0 vs (k - 1) u hu HR.out).2
        rw [show k - 1 + 1 = k by omega] at h3
        omega
      clear hB hk hA2 hA3 k1 k2 k3 hv m1 m2 m3 hum hm hp ok q1 q2 hwa hwb hall
      have hd1 : decide (v.vid < 1) = false := by simp; omega
      have hd2 : decide (4094 < v.vid) = false := by simp; omega
      by_cases hk0 : 0 < k
      · obtain ⟨u, hu, N1⟩ := hprev hk0
        have hk1 : (0 : Int) < (k : Int) := by omega
        have hw1 : IntKind.i64.wrap ((k : Int) - 1) = (k : Int) - 1 := IntWalk.i64_in _ (by omega)
        have ht1 : ((k : Int) - 1).toNat = k - 1 := by omega
        have hk2 : 0 ≤ (k : Int) - 1 := by omega
        have hk3 : 1 ≤ (k : Int) := by omega
        have hk4 : (k : Int) - 1 < (vs.length : Int) := by omega
        clear hprev
        go_wp2_with fail
        go_quiet (fail)
        clear hw1 ht1 hk2 hk3 hk4 N1
        generalize hW1 : World.drewN wr _ = W1
        have E1 : W1.cell? ⟨ba'', oa'' + k * 3, none⟩ = some (.int .i64 v.vid) := by rw [← hW1]; exact M1
        have E2 : W1.cell? ⟨ba'', oa'' + k * 3 + 1, none⟩ = some (.int .u64 (v.mem : Int)) := by rw [← hW1]; exact M2
        have E3 : W1.cell? ⟨ba'', oa'' + k * 3 + 2, none⟩ = some (.int .u64 (v.unt : Int)) := by rw [← hW1]; exact M3
        have hB3 : Below w.heap.size w W1 := by rw [← hW1]; exact Below.drawn HB2.out _
        have HB3 := Go.Lib.hid hB3
        clear hB3
        clear hW1 M1 M2 M3
        go_wp2_with fail
        go_quiet (first | (go_at_call 59; exact quiet_eq (HALL.out _)) | (go_at_call 143; exact quiet_eq (HWA.out _)))
        generalize hW2 : World.drewN W1 _ = W2
        have D1 : W2.cell? ⟨ba'', oa'' + k * 3, none⟩ = some (.int .i64 v.vid) := by rw [← hW2]; exact E1
        have D2 : W2.cell? ⟨ba'', oa'' + k * 3 + 1, none⟩ = some (.int .u64 (v.mem : Int)) := by rw [← hW2]; exact E2
        have D3 : W2.cell? ⟨ba'', oa'' + k * 3 + 2, none⟩ = some (.int .u64 (v.unt : Int)) := by rw [← hW2]; exact E3
        have hB4 : Below w.heap.size w W2 := by rw [← hW2]; exact Below.drawn HB3.out _
        have HB4 := Go.Lib.hid hB4
        clear hB4
        clear hW2 E1 E2 E3
        go_wp2_with fail
        go_quiet ((go_at_call 143; exact quiet_eq (HWB.out _)))
        have HB5 := Go.Lib.hid (fun m => Below.drawn HB4.out m)
        go_wp2_with fail
        go_roundg (gk - 1)
        case measure => omega
        case rel => exact ⟨k + 1, by have := HK.out; omega, by go_num, HB5.out _⟩
      · obtain rfl : k = 0 := by omega
        replace M1 : wr.cell? ⟨ba'', oa'', none⟩ = some (.int .i64 v.vid) := M1
        replace M2 : wr.cell? ⟨ba'', oa'' + 1, none⟩ = some (.int .u64 (v.mem : Int)) := by have := M2; rwa [Nat.zero_mul, Nat.add_zero] at this
        replace M3 : wr.cell? ⟨ba'', oa'' + 2, none⟩ = some (.int .u64 (v.unt : Int)) := by have := M3; rwa [Nat.zero_mul, Nat.add_zero] at this
        clear hprev hk0
        go_wp2_with fail
        go_quiet (fail)
        generalize hW1 : World.drewN wr _ = W1
        have E1 : W1.cell? ⟨ba'', oa'', none⟩ = some (.int .i64 v.vid) := by rw [← hW1]; exact M1
        have E2 : W1.cell? ⟨ba'', oa'' + 1, none⟩ = some (.int .u64 (v.mem : Int)) := by rw [← hW1]; exact M2
        have E3 : W1.cell? ⟨ba'', oa'' + 2, none⟩ = some (.int .u64 (v.unt : Int)) := by rw [← hW1]; exact M3
        have hB3 : Below w.heap.size w W1 := by rw [← hW1]; exact Below.drawn HB2.out _
        have HB3 := Go.Lib.hid hB3
        clear hB3
        clear hW1 M1 M2 M3
        go_wp2_with fail
        go_quiet (first | (go_at_call 59; exact quiet_eq (HALL.out _)) | (go_at_call 143; exact quiet_eq (HWA.out _)))
        generalize hW2 : World.drewN W1 _ = W2
        have D1 : W2.cell? ⟨ba'', oa'', none⟩ = some (.int .i64 v.vid) := by rw [← hW2]; exact E1
        have D2 : W2.cell? ⟨ba'', oa'' + 1, none⟩ = some (.int .u64 (v.mem : Int)) := by rw [← hW2]; exact E2
        have D3 : W2.cell? ⟨ba'', oa'' + 2, none⟩ = some (.int .u64 (v.unt : Int)) := by rw [← hW2]; exact E3
        have hB4 : Below w.heap.size w W2 := by rw [← hW2]; exact Below.drawn HB3.out _
        have HB4 := Go.Lib.hid hB4
        clear hB4
        clear hW2 E1 E2 E3
        go_wp2_with fail
        go_quiet ((go_at_call 143; exact quiet_eq (HWB.out _)))
        have HB5 := Go.Lib.hid (fun m => Below.drawn HB4.out m)
        go_wp2_with fail
        go_roundg (gk - 1)
        case measure => omega
        case rel => exact ⟨1, by have := HK.out; omega, by go_num, HB5.out _⟩
    · have e : k = vs.length := by omega
      have hge : (vs.length : Int) ≤ (k : Int) := by omega
      clear e hlt
      go_wp2_with fail
      go_ret
      exact ⟨rfl, hB⟩

end Go.Proofs.YtcpaodidpomdaaaGreat

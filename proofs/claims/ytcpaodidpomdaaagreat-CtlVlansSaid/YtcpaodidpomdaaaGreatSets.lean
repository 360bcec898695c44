/- Sets of ports as numbers: the document's functions on them (packages patchbayref03, patchbayref11), and the program's (vlan). -/
import Derived.Test.YtcpaodidpomdaaaGreatHeap
import Derived.Test.YtcpaodidpomdaaaGreatProg
import Derived.Outline
import Derived.WalkSpells
import Derived.WalkLawsBesides
import Derived.LoopTactic
import Derived.IntWalk
import Derived.Lib.Hide
import Derived.RegionTactic
import Derived.Deep.DeepCutAuto
import Derived.Deep.RegionHeld3
import Derived.Deep.QuietTactic
import Derived.BigQuiet
import Derived.Laws.BitsAllLaws
import Derived.Laws.ShiftsVar
set_option linter.unusedVariables false
set_option linter.unusedSimpArgs false
namespace Go.Proofs.YtcpaodidpomdaaaGreat
open Go.RowKit

/-- 2 to the p: a name that the walk doesn't open. -/
def pw (p : Nat) : Nat := 2 ^ p
theorem pw_pos (p : Nat) : 1 ≤ pw p := Nat.one_le_two_pow
theorem pw_succ (p : Nat) : pw (p + 1) = pw p * 2 := by simp [pw, Nat.pow_succ]
theorem pw_le {p q : Nat} (h : p ≤ q) : pw p ≤ pw q := Nat.pow_le_pow_right (by omega) h
theorem pw_63 : pw 63 = 9223372036854775808 := by simp [pw]
theorem pw_64 : pw 64 = 18446744073709551616 := by simp [pw]
theorem pw_lt {p : Nat} (h : p < 64) : pw p ≤ 9223372036854775808 := by
  have := pw_le (show p ≤ 63 by omega)
  rw [pw_63] at this
  exact this
/-- A number of 64 bits. -/
def U64 (s : Nat) : Prop := s < 18446744073709551616

theorem bit_calls (w : World) (p : Nat) (hp : p < 64) :
    Calls Tryz.prog 85 #[.int .i64 p] w fun e w' => e = .returned (.int .u64 (pw p)) ∧ w = w' := by
  go_enter Tryz.func85, Tryz.ntmps85
  go_wp2_with fail
  go_loop [3, 4] (fun n i => ∃ k : Nat, k ≤ p ∧ i = .int .i64 k ∧ n = .int .u64 (pw k)) (fun _ i => p - (intOf i).toNat)
  case atStart => exact ⟨0, Nat.zero_le _, rfl, rfl⟩
  case round =>
    obtain ⟨k, hk, rfl, rfl⟩ := hrel
    by_cases hlt : k < p
    · have hle := pw_lt (show k + 1 < 64 by omega)
      rw [pw_succ] at hle
      have hb : ((pw k : Nat) : Int) * 2 ≤ 9223372036854775808 := by omega
      have h0 : (0 : Int) ≤ (pw k : Int) := by omega
      go_wp2
      go_round
      case rel => exact ⟨k + 1, by omega, by go_num, by rw [pw_succ]; go_num⟩
      case measure => simp [intOf]; omega
    · have : k = p := by omega
      subst this
      go_wp2
      go_ret
      exact ⟨rfl, rfl⟩

/-- Is p in the set s? A name that the walk doesn't open. -/
def inS (s : Nat) (p : Nat) : Bool := s.testBit p
theorem has_word (s p : Nat) (hs : U64 s) : ((IntKind.u64.wrap ((s : Int) / (pw p : Int))).tmod 2 == 1) = inS s p := by
  unfold U64 at hs
  have h1 : s / pw p ≤ s := Nat.div_le_self _ _
  have e : (s : Int) / (pw p : Int) = ((s / pw p : Nat) : Int) := (Int.natCast_ediv _ _).symm
  unfold inS
  rw [Nat.testBit_eq_decide_div_mod_eq, show s / 2 ^ p = s / pw p from rfl, e]
  clear e
  generalize s / pw p = q at h1 ⊢
  rw [IntWalk.u64_in _ (by omega), Int.tmod_eq_emod_of_nonneg (by omega), Bool.eq_iff_iff]
  simp
  omega
theorem ret_bool {a b : Bool} (h : a = b) : Ending.returned (.bool a) = .returned (.bool b) := by rw [h]
theorem ret_int {k : IntKind} {a b : Int} (h : a = b) : Ending.returned (.int k a) = .returned (.int k b) := by rw [h]

theorem has_calls (w : World) (s p : Nat) (hs : U64 s) (hp : p < 64) :
    Calls Tryz.prog 39 #[.int .u64 s, .int .i64 p] w fun e w' => e = .returned (.bool (inS s p)) ∧ w = w' := by
  have h1 := pw_pos p
  have h2 := pw_lt hp
  unfold U64 at hs
  have b1 : (1 : Int) ≤ (pw p : Int) := by omega
  have b2 : (0 : Int) ≤ (s : Int) := by omega
  have b3 : (s : Int) ≤ 18446744073709551615 := by omega
  have b4 : (p : Int) < 64 := by omega
  have b5 : (0 : Int) ≤ (p : Int) := by omega
  go_enter Tryz.func39, Tryz.ntmps39
  go_wp2_with (go_at_call 85; refine (bit_calls _ p hp).mono ?_; rintro e w' ⟨rfl, rfl⟩)
  go_ret
  exact ⟨ret_bool (has_word s p hs), rfl⟩

theorem inS_false_of_lt {s p : Nat} (h : s < pw p) : inS s p = false := Nat.testBit_lt_two_pow h

/-- A port behind all of a set is put into it. -/
theorem with_calls (w : World) (s p : Nat) (hs : s < pw p) (hp : p < 64) :
    Calls Tryz.prog 60 #[.int .u64 s, .int .i64 p] w fun e w' => e = .returned (.int .u64 ((s + pw p : Nat) : Int)) ∧ w = w' := by
  have h2 := pw_lt hp
  have b4 : (p : Int) < 64 := by omega
  have b5 : (0 : Int) ≤ (p : Int) := by omega
  have b6 : (p : Int) ≤ 63 := by omega
  have hu : U64 s := by unfold U64; omega
  have hc := inS_false_of_lt hs
  have b7 : (s : Int) + (pw p : Int) ≤ 18446744073709551615 := by omega
  have b8 : (0 : Int) ≤ (s : Int) + (pw p : Int) := by omega
  go_enter Tryz.func60, Tryz.ntmps60
  go_wp2_with (first | (go_at_call 39; refine (has_calls _ s p hu hp).mono ?_; rintro e w' ⟨rfl, rfl⟩) | (go_at_call 85; refine (bit_calls _ p hp).mono ?_; rintro e w' ⟨rfl, rfl⟩))
  go_ret
  exact ⟨ret_int (by simp), rfl⟩

/-- All of so many ports: one less than the power. -/
theorem all_calls (w : World) (n : Nat) (hn : n < 64) :
    Calls Tryz.prog 59 #[.int .i64 n] w fun e w' => e = .returned (.int .u64 ((pw n - 1 : Nat) : Int)) ∧ w = w' := by
  go_enter Tryz.func59, Tryz.ntmps59
  go_wp2_with fail
  go_loop [3, 4] (fun s i => ∃ k : Nat, k ≤ n ∧ i = .int .i64 k ∧ s = .int .u64 ((pw k - 1 : Nat) : Int)) (fun _ i => n - (intOf i).toNat)
  case atStart => exact ⟨0, Nat.zero_le _, rfl, rfl⟩
  case round =>
    obtain ⟨k, hk, rfl, rfl⟩ := hrel
    have h1 := pw_pos k
    by_cases hlt : k < n
    · have b1 : (k : Int) < 64 := by omega
      have e1 : pw k - 1 + pw k = pw (k + 1) - 1 := by rw [pw_succ]; omega
      have hw := fun W => with_calls W (pw k - 1) k (by omega) (by omega)
      rw [e1] at hw
      have H := Go.Lib.hid hw
      clear hw e1
      generalize hg : pw k - 1 = g at H ⊢
      clear hg
      go_wp2_with (go_at_call 60; refine (H.out _).mono ?_; rintro e w' ⟨rfl, rfl⟩)
      go_round
      case rel => exact ⟨k + 1, by omega, by go_num, rfl⟩
      case measure => simp [intOf]; omega
    · have : k = n := by omega
      subst this
      go_wp2
      go_ret
      exact ⟨rfl, rfl⟩

theorem allI_calls (w : World) (n : Int) (h0 : 0 ≤ n) (hn : n < 64) :
    Calls Tryz.prog 59 #[.int .i64 n] w fun e w' => e = .returned (.int .u64 ((pw n.toNat - 1 : Nat) : Int)) ∧ w = w' := by
  have h := all_calls w n.toNat (by omega)
  rwa [Int.toNat_of_nonneg h0] at h
theorem pw_mod_succ (x k : Nat) : x % pw (k + 1) = x % pw k + (if inS x k then pw k else 0) := by
  have h := Nat.mod_pow_succ (x := x) (b := 2) (k := k)
  unfold pw inS
  rw [h, Nat.testBit_eq_decide_div_mod_eq]
  have h2 : x / 2 ^ k % 2 < 2 := Nat.mod_lt _ (by omega)
  generalize x / 2 ^ k % 2 = b at h2 ⊢
  obtain rfl | rfl : b = 0 ∨ b = 1 := by omega
  · simp
  · simp
theorem inS_mod (x n k : Nat) : inS (x % pw n) k = (decide (k < n) && inS x k) := Nat.testBit_mod_two_pow x n k
theorem inS_and (x y k : Nat) : inS (x &&& y) k = (inS x k && inS y k) := Nat.testBit_and x y k
theorem inS_all (n k : Nat) : inS (pw n - 1) k = decide (k < n) := Nat.testBit_two_pow_sub_one n k
theorem pw_mod_lt (x k : Nat) : x % pw k < pw k := Nat.mod_lt _ (pw_pos k)
theorem and_le_left' (x y : Nat) : x &&& y ≤ x := Nat.and_le_left
/-- A number out of any one: from k on, of m. -/
theorem modFix (a k m : Int) (hk : 0 ≤ k) (hk2 : k ≤ 100) (hm : 1 ≤ m) (hm2 : m ≤ 100000) : ∃ x : Nat, wrap64 (k + wrap64 ((IntKind.u64.wrap a).tmod m)) = (x : Int) ∧ k ≤ (x : Int) ∧ (x : Int) < k + m := by
  have h0 : 0 ≤ IntKind.u64.wrap a := by rw [IntKind.wrap_u64]; omega
  generalize IntKind.u64.wrap a = u at h0
  rw [Int.tmod_eq_emod_of_nonneg h0]
  have h1 := Int.emod_nonneg u (show m ≠ 0 by omega)
  have h2 := Int.emod_lt_of_pos u (show 0 < m by omega)
  generalize u % m = v at h1 h2
  refine ⟨(k + v).toNat, ?_, by omega, by omega⟩
  rw [IntWalk.wrap64_in v (by omega), IntWalk.wrap64_in _ (by omega)]
  omega

theorem modFix0 (a m : Int) (hm : 1 ≤ m) (hm2 : m ≤ 100000) : ∃ x : Nat, wrap64 ((IntKind.u64.wrap a).tmod m) = (x : Int) ∧ (x : Int) < m := by
  have h0 : 0 ≤ IntKind.u64.wrap a := by rw [IntKind.wrap_u64]; omega
  generalize IntKind.u64.wrap a = u at h0
  rw [Int.tmod_eq_emod_of_nonneg h0]
  have h1 := Int.emod_nonneg u (show m ≠ 0 by omega)
  have h2 := Int.emod_lt_of_pos u (show 0 < m by omega)
  generalize u % m = v at h1 h2
  exact ⟨v.toNat, by rw [IntWalk.wrap64_in v (by omega)]; omega, by omega⟩

theorem fixSize_calls (w : World) (a b c : Int) (x y z : Nat) (hx : wrap64 (1 + wrap64 ((IntKind.u64.wrap a).tmod 8)) = (x : Int)) (hy : wrap64 (1 + wrap64 ((IntKind.u64.wrap b).tmod 16)) = (y : Int)) (hz : wrap64 (1 + wrap64 ((IntKind.u64.wrap c).tmod 8)) = (z : Int)) :
    Calls Tryz.prog 58 #[.agg #[.int .i64 a, .int .i64 b, .int .i64 c]] w fun e w' => e = .returned (.agg #[.int .i64 x, .int .i64 y, .int .i64 z]) ∧
      (w.alloc (.cells #[.int .i64 a, .int .i64 b, .int .i64 c] 25)).alloc (.cells #[.int .i64 x, .int .i64 y, .int .i64 z] 25) = w' := by
  go_enter Tryz.func58, Tryz.ntmps58
  go_wp2
  exact bodyPost_ret (v := .agg #[.int .i64 x, .int .i64 y, .int .i64 z]) (by simp [results, Tryz.results58, go_sem]) rfl ⟨rfl, rfl⟩
end Go.Proofs.YtcpaodidpomdaaaGreat

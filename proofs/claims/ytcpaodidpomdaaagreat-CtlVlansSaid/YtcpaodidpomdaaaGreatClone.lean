/- slices.Clone at the program's types: a row of the caller's own, with the same cells. -/
import Derived.Test.YtcpaodidpomdaaaGreatPlan
import Derived.Lib.SliceRun
set_option linter.unusedVariables false
set_option linter.unusedSimpArgs false
namespace Go.Proofs.YtcpaodidpomdaaaGreat
open Go.RowKit

theorem info_prule : (Tryz.prog.info? 187).map (fun i => (i.zero.map (·.cells.size), i.size, i.bytes)) = some (some 2, 2, 16) := by kernel_rfl
theorem info_pvlan : (Tryz.prog.info? 182).map (fun i => (i.zero.map (·.cells.size), i.size, i.bytes)) = some (some 3, 3, 24) := by kernel_rfl

theorem info_ringp : (Tryz.prog.info? 91).map (fun i => (i.zero.map (·.cells.size), i.size, i.bytes)) = some (some 1, 1, 8) := by kernel_rfl
theorem info_entry : (Tryz.prog.info? 75).map (fun i => (i.zero.map (·.cells.size), i.size, i.bytes)) = some (some 19, 19, 144) := by kernel_rfl
theorem info_sent : (Tryz.prog.info? 51).map (fun i => (i.zero.map (·.cells.size), i.size, i.bytes)) = some (some 5, 5, 40) := by kernel_rfl

set_option maxRecDepth 100000 in
theorem cloneRule_calls (w : World) (A : Option Addr) (n c : Nat) (xs : List Value) (hx : xs.length = n * 2) (h1 : ∀ u ∈ xs, u.oneCell' = true) (hR : Rd w A xs) (hA : A = none → n = 0 ∧ c = 0) (hA2 : ∀ a, A = some a → a.spot = none) (hn : n ≤ 1000000) :
    Calls Tryz.prog 149 #[.slice A n c] w fun e w' => ∃ A' c', e = .returned (.slice A' n c') ∧ Own w' w.heap.size 187 2 (.slice A' n c') n xs ∧ Below w.heap.size w w' := by
  have hq := fun (W : World) (a : Option Addr) (l k : Nat) => Lib.run_eql_slice_nil (P := Tryz.prog) W 103 187 a l k 0 0 Tryz.underlying103
  rcases A with _ | ⟨b, o, sp⟩
  · obtain ⟨rfl, rfl⟩ := hA rfl
    have e : xs = [] := List.eq_nil_of_length_eq_zero (by omega)
    subst e
    have hB := Below.refl w.heap.size w
    have hO := Own.nil w w.heap.size 187 2
    go_enter Tryz.func149, Tryz.ntmps149
    go_wp2
    go_ret
    exact ⟨none, 0, rfl, hO, hB⟩
  · obtain rfl : sp = none := hA2 _ rfl
    have hO : Own (w.alloc (.cells #[] 187)) w.heap.size 187 2 (.slice (some ⟨w.heap.size, 0, none⟩) 0 0) 0 [] :=
      ⟨by simpa using World.ownsRow_lit (base := w.heap.size) (e := 187) (size := 2) w #[] 0 (Nat.le_refl _) (by simp [maxLen]) (by simp)⟩
    have hK : Kp w (w.alloc (.cells #[] 187)) (fun _ => False) := (Kp.refl w _).alloc _
    have hR1 := hR.kp hK (fun _ _ _ h => h)
    have hsz : w.heap.size ≤ (w.alloc (.cells #[] 187)).heap.size := by simp
    go_enter Tryz.func149, Tryz.ntmps149
    go_wp2_with (at_builtin; refine own_appendRow rfl _ _ 103 187 w.heap.size 2 16 0 n c rfl Tryz.underlying103 info_prule (by decide) (.slice (some ⟨w.heap.size, 0, none⟩) 0 0) [] xs b o rfl rfl hx h1 hO hR1 hsz ?c1 ?c2 ?c3)
    case c1 => unfold maxLen; omega
    case c2 => omega
    case c3 =>
      intro v1 w1 hown hK1 hat
      obtain ⟨Av, cv, rfl, _⟩ := hown.slice
      have hB : Below w.heap.size w w1 := (hK.trans hK1 (fun k hk he => by simp [Value.ownBlock] at he; omega)).toBelow
      clear hat hK1 hO hR1 hsz hR h1
      go_wp2_with fail
      go_ret
      exact ⟨Av, cv, rfl, hown, hB⟩

set_option maxRecDepth 100000 in
theorem cloneVlan_calls (w : World) (A : Option Addr) (n c : Nat) (xs : List Value) (hx : xs.length = n * 3) (h1 : ∀ u ∈ xs, u.oneCell' = true) (hR : Rd w A xs) (hA : A = none → n = 0 ∧ c = 0) (hA2 : ∀ a, A = some a → a.spot = none) (hn : n ≤ 1000000) :
    Calls Tryz.prog 150 #[.slice A n c] w fun e w' => ∃ A' c', e = .returned (.slice A' n c') ∧ Own w' w.heap.size 182 3 (.slice A' n c') n xs ∧ Below w.heap.size w w' := by
  have hq := fun (W : World) (a : Option Addr) (l k : Nat) => Lib.run_eql_slice_nil (P := Tryz.prog) W 104 182 a l k 0 0 Tryz.underlying104
  rcases A with _ | ⟨b, o, sp⟩
  · obtain ⟨rfl, rfl⟩ := hA rfl
    have e : xs = [] := List.eq_nil_of_length_eq_zero (by omega)
    subst e
    have hB := Below.refl w.heap.size w
    have hO := Own.nil w w.heap.size 182 3
    go_enter Tryz.func150, Tryz.ntmps150
    go_wp2
    go_ret
    exact ⟨none, 0, rfl, hO, hB⟩
  · obtain rfl : sp = none := hA2 _ rfl
    have hO : Own (w.alloc (.cells #[] 182)) w.heap.size 182 3 (.slice (some ⟨w.heap.size, 0, none⟩) 0 0) 0 [] :=
      ⟨by simpa using World.ownsRow_lit (base := w.heap.size) (e := 182) (size := 3) w #[] 0 (Nat.le_refl _) (by simp [maxLen]) (by simp)⟩
    have hK : Kp w (w.alloc (.cells #[] 182)) (fun _ => False) := (Kp.refl w _).alloc _
    have hR1 := hR.kp hK (fun _ _ _ h => h)
    have hsz : w.heap.size ≤ (w.alloc (.cells #[] 182)).heap.size := by simp
    go_enter Tryz.func150, Tryz.ntmps150
    go_wp2_with (at_builtin; refine own_appendRow rfl _ _ 104 182 w.heap.size 3 24 0 n c rfl Tryz.underlying104 info_pvlan (by decide) (.slice (some ⟨w.heap.size, 0, none⟩) 0 0) [] xs b o rfl rfl hx h1 hO hR1 hsz ?c1 ?c2 ?c3)
    case c1 => unfold maxLen; omega
    case c2 => omega
    case c3 =>
      intro v1 w1 hown hK1 hat
      obtain ⟨Av, cv, rfl, _⟩ := hown.slice
      have hB : Below w.heap.size w w1 := (hK.trans hK1 (fun k hk he => by simp [Value.ownBlock] at he; omega)).toBelow
      clear hat hK1 hO hR1 hsz hR h1
      go_wp2_with fail
      go_ret
      exact ⟨Av, cv, rfl, hown, hB⟩

set_option maxRecDepth 100000 in
theorem cloneRing_calls (w : World) (A : Option Addr) (n c : Nat) (xs : List Value) (hx : xs.length = n * 1) (h1 : ∀ u ∈ xs, u.oneCell' = true) (hR : Rd w A xs) (hA : A = none → n = 0 ∧ c = 0) (hA2 : ∀ a, A = some a → a.spot = none) (hn : n ≤ 1000000) :
    Calls Tryz.prog 117 #[.slice A n c] w fun e w' => ∃ A' c', e = .returned (.slice A' n c') ∧ Own w' w.heap.size 91 1 (.slice A' n c') n xs ∧ Below w.heap.size w w' := by
  have hq := fun (W : World) (a : Option Addr) (l k : Nat) => Lib.run_eql_slice_nil (P := Tryz.prog) W 130 91 a l k 0 0 Tryz.underlying130
  rcases A with _ | ⟨b, o, sp⟩
  · obtain ⟨rfl, rfl⟩ := hA rfl
    have e : xs = [] := List.eq_nil_of_length_eq_zero (by omega)
    subst e
    have hB := Below.refl w.heap.size w
    have hO := Own.nil w w.heap.size 91 1
    go_enter Tryz.func117, Tryz.ntmps117
    go_wp2
    go_ret
    exact ⟨none, 0, rfl, hO, hB⟩
  · obtain rfl : sp = none := hA2 _ rfl
    have hO : Own (w.alloc (.cells #[] 91)) w.heap.size 91 1 (.slice (some ⟨w.heap.size, 0, none⟩) 0 0) 0 [] :=
      ⟨by simpa using World.ownsRow_lit (base := w.heap.size) (e := 91) (size := 1) w #[] 0 (Nat.le_refl _) (by simp [maxLen]) (by simp)⟩
    have hK : Kp w (w.alloc (.cells #[] 91)) (fun _ => False) := (Kp.refl w _).alloc _
    have hR1 := hR.kp hK (fun _ _ _ h => h)
    have hsz : w.heap.size ≤ (w.alloc (.cells #[] 91)).heap.size := by simp
    go_enter Tryz.func117, Tryz.ntmps117
    go_wp2_with (at_builtin; refine own_appendRow rfl _ _ 130 91 w.heap.size 1 8 0 n c rfl Tryz.underlying130 info_ringp (by decide) (.slice (some ⟨w.heap.size, 0, none⟩) 0 0) [] xs b o rfl rfl hx h1 hO hR1 hsz ?c1 ?c2 ?c3)
    case c1 => unfold maxLen; omega
    case c2 => omega
    case c3 =>
      intro v1 w1 hown hK1 hat
      obtain ⟨Av, cv, rfl, _⟩ := hown.slice
      have hB : Below w.heap.size w w1 := (hK.trans hK1 (fun k hk he => by simp [Value.ownBlock] at he; omega)).toBelow
      clear hat hK1 hO hR1 hsz hR h1
      go_wp2_with fail
      go_ret
      exact ⟨Av, cv, rfl, hown, hB⟩

set_option maxRecDepth 100000 in
theorem cloneEntry_calls (w : World) (A : Option Addr) (n c : Nat) (xs : List Value) (hx : xs.length = n * 19) (h1 : ∀ u ∈ xs, u.oneCell' = true) (hR : Rd w A xs) (hA : A = none → n = 0 ∧ c = 0) (hA2 : ∀ a, A = some a → a.spot = none) (hn : n ≤ 1000000) :
    Calls Tryz.prog 70 #[.slice A n c] w fun e w' => ∃ A' c', e = .returned (.slice A' n c') ∧ Own w' w.heap.size 75 19 (.slice A' n c') n xs ∧ Below w.heap.size w w' := by
  have hq := fun (W : World) (a : Option Addr) (l k : Nat) => Lib.run_eql_slice_nil (P := Tryz.prog) W 39 75 a l k 0 0 Tryz.underlying39
  rcases A with _ | ⟨b, o, sp⟩
  · obtain ⟨rfl, rfl⟩ := hA rfl
    have e : xs = [] := List.eq_nil_of_length_eq_zero (by omega)
    subst e
    have hB := Below.refl w.heap.size w
    have hO := Own.nil w w.heap.size 75 19
    go_enter Tryz.func70, Tryz.ntmps70
    go_wp2
    go_ret
    exact ⟨none, 0, rfl, hO, hB⟩
  · obtain rfl : sp = none := hA2 _ rfl
    have hO : Own (w.alloc (.cells #[] 75)) w.heap.size 75 19 (.slice (some ⟨w.heap.size, 0, none⟩) 0 0) 0 [] :=
      ⟨by simpa using World.ownsRow_lit (base := w.heap.size) (e := 75) (size := 19) w #[] 0 (Nat.le_refl _) (by simp [maxLen]) (by simp)⟩
    have hK : Kp w (w.alloc (.cells #[] 75)) (fun _ => False) := (Kp.refl w _).alloc _
    have hR1 := hR.kp hK (fun _ _ _ h => h)
    have hsz : w.heap.size ≤ (w.alloc (.cells #[] 75)).heap.size := by simp
    go_enter Tryz.func70, Tryz.ntmps70
    go_wp2_with (at_builtin; refine own_appendRow rfl _ _ 39 75 w.heap.size 19 144 0 n c rfl Tryz.underlying39 info_entry (by decide) (.slice (some ⟨w.heap.size, 0, none⟩) 0 0) [] xs b o rfl rfl hx h1 hO hR1 hsz ?c1 ?c2 ?c3)
    case c1 => unfold maxLen; omega
    case c2 => omega
    case c3 =>
      intro v1 w1 hown hK1 hat
      obtain ⟨Av, cv, rfl, _⟩ := hown.slice
      have hB : Below w.heap.size w w1 := (hK.trans hK1 (fun k hk he => by simp [Value.ownBlock] at he; omega)).toBelow
      clear hat hK1 hO hR1 hsz hR h1
      go_wp2_with fail
      go_ret
      exact ⟨Av, cv, rfl, hown, hB⟩

set_option maxRecDepth 100000 in
theorem cloneSent_calls (w : World) (A : Option Addr) (n c : Nat) (xs : List Value) (hx : xs.length = n * 5) (h1 : ∀ u ∈ xs, u.oneCell' = true) (hR : Rd w A xs) (hA : A = none → n = 0 ∧ c = 0) (hA2 : ∀ a, A = some a → a.spot = none) (hn : n ≤ 1000000) :
    Calls Tryz.prog 69 #[.slice A n c] w fun e w' => ∃ A' c', e = .returned (.slice A' n c') ∧ Own w' w.heap.size 51 5 (.slice A' n c') n xs ∧ Below w.heap.size w w' := by
  have hq := fun (W : World) (a : Option Addr) (l k : Nat) => Lib.run_eql_slice_nil (P := Tryz.prog) W 48 51 a l k 0 0 Tryz.underlying48
  rcases A with _ | ⟨b, o, sp⟩
  · obtain ⟨rfl, rfl⟩ := hA rfl
    have e : xs = [] := List.eq_nil_of_length_eq_zero (by omega)
    subst e
    have hB := Below.refl w.heap.size w
    have hO := Own.nil w w.heap.size 51 5
    go_enter Tryz.func69, Tryz.ntmps69
    go_wp2
    go_ret
    exact ⟨none, 0, rfl, hO, hB⟩
  · obtain rfl : sp = none := hA2 _ rfl
    have hO : Own (w.alloc (.cells #[] 51)) w.heap.size 51 5 (.slice (some ⟨w.heap.size, 0, none⟩) 0 0) 0 [] :=
      ⟨by simpa using World.ownsRow_lit (base := w.heap.size) (e := 51) (size := 5) w #[] 0 (Nat.le_refl _) (by simp [maxLen]) (by simp)⟩
    have hK : Kp w (w.alloc (.cells #[] 51)) (fun _ => False) := (Kp.refl w _).alloc _
    have hR1 := hR.kp hK (fun _ _ _ h => h)
    have hsz : w.heap.size ≤ (w.alloc (.cells #[] 51)).heap.size := by simp
    go_enter Tryz.func69, Tryz.ntmps69
    go_wp2_with (at_builtin; refine own_appendRow rfl _ _ 48 51 w.heap.size 5 40 0 n c rfl Tryz.underlying48 info_sent (by decide) (.slice (some ⟨w.heap.size, 0, none⟩) 0 0) [] xs b o rfl rfl hx h1 hO hR1 hsz ?c1 ?c2 ?c3)
    case c1 => unfold maxLen; omega
    case c2 => omega
    case c3 =>
      intro v1 w1 hown hK1 hat
      obtain ⟨Av, cv, rfl, _⟩ := hown.slice
      have hB : Below w.heap.size w w1 := (hK.trans hK1 (fun k hk he => by simp [Value.ownBlock] at he; omega)).toBelow
      clear hat hK1 hO hR1 hsz hR h1
      go_wp2_with fail
      go_ret
      exact ⟨Av, cv, rfl, hown, hB⟩

end Go.Proofs.YtcpaodidpomdaaaGreat

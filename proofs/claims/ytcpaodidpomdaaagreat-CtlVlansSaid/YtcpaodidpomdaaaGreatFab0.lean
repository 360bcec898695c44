/- What a memory needs: fdb.Cells, fdb.Locks, fdb.Bound, ring.Cells; fdb.New; ring.New. -/
import Derived.Test.YtcpaodidpomdaaaGreatMemNew
import Derived.Test.YtcpaodidpomdaaaGreatRing
import Derived.Test.YtcpaodidpomdaaaGreatCheck
set_option linter.unusedVariables false
set_option linter.unusedSimpArgs false
namespace Go.Proofs.YtcpaodidpomdaaaGreat
open Go.RowKit

theorem mul_bd (a b A B : Int) (h0 : 0 ≤ a) (h1 : a ≤ A) (h2 : 0 ≤ b) (h3 : b ≤ B) : 0 ≤ a * b ∧ a * b ≤ A * B :=
  ⟨Int.mul_nonneg h0 h2, Int.mul_le_mul h1 h3 h2 (Int.le_trans h0 h1)⟩

theorem ringCells_calls (w : World) (n : Int) (h1 : 1 ≤ n) (h2 : n ≤ 64) :
    Calls Tryz.prog 98 #[.int .i64 n] w fun e w' => e = .returned (.int .i64 (n + 2)) ∧ w = w' := by
  go_enter Tryz.func98, Tryz.ntmps98
  go_wp2
  go_ret
  exact ⟨rfl, rfl⟩

theorem fdbLocks_calls (w : World) (a b c : Int) (h : (1 ≤ a ∧ a ≤ 8) ∧ (1 ≤ b ∧ b ≤ 16) ∧ (1 ≤ c ∧ c ≤ 8)) :
    Calls Tryz.prog 100 #[.agg #[.int .i64 a, .int .i64 b, .int .i64 c]] w fun e w' => e = .returned (.int .i64 a) ∧ Below w.heap.size w w' := by
  have hB := (Kp.refl w (fun _ => False)).alloc (.cells #[.int .i64 a, .int .i64 b, .int .i64 c] 105)
  have hB2 := (hB.alloc (.cells #[.int .i64 a, .int .i64 b, .int .i64 c] 105)).toBelow
  have hbk := fun W => bookRight_calls W a b c h
  go_enter Tryz.func100, Tryz.ntmps100
  go_wp2_with (go_at_call 148; refine (hbk _).mono ?_; rintro e w3 ⟨rfl, rfl⟩)
  go_ret
  exact ⟨rfl, hB2⟩

theorem fdbCells_calls (w : World) (a b c : Int) (h : (1 ≤ a ∧ a ≤ 8) ∧ (1 ≤ b ∧ b ≤ 16) ∧ (1 ≤ c ∧ c ≤ 8)) :
    Calls Tryz.prog 97 #[.agg #[.int .i64 a, .int .i64 b, .int .i64 c]] w fun e w' => e = .returned (.int .i64 (a * b * (1 + 2 * c))) ∧ Below w.heap.size w w' := by
  have hB := (Kp.refl w (fun _ => False)).alloc (.cells #[.int .i64 a, .int .i64 b, .int .i64 c] 105)
  have hB2 := (hB.alloc (.cells #[.int .i64 a, .int .i64 b, .int .i64 c] 105)).toBelow
  have hbk := fun W => bookRight_calls W a b c h
  obtain ⟨⟨h1, h2⟩, ⟨h3, h4⟩, ⟨h5, h6⟩⟩ := h
  obtain ⟨x1, x2⟩ := mul_bd a b 8 16 (by omega) h2 (by omega) h4
  obtain ⟨y1, y2⟩ := mul_bd (a * b) (1 + 2 * c) 128 17 (by omega) (by omega) (by omega) (by omega)
  go_enter Tryz.func97, Tryz.ntmps97
  go_wp2_with (go_at_call 148; refine (hbk _).mono ?_; rintro e w3 ⟨rfl, rfl⟩)
  go_ret
  exact ⟨rfl, hB2⟩

def fdbBound (a b c t : Int) : Int := 16 + t * (4 + 4 * c) + a * (4 + b * (8 + 8 * c))
theorem fdbBound_bd (a b c t : Int) (h : (1 ≤ a ∧ a ≤ 8) ∧ (1 ≤ b ∧ b ≤ 16) ∧ (1 ≤ c ∧ c ≤ 8)) (ht : 1 ≤ t ∧ t ≤ 8) : 16 ≤ fdbBound a b c t ∧ fdbBound a b c t ≤ 20000 := by
  obtain ⟨⟨h1, h2⟩, ⟨h3, h4⟩, ⟨h5, h6⟩⟩ := h
  obtain ⟨x1, x2⟩ := mul_bd t (4 + 4 * c) 8 36 (by omega) ht.2 (by omega) (by omega)
  obtain ⟨y1, y2⟩ := mul_bd b (8 + 8 * c) 16 72 (by omega) h4 (by omega) (by omega)
  obtain ⟨z1, z2⟩ := mul_bd a (4 + b * (8 + 8 * c)) 8 1156 (by omega) h2 (by omega) (by omega)
  unfold fdbBound
  omega

set_option maxHeartbeats 1000000 in
theorem fdbBound_calls (w : World) (a b c t : Int) (h : (1 ≤ a ∧ a ≤ 8) ∧ (1 ≤ b ∧ b ≤ 16) ∧ (1 ≤ c ∧ c ≤ 8)) (ht : 1 ≤ t ∧ t ≤ 8) :
    Calls Tryz.prog 106 #[.agg #[.int .i64 a, .int .i64 b, .int .i64 c], .int .i64 t] w fun e w' => e = .returned (.int .i64 (fdbBound a b c t)) ∧ Below w.heap.size w w' := by
  have hB := (Kp.refl w (fun _ => False)).alloc (.cells #[.int .i64 a, .int .i64 b, .int .i64 c] 105)
  have hB2 := (hB.alloc (.cells #[.int .i64 a, .int .i64 b, .int .i64 c] 105)).toBelow
  have hbk := fun W => bookRight_calls W a b c h
  obtain ⟨⟨h1, h2⟩, ⟨h3, h4⟩, ⟨h5, h6⟩⟩ := h
  obtain ⟨t1, t2⟩ := ht
  obtain ⟨x1, x2⟩ := mul_bd t (4 + 4 * c) 8 36 (by omega) t2 (by omega) (by omega)
  obtain ⟨y1, y2⟩ := mul_bd b (8 + 8 * c) 16 72 (by omega) h4 (by omega) (by omega)
  obtain ⟨z1, z2⟩ := mul_bd a (4 + b * (8 + 8 * c)) 8 1156 (by omega) h2 (by omega) (by omega)
  go_enter Tryz.func106, Tryz.ntmps106
  go_wp2_with (go_at_call 148; refine (hbk _).mono ?_; rintro e w3 ⟨rfl, rfl⟩)
  go_ret
  exact ⟨rfl, hB2⟩

theorem fits_calls (w : World) (f n a : Int) (h0 : 0 ≤ f) (h1 : f ≤ a) (h2 : n ≤ a - f) (h3 : a ≤ 2000000) (h4 : 0 ≤ n) :
    Calls Tryz.prog 151 #[.int .i64 f, .int .i64 n, .int .i64 a] w fun e w' => e = .returned (.bool true) ∧ w = w' := by
  have h5 : 0 ≤ a - f := by omega
  have h6 : a - f ≤ 2000000 := by omega
  go_enter Tryz.func151, Tryz.ntmps151
  go_wp2
  go_ret
  exact ⟨rfl, rfl⟩

/-- Entries: where their cells begin, from which lock on, how many. -/
structure IsFdb (w : World) (fd m : Nat) (base lock sh bu sl tries : Int) : Prop where
  out : Blk w fd [ptr m, .int .i64 base, .int .i64 lock, .int .i64 sh, .int .i64 bu, .int .i64 sl, .int .i64 tries] 242

set_option maxHeartbeats 2000000 in
theorem fdbNew_calls {w : World} {a : MemA} {s : MemS} (hM : IsMem w a s) (base lock sh bu sl tries : Int) (h : (1 ≤ sh ∧ sh ≤ 8) ∧ (1 ≤ bu ∧ bu ≤ 16) ∧ (1 ≤ sl ∧ sl ≤ 8)) (ht : 1 ≤ tries ∧ tries ≤ 8)
    (h0 : 0 ≤ base) (h1 : base + sh * bu * (1 + 2 * sl) ≤ s.cells.length) (h2 : 0 ≤ lock) (h3 : lock + sh ≤ s.locks.length) :
    Calls Tryz.prog 101 #[ptr a.m, .int .i64 base, .int .i64 lock, .agg #[.int .i64 sh, .int .i64 bu, .int .i64 sl], .int .i64 tries] w fun e w' =>
      ∃ fd, e = .returned (.tuple #[ptr fd, .int .i64 0]) ∧ IsFdb w' fd a.m base lock sh bu sl tries ∧ w.heap.size ≤ fd ∧ Below w.heap.size w w' := by
  have hfb := fun W => fdbBound_calls W sh bu sl tries h ht
  have hfc := fun W => fdbCells_calls W sh bu sl h
  have hfl := fun W => fdbLocks_calls W sh bu sl h
  have hbd := fdbBound_bd sh bu sl tries h ht
  have hcb := (mul_bd (sh * bu) (1 + 2 * sl) 128 17 (by have := mul_bd sh bu 8 16 (by omega) (by omega) (by omega) (by omega); omega) (by have := mul_bd sh bu 8 16 (by omega) (by omega) (by omega) (by omega); omega) (by omega) (by omega)).1
  have nc := hM.nc
  have nl := hM.nl
  have hne : (fdbBound sh bu sl tries == 0) = false := by rw [beq_eq_false_iff_ne]; omega
  have hB0 := (Kp.refl w (fun _ => False)).alloc (.cells #[.int .i64 sh, .int .i64 bu, .int .i64 sl] 105)
  have hb0 := Blk.new w [.int .i64 sh, .int .i64 bu, .int .i64 sl] 105
  have hM0 := hM.kp hB0 (fun _ _ h => h)
  generalize hC : sh * bu * (1 + 2 * sl) = C at *
  generalize hBd : fdbBound sh bu sl tries = BD at *
  have hfit1 := fun W => fits_calls W base C s.cells.length h0 (by omega) (by omega) (by omega) hcb
  have hfit2 := fun W => fits_calls W lock sh s.locks.length h2 (by omega) (by omega) (by omega) (by omega)
  clear hC hBd h hM
  go_enter Tryz.func101, Tryz.ntmps101
  go_wp2_with fail
  generalize (w.alloc _) = W0 at *
  have d0 := hb0.get 0 rfl
  have d1 := hb0.get 1 rfl
  have d2 := hb0.get 2 rfl
  have ok : True := trivial
  go_wp2_with (first
    | (go_at_call 106; refine (hfb _).mono ?_; rintro e w1 ⟨rfl, hB1⟩; replace hM0 := hM0.kp (Kp.of_below (S := fun _ => False) hB1) (fun _ _ h => h); replace hB0 := hB0.trans (Kp.of_below (S := fun _ => False) hB1) (fun _ _ h => h); replace hb0 := hb0.below hB1; have d0 := hb0.get 0 rfl; have d1 := hb0.get 1 rfl; have d2 := hb0.get 2 rfl)
    | (go_at_call 97; refine (hfc _).mono ?_; rintro e w1 ⟨rfl, hB1⟩; replace hM0 := hM0.kp (Kp.of_below (S := fun _ => False) hB1) (fun _ _ h => h); replace hB0 := hB0.trans (Kp.of_below (S := fun _ => False) hB1) (fun _ _ h => h); replace hb0 := hb0.below hB1; have d0 := hb0.get 0 rfl; have d1 := hb0.get 1 rfl; have d2 := hb0.get 2 rfl)
    | (go_at_call 100; refine (hfl _).mono ?_; rintro e w1 ⟨rfl, hB1⟩; replace hM0 := hM0.kp (Kp.of_below (S := fun _ => False) hB1) (fun _ _ h => h); replace hB0 := hB0.trans (Kp.of_below (S := fun _ => False) hB1) (fun _ _ h => h); replace hb0 := hb0.below hB1; have d0 := hb0.get 0 rfl; have d1 := hb0.get 1 rfl; have d2 := hb0.get 2 rfl)
    | (go_at_call 152; refine (cells_calls hM0).mono ?_; rintro e w1 ⟨rfl, rfl⟩)
    | (go_at_call 153; refine (locks_calls hM0).mono ?_; rintro e w1 ⟨rfl, rfl⟩)
    | (go_at_call_of 151 (Value.int .i64 C); refine (hfit1 _).mono ?_; rintro e w1 ⟨rfl, rfl⟩)
    | (go_at_call_of 151 (Value.int .i64 sh); refine (hfit2 _).mono ?_; rintro e w1 ⟨rfl, rfl⟩))
  go_ret2
  refine ⟨_, rfl, ⟨?_⟩, ?_, ?_⟩
  · exact Blk.new _ [ptr a.m, .int .i64 base, .int .i64 lock, .int .i64 sh, .int .i64 bu, .int .i64 sl, .int .i64 tries] _
  · exact hB0.size
  · exact (hB0.alloc _).toBelow

/-- A ring of so many, both counters at 0. -/
def ring0 (base size : Int) : RingS := ⟨base, size, ⟨0, 0, false⟩, ⟨0, 0, false⟩⟩

set_option maxHeartbeats 2000000 in
theorem ringNew_calls {w : World} {a : MemA} {s : MemS} (hM : IsMem w a s) (hs : s.time < 1000000) (base size : Int) (h0 : 0 ≤ base) (h1 : 1 ≤ size) (h2 : size ≤ 64) (h3 : base + (size + 2) ≤ s.cells.length) :
    Calls Tryz.prog 154 #[ptr a.m, .int .i64 base, .int .i64 size, .int .u64 0] w fun e w' =>
      ∃ r, e = .returned (.tuple #[ptr r, .int .i64 0]) ∧ IsRing w' r a.m (ring0 base size) ∧ IsMem w' a { s with cells := (s.cells.set base.toNat 0).set (base + 1).toNat 0, time := s.time + 1 + 1 } ∧ w.heap.size ≤ r ∧ Kp w w' (fun k => k = a.m ∨ k = a.cb) := by
  have hrc := fun W => ringCells_calls W size h1 h2
  have nc := hM.nc
  have t0 := hM.t0
  have hne : (size + 2 == 0) = false := by rw [beq_eq_false_iff_ne]; omega
  have hc := cells_calls hM
  have hS1 := store_calls hM (by unfold Small; omega) base 0 h0 (by omega)
  have e1 : (size : Int) + 2 ≤ (s.cells.length : Int) - base := by omega
  have e2 : base ≤ (s.cells.length : Int) := by omega
  have e3 : 0 ≤ (s.cells.length : Int) - base := by omega
  have e4 : (s.cells.length : Int) ≤ 1048576 := by omega
  have hs' : s.time + 1 < 4611686018427387904 := by omega
  clear hs
  go_enter Tryz.func154, Tryz.ntmps154
  go_wp2_with (first
    | (go_at_call 98; refine (hrc _).mono ?_; rintro e w1 ⟨rfl, rfl⟩)
    | (go_at_call 152; refine hc.mono ?_; rintro e w1 ⟨rfl, rfl⟩))
  go_at_call 102
  refine hS1.mono ?_
  rintro e w1 ⟨rfl, hM1, hK1⟩
  have hS2 := store_calls hM1 hs' (base + 1) 0 (by omega) (by simp; omega)
  have e5 : base + 1 ≤ 1048576 := by omega
  go_wp2_with (go_at_call 102; refine hS2.mono ?_; rintro e w2 ⟨rfl, hM2, hK2⟩)
  go_ret2
  have hK3 := hK1.trans hK2 (fun _ _ h => h)
  refine ⟨_, rfl, ⟨Blk.new w2 [ptr a.m, .int .i64 base, .int .i64 size, .int .u64 0, .int .i64 0, .bool false, .int .u64 0, .int .i64 0, .bool false] _⟩, ?_, hK3.size, hK3.alloc _⟩
  exact hM2.kp ((Kp.refl w2 (fun _ => False)).alloc _) (fun _ _ h => h)
end Go.Proofs.YtcpaodidpomdaaaGreat

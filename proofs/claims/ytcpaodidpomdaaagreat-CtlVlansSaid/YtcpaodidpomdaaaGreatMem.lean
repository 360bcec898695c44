/- Package mem: cells and locks: what each call answers, and what becomes of the memory. -/
import Derived.Test.YtcpaodidpomdaaaGreatProg
import Derived.Test.YtcpaodidpomdaaaGreatHeap
import Derived.WalkKit
import Derived.Outline
import Derived.KernelRfl
import Derived.WalkSpells
import Derived.WalkLawsBesides
set_option linter.unusedVariables false
set_option linter.unusedSimpArgs false
namespace Go.Proofs.YtcpaodidpomdaaaGreat
open Go.RowKit

def u64s (l : List Int) : List Value := l.map (Value.int .u64)
def i64s (l : List Int) : List Value := l.map (Value.int .i64)
theorem u64s_get {l : List Int} {i : Nat} {v : Int} (h : l[i]? = some v) : (u64s l)[i]? = some (.int .u64 v) := by simp [u64s, h]
theorem i64s_get {l : List Int} {i : Nat} {v : Int} (h : l[i]? = some v) : (i64s l)[i]? = some (.int .i64 v) := by simp [i64s, h]
theorem u64s_set (l : List Int) (i : Nat) (v : Int) : (u64s l).set i (.int .u64 v) = u64s (l.set i v) := by simp [u64s, List.map_set]
theorem i64s_set (l : List Int) (i : Nat) (v : Int) : (i64s l).set i (.int .i64 v) = i64s (l.set i v) := by simp [i64s, List.map_set]

/-- Where a memory lies: its own block, its cells', its locks'. -/
structure MemA where
  m : Nat
  cb : Nat
  lb : Nat
def MemA.has (a : MemA) (k : Nat) : Prop := k = a.m ∨ k = a.cb ∨ k = a.lb
structure MemS where
  cells : List Int
  locks : List Int
  time : Int

structure IsMem (w : World) (a : MemA) (s : MemS) : Prop where
  hm : Blk w a.m [.slice (some ⟨a.cb, 0, none⟩) s.cells.length s.cells.length, .slice (some ⟨a.lb, 0, none⟩) s.locks.length s.locks.length, .int .i64 s.time] 161
  hc : Blk w a.cb (u64s s.cells) 33
  hl : Blk w a.lb (i64s s.locks) 3
  nc : s.cells.length ≤ 1048576
  nl : s.locks.length ≤ 128
  t0 : 0 ≤ s.time

section
variable {w w1 : World} {a : MemA} {s : MemS}
theorem IsMem.c0 (h : IsMem w a s) : w.cell? ⟨a.m, 0, none⟩ = some (.slice (some ⟨a.cb, 0, none⟩) s.cells.length s.cells.length) := h.hm.get 0 rfl
theorem IsMem.c1 (h : IsMem w a s) : w.cell? ⟨a.m, 1, none⟩ = some (.slice (some ⟨a.lb, 0, none⟩) s.locks.length s.locks.length) := h.hm.get 1 rfl
theorem IsMem.c2 (h : IsMem w a s) : w.cell? ⟨a.m, 2, none⟩ = some (.int .i64 s.time) := h.hm.get 2 rfl
theorem IsMem.ne1 (h : IsMem w a s) : ¬ a.m = a.cb := h.hm.ne h.hc (by decide)
theorem IsMem.ne2 (h : IsMem w a s) : ¬ a.m = a.lb := h.hm.ne h.hl (by decide)
theorem IsMem.ne3 (h : IsMem w a s) : ¬ a.cb = a.lb := h.hc.ne h.hl (by decide)
theorem IsMem.kp {S : Nat → Prop} (h : IsMem w a s) (k : Kp w w1 S) (hn : ∀ b, a.has b → ¬ S b) : IsMem w1 a s :=
  ⟨h.hm.kp k (hn _ (.inl rfl)), h.hc.kp k (hn _ (.inr (.inl rfl))), h.hl.kp k (hn _ (.inr (.inr rfl))), h.nc, h.nl, h.t0⟩
theorem IsMem.tick (h : IsMem w a s) : IsMem (w.setCell ⟨a.m, 2, none⟩ (.int .i64 (s.time + 1))) a { s with time := s.time + 1 } :=
  ⟨h.hm.put 2 _ rfl, h.hc.far (fun e => h.ne1 e.symm) _, h.hl.far (fun e => h.ne2 e.symm) _, h.nc, h.nl, by have := h.t0; show 0 ≤ s.time + 1; omega⟩
theorem IsMem.setC (h : IsMem w a s) (i : Nat) (v : Int) : IsMem (w.setCell ⟨a.cb, i, none⟩ (.int .u64 v)) a { s with cells := s.cells.set i v } :=
  ⟨by simpa using h.hm.far h.ne1 _, h.hc.put i _ (u64s_set _ _ _), h.hl.far (fun e => h.ne3 e.symm) _, by simpa using h.nc, h.nl, h.t0⟩
theorem IsMem.setL (h : IsMem w a s) (i : Nat) (v : Int) : IsMem (w.setCell ⟨a.lb, i, none⟩ (.int .i64 v)) a { s with locks := s.locks.set i v } :=
  ⟨by simpa using h.hm.far h.ne2 _, h.hc.far h.ne3 _, h.hl.put i _ (i64s_set _ _ _), h.nc, by simpa using h.nl, h.t0⟩
end

def Small (t : Int) : Prop := t < 4611686018427387904

theorem time_calls {w : World} {a : MemA} {s : MemS} (h : IsMem w a s) :
    Calls Tryz.prog 44 #[.pointer (some ⟨a.m, 0, none⟩)] w fun e w' => e = .returned (.int .i64 s.time) ∧ w = w' := by
  have c2 := h.c2
  go_enter Tryz.func44, Tryz.ntmps44
  go_wp2
  go_ret
  exact ⟨rfl, rfl⟩

theorem load_calls {w : World} {a : MemA} {s : MemS} (h : IsMem w a s) (hs : Small s.time) (i v : Int) (h0 : 0 ≤ i) (hv : s.cells[i.toNat]? = some v) :
    Calls Tryz.prog 82 #[.pointer (some ⟨a.m, 0, none⟩), .int .i64 i] w fun e w' =>
      e = .returned (.int .u64 v) ∧ IsMem w' a { s with time := s.time + 1 } ∧ Kp w w' (fun k => k = a.m) := by
  have c0 := h.c0
  have c2 := h.c2
  have f2 := h.hm.frozen 2
  have t0 := h.t0
  have ne1 := h.ne1
  have hd : w.cell? ⟨a.cb, i.toNat, none⟩ = some (.int .u64 v) := h.hc.get _ (u64s_get hv)
  have hT := h.tick
  unfold Small at hs
  have hlen : i < (s.cells.length : Int) := by
    have := (List.getElem?_eq_some_iff.1 hv).1
    omega
  have hn := h.nc
  have hK := (Kp.refl w (fun k => k = a.m)).setCell (p := ⟨a.m, 2, none⟩) (fun _ => rfl) (.int .i64 (s.time + 1))
  clear hv h
  go_enter Tryz.func82, Tryz.ntmps82
  go_wp2
  go_ret
  exact ⟨rfl, hT, hK⟩

theorem store_calls {w : World} {a : MemA} {s : MemS} (h : IsMem w a s) (hs : Small s.time) (i v : Int) (h0 : 0 ≤ i) (hi : i < (s.cells.length : Int)) :
    Calls Tryz.prog 102 #[.pointer (some ⟨a.m, 0, none⟩), .int .i64 i, .int .u64 v] w fun e w' =>
      e = .returned (.tuple #[]) ∧ IsMem w' a { s with cells := s.cells.set i.toNat v, time := s.time + 1 } ∧ Kp w w' (fun k => k = a.m ∨ k = a.cb) := by
  have c0 := h.c0
  have c2 := h.c2
  have f2 := h.hm.frozen 2
  have t0 := h.t0
  have ne1 := h.ne1
  obtain ⟨u, hu⟩ := get_of_lt (l := s.cells) (i := i.toNat) (by omega)
  have hd : w.cell? ⟨a.cb, i.toNat, none⟩ = some (.int .u64 u) := h.hc.get _ (u64s_get hu)
  have hf := h.hc.frozen i.toNat
  have hT := h.tick.setC i.toNat v
  unfold Small at hs
  have hn := h.nc
  have hK := ((Kp.refl w (fun k => k = a.m ∨ k = a.cb)).setCell (p := ⟨a.m, 2, none⟩) (fun _ => .inl rfl) (.int .i64 (s.time + 1))).setCell (p := ⟨a.cb, i.toNat, none⟩) (fun _ => .inr rfl) (.int .u64 v)
  clear hu h
  go_enter Tryz.func102, Tryz.ntmps102
  go_wp2
  go_end0
  exact ⟨rfl, hT, hK⟩

theorem peek_calls {w : World} {a : MemA} {s : MemS} (h : IsMem w a s) (i v : Int) (h0 : 0 ≤ i) (hv : s.cells[i.toNat]? = some v) :
    Calls Tryz.prog 86 #[.pointer (some ⟨a.m, 0, none⟩), .int .i64 i] w fun e w' => e = .returned (.int .u64 v) ∧ w = w' := by
  have c0 := h.c0
  have hd : w.cell? ⟨a.cb, i.toNat, none⟩ = some (.int .u64 v) := h.hc.get _ (u64s_get hv)
  have hlen : i < (s.cells.length : Int) := by
    have := (List.getElem?_eq_some_iff.1 hv).1
    omega
  have hn := h.nc
  clear hv h
  go_enter Tryz.func86, Tryz.ntmps86
  go_wp2
  go_ret
  exact ⟨rfl, rfl⟩

theorem cells_calls {w : World} {a : MemA} {s : MemS} (h : IsMem w a s) :
    Calls Tryz.prog 152 #[.pointer (some ⟨a.m, 0, none⟩)] w fun e w' => e = .returned (.int .i64 s.cells.length) ∧ w = w' := by
  have c0 := h.c0
  clear h
  go_enter Tryz.func152, Tryz.ntmps152
  go_wp2
  go_ret
  exact ⟨rfl, rfl⟩

theorem locks_calls {w : World} {a : MemA} {s : MemS} (h : IsMem w a s) :
    Calls Tryz.prog 153 #[.pointer (some ⟨a.m, 0, none⟩)] w fun e w' => e = .returned (.int .i64 s.locks.length) ∧ w = w' := by
  have c1 := h.c1
  clear h
  go_enter Tryz.func153, Tryz.ntmps153
  go_wp2
  go_ret
  exact ⟨rfl, rfl⟩

/-- A lock passed from one to another: the two ways. -/
theorem pass_yes {w : World} {a : MemA} {s : MemS} (h : IsMem w a s) (hs : Small s.time) (l x y : Int) (h0 : 0 ≤ l) (hv : s.locks[l.toNat]? = some x) :
    Calls Tryz.prog 124 #[.pointer (some ⟨a.m, 0, none⟩), .int .i64 l, .int .i64 x, .int .i64 y] w fun e w' =>
      e = .returned (.bool true) ∧ IsMem w' a { s with locks := s.locks.set l.toNat y, time := s.time + 1 } ∧ Kp w w' (fun k => k = a.m ∨ k = a.lb) := by
  have c1 := h.c1
  have c2 := h.c2
  have f2 := h.hm.frozen 2
  have t0 := h.t0
  have ne2 := h.ne2
  have hd : w.cell? ⟨a.lb, l.toNat, none⟩ = some (.int .i64 x) := h.hl.get _ (i64s_get hv)
  have hf := h.hl.frozen l.toNat
  have hT := h.tick.setL l.toNat y
  unfold Small at hs
  have hlen : l < (s.locks.length : Int) := by
    have := (List.getElem?_eq_some_iff.1 hv).1
    omega
  have hn := h.nl
  have hK := ((Kp.refl w (fun k => k = a.m ∨ k = a.lb)).setCell (p := ⟨a.m, 2, none⟩) (fun _ => .inl rfl) (.int .i64 (s.time + 1))).setCell (p := ⟨a.lb, l.toNat, none⟩) (fun _ => .inr rfl) (.int .i64 y)
  clear hv h
  go_enter Tryz.func124, Tryz.ntmps124
  go_wp2
  go_ret
  exact ⟨rfl, hT, hK⟩

theorem pass_no {w : World} {a : MemA} {s : MemS} (h : IsMem w a s) (hs : Small s.time) (l z x y : Int) (h0 : 0 ≤ l) (hv : s.locks[l.toNat]? = some z) (hne : z ≠ x) :
    Calls Tryz.prog 124 #[.pointer (some ⟨a.m, 0, none⟩), .int .i64 l, .int .i64 x, .int .i64 y] w fun e w' =>
      e = .returned (.bool false) ∧ IsMem w' a { s with time := s.time + 1 } ∧ Kp w w' (fun k => k = a.m ∨ k = a.lb) := by
  have c1 := h.c1
  have c2 := h.c2
  have f2 := h.hm.frozen 2
  have t0 := h.t0
  have ne2 := h.ne2
  have hd : w.cell? ⟨a.lb, l.toNat, none⟩ = some (.int .i64 z) := h.hl.get _ (i64s_get hv)
  have hT := h.tick
  unfold Small at hs
  have hlen : l < (s.locks.length : Int) := by
    have := (List.getElem?_eq_some_iff.1 hv).1
    omega
  have hn := h.nl
  have hb : (z != x) = true := by rw [bne_iff_ne]; exact hne
  have hK := (Kp.refl w (fun k => k = a.m ∨ k = a.lb)).setCell (p := ⟨a.m, 2, none⟩) (fun _ => .inl rfl) (.int .i64 (s.time + 1))
  clear hv h
  go_enter Tryz.func124, Tryz.ntmps124
  go_wp2
  go_ret
  exact ⟨rfl, hT, hK⟩

/-- Is a lock so-and-so's? -/
def lockIs (s : MemS) (l : Nat) (x : Int) : Bool := decide (s.locks[l]? = some x)
/-- What Take, and Free, leave of the locks. -/
def passed (s : MemS) (l : Nat) (x y : Int) : MemS := if s.locks[l]? = some x then { s with locks := s.locks.set l y, time := s.time + 1 } else { s with time := s.time + 1 }

theorem pass_calls {w : World} {a : MemA} {s : MemS} (h : IsMem w a s) (hs : Small s.time) (l x y : Int) (h0 : 0 ≤ l) (hl : l < (s.locks.length : Int)) :
    Calls Tryz.prog 124 #[.pointer (some ⟨a.m, 0, none⟩), .int .i64 l, .int .i64 x, .int .i64 y] w fun e w' =>
      e = .returned (.bool (lockIs s l.toNat x)) ∧ IsMem w' a (passed s l.toNat x y) ∧ Kp w w' (fun k => k = a.m ∨ k = a.lb) := by
  obtain ⟨z, hz⟩ := get_of_lt (l := s.locks) (i := l.toNat) (by omega)
  by_cases e : z = x
  · subst e
    simp only [passed, lockIs, hz, if_true, decide_true]
    exact pass_yes h hs l z y h0 hz
  · have hn : ¬ (s.locks[l.toNat]? = some x) := by rw [hz]; exact fun h => e (Option.some.inj h)
    simp only [passed, lockIs, if_neg hn, decide_eq_false hn]
    exact pass_no h hs l z x y h0 hz e

theorem take_calls {w : World} {a : MemA} {s : MemS} (h : IsMem w a s) (hs : Small s.time) (l y : Int) (h0 : 0 ≤ l) (hl : l < (s.locks.length : Int)) (hy : 0 ≤ y) :
    Calls Tryz.prog 73 #[.pointer (some ⟨a.m, 0, none⟩), .int .i64 l, .int .i64 y] w fun e w' =>
      e = .returned (.bool (lockIs s l.toNat (-1))) ∧ IsMem w' a (passed s l.toNat (-1) y) ∧ Kp w w' (fun k => k = a.m ∨ k = a.lb) := by
  have c1 := h.c1
  have hp := pass_calls h hs l (-1) y h0 hl
  clear hs
  go_enter Tryz.func73, Tryz.ntmps73
  go_wp2_with (first | (go_at_call 124; refine hp.mono ?_; rintro e w' ⟨rfl, hM, hK⟩) | go_in)
  go_ret
  exact ⟨rfl, hM, hK⟩

theorem free_calls {w : World} {a : MemA} {s : MemS} (h : IsMem w a s) (hs : Small s.time) (l y : Int) (h0 : 0 ≤ l) (hl : l < (s.locks.length : Int)) (hy : 0 ≤ y) :
    Calls Tryz.prog 83 #[.pointer (some ⟨a.m, 0, none⟩), .int .i64 l, .int .i64 y] w fun e w' =>
      e = .returned (.bool (lockIs s l.toNat y)) ∧ IsMem w' a (passed s l.toNat y (-1)) ∧ Kp w w' (fun k => k = a.m ∨ k = a.lb) := by
  have c1 := h.c1
  have hp := pass_calls h hs l y (-1) h0 hl
  clear hs
  go_enter Tryz.func83, Tryz.ntmps83
  go_wp2_with (first | (go_at_call 124; refine hp.mono ?_; rintro e w' ⟨rfl, hM, hK⟩) | go_in)
  go_ret
  exact ⟨rfl, hM, hK⟩
end Go.Proofs.YtcpaodidpomdaaaGreat

/- A fabric as Make leaves it. -/
import Derived.Test.YtcpaodidpomdaaaGreatFabOps
set_option linter.unusedVariables false
set_option linter.unusedSimpArgs false
set_option maxRecDepth 100000
namespace Go.Proofs.YtcpaodidpomdaaaGreat
open Go.RowKit

/-- The rings as they are new. -/
def FA.rg0 (F : FA) (i j : Nat) : RingS := ring0 (F.E + F.C + i * ((F.p.ports.toNat : Nat) * (F.p.ring + 2)) + j * (F.p.ring + 2)) F.p.ring
/-- A new fabric, in w' since w. -/
structure NewFab (F : FA) (w w' : World) (p : Nums) (rs : List Rule) (vs : List Vl) (s : MemS) : Prop where
  ep : F.p = p
  ers : F.rs = rs
  evs : F.vs = vs
  ewb : F.wb = w
  ew0 : F.w0 = w'
  fab : Fab F w' s F.rg0
  stand : ∀ q : Nat, (q : Int) < p.ports → s.cells[q]? = some 0
  vl : ∀ (j : Nat) v, vs[j]? = some v → s.cells[(p.ports + 2 * j).toNat]? = some (v.mem : Int) ∧ s.cells[(p.ports + 2 * j + 1).toNat]? = some (v.unt : Int)
  zero : ∀ i : Nat, i < s.cells.length → p.ports + 2 * vs.length ≤ (i : Int) → s.cells[i]? = some 0
  locks : ∀ l : Nat, l < s.locks.length → s.locks[l]? = some (-1)
  t1 : s.time ≤ 1000
  below : Below w.heap.size w w'

theorem Made.new {w w' : World} {p : Nums} {rs : List Rule} {vs : List Vl} {f : Nat} {a : MemA} {fd : Nat} {E C : Int} {N K : Nat} {A B : Option Addr} {c d : Nat} {V : Value} {rows : List (Value × List Nat)}
    (h : Made w w' p rs vs f a fd E C N K A B c d V rows) (hg : p.Good) (hv : ∀ v ∈ vs, Vl.Ok p.ports.toNat v) (hri : Rising 0 vs) (hvl : vs.length ≤ 8) (hn : (rs.length : Int) = p.ports) :
    ∃ F s, F.f = f ∧ NewFab F w w' p rs vs s := by
  obtain ⟨cells, τ, hV, hM, h0, h1⟩ := h.mem
  have hp := hg.ports
  refine ⟨⟨w, w', p, rs, vs, f, a, fd, E, C, N, K, A, B, c, d, V, rows⟩, ⟨cells, List.replicate K (-1), τ⟩, rfl, rfl, rfl, rfl, rfl, rfl, ?_, ?_, ?_, ?_, ?_, h1, h.below⟩
  · refine ⟨⟨h, hg, hv, hri, hvl, hn⟩, Kp.refl _ _, hM, hV.len, by simp, ?_⟩
    intro i j r hr
    simp only [FA.ring] at hr
    cases hx : rows[i]? with
    | none => rw [hx] at hr; cases hr
    | some x =>
      rw [hx] at hr
      exact ((h.each i x hx).rings j r hr).1
  · intro q hq
    have hN := h.hN
    have hE := h.hE
    have hC := h.hC
    obtain ⟨s1, s2⟩ := hg.sh
    obtain ⟨b1, b2⟩ := hg.bu
    obtain ⟨l1, l2⟩ := hg.sl
    obtain ⟨r1, r2⟩ := hg.ring
    have x1 := (mul_bd p.sh p.bu 8 16 (by omega) s2 (by omega) b2)
    have x2 := (mul_bd (p.sh * p.bu) (1 + 2 * p.sl) 128 17 x1.1 x1.2 (by omega) (by omega)).1
    have y1 := (mul_bd p.ports p.ports 8 8 (by omega) hp.2 (by omega) hp.2)
    have y2 := (mul_bd (p.ports * p.ports) (p.ring + 2) 64 66 y1.1 y1.2 (by omega) (by omega)).1
    exact hV.zero q (by omega) (.inl hq)
  · intro j v hj
    exact hV.got j v hj (List.getElem?_eq_some_iff.1 hj).1
  · intro i hi hz
    have hl := hV.len
    exact hV.zero i (by have hi : i < cells.length := hi; omega) (.inr hz)
  · intro l hl
    have hl : l < K := by simpa using hl
    show (List.replicate K (-1 : Int))[l]? = some (-1)
    rw [List.getElem?_replicate, if_pos hl]

theorem make19f_calls (w : World) (p : Nums) (A B : Option Addr) (rs : List Rule) (vs : List Vl) (c d : Nat) (hg : p.Good) (hn : (rs.length : Int) = p.ports) (hr : ∀ r ∈ rs, r.Right) (hv : ∀ v ∈ vs, Vl.Ok p.ports.toNat v) (hri : Rising 0 vs) (hvl : vs.length ≤ 8)
    (hA : Rd w A (ruleCells rs)) (hB : Rd w B (vlCells vs)) :
    Calls Tryz.prog 12 #[p.agg (.slice A rs.length c) (.slice B vs.length d)] w fun e w' => ∃ F s, e = .returned (ptr F.f) ∧ NewFab F w w' p rs vs s :=
  (make19_calls w p A B rs vs c d hg hn hr hv hri hvl hA hB).mono fun _ _ ⟨f, a, fd, E, C, N, K, A2, B2, c2, d2, V, rows, e, h⟩ => by
    obtain ⟨F, s, e2, h2⟩ := h.new hg hv hri hvl hn
    exact ⟨F, s, by rw [e, e2], h2⟩
theorem FA.Ok.new {F : FA} (h : F.Ok) {k : Nat} (hk : F.D k) : F.wb.heap.size ≤ k := by
  rcases hk with hk | ⟨x, hx, hr⟩
  · have h1 := h.made.hf
    have h2 := h.made.ha k hk
    omega
  · obtain ⟨i, hi, rfl⟩ := List.getElem_of_mem hx
    obtain ⟨j, hj, rfl⟩ := List.getElem_of_mem hr
    exact ((h.made.each i _ (List.getElem?_eq_getElem hi)).rings j _ (List.getElem?_eq_getElem hj)).2
theorem FA.Ok.sizes {F : FA} (h : F.Ok) : F.wb.heap.size ≤ F.w0.heap.size := h.made.below.size
theorem standW0 : standW 0 0 = 0 := rfl
theorem stand_state (a b : Int) (W : World) : (Instr.field 72 (.agg #[.int .i64 a, .int .u32 b]) 0).run Tryz.prog W = .ok (.int .i64 a) W := by
  simp [Instr.field, go_sem, run_underlying Tryz.underlying72, part, asAgg]
end Go.Proofs.YtcpaodidpomdaaaGreat

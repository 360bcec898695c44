/- A fabric's state: what stands still behind Make, what moves. -/
import Derived.Test.YtcpaodidpomdaaaGreatMk19
set_option linter.unusedVariables false
set_option linter.unusedSimpArgs false
namespace Go.Proofs.YtcpaodidpomdaaaGreat
open Go.RowKit

/-- A fabric: the worlds ahead of Make and behind it, and where its parts lie. -/
structure FA where
  wb : World
  w0 : World
  p : Nums
  rs : List Rule
  vs : List Vl
  f : Nat
  a : MemA
  fd : Nat
  E : Int
  C : Int
  N : Nat
  K : Nat
  A : Option Addr
  B : Option Addr
  c : Nat
  d : Nat
  V : Value
  rows : List (Value × List Nat)
structure FA.Ok (F : FA) : Prop where
  made : Made F.wb F.w0 F.p F.rs F.vs F.f F.a F.fd F.E F.C F.N F.K F.A F.B F.c F.d F.V F.rows
  good : F.p.Good
  vok : ∀ v ∈ F.vs, Vl.Ok F.p.ports.toNat v
  ris : Rising 0 F.vs
  nvl : F.vs.length ≤ 8
  nrs : (F.rs.length : Int) = F.p.ports
/-- The blocks that move. -/
def FA.D (F : FA) (k : Nat) : Prop := F.a.has k ∨ ∃ x ∈ F.rows, k ∈ x.2
/-- The ring from i to j. -/
def FA.ring (F : FA) (i j : Nat) : Option Nat := (F.rows[i]?).bind fun x => x.2[j]?

structure Fab (F : FA) (w : World) (s : MemS) (rg : Nat → Nat → RingS) : Prop where
  ok : F.Ok
  kp : Kp F.w0 w F.D
  mem : IsMem w F.a s
  nc : s.cells.length = F.N
  nl : s.locks.length = F.K
  ring : ∀ i j r, F.ring i j = some r → IsRing w r F.a.m (rg i j)

section
variable {F : FA} {w w1 : World} {s s1 : MemS} {rg : Nat → Nat → RingS} {S : Nat → Prop}
theorem FA.Ok.mem0 (h : F.Ok) : ∃ s, IsMem F.w0 F.a s := by
  obtain ⟨c, t, _, hm, _⟩ := h.made.mem
  exact ⟨_, hm⟩
theorem FA.Ok.ring0 (h : F.Ok) {x : Value × List Nat} (hx : x ∈ F.rows) {r : Nat} (hr : r ∈ x.2) : ∃ c, IsRing F.w0 r F.a.m c := by
  obtain ⟨i, hi, rfl⟩ := List.getElem_of_mem hx
  exact (h.made.each i _ (List.getElem?_eq_getElem hi)).ring hr
/-- A block of another type than those that move stands still. -/
theorem FA.Ok.still (h : F.Ok) {b : Nat} {cs : List Value} {T : TypeId} (hb : Blk F.w0 b cs T) (h1 : T ≠ 161) (h2 : T ≠ 33) (h3 : T ≠ 3) (h4 : T ≠ 158) : ¬ F.D b := by
  obtain ⟨s, hm⟩ := h.mem0
  rintro ((e | e | e) | ⟨x, hx, hr⟩)
  · exact hb.ne hm.hm h1 e
  · exact hb.ne hm.hc h2 e
  · exact hb.ne hm.hl h3 e
  · obtain ⟨c, hc⟩ := h.ring0 hx hr
    exact hb.ne hc.out h4 rfl
theorem FA.Ok.stillO (h : F.Ok) {base n sz : Nat} {v : Value} {xs : List Value} {T : TypeId} (hb : Own F.w0 base T sz v n xs) (h1 : T ≠ 161) (h2 : T ≠ 33) (h3 : T ≠ 3) (h4 : T ≠ 158) {b : Nat} (e : v.ownBlock = some b) : ¬ F.D b := by
  obtain ⟨s, hm⟩ := h.mem0
  rintro ((e' | e' | e') | ⟨x, hx, hr⟩)
  · exact hb.ne_blk hm.hm h1 (e' ▸ e)
  · exact hb.ne_blk hm.hc h2 (e' ▸ e)
  · exact hb.ne_blk hm.hl h3 (e' ▸ e)
  · obtain ⟨c, hc⟩ := h.ring0 hx hr
    exact hb.ne_blk hc.out h4 e
theorem FA.Ok.old (h : F.Ok) {b : Nat} (hb : F.D b) : b < F.w0.heap.size := by
  obtain ⟨s, hm⟩ := h.mem0
  rcases hb with ((rfl | rfl | rfl) | ⟨x, hx, hr⟩)
  · exact hm.hm.lt
  · exact hm.hc.lt
  · exact hm.hl.lt
  · obtain ⟨c, hc⟩ := h.ring0 hx hr
    exact hc.out.lt
theorem FA.ring_D {i j r : Nat} (h : F.ring i j = some r) : ∃ x ∈ F.rows, r ∈ x.2 := by
  unfold FA.ring at h
  cases hx : F.rows[i]? with
  | none => rw [hx] at h; cases h
  | some x => rw [hx] at h; exact ⟨x, List.mem_of_getElem? hx, List.mem_of_getElem? h⟩
theorem Fab.fab (h : Fab F w s rg) : Blk w F.f (fabCells F.p (.slice F.A F.rs.length F.c) (.slice F.B F.vs.length F.d) F.a.m (ptr F.fd) F.V) 144 :=
  h.ok.made.fab.kp h.kp (h.ok.still h.ok.made.fab (by decide) (by decide) (by decide) (by decide))
theorem Fab.ownV (h : Fab F w s rg) : Own w F.wb.heap.size 182 3 (.slice F.B F.vs.length F.d) F.vs.length (vlCells F.vs) :=
  h.ok.made.ownV.kp h.kp (fun b e => h.ok.stillO h.ok.made.ownV (by decide) (by decide) (by decide) (by decide) e)
theorem Fab.ownR (h : Fab F w s rg) : Own w F.wb.heap.size 187 2 (.slice F.A F.rs.length F.c) F.rs.length (ruleCells F.rs) :=
  h.ok.made.ownR.kp h.kp (fun b e => h.ok.stillO h.ok.made.ownR (by decide) (by decide) (by decide) (by decide) e)
theorem Fab.fdb (h : Fab F w s rg) : IsFdb w F.fd F.a.m F.E F.p.ports F.p.sh F.p.bu F.p.sl F.p.tries :=
  ⟨h.ok.made.fdb.out.kp h.kp (h.ok.still h.ok.made.fdb.out (by decide) (by decide) (by decide) (by decide))⟩
theorem Fab.rd {A : Option Addr} {n c : Nat} {T : TypeId} {sz base : Nat} {xs : List Value} (h : Own w base T sz (.slice A n c) n xs) : Rd w A xs := by
  obtain ⟨_, _, e, _, _, h, _⟩ := h.slice
  cases e
  exact h
theorem Fab.vl (h : Fab F w s rg) : Rd w F.B (vlCells F.vs) := Fab.rd h.ownV
theorem Fab.rl (h : Fab F w s rg) : Rd w F.A (ruleCells F.rs) := Fab.rd h.ownR
/-- Only blocks that came behind Make have turned. -/
theorem Fab.past (h : Fab F w s rg) (k : Kp w w1 S) (hn : ∀ b, S b → F.w0.heap.size ≤ b) : Fab F w1 s rg :=
  have hD : ∀ b, F.D b → ¬ S b := fun b hb e => by have := h.ok.old hb; have := hn b e; omega
  ⟨h.ok, h.kp.trans k (fun b hb e => absurd (hn b e) (by omega)), h.mem.kp k (fun b hb => hD b (.inl hb)), h.nc, h.nl, fun i j r hr => (h.ring i j r hr).kp k (hD r (.inr (FA.ring_D hr)))⟩
theorem Fab.below (h : Fab F w s rg) (k : Below w.heap.size w w1) : Fab F w1 s rg := h.past (Kp.of_below (S := fun _ => False) k) (fun _ h => h.elim)
theorem Fab.drew (h : Fab F w s rg) : Fab F w.drew s rg := h.past (Kp.refl w (fun _ => False)).drew (fun _ h => h.elim)
theorem Fab.alloc (h : Fab F w s rg) (o : Obj) : Fab F (w.alloc o) s rg := h.past ((Kp.refl w (fun _ => False)).alloc o) (fun _ h => h.elim)
/-- The memory has turned, nothing else of the fabric's. -/
theorem Fab.turn (h : Fab F w s rg) (hm : IsMem w1 F.a s1) (k : Kp w w1 S) (hS : ∀ b, S b → F.a.has b ∨ F.w0.heap.size ≤ b) (hc : s1.cells.length = s.cells.length) (hl : s1.locks.length = s.locks.length) : Fab F w1 s1 rg :=
  ⟨h.ok, h.kp.trans k (fun b hb e => (hS b e).elim .inl (fun e => by omega)), hm, hc.trans h.nc, hl.trans h.nl, fun i j r hr => (h.ring i j r hr).kp k (fun e => by
    rcases hS r e with e | e
    · exact (h.ring i j r hr).off_mem h.mem e
    · have := h.ok.old (.inr (FA.ring_D hr)); omega)⟩
end
end Go.Proofs.YtcpaodidpomdaaaGreat

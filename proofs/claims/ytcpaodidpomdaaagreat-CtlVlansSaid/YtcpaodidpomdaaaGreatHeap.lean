/- Words on memory: a block known whole (Blk), what a call keeps (Kp), a row of cells that is read (Rd). No program in sight. -/
import Derived.Below
import Derived.WalkKit
import Derived.OwnWalk
import Derived.KernelRfl
import Derived.Maps.AppendAt
import Derived.Deep.Draws
import Derived.Deep.OwnRows
import Derived.Laws.OwnMore
import Derived.Deep.AppendLies
import Derived.Deep.Onto
import Derived.Deep.QuietTactic
import Derived.BigQuiet
import Derived.Lib.Hide
set_option linter.unusedVariables false
set_option linter.unusedSimpArgs false
namespace Go.Proofs.YtcpaodidpomdaaaGreat
open Go.RowKit

theorem get_of_lt {α : Type} {l : List α} {i : Nat} (h : i < l.length) : ∃ v, l[i]? = some v := ⟨l[i], List.getElem?_eq_getElem h⟩
abbrev ptr (b : Nat) : Value := .pointer (some ⟨b, 0, none⟩)
abbrev fnv (f : FuncId) : Value := .func (.func f) #[] #[]

/-- Block b of w holds just the cells cs, of type T, none of them frozen. -/
structure Blk (w : World) (b : Nat) (cs : List Value) (T : TypeId) : Prop where
  out : w.heap[b]? = some (.cells cs.toArray T (0, 0))

/-- What a call keeps: all blocks that there were, but those of S. -/
structure Kp (w w' : World) (S : Nat → Prop) : Prop where
  os : w'.os = w.os
  tape : w'.tape = w.tape
  output : w'.output = w.output
  size : w.heap.size ≤ w'.heap.size
  block : ∀ k, k < w.heap.size → ¬ S k → w'.heap[k]? = w.heap[k]?

section
variable {w w1 w2 : World} {S S1 S2 : Nat → Prop}
theorem Kp.refl (w : World) (S : Nat → Prop) : Kp w w S := ⟨rfl, rfl, rfl, Nat.le_refl _, fun _ _ _ => rfl⟩
theorem Kp.mono (h : Kp w w1 S) (hs : ∀ k, k < w.heap.size → S k → S1 k) : Kp w w1 S1 :=
  ⟨h.os, h.tape, h.output, h.size, fun k hk hn => h.block k hk (fun hk' => hn (hs k hk hk'))⟩
theorem Kp.trans (h : Kp w w1 S) (k : Kp w1 w2 S2) (hs : ∀ b, b < w.heap.size → S2 b → S b) : Kp w w2 S :=
  ⟨k.os.trans h.os, k.tape.trans h.tape, k.output.trans h.output, Nat.le_trans h.size k.size,
    fun b hb hn => (k.block b (Nat.lt_of_lt_of_le hb h.size) (fun h2 => hn (hs b hb h2))).trans (h.block b hb hn)⟩
theorem Kp.alloc (h : Kp w w1 S) (o : Obj) : Kp w (w1.alloc o) S :=
  h.trans (S2 := fun _ => False) ⟨rfl, rfl, rfl, by simp, fun k hk _ => Below.heap_alloc _ _ _ hk⟩ (fun _ _ h => h.elim)
theorem Kp.drew (h : Kp w w1 S) : Kp w w1.drew S := ⟨h.os, h.tape, h.output, h.size, h.block⟩
theorem Kp.drewN (h : Kp w w1 S) (n : Nat) : Kp w (w1.drewN n) S := ⟨h.os, h.tape, h.output, h.size, h.block⟩
theorem Kp.setCell (h : Kp w w1 S) {p : Addr} (hp : p.block < w.heap.size → S p.block) (u : Value) : Kp w (w1.setCell p u) S :=
  h.trans (S2 := fun k => k = p.block) ⟨rfl, rfl, rfl, by simp [World.setCell], fun k _ hn => Below.heap_setCell w1 p u k hn⟩ (fun k hk he => by subst he; exact hp hk)
theorem Kp.of_below (h : Below w.heap.size w w1) : Kp w w1 S := ⟨h.os, h.tape, h.output, h.size, fun k hk _ => h.block k hk⟩
theorem Kp.grown {row : Option Nat} (h : Kp w w1 S) (hg : w1.grownBy w2 row) (hr : ∀ k, row = some k → k < w.heap.size → S k) : Kp w w2 S :=
  h.trans (S2 := fun k => row = some k) ⟨hg.os, hg.tape, hg.output, hg.size, fun k hk hn => hg.block k hk (fun he => hn he.symm)⟩ (fun k hk he => hr k he hk)
/-- Nothing that was there has turned. -/
theorem Kp.below (h : Kp w w1 S) (hs : ∀ k, k < w.heap.size → ¬ S k) : Below w.heap.size w w1 := ⟨h.os, h.tape, h.output, h.size, fun k hk => h.block k hk (hs k hk)⟩
theorem Kp.toBelow (h : Kp w w1 (fun _ => False)) : Below w.heap.size w w1 := h.below (fun _ _ h => h)
theorem Below.drawn {B : Nat} (h : Below B w w1) (n : Nat) : Below B w (w1.drewN n) := ⟨h.os, h.tape, h.output, h.size, h.block⟩
end

section
variable {w w1 : World} {b : Nat} {cs cs' : List Value} {T T' : TypeId} {S : Nat → Prop}
theorem Blk.lt (h : Blk w b cs T) : b < w.heap.size := (Array.getElem?_eq_some_iff.1 h.out).1
theorem Blk.kp (h : Blk w b cs T) (k : Kp w w1 S) (hn : ¬ S b) : Blk w1 b cs T := ⟨(k.block b h.lt hn).trans h.out⟩
theorem Blk.below (h : Blk w b cs T) (k : Below w.heap.size w w1) : Blk w1 b cs T := ⟨(k.block b h.lt).trans h.out⟩
theorem Blk.cell (h : Blk w b cs T) (i : Nat) : w.cell? ⟨b, i, none⟩ = cs[i]? := by
  rw [cell_of_row w b i _ T (0, 0) h.out]; simp
theorem Blk.get (h : Blk w b cs T) (i : Nat) {v : Value} (hv : cs[i]? = some v) : w.cell? ⟨b, i, none⟩ = some v := (h.cell i).trans hv
theorem Blk.frozen (h : Blk w b cs T) (i : Nat) : w.frozen? ⟨b, i, none⟩ = false := by simp [World.frozen?, h.out]
theorem Blk.set (h : Blk w b cs T) (i : Nat) (u : Value) : Blk (w.setCell ⟨b, i, none⟩ u) b (cs.set i u) T := by
  refine ⟨?_⟩
  simp only [World.setCell, Array.getElem?_modify, h.out]
  simp
theorem Blk.put (h : Blk w b cs T) (i : Nat) (u : Value) (e : cs.set i u = cs') : Blk (w.setCell ⟨b, i, none⟩ u) b cs' T := e ▸ h.set i u
theorem Blk.far (h : Blk w b cs T) {p : Addr} (hp : b ≠ p.block) (u : Value) : Blk (w.setCell p u) b cs T := ⟨(Below.heap_setCell w p u b hp).trans h.out⟩
theorem Blk.alloc (h : Blk w b cs T) (o : Obj) : Blk (w.alloc o) b cs T := ⟨(Below.heap_alloc w o b h.lt).trans h.out⟩
theorem Blk.drew (h : Blk w b cs T) : Blk w.drew b cs T := ⟨h.out⟩
theorem Blk.drewN (h : Blk w b cs T) (n : Nat) : Blk (w.drewN n) b cs T := ⟨h.out⟩
theorem Blk.new (w : World) (cs : List Value) (T : TypeId) : Blk (w.alloc (.cells cs.toArray T)) w.heap.size cs T := ⟨heap_alloc_new w _⟩
theorem Blk.new' (w : World) (cs : List Value) (T : TypeId) {b : Nat} (hb : b = w.heap.size) : Blk (w.alloc (.cells cs.toArray T)) b cs T := by subst hb; exact Blk.new w cs T
theorem Blk.made (w : World) (z : Value) (n : Nat) (T : TypeId) : Blk (w.alloc (.cells (madeCells #[z] n) T)) w.heap.size (List.replicate n z) T := by
  have e : (madeCells #[z] n) = (List.replicate n z).toArray := by
    apply Array.ext
    · simp [madeCells]
    · intro i h1 h2
      simp [madeCells, Nat.mod_one]
  rw [e]
  exact Blk.new w _ T
theorem Blk.ne (h : Blk w b cs T) {b' : Nat} (h' : Blk w b' cs' T') (hT : T ≠ T') : b ≠ b' := by
  rintro rfl
  have := h.out.symm.trans h'.out
  injection this with this
  injection this with _ ht
  exact hT ht
theorem Blk.same (h : Blk w b cs T) (h' : Blk w b cs' T) : cs = cs' := by
  have := h.out.symm.trans h'.out
  injection this with this
  injection this with hc
  simpa using congrArg Array.toList hc
end

/-- A cell of a block that a call keeps. -/
theorem Kp.cell {w w1 : World} {S : Nat → Prop} (k : Kp w w1 S) {a : Addr} {v : Value} (h : w.cell? a = some v) (hn : ¬ S a.block) : w1.cell? a = some v := by
  rw [World.cell?_of_block (w := w) (k.block a.block (World.block_lt_of_cell? w _ h) hn)]
  exact h

/-- A row of cells from an address on, as far as it is read; of an empty one nothing is said. -/
structure Rd (w : World) (A : Option Addr) (xs : List Value) : Prop where
  out : ∀ j v, xs[j]? = some v → ∃ b o, A = some ⟨b, o, none⟩ ∧ w.cell? ⟨b, o + j, none⟩ = some v
section
variable {w w1 : World} {A : Option Addr} {xs : List Value} {S : Nat → Prop}
theorem Rd.nil (w : World) (A : Option Addr) : Rd w A [] := ⟨fun j v h => by simp at h⟩
theorem Rd.kp (h : Rd w A xs) (k : Kp w w1 S) (hn : ∀ b o, A = some ⟨b, o, none⟩ → ¬ S b) : Rd w1 A xs := ⟨fun j v hv => by
  obtain ⟨b, o, rfl, hc⟩ := h.out j v hv
  refine ⟨b, o, rfl, ?_⟩
  rw [World.cell?_of_block (w := w) (k.block b (World.block_lt_of_cell? w _ hc) (hn b o rfl))]
  exact hc⟩
theorem Rd.below (h : Rd w A xs) (k : Below w.heap.size w w1) : Rd w1 A xs := h.kp (Kp.of_below (S := fun _ => False) k) (fun _ _ _ h => h)
theorem Rd.of_blk {b : Nat} {T : TypeId} (h : Blk w b xs T) : Rd w (some ⟨b, 0, none⟩) xs := ⟨fun j v hv => ⟨b, 0, rfl, by rw [Nat.zero_add]; exact h.get j hv⟩⟩
end

/-- A slice of the call's own, from block base on: it bears these cells. -/
structure Own (w : World) (base : Nat) (T : TypeId) (sz : Nat) (v : Value) (n : Nat) (xs : List Value) : Prop where
  out : w.ownsRow base T sz v n xs
section
variable {w w1 : World} {base n sz : Nat} {T : TypeId} {v : Value} {xs : List Value} {S : Nat → Prop}
theorem Own.nil (w : World) (base : Nat) (T : TypeId) (sz : Nat) : Own w base T sz (.slice none 0 0) 0 [] := ⟨World.ownsRow_nil w base T sz⟩
theorem Own.lt (h : Own w base T sz v n xs) {k : Nat} (hk : v.ownBlock = some k) : base ≤ k ∧ k < w.heap.size := h.out.lt k hk
theorem Own.kp (h : Own w base T sz v n xs) (k : Kp w w1 S) (hn : ∀ b, v.ownBlock = some b → ¬ S b) : Own w1 base T sz v n xs := by
  refine ⟨h.out.1, ?_⟩
  rcases h.out.2 with hnil | ⟨g, cap, cur, rfl, hb, hg, rest⟩
  · exact .inl hnil
  · exact .inr ⟨g, cap, cur, rfl, hb, (k.block g (Array.getElem?_eq_some_iff.1 hg).1 (hn g rfl)).trans hg, rest⟩
theorem Own.len (h : Own w base T sz v n xs) : xs.length = n * sz := h.out.1
theorem Own.slice (h : Own w base T sz v n xs) : ∃ A c, v = .slice A n c ∧ n ≤ c ∧ c ≤ maxLen ∧ Rd w A xs ∧ (∀ b o, A = some ⟨b, o, none⟩ → base ≤ b ∧ b < w.heap.size ∧ v.ownBlock = some b) := by
  rcases h.out.2 with ⟨rfl, rfl⟩ | ⟨g, cap, cur, rfl, hb, hg, hnc, hcm, hsz, htake⟩
  · have : xs = [] := List.eq_nil_of_length_eq_zero (by have := h.out.1; omega)
    subst this
    exact ⟨none, 0, rfl, Nat.le_refl _, by simp [maxLen], Rd.nil _ _, fun b o h => by cases h⟩
  · refine ⟨_, cap, rfl, hnc, hcm, ⟨fun j u hu => ⟨g, 0, rfl, ?_⟩⟩, ?_⟩
    · have := h.out.cells (g := g) rfl j u hu
      have ha : (⟨g, 0, none⟩ : Addr).add j = ⟨g, 0 + j, none⟩ := by unfold Addr.add; split <;> simp_all
      rwa [ha] at this
    · rintro b o e
      cases e
      exact ⟨hb, (Array.getElem?_eq_some_iff.1 hg).1, rfl⟩
theorem Own.mono {base' : Nat} (h : Own w base T sz v n xs) (hb : base' ≤ base) : Own w base' T sz v n xs :=
  ⟨h.out.1, h.out.2.imp id fun ⟨g, cap, cur, h1, h2, h3⟩ => ⟨g, cap, cur, h1, Nat.le_trans hb h2, h3⟩⟩
theorem Own.ne_blk (h : Own w base T sz v n xs) {b : Nat} {cs : List Value} {T' : TypeId} (hb : Blk w b cs T') (hT : T ≠ T') : v.ownBlock ≠ some b := by
  intro hk
  rcases h.out.2 with ⟨rfl, _⟩ | ⟨g, cap, cur, rfl, _, hg, _⟩
  · cases hk
  · have : g = b := by simpa [Value.ownBlock] using hk
    subst this
    have e := hg.symm.trans hb.out
    injection e with e
    injection e with _ ht
    exact hT ht
theorem Own.ne_own {base' n' sz' : Nat} {T' : TypeId} {v' : Value} {xs' : List Value} (h : Own w base T sz v n xs) (h' : Own w base' T' sz' v' n' xs') (hT : T ≠ T') {k : Nat} (hk : v.ownBlock = some k) : v'.ownBlock ≠ some k := by
  intro hk'
  rcases h.out.2 with ⟨rfl, _⟩ | ⟨g, cap, cur, rfl, _, hg, _⟩
  · cases hk
  · rcases h'.out.2 with ⟨rfl, _⟩ | ⟨g', cap', cur', rfl, _, hg', _⟩
    · cases hk'
    · have e1 : g = k := by simpa [Value.ownBlock] using hk
      have e2 : g' = k := by simpa [Value.ownBlock] using hk'
      subst e1; subst e2
      have e := hg.symm.trans hg'
      injection e with e
      injection e with _ ht
      exact hT ht
end

section
variable {w : World} {base n sz : Nat} {T : TypeId} {v : Value} {xs : List Value}
theorem Own.alloc (h : Own w base T sz v n xs) (o : Obj) : Own (w.alloc o) base T sz v n xs := h.kp ((Kp.refl w (fun _ => False)).alloc o) (fun _ _ h => h)
theorem Own.drew (h : Own w base T sz v n xs) : Own w.drew base T sz v n xs := h.kp (Kp.refl w (fun _ => False)).drew (fun _ _ h => h)
theorem Own.drewN (h : Own w base T sz v n xs) (m : Nat) : Own (w.drewN m) base T sz v n xs := h.kp ((Kp.refl w (fun _ => False)).drewN m) (fun _ _ h => h)
theorem Own.far (h : Own w base T sz v n xs) {p : Addr} (hp : v.ownBlock ≠ some p.block) (u : Value) : Own (w.setCell p u) base T sz v n xs :=
  h.kp ((Kp.refl w (fun k => k = p.block)).setCell (fun _ => rfl) u) (fun b hb e => hp (e ▸ hb))
end
/-- A callee that leaves the world as it is, inside a region that draws. -/
theorem quiet_eq {P : Program} {f : FuncId} {args : Array Value} {w : World} {n : Nat} {v : Value}
    (h : Calls P f args (w.drewN n) fun e w' => e = .returned v ∧ w.drewN n = w') : Calls P f args (w.drewN n) fun e w'' => e = .returned v ∧ ∃ m, w'' = w.drewN m :=
  h.mono fun _ _ ⟨he, hm⟩ => ⟨he, n, hm.symm⟩

/-- 'append(v, x)', x laid in a block of its own just ahead. -/
theorem own_append1 {P : Program} {ops : Array Oper} {rest : List Oper} {o : Oper} {a : Act} {Q : Exit → Act → World → Prop} {W : World} (hgd : o.guard = none) (s x : Operand) (t e : TypeId) (base sz bytes n : Nat)
    (ho : o.op = .call { callee := .builtin .append, args := #[s, x], argTypes := #[t, t] })
    (ht : P.underlying t = some (.slice e)) (hinfo : (P.info? e).map (fun i => (i.zero.map (·.cells.size), i.size, i.bytes)) = some (some sz, sz, bytes)) (hpos : 0 < sz)
    (v : Value) (xs news : List Value) (hs : a.eval s = v) (hx : a.eval x = .slice (some ⟨W.heap.size, 0, none⟩) 1 1) (hlen : news.length = sz) (h1 : ∀ u ∈ news, u.oneCell' = true)
    (HO : Own W base e sz v n xs) (hbase : base ≤ W.heap.size) (hmax : n + 1 ≤ maxLen) (hl : (n + 1) * bytes ≤ 140737488355328)
    (h : ∀ v1 w1, Own w1 base e sz v1 (n + 1) (xs ++ news) → Kp W w1 (fun k => v.ownBlock = some k) → (∀ k, v1.ownBlock = some k → v.ownBlock = some k ∨ W.heap.size ≤ k) → wpList P ops Q rest (a.put o.dst v1) w1) :
    wpList P ops Q (o :: rest) a (W.alloc (.cells news.toArray e)) := by
  obtain ⟨i0, hi, hzz⟩ := Option.map_eq_some_iff.1 hinfo
  simp only [Prod.mk.injEq] at hzz
  obtain ⟨hz0, hz1, hz2⟩ := hzz
  obtain ⟨z, hz, hzs⟩ := Option.map_eq_some_iff.1 hz0
  refine wpList_append_own_at (W.alloc (.cells news.toArray e)) hgd s x t ho base e i0 z sz bytes ht hi hz hz1 hz2 hzs hpos v n xs hs (HO.out.alloc _) ⟨W.heap.size, 0, none⟩ 1 1 news hx (by omega)
    (World.news_of_block (cs := news.toArray) (t := e) (fr := (0, 0)) (heap_alloc_new W _)) h1 hmax hl (by simp; omega) ?_
  intro v1 w1 hown hg _ hat
  refine h v1 w1 ⟨hown⟩ (((Kp.refl W _).alloc _).grown hg (fun k hk _ => hk)) ?_
  intro k hk
  rcases hat with hat | hat
  · exact .inl (hat ▸ hk)
  · rw [hat] at hk
    simp at hk
    exact .inr (by omega)

/-- The same inside a region that draws: an arm of go_region_held3. -/
theorem own_step {P : Program} {ops : Array Oper} {o : Oper} {a : Act} {K : Act → World → Prop} {Q : Exit → Act → World → Prop} {E : Prop} {W : World} (hgd : o.guard = none) (s x : Operand) (t e : TypeId) (base sz bytes n : Nat)
    (ho : o.op = .call { callee := .builtin .append, args := #[s, x], argTypes := #[t, t] })
    (ht : P.underlying t = some (.slice e)) (hinfo : (P.info? e).map (fun i => (i.zero.map (·.cells.size), i.size, i.bytes)) = some (some sz, sz, bytes)) (hpos : 0 < sz)
    (v : Value) (xs news : List Value) (hs : a.eval s = v) (hx : a.eval x = .slice (some ⟨W.heap.size, 0, none⟩) 1 1) (hlen : news.length = sz) (h1 : ∀ u ∈ news, u.oneCell' = true)
    (HO : Own W base e sz v n xs) (hbase : base ≤ W.heap.size) (hmax : n + 1 ≤ maxLen) (hl : (n + 1) * bytes ≤ 140737488355328)
    (h : ∀ g cap w1, Own w1 base e sz (.slice (some ⟨g, 0, none⟩) (n + 1) cap) (n + 1) (xs ++ news) → Kp W w1 (fun k => v.ownBlock = some k) → (v.ownBlock = some g ∨ W.heap.size ≤ g) → W.heap.size < w1.heap.size → K (a.put o.dst (.slice (some ⟨g, 0, none⟩) (n + 1) cap)) w1) :
    if Region.wanted o (yielded ops a.tmps) = true then Oper.wp P o a (W.alloc (.cells news.toArray e)).drew K Q else E := by
  obtain ⟨i0, hi, hzz⟩ := Option.map_eq_some_iff.1 hinfo
  simp only [Prod.mk.injEq] at hzz
  obtain ⟨hz0, hz1, hz2⟩ := hzz
  obtain ⟨z, hz, hzs⟩ := Option.map_eq_some_iff.1 hz0
  refine step_append_lies _ hgd s x t ho base e i0 z sz bytes ht hi hz hz1 hz2 hzs hpos v n xs hs ((HO.out.alloc _).drew)
    ⟨W.heap.size, 0, none⟩ 1 1 news hx (by omega) (World.news_of_block (cs := news.toArray) (t := e) (fr := (0, 0)) (heap_alloc_new W _)) h1 (by omega) hmax hl (by simp; omega) (W.heap.size + 1) (by simp) ?_
  intro g cap w1 hown hg hat hlt
  have hk := (((Kp.refl W (fun k => v.ownBlock = some k)).alloc (.cells news.toArray e)).drew).grown hg (fun k hk _ => hk)
  refine h g cap w1 ⟨hown⟩ hk ?_ ?_
  · rcases hat with hat | hat
    · exact .inl hat
    · exact .inr (by omega)
  · have := hg.size
    simp at this
    omega

/-- 'append(v, xs...)', xs a slice that is read. -/
theorem own_appendRow {P : Program} {ops : Array Oper} {rest : List Oper} {o : Oper} {a : Act} {Q : Exit → Act → World → Prop} {W : World} (hgd : o.guard = none) (s x : Operand) (t e : TypeId) (base sz bytes n m c : Nat)
    (ho : o.op = .call { callee := .builtin .append, args := #[s, x], argTypes := #[t, t] })
    (ht : P.underlying t = some (.slice e)) (hinfo : (P.info? e).map (fun i => (i.zero.map (·.cells.size), i.size, i.bytes)) = some (some sz, sz, bytes)) (hpos : 0 < sz)
    (v : Value) (xs news : List Value) (b' o' : Nat) (hs : a.eval s = v) (hx : a.eval x = .slice (some ⟨b', o', none⟩) m c) (hlen : news.length = m * sz) (h1 : ∀ u ∈ news, u.oneCell' = true)
    (HO : Own W base e sz v n xs) (hR : Rd W (some ⟨b', o', none⟩) news) (hbase : base ≤ W.heap.size) (hmax : n + m ≤ maxLen) (hl : (n + m) * bytes ≤ 140737488355328)
    (h : ∀ v1 w1, Own w1 base e sz v1 (n + m) (xs ++ news) → Kp W w1 (fun k => v.ownBlock = some k) → (∀ k, v1.ownBlock = some k → v.ownBlock = some k ∨ W.heap.size ≤ k) → wpList P ops Q rest (a.put o.dst v1) w1) :
    wpList P ops Q (o :: rest) a W := by
  obtain ⟨i0, hi, hzz⟩ := Option.map_eq_some_iff.1 hinfo
  simp only [Prod.mk.injEq] at hzz
  obtain ⟨hz0, hz1, hz2⟩ := hzz
  obtain ⟨z, hz, hzs⟩ := Option.map_eq_some_iff.1 hz0
  refine wpList_append_own_at W hgd s x t ho base e i0 z sz bytes ht hi hz hz1 hz2 hzs hpos v n xs hs HO.out ⟨b', o', none⟩ m c news hx hlen ?_ h1 hmax hl hbase ?_
  · intro j u hu
    obtain ⟨b2, o2, e2, hc⟩ := hR.out j u hu
    cases e2
    have ha : (⟨b', o', none⟩ : Addr).add j = ⟨b', o' + j, none⟩ := by unfold Addr.add; split <;> simp_all
    rw [ha]
    exact hc
  · intro v1 w1 hown hg _ hat
    refine h v1 w1 ⟨hown⟩ ((Kp.refl W _).grown hg (fun k hk _ => hk)) ?_
    intro k hk
    rcases hat with hat | hat
    · exact .inl (hat ▸ hk)
    · rw [hat] at hk
      simp at hk
      exact .inr (by omega)
end Go.Proofs.YtcpaodidpomdaaaGreat

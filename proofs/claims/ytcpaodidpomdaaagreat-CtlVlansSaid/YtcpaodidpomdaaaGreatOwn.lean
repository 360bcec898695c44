/- A slice of one's own, cell by cell: what is read, what is set. -/
import Derived.Test.YtcpaodidpomdaaaGreatHeap
import Derived.Deep.AppendLies
set_option linter.unusedVariables false
set_option linter.unusedSimpArgs false
namespace Go.Proofs.YtcpaodidpomdaaaGreat
open Go.RowKit

section
variable {w w1 : World} {base n sz g c : Nat} {T : TypeId} {v : Value} {xs : List Value}
theorem Own.pos (h : Own w base T sz v n xs) (hn : 0 < n) : ∃ g c, v = .slice (some ⟨g, 0, none⟩) n c ∧ base ≤ g ∧ g < w.heap.size := h.out.form hn
theorem Own.raw (h : Own w base T sz (.slice (some ⟨g, 0, none⟩) n c) n xs) : ∃ cur : Array Value, w.heap[g]? = some (.cells cur T (0, 0)) ∧ cur.size = c * sz ∧ n ≤ c ∧ c ≤ maxLen ∧ cur.toList.take (n * sz) = xs ∧ base ≤ g ∧ xs.length = n * sz := by
  have hl := h.out.1
  rcases h.out.2 with ⟨e, _⟩ | ⟨g', cap, cur, e, hb, hg, hnc, hcm, hsz, htake⟩
  · cases e
  · cases e
    exact ⟨cur, hg, hsz, hnc, hcm, htake, hb, hl⟩
theorem Own.getc (h : Own w base T sz (.slice (some ⟨g, 0, none⟩) n c) n xs) {i : Nat} {u : Value} (hu : xs[i]? = some u) : w.cell? ⟨g, i, none⟩ = some u := by
  obtain ⟨cur, hg, hs, hn, hm, ht, hb, hl⟩ := h.raw
  rw [cell_of_row w g i cur T (0, 0) hg]
  have : xs[i]? = (cur.toList.take (n * sz))[i]? := by rw [ht]
  rw [hu] at this
  have hi : i < n * sz := by rw [← hl]; exact (List.getElem?_eq_some_iff.1 hu).1
  rw [List.getElem?_take_of_lt hi] at this
  simpa using this.symm
theorem Own.free (h : Own w base T sz (.slice (some ⟨g, 0, none⟩) n c) n xs) (i : Nat) : w.frozen? ⟨g, i, none⟩ = false := by
  obtain ⟨cur, hg, hs, hn, hm, ht, hb, hl⟩ := h.raw
  simp [World.frozen?, hg]
theorem Own.setc (h : Own w base T sz (.slice (some ⟨g, 0, none⟩) n c) n xs) (i : Nat) (u : Value) : Own (w.setCell ⟨g, i, none⟩ u) base T sz (.slice (some ⟨g, 0, none⟩) n c) n (xs.set i u) := by
  obtain ⟨cur, hg, hs, hn, hm, ht, hb, hl⟩ := h.raw
  refine ⟨by simpa using hl, .inr ⟨g, c, cur.setIfInBounds i u, rfl, hb, ?_, hn, hm, by simpa using hs, ?_⟩⟩
  · simp only [World.setCell, Array.getElem?_modify, hg]
    simp
  · simp only [Array.toList_setIfInBounds]
    rw [← ht]
    exact List.take_set
theorem Own.putc {ys : List Value} (h : Own w base T sz (.slice (some ⟨g, 0, none⟩) n c) n xs) (i : Nat) (u : Value) (e : xs.set i u = ys) : Own (w.setCell ⟨g, i, none⟩ u) base T sz (.slice (some ⟨g, 0, none⟩) n c) n ys := e ▸ h.setc i u
/-- A block laid as a literal. -/
theorem Own.lit (w : World) (cs : List Value) (T : TypeId) (sz n : Nat) (hn : cs.length = n * sz) (hm : n ≤ maxLen) {base : Nat} (hb : base ≤ w.heap.size) : Own (w.alloc (.cells cs.toArray T)) base T sz (.slice (some ⟨w.heap.size, 0, none⟩) n n) n cs :=
  ⟨hn, .inr ⟨w.heap.size, n, cs.toArray, rfl, hb, heap_alloc_new w _, Nat.le_refl _, hm, by simpa using hn, by rw [← hn]; simp⟩⟩
theorem Own.lt' (h : Own w base T sz (.slice (some ⟨g, 0, none⟩) n c) n xs) : base ≤ g ∧ g < w.heap.size := h.lt rfl
theorem Own.le_cap (h : Own w base T sz (.slice (some ⟨g, 0, none⟩) n c) n xs) : n ≤ c := by
  obtain ⟨cur, hg, hs, hn, hm, ht, hb, hl⟩ := h.raw
  exact hn
end
end Go.Proofs.YtcpaodidpomdaaaGreat

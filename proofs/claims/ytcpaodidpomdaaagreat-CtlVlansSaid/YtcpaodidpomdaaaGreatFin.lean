/- What an order answers; an order carried to its end. -/
import Derived.Test.YtcpaodidpomdaaaGreatCmd
import Derived.Deep.LoopGhost
import Derived.Deep.CutRange
set_option linter.unusedVariables false
set_option linter.unusedSimpArgs false
set_option maxRecDepth 100000
namespace Go.Proofs.YtcpaodidpomdaaaGreat
open Go.RowKit

section
variable {F : FA} {w : World} {s : MemS} {rg : Nat → Nat → RingS} {b : Nat} {x : CAct}
theorem run_neq_nilFunc {P : Program} {t : TypeId} {ps rs : Array TypeId} {v : Bool} (h : P.underlying t = some (.func ps rs v)) (W : World) : (binOp .neq t .nilFunc .nilFunc).run P W = .ok (.bool false) W := by
  simp only [binOp]
  simp [Op.equal, Op.maxDepth, run_equalIn_nilFunc h 9999 W]
theorem canswer_calls (h : IsCAct F w b x) (hn : x.next = .nilFunc) (e : EntS) (l : List EntS) (he : x.ents = e :: l) :
    Calls Tryz.prog 36 #[ptr b] w fun e' w' => e' = .returned (.int .i64 e.answer) ∧ w = w' := by
  have c16 := h.cells.2.2.1
  rw [hn] at c16
  obtain ⟨g, c, hl⟩ := h.logAt (by rw [he]; simp)
  have c17 := h.cells.2.2.2.1
  have hO := h.log
  rw [hl] at c17 hO
  have c18 : w.cell? ⟨g, 18, none⟩ = some (.int .i64 e.answer) := by rw [he] at hO; exact hO.getc rfl
  have n0 : (0 : Int) < (x.ents.length : Int) := by rw [he]; simp only [List.length_cons]; omega
  have n1 : 0 < x.ents.length := by omega
  have hq := fun (W : World) => run_neq_nilFunc Tryz.underlying146 W
  clear hn h he hl hO
  go_enter Tryz.func36, Tryz.ntmps36
  go_wp2_with fail
  go_ret
  exact ⟨rfl, rfl⟩

/-- The log of an order with one entry. -/
theorem clog1_calls (h : IsCAct F w b x) (e : EntS) (he : x.ents = [e]) :
    Calls Tryz.prog 33 #[ptr b] w fun e' w' => ∃ g c, e' = .returned (.slice (some ⟨g, 0, none⟩) 1 c) ∧ Own w' w.heap.size 75 19 (.slice (some ⟨g, 0, none⟩) 1 c) 1 (entCells [e]) ∧ Below w.heap.size w w' := by
  obtain ⟨g, c, hl⟩ := h.logAt (by rw [he]; simp)
  have c17 := h.cells.2.2.2.1
  have hO := h.log
  rw [hl] at c17 hO
  rw [he] at c17 hO
  have hcl := cloneEntry_calls w (some ⟨g, 0, none⟩) 1 c (entCells [e]) rfl (entCells_one _) (Fab.rd hO) (fun h => by cases h) (fun a h => by cases h; rfl) (by omega)
  clear h he hl hO
  go_enter Tryz.func33, Tryz.ntmps33
  go_wp2_with (go_at_call 70; refine hcl.mono ?_; rintro e1 w1 ⟨A', c', rfl, hO, hB⟩)
  obtain ⟨g', cc, ea, _⟩ := hO.pos (by omega)
  cases ea
  go_ret
  exact ⟨g', _, rfl, hO, hB⟩

/-- A run of an order: so many steps at most are left. -/
theorem finish_calls (I : Nat → World → Prop) (n0 most : Nat) (hI : ∀ n w, I n w → ∃ x, IsCAct F w b x ∧ FnV x.next ∧ nilF x.next = (n == 0))
    (hstep : ∀ n w, I (n + 1) w → Calls Tryz.prog 31 #[ptr b] w fun e w' => ∃ m, m ≤ n ∧ e = .returned (.bool (m == 0)) ∧ I m w') (h : I (n0 + 1) w) (hm : n0 + 1 ≤ most) (hmost : most ≤ 1000000) :
    Calls Tryz.prog 35 #[ptr b, .int .i64 most] w fun e w' => e = .returned (.bool true) ∧ I 0 w' := by
  go_enter Tryz.func35, Tryz.ntmps35
  have HI := Go.Lib.hid hI
  have HS := Go.Lib.hid hstep
  clear hI hstep
  go_wp2_with fail
  go_loopg [5] (n0 + 1) (fun d i wr => ∃ k : Nat, i = .int .i64 k ∧ k + d ≤ most ∧ 0 < d ∧ I d wr)
  case atStart => exact ⟨0, rfl, by omega, by omega, h⟩
  case round =>
    obtain ⟨k, rfl, hk, hd, hI⟩ := hrel
    obtain ⟨d, rfl⟩ : ∃ d, gk = d + 1 := ⟨gk - 1, by omega⟩
    have hst := HS.out d wr hI
    have hlt : (k : Int) < (most : Int) := by omega
    have hm2 : (most : Int) ≤ 1000000 := by omega
    clear h hm hd hmost
    have HK := Go.Lib.hid hk
    clear hk hI
    go_wp2_with fail
    refine hst.mono ?_
    rintro e1 w1 ⟨m, hm, rfl, hI1⟩
    obtain ⟨x, hx, hf, hn⟩ := HI.out m w1 hI1
    have hov := cover_calls hx hf
    rw [hn] at hov
    have HM := Go.Lib.hid hm
    have HH := Go.Lib.hid hI1
    clear hx hf hn hI1 hm hst
    cases m with
    | zero =>
      go_wp2_with (go_at_call 45; refine hov.mono ?_; rintro e2 w2 ⟨rfl, rfl⟩)
      go_ret
      exact ⟨rfl, HH.out⟩
    | succ m =>
      go_wp2_with fail
      go_roundg (m + 1)
      case measure => have := HM.out; omega
      case rel => exact ⟨k + 1, by go_num, by have := HM.out; have := HK.out; omega, by omega, HH.out⟩
end
end Go.Proofs.YtcpaodidpomdaaaGreat

/- An order's steps: read, write, bare, members; what its log tells. -/
import Derived.Test.YtcpaodidpomdaaaGreatLock
import Derived.Deep.RegionLaw
set_option linter.unusedVariables false
set_option linter.unusedSimpArgs false
set_option maxRecDepth 100000
namespace Go.Proofs.YtcpaodidpomdaaaGreat
open Go.RowKit

section
variable {F : FA} {w : World} {s : MemS} {rg : Nat → Nat → RingS} {b : Nat} {x : CAct}
theorem ent_mark (e : EntS) (l : List EntS) (t : Int) : (entCells (e :: l)).set 2 (.int .i64 t) = entCells ({ e with mark := t } :: l) := rfl
theorem ent_done (e : EntS) (l : List EntS) (t : Int) : (entCells (e :: l)).set 3 (.int .i64 t) = entCells ({ e with done := t } :: l) := rfl
theorem ent_answer (e : EntS) (l : List EntS) (t : Int) : (entCells (e :: l)).set 18 (.int .i64 t) = entCells ({ e with answer := t } :: l) := rfl
theorem IsCAct.putLog {g n c i : Nat} {u : Value} {l : List EntS} (h : IsCAct F w b x) (hn : x.ents.length = n) (hl : x.log = .slice (some ⟨g, 0, none⟩) n c) (e : (entCells x.ents).set i u = entCells l) (e2 : l.length = n) : IsCAct F (w.setCell ⟨g, i, none⟩ u) b { x with ents := l } := by
  subst hn
  have hO := h.log
  rw [hl] at hO
  refine ⟨h.blk.far (fun e => h.log.ne_blk h.blk (by decide) (by rw [hl, e]; rfl)) u, h.base, ?_, h.locks.far (fun e => ?_) u⟩
  · show Own _ _ _ _ x.log l.length (entCells l)
    rw [hl, e2]
    exact hO.putc i u e
  · exact h.log.ne_own h.locks (by decide) (k := g) (by rw [hl]; rfl) e
theorem IsCAct.putLogF {g n c : Nat} (h : IsCAct F w b x) (hF : Fab F w s rg) (hn : x.ents.length = n) (hl : x.log = .slice (some ⟨g, 0, none⟩) n c) (i : Nat) (u : Value) : Fab F (w.setCell ⟨g, i, none⟩ u) s rg :=
  hF.past ((Kp.refl w (fun k => k = g)).setCell (p := ⟨g, i, none⟩) (fun _ => rfl) u) (fun k e => by
    subst e
    exact (h.log.lt (k := k) (by rw [hl]; rfl)).1)
theorem IsCAct.putLogS {g n c : Nat} {l : List EntS} (h : IsCAct F w b x) (hl : x.log = .slice (some ⟨g, 0, none⟩) n c) (i : Nat) (u : Value) : CStep F b w x (w.setCell ⟨g, i, none⟩ u) { x with ents := l } :=
  ⟨(Kp.refl w _).setCell (p := ⟨g, i, none⟩) (fun _ => .inr (.inr (.inl (by rw [hl]; rfl)))) u, fun _ _ h => h⟩
/-- What marks and done load. -/
theorem IsCAct.logKeep {g c : Nat} {n : Nat} {e : EntS} {l : List EntS} (h : IsCAct F w b x) (hF : Fab F w s rg) (hn : x.ents.length = n) (hl : x.log = .slice (some ⟨g, 0, none⟩) n c) (he : x.ents = e :: l) :
    w.cell? ⟨b, 0, none⟩ = some (ptr F.f) ∧ w.cell? ⟨b, 17, none⟩ = some (.slice (some ⟨g, 0, none⟩) n c) ∧ w.cell? ⟨F.f, 10, none⟩ = some (ptr F.a.m) ∧ w.cell? ⟨g, 2, none⟩ = some (.int .i64 e.mark) ∧ w.cell? ⟨g, 3, none⟩ = some (.int .i64 e.done) ∧ w.cell? ⟨g, 18, none⟩ = some (.int .i64 e.answer) ∧ w.frozen? ⟨g, 2, none⟩ = false ∧ w.frozen? ⟨g, 3, none⟩ = false ∧ w.frozen? ⟨g, 18, none⟩ = false := by
  subst hn
  obtain ⟨c0, c1, c16, c17, c18, c19, c20, c21, c22⟩ := h.cells
  have hO := h.log
  rw [hl] at hO c17
  rw [he] at hO c17 ⊢
  exact ⟨c0, c17, hF.memc, hO.getc rfl, hO.getc rfl, hO.getc rfl, hO.free _, hO.free _, hO.free _⟩

theorem marks_calls (hF : Fab F w s rg) (h : IsCAct F w b x) (e : EntS) (l : List EntS) (he : x.ents = e :: l) :
    Calls Tryz.prog 213 #[ptr b] w (StepTo F b w x (.tuple #[]) { x with ents := { e with mark := s.time } :: l } s rg) := by
  obtain ⟨g, c, hl⟩ := h.logAt (by rw [he]; simp)
  obtain ⟨n, hn⟩ : ∃ n, x.ents.length = n := ⟨_, rfl⟩
  rw [hn] at hl
  have hnl : n = l.length + 1 := by rw [← hn, he]; rfl
  have n0 : (0 : Int) < (n : Int) := by omega
  have n1 : 0 < n := by omega
  have h' := h.drew
  have hF' := hF.drew
  obtain ⟨c0, c17, c10, q2, q3, q18, f2, f3, f18⟩ := h'.logKeep hF' hn hl he
  have ht := time_calls hF'.mem
  have hA1 := h.putLog (i := 2) (u := .int .i64 s.time) (l := { e with mark := s.time } :: l) hn hl (by rw [he]; exact ent_mark e l s.time) (by rw [hnl]; rfl)
  have hF1 := h.putLogF hF hn hl 2 (.int .i64 s.time)
  have hA1' := hA1.drew
  have hF1' := hF1.drew
  obtain ⟨d0, d17, d10, _⟩ := hA1'.logKeep (n := n) hF1' (by rw [hnl]; rfl) hl rfl
  have hfin : StepTo F b w x (.tuple #[]) { x with ents := { e with mark := s.time } :: l } s rg (.returned (.tuple #[])) (w.setCell ⟨g, 2, none⟩ (.int .i64 s.time)).drew :=
    ⟨rfl, hA1', (h.putLogS hl 2 _).trans ⟨(Kp.refl _ _).drew, fun _ _ h => h⟩, hF1'⟩
  have HFIN := Go.Lib.hid hfin
  clear hfin h hF he hl hn h' hF' hnl hA1 hF1 hA1' hF1'
  go_enter Tryz.func213, Tryz.ntmps213
  go_region_held3 (fun w' => w'.cell? ⟨b, 0, none⟩ = some (ptr F.f) ∧ w'.cell? ⟨b, 17, none⟩ = some (.slice (some ⟨g, 0, none⟩) n c) ∧ w'.cell? ⟨F.f, 10, none⟩ = some (ptr F.a.m))
    (first | exact ⟨c0, c17, c10⟩ | exact ⟨d0, d17, d10⟩)
    (first | (go_at_call 44; refine ht.mono ?_; rintro e w1 ⟨rfl, rfl⟩))
  go_end0
  exact HFIN.out

theorem done_calls (hF : Fab F w s rg) (h : IsCAct F w b x) (e : EntS) (l : List EntS) (he : x.ents = e :: l) (a : Int) :
    Calls Tryz.prog 134 #[ptr b, .int .i64 a] w (StepTo F b w x (.tuple #[]) { x with ents := { e with done := s.time, answer := a } :: l } s rg) := by
  obtain ⟨g, c, hl⟩ := h.logAt (by rw [he]; simp)
  obtain ⟨n, hn⟩ : ∃ n, x.ents.length = n := ⟨_, rfl⟩
  rw [hn] at hl
  have hnl : n = l.length + 1 := by rw [← hn, he]; rfl
  have n0 : (0 : Int) < (n : Int) := by omega
  have n1 : 0 < n := by omega
  have h' := h.drew
  have hF' := hF.drew
  obtain ⟨c0, c17, c10, q2, q3, q18, f2, f3, f18⟩ := h'.logKeep hF' hn hl he
  have ht := time_calls hF'.mem
  have hA1 := h.putLog (i := 3) (u := .int .i64 s.time) (l := { e with done := s.time } :: l) hn hl (by rw [he]; exact ent_done e l s.time) (by rw [hnl]; rfl)
  have hF1 := h.putLogF hF hn hl 3 (.int .i64 s.time)
  have hS1 := h.putLogS (l := { e with done := s.time } :: l) hl 3 (.int .i64 s.time)
  have hA2 := hA1.putLog (n := n) (i := 18) (u := .int .i64 a) (l := { e with done := s.time, answer := a } :: l) (by rw [hnl]; rfl) hl (ent_answer _ l a) (by rw [hnl]; rfl)
  have hF2 := hA1.putLogF hF1 (n := n) (by rw [hnl]; rfl) hl 18 (.int .i64 a)
  have hS2 := hA1.putLogS (l := { e with done := s.time, answer := a } :: l) hl 18 (.int .i64 a)
  obtain ⟨d0, d17, d10, _⟩ := hA1.drew.logKeep (n := n) hF1.drew (by rw [hnl]; rfl) hl rfl
  obtain ⟨r0, r17, r10, _⟩ := hA2.drew.logKeep (n := n) hF2.drew (by rw [hnl]; rfl) hl rfl
  have hfin : StepTo F b w x (.tuple #[]) { x with ents := { e with done := s.time, answer := a } :: l } s rg (.returned (.tuple #[])) ((w.setCell ⟨g, 3, none⟩ (.int .i64 s.time)).setCell ⟨g, 18, none⟩ (.int .i64 a)).drew :=
    ⟨rfl, hA2.drew, (hS1.trans hS2).trans ⟨(Kp.refl _ _).drew, fun _ _ h => h⟩, hF2.drew⟩
  have HFIN := Go.Lib.hid hfin
  clear hfin h hF he hl hn h' hF' hnl hA1 hF1 hA2 hF2 hS1 hS2
  go_enter Tryz.func134, Tryz.ntmps134
  go_region_held3 (fun w' => w'.cell? ⟨b, 0, none⟩ = some (ptr F.f) ∧ w'.cell? ⟨b, 17, none⟩ = some (.slice (some ⟨g, 0, none⟩) n c) ∧ w'.cell? ⟨F.f, 10, none⟩ = some (ptr F.a.m))
    (first | exact ⟨c0, c17, c10⟩ | exact ⟨d0, d17, d10⟩ | exact ⟨r0, r17, r10⟩)
    (first | (go_at_call 44; refine ht.mono ?_; rintro e w1 ⟨rfl, rfl⟩))
  go_end0
  exact HFIN.out
end
end Go.Proofs.YtcpaodidpomdaaaGreat

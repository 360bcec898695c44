/- An order's steps: lock, unlock. -/
import Derived.Test.YtcpaodidpomdaaaGreatAct
set_option linter.unusedVariables false
set_option linter.unusedSimpArgs false
set_option maxRecDepth 100000
namespace Go.Proofs.YtcpaodidpomdaaaGreat
open Go.RowKit

/-- What a step of an order comes to. -/
def StepTo (F : FA) (b : Nat) (w : World) (x : CAct) (v : Value) (x' : CAct) (s' : MemS) (rg' : Nat → Nat → RingS) (e : Ending) (w' : World) : Prop :=
  e = .returned v ∧ IsCAct F w' b x' ∧ CStep F b w x w' x' ∧ Fab F w' s' rg'

theorem StepTo.drewN {F : FA} {b : Nat} {w w' : World} {x x' : CAct} {v : Value} {s' : MemS} {rg' : Nat → Nat → RingS} {e : Ending} (h : StepTo F b w x v x' s' rg' e w') (m : Nat) : StepTo F b w x v x' s' rg' e (w'.drewN m) :=
  ⟨h.1, h.2.1.kp ((Kp.refl w' (fun _ => False)).drewN m) (fun h => h) (fun _ _ h => h) (fun _ _ h => h), h.2.2.1.trans ⟨(Kp.refl w' _).drewN m, fun _ _ h => h⟩, h.2.2.2.past ((Kp.refl w' (fun _ => False)).drewN m) (fun _ h => h.elim)⟩

section
variable {F : FA} {w : World} {s : MemS} {rg : Nat → Nat → RingS} {b : Nat} {x : CAct}
theorem cstep_to {v : Value} {x' : CAct} {s' : MemS} {rg' : Nat → Nat → RingS} (h : IsCAct F w b x) (K : FuncId) (c : Array Value) (hn : x.next = .func (.func K) #[] c) (hE : Enters K) (hv : FnV v)
    (hK : Calls Tryz.prog K (#[ptr b] ++ c) w (StepTo F b w x v x' s' rg')) :
    Calls Tryz.prog 31 #[ptr b] w fun e w' => e = .returned (.bool (nilF v)) ∧ IsCAct F w' b { x' with next := v } ∧ CStep F b w x w' { x' with next := v } ∧ Fab F w' s' rg' := by
  refine (cstep_calls (R := fun v1 x1 w1 => v1 = v ∧ x1 = x' ∧ Fab F w1 s' rg' ∧ IsCAct F w1 b x') h K c hn hE (hK.mono ?_)).mono ?_
  · rintro e w1 ⟨rfl, h1, h2, h3⟩
    exact ⟨v, x', rfl, hv, h1, h2, rfl, rfl, h3, h1⟩
  · rintro e w2 ⟨v1, x1, w1, rfl, _, h1, h2, ⟨rfl, rfl, h3, h4⟩, rfl⟩
    exact ⟨rfl, h1, h2, h4.putF h3 16 _⟩

theorem IsCAct.lockc (h : IsCAct F w b x) {k : Nat} {q : Int} (hq : x.lks[k]? = some q) : ∃ g c, x.locks = .slice (some ⟨g, 0, none⟩) x.lks.length c ∧ w.cell? ⟨g, k, none⟩ = some (.int .i64 q) ∧ x.lks.length ≤ c ∧ F.w0.heap.size ≤ g := by
  have hk := (List.getElem?_eq_some_iff.1 hq).1
  obtain ⟨g, c, e, h1, h2⟩ := h.locks.pos (by omega)
  have hO := h.locks
  rw [e] at hO
  exact ⟨g, c, e, hO.getc (i64s_get hq), hO.le_cap, h1⟩

theorem IsCAct.lockKeep {k g c : Nat} {q : Int} (h : IsCAct F w b x) (hh : x.held = k) (hg : x.locks = .slice (some ⟨g, 0, none⟩) x.lks.length c) (hq : x.lks[k]? = some q) :
    w.cell? ⟨b, 0, none⟩ = some (ptr F.f) ∧ w.cell? ⟨b, 1, none⟩ = some (.int .i64 x.who) ∧ w.cell? ⟨b, 18, none⟩ = some (.slice (some ⟨g, 0, none⟩) x.lks.length c) ∧ w.cell? ⟨b, 19, none⟩ = some (.int .i64 k) ∧ w.cell? ⟨g, k, none⟩ = some (.int .i64 q) := by
  obtain ⟨c0, c1, c16, c17, c18, c19, c20, c21, c22⟩ := h.cells
  have hO := h.locks
  rw [hg] at hO c18
  rw [hh] at c19
  exact ⟨c0, c1, c18, c19, hO.getc (i64s_get hq)⟩

theorem lock_calls (hF : Fab F w s rg) (hs : Small s.time) (h : IsCAct F w b x) (k : Nat) (hh : x.held = k) (q : Int) (hq : x.lks[k]? = some q) (h0 : 0 ≤ q) (h1 : q < F.p.ports) (hw : 0 ≤ x.who) (hl : x.lks.length ≤ 8) (nx : Value) (hfree : lockIs s q.toNat (-1) = true)
    (hnx : (k + 1 < x.lks.length ∧ nx = fnv 75) ∨ (x.lks.length ≤ k + 1 ∧ x.op.kind = 9 ∧ nx = fnv 125) ∨ (x.lks.length ≤ k + 1 ∧ x.op.kind ≠ 9 ∧ nx = fnv 126)) :
    Calls Tryz.prog 75 #[ptr b] w (StepTo F b w x nx { x with held := k + 1 } (passed s q.toNat (-1) x.who) rg) := by
  have hk := (List.getElem?_eq_some_iff.1 hq).1
  obtain ⟨g, c, hg, hgc, hlc, hgb⟩ := h.lockc hq
  have h' := h.drew
  have hF' := hF.drew
  obtain ⟨c0, c1, c16, c17, c18, c19, c20, c21, c22⟩ := h'.cells
  rw [hh] at c19
  rw [hg] at c18
  have hgd : w.drew.cell? ⟨g, k, none⟩ = some (.int .i64 q) := hgc
  have ht := ftake_calls hF' hs q x.who h0 h1 hw
  rw [hfree] at ht
  have hk1 : (k : Int) < (x.lks.length : Int) := by omega
  have HH := Go.Lib.hid h'
  have HK0 := Go.Lib.hid hh
  have HG := Go.Lib.hid hg
  have HN := Go.Lib.hid hnx
  have HQ := Go.Lib.hid hq
  have HF := Go.Lib.hid hF'
  have hst0 : CStep F b w x w.drew x := ⟨(Kp.refl w _).drew, fun _ _ h => h⟩
  clear h hF hh hg hnx hq hgc h' hF'
  go_enter Tryz.func75, Tryz.ntmps75
  go_wp2_with fail
  go_region_held3 (fun w' => w'.cell? ⟨b, 0, none⟩ = some (ptr F.f) ∧ w'.cell? ⟨b, 1, none⟩ = some (.int .i64 x.who) ∧ w'.cell? ⟨b, 18, none⟩ = some (.slice (some ⟨g, 0, none⟩) x.lks.length c) ∧ w'.cell? ⟨b, 19, none⟩ = some (.int .i64 k) ∧ w'.cell? ⟨g, k, none⟩ = some (.int .i64 q))
    (first | exact kp1 | exact ⟨c0, c1, c18, c19, hgd⟩)
    (first | (go_at_call 27; refine ht.mono ?_; rintro e w1 ⟨rfl, hF1, hK1⟩; have hA1 := HH.out.has HF.out hK1; have kp1 := hA1.lockKeep HK0.out HG.out HQ.out))
  clear c0 c1 c16 c17 c18 c19 c20 c21 c22 hgd ht
  have hst1 := hst0.trans (CStep.mem HF.out hK1)
  obtain ⟨c0, c1, c18, c19, c23⟩ := kp1
  have f19 := hA1.blk.frozen 19
  have c2 := hA1.ops.1
  have hA2 : IsCAct F (w1.setCell ⟨b, 19, none⟩ (.int .i64 (k + 1))) b { x with held := k + 1 } := hA1.put rfl rfl rfl rfl rfl
  have hF2 := hA1.putF hF1 19 (.int .i64 (k + 1))
  have hst2 : CStep F b w x (w1.setCell ⟨b, 19, none⟩ (.int .i64 (k + 1))) { x with held := k + 1 } := hst1.trans (CStep.put 19 _ rfl rfl)
  have hfin : ∀ v, v = nx → StepTo F b w x nx { x with held := k + 1 } (passed s q.toNat (-1) x.who) rg (.returned v) (w1.setCell ⟨b, 19, none⟩ (.int .i64 (k + 1))) := fun v e => ⟨by rw [e], hA2, hst2, hF2⟩
  have HFIN := Go.Lib.hid hfin
  clear hfin hA2 hF2 hst2 hst1 hA1 hF1 hK1 HH HF HG
  go_wp2_with fail
  go_quiet (fail)
  have hnx := HN.out
  rcases hnx with ⟨g1, g2⟩ | ⟨g1, g2, g3⟩ | ⟨g1, g2, g3⟩
  · have g4 : (k : Int) + 1 < (x.lks.length : Int) := by omega
    have HE := Go.Lib.hid g2
    clear g1 g2
    go_wp2_with fail
    go_ret
    exact (HFIN.out _ HE.out.symm).drewN _
  · have g4 : (x.lks.length : Int) ≤ (k : Int) + 1 := by omega
    have HE := Go.Lib.hid g3
    rw [g2] at c2
    clear g1 g2 g3
    go_wp2_with fail
    go_ret
    exact (HFIN.out _ HE.out.symm).drewN _
  · have g4 : (x.lks.length : Int) ≤ (k : Int) + 1 := by omega
    have HE := Go.Lib.hid g3
    have g5 : (x.op.kind == 9) = false := by simpa using g2
    clear g1 g2 g3
    go_wp2_with fail
    go_ret
    exact (HFIN.out _ HE.out.symm).drewN _

theorem lockno_calls (hF : Fab F w s rg) (hs : Small s.time) (h : IsCAct F w b x) (k : Nat) (hh : x.held = k) (q : Int) (hq : x.lks[k]? = some q) (h0 : 0 ≤ q) (h1 : q < F.p.ports) (hw : 0 ≤ x.who) (hl : x.lks.length ≤ 8) (hfree : lockIs s q.toNat (-1) = false) :
    Calls Tryz.prog 75 #[ptr b] w (StepTo F b w x (fnv 75) x (passed s q.toNat (-1) x.who) rg) := by
  have hk := (List.getElem?_eq_some_iff.1 hq).1
  obtain ⟨g, c, hg, hgc, hlc, hgb⟩ := h.lockc hq
  have h' := h.drew
  have hF' := hF.drew
  obtain ⟨c0, c1, c18, c19, hgd⟩ := h'.lockKeep hh hg hq
  have ht := ftake_calls hF' hs q x.who h0 h1 hw
  rw [hfree] at ht
  have hk1 : (k : Int) < (x.lks.length : Int) := by omega
  have HH := Go.Lib.hid h'
  have HK0 := Go.Lib.hid hh
  have HG := Go.Lib.hid hg
  have HQ := Go.Lib.hid hq
  have HF := Go.Lib.hid hF'
  have hst0 : CStep F b w x w.drew x := ⟨(Kp.refl w _).drew, fun _ _ h => h⟩
  clear h hF hh hg hq hgc h' hF'
  go_enter Tryz.func75, Tryz.ntmps75
  go_wp2_with fail
  go_region_held3 (fun w' => w'.cell? ⟨b, 0, none⟩ = some (ptr F.f) ∧ w'.cell? ⟨b, 1, none⟩ = some (.int .i64 x.who) ∧ w'.cell? ⟨b, 18, none⟩ = some (.slice (some ⟨g, 0, none⟩) x.lks.length c) ∧ w'.cell? ⟨b, 19, none⟩ = some (.int .i64 k) ∧ w'.cell? ⟨g, k, none⟩ = some (.int .i64 q))
    (first | exact kp1 | exact ⟨c0, c1, c18, c19, hgd⟩)
    (first | (go_at_call 27; refine ht.mono ?_; rintro e w1 ⟨rfl, hF1, hK1⟩; have hA1 := HH.out.has HF.out hK1; have kp1 := hA1.lockKeep HK0.out HG.out HQ.out))
  have hst1 := hst0.trans (CStep.mem HF.out hK1)
  have hfin : StepTo F b w x (fnv 75) x (passed s q.toNat (-1) x.who) rg (.returned (fnv 75)) w1 := ⟨rfl, hA1, hst1, hF1⟩
  have HFIN := Go.Lib.hid hfin
  clear c0 c1 c18 c19 hgd ht kp1 hfin hst1 hA1 hF1 hK1 HH HF HG
  go_wp2_with fail
  go_ret
  exact HFIN.out

theorem unlock_calls (hF : Fab F w s rg) (hs : Small s.time) (h : IsCAct F w b x) (k : Nat) (hh : x.held = ((k + 1 : Nat) : Int)) (q : Int) (hq : x.lks[k]? = some q) (h0 : 0 ≤ q) (h1 : q < F.p.ports) (hw : 0 ≤ x.who) (hl : x.lks.length ≤ 8) (nx : Value)
    (hnx : (0 < k ∧ nx = fnv 214) ∨ (k = 0 ∧ nx = .nilFunc)) :
    Calls Tryz.prog 214 #[ptr b] w (StepTo F b w x nx { x with held := k } (passed s q.toNat x.who (-1)) rg) := by
  have hk := (List.getElem?_eq_some_iff.1 hq).1
  obtain ⟨g, c, hg, hgc, hlc, hgb⟩ := h.lockc hq
  have c19 := h.cells.2.2.2.2.2.1
  rw [hh] at c19
  have f19 := h.blk.frozen 19
  have hA1 : IsCAct F (w.setCell ⟨b, 19, none⟩ (.int .i64 k)) b { x with held := k } := h.put rfl rfl rfl rfl rfl
  have hF1 := h.putF hF 19 (.int .i64 k)
  have hst1 : CStep F b w x (w.setCell ⟨b, 19, none⟩ (.int .i64 k)) { x with held := k } := CStep.put 19 _ rfl rfl
  have h' := hA1.drew
  have hF' := hF1.drew
  have hst2 : CStep F b w x (w.setCell ⟨b, 19, none⟩ (.int .i64 k)).drew { x with held := k } := hst1.trans ⟨(Kp.refl _ _).drew, fun _ _ h => h⟩
  obtain ⟨d0, d1, d18, d19, hgd⟩ := h'.lockKeep (k := k) rfl hg hq
  have ht := ffree_calls hF' hs q x.who h0 h1 hw
  have hk1 : (k : Int) < (x.lks.length : Int) := by omega
  have HH := Go.Lib.hid h'
  have HG := Go.Lib.hid hg
  have HQ := Go.Lib.hid hq
  have HF := Go.Lib.hid hF'
  have HN := Go.Lib.hid hnx
  clear h hF hh hg hq hgc h' hF' hA1 hF1 hst1 hnx
  go_enter Tryz.func214, Tryz.ntmps214
  go_wp2_with fail
  generalize w.setCell _ _ = W at *
  go_region_held3 (fun w' => w'.cell? ⟨b, 0, none⟩ = some (ptr F.f) ∧ w'.cell? ⟨b, 1, none⟩ = some (.int .i64 x.who) ∧ w'.cell? ⟨b, 18, none⟩ = some (.slice (some ⟨g, 0, none⟩) x.lks.length c) ∧ w'.cell? ⟨b, 19, none⟩ = some (.int .i64 k) ∧ w'.cell? ⟨g, k, none⟩ = some (.int .i64 q))
    (first | exact kp1 | exact ⟨d0, d1, d18, d19, hgd⟩)
    (first | (go_at_call 34; refine ht.mono ?_; rintro e w1 ⟨rfl, hF1, hK1⟩; have hA1 := HH.out.has HF.out hK1; have kp1 := hA1.lockKeep (k := k) rfl HG.out HQ.out))
  have hst3 := hst2.trans (CStep.mem HF.out hK1)
  have hfin : ∀ v, v = nx → StepTo F b w x nx { x with held := k } (passed s q.toNat x.who (-1)) rg (.returned v) w1 := fun v e => ⟨by rw [e], hA1, hst3, hF1⟩
  have HFIN := Go.Lib.hid hfin
  obtain ⟨e0, e1, e18, e19, e23⟩ := kp1
  clear d0 d1 d18 d19 hgd ht hfin hst2 hst3 hA1 hF1 hK1 HH HF HG c19 f19
  have hnx := HN.out
  rcases hnx with ⟨g1, g2⟩ | ⟨g1, g2⟩
  · have g4 : (0 : Int) < (k : Int) := by omega
    have HE := Go.Lib.hid g2
    clear g1 g2
    go_wp2_with fail
    go_ret
    exact HFIN.out _ HE.out.symm
  · subst g1
    have HE := Go.Lib.hid g2
    clear g2
    go_wp2_with fail
    go_ret
    exact HFIN.out _ HE.out.symm
end
end Go.Proofs.YtcpaodidpomdaaaGreat

/- An order's steps: write, and the closure that read hands on. -/
import Derived.Test.YtcpaodidpomdaaaGreatSteps
set_option linter.unusedVariables false
set_option linter.unusedSimpArgs false
set_option maxRecDepth 100000
namespace Go.Proofs.YtcpaodidpomdaaaGreat
open Go.RowKit

section
variable {F : FA} {w : World} {s : MemS} {rg : Nat → Nat → RingS} {b : Nat} {x : CAct}
theorem write_calls (hF : Fab F w s rg) (hs : Small s.time) (h : IsCAct F w b x) (q st ep tt : Int) (hq : x.op.port = q) (hto : x.op.state = tt) (h0 : 0 ≤ q) (h1 : q < F.p.ports) (t0 : 0 ≤ tt) (t4 : tt ≤ 4) (g2 : 0 ≤ ep) (g3 : ep + 1 < 4294967296) (e : EntS) (l : List EntS) (he : x.ents = e :: l) (hpop : x.pop = .pointer none) (nx : Value) (hnx : (tt = 4 ∧ nx = fnv 214) ∨ (tt ≠ 4 ∧ nx = fnv 217)) :
    Calls Tryz.prog 177 #[ptr b, .agg #[.int .i64 st, .int .u32 ep]] w (StepTo F b w x nx { x with ents := { e with mark := s.time + 1, done := s.time + 1, answer := ep + 1 } :: l } { s with cells := s.cells.set q.toNat (standW tt (ep + 1)), time := s.time + 1 } rg) := by
  subst hq
  subst hto
  have hb0 := Blk.new w [.int .i64 st, .int .u32 ep] 72
  have hA0 := h.alloc (.cells #[.int .i64 st, .int .u32 ep] 72)
  have hF0 := hF.alloc (.cells #[.int .i64 st, .int .u32 ep] 72)
  have hS0 : CStep F b w x (w.alloc (.cells #[.int .i64 st, .int .u32 ep] 72)) x := CStep.kept ((Kp.refl w _).alloc _)
  have hlt0 : F.w0.heap.size ≤ w.heap.size := hF.kp.size
  have hbne : b < w.heap.size := h.blk.lt
  clear h hF
  obtain ⟨pb, hpb⟩ : ∃ n, w.heap.size = n := ⟨_, rfl⟩
  rw [hpb] at hb0 hlt0 hbne
  go_enter Tryz.func177, Tryz.ntmps177
  go_upto_region 1 with fail
  have hpz : (w.alloc (.cells #[.int .i64 st, .int .u32 ep] 72)).heap.size = pb + 1 := by simp [hpb]
  generalize (w.alloc _) = W0 at hb0 hA0 hF0 hS0 hpz ⊢
  have hpos : pb < W0.heap.size := by omega
  have hpw : w.heap.size ≤ W0.heap.size := by omega
  have HPB := Go.Lib.hid hpb
  clear hpb hpz
  go_cut [5] (fun s5 wx => ∃ sb, s5 = ptr sb ∧ IsCAct F wx b x ∧ CStep F b w x wx x ∧ Fab F wx s rg ∧ Blk wx sb [.int .i64 x.op.state, .int .u32 (ep + 1)] 72 ∧ w.heap.size ≤ sb)
  case first =>
    have hset := fun W => pset_calls W st ep x.op.state t0 t4 g2 g3
    have keepB : ∀ {W}, IsCAct F W b x → Blk W pb [.int .i64 st, .int .u32 ep] 72 → W.cell? ⟨pb, 0, none⟩ = some (.int .i64 st) ∧ W.cell? ⟨pb, 1, none⟩ = some (.int .u32 ep) ∧ W.cell? ⟨b, 6, none⟩ = some (.int .i64 x.op.state) :=
      fun hA hB => ⟨hB.get 0 rfl, hB.get 1 rfl, hA.ops.2.2.2.1⟩
    have KB := Go.Lib.hid (fun W => @keepB W)
    have kA := keepB hA0.drew hb0.drew
    have kB := keepB (hA0.alloc (.cells #[.int .i64 0, .int .u32 0] 72)).drew (hb0.alloc (.cells #[.int .i64 0, .int .u32 0] 72)).drew
    have hn0 := Blk.new W0 [.int .i64 0, .int .u32 0] 72
    obtain ⟨c0, c1, c6⟩ := kA
    obtain ⟨c0', c1', c6'⟩ := kB
    have nb : ¬ pb = W0.heap.size := by omega
    have nb2 : ¬ W0.heap.size = pb := by omega
    have nb3 : ¬ b = W0.heap.size := by omega
    have nb4 : ¬ W0.heap.size = b := by omega
    have HA := Go.Lib.hid hA0
    have HB := Go.Lib.hid hb0
    have HN0 := Go.Lib.hid hn0
    have HF := Go.Lib.hid hF0
    have HS := Go.Lib.hid hS0
    have hnl : ∀ c, x.log.ownBlock = some c → ¬ c = W0.heap.size := fun c hc e => by have := (hA0.log.lt hc).2; omega
    have hnk : ∀ c, x.locks.ownBlock = some c → ¬ c = W0.heap.size := fun c hc e => by have := (hA0.locks.lt hc).2; omega
    clear keepB hA0 hb0 hn0 hF0 hS0
    go_region_held3 (fun W => W.cell? ⟨pb, 0, none⟩ = some (.int .i64 st) ∧ W.cell? ⟨pb, 1, none⟩ = some (.int .u32 ep) ∧ W.cell? ⟨b, 6, none⟩ = some (.int .i64 x.op.state))
      (first | exact ⟨c0, c1, c6⟩ | exact ⟨c0', c1', c6'⟩ | exact kk2 | exact kk1 | exact KB.out _ (hA1.alloc (.cells #[.int .i64 0, .int .u32 0] 72)) (hB1.alloc (.cells #[.int .i64 0, .int .u32 0] 72)) | exact KB.out _ (hA1.alloc (.cells #[.int .i64 x.op.state, .int .u32 (ep + 1)] 72)) (hB1.alloc (.cells #[.int .i64 x.op.state, .int .u32 (ep + 1)] 72)))
      (first
        | (go_at_call 215; refine (hset W0.drew).mono ?_; rintro e1 w1 ⟨rfl, hb1⟩; have hA1 := HA.out.drew.below hb1; have hB1 := HB.out.drew.below hb1; have kk1 := KB.out _ hA1 hB1)
        | (go_at_call 215; refine (hset (W0.alloc (.cells #[.int .i64 0, .int .u32 0] 72)).drew).mono ?_; rintro e1 w1 ⟨rfl, hb1⟩; have hA1 := ((HA.out.alloc (.cells #[.int .i64 0, .int .u32 0] 72)).drew).below hb1; have hB1 := ((HB.out.alloc (.cells #[.int .i64 0, .int .u32 0] 72)).drew).below hb1; have kk1 := KB.out _ hA1 hB1; have hN1 := HN0.out.drew.below hb1; have y0 := hN1.get 0 rfl; have y1 := hN1.get 1 rfl; have z0 := hN1.frozen 0; have z1 := hN1.frozen 1; have hk2 := ((Kp.refl w1 (fun k => k = W0.heap.size)).setCell (p := ⟨W0.heap.size, 0, none⟩) (fun _ => rfl) (.int .i64 x.op.state)).setCell (p := ⟨W0.heap.size, 1, none⟩) (fun _ => rfl) (.int .u32 (ep + 1)); have hA2 := hA1.kp hk2 nb3 hnl hnk; have hB2 := hB1.kp hk2 nb; have kk2 := KB.out _ hA2 hB2))
    · have hF1 := HF.out.drew.below hb1
      have hS1 := (HS.out.trans (CStep.kept (Kp.refl W0 _).drew)).trans (CStep.kept (Kp.of_below hb1))
      have hfin : IsCAct F (w1.alloc (.cells #[.int .i64 x.op.state, .int .u32 (ep + 1)] 72)) b x ∧ CStep F b w x (w1.alloc (.cells #[.int .i64 x.op.state, .int .u32 (ep + 1)] 72)) x ∧ Fab F (w1.alloc (.cells #[.int .i64 x.op.state, .int .u32 (ep + 1)] 72)) s rg ∧ Blk (w1.alloc (.cells #[.int .i64 x.op.state, .int .u32 (ep + 1)] 72)) w1.heap.size [.int .i64 x.op.state, .int .u32 (ep + 1)] 72 ∧ w.heap.size ≤ w1.heap.size :=
        ⟨hA1.alloc _, hS1.trans (CStep.kept ((Kp.refl w1 _).alloc _)), hF1.alloc _, Blk.new w1 _ _, hS1.kp.size⟩
      have HFIN := Go.Lib.hid hfin
      clear hfin hF1 hS1 hA1 hB1 kk1
      go_wp2_with fail
      go_meet
      exact ⟨_, rfl, HFIN.out⟩
    · have hF1 := (HF.out.alloc (.cells #[.int .i64 0, .int .u32 0] 72)).drew.below hb1
      have hS1 := (HS.out.trans (CStep.kept ((Kp.refl W0 _).alloc (.cells #[.int .i64 0, .int .u32 0] 72)).drew)).trans (CStep.kept (Kp.of_below hb1))
      have hfin : IsCAct F ((w1.setCell ⟨W0.heap.size, 0, none⟩ (.int .i64 x.op.state)).setCell ⟨W0.heap.size, 1, none⟩ (.int .u32 (ep + 1))) b x ∧ CStep F b w x ((w1.setCell ⟨W0.heap.size, 0, none⟩ (.int .i64 x.op.state)).setCell ⟨W0.heap.size, 1, none⟩ (.int .u32 (ep + 1))) x ∧ Fab F ((w1.setCell ⟨W0.heap.size, 0, none⟩ (.int .i64 x.op.state)).setCell ⟨W0.heap.size, 1, none⟩ (.int .u32 (ep + 1))) s rg ∧ Blk ((w1.setCell ⟨W0.heap.size, 0, none⟩ (.int .i64 x.op.state)).setCell ⟨W0.heap.size, 1, none⟩ (.int .u32 (ep + 1))) W0.heap.size [.int .i64 x.op.state, .int .u32 (ep + 1)] 72 ∧ w.heap.size ≤ W0.heap.size :=
        ⟨hA2, hS1.fresh hk2 hpw, hF1.past hk2 (fun c (e : c = _) => by omega), (hN1.set 0 _).set 1 _, hpw⟩
      have HFIN := Go.Lib.hid hfin
      clear hfin hF1 hS1 hA1 hB1 kk1 hA2 hB2 kk2 hk2 hN1
      go_wp2_with fail
      go_meet
      exact ⟨_, rfl, HFIN.out⟩
  case rest =>
    obtain ⟨sb, rfl, hA, hS, hF, hB, hlt⟩ := hcut
    clear hA0 hF0 hS0 hb0 hpos hpw
    have hncs : ∀ {y : CAct}, y.log = x.log → y.pop = x.pop → ¬ CS F b y sb := by
      intro y e1 e2
      unfold CS
      rw [e1, e2, hpop]
      have hpe := HPB.out
      rintro (e | e | e | e)
      · have := hF.ok.old e; omega
      · omega
      · exact hA.log.ne_blk hB (by decide) e
      · cases e
    have HNC := Go.Lib.hid (fun y => @hncs y)
    have hnF : ¬ F.a.has sb := fun e => by have hpe := HPB.out; have := hF.ok.old (.inl e); omega
    have hnl := hF.nlocks
    have hnc := hF.ncells
    have hstore := fun (W : World) (h : Fab F W s rg) => store_calls h.mem hs x.op.port (standW x.op.state (ep + 1)) h0 (by omega)
    have hword := fun W => pword_calls W x.op.state (ep + 1) t0 t4 (by omega) g3
    have keepB : ∀ {W} {t : MemS}, IsCAct F W b x → Fab F W t rg → Blk W sb [.int .i64 x.op.state, .int .u32 (ep + 1)] 72 → W.cell? ⟨b, 0, none⟩ = some (ptr F.f) ∧ W.cell? ⟨b, 3, none⟩ = some (.int .i64 x.op.port) ∧ W.cell? ⟨F.f, 10, none⟩ = some (ptr F.a.m) ∧ W.cell? ⟨sb, 0, none⟩ = some (.int .i64 x.op.state) ∧ W.cell? ⟨sb, 1, none⟩ = some (.int .u32 (ep + 1)) :=
      fun hA hF hB => ⟨hA.cells.1, hA.ops.2.1, hF.memc, hB.get 0 rfl, hB.get 1 rfl⟩
    have KB := Go.Lib.hid (fun W t => @keepB W t)
    obtain ⟨c0, c3, c10, d0, d1⟩ := keepB hA.drew hF.drew hB.drew
    have HA := Go.Lib.hid hA
    have HF := Go.Lib.hid hF
    have HB := Go.Lib.hid hB
    have HS := Go.Lib.hid hS
    have HE := Go.Lib.hid he
    have HN := Go.Lib.hid hnx
    clear hA hF hB hS hncs keepB he hnx hnc hnl
    go_wp2_with fail
    go_region_held3 (fun W => W.cell? ⟨b, 0, none⟩ = some (ptr F.f) ∧ W.cell? ⟨b, 3, none⟩ = some (.int .i64 x.op.port) ∧ W.cell? ⟨F.f, 10, none⟩ = some (ptr F.a.m) ∧ W.cell? ⟨sb, 0, none⟩ = some (.int .i64 x.op.state) ∧ W.cell? ⟨sb, 1, none⟩ = some (.int .u32 (ep + 1)))
      (first | exact kk2 | exact kk1 | exact ⟨c0, c3, c10, d0, d1⟩)
      (first
        | (go_at_call 216; refine (hword wc.drew).mono ?_; rintro e1 w1 ⟨rfl, hb1⟩; have hA1 := HA.out.drew.below hb1; have hF1 := HF.out.drew.below hb1; have hB1 := HB.out.drew.below hb1; have kk1 := KB.out _ _ hA1 hF1 hB1)
        | (go_at_call 102; refine (hstore _ hF1).mono ?_; rintro e2 w2 ⟨rfl, hM2, hK2⟩; have hF2 := hF1.memturn hM2 hK2 (FA.has_c _) (by simp) rfl; have hA2 := hA1.has hF1 (hK2.mono (fun b _ hb => FA.has_c _ b hb)); have hB2 := hB1.kp hK2 (fun e => hnF (FA.has_c _ _ e)); have kk2 := KB.out _ _ hA2 hF2 hB2))
    have hS2 := ((HS.out.trans (CStep.kept (Kp.refl wc _).drew)).trans (CStep.kept (Kp.of_below hb1))).trans (CStep.mem hF1 (hK2.mono (fun b _ hb => FA.has_c _ b hb)))
    have hmk := marks_calls hF2 hA2 e l HE.out
    have HS2 := Go.Lib.hid hS2
    have HB2 := Go.Lib.hid hB2
    clear c0 c3 c10 d0 d1 hA1 hF1 hB1 kk1 hb1 hM2 hK2 kk2 hstore hword hS2 hB2
    go_wp2_with (first
      | (go_at_call 213; refine hmk.mono ?_; rintro e4 w4 ⟨rfl, hA4, hS4, hF4⟩; have hB4 := HB2.out.kp hS4.kp (HNC.out x rfl rfl); have hdn := done_calls hF4 hA4 _ l rfl (ep + 1); have HS4 := Go.Lib.hid (HS2.out.trans hS4); have r0 := hB4.get 0 rfl; have r1 := hB4.get 1 rfl))
    refine hdn.mono ?_
    rintro e5 w5 ⟨rfl, hA5, hS5, hF5⟩
    have hB5 := hB4.kp hS5.kp (HNC.out _ rfl rfl)
    have q0 := hB5.get 0 rfl
    have hfin : ∀ v, v = nx → StepTo F b w x nx { x with ents := { e with mark := s.time + 1, done := s.time + 1, answer := ep + 1 } :: l } { s with cells := s.cells.set x.op.port.toNat (standW x.op.state (ep + 1)), time := s.time + 1 } rg (.returned v) w5 :=
      fun v e => ⟨by rw [e], hA5, HS4.out.trans hS5, hF5⟩
    have HFIN := Go.Lib.hid hfin
    have hnx := HN.out
    clear hfin hA5 hS5 hF5 hB5 hA4 hS4 hF4 hB4 r0 r1 hdn hmk hF2 hA2
    rcases hnx with ⟨m1, m2⟩ | ⟨m1, m2⟩
    · have HM := Go.Lib.hid m2
      rw [m1] at q0
      clear m1 m2
      go_wp2_with (go_at_call 209; refine (pforwards_calls _ 4).mono ?_; rintro e6 w6 ⟨rfl, rfl⟩)
      go_ret
      exact HFIN.out _ HM.out.symm
    · have HM := Go.Lib.hid m2
      have hne : (x.op.state == 4) = false := by simpa using m1
      clear m1 m2
      go_wp2_with (go_at_call 209; refine (pforwards_calls _ x.op.state).mono ?_; rintro e6 w6 ⟨rfl, rfl⟩)
      go_ret
      exact HFIN.out _ HM.out.symm
end
end Go.Proofs.YtcpaodidpomdaaaGreat

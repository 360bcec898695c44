/- An order's steps: read, write, bare, members. -/
import Derived.Test.YtcpaodidpomdaaaGreatWrite
set_option linter.unusedVariables false
set_option linter.unusedSimpArgs false
set_option maxRecDepth 100000
namespace Go.Proofs.YtcpaodidpomdaaaGreat
open Go.RowKit

section
variable {F : FA} {w : World} {s : MemS} {rg : Nat → Nat → RingS} {b : Nat} {x : CAct}
theorem IsCAct.drewN (h : IsCAct F w b x) (n : Nat) : IsCAct F (w.drewN n) b x := h.kp ((Kp.refl w (fun _ => False)).drewN n) (fun h => h) (fun _ _ h => h) (fun _ _ h => h)
theorem Fab.drewN (h : Fab F w s rg) (n : Nat) : Fab F (w.drewN n) s rg := h.past ((Kp.refl w (fun _ => False)).drewN n) (fun _ h => h.elim)
theorem IsCAct.alloc (h : IsCAct F w b x) (o : Obj) : IsCAct F (w.alloc o) b x := h.kp ((Kp.refl w (fun _ => False)).alloc o) (fun h => h) (fun _ _ h => h) (fun _ _ h => h)
theorem CStep.kept {w1 : World} (k : Kp w w1 (fun _ => False)) : CStep F b w x w1 x := ⟨k.mono (fun _ _ h => h.elim), fun _ _ h => h⟩
theorem CStep.fresh {w1 w2 : World} {y : CAct} {n : Nat} (h : CStep F b w x w1 y) (k : Kp w1 w2 (fun c => c = n)) (hn : w.heap.size ≤ n) : CStep F b w x w2 y :=
  ⟨h.kp.trans k (fun c hc (e : c = n) => by omega), h.own⟩
/-- The step behind read. -/
def wfn (sb : Nat) : Value := .func (.func 176) #[] #[.pointer (some ⟨sb, 0, none⟩)]
theorem read_calls (hF : Fab F w s rg) (hs : Small s.time) (h : IsCAct F w b x) (q st ep : Int) (hq : x.op.port = q) (h0 : 0 ≤ q) (h1 : q < F.p.ports) (hx : s.cells[q.toNat]? = some (standW st ep)) (g0 : 0 ≤ st) (g1 : st ≤ 4) (g2 : 0 ≤ ep) (g3 : ep < 4294967296) :
    Calls Tryz.prog 126 #[ptr b] w fun e w' => ∃ sb, StepTo F b w x (wfn sb) x { s with time := s.time + 1 } rg e w' ∧ Blk w' sb [.int .i64 st, .int .u32 ep] 72 ∧ F.w0.heap.size ≤ sb := by
  subst hq
  have hstd := fun (W : World) (h : Fab F W s rg) => fstand_calls h hs x.op.port st ep h0 h1 hx g0 g1 g2 g3
  have hA0 := h.drew
  have hF0 := hF.drew
  have hB0 := Blk.new w [.int .i64 0, .int .u32 0] 72
  have hA0' := (h.alloc (.cells #[.int .i64 0, .int .u32 0] 72)).drew
  have hF0' := (hF.alloc (.cells #[.int .i64 0, .int .u32 0] 72)).drew
  have hS0 : CStep F b w x w.drew x := CStep.kept (Kp.refl w _).drew
  have hS0' : CStep F b w x (w.alloc (.cells #[.int .i64 0, .int .u32 0] 72)).drew x := CStep.kept ((Kp.refl w _).alloc _).drew
  have hlt0 : F.w0.heap.size ≤ w.heap.size := hF.kp.size
  have hnd : ∀ {W}, Fab F W s rg → ¬ F.a.has w.heap.size := fun hF e => by have := hF.ok.old (.inl e); omega
  have hnb : ∀ {W}, IsCAct F W b x → ¬ b = w.heap.size := fun _ e => by have := h.blk.lt; omega
  have hnl : ∀ {W}, IsCAct F W b x → ∀ c, x.log.ownBlock = some c → ¬ c = w.heap.size := fun _ c hc e => by have := (h.log.lt hc).2; omega
  have hnk : ∀ {W}, IsCAct F W b x → ∀ c, x.locks.ownBlock = some c → ¬ c = w.heap.size := fun _ c hc e => by have := (h.locks.lt hc).2; omega
  clear hF hx
  have c0 := hA0.cells.1
  have c3 := hA0.ops.2.1
  have c0' := hA0'.cells.1
  have c3' := hA0'.ops.2.1
  go_enter Tryz.func126, Tryz.ntmps126
  go_wp2_with fail
  go_region_held3 (fun w' => w'.cell? ⟨b, 0, none⟩ = some (ptr F.f) ∧ w'.cell? ⟨b, 3, none⟩ = some (.int .i64 x.op.port))
    (first | exact ⟨c0, c3⟩ | exact ⟨c0', c3'⟩ | exact ⟨d0, d3⟩ | exact ⟨(hA1.alloc _).cells.1, (hA1.alloc _).ops.2.1⟩ | exact hq2)
    (first
      | (go_at_call 32; refine (hstd _ hF0).mono ?_; rintro e w1 ⟨rfl, hF1, hK1⟩; have hA1 := hA0.has hF0 hK1; have d0 := hA1.cells.1; have d3 := hA1.ops.2.1)
      | (go_at_call 32; refine (hstd _ hF0').mono ?_; rintro e w1 ⟨rfl, hF1, hK1⟩; have hA1 := hA0'.has hF0' hK1; have d0 := hA1.cells.1; have d3 := hA1.ops.2.1; have hb1 := hB0.drew.kp hK1 (hnd hF0'); have y0 := hb1.get 0 rfl; have y1 := hb1.get 1 rfl; have z0 := hb1.frozen 0; have z1 := hb1.frozen 1; have hblt := hb1.lt; have hk2 := ((Kp.refl w1 (fun k => k = w.heap.size)).setCell (p := ⟨w.heap.size, 0, none⟩) (fun _ => rfl) (.int .i64 st)).setCell (p := ⟨w.heap.size, 1, none⟩) (fun _ => rfl) (.int .u32 ep); have hA2 := hA1.kp hk2 (hnb hA0') (hnl hA0') (hnk hA0'); have hq2 := And.intro hA2.cells.1 hA2.ops.2.1; have hb2 := (hb1.set 0 (.int .i64 st)).set 1 (.int .u32 ep); have hF2 := hF1.past hk2 (fun b e => by rw [e]; exact hlt0); have hS2 := (hS0'.trans (CStep.mem hF0' hK1)).fresh hk2 (Nat.le_refl _)))
  · have hB1 := Blk.new w1 [.int .i64 st, .int .u32 ep] 72
    have hfin : ∀ v, v = wfn w1.heap.size → ∃ sb, StepTo F b w x (wfn sb) x { s with time := s.time + 1 } rg (.returned v) (w1.alloc (.cells #[.int .i64 st, .int .u32 ep] 72)) ∧ Blk (w1.alloc (.cells #[.int .i64 st, .int .u32 ep] 72)) sb [.int .i64 st, .int .u32 ep] 72 ∧ F.w0.heap.size ≤ sb :=
      fun v e => ⟨w1.heap.size, ⟨by rw [e], hA1.alloc _, (hS0.trans (CStep.mem hF0 hK1)).trans (CStep.kept ((Kp.refl w1 _).alloc _)), hF1.alloc _⟩, hB1, hF1.kp.size⟩
    have HFIN := Go.Lib.hid hfin
    clear hfin hB1 hA1 hF1 hK1 d0 d3
    go_wp2_with fail
    go_ret
    exact HFIN.out _ rfl
  · have hfin : ∀ v, v = wfn w.heap.size → ∃ sb, StepTo F b w x (wfn sb) x { s with time := s.time + 1 } rg (.returned v) ((w1.setCell ⟨w.heap.size, 0, none⟩ (.int .i64 st)).setCell ⟨w.heap.size, 1, none⟩ (.int .u32 ep)) ∧ Blk ((w1.setCell ⟨w.heap.size, 0, none⟩ (.int .i64 st)).setCell ⟨w.heap.size, 1, none⟩ (.int .u32 ep)) sb [.int .i64 st, .int .u32 ep] 72 ∧ F.w0.heap.size ≤ sb :=
      fun v e => ⟨w.heap.size, ⟨by rw [e], hA2, hS2, hF2⟩, hb2, hlt0⟩
    have HFIN := Go.Lib.hid hfin
    clear hfin hb2 hA2 hF2 hS2 hk2 hq2 hb1 hA1 hF1 hK1 d0 d3
    go_wp2_with fail
    go_ret
    exact HFIN.out _ rfl

theorem bare_calls (hF : Fab F w s rg) (hs : Small s.time) (h : IsCAct F w b x) (j : Nat) (v : Vl) (hv : F.vs[j]? = some v) (hid : x.op.vid = v.vid) (M U : Nat) (hM : x.op.mem = (M : Int)) (hU : x.op.unt = (U : Int)) (uM : U64 M) (uU : U64 U) :
    Calls Tryz.prog 125 #[ptr b] w (StepTo F b w x (fnv 175) x { s with cells := s.cells.set (F.p.ports + 2 * j + 1).toNat ((U &&& (M &&& (pw F.p.ports.toNat - 1)) : Nat) : Int), time := s.time + 1 } rg) := by
  have hj := (List.getElem?_eq_some_iff.1 hv).1
  have hn := hF.ok.nvl
  have hp := hF.ok.good.ports
  have hnc := hF.ncells
  have hnc2 := hF.mem.nc
  have hri := hF.ok.ris
  have hp08 : 0 ≤ F.p.ports ∧ F.p.ports ≤ 8 := by omega
  have hj08 : 0 ≤ (j : Int) ∧ (j : Int) ≤ 1000 := by omega
  have hMn : M &&& (pw F.p.ports.toNat - 1) ≤ M := Nat.and_le_left
  have hpw := pw_lt (show F.p.ports.toNat < 64 by omega)
  have e1 : bits BinOp.and IntKind.u64 (M : Int) ((pw F.p.ports.toNat - 1 : Nat) : Int) = ((M &&& (pw F.p.ports.toNat - 1) : Nat) : Int) := u64_and_nat _ _ uM (by omega)
  have e2 : bits BinOp.and IntKind.u64 (U : Int) ((M &&& (pw F.p.ports.toNat - 1) : Nat) : Int) = ((U &&& (M &&& (pw F.p.ports.toNat - 1)) : Nat) : Int) := u64_and_nat _ _ uU (Nat.lt_of_le_of_lt hMn uM)
  have c0 := h.cells.1
  obtain ⟨c2, c3, c5, c6, c9, c10⟩ := h.ops
  rw [hM] at c9
  have k0 := hF.ports
  have HH := Go.Lib.hid h
  have HF := Go.Lib.hid hF
  have HU := Go.Lib.hid hU
  have HI := Go.Lib.hid hid
  have HV := Go.Lib.hid hv
  clear h hF hM hU hid hv hMn c2 c3 c5 c6 c10
  generalize hMG : M &&& (pw F.p.ports.toNat - 1) = G at e1 e2 ⊢
  generalize hUG : U &&& G = Y at e2 ⊢
  clear hMG hUG hpw
  go_enter Tryz.func125, Tryz.ntmps125
  go_wp2_with fail
  go_quiet ((go_at_call 174; exact quiet_eq (vall_calls _ F.p.ports (by omega) (by omega))))
  clear c0 c9 k0
  generalize hW1 : World.drewN w _ = W1
  have hA1 : IsCAct F W1 b x := hW1 ▸ HH.out.drewN _
  have hF1 : Fab F W1 s rg := hW1 ▸ HF.out.drewN _
  have hS1 : CStep F b w x W1 x := hW1 ▸ CStep.kept ((Kp.refl w _).drewN _)
  clear hW1 HH HF
  have keepB : ∀ {W} {t : MemS}, IsCAct F W b x → Fab F W t rg → W.cell? ⟨b, 0, none⟩ = some (ptr F.f) ∧ W.cell? ⟨b, 5, none⟩ = some (.int .i64 v.vid) ∧ W.cell? ⟨b, 10, none⟩ = some (.int .u64 (U : Int)) ∧ W.cell? ⟨F.f, 0, none⟩ = some (.int .i64 F.p.ports) ∧ W.cell? ⟨F.f, 10, none⟩ = some (ptr F.a.m) := fun hA hF => by
    obtain ⟨c2, c3, c5, c6, c9, c10⟩ := hA.ops
    rw [HU.out] at c10
    rw [HI.out] at c5
    exact ⟨hA.cells.1, c5, c10, hF.ports, hF.memc⟩
  have KB := Go.Lib.hid (fun W t => @keepB W t)
  have hA1' := hA1.drew
  have hF1' := hF1.drew
  have hS1' := hS1.trans (CStep.kept (Kp.refl W1 _).drew)
  have k1 := keepB hA1' hF1'
  obtain ⟨c0, c5, c10, k0, k10⟩ := k1
  have hfv := fvlan_calls hF1' v.vid
  have hw1 : IntKind.i64.wrap (F.p.ports + 2 * (j : Int) + 1) = F.p.ports + 2 * (j : Int) + 1 := IntWalk.i64_in _ (by omega)
  have i1 : 0 ≤ F.p.ports + 2 * (j : Int) + 1 := by omega
  have i2 : F.p.ports + 2 * (j : Int) + 1 < (s.cells.length : Int) := by omega
  have jj : (j : Int) ≤ 8 := by omega
  have hH1 := Go.Lib.hid hA1'
  have hHF := Go.Lib.hid hF1'
  have hHS := Go.Lib.hid hS1'
  clear hA1 hF1 hS1 hA1' hF1' hS1' keepB e1
  go_wp2_with fail
  go_region_held3 (fun W => W.cell? ⟨b, 0, none⟩ = some (ptr F.f) ∧ W.cell? ⟨b, 5, none⟩ = some (.int .i64 v.vid) ∧ W.cell? ⟨b, 10, none⟩ = some (.int .u64 (U : Int)) ∧ W.cell? ⟨F.f, 0, none⟩ = some (.int .i64 F.p.ports) ∧ W.cell? ⟨F.f, 10, none⟩ = some (ptr F.a.m))
    (first | exact kk3 | exact kk2 | exact ⟨c0, c5, c10, k0, k10⟩)
    (first
      | (go_at_call 76; refine hfv.mono ?_; rintro e w2 ⟨⟨r, rfl, hr⟩, hB2⟩; obtain rfl := hr.at hri HV.out; have hA2 := hH1.out.below hB2; have hF2 := hHF.out.below hB2; have kk2 := KB.out _ _ hA2 hF2; have k02 := kk2.2.2.2.1)
      | (go_at_call 84; refine (vlanAt_calls F.p.ports j k02 hp08 hj08).mono ?_; rintro e w2 ⟨rfl, rfl⟩)
      | (go_at_call 102; refine (store_calls hF2.mem hs (F.p.ports + 2 * j + 1) Y i1 i2).mono ?_; rintro e w3 ⟨rfl, hM3, hK3⟩; have hF3 := hF2.memturn hM3 hK3 (FA.has_c _) (by simp) rfl; have hA3 := hA2.has hF2 (hK3.mono (fun b _ hb => FA.has_c _ b hb)); have kk3 := KB.out _ _ hA3 hF3))
  have hfin : StepTo F b w x (fnv 175) x { s with cells := s.cells.set (F.p.ports + 2 * j + 1).toNat (Y : Int), time := s.time + 1 } rg (.returned (fnv 175)) w3 :=
    ⟨rfl, hA3, (hHS.out.trans (CStep.kept (Kp.of_below hB2))).trans (CStep.mem hF2 (hK3.mono (fun b _ hb => FA.has_c _ b hb))), hF3⟩
  have HFIN := Go.Lib.hid hfin
  clear hfin hA3 hF3 hK3 hM3 hA2 hF2 hB2 kk2 kk3 k02 c0 c5 c10 k0 k10 hfv hw1 e2
  go_wp2_with fail
  go_ret
  exact HFIN.out

theorem members_calls (hF : Fab F w s rg) (hs : Small s.time) (h : IsCAct F w b x) (j : Nat) (v : Vl) (hv : F.vs[j]? = some v) (hid : x.op.vid = v.vid) (M : Nat) (hM : x.op.mem = (M : Int)) (uM : U64 M) (e : EntS) (l : List EntS) (he : x.ents = e :: l) (hpop : x.pop = .pointer none) :
    Calls Tryz.prog 175 #[ptr b] w (StepTo F b w x (fnv 214) { x with ents := { e with mark := s.time + 1, done := s.time + 1, answer := 1 } :: l } { s with cells := s.cells.set (F.p.ports + 2 * j).toNat ((M &&& (pw F.p.ports.toNat - 1) : Nat) : Int), time := s.time + 1 } rg) := by
  have hj := (List.getElem?_eq_some_iff.1 hv).1
  have hn := hF.ok.nvl
  have hp := hF.ok.good.ports
  have hnc := hF.ncells
  have hnc2 := hF.mem.nc
  have hri := hF.ok.ris
  have hp08 : 0 ≤ F.p.ports ∧ F.p.ports ≤ 8 := by omega
  have hj08 : 0 ≤ (j : Int) ∧ (j : Int) ≤ 1000 := by omega
  have hp1 : 1 ≤ F.p.ports := by omega
  have hp2 : F.p.ports ≤ 8 := by omega
  have hpw := pw_lt (show F.p.ports.toNat < 64 by omega)
  have e1 : bits BinOp.and IntKind.u64 (M : Int) ((pw F.p.ports.toNat - 1 : Nat) : Int) = ((M &&& (pw F.p.ports.toNat - 1) : Nat) : Int) := u64_and_nat _ _ uM (by omega)
  have HM := Go.Lib.hid hM
  have HI := Go.Lib.hid hid
  have HV := Go.Lib.hid hv
  have HE := Go.Lib.hid he
  have keepB : ∀ {W} {t : MemS}, IsCAct F W b x → Fab F W t rg → W.cell? ⟨b, 0, none⟩ = some (ptr F.f) ∧ W.cell? ⟨b, 5, none⟩ = some (.int .i64 v.vid) ∧ W.cell? ⟨b, 9, none⟩ = some (.int .u64 (M : Int)) ∧ W.cell? ⟨F.f, 0, none⟩ = some (.int .i64 F.p.ports) ∧ W.cell? ⟨F.f, 10, none⟩ = some (ptr F.a.m) := fun hA hF => by
    obtain ⟨c2, c3, c5, c6, c9, c10⟩ := hA.ops
    rw [HM.out] at c9
    rw [HI.out] at c5
    exact ⟨hA.cells.1, c5, c9, hF.ports, hF.memc⟩
  have KB := Go.Lib.hid (fun W t => @keepB W t)
  have hA1' := h.drew
  have hF1' := hF.drew
  have hS1' : CStep F b w x w.drew x := CStep.kept (Kp.refl w _).drew
  have k1 := keepB hA1' hF1'
  obtain ⟨c0, c5, c9, k0, k10⟩ := k1
  have hfv := fvlan_calls hF1' v.vid
  have i1 : 0 ≤ F.p.ports + 2 * (j : Int) := by omega
  have i2 : F.p.ports + 2 * (j : Int) < (s.cells.length : Int) := by omega
  have hH1 := Go.Lib.hid hA1'
  have hHF := Go.Lib.hid hF1'
  have hHS := Go.Lib.hid hS1'
  clear h hF hA1' hF1' hS1' keepB hM hid hv he
  generalize hMG : M &&& (pw F.p.ports.toNat - 1) = G at e1 ⊢
  clear hMG hpw
  go_enter Tryz.func175, Tryz.ntmps175
  go_wp2_with fail
  go_region_held3 (fun W => W.cell? ⟨b, 0, none⟩ = some (ptr F.f) ∧ W.cell? ⟨b, 5, none⟩ = some (.int .i64 v.vid) ∧ W.cell? ⟨b, 9, none⟩ = some (.int .u64 (M : Int)) ∧ W.cell? ⟨F.f, 0, none⟩ = some (.int .i64 F.p.ports) ∧ W.cell? ⟨F.f, 10, none⟩ = some (ptr F.a.m))
    (first | exact kk3 | exact kk2 | exact ⟨c0, c5, c9, k0, k10⟩)
    (first
      | (go_at_call 76; refine hfv.mono ?_; rintro e w2 ⟨⟨r, rfl, hr⟩, hB2⟩; obtain rfl := hr.at hri HV.out; have hA2 := hH1.out.below hB2; have hF2 := hHF.out.below hB2; have kk2 := KB.out _ _ hA2 hF2; have k02 := kk2.2.2.2.1)
      | (go_at_call 84; refine (vlanAt_calls F.p.ports j k02 hp08 hj08).mono ?_; rintro e w2 ⟨rfl, rfl⟩)
      | (go_at_call 174; refine (vall_calls _ F.p.ports hp1 hp2).mono ?_; rintro e w2 ⟨rfl, rfl⟩)
      | (go_at_call 102; refine (store_calls hF2.mem hs (F.p.ports + 2 * j) G i1 i2).mono ?_; rintro e w3 ⟨rfl, hM3, hK3⟩; have hF3 := hF2.memturn hM3 hK3 (FA.has_c _) (by simp) rfl; have hA3 := hA2.has hF2 (hK3.mono (fun b _ hb => FA.has_c _ b hb)); have kk3 := KB.out _ _ hA3 hF3))
  have hS3 := (hHS.out.trans (CStep.kept (Kp.of_below hB2))).trans (CStep.mem hF2 (hK3.mono (fun b _ hb => FA.has_c _ b hb)))
  have hmk := marks_calls hF3 hA3 _ l HE.out
  clear hM3 hK3 hA2 hF2 hB2 kk2 kk3 k02 c0 c5 c9 k0 k10 hfv e1 hHF hHS hH1
  go_wp2_with (first
    | (go_at_call 213; refine hmk.mono ?_; rintro e4 w4 ⟨rfl, hA4, hS4, hF4⟩; have hdn := done_calls hF4 hA4 _ l rfl 1; have HS4 := Go.Lib.hid (hS3.trans hS4))
    | (go_at_call 134; refine hdn.mono ?_; rintro e5 w5 ⟨rfl, hA5, hS5, hF5⟩))
  have hfin : ∀ v, v = fnv 214 → StepTo F b w x (fnv 214) { x with ents := { e with mark := s.time + 1, done := s.time + 1, answer := 1 } :: l } { s with cells := s.cells.set (F.p.ports + 2 * j).toNat (G : Int), time := s.time + 1 } rg (.returned v) w5 :=
    fun v e => ⟨by rw [e], hA5, HS4.out.trans hS5, hF5⟩
  have HFIN := Go.Lib.hid hfin
  clear hfin
  go_ret
  exact HFIN.out _ rfl

end
end Go.Proofs.YtcpaodidpomdaaaGreat

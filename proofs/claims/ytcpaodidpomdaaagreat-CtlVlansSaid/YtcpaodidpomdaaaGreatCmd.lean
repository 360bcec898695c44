/- Orders: how they begin. -/
import Derived.Test.YtcpaodidpomdaaaGreatSteps2
import Derived.StillTailTactics
set_option linter.unusedVariables false
set_option linter.unusedSimpArgs false
set_option maxRecDepth 100000
namespace Go.Proofs.YtcpaodidpomdaaaGreat
open Go.RowKit

section
variable {F : FA} {w : World} {s : MemS} {rg : Nat → Nat → RingS} {b : Nat} {x : CAct}
theorem readfn_calls (hF : Fab F w s rg) (hs : Small s.time) (h : IsCAct F w b x) (sb : Nat) (q st ep tt : Int) (hsb : Blk w sb [.int .i64 st, .int .u32 ep] 72) (hq : x.op.port = q) (hto : x.op.state = tt) (h0 : 0 ≤ q) (h1 : q < F.p.ports) (t0 : 0 ≤ tt) (t4 : tt ≤ 4) (g2 : 0 ≤ ep) (g3 : ep + 1 < 4294967296) (e : EntS) (l : List EntS) (he : x.ents = e :: l) (hpop : x.pop = .pointer none) (nx : Value) (hnx : (tt = 4 ∧ nx = fnv 214) ∨ (tt ≠ 4 ∧ nx = fnv 217)) :
    Calls Tryz.prog 176 #[ptr b, .pointer (some ⟨sb, 0, none⟩)] w (StepTo F b w x nx { x with ents := { e with mark := s.time + 1, done := s.time + 1, answer := ep + 1 } :: l } { s with cells := s.cells.set q.toNat (standW tt (ep + 1)), time := s.time + 1 } rg) := by
  have hw := write_calls hF hs h q st ep tt hq hto h0 h1 t0 t4 g2 g3 e l he hpop nx hnx
  have c0 := hsb.get 0 rfl
  have c1 := hsb.get 1 rfl
  clear hF hs h hsb hq hto he hpop hnx
  go_enter Tryz.func176, Tryz.ntmps176
  go_wp2_with (go_at_call 177; refine hw.mono ?_; rintro e w1 ⟨rfl, hr⟩)
  go_ret
  exact ⟨rfl, hr⟩

theorem opKeep {W : World} {ob : Nat} {o : OpS} {T : TypeId} {m f : Nat} (hm : W.cell? ⟨f, 10, none⟩ = some (ptr m)) (hB : Blk W ob o.cells T) : W.cell? ⟨f, 10, none⟩ = some (ptr m) ∧ W.cell? ⟨ob, 0, none⟩ = some (.int .i64 o.kind) ∧ W.cell? ⟨ob, 1, none⟩ = some (.int .i64 o.port) ∧ W.cell? ⟨ob, 2, none⟩ = some (.int .i64 o.dest) ∧ W.cell? ⟨ob, 3, none⟩ = some (.int .i64 o.vid) ∧ W.cell? ⟨ob, 4, none⟩ = some (.int .i64 o.state) ∧ W.cell? ⟨ob, 5, none⟩ = some (.int .i64 o.kvid) ∧ W.cell? ⟨ob, 6, none⟩ = some (.int .u64 o.kmac) ∧ W.cell? ⟨ob, 7, none⟩ = some (.int .u64 o.mem) ∧ W.cell? ⟨ob, 8, none⟩ = some (.int .u64 o.unt) ∧ W.cell? ⟨ob, 9, none⟩ = some (.int .u32 o.now) ∧ W.cell? ⟨ob, 10, none⟩ = some (.int .u32 o.limit) ∧ W.cell? ⟨ob, 11, none⟩ = some (.int .i64 o.shard) ∧ W.cell? ⟨ob, 12, none⟩ = some (.int .i64 o.bucket) ∧ W.cell? ⟨ob, 13, none⟩ = some (.int .i64 o.id) :=
  ⟨hm, hB.get 0 rfl, hB.get 1 rfl, hB.get 2 rfl, hB.get 3 rfl, hB.get 4 rfl, hB.get 5 rfl, hB.get 6 rfl, hB.get 7 rfl, hB.get 8 rfl, hB.get 9 rfl, hB.get 10 rfl, hB.get 11 rfl, hB.get 12 rfl, hB.get 13 rfl⟩
/-- A new order. -/
def cact0 (who : Int) (o : OpS) (next log locks : Value) (t : Int) (lks : List Int) (act : Value) : CAct := ⟨who, o, next, log, [⟨who, t, 0, 0, o, 0⟩], locks, lks, 0, 0, .pointer none, act⟩

theorem cmd_end {W2 : World} {who : Int} {o : OpS} {next locks act : Value} {lks : List Int} (hA : IsCAct F W2 b ⟨who, o, next, .slice none 0 0, [], locks, lks, 0, 0, .pointer none, act⟩) (hF : Fab F W2 s rg) :
    IsCAct F ((W2.setCell ⟨b, 17, none⟩ (.slice (some ⟨W2.heap.size, 0, none⟩) 1 1)).alloc (.cells (EntS.cells ⟨who, s.time, 0, 0, o, 0⟩).toArray 75)) b (cact0 who o next (.slice (some ⟨W2.heap.size, 0, none⟩) 1 1) locks s.time lks act) ∧
    Fab F ((W2.setCell ⟨b, 17, none⟩ (.slice (some ⟨W2.heap.size, 0, none⟩) 1 1)).alloc (.cells (EntS.cells ⟨who, s.time, 0, 0, o, 0⟩).toArray 75)) s rg ∧
    Kp W2 ((W2.setCell ⟨b, 17, none⟩ (.slice (some ⟨W2.heap.size, 0, none⟩) 1 1)).alloc (.cells (EntS.cells ⟨who, s.time, 0, 0, o, 0⟩).toArray 75)) (fun k => k = b) := by
  have hb := hA.base
  have hk := ((Kp.refl W2 (fun k => k = b)).setCell (p := ⟨b, 17, none⟩) (fun _ => rfl) (.slice (some ⟨W2.heap.size, 0, none⟩) 1 1)).alloc (.cells (EntS.cells ⟨who, s.time, 0, 0, o, 0⟩).toArray 75)
  refine ⟨⟨(hA.blk.put 17 _ rfl).alloc _, hb, ?_, hA.locks.kp hk (fun c hc e => hA.locks.ne_blk hA.blk (by decide) (e ▸ hc))⟩, hF.past hk (fun c (e : c = b) => by omega), hk⟩
  have h := Own.lit (W2.setCell ⟨b, 17, none⟩ (.slice (some ⟨W2.heap.size, 0, none⟩) 1 1)) (EntS.cells ⟨who, s.time, 0, 0, o, 0⟩) 75 19 1 rfl (by simp [maxLen]) (base := F.w0.heap.size) (by rw [World.size_setCell]; exact hF.kp.size)
  rw [World.size_setCell] at h
  simpa [cact0, entCells] using h

theorem command_state_calls (hF : Fab F w s rg) (who : Int) (o : OpS) (hw : 0 ≤ who) (hk : o.kind = 8) (h0 : 0 ≤ o.port) (h1 : o.port < F.p.ports) (t0 : 0 ≤ o.state) (t4 : o.state ≤ 4) :
    Calls Tryz.prog 28 #[ptr F.f, .int .i64 who, o.agg] w fun e w' => ∃ b log locks, e = .returned (ptr b) ∧ IsCAct F w' b (cact0 who o (fnv 75) log locks s.time [o.port] (.pointer none)) ∧ Fab F w' s rg ∧ Below w.heap.size w w' := by
  obtain ⟨kind, port, dest, vid, state, kvid, kmac, mem, unt, now, limit, shard, bucket, id⟩ := o
  obtain rfl : kind = 8 := hk
  have h0 : 0 ≤ port := h0
  have h1 : port < F.p.ports := h1
  have t0 : 0 ≤ state := t0
  have t4 : state ≤ 4 := t4
  have bo := (Blk.new w (OpS.cells ⟨8, port, dest, vid, state, kvid, kmac, mem, unt, now, limit, shard, bucket, id⟩) 68).alloc (.cells (CAct.cells F.f ⟨who, ⟨8, port, dest, vid, state, kvid, kmac, mem, unt, now, limit, shard, bucket, id⟩, .nilFunc, .slice none 0 0, [], .slice none 0 0, [], 0, 0, .pointer none, .pointer none⟩).toArray 149)
  have ba := Blk.new' (w.alloc (.cells (OpS.cells ⟨8, port, dest, vid, state, kvid, kmac, mem, unt, now, limit, shard, bucket, id⟩).toArray 68)) (CAct.cells F.f ⟨who, ⟨8, port, dest, vid, state, kvid, kmac, mem, unt, now, limit, shard, bucket, id⟩, .nilFunc, .slice none 0 0, [], .slice none 0 0, [], 0, 0, .pointer none, .pointer none⟩) 149 (b := w.heap.size + 1) (by simp)
  have hF1 := (hF.alloc (.cells (OpS.cells ⟨8, port, dest, vid, state, kvid, kmac, mem, unt, now, limit, shard, bucket, id⟩).toArray 68)).alloc (.cells (CAct.cells F.f ⟨who, ⟨8, port, dest, vid, state, kvid, kmac, mem, unt, now, limit, shard, bucket, id⟩, .nilFunc, .slice none 0 0, [], .slice none 0 0, [], 0, 0, .pointer none, .pointer none⟩).toArray 149)
  have hK1 := ((Kp.refl w (fun _ => False)).alloc (.cells (OpS.cells ⟨8, port, dest, vid, state, kvid, kmac, mem, unt, now, limit, shard, bucket, id⟩).toArray 68)).alloc (.cells (CAct.cells F.f ⟨who, ⟨8, port, dest, vid, state, kvid, kmac, mem, unt, now, limit, shard, bucket, id⟩, .nilFunc, .slice none 0 0, [], .slice none 0 0, [], 0, 0, .pointer none, .pointer none⟩).toArray 149)
  have hlt0 : F.w0.heap.size ≤ w.heap.size := hF.kp.size
  clear hF
  unfold OpS.agg
  simp only [OpS.cells, CAct.cells, List.cons_append, List.nil_append] at bo ba hF1 hK1
  go_enter Tryz.func28, Tryz.ntmps28
  go_wp2_with fail
  generalize ((w.alloc _).alloc _) = W at *
  obtain ⟨ob, hob⟩ : ∃ n, w.heap.size = n := ⟨_, rfl⟩
  rw [hob] at bo ba hlt0
  have HOB := Go.Lib.hid hob
  rw [hob]
  clear hob
  refine (fhas_yes F.p.ports port hF1.ports h0 h1).mono ?_
  rintro e1 w1 ⟨rfl, rfl⟩
  have c1 := bo.get 1 rfl
  have c4 := bo.get 4 rfl
  have a16 := ba.get 16 rfl
  have a18 := ba.get 18 rfl
  have g16 := ba.frozen 16
  have g18 := ba.frozen 18
  have lt1 : ob + 1 < W.heap.size := ba.lt
  have ne1 : ¬ ob + 1 = W.heap.size := by omega
  have ne2 : ¬ W.heap.size = ob + 1 := by omega
  go_upto_region 22 with (go_at_call 74; refine (pright_calls _ state t0 t4).mono ?_; rintro e2 w2 ⟨rfl, rfl⟩)
  have hW2 := (((Kp.refl W (fun k => k = ob + 1)).setCell (p := ⟨ob + 1, 18, none⟩) (fun _ => rfl) (.slice (some ⟨W.heap.size, 0, none⟩) 1 1)).setCell (p := ⟨ob + 1, 16, none⟩) (fun _ => rfl) (fnv 75)).alloc (.cells #[.int .i64 port] 3)
  have hL2 := Own.lit ((W.setCell ⟨ob + 1, 18, none⟩ (.slice (some ⟨W.heap.size, 0, none⟩) 1 1)).setCell ⟨ob + 1, 16, none⟩ (fnv 75)) [.int .i64 port] 3 1 1 rfl (by simp [maxLen]) (base := F.w0.heap.size) (by simp; omega)
  have hB2 := ((ba.set 18 (.slice (some ⟨W.heap.size, 0, none⟩) 1 1)).set 16 (fnv 75)).alloc (.cells #[.int .i64 port] 3)
  have hF2 := hF1.past hW2 (fun c (e : c = _) => by omega)
  have bo2 := bo.kp hW2 (by omega)
  have hK2 := hK1.trans hW2 (fun c hc (e : c = _) => by have := HOB.out; omega)
  simp only [World.size_setCell] at hL2
  generalize (World.alloc (World.setCell _ _ _) _) = W2 at hW2 hL2 hB2 hF2 bo2 hK2 ⊢
  have hA2 : IsCAct F W2 (ob + 1) ⟨who, ⟨8, port, dest, vid, state, kvid, kmac, mem, unt, now, limit, shard, bucket, id⟩, fnv 75, .slice none 0 0, [], .slice (some ⟨W.heap.size, 0, none⟩) 1 1, [port], 0, 0, .pointer none, .pointer none⟩ := ⟨hB2, by omega, Own.nil _ _ _ _, hL2⟩
  obtain ⟨hA3, hF3, hK3⟩ := cmd_end hA2 hF2
  have hne : ¬ ob = ob + 1 := by omega
  have hlt2 : ob + 1 < W2.heap.size := hB2.lt
  have bo3 := bo2.kp hK3 hne
  have ht := time_calls hF2.drew.mem
  have a17 := hB2.get 17 rfl
  have g17 := hB2.frozen 17
  have kA := opKeep (f := F.f) (m := F.a.m) (o := ⟨8, port, dest, vid, state, kvid, kmac, mem, unt, now, limit, shard, bucket, id⟩) hF2.drew.memc bo2.drew
  have kB := opKeep (f := F.f) (m := F.a.m) (o := ⟨8, port, dest, vid, state, kvid, kmac, mem, unt, now, limit, shard, bucket, id⟩) (hF2.alloc (.cells (EntS.cells ⟨who, s.time, 0, 0, ⟨8, port, dest, vid, state, kvid, kmac, mem, unt, now, limit, shard, bucket, id⟩, 0⟩).toArray 75)).drew.memc (bo2.alloc (.cells (EntS.cells ⟨who, s.time, 0, 0, ⟨8, port, dest, vid, state, kvid, kmac, mem, unt, now, limit, shard, bucket, id⟩, 0⟩).toArray 75)).drew
  have kC := opKeep (f := F.f) (m := F.a.m) (o := ⟨8, port, dest, vid, state, kvid, kmac, mem, unt, now, limit, shard, bucket, id⟩) hF3.drew.memc bo3.drew
  have hfin : ∃ b log locks, (ptr (ob + 1)) = (ptr b) ∧ IsCAct F ((W2.setCell ⟨ob + 1, 17, none⟩ (.slice (some ⟨W2.heap.size, 0, none⟩) 1 1)).alloc (.cells (EntS.cells ⟨who, s.time, 0, 0, ⟨8, port, dest, vid, state, kvid, kmac, mem, unt, now, limit, shard, bucket, id⟩, 0⟩).toArray 75)).drew b (cact0 who ⟨8, port, dest, vid, state, kvid, kmac, mem, unt, now, limit, shard, bucket, id⟩ (fnv 75) log locks s.time [port] (.pointer none)) ∧ Fab F ((W2.setCell ⟨ob + 1, 17, none⟩ (.slice (some ⟨W2.heap.size, 0, none⟩) 1 1)).alloc (.cells (EntS.cells ⟨who, s.time, 0, 0, ⟨8, port, dest, vid, state, kvid, kmac, mem, unt, now, limit, shard, bucket, id⟩, 0⟩).toArray 75)).drew s rg ∧ Below w.heap.size w ((W2.setCell ⟨ob + 1, 17, none⟩ (.slice (some ⟨W2.heap.size, 0, none⟩) 1 1)).alloc (.cells (EntS.cells ⟨who, s.time, 0, 0, ⟨8, port, dest, vid, state, kvid, kmac, mem, unt, now, limit, shard, bucket, id⟩, 0⟩).toArray 75)).drew :=
    ⟨ob + 1, _, _, rfl, hA3.drew, hF3.drew, (hK2.trans hK3 (fun c hc (e : c = _) => by have := HOB.out; omega)).drew.toBelow⟩
  simp only [EntS.cells, OpS.cells, List.cons_append, List.nil_append, List.append_nil] at hfin kB kC
  obtain ⟨x0, x1, x2, x3, x4, x5, x6, x7, x8, x9, x10, x11, x12, x13, x14⟩ := kA
  have HFIN := Go.Lib.hid hfin
  clear hfin hA3 hF3 hK3 bo3 hA2 hB2 hF2 bo2 hK2 hL2 hW2 ba bo hF1 hK1 a16 a18 g16 g18 c1 c4 ne1 ne2 lt1
  have ne1 : ¬ ob + 1 = W2.heap.size := by omega
  have ne2 : ¬ W2.heap.size = ob + 1 := by omega
  go_region_held3 (fun W => W.cell? ⟨F.f, 10, none⟩ = some (ptr F.a.m) ∧ W.cell? ⟨ob, 0, none⟩ = some (.int .i64 8) ∧ W.cell? ⟨ob, 1, none⟩ = some (.int .i64 port) ∧ W.cell? ⟨ob, 2, none⟩ = some (.int .i64 dest) ∧ W.cell? ⟨ob, 3, none⟩ = some (.int .i64 vid) ∧ W.cell? ⟨ob, 4, none⟩ = some (.int .i64 state) ∧ W.cell? ⟨ob, 5, none⟩ = some (.int .i64 kvid) ∧ W.cell? ⟨ob, 6, none⟩ = some (.int .u64 kmac) ∧ W.cell? ⟨ob, 7, none⟩ = some (.int .u64 mem) ∧ W.cell? ⟨ob, 8, none⟩ = some (.int .u64 unt) ∧ W.cell? ⟨ob, 9, none⟩ = some (.int .u32 now) ∧ W.cell? ⟨ob, 10, none⟩ = some (.int .u32 limit) ∧ W.cell? ⟨ob, 11, none⟩ = some (.int .i64 shard) ∧ W.cell? ⟨ob, 12, none⟩ = some (.int .i64 bucket) ∧ W.cell? ⟨ob, 13, none⟩ = some (.int .i64 id))
    (first | exact ⟨x0, x1, x2, x3, x4, x5, x6, x7, x8, x9, x10, x11, x12, x13, x14⟩ | exact kB | exact kC)
    (first | (go_at_call 44; refine ht.mono ?_; rintro e3 w3 ⟨rfl, rfl⟩))
  clear kB kC x0 x1 x2 x3 x4 x5 x6 x7 x8 x9 x10 x11 x12 x13 x14 a17 g17 ht
  go_wp2_with fail
  go_ret
  obtain ⟨b, lg, lk, e, r⟩ := HFIN.out
  exact ⟨b, lg, lk, congrArg Ending.returned e, r⟩
end
end Go.Proofs.YtcpaodidpomdaaaGreat

/- Orders: how a SetVlan begins. -/
import Derived.Test.YtcpaodidpomdaaaGreatRunF
import Derived.StillTailTactics
set_option linter.unusedVariables false
set_option linter.unusedSimpArgs false
set_option maxRecDepth 100000
namespace Go.Proofs.YtcpaodidpomdaaaGreat
open Go.RowKit

/-- The first ports. -/
def upto (k : Nat) : List Int := (List.range k).map fun (i : Nat) => (i : Int)
theorem upto_len (k : Nat) : (upto k).length = k := by simp [upto]
theorem upto_succ (k : Nat) : upto (k + 1) = upto k ++ [(k : Int)] := by simp [upto, List.range_succ]
theorem upto_get {k i : Nat} (h : i < k) : (upto k)[i]? = some (i : Int) := by simp [upto, h]
theorem info_int3 : (Tryz.prog.info? 3).map (fun i => (i.zero.map (·.cells.size), i.size, i.bytes)) = some (some 1, 1, 8) := by kernel_rfl

section
variable {F : FA} {w : World} {s : MemS} {rg : Nat → Nat → RingS} {b : Nat} {x : CAct}
/-- While a SetVlan begins: k locks are noted. -/
structure CmdV (F : FA) (w wr : World) (s : MemS) (rg : Nat → Nat → RingS) (who : Int) (o : OpS) (ob : Nat) (lv : Value) (k : Nat) : Prop where
  act : IsCAct F wr (ob + 1) ⟨who, o, .nilFunc, .slice none 0 0, [], lv, upto k, 0, 0, .pointer none, .pointer none⟩
  bo : Blk wr ob o.cells 68
  fab : Fab F wr s rg
  kp : Kp w wr (fun _ => False)
  own : Own wr w.heap.size 3 1 lv k (i64s (upto k))
  hob : w.heap.size ≤ ob
  wz : F.w0.heap.size ≤ w.heap.size
theorem CmdV.step {wr w1 : World} {who : Int} {o : OpS} {ob k : Nat} {lv v1 : Value} (h : CmdV F w wr s rg who o ob lv k) (hown : Own w1 w.heap.size 3 1 v1 (k + 1) (i64s (upto k) ++ [.int .i64 k])) (hk : Kp wr w1 (fun c => lv.ownBlock = some c)) :
    CmdV F w (w1.setCell ⟨ob + 1, 18, none⟩ v1) s rg who o ob v1 (k + 1) := by
  have e : i64s (upto k) ++ [.int .i64 k] = i64s (upto (k + 1)) := by rw [upto_succ]; simp [i64s]
  rw [e] at hown
  have hob := h.hob
  have hwz := h.wz
  have hb1 := h.act.blk.kp hk (fun e => h.own.ne_blk h.act.blk (by decide) e)
  have hs := (Kp.refl w1 (fun c => c = ob + 1)).setCell (p := ⟨ob + 1, 18, none⟩) (fun _ => rfl) v1
  have hF1 := h.fab.past hk (fun c e => by have := (h.own.lt e).1; omega)
  have hO := hown.far (p := ⟨ob + 1, 18, none⟩) (hown.ne_blk hb1 (by decide)) v1
  refine ⟨⟨hb1.put 18 v1 rfl, h.act.base, Own.nil _ _ _ _, ?_⟩, ?_, hF1.past hs (fun c (e : c = _) => by omega), ?_, hO, hob, hwz⟩
  · have h2 := hO.mono hwz
    show Own _ _ _ _ v1 (upto (k + 1)).length _
    rw [upto_len]
    exact h2
  · have h2 := h.bo.kp hk (fun e => h.own.ne_blk h.bo (by decide) e)
    exact h2.far (by show ob ≠ ob + 1; omega) v1
  · exact (h.kp.trans hk (fun c hc e => by have := (h.own.lt e).1; omega)).trans hs (fun c hc (e : c = _) => by omega)

set_option maxHeartbeats 1000000 in
theorem command_vlan_calls (hF : Fab F w s rg) (who : Int) (o : OpS) (hw : 0 ≤ who) (hk : o.kind = 9) (j : Nat) (v : Vl) (hv : F.vs[j]? = some v) (hid : o.vid = v.vid) :
    Calls Tryz.prog 28 #[ptr F.f, .int .i64 who, o.agg] w fun e w' => ∃ b log locks, e = .returned (ptr b) ∧ IsCAct F w' b (cact0 who o (fnv 75) log locks s.time (upto F.p.ports.toNat) (.pointer none)) ∧ Fab F w' s rg ∧ Below w.heap.size w w' := by
  obtain ⟨kind, port, dest, vid, state, kvid, kmac, mem, unt, now, limit, shard, bucket, id⟩ := o
  obtain rfl : kind = 9 := hk
  obtain rfl : vid = v.vid := hid
  have hj := (List.getElem?_eq_some_iff.1 hv).1
  have hri := hF.ok.ris
  have hp := hF.ok.good.ports
  obtain ⟨P, hP⟩ : ∃ P : Nat, F.p.ports = (P : Int) := ⟨F.p.ports.toNat, by omega⟩
  have hPn : F.p.ports.toNat = P := by omega
  rw [hPn]
  have hP8 : P ≤ 8 := by omega
  have hP0 : (0 : Int) ≤ (P : Int) := by omega
  have HP := Go.Lib.hid hP
  clear hP hPn hp
  have bo := (Blk.new w (OpS.cells ⟨9, port, dest, v.vid, state, kvid, kmac, mem, unt, now, limit, shard, bucket, id⟩) 68).alloc (.cells (CAct.cells F.f ⟨who, ⟨9, port, dest, v.vid, state, kvid, kmac, mem, unt, now, limit, shard, bucket, id⟩, .nilFunc, .slice none 0 0, [], .slice none 0 0, [], 0, 0, .pointer none, .pointer none⟩).toArray 149)
  have ba := Blk.new' (w.alloc (.cells (OpS.cells ⟨9, port, dest, v.vid, state, kvid, kmac, mem, unt, now, limit, shard, bucket, id⟩).toArray 68)) (CAct.cells F.f ⟨who, ⟨9, port, dest, v.vid, state, kvid, kmac, mem, unt, now, limit, shard, bucket, id⟩, .nilFunc, .slice none 0 0, [], .slice none 0 0, [], 0, 0, .pointer none, .pointer none⟩) 149 (b := w.heap.size + 1) (by simp)
  have hF1 := (hF.alloc (.cells (OpS.cells ⟨9, port, dest, v.vid, state, kvid, kmac, mem, unt, now, limit, shard, bucket, id⟩).toArray 68)).alloc (.cells (CAct.cells F.f ⟨who, ⟨9, port, dest, v.vid, state, kvid, kmac, mem, unt, now, limit, shard, bucket, id⟩, .nilFunc, .slice none 0 0, [], .slice none 0 0, [], 0, 0, .pointer none, .pointer none⟩).toArray 149)
  have hK1 := ((Kp.refl w (fun _ => False)).alloc (.cells (OpS.cells ⟨9, port, dest, v.vid, state, kvid, kmac, mem, unt, now, limit, shard, bucket, id⟩).toArray 68)).alloc (.cells (CAct.cells F.f ⟨who, ⟨9, port, dest, v.vid, state, kvid, kmac, mem, unt, now, limit, shard, bucket, id⟩, .nilFunc, .slice none 0 0, [], .slice none 0 0, [], 0, 0, .pointer none, .pointer none⟩).toArray 149)
  have hlt0 : F.w0.heap.size ≤ w.heap.size := hF.kp.size
  clear hF
  unfold OpS.agg
  simp only [OpS.cells, CAct.cells, List.cons_append, List.nil_append] at bo ba hF1 hK1
  go_enter Tryz.func28, Tryz.ntmps28
  go_wp2_with fail
  generalize ((w.alloc _).alloc _) = W at *
  obtain ⟨ob, hob⟩ : ∃ n, w.heap.size = n := ⟨_, rfl⟩
  rw [hob] at bo ba hlt0
  have HOB := Go.Lib.hid hob
  rw [hob]
  clear hob
  have hfv := fvlan_calls hF1 v.vid
  have hV0 : CmdV F w W s rg who ⟨9, port, dest, v.vid, state, kvid, kmac, mem, unt, now, limit, shard, bucket, id⟩ ob (.slice none 0 0) 0 := ⟨⟨ba, by omega, Own.nil _ _ _ _, Own.nil _ _ _ _⟩, bo, hF1, hK1, Own.nil _ _ _ _, by have := HOB.out; omega, by have := HOB.out; omega⟩
  refine hfv.mono ?_
  rintro e1 W1 ⟨⟨r, rfl, hr⟩, hB1⟩
  obtain rfl := hr.at hri hv
  have hV1 : CmdV F w W1 s rg who ⟨9, port, dest, v.vid, state, kvid, kmac, mem, unt, now, limit, shard, bucket, id⟩ ob (.slice none 0 0) 0 := ⟨hV0.act.below hB1, hV0.bo.below hB1, hV0.fab.below hB1, hV0.kp.trans (Kp.of_below hB1) (fun _ _ h => h), Own.nil _ _ _ _, hV0.hob, hV0.wz⟩
  have k0 := hV1.fab.ports
  have n0 : (0 : Int) ≤ (j : Int) := by omega
  rw [HP.out] at k0
  clear hfv hB1 hr hV0 bo ba hF1 hK1
  go_wp2_with fail
  have hu := Tryz.underlying90
  go_loopg [71] P (fun d i wr => ∃ (k : Nat) (lv : Value), k + d = P ∧ i = .int .i64 k ∧ CmdV F w wr s rg who ⟨9, port, dest, v.vid, state, kvid, kmac, mem, unt, now, limit, shard, bucket, id⟩ ob lv k)
  case atStart => exact ⟨0, _, by omega, rfl, hV1⟩
  case round =>
    obtain ⟨k, lv, hk, rfl, hV⟩ := hrel
    clear hV1 k0
    have c18 : wr.cell? ⟨ob + 1, 18, none⟩ = some lv := hV.act.blk.get 18 rfl
    by_cases hlt : k < P
    · have hk1 : (k : Int) < (P : Int) := by omega
      have lt1 : ob + 1 < wr.heap.size := hV.act.blk.lt
      have lt2 : w.heap.size ≤ wr.heap.size := hV.kp.size
      have hO := hV.own
      have HV := Go.Lib.hid hV
      have HK := Go.Lib.hid hk
      clear hV hk
      go_wp2_with (at_builtin; refine own_append1 rfl _ _ 90 3 w.heap.size 1 8 k rfl hu info_int3 (by decide) lv (i64s (upto k)) [.int .i64 k] rfl rfl rfl (by simp [Value.oneCell']) hO lt2 (by unfold maxLen; omega) (by omega) ?c3)
      case c3 =>
        intro v1 w1 hown hkp hat
        obtain ⟨g, c, rfl, _, _⟩ := hown.pos (by omega)
        have hst := HV.out.step hown hkp
        have hb1 := HV.out.act.blk.kp hkp (fun e => HV.out.own.ne_blk HV.out.act.blk (by decide) e)
        have d18 := hb1.get 18 rfl
        have f18 := hb1.frozen 18
        have HST := Go.Lib.hid hst
        clear hst hown hkp hat hb1 hO c18
        go_wp2_with fail
        go_roundg (gk - 1)
        case measure => have := HK.out; omega
        case rel => exact ⟨k + 1, _, by have := HK.out; omega, by go_num, HST.out⟩
    · obtain rfl : k = P := by omega
      have hge : (k : Int) ≤ (k : Int) := Int.le_refl _
      have ba := hV.act.blk
      have a16 := ba.get 16 rfl
      have g16 := ba.frozen 16
      have hA2 : IsCAct F (wr.setCell ⟨ob + 1, 16, none⟩ (fnv 75)) (ob + 1) ⟨who, ⟨9, port, dest, v.vid, state, kvid, kmac, mem, unt, now, limit, shard, bucket, id⟩, fnv 75, .slice none 0 0, [], lv, upto k, 0, 0, .pointer none, .pointer none⟩ := hV.act.put rfl rfl rfl rfl rfl
      have hW2 := (Kp.refl wr (fun c => c = ob + 1)).setCell (p := ⟨ob + 1, 16, none⟩) (fun _ => rfl) (fnv 75)
      have hob := hV.hob
      have hwz := hV.wz
      have hF2 := hV.fab.past hW2 (fun c (e : c = _) => by omega)
      have bo2 := hV.bo.kp hW2 (by omega)
      have hK2 := hV.kp.trans hW2 (fun c hc (e : c = _) => by omega)
      have hB2 := hA2.blk
      clear hV hlt
      go_upto_region 22 with fail
      clear ba a16 g16 c18
      generalize (World.setCell wr _ _) = W2 at hA2 hF2 bo2 hK2 hB2 ⊢
      obtain ⟨hA3, hF3, hK3⟩ := cmd_end hA2 hF2
      have hne : ¬ ob = ob + 1 := by omega
      have hlt2 : ob + 1 < W2.heap.size := hB2.lt
      have bo3 := bo2.kp hK3 hne
      have ht := time_calls hF2.drew.mem
      have a17 := hB2.get 17 rfl
      have g17 := hB2.frozen 17
      have kA := opKeep (f := F.f) (m := F.a.m) (o := ⟨9, port, dest, v.vid, state, kvid, kmac, mem, unt, now, limit, shard, bucket, id⟩) hF2.drew.memc bo2.drew
      have kB := opKeep (f := F.f) (m := F.a.m) (o := ⟨9, port, dest, v.vid, state, kvid, kmac, mem, unt, now, limit, shard, bucket, id⟩) (hF2.alloc (.cells (EntS.cells ⟨who, s.time, 0, 0, ⟨9, port, dest, v.vid, state, kvid, kmac, mem, unt, now, limit, shard, bucket, id⟩, 0⟩).toArray 75)).drew.memc (bo2.alloc (.cells (EntS.cells ⟨who, s.time, 0, 0, ⟨9, port, dest, v.vid, state, kvid, kmac, mem, unt, now, limit, shard, bucket, id⟩, 0⟩).toArray 75)).drew
      have kC := opKeep (f := F.f) (m := F.a.m) (o := ⟨9, port, dest, v.vid, state, kvid, kmac, mem, unt, now, limit, shard, bucket, id⟩) hF3.drew.memc bo3.drew
      have hfin : ∃ b log locks, (ptr (ob + 1)) = (ptr b) ∧ IsCAct F ((W2.setCell ⟨ob + 1, 17, none⟩ (.slice (some ⟨W2.heap.size, 0, none⟩) 1 1)).alloc (.cells (EntS.cells ⟨who, s.time, 0, 0, ⟨9, port, dest, v.vid, state, kvid, kmac, mem, unt, now, limit, shard, bucket, id⟩, 0⟩).toArray 75)).drew b (cact0 who ⟨9, port, dest, v.vid, state, kvid, kmac, mem, unt, now, limit, shard, bucket, id⟩ (fnv 75) log locks s.time (upto k) (.pointer none)) ∧ Fab F ((W2.setCell ⟨ob + 1, 17, none⟩ (.slice (some ⟨W2.heap.size, 0, none⟩) 1 1)).alloc (.cells (EntS.cells ⟨who, s.time, 0, 0, ⟨9, port, dest, v.vid, state, kvid, kmac, mem, unt, now, limit, shard, bucket, id⟩, 0⟩).toArray 75)).drew s rg ∧ Below w.heap.size w ((W2.setCell ⟨ob + 1, 17, none⟩ (.slice (some ⟨W2.heap.size, 0, none⟩) 1 1)).alloc (.cells (EntS.cells ⟨who, s.time, 0, 0, ⟨9, port, dest, v.vid, state, kvid, kmac, mem, unt, now, limit, shard, bucket, id⟩, 0⟩).toArray 75)).drew :=
        ⟨ob + 1, _, _, rfl, hA3.drew, hF3.drew, (hK2.trans hK3 (fun c hc (e : c = _) => by have := HOB.out; omega)).drew.toBelow⟩
      simp only [EntS.cells, OpS.cells, List.cons_append, List.nil_append, List.append_nil] at hfin kB kC
      obtain ⟨x0, x1, x2, x3, x4, x5, x6, x7, x8, x9, x10, x11, x12, x13, x14⟩ := kA
      have HFIN := Go.Lib.hid hfin
      clear hfin hA3 hF3 hK3 bo3 hA2 hB2 hF2 bo2 hK2
      have ne1 : ¬ ob + 1 = W2.heap.size := by omega
      have ne2 : ¬ W2.heap.size = ob + 1 := by omega
      go_region_held3 (fun W => W.cell? ⟨F.f, 10, none⟩ = some (ptr F.a.m) ∧ W.cell? ⟨ob, 0, none⟩ = some (.int .i64 9) ∧ W.cell? ⟨ob, 1, none⟩ = some (.int .i64 port) ∧ W.cell? ⟨ob, 2, none⟩ = some (.int .i64 dest) ∧ W.cell? ⟨ob, 3, none⟩ = some (.int .i64 v.vid) ∧ W.cell? ⟨ob, 4, none⟩ = some (.int .i64 state) ∧ W.cell? ⟨ob, 5, none⟩ = some (.int .i64 kvid) ∧ W.cell? ⟨ob, 6, none⟩ = some (.int .u64 kmac) ∧ W.cell? ⟨ob, 7, none⟩ = some (.int .u64 mem) ∧ W.cell? ⟨ob, 8, none⟩ = some (.int .u64 unt) ∧ W.cell? ⟨ob, 9, none⟩ = some (.int .u32 now) ∧ W.cell? ⟨ob, 10, none⟩ = some (.int .u32 limit) ∧ W.cell? ⟨ob, 11, none⟩ = some (.int .i64 shard) ∧ W.cell? ⟨ob, 12, none⟩ = some (.int .i64 bucket) ∧ W.cell? ⟨ob, 13, none⟩ = some (.int .i64 id))
        (first | exact ⟨x0, x1, x2, x3, x4, x5, x6, x7, x8, x9, x10, x11, x12, x13, x14⟩ | exact kB | exact kC)
        (first | (go_at_call 44; refine ht.mono ?_; rintro e3 w3 ⟨rfl, rfl⟩))
      clear kB kC x0 x1 x2 x3 x4 x5 x6 x7 x8 x9 x10 x11 x12 x13 x14 a17 g17 ht
      go_wp2_with fail
      go_ret
      obtain ⟨b, lg, lk, e, r⟩ := HFIN.out
      exact ⟨b, lg, lk, congrArg Ending.returned e, r⟩
end
end Go.Proofs.YtcpaodidpomdaaaGreat

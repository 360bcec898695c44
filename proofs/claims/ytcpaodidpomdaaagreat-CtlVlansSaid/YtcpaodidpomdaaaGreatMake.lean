/- ctl.Make: a fabric of a plan that may be. -/
import Derived.Test.YtcpaodidpomdaaaGreatLay
import Derived.Test.YtcpaodidpomdaaaGreatCopied
set_option linter.unusedVariables false
set_option linter.unusedSimpArgs false
namespace Go.Proofs.YtcpaodidpomdaaaGreat
open Go.RowKit

theorem vlanAt_calls {w : World} {f : Nat} (P i : Int) (h : w.cell? ⟨f, 0, none⟩ = some (.int .i64 P)) (hP : 0 ≤ P ∧ P ≤ 8) (hi : 0 ≤ i ∧ i ≤ 1000) :
    Calls Tryz.prog 84 #[ptr f, .int .i64 i] w fun e w' => e = .returned (.int .i64 (P + 2 * i)) ∧ w = w' := by
  obtain ⟨p1, p2⟩ := hP
  obtain ⟨i1, i2⟩ := hi
  go_enter Tryz.func84, Tryz.ntmps84
  go_wp2
  go_ret
  exact ⟨rfl, rfl⟩

/-- While a fabric is made: the plan's block, the fabric's, the plan's lists. -/
structure MkS (w W : World) (p : Nums) (rs : List Rule) (vs : List Vl) (r v : Value) (f : Nat) (r' v' x y z : Value) : Prop where
  b0 : Blk W w.heap.size (p.cells r v) 107
  fab : Blk W f (p.cells r' v' ++ [x, y, z]) 144
  ownR : Own W w.heap.size 187 2 r' rs.length (ruleCells rs)
  ownV : Own W w.heap.size 182 3 v' vs.length (vlCells vs)
  below : Below w.heap.size w W
  hf : w.heap.size < f
section
variable {w W W1 : World} {p : Nums} {rs : List Rule} {vs : List Vl} {r v r' v' x y z : Value} {f : Nat}
theorem MkS.kp {S : Nat → Prop} (h : MkS w W p rs vs r v f r' v' x y z) (k : Kp W W1 S) (h1 : ¬ S w.heap.size) (h2 : ¬ S f) (h3 : ∀ b, r'.ownBlock = some b → ¬ S b) (h4 : ∀ b, v'.ownBlock = some b → ¬ S b) (h5 : ∀ b, b < w.heap.size → ¬ S b) : MkS w W1 p rs vs r v f r' v' x y z :=
  ⟨h.b0.kp k h1, h.fab.kp k h2, h.ownR.kp k h3, h.ownV.kp k h4, ((Kp.of_below (S := fun _ => False) h.below).trans k (fun b hb e => h5 b hb e)).toBelow, h.hf⟩
theorem MkS.to (h : MkS w W p rs vs r v f r' v' x y z) (k : Below W.heap.size W W1) : MkS w W1 p rs vs r v f r' v' x y z :=
  h.kp (Kp.of_below (S := fun _ => False) k) (fun h => h) (fun h => h) (fun _ _ h => h) (fun _ _ h => h) (fun _ _ h => h)
theorem MkS.mem {a : MemA} {s : MemS} (h : MkS w W p rs vs r v f r' v' x y z) (hM : IsMem W a s) (hn : ∀ b, a.has b → w.heap.size ≤ b) (k : Kp W W1 (fun k => k = a.m ∨ k = a.cb)) : MkS w W1 p rs vs r v f r' v' x y z :=
  h.kp k (fun e => e.elim (fun e => h.b0.ne hM.hm (by decide) e) (fun e => h.b0.ne hM.hc (by decide) e)) (fun e => e.elim (fun e => h.fab.ne hM.hm (by decide) e) (fun e => h.fab.ne hM.hc (by decide) e))
    (fun b hb e => e.elim (fun e => h.ownR.ne_blk hM.hm (by decide) (e ▸ hb)) (fun e => h.ownR.ne_blk hM.hc (by decide) (e ▸ hb)))
    (fun b hb e => e.elim (fun e => h.ownV.ne_blk hM.hm (by decide) (e ▸ hb)) (fun e => h.ownV.ne_blk hM.hc (by decide) (e ▸ hb)))
    (fun b hb e => by
      rcases e with e | e
      · have := hn a.m (.inl rfl); omega
      · have := hn a.cb (.inr (.inl rfl)); omega)
theorem MkS.put {x1 y1 z1 u : Value} {i : Nat} (h : MkS w W p rs vs r v f r' v' x y z) (e : (p.cells r' v' ++ [x, y, z]).set i u = p.cells r' v' ++ [x1, y1, z1]) : MkS w (W.setCell ⟨f, i, none⟩ u) p rs vs r v f r' v' x1 y1 z1 :=
  have k := (Kp.refl W (fun k => k = f)).setCell (p := ⟨f, i, none⟩) (fun _ => rfl) u
  have hf := h.hf
  ⟨h.b0.kp k (fun e => by have : w.heap.size = f := e; omega), h.fab.put i u e, h.ownR.kp k (fun b hb e => h.ownR.ne_blk h.fab (by decide) (e ▸ hb)), h.ownV.kp k (fun b hb e => h.ownV.ne_blk h.fab (by decide) (e ▸ hb)),
    ((Kp.of_below (S := fun _ => False) h.below).trans k (fun b hb e => by have : b = f := e; omega)).toBelow, h.hf⟩
theorem MkS.drewN (h : MkS w W p rs vs r v f r' v' x y z) (n : Nat) : MkS w (W.drewN n) p rs vs r v f r' v' x y z := h.kp ((Kp.refl W (fun _ => False)).drewN n) (fun h => h) (fun h => h) (fun _ _ h => h) (fun _ _ h => h) (fun _ _ h => h)
theorem MkS.drew (h : MkS w W p rs vs r v f r' v' x y z) : MkS w W.drew p rs vs r v f r' v' x y z := h.kp ((Kp.refl W (fun _ => False)).drew) (fun h => h) (fun h => h) (fun _ _ h => h) (fun _ _ h => h) (fun _ _ h => h)
theorem MkS.alloc (h : MkS w W p rs vs r v f r' v' x y z) (o : Obj) : MkS w (W.alloc o) p rs vs r v f r' v' x y z := h.kp ((Kp.refl W (fun _ => False)).alloc o) (fun h => h) (fun h => h) (fun _ _ h => h) (fun _ _ h => h) (fun _ _ h => h)
theorem MkS.cells (h : MkS w W p rs vs r v f r' v' x y z) : W.cell? ⟨w.heap.size, 0, none⟩ = some (.int .i64 p.ports) ∧ W.cell? ⟨w.heap.size, 2, none⟩ = some v ∧ W.cell? ⟨w.heap.size, 3, none⟩ = some (.int .i64 p.sh) ∧ W.cell? ⟨w.heap.size, 4, none⟩ = some (.int .i64 p.bu) ∧ W.cell? ⟨w.heap.size, 5, none⟩ = some (.int .i64 p.sl) ∧ W.cell? ⟨w.heap.size, 6, none⟩ = some (.int .i64 p.tries) ∧ W.cell? ⟨w.heap.size, 7, none⟩ = some (.int .i64 p.ring) :=
  ⟨h.b0.get 0 rfl, h.b0.get 2 rfl, h.b0.get 3 rfl, h.b0.get 4 rfl, h.b0.get 5 rfl, h.b0.get 6 rfl, h.b0.get 7 rfl⟩
theorem MkS.fcells (h : MkS w W p rs vs r v f r' v' x y z) : W.cell? ⟨f, 0, none⟩ = some (.int .i64 p.ports) ∧ W.cell? ⟨f, 10, none⟩ = some x ∧ W.cell? ⟨f, 11, none⟩ = some y ∧ W.cell? ⟨f, 12, none⟩ = some z ∧ W.frozen? ⟨f, 10, none⟩ = false ∧ W.frozen? ⟨f, 11, none⟩ = false :=
  ⟨h.fab.get 0 rfl, h.fab.get 10 rfl, h.fab.get 11 rfl, h.fab.get 12 rfl, h.fab.frozen 10, h.fab.frozen 11⟩
end

/-- The memory's cells, k VLANs stored. -/
structure VC (P : Int) (vs : List Vl) (k N : Nat) (cells : List Int) : Prop where
  len : cells.length = N
  got : ∀ (j : Nat) v, vs[j]? = some v → j < k → cells[(P + 2 * j).toNat]? = some (v.mem : Int) ∧ cells[(P + 2 * j + 1).toNat]? = some (v.unt : Int)
  zero : ∀ i : Nat, i < N → ((i : Int) < P ∨ P + 2 * k ≤ i) → cells[i]? = some 0
theorem VC.start (P : Int) (vs : List Vl) (N : Nat) : VC P vs 0 N (List.replicate N 0) :=
  ⟨by simp, fun j v _ h => by omega, fun i hi _ => by simp [List.getElem?_replicate, hi]⟩
theorem VC.step {P : Int} {vs : List Vl} {k N : Nat} {cells : List Int} {x : Vl} (h : VC P vs k N cells) (hx : vs[k]? = some x) (h0 : 0 ≤ P) (h1 : P + 2 * k + 1 < N) :
    VC P vs (k + 1) N ((cells.set (P + 2 * k).toNat (x.mem : Int)).set (P + 2 * k + 1).toNat (x.unt : Int)) := by
  have hl := h.len
  refine ⟨by simp [hl], ?_, ?_⟩
  · intro j v hj hlt
    by_cases he : j = k
    · subst he
      rw [hx] at hj
      injection hj with hj
      subst hj
      constructor
      · rw [List.getElem?_set_ne (by omega), List.getElem?_set_self (by omega)]
      · rw [List.getElem?_set_self (by simp; omega)]
    · obtain ⟨g1, g2⟩ := h.got j v hj (by omega)
      constructor
      · rw [List.getElem?_set_ne (by omega), List.getElem?_set_ne (by omega)]; exact g1
      · rw [List.getElem?_set_ne (by omega), List.getElem?_set_ne (by omega)]; exact g2
  · intro i hi ho
    rw [List.getElem?_set_ne (by omega), List.getElem?_set_ne (by omega)]
    exact h.zero i hi (by omega)

/-- In Make's loop. -/
structure MkL (w wr : World) (p : Nums) (rs : List Rule) (vs : List Vl) (r v : Value) (f : Nat) (r' v' : Value) (a : MemA) (fd : Nat) (E : Int) (N K k : Nat) : Prop where
  st : MkS w wr p rs vs r v f r' v' (ptr a.m) (ptr fd) (.slice none 0 0)
  mem : ∃ cells, VC p.ports vs k N cells ∧ IsMem wr a ⟨cells, List.replicate K (-1), 2 * k⟩
  fdb : IsFdb wr fd a.m E p.ports p.sh p.bu p.sl p.tries

/-- What Make made. -/
structure Made (w w' : World) (p : Nums) (rs : List Rule) (vs : List Vl) (f : Nat) (a : MemA) (fd : Nat) (E C : Int) (N K : Nat) (A B : Option Addr) (c d : Nat) (V : Value) (rows : List (Value × List Nat)) : Prop where
  fab : Blk w' f (fabCells p (.slice A rs.length c) (.slice B vs.length d) a.m (ptr fd) V) 144
  ownR : Own w' w.heap.size 187 2 (.slice A rs.length c) rs.length (ruleCells rs)
  ownV : Own w' w.heap.size 182 3 (.slice B vs.length d) vs.length (vlCells vs)
  fdb : IsFdb w' fd a.m E p.ports p.sh p.bu p.sl p.tries
  mem : ∃ cells τ, VC p.ports vs vs.length N cells ∧ IsMem w' a ⟨cells, List.replicate K (-1), τ⟩ ∧ 0 ≤ τ ∧ τ ≤ 1000
  nrows : rows.length = p.ports.toNat
  own : Own w' w.heap.size 130 1 V rows.length (rows.map (·.1))
  each : ∀ (i : Nat) x, rows[i]? = some x → RowOk w' w.heap.size a.m (E + C + i * ((p.ports.toNat : Nat) * (p.ring + 2))) p.ring x.1 p.ports.toNat x.2
  below : Below w.heap.size w w'
  hf : w.heap.size < f
  ha : ∀ b, a.has b → f < b
  hE : p.ports + 2 * (vs.length : Int) = E
  hN : (N : Int) = E + C + p.ports * p.ports * (p.ring + 2)
  hK : (K : Int) = p.ports + p.sh
  hC : p.sh * p.bu * (1 + 2 * p.sl) = C

theorem Made.of {w wr w' : World} {p : Nums} {rs : List Rule} {vs : List Vl} {r v : Value} {f : Nat} {A B : Option Addr} {c d : Nat} {a : MemA} {fd : Nat} {E C : Int} {N K : Nat} {V : Value} {rows : List (Value × List Nat)} {cells : List Int}
    (hL : MkL w wr p rs vs r v f (.slice A rs.length c) (.slice B vs.length d) a fd E N K vs.length) (hM : IsMem wr a ⟨cells, List.replicate K (-1), 2 * vs.length⟩) (hV : VC p.ports vs vs.length N cells)
    (hO : LayOut wr w' a ⟨cells, List.replicate K (-1), 2 * vs.length⟩ f p (.slice A rs.length c) (.slice B vs.length d) (ptr fd) (E + C) p.ports.toNat V rows) (hrow : rows.length = p.ports.toNat) (hE : p.ports + 2 * (vs.length : Int) = E) (ha : ∀ b, a.has b → f < b) (hn : p.ports ≤ 8) (hvl : vs.length ≤ 8) (hN : (N : Int) = E + C + p.ports * p.ports * (p.ring + 2)) (hK : (K : Int) = p.ports + p.sh) (hC : p.sh * p.bu * (1 + 2 * p.sl) = C) : Made w w' p rs vs f a fd E C N K A B c d V rows := by
  have hS := hL.st
  have hk := hO.kp
  obtain ⟨τ, q1, q2, hM2⟩ := hO.mem
  have hsz := hS.below.size
  refine ⟨hO.fab, hS.ownR.kp hk ?_, hS.ownV.kp hk ?_, ⟨hL.fdb.out.kp hk ?_⟩, ⟨cells, τ, hV, hM2, ?_, ?_⟩, hrow, hO.own.mono hsz, fun i x hi => (hO.each i x hi).mono hsz, ?_, hS.hf, ha, hE, hN, hK, hC⟩
  · intro b hb e
    rcases e with e | e | e
    · exact hS.ownR.ne_blk hM.hm (by decide) (e ▸ hb)
    · exact hS.ownR.ne_blk hM.hc (by decide) (e ▸ hb)
    · exact hS.ownR.ne_blk hS.fab (by decide) (e ▸ hb)
  · intro b hb e
    rcases e with e | e | e
    · exact hS.ownV.ne_blk hM.hm (by decide) (e ▸ hb)
    · exact hS.ownV.ne_blk hM.hc (by decide) (e ▸ hb)
    · exact hS.ownV.ne_blk hS.fab (by decide) (e ▸ hb)
  · intro e
    rcases e with e | e | e
    · exact hL.fdb.out.ne hM.hm (by decide) e
    · exact hL.fdb.out.ne hM.hc (by decide) e
    · exact hL.fdb.out.ne hS.fab (by decide) e
  · have : 2 * (vs.length : Int) ≤ τ := q1
    omega
  · have : τ ≤ 2 * (vs.length : Int) + 16 * rows.length := q2
    omega
  · refine ((Kp.of_below (S := fun _ => False) hS.below).trans hk (fun b hb e => ?_)).toBelow
    have hf := hS.hf
    rcases e with e | e | e
    · have := ha a.m (.inl rfl); omega
    · have := ha a.cb (.inr (.inl rfl)); omega
    · have : b = f := e; omega

theorem MkS.start {w w1 w2 : World} {p : Nums} {rs : List Rule} {vs : List Vl} {r v r' v' : Value} (b : Blk w2 w.heap.size (p.cells r v) 107) (hR : Own w2 w1.heap.size 187 2 r' rs.length (ruleCells rs)) (hV : Own w2 w1.heap.size 182 3 v' vs.length (vlCells vs))
    (hB : Below w.heap.size w w2) (h1 : w.heap.size ≤ w1.heap.size) (h2 : w.heap.size < w2.heap.size) :
    MkS w (w2.alloc (.cells (p.cells r' v' ++ [Value.pointer none, Value.pointer none, Value.slice none 0 0]).toArray 144)) p rs vs r v w2.heap.size r' v' (.pointer none) (.pointer none) (.slice none 0 0) :=
  ⟨b.alloc _, Blk.new _ _ _, (hR.alloc _).mono h1, (hV.alloc _).mono h1, hB.alloc hB.size _, h2⟩

set_option maxRecDepth 100000 in
set_option maxHeartbeats 400000 in
theorem make_calls (w : World) (p : Nums) (A B : Option Addr) (rs : List Rule) (vs : List Vl) (c d : Nat) (hg : p.Good) (hn : (rs.length : Int) = p.ports) (hr : ∀ r ∈ rs, r.Right) (hv : ∀ v ∈ vs, Vl.Ok p.ports.toNat v) (hri : Rising 0 vs) (hvl : vs.length ≤ 8)
    (hA : Rd w A (ruleCells rs)) (hB : Rd w B (vlCells vs)) (hsA : Sv A rs.length c) (hsB : Sv B vs.length d) :
    Calls Tryz.prog 50 #[p.agg (.slice A rs.length c) (.slice B vs.length d)] w fun e w' => ∃ f a fd E C N K A2 B2 c2 d2 V rows, e = .returned (.tuple #[ptr f, .int .i64 0]) ∧ Made w w' p rs vs f a fd E C N K A2 B2 c2 d2 V rows := by
  have hp := hg.ports
  have hsh := hg.sh
  have hbu := hg.bu
  have hsl := hg.sl
  have htr := hg.tries
  have hrg := hg.ring
  have b0 := Blk.new w (p.cells (.slice A rs.length c) (.slice B vs.length d)) 107
  have hz := (Below.refl w.heap.size w).alloc (Nat.le_refl _) (.cells (p.cells (.slice A rs.length c) (.slice B vs.length d)).toArray 107)
  have hcheck := check_calls (w.alloc (.cells (p.cells (.slice A rs.length c) (.slice B vs.length d)).toArray 107)) p A B rs vs c d hg hn hr hv hri hvl (hA.below hz) (hB.below hz)
  have hcop : ∀ W, Below w.heap.size w W → Calls Tryz.prog 96 #[p.agg (.slice A rs.length c) (.slice B vs.length d)] W fun e w' => ∃ (A B : Option Addr) (c d : Nat),
      e = .returned (.agg #[.int .i64 p.ports, .slice A rs.length c, .slice B vs.length d, .int .i64 p.sh, .int .i64 p.bu, .int .i64 p.sl, .int .i64 p.tries, .int .i64 p.ring, .int .u32 p.normal, .int .u32 p.short]) ∧
      Own w' W.heap.size 187 2 (.slice A rs.length c) rs.length (ruleCells rs) ∧ Own w' W.heap.size 182 3 (.slice B vs.length d) vs.length (vlCells vs) ∧ Below W.heap.size W w' := fun W (h : Below w.heap.size w W) => copied_calls W p A B rs vs c d (hA.below h) (hB.below h) (by omega) (by omega) hsA hsB
  simp only [Nums.cells] at b0 hz hcheck
  have hsz : (w.alloc (.cells #[.int .i64 p.ports, .slice A rs.length c, .slice B vs.length d, .int .i64 p.sh, .int .i64 p.bu, .int .i64 p.sl, .int .i64 p.tries, .int .i64 p.ring, .int .u32 p.normal, .int .u32 p.short] 107)).heap.size = w.heap.size + 1 := by simp
  simp only [Nums.agg] at hcheck hcop
  unfold Nums.agg
  go_enter Tryz.func50, Tryz.ntmps50
  go_upto_region 1 with fail
  generalize (w.alloc _) = W0 at b0 hz hcheck hsz ⊢
  have hpc := plan_cells (r := .slice A rs.length c) (v := .slice B vs.length d) b0
  obtain ⟨p0, p1, p2, p3, p4, p5, p6, p7, p8, p9⟩ := hpc
  go_upto_region 5 with (first
    | (go_at_call 95; refine hcheck.mono ?_; rintro e w1 ⟨rfl, hB1⟩; have b01 := b0.below hB1; have hpc1 := plan_cells (r := .slice A rs.length c) (v := .slice B vs.length d) b01; obtain ⟨p0', p1', p2', p3', p4', p5', p6', p7', p8', p9'⟩ := hpc1; have hB1' := hz.trans (by rw [hsz] at hB1; exact hB1.mono (Nat.le_succ _)); have hcop1 := hcop w1 hB1')
    | (go_at_call 96; refine hcop1.mono ?_; rintro e w2 ⟨A2, B2, c2, d2, rfl, hOR, hOV, hB2⟩))
  have hS := MkS.start (b01.below hB2) hOR hOV (hB1'.trans (hB2.mono hB1'.size)) hB1'.size (by rw [hsz] at hB1; have := hB1.size; have := hB2.size; omega)
  have hbb : (1 ≤ p.sh ∧ p.sh ≤ 8) ∧ (1 ≤ p.bu ∧ p.bu ≤ 16) ∧ (1 ≤ p.sl ∧ p.sl ≤ 8) := ⟨hsh, hbu, hsl⟩
  have hm1 := mul_bd p.sh p.bu 8 16 (by omega) hsh.2 (by omega) hbu.2
  have hm2 := mul_bd (p.sh * p.bu) (1 + 2 * p.sl) 128 17 hm1.1 hm1.2 (by omega) (by omega)
  have hm3 := mul_bd p.ports p.ports 8 8 (by omega) hp.2 (by omega) hp.2
  have hm4 := mul_bd (p.ports * p.ports) (p.ring + 2) 64 66 hm3.1 hm3.2 (by omega) (by omega)
  simp only [Nums.cells, List.cons_append, List.nil_append] at hS
  generalize (w2.alloc _) = W3 at hS ⊢
  generalize w2.heap.size = f at hS ⊢
  clear hcop hcheck b0 hz hsz p0 p1 p2 p3 p4 p5 p6 p7 p8 p9 hB1 b01 hB1' hcop1 hOR hOV hB2 hA hr hv hri W0 hg
  try clear p0' p1' p2' p3' p4' p5' p6' p7' p8' p9'
  obtain ⟨c0, c2, c3, c4, c5, c6, c7⟩ := hS.cells
  obtain ⟨f0, f10, f11, f12, g10, g11⟩ := hS.fcells
  go_upto_region 7 with (first
    | (go_at_call 84; refine (vlanAt_calls p.ports vs.length f0 ⟨by omega, by omega⟩ ⟨by omega, by omega⟩).mono ?_; rintro e w3 ⟨rfl, rfl⟩)
    | (go_at_call 97; refine (fdbCells_calls _ p.sh p.bu p.sl hbb).mono ?_; rintro e W4 ⟨rfl, hB4⟩))
  have hS4 := hS.to hB4
  obtain ⟨u0, u2, u3, u4, u5, u6, u7⟩ := hS4.cells
  obtain ⟨E, hE⟩ : ∃ E, p.ports + 2 * (vs.length : Int) = E := ⟨_, rfl⟩
  obtain ⟨C, hC⟩ : ∃ C, p.sh * p.bu * (1 + 2 * p.sl) = C := ⟨_, rfl⟩
  rw [hE, hC]
  rw [hC] at hm2
  clear hB4 c0 c2 c3 c4 c5 c6 c7 f0 f10 f11 f12 g10 g11 hS
  have hE1 : 2 ≤ E ∧ E ≤ 24 := by omega
  go_upto_region 8 with (go_quiet ((go_at_call 98; exact quiet_eq (ringCells_calls _ p.ring (by omega) (by omega)))))
  generalize hW5 : World.drewN W4 _ = W5
  have hS5 : MkS w W5 p rs vs (.slice A rs.length c) (.slice B vs.length d) f (.slice A2 rs.length c2) (.slice B2 vs.length d2) (.pointer none) (.pointer none) (.slice none 0 0) := hW5 ▸ hS4.drewN _
  clear hW5 hS4 u0 u2 u3 u4 u5 u6 u7
  obtain ⟨RG, hRG⟩ : ∃ RG, p.ports * p.ports * (p.ring + 2) = RG := ⟨_, rfl⟩
  rw [hRG] at hm4 ⊢
  obtain ⟨N, hN⟩ : ∃ N : Nat, (N : Int) = E + C + RG := ⟨(E + C + RG).toNat, by omega⟩
  obtain ⟨K, hK⟩ : ∃ K : Nat, (K : Int) = p.ports + p.sh := ⟨(p.ports + p.sh).toNat, by omega⟩
  have hnew := fun W => new_calls W N K (by omega) (by omega) (by omega)
  simp only [hN, hK] at hnew
  have hS6 := hS5.drew
  obtain ⟨u0, u2, u3, u4, u5, u6, u7⟩ := hS6.cells
  clear hS5
  have hw1 : IntKind.i64.wrap (p.ports + p.sh) = p.ports + p.sh := IntWalk.i64_in _ (by omega)
  have hsz6 : w.heap.size < f := hS6.hf
  go_upto_region 9 with (
    go_region_held3 (fun w' => w'.cell? ⟨w.heap.size, 0, none⟩ = some (.int .i64 p.ports) ∧ w'.cell? ⟨w.heap.size, 2, none⟩ = some (.slice B vs.length d) ∧ w'.cell? ⟨w.heap.size, 3, none⟩ = some (.int .i64 p.sh) ∧ w'.cell? ⟨w.heap.size, 4, none⟩ = some (.int .i64 p.bu) ∧ w'.cell? ⟨w.heap.size, 5, none⟩ = some (.int .i64 p.sl) ∧ w'.cell? ⟨w.heap.size, 6, none⟩ = some (.int .i64 p.tries) ∧ w'.cell? ⟨w.heap.size, 7, none⟩ = some (.int .i64 p.ring))
      (first | exact hS8.cells | exact hS7.cells | exact hS6.cells)
      (first
        | (go_at_call 100; refine (fdbLocks_calls _ p.sh p.bu p.sl hbb).mono ?_; rintro e W7 ⟨rfl, hB7⟩; have hS7 := hS6.to hB7)
        | (go_at_call 99; refine (hnew _).mono ?_; rintro e W8 ⟨a, rfl, hM8, hB8, ha8⟩; have hS8 := hS7.to hB8)))
  obtain ⟨v0, v10, v11, v12, w10, w11⟩ := hS8.fcells
  clear hnew hw1 hS6 u0 u2 u3 u4 u5 u6 u7
  go_upto_region 12 with fail
  have ha9 : ∀ b, a.has b → f < b := fun b hb => Nat.lt_of_lt_of_le hS7.fab.lt (ha8 b hb)
  have hS9 := hS8.put (x1 := ptr a.m) (y1 := .pointer none) (z1 := .slice none 0 0) (i := 10) (u := ptr a.m) rfl
  have hM9 := hM8.far (p := ⟨f, 10, none⟩) (fun h => absurd (ha9 f h) (by omega)) (ptr a.m)
  generalize W8.setCell _ _ = W9 at hS9 hM9 ⊢
  clear v0 v10 v11 v12 w10 w11 hS8 hM8 hB8 ha8 hB7
  obtain ⟨u0, u2, u3, u4, u5, u6, u7⟩ := hS9.cells
  have hfn := fdbNew_calls hM9 E p.ports p.sh p.bu p.sl p.tries hbb htr (by omega) (by rw [hC]; simp; omega) (by omega) (by simp; omega)
  obtain ⟨v0, v10, v11, v12, w10, w11⟩ := hS9.fcells
  go_upto_region 13 with (go_at_call 101; refine hfn.mono ?_; rintro e W10 ⟨fd, rfl, hFd, hfd, hB10⟩; have hS10 := hS9.to hB10; obtain ⟨x0, x10, x11, x12, y10, y11⟩ := hS10.fcells)
  have hM10 := hM9.kp (Kp.of_below (S := fun _ => False) hB10) (fun _ _ h => h)
  have hS11 := hS10.put (x1 := ptr a.m) (y1 := ptr fd) (z1 := .slice none 0 0) (i := 11) (u := ptr fd) rfl
  have hM11 := hM10.far (p := ⟨f, 11, none⟩) (fun h => absurd (ha9 f h) (by omega)) (ptr fd)
  have hFd11 : IsFdb (W10.setCell ⟨f, 11, none⟩ (ptr fd)) fd a.m E p.ports p.sh p.bu p.sl p.tries := ⟨hFd.out.far (fun e => hFd.out.ne hS10.fab (by decide) e) _⟩
  generalize W10.setCell _ _ = W11 at hS11 hM11 hFd11 ⊢
  clear v0 v10 v11 v12 w10 w11 hS9 hM9 hfn hB10 hfd hS10 x0 x10 x11 x12 y10 y11 hM10 hFd u0 u2 u3 u4 u5 u6 u7 hS7
  obtain ⟨u0, u2, u3, u4, u5, u6, u7⟩ := hS11.cells
  go_wp2_with fail
  have L0 : MkL w W11 p rs vs (.slice A rs.length c) (.slice B vs.length d) f (.slice A2 rs.length c2) (.slice B2 vs.length d2) a fd E N K 0 := ⟨hS11, ⟨_, VC.start p.ports vs N, by simpa using hM11⟩, hFd11⟩
  have hPd : p.ports + 2 * (vs.length : Int) ≤ N := by omega
  have hN9 : (N : Int) ≤ 100000 := by omega
  clear hS11 hM11 hFd11 u0 u2 u3 u4 u5 u6 u7
  go_loopg [82] vs.length (fun dd s82 wr => ∃ k : Nat, k + dd = vs.length ∧ s82 = .int .i64 k ∧ MkL w wr p rs vs (.slice A rs.length c) (.slice B vs.length d) f (.slice A2 rs.length c2) (.slice B2 vs.length d2) a fd E N K k)
  case atStart => exact ⟨0, by omega, rfl, L0⟩
  case round =>
    obtain ⟨k, hk, rfl, hL⟩ := hrel
    clear L0
    by_cases hlt : k < vs.length
    · obtain ⟨x, hx⟩ := get_of_lt hlt
      have lk : (k : Int) < (vs.length : Int) := by omega
      obtain ⟨k1, k2, k3⟩ := vlCells_get vs _ x hx
      have hB1 := hB.below hL.st.below
      obtain ⟨ba, oa, hA1, m1⟩ := hB1.out _ _ k1
      obtain ⟨ba', oa', hA2, m2⟩ := hB1.out _ _ k2
      obtain ⟨ba'', oa'', hA3, m3⟩ := hB1.out _ _ k3
      rw [hA1] at hA2 hA3
      obtain ⟨rfl, rfl⟩ : ba' = ba ∧ oa' = oa := by
        injection hA2 with h
        injection h with h3 h4
        exact ⟨h3.symm, h4.symm⟩
      obtain ⟨rfl, rfl⟩ : ba'' = ba' ∧ oa'' = oa' := by
        injection hA3 with h
        injection h with h3 h4
        exact ⟨h3.symm, h4.symm⟩
      subst hA1
      rw [← Nat.add_assoc] at m2 m3
      go_upto_region 18 with fail
      obtain ⟨cells, hV, hM⟩ := hL.mem
      have hVl := hV.len
      have hq := (Blk.new wr [.int .i64 x.vid, .int .u64 (x.mem : Int), .int .u64 (x.unt : Int)] 182).drew
      have hS1 := (hL.st.alloc (.cells #[.int .i64 x.vid, .int .u64 (x.mem : Int), .int .u64 (x.unt : Int)] 182)).drew
      have hM1 := (hM.kp ((Kp.refl wr (fun _ => False)).alloc (.cells #[.int .i64 x.vid, .int .u64 (x.mem : Int), .int .u64 (x.unt : Int)] 182)) (fun _ _ h => h)).drew
      have hF1 : IsFdb _ fd a.m E p.ports p.sh p.bu p.sl p.tries := ⟨(hL.fdb.out.alloc (.cells #[.int .i64 x.vid, .int .u64 (x.mem : Int), .int .u64 (x.unt : Int)] 182)).drew⟩
      generalize (wr.alloc _) = W1 at hq hS1 hM1 hF1 ⊢
      generalize wr.heap.size = q at hq ⊢
      have hst1 := store_calls hM1 (by unfold Small; show 2 * (k : Int) < _; omega) (p.ports + 2 * k) x.mem (by omega) (by show p.ports + 2 * (k : Int) < (cells.length : Int); omega)
      have hN1 := hV.step hx (by omega) (by omega)
      have HL := Go.Lib.hid hL
      have HV := Go.Lib.hid hV
      have HN1 := Go.Lib.hid hN1
      have hPk : p.ports + 2 * (k : Int) + 1 ≤ 100000 := by omega
      clear hL hV hM hN1 m1 m2 m3 k1 k2 k3 hB1 hA2 hA3
      obtain ⟨f0, f10, f11, f12, g10, g11⟩ := hS1.fcells
      have t1 := hq.get 1 rfl
      have t2 := hq.get 2 rfl
      have nq : ¬ (q = a.m ∨ q = a.cb) := fun e => e.elim (fun e => hq.ne hM1.hm (by decide) e) (fun e => hq.ne hM1.hc (by decide) e)
      have ha7 : ∀ b, a.has b → w.heap.size ≤ b := fun b hb => by have := ha9 b hb; omega
      go_upto_region 19 with (
        go_region_held3 (fun w' => w'.cell? ⟨f, 0, none⟩ = some (.int .i64 p.ports) ∧ w'.cell? ⟨q, 1, none⟩ = some (.int .u64 (x.mem : Int)))
          (first | exact ⟨(by assumption), (by assumption)⟩)
          (first
            | (go_at_call 84; refine (vlanAt_calls p.ports k f0 ⟨by omega, by omega⟩ ⟨by omega, by omega⟩).mono ?_; rintro e w3 ⟨rfl, rfl⟩)
            | (go_at_call 102; refine hst1.mono ?_; rintro e W2 ⟨rfl, hM2, hK2⟩; have hS2 := hS1.mem hM1 ha7 hK2; have hq2 := hq.kp hK2 nq; have hF2 := hF1.out.kp hK2 (fun e => e.elim (fun e => hF1.out.ne hM1.hm (by decide) e) (fun e => hF1.out.ne hM1.hc (by decide) e)); have y0 := hS2.fcells.1; have y1 := hq2.get 1 rfl)))
      have hM3 := hM2.drew
      have hS3 := hS2.drew
      have hq3 := hq2.drew
      have hF3 := hF2.drew
      clear hM1 hS1 hq hF1 hst1 hK2 f0 f10 f11 f12 g10 g11 t1 t2 y0 y1
      have f0 := hS3.fcells.1
      have t2 := hq3.get 2 rfl
      have hw1 : IntKind.i64.wrap (p.ports + 2 * (k : Int) + 1) = p.ports + 2 * (k : Int) + 1 := IntWalk.i64_in _ (by omega)
      have hst2 := store_calls hM3 (by unfold Small; show 2 * (k : Int) + 1 < _; omega) (p.ports + 2 * k + 1) x.unt (by omega) (by simp [hVl]; omega)
      go_upto_region 20 with (
        go_region_held3 (fun w' => w'.cell? ⟨f, 0, none⟩ = some (.int .i64 p.ports) ∧ w'.cell? ⟨q, 2, none⟩ = some (.int .u64 (x.unt : Int)))
          (first | exact ⟨(by assumption), (by assumption)⟩)
          (first
            | (go_at_call 84; refine (vlanAt_calls p.ports k f0 ⟨by omega, by omega⟩ ⟨by omega, by omega⟩).mono ?_; rintro e w3 ⟨rfl, rfl⟩)
            | (go_at_call 102; refine hst2.mono ?_; rintro e W4 ⟨rfl, hM4, hK4⟩; have hS4 := hS3.mem hM3 ha7 hK4; have hq4 := hq3.kp hK4 nq; have hF4 := hF3.kp hK4 (fun e => e.elim (fun e => hF3.ne hM3.hm (by decide) e) (fun e => hF3.ne hM3.hc (by decide) e)); have y0 := hS4.fcells.1; have y1 := hq4.get 2 rfl)))
      have e1 : 2 * (k : Int) + 1 + 1 = 2 * ((k + 1 : Nat) : Int) := by omega
      simp only [e1] at hM4
      have hN : MkL w W4 p rs vs (.slice A rs.length c) _ f (.slice A2 rs.length c2) (.slice B2 vs.length d2) a fd E N K (k + 1) := ⟨hS4, ⟨_, HN1.out, hM4⟩, ⟨hF4⟩⟩
      have HN := Go.Lib.hid hN
      have HK := Go.Lib.hid hk
      clear hN hM4 hS4 hF4 hq4 hM3 hS3 hF3 hq3 hst2 hK4 y0 y1 f0 t2 hw1 e1 hk
      go_wp2_with fail
      go_roundg (gk - 1)
      case measure => have := HK.out; omega
      case rel => exact ⟨k + 1, by have := HK.out; omega, rfl, HN.out⟩
    · obtain rfl : k = vs.length := by omega
      have hge : (vs.length : Int) ≤ (vs.length : Int) := Int.le_refl _
      go_wp2_with fail
      obtain ⟨cells, hV, hM⟩ := hL.mem
      have hS := hL.st
      have hVl := hV.len
      have hlay := lay_calls (p := p) (fd := ptr fd) p.ports.toNat (E + C) hM (by show 2 * (vs.length : Int) < 10000; omega) hS.fab (by omega) (by omega) (by omega) (by omega) (by omega) (by
        have e1 : ((p.ports.toNat : Nat) : Int) = p.ports := by omega
        rw [e1, ← Int.mul_assoc, hRG]
        show E + C + RG ≤ (cells.length : Int)
        omega) (fun i h1 h2 => hV.zero i (by have h2 : i < cells.length := h2; omega) (by omega))
      go_at_call 103
      refine hlay.mono ?_
      rintro e W2 ⟨rfl, V, rows, hrow, hO⟩
      have hfin := Made.of hL hM hV hO hrow hE ha9 hp.2 hvl (by rw [hRG]; exact hN) hK hC
      clear hlay hO hM hV hS hL
      go_wp2_with fail
      go_ret2
      exact ⟨f, a, fd, E, C, N, K, A2, B2, c2, d2, V, rows, rfl, hfin⟩
end Go.Proofs.YtcpaodidpomdaaaGreat

/- An order: ctl.Act, where it lies; what each of its steps does. -/
import Derived.Test.YtcpaodidpomdaaaGreatFabOps
import Derived.Laws.EntriesVeiled
set_option linter.unusedVariables false
set_option linter.unusedSimpArgs false
set_option maxRecDepth 100000
namespace Go.Proofs.YtcpaodidpomdaaaGreat
open Go.RowKit

structure OpS where
  kind : Int
  port : Int
  dest : Int
  vid : Int
  state : Int
  kvid : Int
  kmac : Int
  mem : Int
  unt : Int
  now : Int
  limit : Int
  shard : Int
  bucket : Int
  id : Int
def OpS.cells (o : OpS) : List Value :=
  [.int .i64 o.kind, .int .i64 o.port, .int .i64 o.dest, .int .i64 o.vid, .int .i64 o.state, .int .i64 o.kvid, .int .u64 o.kmac, .int .u64 o.mem, .int .u64 o.unt, .int .u32 o.now, .int .u32 o.limit, .int .i64 o.shard, .int .i64 o.bucket, .int .i64 o.id]
def OpS.agg (o : OpS) : Value :=
  .agg #[.int .i64 o.kind, .int .i64 o.port, .int .i64 o.dest, .int .i64 o.vid, .int .i64 o.state, .int .i64 o.kvid, .int .u64 o.kmac, .int .u64 o.mem, .int .u64 o.unt, .int .u32 o.now, .int .u32 o.limit, .int .i64 o.shard, .int .i64 o.bucket, .int .i64 o.id]
structure EntS where
  who : Int
  start : Int
  mark : Int
  done : Int
  op : OpS
  answer : Int
def EntS.cells (e : EntS) : List Value := [.int .i64 e.who, .int .i64 e.start, .int .i64 e.mark, .int .i64 e.done] ++ (e.op.cells ++ [.int .i64 e.answer])
def entCells (l : List EntS) : List Value := l.flatMap EntS.cells
theorem EntS.len (e : EntS) : e.cells.length = 19 := rfl
theorem entCells_len (l : List EntS) : (entCells l).length = l.length * 19 := by
  induction l with
  | nil => rfl
  | cons e l ih => simp only [entCells, List.flatMap_cons, List.length_append, List.length_cons, EntS.len] at *; omega
theorem entCells_snoc (l : List EntS) (e : EntS) : entCells (l ++ [e]) = entCells l ++ e.cells := by simp [entCells]
theorem entCells_one (l : List EntS) : ∀ u ∈ entCells l, u.oneCell' = true := by
  intro u hu
  simp only [entCells, List.mem_flatMap] at hu
  obtain ⟨e, _, hu⟩ := hu
  simp only [EntS.cells, OpS.cells, List.mem_append, List.mem_cons, List.not_mem_nil, or_false] at hu
  rcases hu with ((rfl | rfl | rfl | rfl) | (rfl | rfl | rfl | rfl | rfl | rfl | rfl | rfl | rfl | rfl | rfl | rfl | rfl | rfl) | rfl) <;> rfl

structure CAct where
  who : Int
  op : OpS
  next : Value
  log : Value
  ents : List EntS
  locks : Value
  lks : List Int
  held : Int
  frm : Int
  pop : Value
  act : Value
def CAct.cells (f : Nat) (x : CAct) : List Value :=
  ptr f :: .int .i64 x.who :: (x.op.cells ++ [x.next, x.log, x.locks, .int .i64 x.held, .int .i64 x.frm, x.pop, x.act])
structure IsCAct (F : FA) (w : World) (b : Nat) (x : CAct) : Prop where
  blk : Blk w b (x.cells F.f) 149
  base : F.w0.heap.size ≤ b
  log : Own w F.w0.heap.size 75 19 x.log x.ents.length (entCells x.ents)
  locks : Own w F.w0.heap.size 3 1 x.locks x.lks.length (i64s x.lks)
/-- The blocks that a step of an order turns. -/
def CS (F : FA) (b : Nat) (x : CAct) (k : Nat) : Prop := F.D k ∨ k = b ∨ x.log.ownBlock = some k ∨ x.pop = ptr k
structure CStep (F : FA) (b : Nat) (w : World) (x : CAct) (w' : World) (x' : CAct) : Prop where
  kp : Kp w w' (CS F b x)
  own : ∀ k, k < w.heap.size → CS F b x' k → CS F b x k
theorem CStep.refl (F : FA) (b : Nat) (w : World) (x : CAct) : CStep F b w x w x := ⟨Kp.refl _ _, fun _ _ h => h⟩
theorem CStep.trans {F : FA} {b : Nat} {w w1 w2 : World} {x x1 x2 : CAct} (h : CStep F b w x w1 x1) (k : CStep F b w1 x1 w2 x2) : CStep F b w x w2 x2 :=
  ⟨h.kp.trans k.kp (fun c hc hk => h.own c hc hk), fun c hc hk => h.own c hc (k.own c (Nat.lt_of_lt_of_le hc h.kp.size) hk)⟩

section
variable {F : FA} {w w1 : World} {s : MemS} {rg : Nat → Nat → RingS} {b : Nat} {x : CAct} {S : Nat → Prop}
theorem IsCAct.cells (h : IsCAct F w b x) : w.cell? ⟨b, 0, none⟩ = some (ptr F.f) ∧ w.cell? ⟨b, 1, none⟩ = some (.int .i64 x.who) ∧ w.cell? ⟨b, 16, none⟩ = some x.next ∧ w.cell? ⟨b, 17, none⟩ = some x.log ∧ w.cell? ⟨b, 18, none⟩ = some x.locks ∧ w.cell? ⟨b, 19, none⟩ = some (.int .i64 x.held) ∧ w.cell? ⟨b, 20, none⟩ = some (.int .i64 x.frm) ∧ w.cell? ⟨b, 21, none⟩ = some x.pop ∧ w.cell? ⟨b, 22, none⟩ = some x.act :=
  ⟨h.blk.get 0 rfl, h.blk.get 1 rfl, h.blk.get 16 rfl, h.blk.get 17 rfl, h.blk.get 18 rfl, h.blk.get 19 rfl, h.blk.get 20 rfl, h.blk.get 21 rfl, h.blk.get 22 rfl⟩
theorem IsCAct.ops (h : IsCAct F w b x) : w.cell? ⟨b, 2, none⟩ = some (.int .i64 x.op.kind) ∧ w.cell? ⟨b, 3, none⟩ = some (.int .i64 x.op.port) ∧ w.cell? ⟨b, 5, none⟩ = some (.int .i64 x.op.vid) ∧ w.cell? ⟨b, 6, none⟩ = some (.int .i64 x.op.state) ∧ w.cell? ⟨b, 9, none⟩ = some (.int .u64 x.op.mem) ∧ w.cell? ⟨b, 10, none⟩ = some (.int .u64 x.op.unt) :=
  ⟨h.blk.get 2 rfl, h.blk.get 3 rfl, h.blk.get 5 rfl, h.blk.get 6 rfl, h.blk.get 9 rfl, h.blk.get 10 rfl⟩
theorem IsCAct.kp (h : IsCAct F w b x) (k : Kp w w1 S) (h1 : ¬ S b) (h2 : ∀ c, x.log.ownBlock = some c → ¬ S c) (h3 : ∀ c, x.locks.ownBlock = some c → ¬ S c) : IsCAct F w1 b x :=
  ⟨h.blk.kp k h1, h.base, h.log.kp k h2, h.locks.kp k h3⟩
theorem IsCAct.below (h : IsCAct F w b x) (k : Below w.heap.size w w1) : IsCAct F w1 b x :=
  h.kp (Kp.of_below (S := fun _ => False) k) (fun h => h) (fun _ _ h => h) (fun _ _ h => h)
theorem IsCAct.drew (h : IsCAct F w b x) : IsCAct F w.drew b x := h.kp (Kp.refl w (fun _ => False)).drew (fun h => h) (fun _ _ h => h) (fun _ _ h => h)
/-- Only a fabric's blocks turned. -/
theorem IsCAct.still (h : IsCAct F w b x) (hF : Fab F w s rg) (k : Kp w w1 S) (hS : ∀ c, S c → F.D c) : IsCAct F w1 b x :=
  have q : ∀ c, F.w0.heap.size ≤ c → ¬ S c := fun c hc e => by have := hF.ok.old (hS c e); omega
  h.kp k (q _ h.base) (fun c hc => q c (h.log.lt hc).1) (fun c hc => q c (h.locks.lt hc).1)
theorem IsCAct.has (h : IsCAct F w b x) (hF : Fab F w s rg) (k : Kp w w1 F.a.has) : IsCAct F w1 b x := h.still hF k (fun c hc => .inl hc)
/-- One of its own cells is set. -/
theorem IsCAct.put {y : CAct} {i : Nat} {u : Value} (h : IsCAct F w b x) (e : (x.cells F.f).set i u = y.cells F.f) (e1 : y.log = x.log) (e2 : y.ents = x.ents) (e3 : y.locks = x.locks) (e4 : y.lks = x.lks) : IsCAct F (w.setCell ⟨b, i, none⟩ u) b y :=
  ⟨h.blk.put i u e, h.base, by rw [e1, e2]; exact h.log.far (h.log.ne_blk h.blk (by decide)) u, by rw [e3, e4]; exact h.locks.far (h.locks.ne_blk h.blk (by decide)) u⟩
theorem IsCAct.putF (h : IsCAct F w b x) (hF : Fab F w s rg) (i : Nat) (u : Value) : Fab F (w.setCell ⟨b, i, none⟩ u) s rg :=
  hF.past ((Kp.refl w (fun k => k = b)).setCell (p := ⟨b, i, none⟩) (fun _ => rfl) u) (fun c e => by rw [e]; exact h.base)
/-- The first entry of its log. -/
theorem IsCAct.logAt (h : IsCAct F w b x) (hn : 0 < x.ents.length) : ∃ g c, x.log = .slice (some ⟨g, 0, none⟩) x.ents.length c := by
  obtain ⟨g, c, e, _⟩ := h.log.pos hn
  exact ⟨g, c, e⟩
theorem CStep.mem (hF : Fab F w s rg) (k : Kp w w1 F.a.has) : CStep F b w x w1 x := ⟨k.mono (fun c _ hc => .inl (.inl hc)), fun _ _ h => h⟩
theorem CStep.put {y : CAct} (i : Nat) (u : Value) (e1 : y.log = x.log) (e2 : y.pop = x.pop) : CStep F b w x (w.setCell ⟨b, i, none⟩ u) y :=
  ⟨(Kp.refl w _).setCell (p := ⟨b, i, none⟩) (fun _ => .inr (.inl rfl)) u, fun c _ hc => by unfold CS at *; rw [e1, e2] at hc; exact hc⟩
end

/-- What a step answers: what is done next. -/
def CRes (F : FA) (b : Nat) (w : World) (x : CAct) (v : Value) (x' : CAct) (s' : MemS) (rg' : Nat → Nat → RingS) (w' : World) : Prop :=
  Fab F w' s' rg' ∧ IsCAct F w' b x' ∧ CStep F b w x w' x'

theorem Fab.mark {F : FA} {w : World} {s : MemS} {rg : Nat → Nat → RingS} (h : Fab F w s rg) : 0 ≤ s.time := h.mem.t0

/-! Function values. -/
theorem run_equalIn_func {P : Program} {t : TypeId} {ps rs : Array TypeId} {v : Bool} (h : P.underlying t = some (.func ps rs v)) (d : Nat) (K : FuncId) (fi c : Array Value) (W : World) : (Op.equalIn (d + 1) t (.func (.func K) fi c) .nilFunc).run P W = .ok false W := by
  simp [Op.equalIn, run_underlying h]
theorem run_equalIn_nilFunc {P : Program} {t : TypeId} {ps rs : Array TypeId} {v : Bool} (h : P.underlying t = some (.func ps rs v)) (d : Nat) (W : World) : (Op.equalIn (d + 1) t .nilFunc .nilFunc).run P W = .ok true W := by
  simp [Op.equalIn, run_underlying h]
theorem run_eql_func {P : Program} {t : TypeId} {ps rs : Array TypeId} {v : Bool} (h : P.underlying t = some (.func ps rs v)) (K : FuncId) (fi c : Array Value) (W : World) : (binOp .eql t (.func (.func K) fi c) .nilFunc).run P W = .ok (.bool false) W := by
  simp only [binOp]
  simp [Op.equal, Op.maxDepth, run_equalIn_func h 9999 K fi c W]
theorem run_eql_nilFunc {P : Program} {t : TypeId} {ps rs : Array TypeId} {v : Bool} (h : P.underlying t = some (.func ps rs v)) (W : World) : (binOp .eql t .nilFunc .nilFunc).run P W = .ok (.bool true) W := by
  simp only [binOp]
  simp [Op.equal, Op.maxDepth, run_equalIn_nilFunc h 9999 W]
theorem run_callFunc_body {P : Program} {f : FuncId} {fn : Func} {c : Code} (hf : P.funcs[f]? = some fn) (hname : (fn.name == "runtime.NumGoroutine") = false) (hb : fn.body = some c) (args : Array Value) (w : World) :
    (callFunc f args).run P w = .ok (.enter f args) w := by
  have h1 : fn.name ≠ "runtime.NumGoroutine" := by simpa using hname
  simp [callFunc, hf, h1, hb]
/-- A function with a body. -/
def Enters (K : FuncId) : Prop := ∀ (args : Array Value) (w : World), (callFunc K args).run Tryz.prog w = .ok (.enter K args) w

/-! Step, Over. -/
section
variable {F : FA} {w : World} {s : MemS} {rg : Nat → Nat → RingS} {b : Nat} {x : CAct}
theorem cover_no (h : IsCAct F w b x) (K : FuncId) (c : Array Value) (hn : x.next = .func (.func K) #[] c) :
    Calls Tryz.prog 45 #[ptr b] w fun e w' => e = .returned (.bool false) ∧ w = w' := by
  have c16 := h.cells.2.2.1
  rw [hn] at c16
  have hq := fun (K : FuncId) (fi c : Array Value) (W : World) => run_eql_func Tryz.underlying146 K fi c W
  clear hn h
  go_enter Tryz.func45, Tryz.ntmps45
  go_wp2
  go_ret
  exact ⟨rfl, rfl⟩
theorem cover_yes (h : IsCAct F w b x) (hn : x.next = .nilFunc) :
    Calls Tryz.prog 45 #[ptr b] w fun e w' => e = .returned (.bool true) ∧ w = w' := by
  have c16 := h.cells.2.2.1
  rw [hn] at c16
  have hq := fun (W : World) => run_eql_nilFunc Tryz.underlying146 W
  clear hn h
  go_enter Tryz.func45, Tryz.ntmps45
  go_wp2
  go_ret
  exact ⟨rfl, rfl⟩

/-- Is it over, by what is next? -/
def nilF (v : Value) : Bool := match v with | .nilFunc => true | _ => false
/-- Something to do next, or nothing. -/
def FnV (v : Value) : Prop := v = .nilFunc ∨ ∃ K c, v = .func (.func K) #[] c
theorem cover_calls (h : IsCAct F w b x) (hn : FnV x.next) :
    Calls Tryz.prog 45 #[ptr b] w fun e w' => e = .returned (.bool (nilF x.next)) ∧ w = w' := by
  rcases hn with hn | ⟨K, c, hn⟩
  · have := cover_yes h hn
    rw [hn]
    exact this
  · have := cover_no h K c hn
    rw [hn]
    exact this

theorem cstep_calls (h : IsCAct F w b x) (K : FuncId) (c : Array Value) (hn : x.next = .func (.func K) #[] c) (hE : Enters K) {R : Value → CAct → World → Prop}
    (hK : Calls Tryz.prog K (#[ptr b] ++ c) w fun e w' => ∃ v x', e = .returned v ∧ FnV v ∧ IsCAct F w' b x' ∧ CStep F b w x w' x' ∧ R v x' w') :
    Calls Tryz.prog 31 #[ptr b] w fun e w' => ∃ v x' w1, e = .returned (.bool (nilF v)) ∧ FnV v ∧ IsCAct F w' b { x' with next := v } ∧ CStep F b w x w' { x' with next := v } ∧ R v x' w1 ∧ w' = w1.setCell ⟨b, 16, none⟩ v := by
  have ho := cover_no h K c hn
  have c16 := h.cells.2.2.1
  rw [hn] at c16
  have HH := Go.Lib.hid h
  unfold Enters at hE
  clear hn h
  go_enter Tryz.func31, Tryz.ntmps31
  go_wp2_with (go_at_call 45; refine ho.mono ?_; rintro e w' ⟨rfl, rfl⟩)
  refine hK.mono ?_
  rintro e w1 ⟨v, x', rfl, hv, hx', hst, hR⟩
  have f16 := hx'.blk.frozen 16
  have c16' := hx'.cells.2.2.1
  have hx2 : IsCAct F (w1.setCell ⟨b, 16, none⟩ v) b { x' with next := v } := hx'.put rfl rfl rfl rfl rfl
  have hst2 : CStep F b w x (w1.setCell ⟨b, 16, none⟩ v) { x' with next := v } := hst.trans (CStep.put 16 v rfl rfl)
  have hov := cover_calls hx2 hv
  have HV := Go.Lib.hid hv
  clear hE hK hx' hst c16 ho HH
  rcases hv with rfl | ⟨K', c', rfl⟩
  all_goals
    go_wp2_with (go_at_call 45; refine hov.mono ?_; rintro e w' ⟨rfl, rfl⟩)
    go_ret
    exact ⟨_, x', w1, rfl, HV.out, hx2, hst2, hR, rfl⟩
end
end Go.Proofs.YtcpaodidpomdaaaGreat

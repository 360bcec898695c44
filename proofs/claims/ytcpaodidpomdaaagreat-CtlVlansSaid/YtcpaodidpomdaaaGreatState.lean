/- A SetState, step by step. -/
import Derived.Test.YtcpaodidpomdaaaGreatFin
set_option linter.unusedVariables false
set_option linter.unusedSimpArgs false
set_option maxRecDepth 100000
namespace Go.Proofs.YtcpaodidpomdaaaGreat
open Go.RowKit

/-- An order at work: since wS, x0. -/
structure At (F : FA) (b : Nat) (wS : World) (x0 : CAct) (rg : Nat → Nat → RingS) (w : World) (x : CAct) (s : MemS) : Prop where
  act : IsCAct F w b x
  fab : Fab F w s rg
  since : CStep F b wS x0 w x

theorem fnv_FnV (K : FuncId) : FnV (fnv K) := .inr ⟨K, #[], rfl⟩
theorem enters_lock : Enters 75 := fun a w => run_callFunc_body Tryz.func75 (by kernel_rfl) rfl a w
theorem enters_read : Enters 126 := fun a w => run_callFunc_body Tryz.func126 (by kernel_rfl) rfl a w
theorem enters_readfn : Enters 176 := fun a w => run_callFunc_body Tryz.func176 (by kernel_rfl) rfl a w
theorem enters_unlock : Enters 214 := fun a w => run_callFunc_body Tryz.func214 (by kernel_rfl) rfl a w
theorem enters_bare : Enters 125 := fun a w => run_callFunc_body Tryz.func125 (by kernel_rfl) rfl a w
theorem enters_members : Enters 175 := fun a w => run_callFunc_body Tryz.func175 (by kernel_rfl) rfl a w

section
variable {F : FA} {wS w : World} {s : MemS} {rg : Nat → Nat → RingS} {b : Nat} {x0 x : CAct}
/-- A step from one state to another one. -/
theorem At.step {v : Value} {x' : CAct} {s' : MemS} (h : At F b wS x0 rg w x s) (K : FuncId) (hn : x.next = fnv K) (hE : Enters K) (hv : FnV v) (hK : Calls Tryz.prog K #[ptr b] w (StepTo F b w x v x' s' rg)) :
    Calls Tryz.prog 31 #[ptr b] w fun e w' => e = .returned (.bool (nilF v)) ∧ At F b wS x0 rg w' { x' with next := v } s' :=
  (cstep_to h.act K #[] hn hE hv (by simpa using hK)).mono fun _ _ ⟨e, h1, h2, h3⟩ => ⟨e, h1, h3, h.since.trans h2⟩

theorem At.lock (h : At F b wS x0 rg w x s) (hs : Small s.time) (hn : x.next = fnv 75) (k : Nat) (hh : x.held = k) (q : Int) (hq : x.lks[k]? = some q) (h0 : 0 ≤ q) (h1 : q < F.p.ports) (hw : 0 ≤ x.who) (hl : x.lks.length ≤ 8) (nx : Value) (hfree : lockIs s q.toNat (-1) = true)
    (hnx : (k + 1 < x.lks.length ∧ nx = fnv 75) ∨ (x.lks.length ≤ k + 1 ∧ x.op.kind = 9 ∧ nx = fnv 125) ∨ (x.lks.length ≤ k + 1 ∧ x.op.kind ≠ 9 ∧ nx = fnv 126)) :
    Calls Tryz.prog 31 #[ptr b] w fun e w' => e = .returned (.bool false) ∧ At F b wS x0 rg w' { x with held := k + 1, next := nx } (passed s q.toNat (-1) x.who) := by
  have hnf : FnV nx ∧ nilF nx = false := by rcases hnx with ⟨_, e⟩ | ⟨_, _, e⟩ | ⟨_, _, e⟩ <;> rw [e] <;> exact ⟨fnv_FnV _, rfl⟩
  have := h.step _ hn enters_lock hnf.1 (lock_calls h.fab hs h.act k hh q hq h0 h1 hw hl nx hfree hnx)
  rw [hnf.2] at this
  exact this
theorem At.lockno (h : At F b wS x0 rg w x s) (hs : Small s.time) (hn : x.next = fnv 75) (k : Nat) (hh : x.held = k) (q : Int) (hq : x.lks[k]? = some q) (h0 : 0 ≤ q) (h1 : q < F.p.ports) (hw : 0 ≤ x.who) (hl : x.lks.length ≤ 8) (hfree : lockIs s q.toNat (-1) = false) :
    Calls Tryz.prog 31 #[ptr b] w fun e w' => e = .returned (.bool false) ∧ At F b wS x0 rg w' { x with next := fnv 75 } (passed s q.toNat (-1) x.who) :=
  h.step _ hn enters_lock (fnv_FnV _) (lockno_calls h.fab hs h.act k hh q hq h0 h1 hw hl hfree)
theorem At.unlock (h : At F b wS x0 rg w x s) (hs : Small s.time) (hn : x.next = fnv 214) (k : Nat) (hh : x.held = ((k + 1 : Nat) : Int)) (q : Int) (hq : x.lks[k]? = some q) (h0 : 0 ≤ q) (h1 : q < F.p.ports) (hw : 0 ≤ x.who) (hl : x.lks.length ≤ 8) (nx : Value)
    (hnx : (0 < k ∧ nx = fnv 214) ∨ (k = 0 ∧ nx = .nilFunc)) :
    Calls Tryz.prog 31 #[ptr b] w fun e w' => e = .returned (.bool (k == 0)) ∧ At F b wS x0 rg w' { x with held := k, next := nx } (passed s q.toNat x.who (-1)) := by
  have hnf : FnV nx ∧ nilF nx = (k == 0) := by
    rcases hnx with ⟨hk, e⟩ | ⟨hk, e⟩
    · rw [e]; exact ⟨fnv_FnV _, by have : (k == 0) = false := by simp; omega
                                   rw [this]; rfl⟩
    · rw [e, hk]; exact ⟨.inl rfl, rfl⟩
  have := h.step _ hn enters_unlock hnf.1 (unlock_calls h.fab hs h.act k hh q hq h0 h1 hw hl nx hnx)
  rw [hnf.2] at this
  exact this
theorem At.read (h : At F b wS x0 rg w x s) (hs : Small s.time) (hn : x.next = fnv 126) (q st ep : Int) (hq : x.op.port = q) (h0 : 0 ≤ q) (h1 : q < F.p.ports) (hx : s.cells[q.toNat]? = some (standW st ep)) (g0 : 0 ≤ st) (g1 : st ≤ 4) (g2 : 0 ≤ ep) (g3 : ep < 4294967296) :
    Calls Tryz.prog 31 #[ptr b] w fun e w' => e = .returned (.bool false) ∧ ∃ sb, At F b wS x0 rg w' { x with next := wfn sb } { s with time := s.time + 1 } ∧ Blk w' sb [.int .i64 st, .int .u32 ep] 72 := by
  refine (cstep_calls (R := fun v1 x1 w1 => ∃ sb, v1 = wfn sb ∧ x1 = x ∧ Fab F w1 { s with time := s.time + 1 } rg ∧ IsCAct F w1 b x ∧ Blk w1 sb [.int .i64 st, .int .u32 ep] 72) h.act _ #[] hn enters_read (by
    refine Calls.mono (by simpa using read_calls h.fab hs h.act q st ep hq h0 h1 hx g0 g1 g2 g3) ?_
    rintro e w1 ⟨sb, ⟨rfl, h1, h2, h3⟩, hB, _⟩
    exact ⟨wfn sb, x, rfl, .inr ⟨_, _, rfl⟩, h1, h2, sb, rfl, rfl, h3, h1, hB⟩)).mono ?_
  rintro e w2 ⟨v1, x1, w1, rfl, _, h1, h2, ⟨sb, rfl, rfl, h3, h4, hB⟩, rfl⟩
  exact ⟨rfl, sb, ⟨h1, h4.putF h3 16 _, h.since.trans h2⟩, hB.far (hB.ne h4.blk (by decide)) _⟩
theorem At.write (h : At F b wS x0 rg w x s) (hs : Small s.time) (sb : Nat) (hn : x.next = wfn sb) (q st ep tt : Int) (hsb : Blk w sb [.int .i64 st, .int .u32 ep] 72) (hq : x.op.port = q) (hto : x.op.state = tt) (h0 : 0 ≤ q) (h1 : q < F.p.ports) (t0 : 0 ≤ tt) (t4 : tt ≤ 4) (g2 : 0 ≤ ep) (g3 : ep + 1 < 4294967296) (e : EntS) (l : List EntS) (he : x.ents = e :: l) (hpop : x.pop = .pointer none) (nx : Value) (hnx : (tt = 4 ∧ nx = fnv 214) ∨ (tt ≠ 4 ∧ nx = fnv 217)) :
    Calls Tryz.prog 31 #[ptr b] w fun e' w' => e' = .returned (.bool false) ∧ At F b wS x0 rg w' { x with ents := { e with mark := s.time + 1, done := s.time + 1, answer := ep + 1 } :: l, next := nx } { s with cells := s.cells.set q.toNat (standW tt (ep + 1)), time := s.time + 1 } := by
  have hnf : FnV nx ∧ nilF nx = false := by rcases hnx with ⟨_, e⟩ | ⟨_, e⟩ <;> rw [e] <;> exact ⟨fnv_FnV _, rfl⟩
  have := cstep_to h.act _ _ hn enters_readfn hnf.1 (readfn_calls h.fab hs h.act sb q st ep tt hsb hq hto h0 h1 t0 t4 g2 g3 e l he hpop nx hnx)
  rw [hnf.2] at this
  exact this.mono fun _ _ ⟨e, h1, h2, h3⟩ => ⟨e, h1, h3, h.since.trans h2⟩
end
end Go.Proofs.YtcpaodidpomdaaaGreat

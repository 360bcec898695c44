/- A SetState to Forwarding, and a SetVlan, from the first step to the last. -/
import Derived.Test.YtcpaodidpomdaaaGreatState
set_option linter.unusedVariables false
set_option linter.unusedSimpArgs false
set_option maxRecDepth 100000
namespace Go.Proofs.YtcpaodidpomdaaaGreat
open Go.RowKit

theorem lockIs_iff {s : MemS} {l : Nat} {x : Int} : lockIs s l x = true ↔ s.locks[l]? = some x := by simp [lockIs]
theorem passed_yes {s : MemS} {l : Nat} {x y : Int} (h : lockIs s l x = true) : passed s l x y = { s with locks := s.locks.set l y, time := s.time + 1 } := by
  unfold passed; rw [if_pos (lockIs_iff.1 h)]
theorem passed_no {s : MemS} {l : Nat} {x y : Int} (h : lockIs s l x = false) : passed s l x y = { s with time := s.time + 1 } := by
  unfold passed; rw [if_neg (fun e => by rw [lockIs_iff.2 e] at h; cases h)]
theorem set_back {l : List Int} {i : Nat} {v u : Int} (h : l[i]? = some v) : (l.set i u).set i v = l := by
  rw [List.set_set]; exact set_self h
theorem Small.add {t : Int} (h : t < 4000000000000000000) (n : Int) (hn : n ≤ 1000000000) : Small (t + n) := by unfold Small; omega

section
variable {F : FA} {w : World} {s : MemS} {rg : Nat → Nat → RingS} {b : Nat} {x0 : CAct}
theorem ftake_yes (hF : Fab F w s rg) (hs : Small s.time) (q y : Int) (h0 : 0 ≤ q) (h1 : q < F.p.ports) (hy : 0 ≤ y) (hl : s.locks[q.toNat]? = some (-1)) :
    Calls Tryz.prog 27 #[ptr F.f, .int .i64 q, .int .i64 y] w fun e w' => e = .returned (.bool true) ∧ Fab F w' { s with locks := s.locks.set q.toNat y, time := s.time + 1 } rg ∧ Kp w w' F.a.has := by
  have h := ftake_calls hF hs q y h0 h1 hy
  rw [passed_yes (lockIs_iff.2 hl), lockIs_iff.2 hl] at h
  exact h
theorem ftake_no (hF : Fab F w s rg) (hs : Small s.time) (q y : Int) (h0 : 0 ≤ q) (h1 : q < F.p.ports) (hy : 0 ≤ y) (hl : s.locks[q.toNat]? ≠ some (-1)) :
    Calls Tryz.prog 27 #[ptr F.f, .int .i64 q, .int .i64 y] w fun e w' => e = .returned (.bool false) ∧ Fab F w' { s with time := s.time + 1 } rg ∧ Kp w w' F.a.has := by
  have h := ftake_calls hF hs q y h0 h1 hy
  have e : lockIs s q.toNat (-1) = false := by cases hc : lockIs s q.toNat (-1) with
    | false => rfl
    | true => exact absurd (lockIs_iff.1 hc) hl
  rw [passed_no e, e] at h
  exact h
theorem ffree_yes (hF : Fab F w s rg) (hs : Small s.time) (q y : Int) (h0 : 0 ≤ q) (h1 : q < F.p.ports) (hy : 0 ≤ y) (hl : s.locks[q.toNat]? = some y) :
    Calls Tryz.prog 34 #[ptr F.f, .int .i64 q, .int .i64 y] w fun e w' => e = .returned (.bool true) ∧ Fab F w' { s with locks := s.locks.set q.toNat (-1), time := s.time + 1 } rg ∧ Kp w w' F.a.has := by
  have h := ffree_calls hF hs q y h0 h1 hy
  rw [passed_yes (lockIs_iff.2 hl), lockIs_iff.2 hl] at h
  exact h
theorem setfwd_calls (h : At F b w x0 rg w x0 s) (ht : s.time < 4000000000000000000) (q st ep : Int) (hn : x0.next = fnv 75) (hh : x0.held = 0) (hl : x0.lks = [q]) (hk : x0.op.kind = 8) (hq : x0.op.port = q) (hst : x0.op.state = 4) (hw : 0 ≤ x0.who) (hpop : x0.pop = .pointer none) (e : EntS) (he : x0.ents = [e])
    (h0 : 0 ≤ q) (h1 : q < F.p.ports) (hx : s.cells[q.toNat]? = some (standW st ep)) (g0 : 0 ≤ st) (g1 : st ≤ 4) (g2 : 0 ≤ ep) (g3 : ep + 1 < 4294967296) (hfree : s.locks[q.toNat]? = some (-1)) (most : Nat) (hm : 4 ≤ most) (hm2 : most ≤ 1000000) :
    Calls Tryz.prog 35 #[ptr b, .int .i64 most] w fun e' w' => e' = .returned (.bool true) ∧
      At F b w x0 rg w' { x0 with held := 0, next := .nilFunc, ents := [{ e with mark := s.time + 3, done := s.time + 3, answer := ep + 1 }] } { cells := s.cells.set q.toNat (standW 4 (ep + 1)), locks := s.locks, time := s.time + 4 } := by
  have hlen : x0.lks.length = 1 := by rw [hl]; rfl
  have hlk : x0.lks[0]? = some q := by rw [hl]; rfl
  let I : Nat → World → Prop := fun n w' => match n with
    | 0 => At F b w x0 rg w' { x0 with held := 0, next := .nilFunc, ents := [{ e with mark := s.time + 3, done := s.time + 3, answer := ep + 1 }] } { cells := s.cells.set q.toNat (standW 4 (ep + 1)), locks := s.locks, time := s.time + 4 }
    | 1 => At F b w x0 rg w' { x0 with held := 1, next := fnv 214, ents := [{ e with mark := s.time + 3, done := s.time + 3, answer := ep + 1 }] } { cells := s.cells.set q.toNat (standW 4 (ep + 1)), locks := s.locks.set q.toNat x0.who, time := s.time + 3 }
    | 2 => ∃ sb, At F b w x0 rg w' { x0 with held := 1, next := wfn sb } { cells := s.cells, locks := s.locks.set q.toNat x0.who, time := s.time + 2 } ∧ Blk w' sb [.int .i64 st, .int .u32 ep] 72
    | 3 => At F b w x0 rg w' { x0 with held := 1, next := fnv 126 } { cells := s.cells, locks := s.locks.set q.toNat x0.who, time := s.time + 1 }
    | 4 => At F b w x0 rg w' x0 s
    | _ => False
  have hlt : q.toNat < s.locks.length := (List.getElem?_eq_some_iff.1 hfree).1
  refine (finish_calls (F := F) I 3 most ?_ ?_ h hm hm2)
  · intro n w' hI
    match n, hI with
    | 0, hI => exact ⟨_, hI.act, .inl rfl, rfl⟩
    | 1, hI => exact ⟨_, hI.act, fnv_FnV _, rfl⟩
    | 2, ⟨sb, hI, _⟩ => exact ⟨_, hI.act, .inr ⟨_, _, rfl⟩, rfl⟩
    | 3, hI => exact ⟨_, hI.act, fnv_FnV _, rfl⟩
    | 4, hI => exact ⟨_, hI.act, hn ▸ fnv_FnV _, by rw [hn]; rfl⟩
    | _ + 5, hI => exact hI.elim
  · intro n w' hI
    match n, hI with
    | 0, hI =>
      have := hI.unlock (Small.add ht 3 (by omega)) rfl 0 rfl q hlk h0 h1 hw (by rw [hlen]; omega) .nilFunc (.inr ⟨rfl, rfl⟩)
      rw [passed_yes (lockIs_iff.2 (by show (s.locks.set q.toNat x0.who)[q.toNat]? = some x0.who; rw [List.getElem?_set_self hlt]))] at this
      refine this.mono ?_
      rintro e1 w1 ⟨rfl, h2⟩
      refine ⟨0, by omega, rfl, ?_⟩
      have e2 : (s.locks.set q.toNat x0.who).set q.toNat (-1) = s.locks := set_back hfree
      show At F b w x0 rg w1 _ { cells := _, locks := s.locks, time := s.time + 4 }
      rw [← e2, show s.time + 4 = s.time + 3 + 1 by omega]
      exact h2
    | 1, ⟨sb, hI, hsb⟩ =>
      refine (hI.write (Small.add ht 2 (by omega)) sb rfl q st ep 4 hsb hq hst h0 h1 (by omega) (by omega) g2 g3 e [] he hpop _ (.inl ⟨rfl, rfl⟩)).mono ?_
      rintro e1 w1 ⟨rfl, h2⟩
      refine ⟨1, by omega, rfl, ?_⟩
      have h3 : s.time + 2 + 1 = s.time + 3 := by omega
      simp only [h3] at h2
      exact h2
    | 2, hI =>
      refine (hI.read (Small.add ht 1 (by omega)) rfl q st ep hq h0 h1 hx g0 g1 g2 (by omega)).mono ?_
      rintro e1 w1 ⟨rfl, sb, h2, hsb⟩
      refine ⟨2, by omega, rfl, sb, ?_, hsb⟩
      have h3 : s.time + 1 + 1 = s.time + 2 := by omega
      simp only [h3] at h2
      exact h2
    | 3, hI =>
      have := hI.lock (by unfold Small; omega) hn 0 hh q hlk h0 h1 hw (by rw [hlen]; omega) (fnv 126) (lockIs_iff.2 hfree) (.inr (.inr ⟨by rw [hlen]; omega, by rw [hk]; decide, rfl⟩))
      rw [passed_yes (lockIs_iff.2 hfree)] at this
      refine this.mono ?_
      rintro e1 w1 ⟨rfl, h2⟩
      exact ⟨3, by omega, rfl, h2⟩
    | _ + 4, hI => exact hI.elim
end
end Go.Proofs.YtcpaodidpomdaaaGreat

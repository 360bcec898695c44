/- A SetVlan, from the first step to the last. -/
import Derived.Test.YtcpaodidpomdaaaGreatCmdV
set_option linter.unusedVariables false
set_option linter.unusedSimpArgs false
set_option maxRecDepth 100000
namespace Go.Proofs.YtcpaodidpomdaaaGreat
open Go.RowKit

/-- The first i locks are who's. -/
def lkd (l : List Int) (who : Int) (i : Nat) : List Int := List.replicate i who ++ l.drop i
theorem lkd_zero (l : List Int) (who : Int) : lkd l who 0 = l := rfl
theorem lkd_len {l : List Int} {who : Int} {i : Nat} (h : i ≤ l.length) : (lkd l who i).length = l.length := by simp [lkd]; omega
theorem lkd_set {l : List Int} {who : Int} {i : Nat} (h : i < l.length) : (lkd l who i).set i who = lkd l who (i + 1) := by
  apply List.ext_getElem?
  intro k
  unfold lkd
  rw [List.getElem?_set]
  by_cases e : i = k
  · subst e
    rw [if_pos rfl, if_pos (by simp; omega), List.getElem?_append_left (by simp), List.getElem?_replicate, if_pos (by omega)]
  · rw [if_neg e]
    by_cases hk : k < i
    · rw [List.getElem?_append_left (by simpa using hk), List.getElem?_append_left (by simp; omega), List.getElem?_replicate, List.getElem?_replicate, if_pos hk, if_pos (by omega)]
    · rw [List.getElem?_append_right (by simp; omega), List.getElem?_append_right (by simp; omega)]
      simp only [List.length_replicate, List.getElem?_drop]
      congr 1
      omega
theorem lkd_at {l : List Int} {who : Int} {i : Nat} (h : i < l.length) : (lkd l who i)[i]? = l[i]? := by
  unfold lkd
  rw [List.getElem?_append_right (by simp)]
  simp
theorem lkd_got {l : List Int} {who : Int} {i k : Nat} (h : k < i) : (lkd l who i)[k]? = some who := by
  unfold lkd
  rw [List.getElem?_append_left (by simpa using h), List.getElem?_replicate, if_pos h]
theorem lkd_back {l : List Int} {who v : Int} {i : Nat} (h : l[i]? = some v) : (lkd l who (i + 1)).set i v = lkd l who i := by
  have hi := (List.getElem?_eq_some_iff.1 h).1
  rw [← lkd_set hi, List.set_set]
  exact set_self ((lkd_at hi).trans h)

section
variable {F : FA} {w : World} {s : MemS} {rg : Nat → Nat → RingS} {b : Nat} {x0 : CAct}
/-- The VLAN's words. -/
def vset (F : FA) (cells : List Int) (j : Nat) (M U : Nat) : List Int :=
  (cells.set (F.p.ports + 2 * j + 1).toNat ((U &&& (M &&& (pw F.p.ports.toNat - 1)) : Nat) : Int)).set (F.p.ports + 2 * j).toNat ((M &&& (pw F.p.ports.toNat - 1) : Nat) : Int)
theorem setvlan_calls (h : At F b w x0 rg w x0 s) (ht : s.time < 4000000000000000000) (P : Nat) (hP : F.p.ports = P) (hn : x0.next = fnv 75) (hh : x0.held = 0) (hl : x0.lks = upto P) (hk : x0.op.kind = 9) (j : Nat) (v : Vl) (hv : F.vs[j]? = some v) (hid : x0.op.vid = v.vid) (M U : Nat) (hM : x0.op.mem = (M : Int)) (hU : x0.op.unt = (U : Int)) (uM : U64 M) (uU : U64 U) (hw : 0 ≤ x0.who) (hpop : x0.pop = .pointer none) (e : EntS) (he : x0.ents = [e])
    (hfree : ∀ i, i < P → s.locks[i]? = some (-1)) (most : Nat) (hm : 18 ≤ most) (hm2 : most ≤ 1000000) :
    Calls Tryz.prog 35 #[ptr b, .int .i64 most] w fun e' w' => e' = .returned (.bool true) ∧
      ∃ mk dn, At F b w x0 rg w' { x0 with held := 0, next := .nilFunc, ents := [{ e with mark := mk, done := dn, answer := 1 }] } { cells := vset F s.cells j M U, locks := s.locks, time := s.time + (2 * P + 2) } := by
  have hp := h.fab.ok.good.ports
  have hnl := h.fab.nlocks
  have hsh := h.fab.ok.good.sh
  have hP2 : 2 ≤ P ∧ P ≤ 8 := by omega
  have hlen : x0.lks.length = P := by rw [hl, upto_len]
  have hlk : ∀ i, i < P → x0.lks[i]? = some (i : Int) := fun i hi => by rw [hl]; exact upto_get hi
  have hll : P ≤ s.locks.length := by omega
  have htn : ∀ i : Nat, ((i : Int)).toNat = i := fun i => by omega
  let I : Nat → World → Prop := fun n w' =>
    (∃ i, i < P ∧ n = 2 * P + 2 - i ∧ At F b w x0 rg w' { x0 with held := (i : Int), next := fnv 75 } { s with locks := lkd s.locks x0.who i, time := s.time + i }) ∨
    (n = P + 2 ∧ At F b w x0 rg w' { x0 with held := (P : Int), next := fnv 125 } { s with locks := lkd s.locks x0.who P, time := s.time + P }) ∨
    (n = P + 1 ∧ At F b w x0 rg w' { x0 with held := (P : Int), next := fnv 175 } { cells := s.cells.set (F.p.ports + 2 * j + 1).toNat ((U &&& (M &&& (pw F.p.ports.toNat - 1)) : Nat) : Int), locks := lkd s.locks x0.who P, time := s.time + P + 1 }) ∨
    (n ≤ P ∧ ∃ nx, ((0 < n ∧ nx = fnv 214) ∨ (n = 0 ∧ nx = Value.nilFunc)) ∧ At F b w x0 rg w' { x0 with held := (n : Int), next := nx, ents := [{ e with mark := s.time + P + 1 + 1, done := s.time + P + 1 + 1, answer := 1 }] } { cells := vset F s.cells j M U, locks := lkd s.locks x0.who n, time := s.time + (2 * P + 2) - n })
  have hstart : I (2 * P + 1 + 1) w := by
    refine .inl ⟨0, by omega, by omega, ?_⟩
    have e1 : ({ x0 with held := ((0 : Nat) : Int), next := fnv 75 } : CAct) = x0 := by
      cases x0
      simp only at hn hh
      simp [hn, hh]
    rw [e1, lkd_zero, show s.time + ((0 : Nat) : Int) = s.time by omega]
    exact h
  refine (finish_calls (F := F) I (2 * P + 1) most ?_ ?_ hstart (by omega) hm2).mono ?_
  · intro n w' hI
    rcases hI with ⟨i, hi, hn', hA⟩ | ⟨hn', hA⟩ | ⟨hn', hA⟩ | ⟨hn', nx, hnx, hA⟩
    · exact ⟨_, hA.act, fnv_FnV _, by have : (n == 0) = false := by simp; omega
                                      rw [this]; rfl⟩
    · exact ⟨_, hA.act, fnv_FnV _, by rw [hn']; rfl⟩
    · exact ⟨_, hA.act, fnv_FnV _, by rw [hn']; rfl⟩
    · rcases hnx with ⟨h1, rfl⟩ | ⟨h1, rfl⟩
      · exact ⟨_, hA.act, fnv_FnV _, by have : (n == 0) = false := by simp; omega
                                        rw [this]; rfl⟩
      · exact ⟨_, hA.act, .inl rfl, by rw [h1]; rfl⟩
  · intro n w' hI
    rcases hI with ⟨i, hi, hn', hA⟩ | ⟨hn', hA⟩ | ⟨hn', hA⟩ | ⟨hn', nx, hnx, hA⟩
    · have hfr : (lkd s.locks x0.who i)[((i : Int)).toNat]? = some (-1) := by rw [htn]; exact (lkd_at (by omega)).trans (hfree i hi)
      have hst : (lkd s.locks x0.who i).set ((i : Int)).toNat x0.who = lkd s.locks x0.who (i + 1) := by rw [htn]; exact lkd_set (by omega)
      by_cases hlast : i + 1 < P
      · have := hA.lock (by show s.time + i < 4611686018427387904; omega) rfl i rfl i (hlk i hi) (by omega) (by omega) hw (by show x0.lks.length ≤ 8; omega) (fnv 75) (lockIs_iff.2 hfr) (.inl ⟨by show i + 1 < x0.lks.length; omega, rfl⟩)
        rw [passed_yes (lockIs_iff.2 hfr)] at this
        refine this.mono ?_
        rintro e1 w1 ⟨rfl, h2⟩
        refine ⟨n, by omega, by have : (n == 0) = false := by simp; omega
                                rw [this], .inl ⟨i + 1, hlast, by omega, ?_⟩⟩
        simp only [hst] at h2
        rw [show s.time + ((i + 1 : Nat) : Int) = s.time + i + 1 by omega, show ((i + 1 : Nat) : Int) = (i : Int) + 1 by omega]
        exact h2
      · have := hA.lock (by show s.time + i < 4611686018427387904; omega) rfl i rfl i (hlk i hi) (by omega) (by omega) hw (by show x0.lks.length ≤ 8; omega) (fnv 125) (lockIs_iff.2 hfr) (.inr (.inl ⟨by show x0.lks.length ≤ i + 1; omega, hk, rfl⟩))
        rw [passed_yes (lockIs_iff.2 hfr)] at this
        refine this.mono ?_
        rintro e1 w1 ⟨rfl, h2⟩
        have hiP : i + 1 = P := by omega
        refine ⟨n, by omega, by have : (n == 0) = false := by simp; omega
                                rw [this], .inr (.inl ⟨by omega, ?_⟩)⟩
        simp only [hst] at h2
        rw [← hiP, show s.time + ((i + 1 : Nat) : Int) = s.time + i + 1 by omega, show ((i + 1 : Nat) : Int) = (i : Int) + 1 by omega]
        exact h2
    · have := hA.step _ rfl enters_bare (fnv_FnV _) (bare_calls hA.fab (by show s.time + P < 4611686018427387904; omega) hA.act j v hv hid M U hM hU uM uU)
      refine this.mono ?_
      rintro e1 w1 ⟨rfl, h2⟩
      exact ⟨n, by omega, by have : (n == 0) = false := by simp; omega
                             rw [this]; rfl, .inr (.inr (.inl ⟨by omega, h2⟩))⟩
    · have := hA.step _ rfl enters_members (fnv_FnV _) (members_calls hA.fab (by show s.time + P + 1 < 4611686018427387904; omega) hA.act j v hv hid M hM uM e [] he hpop)
      refine this.mono ?_
      rintro e1 w1 ⟨rfl, h2⟩
      refine ⟨n, by omega, by have : (n == 0) = false := by simp; omega
                              rw [this]; rfl, .inr (.inr (.inr ⟨by omega, _, .inl ⟨by omega, rfl⟩, ?_⟩))⟩
      have hnP : n = P := by omega
      rw [hnP, show s.time + (2 * (P : Int) + 2) - P = s.time + P + 1 + 1 by omega]
      exact h2
    · rcases hnx with ⟨_, rfl⟩ | ⟨h1, _⟩
      · have hgot : (lkd s.locks x0.who (n + 1))[((n : Int)).toNat]? = some x0.who := by rw [htn]; exact lkd_got (by omega)
        have hbk : (lkd s.locks x0.who (n + 1)).set ((n : Int)).toNat (-1) = lkd s.locks x0.who n := by rw [htn]; exact lkd_back (hfree n (by omega))
        have hnx2 : ∃ nx, (0 < n ∧ nx = fnv 214) ∨ (n = 0 ∧ nx = Value.nilFunc) := by
          by_cases hn0 : 0 < n
          · exact ⟨_, .inl ⟨hn0, rfl⟩⟩
          · exact ⟨_, .inr ⟨by omega, rfl⟩⟩
        obtain ⟨nx, hnx⟩ := hnx2
        have := hA.unlock (by show s.time + (2 * P + 2) - ((n + 1 : Nat) : Int) < 4611686018427387904; omega) rfl n rfl n (hlk n (by omega)) (by omega) (by omega) hw (by show x0.lks.length ≤ 8; omega) nx hnx
        rw [passed_yes (lockIs_iff.2 hgot)] at this
        refine this.mono ?_
        rintro e1 w1 ⟨rfl, h2⟩
        refine ⟨n, by omega, rfl, .inr (.inr (.inr ⟨by omega, nx, hnx, ?_⟩))⟩
        simp only [hbk] at h2
        rw [show s.time + (2 * (P : Int) + 2) - n = s.time + (2 * P + 2) - ((n + 1 : Nat) : Int) + 1 by omega]
        exact h2
      · omega
  · rintro e1 w1 ⟨rfl, hI⟩
    rcases hI with ⟨i, hi, hn', hA⟩ | ⟨hn', hA⟩ | ⟨hn', hA⟩ | ⟨hn', nx, hnx, hA⟩
    · omega
    · omega
    · omega
    · rcases hnx with ⟨h1, _⟩ | ⟨_, rfl⟩
      · omega
      · refine ⟨rfl, s.time + P + 1 + 1, s.time + P + 1 + 1, ?_⟩
        rw [show s.time + (2 * (P : Int) + 2) = s.time + (2 * P + 2) - ((0 : Nat) : Int) by omega]
        exact hA
end
end Go.Proofs.YtcpaodidpomdaaaGreat

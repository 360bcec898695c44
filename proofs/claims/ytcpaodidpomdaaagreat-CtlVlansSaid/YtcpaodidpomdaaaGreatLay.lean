/- ctl.lay: the rings, row by row. -/
import Derived.Test.YtcpaodidpomdaaaGreatFab0
import Derived.Deep.LoopGhost
import Derived.Deep.CutRange
import Derived.StillTailTactics
import Derived.Deep.RegionLaw
set_option linter.unusedVariables false
set_option linter.unusedSimpArgs false
namespace Go.Proofs.YtcpaodidpomdaaaGreat
open Go.RowKit

theorem info_pring : (Tryz.prog.info? 91).map (fun i => (i.zero.map (·.cells.size), i.size, i.bytes)) = some (some 1, 1, 8) := by kernel_rfl
theorem info_prings : (Tryz.prog.info? 130).map (fun i => (i.zero.map (·.cells.size), i.size, i.bytes)) = some (some 1, 1, 24) := by kernel_rfl

def fabCells (p : Nums) (r v : Value) (m : Nat) (fd rings : Value) : List Value := p.cells r v ++ [ptr m, fd, rings]
theorem fab_cells {w : World} {f m : Nat} {p : Nums} {r v fd rings : Value} {T : TypeId} (h : Blk w f (fabCells p r v m fd rings) T) :
    w.cell? ⟨f, 0, none⟩ = some (.int .i64 p.ports) ∧ w.cell? ⟨f, 7, none⟩ = some (.int .i64 p.ring) ∧ w.cell? ⟨f, 10, none⟩ = some (ptr m) ∧ w.cell? ⟨f, 11, none⟩ = some fd ∧ w.cell? ⟨f, 12, none⟩ = some rings :=
  ⟨h.get 0 rfl, h.get 7 rfl, h.get 10 rfl, h.get 11 rfl, h.get 12 rfl⟩

/-- The rings of one row, and the slice that tells them. -/
structure RowOk (w : World) (base0 m : Nat) (b R : Int) (v : Value) (n : Nat) (l : List Nat) : Prop where
  len : l.length = n
  own : Own w base0 91 1 v n (l.map ptr)
  rings : ∀ (j r : Nat), l[j]? = some r → IsRing w r m (ring0 (b + j * (R + 2)) R) ∧ base0 ≤ r

section
variable {w w1 : World} {a : MemA} {s : MemS} {base0 m f n : Nat} {b R : Int} {v : Value} {l : List Nat} {S : Nat → Prop}
theorem RowOk.kp (h : RowOk w base0 m b R v n l) (k : Kp w w1 S) (h1 : ∀ k, v.ownBlock = some k → ¬ S k) (h2 : ∀ r, r ∈ l → ¬ S r) : RowOk w1 base0 m b R v n l :=
  ⟨h.len, h.own.kp k h1, fun j r hj => ⟨(h.rings j r hj).1.kp k (h2 r (List.mem_of_getElem? hj)), (h.rings j r hj).2⟩⟩
theorem RowOk.mono {base' : Nat} (h : RowOk w base0 m b R v n l) (hb : base' ≤ base0) : RowOk w base' m b R v n l :=
  ⟨h.len, h.own.mono hb, fun j r hj => ⟨(h.rings j r hj).1, Nat.le_trans hb (h.rings j r hj).2⟩⟩
theorem RowOk.ring (h : RowOk w base0 m b R v n l) {r : Nat} (hr : r ∈ l) : ∃ c, IsRing w r m c := by
  obtain ⟨j, hj, rfl⟩ := List.getElem_of_mem hr
  exact ⟨_, (h.rings j _ (List.getElem?_eq_getElem hj)).1⟩
theorem RowOk.mem (h : RowOk w base0 m b R v n l) (hM : IsMem w a s) (k : Kp w w1 (fun k => k = a.m ∨ k = a.cb)) : RowOk w1 base0 m b R v n l :=
  h.kp k (fun k hk e => e.elim (fun e => h.own.ne_blk hM.hm (by decide) (e ▸ hk)) (fun e => h.own.ne_blk hM.hc (by decide) (e ▸ hk)))
    (fun r hr e => by
      obtain ⟨c, hc⟩ := h.ring hr
      exact e.elim (fun e => hc.out.ne hM.hm (by decide) e) (fun e => hc.out.ne hM.hc (by decide) e))
theorem RowOk.memf {cs : List Value} (h : RowOk w base0 m b R v n l) (hM : IsMem w a s) (hF : Blk w f cs 144) (k : Kp w w1 (fun k => k = a.m ∨ k = a.cb ∨ k = f)) : RowOk w1 base0 m b R v n l :=
  h.kp k (fun k hk e => by
      rcases e with e | e | e
      · exact h.own.ne_blk hM.hm (by decide) (e ▸ hk)
      · exact h.own.ne_blk hM.hc (by decide) (e ▸ hk)
      · exact h.own.ne_blk hF (by decide) (e ▸ hk))
    (fun r hr e => by
      obtain ⟨c, hc⟩ := h.ring hr
      rcases e with e | e | e
      · exact hc.out.ne hM.hm (by decide) e
      · exact hc.out.ne hM.hc (by decide) e
      · exact hc.out.ne hF (by decide) e)
theorem RowOk.row {V : Value} {N : Nat} {xs : List Value} {base1 : Nat} (h : RowOk w base0 m b R v n l) (hV : Own w base1 130 1 V N xs) (k : Kp w w1 (fun k => V.ownBlock = some k)) : RowOk w1 base0 m b R v n l :=
  h.kp k (fun k hk e => h.own.ne_own hV (by decide) hk e)
    (fun r hr e => by
      obtain ⟨c, hc⟩ := h.ring hr
      exact hV.ne_blk hc.out (by decide) e)
end
theorem set_self {l : List Int} {i : Nat} {v : Int} (h : l[i]? = some v) : l.set i v = l := by
  obtain ⟨hi, rfl⟩ := List.getElem?_eq_some_iff.1 h
  exact List.set_getElem_self hi

/-- In the inner loop: row l is under way. -/
structure LayIn (wo wr : World) (a : MemA) (s : MemS) (f : Nat) (cs : List Value) (b R t0 : Int) (v : Value) (j : Nat) (l : List Nat) : Prop where
  row : RowOk wr wo.heap.size a.m b R v j l
  mem : ∃ τ, t0 ≤ τ ∧ τ ≤ t0 + 2 * j ∧ IsMem wr a { s with time := τ }
  fab : Blk wr f cs 144
  kp : Kp wo wr (fun k => k = a.m ∨ k = a.cb)
theorem LayIn.step {wo w1 w2 : World} {a : MemA} {s : MemS} {f : Nat} {cs : List Value} {b R t0 τ : Int} {u v1 : Value} {j rr : Nat} {l : List Nat} (hRow : RowOk w1 wo.heap.size a.m b R u j l) (hR : IsRing w1 rr a.m (ring0 (b + j * (R + 2)) R)) (hge : wo.heap.size ≤ rr)
    (hown : Own w2 wo.heap.size 91 1 v1 (j + 1) (l.map ptr ++ [ptr rr])) (hk : Kp w1 w2 (fun k => u.ownBlock = some k)) (hM : IsMem w1 a { s with time := τ + 1 + 1 }) (h1 : t0 ≤ τ) (h2 : τ ≤ t0 + 2 * j)
    (hF : Blk w1 f cs 144) (hk0 : Kp wo w1 (fun k => k = a.m ∨ k = a.cb)) : LayIn wo w2 a s f cs b R t0 v1 (j + 1) (l ++ [rr]) := by
  refine ⟨⟨by simp [hRow.len], by simpa using hown, ?_⟩, ⟨τ + 1 + 1, by omega, by omega, ?_⟩, hF.kp hk (fun e => hRow.own.ne_blk hF (by decide) e), hk0.trans hk (fun k hk' e => absurd (hRow.own.lt e).1 (by omega))⟩
  · intro j' r hj
    by_cases h : j' < l.length
    · rw [List.getElem?_append_left h] at hj
      obtain ⟨x1, x2⟩ := hRow.rings j' r hj
      exact ⟨x1.kp hk (fun e => hRow.own.ne_blk x1.out (by decide) e), x2⟩
    · rw [List.getElem?_append_right (by omega)] at hj
      have hlt : j' - l.length < 1 := by simpa using (List.getElem?_eq_some_iff.1 hj).1
      obtain rfl : j' = l.length := by omega
      rw [Nat.sub_self] at hj
      have : rr = r := by simpa using hj
      subst this
      rw [hRow.len]
      exact ⟨hR.kp hk (fun e => hRow.own.ne_blk hR.out (by decide) e), hge⟩
  · exact hM.kp hk (fun b hb e => by
      rcases hb with hb | hb | hb
      · exact hRow.own.ne_blk hM.hm (by decide) (hb ▸ e)
      · exact hRow.own.ne_blk hM.hc (by decide) (hb ▸ e)
      · exact hRow.own.ne_blk hM.hl (by decide) (hb ▸ e))

/-- In the outer loop. -/
structure LayOut (w wr : World) (a : MemA) (s : MemS) (f : Nat) (p : Nums) (r v fd : Value) (base : Int) (n : Nat) (V : Value) (rows : List (Value × List Nat)) : Prop where
  fab : Blk wr f (fabCells p r v a.m fd V) 144
  own : Own wr w.heap.size 130 1 V rows.length (rows.map (·.1))
  each : ∀ (i : Nat) x, rows[i]? = some x → RowOk wr w.heap.size a.m (base + i * (n * (p.ring + 2))) p.ring x.1 n x.2
  mem : ∃ τ, s.time ≤ τ ∧ τ ≤ s.time + 16 * rows.length ∧ IsMem wr a { s with time := τ }
  kp : Kp w wr (fun k => k = a.m ∨ k = a.cb ∨ k = f)

section
variable {w wo wr w1 : World} {a : MemA} {s : MemS} {f : Nat} {p : Nums} {r v fd : Value} {base b τ0 : Int} {n : Nat} {V u V1 : Value} {l : List Nat} {rows : List (Value × List Nat)}
theorem LayOut.hv (h : LayOut w wo a s f p r v fd base n V rows) (hM : IsMem wo a { s with time := τ0 }) (k : Kp wo wr (fun k => k = a.m ∨ k = a.cb)) : Own wr w.heap.size 130 1 V rows.length (rows.map (·.1)) :=
  h.own.kp k (fun b hb e => e.elim (fun e => h.own.ne_blk hM.hm (by decide) (e ▸ hb)) (fun e => h.own.ne_blk hM.hc (by decide) (e ▸ hb)))
/-- The outer loop's facts behind the row. -/
theorem LayOut.step (h : LayOut w wo a s f p r v fd base n V rows)
    (hM : IsMem wo a { s with time := τ0 }) (hb : base + rows.length * (n * (p.ring + 2)) = b) (hI : LayIn wo wr a s f (fabCells p r v a.m fd V) b p.ring τ0 u n l) (ht : s.time ≤ τ0) (ht2 : τ0 ≤ s.time + 16 * rows.length) (hn : n ≤ 8)
    (hown : Own w1 w.heap.size 130 1 V1 (rows.length + 1) (rows.map (·.1) ++ [u])) (hk : Kp wr w1 (fun k => V.ownBlock = some k)) :
    LayOut w (w1.setCell ⟨f, 12, none⟩ V1) a s f p r v fd base n V1 (rows ++ [(u, l)]) := by
  have hOV := h.hv hM hI.kp
  obtain ⟨τ, q1, q2, hM1⟩ := hI.mem
  have hF1 := hI.fab.kp hk (fun e => hOV.ne_blk hI.fab (by decide) e)
  have hM2 : IsMem w1 a { s with time := τ } := hM1.kp hk (fun b hb e => by
      rcases hb with hb | hb | hb
      · exact hOV.ne_blk hM1.hm (by decide) (hb ▸ e)
      · exact hOV.ne_blk hM1.hc (by decide) (hb ▸ e)
      · exact hOV.ne_blk hM1.hl (by decide) (hb ▸ e))
  have hS := (Kp.refl w1 (fun k => k = f)).setCell (p := ⟨f, 12, none⟩) (fun _ => rfl) V1
  have hR : ∀ {b0 : Int} {x : Value} {y : List Nat}, RowOk wr w.heap.size a.m b0 p.ring x n y → RowOk (w1.setCell ⟨f, 12, none⟩ V1) w.heap.size a.m b0 p.ring x n y := by
    intro b0 x y hx
    have hx1 := hx.row hOV hk
    refine hx1.kp hS (fun k hk e => hx1.own.ne_blk hF1 (by decide) (e ▸ hk)) (fun r hr e => ?_)
    obtain ⟨c, hc⟩ := hx1.ring hr
    exact hc.out.ne hF1 (by decide) e
  refine ⟨hF1.put 12 _ rfl, ?_, ?_, ⟨τ, by omega, by simp; omega, ?_⟩, ?_⟩
  · have := hown.far (p := ⟨f, 12, none⟩) (fun e => hown.ne_blk hF1 (by decide) e) V1
    simpa using this
  · intro i x hi
    by_cases h' : i < rows.length
    · rw [List.getElem?_append_left h'] at hi
      exact hR ((h.each i x hi).mem hM hI.kp)
    · rw [List.getElem?_append_right (by omega)] at hi
      have hlt : i - rows.length < 1 := by simpa using (List.getElem?_eq_some_iff.1 hi).1
      obtain rfl : i = rows.length := by omega
      rw [Nat.sub_self] at hi
      have : (u, l) = x := by simpa using hi
      subst this
      rw [hb]
      exact hR (hI.row.mono h.kp.size)
  · refine hM2.far ?_ V1
    rintro (e | e | e)
    · exact hF1.ne hM2.hm (by decide) e
    · exact hF1.ne hM2.hc (by decide) e
    · exact hF1.ne hM2.hl (by decide) e
  · exact ((h.kp.trans hI.kp (fun b _ e => e.elim .inl (fun e => .inr (.inl e)))).trans hk (fun b hb e => absurd (hOV.lt e).1 (by omega))).setCell (fun _ => .inr (.inr rfl)) V1
end

set_option maxRecDepth 100000 in
set_option maxHeartbeats 4000000 in
theorem lay_calls {w : World} {a : MemA} {s : MemS} {f : Nat} {p : Nums} {r v fd : Value} (n : Nat) (base : Int) (hM : IsMem w a s) (hs : s.time < 10000) (hF : Blk w f (fabCells p r v a.m fd (.slice none 0 0)) 144)
    (hn : p.ports = n) (hn8 : n ≤ 8) (h1 : 1 ≤ p.ring) (h2 : p.ring ≤ 64) (h0 : 0 ≤ base) (h3 : base + n * (n * (p.ring + 2)) ≤ s.cells.length) (hz : ∀ k : Nat, base ≤ k → k < s.cells.length → s.cells[k]? = some 0) :
    Calls Tryz.prog 103 #[ptr f, .int .i64 base] w fun e w' => e = .returned (.int .i64 0) ∧ ∃ V rows, rows.length = n ∧ LayOut w w' a s f p r v fd base n V rows := by
  have hc := fab_cells hF
  rw [hn] at hc
  obtain ⟨c0, c7, c10, c11, c12⟩ := hc
  have L0 : LayOut w w a s f p r v fd base n (.slice none 0 0) [] := ⟨hF, Own.nil _ _ _ _, fun i x h => by simp at h, ⟨s.time, by omega, by simp, hM⟩, Kp.refl _ _⟩
  clear hF hM
  have nn1 : (n : Int) ≤ 8 := by omega
  go_enter Tryz.func103, Tryz.ntmps103
  go_wp2_with fail
  go_loopg [1, 13] n (fun d s1 i wr => ∃ (k : Nat), ∃ V rows, k + d = n ∧ i = .int .i64 k ∧ s1 = .int .i64 (base + k * (n * (p.ring + 2))) ∧ rows.length = k ∧ LayOut w wr a s f p r v fd base n V rows)
  case atStart => exact ⟨0, _, [], by omega, rfl, by simp, rfl, L0⟩
  case round =>
    obtain ⟨k, V, rows, hk, rfl, rfl, hrl, hL⟩ := hrel
    clear c0 c7 c10 c11 c12 L0
    have hc := fab_cells hL.fab
    rw [hn] at hc
    obtain ⟨c0, c7, c10, c11, c12⟩ := hc
    by_cases hlt : k < n
    · have lk : (k : Int) < (n : Int) := by omega
      obtain ⟨wo, rfl⟩ : ∃ wo : World, wo = wr := ⟨_, rfl⟩
      obtain ⟨go, rfl⟩ : ∃ go : Nat, go = gk := ⟨_, rfl⟩
      obtain ⟨τ0, t1, t2, hM⟩ := hL.mem
      have hb1 : base + k * (n * (p.ring + 2)) + n * (p.ring + 2) ≤ s.cells.length := by
        have : ((k : Int) + 1) * (n * (p.ring + 2)) ≤ n * (n * (p.ring + 2)) := Int.mul_le_mul_of_nonneg_right (by omega) (Int.mul_nonneg (by omega) (by omega))
        rw [Int.add_mul] at this
        omega
      have hb0 : base ≤ base + k * (n * (p.ring + 2)) := by
        have : 0 ≤ (k : Int) * (n * (p.ring + 2)) := Int.mul_nonneg (by omega) (Int.mul_nonneg (by omega) (by omega))
        omega
      obtain ⟨b, hb⟩ : ∃ b, base + k * (n * (p.ring + 2)) = b := ⟨_, rfl⟩
      rw [hb] at hb1 hb0 ⊢
      have I0 : LayIn wo wo a s f (fabCells p r v a.m fd V) b p.ring τ0 (.slice none 0 0) 0 [] := ⟨⟨rfl, Own.nil _ _ _ _, fun j r h => by simp at h⟩, ⟨τ0, by omega, by omega, hM⟩, hL.fab, Kp.refl _ _⟩
      have HL := Go.Lib.hid hL
      have HM := Go.Lib.hid hM
      have HK := Go.Lib.hid hk
      have HBb := Go.Lib.hid hb
      clear hL hM hk hb
      go_wp2_with fail
      go_loopg [1, 5, 20] n (fun d s1 s5 i wr => ∃ (j : Nat), ∃ u l, j + d = n ∧ i = .int .i64 j ∧ u = s5 ∧ s1 = .int .i64 (b + j * (p.ring + 2)) ∧ LayIn wo wr a s f (fabCells p r v a.m fd V) b p.ring τ0 u j l)
      case atStart => exact ⟨0, _, [], by omega, rfl, rfl, by simp, I0⟩
      case round =>
        obtain ⟨j, u, l, hj, rfl, rfl, rfl, hI⟩ := hrel
        clear c0 c7 c10 c11 c12 I0
        have hc := fab_cells hI.fab
        rw [hn] at hc
        obtain ⟨c0, c7, c10, c11, c12⟩ := hc
        by_cases hjn : j < n
        · have lj : (j : Int) < (n : Int) := by omega
          obtain ⟨τ, q1, q2, hM⟩ := hI.mem
          have hbj1 : b + j * (p.ring + 2) + (p.ring + 2) ≤ s.cells.length := by
            have : ((j : Int) + 1) * (p.ring + 2) ≤ n * (p.ring + 2) := Int.mul_le_mul_of_nonneg_right (by omega) (by omega)
            rw [Int.add_mul] at this
            omega
          have hbj0 : b ≤ b + j * (p.ring + 2) := by
            have : 0 ≤ (j : Int) * (p.ring + 2) := Int.mul_nonneg (by omega) (by omega)
            omega
          have hnc : s.cells.length ≤ 1048576 := hM.nc
          obtain ⟨bj, hbj⟩ : ∃ bj, b + j * (p.ring + 2) = bj := ⟨_, rfl⟩
          rw [hbj] at hbj0 hbj1 ⊢
          have hset : (s.cells.set bj.toNat 0).set (bj + 1).toNat 0 = s.cells := by
            rw [set_self (hz bj.toNat (by omega) (by omega)), set_self (hz (bj + 1).toNat (by omega) (by omega))]
          have hrc := fun W => ringCells_calls W p.ring h1 h2
          have hNew := ringNew_calls (s := { s with time := τ }) hM.drew (by show τ < 1000000; omega) bj p.ring (by omega) h1 h2 (by show bj + (p.ring + 2) ≤ s.cells.length; omega)
          simp only [hset] at hNew
          have hRow0 := hI.row.kp (Kp.refl wr (fun _ => False)).drew (fun _ _ h => h) (fun _ _ h => h)
          have hM0 := hM.drew
          have hF0 := hI.fab.drew
          have hK0 := hI.kp.drew
          have nf1 : ¬ (f = a.m ∨ f = a.cb) := fun e => e.elim (fun e => hF0.ne hM0.hm (by decide) e) (fun e => hF0.ne hM0.hc (by decide) e)
          have HQ := Go.Lib.hid (And.intro hI.row.len (And.intro hj (And.intro q1 (And.intro q2 hbj))))
          have hw := hI.kp.size
          have hw2 : b + n * (p.ring + 2) ≤ 1048576 := by omega
          have hbj2 : bj + (p.ring + 2) ≤ 1048576 := by omega
          clear hI hM q1 q2 hj hbj hset hz hs hnc
          go_wp2_with fail
          go_region_held3 (fun w' => w'.cell? ⟨f, 0, none⟩ = some (.int .i64 n) ∧ w'.cell? ⟨f, 7, none⟩ = some (.int .i64 p.ring) ∧ w'.cell? ⟨f, 10, none⟩ = some (ptr a.m) ∧ w'.cell? ⟨f, 11, none⟩ = some fd ∧ w'.cell? ⟨f, 12, none⟩ = some V)
            ((rw [← hn]; exact fab_cells (by assumption)))
            (first | (go_at_call 154; refine hNew.mono ?_; rintro e w1 ⟨rr, rfl, hR1, hM1, hr1, hK1⟩; have hF1 := hF0.kp hK1 nf1))
          obtain ⟨d0, d7, d10, d11, d12⟩ := fab_cells hF1
          have hRow1 := hRow0.mem hM0 hK1
          have hw1 : wr.heap.size ≤ w1.heap.size := hK1.size
          have hr2 : wr.heap.size ≤ rr := hr1
          have hO1 := hRow1.own
          have q9 : b + n * (p.ring + 2) ≤ 1048576 := hw2
          go_wp2_with (first | (go_at_call 98; refine (hrc _).mono ?_; rintro e w2 ⟨rfl, rfl⟩) | (at_builtin; refine own_append1 rfl _ _ 130 91 wo.heap.size 1 8 j rfl Tryz.underlying130 info_pring (by decide) u (l.map ptr) [ptr rr] rfl rfl rfl ?c1 hO1 ?c2 ?c3 ?c4 ?c5))
          case c1 => intro u hu; simp at hu; subst hu; rfl
          case c2 => omega
          case c3 => unfold maxLen; omega
          case c4 => omega
          case c5 =>
            intro v1 w3 hown hkp hat
            obtain ⟨hlen, hj, q1, q2, hbj⟩ := HQ.out
            rw [← hbj] at hR1
            have hN := Go.Lib.hid (LayIn.step hRow1 hR1 (Nat.le_trans hw hr2) hown hkp hM1 q1 q2 hF1 (hK0.trans hK1 (fun _ _ h => h)))
            have hb9 := Go.Lib.hid hbj
            clear hlen hj q1 q2 hbj hown hkp hM1 hF1 hK1 hRow1 hO1 hR1 hM0 hRow0 hF0 hK0
            go_wp2_with fail
            go_roundg (gk - 1)
            case measure => have := HQ.out; omega
            case rel => exact ⟨j + 1, _, _, by have := HQ.out; omega, by simp, rfl, by rw [show ((j + 1 : Nat) : Int) = (j : Int) + 1 from rfl, Int.add_mul, ← hb9.out]; congr 1; omega, hN.out⟩
        · obtain rfl : j = n := by omega
          have hge : (j : Int) ≤ (j : Int) := Int.le_refl _
          obtain ⟨Au, cu, rfl, -⟩ := hI.row.own.slice
          obtain ⟨τ, q1, q2, hM1⟩ := hI.mem
          have hOV := HL.out.hv HM.out hI.kp
          have hst := fun W V1 h1 h2 => LayOut.step (w1 := W) (V1 := V1) HL.out HM.out (by rw [hrl]; exact HBb.out) hI t1 t2 hn8 h1 h2
          have hF1 := hI.fab
          have f12 := hF1.frozen 12
          have hFl := hF1.lt
          have hsz := hI.kp.size
          have hw := HL.out.kp.size
          have HI := Go.Lib.hid hI
          have HS := Go.Lib.hid hst
          clear hM1 hI hst
          go_wp2_with (at_builtin; refine own_append1 rfl _ _ 142 130 w.heap.size 1 24 rows.length rfl Tryz.underlying142 info_prings (by decide) V (rows.map (·.1)) [.slice Au j cu] rfl rfl rfl ?c1 hOV ?c2 ?c3 ?c4 ?c5)
          case c1 => intro u hu; simp at hu; subst hu; rfl
          case c2 => omega
          case c3 => unfold maxLen; omega
          case c4 => omega
          case c5 =>
            intro v1 w3 hown hkp hat
            obtain ⟨A1, c1, rfl, -⟩ := hown.slice
            have hN := Go.Lib.hid (HS.out w3 (.slice A1 (k + 1) c1) (by rw [hrl]; exact hown) hkp)
            have hF3 := hF1.kp hkp (fun e => hOV.ne_blk hF1 (by decide) e)
            have hf3 := hF3.frozen 12
            have hg3 := (fab_cells hF3).2.2.2.2
            clear hF3
            clear HS hkp hown hOV hF1
            go_wp2_with fail
            go_roundg (go - 1)
            case measure => have := HK.out; omega
            case rel => exact ⟨k + 1, _, _, by have := HK.out; omega, rfl, by rw [show ((k + 1 : Nat) : Int) = (k : Int) + 1 from rfl, Int.add_mul, ← HBb.out]; congr 1; omega, by simp [hrl], hN.out⟩
    · obtain rfl : k = n := by omega
      have hge : (k : Int) ≤ (k : Int) := Int.le_refl _
      go_wp2_with fail
      go_ret
      exact ⟨rfl, V, rows, hrl, hL⟩
end Go.Proofs.YtcpaodidpomdaaaGreat

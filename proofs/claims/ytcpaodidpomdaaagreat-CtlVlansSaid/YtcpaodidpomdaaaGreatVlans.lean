/- The law CtlVlans: whatever VLANs were set to, read one by one, they are what was set last, of the plan's ports. -/
import Derived.Test.YtcpaodidpomdaaaGreatRunV
import Derived.Test.YtcpaodidpomdaaaGreatTold19
import Derived.Test.YtcpaodidpomdaaaGreatOp17
set_option linter.unusedVariables false
set_option linter.unusedSimpArgs false
set_option maxRecDepth 100000
namespace Go.Proofs.YtcpaodidpomdaaaGreat
open Go.RowKit

theorem Rd.kpl {w w1 : World} {A : Option Addr} {xs : List Value} {S : Nat → Prop} (h : Rd w A xs) (k : Kp w w1 S) (hn : ∀ b, b < w.heap.size → ¬ S b) : Rd w1 A xs := ⟨fun j v hv => by
  obtain ⟨b, o, rfl, hc⟩ := h.out j v hv
  exact ⟨b, o, rfl, k.cell hc (hn b (World.block_lt_of_cell? w _ hc))⟩⟩
def setCells (l : List (Nat × Nat)) : List Value := l.flatMap fun x => [.int .u64 (x.1 : Int), .int .u64 (x.2 : Int)]
theorem setCells_get (l : List (Nat × Nat)) (k : Nat) (x : Nat × Nat) (h : l[k]? = some x) : (setCells l)[k * 2]? = some (.int .u64 (x.1 : Int)) ∧ (setCells l)[k * 2 + 1]? = some (.int .u64 (x.2 : Int)) := by
  induction l generalizing k with
  | nil => simp at h
  | cons y l ih =>
    cases k with
    | zero => simp at h; subst h; exact ⟨rfl, rfl⟩
    | succ k =>
      simp at h
      have := ih k h
      have e : (k + 1) * 2 = k * 2 + 2 := by omega
      rw [e]
      exact this

theorem belowFacts2 {W W' : World} {a b : Addr} {x y : Value} (hB : Below W.heap.size W W') (h : W.cell? a = some x ∧ W.cell? b = some y) : W'.cell? a = some x ∧ W'.cell? b = some y :=
  ⟨(hB.cell (p := a) (World.block_lt_of_cell? W _ h.1)).trans h.1, (hB.cell (p := b) (World.block_lt_of_cell? W _ h.2)).trans h.2⟩
theorem drewFacts2 {W : World} {a b : Addr} {x y : Value} (h1 : W.cell? a = some x) (h2 : W.cell? b = some y) : W.drew.cell? a = some x ∧ W.drew.cell? b = some y := ⟨h1, h2⟩
/-- Between two orders: all locks free. -/
structure VRound (F : FA) (wr : World) (s : MemS) (k : Nat) : Prop where
  fab : Fab F wr s F.rg0
  locks : ∀ l : Nat, l < s.locks.length → s.locks[l]? = some (-1)
  time : s.time ≤ 1000 + 1000 * k

set_option maxHeartbeats 2000000 in
theorem vlans_walk (w : World) (p : Nums) (A1 A2 As : Option Addr) (rules : List Rule) (vls : List Vl) (sets : List (Nat × Nat)) (c1 c2 cs : Nat) (h1 : Rd w A1 (ruleCells rules)) (h2 : Rd w A2 (vlCells vls)) (hr : rules.length ≤ maxLen) (hv : vls.length ≤ maxLen) (hu : ∀ v ∈ vls, U64 v.mem ∧ U64 v.unt)
    (h3 : Rd w As (setCells sets)) (hl : sets.length ≤ maxLen) (hsu : ∀ x ∈ sets, U64 x.1 ∧ U64 x.2) :
    Calls Tryz.prog 6 #[p.agg (.slice A1 rules.length c1) (.slice A2 vls.length c2), .slice As sets.length cs] w fun e w' => e = .returned (.bool true) ∧ Below w.heap.size w w' := by
  have hb := Blk.new w (p.cells (.slice A1 rules.length c1) (.slice A2 vls.length c2)) 28
  have hz := (Below.refl w.heap.size w).alloc (Nat.le_refl _) (.cells (p.cells (.slice A1 rules.length c1) (.slice A2 vls.length c2)).toArray 28)
  have hfx := fix_calls _ p A1 A2 rules vls c1 c2 (h1.below hz) (h2.below hz) hr hv hu
  have hz1 : (w.alloc (.cells (p.cells (.slice A1 rules.length c1) (.slice A2 vls.length c2)).toArray 28)).heap.size = w.heap.size + 1 := by simp
  simp only [Nums.cells] at hb hz hfx hz1
  unfold Nums.agg at hfx ⊢
  go_enter Tryz.func6, Tryz.ntmps6
  go_wp2_with fail
  generalize (w.alloc _) = W0 at hb hz hfx hz1 ⊢
  refine hfx.mono ?_
  rintro e W1 ⟨q, rs, vs, A, B, c, d, rfl, hg, hn, hr', hv', hri, hvl, hA, hB, hBw, hfA, hfB⟩
  have hb1 := hb.below hBw
  obtain ⟨p0, p1, p2, p3, p4, p5, p6, p7, p8, p9⟩ := plan_cells (p := p) (r := .slice A1 rules.length c1) (v := .slice A2 vls.length c2) hb1
  have t0 := hb1.frozen 0
  have t1 := hb1.frozen 1
  have t2 := hb1.frozen 2
  have t3 := hb1.frozen 3
  have t4 := hb1.frozen 4
  have t5 := hb1.frozen 5
  have t6 := hb1.frozen 6
  have t7 := hb1.frozen 7
  have t8 := hb1.frozen 8
  have t9 := hb1.frozen 9
  unfold Nums.agg
  go_wp2_with fail
  have hW := laidPlan_kp W1 w.heap.size q (.slice A rs.length c) (.slice B vs.length d)
  have hb2 := laidPlan_blk (q := q) (r := .slice A rs.length c) (v := .slice B vs.length d) (p := p) (r' := .slice A1 rules.length c1) (v' := .slice A2 vls.length c2) hb1
  have hA2 := hA.kp hW (fun b o e h => by have := hfA b o e; omega)
  have hB2 := hB.kp hW (fun b o e h => by have := hfB b o e; omega)
  have hw2 : Below w.heap.size w (laidPlan W1 w.heap.size q (.slice A rs.length c) (.slice B vs.length d)) := (((Kp.of_below (S := fun _ => False) hz).trans (Kp.of_below (S := fun _ => False) hBw) (fun _ _ h => h)).trans hW (fun k hk (e : k = _) => by omega)).toBelow
  unfold laidPlan at hW hb2 hA2 hB2 hw2
  clear t0 t1 t2 t3 t4 t5 t6 t7 t8 t9 p0 p1 p2 p3 p4 p5 p6 p7 p8 p9 hW hA hB hfA hfB hBw hb1 hb hz hfx hz1
  generalize (World.setCell (World.setCell (World.setCell (World.setCell (World.setCell (World.setCell (World.setCell (World.setCell (World.setCell (World.setCell W1 _ _) _ _) _ _) _ _) _ _) _ _) _ _) _ _) _ _) _ _) = W2 at hb2 hA2 hB2 hw2 ⊢
  have hpb : w.heap.size < W2.heap.size := hb2.lt
  have hmk := make19f_calls W2 q A B rs vs c d hg hn hr' hv' hri hvl hA2 hB2
  unfold Nums.agg at hmk
  refine hmk.mono ?_
  rintro e W3 ⟨F, s, rfl, hN⟩
  have hp2 := hg.ports.1
  obtain ⟨rfl, rfl, rfl⟩ : q = F.p ∧ rs = F.rs ∧ vs = F.vs := ⟨hN.ep.symm, hN.ers.symm, hN.evs.symm⟩
  have hb3 := hb2.below hN.below
  have hw3 := hw2.trans (hN.below.mono hw2.size)
  have hF3 := hN.fab
  have hok := hF3.ok
  have hw0 := hN.ew0
  subst hw0
  have hwbe := hN.ewb
  subst hwbe
  have hwb : w.heap.size ≤ F.wb.heap.size := hw2.size
  have hwb2 : w.heap.size < F.wb.heap.size := hpb
  have hN' := Go.Lib.hid hwb2
  clear hwb2
  have HVL := Go.Lib.hid hN.vl
  have HLK := Go.Lib.hid hN.locks
  have ht := hN.t1
  have hNb := hN.below
  clear hmk hb2 hw2 hN
  go_wp2_with (go_at_call 25; refine (told19_calls _).mono ?_; rintro e W4 ⟨rfl, hB4⟩)
  have hV0 : VRound F W4 s 0 := ⟨hF3.below hB4, HLK.out, by omega⟩
  have hD : ∀ k, k ≤ w.heap.size → ¬ F.D k := fun k hk e => by
    have := hok.new e
    have := hN'.out
    omega
  have hplan : ∀ {wr : World} {t : MemS}, Fab F wr t F.rg0 → Blk wr w.heap.size (F.p.cells (.slice A F.rs.length c) (.slice B F.vs.length d)) 28 := fun h => by
    exact hb3.kp h.kp (hD _ (Nat.le_refl _))
  have hsets : ∀ {wr : World} {t : MemS}, Fab F wr t F.rg0 → Rd wr As (setCells sets) := fun h => by
    exact h3.kpl (((Kp.of_below (S := F.D) hw3)).trans h.kp (fun _ _ h => h)) (fun b hb => hD b (by omega))
  have hrb : ∀ {wr : World} {t : MemS}, Fab F wr t F.rg0 → Rd wr A (ruleCells F.rs) ∧ Rd wr B (vlCells F.vs) := fun h =>
    ⟨hA2.kpl ((Kp.of_below (S := F.D) hNb).trans h.kp (fun _ _ h => h)) (fun b hb e => by have := hok.new e; omega), hB2.kpl ((Kp.of_below (S := F.D) hNb).trans h.kp (fun _ _ h => h)) (fun b hb e => by have := hok.new e; omega)⟩
  have HRB := Go.Lib.hid (fun wr t => @hrb wr t)
  have HP := Go.Lib.hid (fun wr t => @hplan wr t)
  have HS := Go.Lib.hid (fun wr t => @hsets wr t)
  go_loopg [6] 12 (fun gd i wr => ∃ (k : Nat) (t : MemS), k + gd = 12 ∧ i = .int .i64 k ∧ VRound F wr t k)
  case atStart => exact ⟨0, s, by omega, rfl, hV0⟩
  case round =>
    obtain ⟨k, t, hk, rfl, hV⟩ := hrel
    clear hV0 hB4 hplan hsets hb3 hrb hA2 hB2 hNb
    have hpl := HP.out wr t hV.fab
    have p2 := hpl.get 2 rfl
    by_cases hlt : k < sets.length ∧ k < 12 ∧ 0 < F.vs.length
    · obtain ⟨hlt1, hlt2, hlt3⟩ := hlt
      have l1 : (k : Int) < (sets.length : Int) := by omega
      have l2 : (k : Int) < 12 := by omega
      have l3 : (0 : Int) < (F.vs.length : Int) := by omega
      have HV := Go.Lib.hid hV
      have HK := Go.Lib.hid hk
      clear hV hk
      have hvl8 := hok.nvl
      obtain ⟨j, hj⟩ : ∃ j, k % F.vs.length = j := ⟨_, rfl⟩
      have hjlt : j < F.vs.length := by rw [← hj]; exact Nat.mod_lt _ hlt3
      have hm1 : (k : Int).tmod (F.vs.length : Int) = (j : Int) := by rw [← hj, Int.tmod_eq_emod_of_nonneg (by omega)]; exact (Int.natCast_emod _ _).symm
      have hm2 : (k : Int) % (F.vs.length : Int) = (j : Int) := by rw [← hj]; exact (Int.natCast_emod _ _).symm
      have hm3 : (j : Int) < (F.vs.length : Int) := by omega
      have hm4 : wrap64 (j : Int) = (j : Int) := IntWalk.wrap64_in _ (by omega)
      obtain ⟨v, hv⟩ := get_of_lt hjlt
      obtain ⟨k1, k2, k3⟩ := vlCells_get F.vs _ v hv
      have hBr := (HRB.out wr t HV.out.fab).2
      obtain ⟨ba, oa, rfl, m1⟩ := hBr.out _ _ k1
      clear hj k1 k2 k3 hBr hpl
      go_wp2_with fail
      go_quiet (fail)
      generalize hW5 : World.drewN wr _ = W5
      have hF5 : Fab F W5 t F.rg0 := hW5 ▸ HV.out.fab.drewN _
      obtain ⟨x, hx⟩ := get_of_lt hlt1
      obtain ⟨y1, y2⟩ := setCells_get sets k x hx
      have hxu := hsu x (List.mem_of_getElem? hx)
      have hsr := HS.out W5 t hF5
      obtain ⟨bs, os, hAs, z1⟩ := hsr.out _ _ y1
      obtain ⟨bs', os', hAs', z2⟩ := hsr.out _ _ y2
      rw [hAs] at hAs'
      obtain ⟨rfl, rfl⟩ : bs' = bs ∧ os' = os := by
        injection hAs' with h
        injection h with h3 h4
        exact ⟨h3.symm, h4.symm⟩
      rw [← Nat.add_assoc] at z2
      subst hAs
      have HVT := Go.Lib.hid (And.intro HV.out.locks HV.out.time)
      have HX := Go.Lib.hid (And.intro hx hxu)
      have HVV := Go.Lib.hid hv
      clear hW5 hm1 hm2 hm3 hm4 m1 p2 y1 y2 hx hxu hsr hAs' hv HV
      have hop := fun W => op17_calls W ⟨9, 0, 0, v.vid, 0, 0, 0, (x.1 : Int), (x.2 : Int), 0, 0, 0, 0, 0⟩
      unfold OpS.agg at hop
      have hF5' := hF5.drew
      have HF5 := Go.Lib.hid hF5'
      have kA := drewFacts2 z1 z2
      clear hF5 hF5' z1 z2
      go_wp2_with fail
      go_region_held3 (fun W => W.cell? ⟨bs', os' + k * 2, none⟩ = some (.int .u64 (x.1 : Int)) ∧ W.cell? ⟨bs', os' + k * 2 + 1, none⟩ = some (.int .u64 (x.2 : Int)))
        (first | with_reducible exact kA | with_reducible exact kB | with_reducible exact kC)
        (first
          | (go_at_call 29; refine (hop _).mono ?_; rintro e1 W6 ⟨rfl, hB6⟩; have hF6 := HF5.out.below hB6; have kB := belowFacts2 hB6 kA; have hcm := command_vlan_calls hF6 2 ⟨9, 0, 0, v.vid, 0, 0, 0, (x.1 : Int), (x.2 : Int), 0, 0, 0, 0, 0⟩ (by omega) rfl j v HVV.out rfl; unfold OpS.agg at hcm)
          | (go_at_call 28; refine hcm.mono ?_; rintro e2 W7 ⟨b, lg, lk, rfl, hA7, hF7, hB7⟩; have kC := belowFacts2 hB7 kB))
      obtain ⟨p0, p1, p2, p3, p4, p5, p6, p7, p8, p9⟩ := plan_cells (HP.out W7 t hF7)
      have hbn := bound19_calls W7 F.p A (some ⟨ba, oa, none⟩) F.rs F.vs c d hg hn hr' hv' hri hvl (HRB.out W7 t hF7).1 (HRB.out W7 t hF7).2
      obtain ⟨BN, hBN⟩ : ∃ BN : Nat, bound19 F.p = (BN : Int) := ⟨(bound19 F.p).toNat, by have := (bound19_bd F.p hg).1; omega⟩
      have hbd := bound19_bd F.p hg
      rw [hBN] at hbn hbd
      unfold Nums.agg at hbn
      have HBN := Go.Lib.hid hBN
      have HKC := Go.Lib.hid kC
      clear hBN kA kB kC hB6 hF6 hcm hop
      go_wp2_with (go_at_call 30; refine hbn.mono ?_; rintro e3 W8 ⟨rfl, hB8⟩)
      have hA8 := hA7.below hB8
      have hF8 := hF7.below hB8
      obtain ⟨hlk, htm⟩ := HVT.out
      obtain ⟨hxk, hx1, hx2⟩ := HX.out
      obtain ⟨P, hP⟩ : ∃ P : Nat, F.p.ports = (P : Int) := ⟨F.p.ports.toNat, by omega⟩
      have HHP := Go.Lib.hid hP
      have hnl := hF8.nlocks
      have hnc := hF8.ncells
      have hsh := hg.sh
      have hpp := hg.ports
      have hfin := setvlan_calls (b := b) ⟨hA8, hF8, CStep.refl _ _ _ _⟩ (by omega) P hP rfl rfl (by show upto F.p.ports.toNat = _; rw [hP]; rfl) rfl j v HVV.out rfl x.1 x.2 rfl rfl hx1 hx2 (by show (0 : Int) ≤ 2; omega) rfl _ rfl (fun i hi => hlk i (by omega)) BN (by omega) (by omega)
      refine hfin.mono ?_
      rintro e4 W9 ⟨rfl, mk, dn, hat⟩
      have hans := canswer_calls hat.act rfl _ [] rfl
      have hF9 := hat.fab
      have hv0 : (vset F t.cells j x.1 x.2)[(F.p.ports + 2 * (j : Int)).toNat]? = some ((x.1 &&& (pw F.p.ports.toNat - 1) : Nat) : Int) := by
        unfold vset
        rw [List.getElem?_set_self (by simp; omega)]
      have hv1 : (vset F t.cells j x.1 x.2)[(F.p.ports + 2 * (j : Int) + 1).toNat]? = some ((x.2 &&& (x.1 &&& (pw F.p.ports.toNat - 1)) : Nat) : Int) := by
        unfold vset
        rw [List.getElem?_set_ne (by omega), List.getElem?_set_self (by omega)]
      have hmb := fmembers_calls hF9 (by show t.time + (2 * (P : Int) + 2) < 4611686018427387904; omega) v.vid j v HVV.out rfl _ hv0
      have hPb : (P : Int) ≤ 8 := by omega
      have hms : t.time + (2 * (P : Int) + 2) + 1 < 4611686018427387904 := by omega
      have HF9 := Go.Lib.hid hF9
      clear hP hF9 hfin hbn hB8 hA8 hF8 hA7 hF7 hB7 hlk hxk p0 p1 p2 p3 p4 p5 p6 p7 p8 p9 hat
      go_wp2_with (first
        | (go_at_call 36; refine hans.mono ?_; rintro e5 w5 ⟨rfl, rfl⟩))
      refine hmb.mono ?_
      rintro e6 WA ⟨rfl, hFA, hKA⟩
      have hun := funtagged_calls hFA hms v.vid j v HVV.out rfl _ hv1
      clear hmb hans hKA hFA
      go_wp2_with fail
      refine hun.mono ?_
      rintro e7 WB ⟨rfl, hFB, hKB⟩
      have HFB := Go.Lib.hid hFB
      clear hun hFB hKB
      go_wp2_with fail
      obtain ⟨hxk, hx1, hx2⟩ := HX.out
      obtain ⟨y1, y2⟩ := setCells_get sets k x hxk
      have hsr := HS.out WB _ HFB.out
      obtain ⟨b9, o9, hc9, z1⟩ := hsr.out _ _ y1
      cases hc9
      obtain ⟨b9, o9, hc9, z2⟩ := hsr.out _ _ y2
      cases hc9
      rw [← Nat.add_assoc] at z2
      have pc0 : WB.cell? ⟨w.heap.size, 0, none⟩ = some (.int .i64 F.p.ports) := (HP.out WB _ HFB.out).get 0 rfl
      have hand1 : U64 (x.1 &&& (pw F.p.ports.toNat - 1)) := Nat.lt_of_le_of_lt Nat.and_le_left hx1
      have hand2 : U64 (x.2 &&& (x.1 &&& (pw F.p.ports.toNat - 1))) := Nat.lt_of_le_of_lt Nat.and_le_left hx2
      have G1 := Go.Lib.hid hx1
      have G2 := Go.Lib.hid hx2
      have G3 := Go.Lib.hid hand1
      have G4 := Go.Lib.hid hand2
      have i1 := fun q => inS_and x.1 (pw F.p.ports.toNat - 1) q
      have i2 := fun q => inS_and x.2 (x.1 &&& (pw F.p.ports.toNat - 1)) q
      have I1 := Go.Lib.hid (fun q => show inS (x.1 &&& (pw F.p.ports.toNat - 1)) q = (inS x.1 q && decide (q < F.p.ports.toNat)) by rw [inS_and, inS_all])
      have I2 := Go.Lib.hid (fun q => show inS (x.2 &&& (x.1 &&& (pw F.p.ports.toNat - 1))) q = (inS x.2 q && (inS x.1 q && decide (q < F.p.ports.toNat))) by rw [inS_and, inS_and, inS_all])
      generalize hg1 : x.1 &&& (pw F.p.ports.toNat - 1) = m1 at G3 G4 I1 I2 ⊢
      generalize hg2 : x.2 &&& m1 = m2 at G4 I2 ⊢
      clear hg1 hg2 i1 i2 hand1 hand2 hx1 hx2 hxk y1 y2 hsr hv0 hv1 htm hnl hnc hsh hpp hbd hms
      have hp0 : 0 ≤ F.p.ports := by omega
      go_loop [11] (fun i => ∃ q : Nat, q ≤ 64 ∧ i = .int .i64 q) (fun i => 64 - (intOf i).toNat)
      case atStart => exact ⟨0, by omega, rfl⟩
      case round =>
        obtain ⟨qq, hq, rfl⟩ := hrel
        by_cases hql : qq < 64
        · have hq1 : (qq : Int) < 64 := by omega
          have C1 := fun W => has_calls W x.1 qq G1.out hql
          have C2 := fun W => has_calls W x.2 qq G2.out hql
          have C3 := fun W => has_calls W m1 qq G3.out hql
          have C4 := fun W => has_calls W m2 qq G4.out hql
          have e1 := I1.out qq
          have e2 := I2.out qq
          by_cases hqP : qq < F.p.ports.toNat
          · have hqP1 : (qq : Int) < F.p.ports := by omega
            rw [decide_eq_true hqP, Bool.and_true] at e1 e2
            cases ha : inS x.1 qq <;> cases hb : inS x.2 qq
            all_goals
              rw [ha, hb] at e2
              rw [ha] at e1
              rw [ha] at C1
              rw [hb] at C2
              rw [e1] at C3
              rw [e2] at C4
              simp only [Bool.and_true, Bool.and_false, Bool.true_and, Bool.false_and] at C4
              clear ha hb e1 e2 hqP
              go_wp2_with (first
                | (go_at_call_of 39 (Value.int .u64 (x.1 : Int)); refine (C1 _).mono ?_; rintro e w' ⟨rfl, rfl⟩)
                | (go_at_call_of 39 (Value.int .u64 (x.2 : Int)); refine (C2 _).mono ?_; rintro e w' ⟨rfl, rfl⟩)
                | (go_at_call_of 39 (Value.int .u64 (m1 : Int)); refine (C3 _).mono ?_; rintro e w' ⟨rfl, rfl⟩)
                | (go_at_call_of 39 (Value.int .u64 (m2 : Int)); refine (C4 _).mono ?_; rintro e w' ⟨rfl, rfl⟩))
              go_round
              case rel => exact ⟨qq + 1, by omega, by go_num⟩
              case measure => simp [intOf]; omega
          · have hqP1 : F.p.ports ≤ (qq : Int) := by omega
            rw [decide_eq_false hqP, Bool.and_false] at e1 e2
            rw [Bool.and_false] at e2
            rw [e1] at C3
            rw [e2] at C4
            clear e1 e2 hqP
            go_wp2_with (first
              | (go_at_call_of 39 (Value.int .u64 (m1 : Int)); refine (C3 _).mono ?_; rintro e w' ⟨rfl, rfl⟩)
              | (go_at_call_of 39 (Value.int .u64 (m2 : Int)); refine (C4 _).mono ?_; rintro e w' ⟨rfl, rfl⟩))
            go_round
            case rel => exact ⟨qq + 1, by omega, by go_num⟩
            case measure => simp [intOf]; omega
        · obtain rfl : qq = 64 := by omega
          have hP3 := HHP.out
          have hv := HVT.out
          have hfin : VRound F WB _ (k + 1) := ⟨HFB.out, hv.1, by show t.time + (2 * (P : Int) + 2) + 1 + 1 ≤ 1000 + 1000 * ((k + 1 : Nat) : Int); have := hv.2; omega⟩
          have HFIN := Go.Lib.hid hfin
          clear hfin hv hP3 hql hq
          go_wp2_with fail
          go_roundg (gk - 1)
          case measure => have := HK.out; omega
          case rel => exact ⟨k + 1, _, by have := HK.out; omega, by go_num, HFIN.out⟩
    · have hend : Below w.heap.size w wr := ((Kp.of_below (S := fun _ => False) hw3).trans hV.fab.kp (fun b hb e => hD b (by omega) e)).toBelow
      have HE := Go.Lib.hid hend
      clear hend hV hpl
      by_cases g1 : k < sets.length
      · have l1 : (k : Int) < (sets.length : Int) := by omega
        by_cases g2 : k < 12
        · have l2 : (k : Int) < 12 := by omega
          have l3 : (F.vs.length : Int) ≤ 0 := by omega
          have l4 : F.vs.length = 0 := by omega
          clear hlt g1 g2 l3
          go_wp2_with fail
          go_ret
          exact ⟨rfl, HE.out⟩
        · have l2 : (12 : Int) ≤ (k : Int) := by omega
          clear hlt g1 g2
          go_wp2_with fail
          go_ret
          exact ⟨rfl, HE.out⟩
      · have l1 : (sets.length : Int) ≤ (k : Int) := by omega
        clear hlt g1
        go_wp2_with fail
        go_ret
        exact ⟨rfl, HE.out⟩
end Go.Proofs.YtcpaodidpomdaaaGreat

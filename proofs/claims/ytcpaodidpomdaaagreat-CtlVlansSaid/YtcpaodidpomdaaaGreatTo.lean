/- The law's plan as the program has it (patchbaylaw03.To, patchbaylaw11.To, patchbaylaw17.To). -/
import Derived.Test.YtcpaodidpomdaaaGreatPlan
import Derived.Deep.LoopGhost
import Derived.Deep.CutRange
import Derived.StillTailTactics
import Derived.Deep.RegionLaw
set_option linter.unusedVariables false
set_option linter.unusedSimpArgs false
namespace Go.Proofs.YtcpaodidpomdaaaGreat
open Go.RowKit

theorem info_prule2 : (Tryz.prog.info? 187).map (fun i => (i.zero.map (·.cells.size), i.size, i.bytes)) = some (some 2, 2, 16) := by kernel_rfl
theorem info_pvlan2 : (Tryz.prog.info? 182).map (fun i => (i.zero.map (·.cells.size), i.size, i.bytes)) = some (some 3, 3, 24) := by kernel_rfl

theorem vlCells_take (l : List Vl) (k : Nat) (v : Vl) (h : l[k]? = some v) : vlCells (l.take (k + 1)) = vlCells (l.take k) ++ [.int .i64 v.vid, .int .u64 (v.mem : Int), .int .u64 (v.unt : Int)] := by
  rw [List.take_add_one, h]
  exact vlCells_snoc _ _
theorem ruleCells_take (l : List Rule) (k : Nat) (v : Rule) (h : l[k]? = some v) : ruleCells (l.take (k + 1)) = ruleCells (l.take k) ++ [.int .i64 v.pvid, .int .i64 v.accept] := by
  rw [List.take_add_one, h]
  exact ruleCells_snoc _ _

set_option maxRecDepth 100000 in
set_option maxHeartbeats 1000000 in
theorem vto_calls (w : World) (A : Option Addr) (vs : List Vl) (c : Nat) (hR : Rd w A (vlCells vs)) (hlen : vs.length ≤ 1000) :
    Calls Tryz.prog 104 #[.slice A vs.length c] w fun e w' => ∃ A' c', e = .returned (.slice A' vs.length c') ∧ Own w' w.heap.size 182 3 (.slice A' vs.length c') vs.length (vlCells vs) ∧ Below w.heap.size w w' := by
  have H0 := Below.refl w.heap.size w
  go_enter Tryz.func104, Tryz.ntmps104
  go_wp2_with fail
  go_loopg [3, 4] vs.length (fun d s3 i wr => ∃ (k : Nat) (v : Value), k + d = vs.length ∧ i = .int .i64 k ∧ v = s3 ∧ Own wr w.heap.size 182 3 v k (vlCells (vs.take k)) ∧ Below w.heap.size w wr)
  case atStart => exact ⟨0, _, by omega, rfl, rfl, Own.nil _ _ _ _, H0⟩
  case round =>
    obtain ⟨k, v, hk, rfl, rfl, hO, hB⟩ := hrel
    by_cases hlt : k < vs.length
    · obtain ⟨x, hx⟩ := get_of_lt hlt
      obtain ⟨k1, k2, k3⟩ := vlCells_get vs _ x hx
      obtain ⟨ba, oa, hA1, m1⟩ := hR.out _ _ k1
      obtain ⟨ba', oa', hA2, m2⟩ := hR.out _ _ k2
      obtain ⟨ba'', oa'', hA3, m3⟩ := hR.out _ _ k3
      rw [hA1] at hA2 hA3
      obtain ⟨rfl, rfl⟩ : ba' = ba ∧ oa' = oa := by
        injection hA2 with h
        injection h with h3 h4
        exact ⟨h3.symm, h4.symm⟩
      obtain ⟨rfl, rfl⟩ : ba'' = ba' ∧ oa'' = oa' := by
        injection hA3 with h
        injection h with h3 h4
        exact ⟨h3.symm, h4.symm⟩
      subst hA1
      rw [← Nat.add_assoc] at m2 m3
      have lt0 : ba'' < w.heap.size := World.block_lt_of_cell? w _ m1
      have hz := hB.size
      have lt1 : ba'' < wr.heap.size := by omega
      have M1 : wr.cell? ⟨ba'', oa'' + k * 3, none⟩ = some (.int .i64 x.vid) := (hB.cell (p := ⟨ba'', oa'' + k * 3, none⟩) lt0).trans m1
      have M2 : wr.cell? ⟨ba'', oa'' + k * 3 + 1, none⟩ = some (.int .u64 (x.mem : Int)) := (hB.cell (p := ⟨ba'', oa'' + k * 3 + 1, none⟩) lt0).trans m2
      have M3 : wr.cell? ⟨ba'', oa'' + k * 3 + 2, none⟩ = some (.int .u64 (x.unt : Int)) := (hB.cell (p := ⟨ba'', oa'' + k * 3 + 2, none⟩) lt0).trans m3
      have lk : (k : Int) < (vs.length : Int) := by omega
      have l0 : (0 : Int) ≤ (k : Int) := by omega
      have HK := Go.Lib.hid hk
      have HB := Go.Lib.hid hB
      have HT := Go.Lib.hid (vlCells_take vs k x hx)
      have hg : 0 < gk := by omega
      clear hk hA2 hA3 k1 k2 k3 hx m1 m2 m3
      have HNE : ¬ v.ownBlock = some ba'' := fun hb => by have := (hO.lt hb).1; omega
      have hsz := hB.size
      go_wp2_with fail
      go_region_held3 (fun w' => w'.cell? ⟨ba'', oa'' + k * 3, none⟩ = some (.int .i64 x.vid) ∧ w'.cell? ⟨ba'', oa'' + k * 3 + 1, none⟩ = some (.int .u64 (x.mem : Int)) ∧ w'.cell? ⟨ba'', oa'' + k * 3 + 2, none⟩ = some (.int .u64 (x.unt : Int)))
        (first | go_keep | (exact ⟨hKp.cell M1 HNE, hKp.cell M2 HNE, hKp.cell M3 HNE⟩))
        (first | (refine own_step (by rfl) _ _ 104 182 w.heap.size 3 24 k (by rfl) Tryz.underlying104 info_pvlan2 (by decide) v (vlCells (vs.take k)) [.int .i64 x.vid, .int .u64 (x.mem : Int), .int .u64 (x.unt : Int)] (by rfl) (by rfl) (by rfl) (by simp [Value.oneCell']) hO (by omega) (by unfold maxLen; omega) (by omega) ?_; intro g cap w1 hown hKp hat hlt1))
      have hfin : Own w1 w.heap.size 182 3 (.slice (some ⟨g, 0, none⟩) (k + 1) cap) (k + 1) (vlCells (vs.take (k + 1))) := by rw [HT.out]; exact hown
      have hB2 := ((Kp.of_below (S := fun _ => False) HB.out).trans hKp (fun b hlt hs => by have := (hO.lt hs).1; omega)).toBelow
      have HF := Go.Lib.hid hfin
      have HB2 := Go.Lib.hid hB2
      clear hfin hown hB2 hKp hO hB M1 M2 M3
      go_wp2_with fail
      go_roundg (gk - 1)
      case measure => omega
      case rel => exact ⟨k + 1, _, by have := HK.out; omega, by simp, rfl, HF.out, HB2.out⟩
    · obtain rfl : k = vs.length := by omega
      have hge : (vs.length : Int) ≤ (vs.length : Int) := Int.le_refl _
      rw [List.take_length] at hO
      clear hlt hk
      obtain ⟨Av, cv, rfl, _⟩ := hO.slice
      go_wp2_with fail
      go_ret
      exact ⟨Av, cv, rfl, hO, hB⟩

theorem sto_calls (w : World) (a b c : Int) :
    Calls Tryz.prog 105 #[.agg #[.int .i64 a, .int .i64 b, .int .i64 c]] w fun e w' => e = .returned (.agg #[.int .i64 a, .int .i64 b, .int .i64 c]) ∧
      (w.alloc (.cells #[.int .i64 a, .int .i64 b, .int .i64 c] 25)).alloc (.cells #[.int .i64 a, .int .i64 b, .int .i64 c] 105) = w' := by
  go_enter Tryz.func105, Tryz.ntmps105
  go_wp2
  exact bodyPost_ret (v := .agg #[.int .i64 a, .int .i64 b, .int .i64 c]) (by simp [results, Tryz.results105, go_sem]) rfl ⟨rfl, rfl⟩

/-- Behind the first statement of To. -/
structure ToA (w wx : World) (p : Nums) (r v : Value) (vs : List Vl) (o : Nat) : Prop where
  b0 : Blk wx w.heap.size (p.cells r v) 28
  b1 : Blk wx (w.heap.size + 1) ((⟨0, 0, 0, 0, 0, 0, 0, 0⟩ : Nums).cells (.slice none 0 0) (.slice none 0 0)) 107
  bo : ∃ u, Blk wx o (p.cells (.slice none 0 0) u) 107 ∧ Own wx w.heap.size 182 3 u vs.length (vlCells vs)
  ho : w.heap.size + 1 < o
  hB : Below w.heap.size w wx

structure ToW (w wx : World) (p : Nums) (r v u : Value) (vs : List Vl) : Prop where
  b0 : Blk wx w.heap.size (p.cells r v) 28
  b1 : Blk wx (w.heap.size + 1) ((⟨0, 0, 0, 0, 0, 0, 0, 0⟩ : Nums).cells (.slice none 0 0) (.slice none 0 0)) 107
  own : Own wx w.heap.size 182 3 u vs.length (vlCells vs)
  hB : Below w.heap.size w wx
section
variable {w wx : World} {p : Nums} {r v u : Value} {vs : List Vl} {o : Nat}
theorem ToW.alloc (h : ToW w wx p r v u vs) (x : Obj) : ToW w (wx.alloc x) p r v u vs :=
  ⟨h.b0.alloc x, h.b1.alloc x, h.own.alloc x, h.hB.alloc h.hB.size x⟩
theorem ToW.laid (h : ToW w wx p r v u vs) (ho : w.heap.size + 1 < o) (hu : u.ownBlock ≠ some o) (q : Nums) (r' v' : Value) : ToW w (laidPlan wx o q r' v') p r v u vs :=
  have k := laidPlan_kp wx o q r' v'
  ⟨h.b0.kp k (by omega), h.b1.kp k (by omega), h.own.kp k (fun b hb e => hu (e ▸ hb)), ((Kp.of_below (S := fun _ => False) h.hB).trans k (fun b hlt e => by omega)).toBelow⟩
theorem ToW.fin (h : ToW w wx p r v u vs) (ho : w.heap.size + 1 < o) (bo : Blk wx o (p.cells (.slice none 0 0) u) 107) : ToA w wx p r v vs o := ⟨h.b0, h.b1, ⟨u, bo, h.own⟩, ho, h.hB⟩
end
theorem toS {w : World} {b : Nat} {p : Nums} {r v : Value} {T : TypeId} (h : Blk w b (p.cells r v) T) :
    w.cell? ⟨b, 0, none⟩ = some (.int .i64 p.ports) ∧ w.cell? ⟨b, 2, none⟩ = some v ∧ w.cell? ⟨b, 3, none⟩ = some (.int .i64 p.sh) ∧ w.cell? ⟨b, 4, none⟩ = some (.int .i64 p.bu) ∧ w.cell? ⟨b, 5, none⟩ = some (.int .i64 p.sl) ∧ w.cell? ⟨b, 6, none⟩ = some (.int .i64 p.tries) ∧ w.cell? ⟨b, 7, none⟩ = some (.int .i64 p.ring) ∧ w.cell? ⟨b, 8, none⟩ = some (.int .u32 p.normal) ∧ w.cell? ⟨b, 9, none⟩ = some (.int .u32 p.short) :=
  ⟨h.get 0 rfl, h.get 2 rfl, h.get 3 rfl, h.get 4 rfl, h.get 5 rfl, h.get 6 rfl, h.get 7 rfl, h.get 8 rfl, h.get 9 rfl⟩
theorem bcell {W w1 : World} (hb : Below W.heap.size W w1) : (∀ b o, b < W.heap.size → w1.cell? ⟨b, o, none⟩ = W.cell? ⟨b, o, none⟩) ∧ (∀ b o, b < W.heap.size → w1.frozen? ⟨b, o, none⟩ = W.frozen? ⟨b, o, none⟩) :=
  ⟨fun b o h => hb.cell (p := ⟨b, o, none⟩) h, fun b o h => hb.frozen (p := ⟨b, o, none⟩) h⟩

/-- In To's loop. -/
structure ToL (w wr : World) (p : Nums) (r v : Value) (vs : List Vl) (o : Nat) (xs : List Rule) (vR u : Value) : Prop where
  b0 : Blk wr w.heap.size (p.cells r v) 28
  b1 : Blk wr (w.heap.size + 1) ((⟨0, 0, 0, 0, 0, 0, 0, 0⟩ : Nums).cells (.slice none 0 0) (.slice none 0 0)) 107
  bo : Blk wr o (p.cells vR u) 107
  own : Own wr w.heap.size 187 2 vR xs.length (ruleCells xs)
  ownV : Own wr w.heap.size 182 3 u vs.length (vlCells vs)
  hB : Below w.heap.size w wr
def ToPost (w : World) (p : Nums) (rs : List Rule) (vs : List Vl) (e : Ending) (w' : World) : Prop := ∃ (A B : Option Addr) (c d : Nat), e = .returned (p.agg (.slice A rs.length c) (.slice B vs.length d)) ∧
  Own w' w.heap.size 187 2 (.slice A rs.length c) rs.length (ruleCells rs) ∧ Own w' w.heap.size 182 3 (.slice B vs.length d) vs.length (vlCells vs) ∧ Below w.heap.size w w'

set_option maxRecDepth 100000 in
set_option maxHeartbeats 4000000 in
theorem to_calls (w : World) (p : Nums) (A B : Option Addr) (rs : List Rule) (vs : List Vl) (c d : Nat) (hA : Rd w A (ruleCells rs)) (hB : Rd w B (vlCells vs)) (hr : rs.length ≤ 1000) (hv : vs.length ≤ 1000) :
    Calls Tryz.prog 51 #[p.agg (.slice A rs.length c) (.slice B vs.length d)] w (ToPost w p rs vs) := by
  unfold Nums.agg
  go_enter Tryz.func51, Tryz.ntmps51
  go_upto_region 1 with fail
  go_cut [3] (fun s3 wx => ∃ o, s3 = ptr o ∧ ToA w wx p (.slice A rs.length c) (.slice B vs.length d) vs o)
  case first =>
    have b0 := ((Blk.new w (p.cells (.slice A rs.length c) (.slice B vs.length d)) 28).alloc (.cells ((⟨0, 0, 0, 0, 0, 0, 0, 0⟩ : Nums).cells (.slice none 0 0) (.slice none 0 0)).toArray 107))
    have b1 := (Blk.new' (w.alloc (.cells (p.cells (.slice A rs.length c) (.slice B vs.length d)).toArray 28)) ((⟨0, 0, 0, 0, 0, 0, 0, 0⟩ : Nums).cells (.slice none 0 0) (.slice none 0 0)) 107 (b := w.heap.size + 1) (by simp))
    have hK := ((Kp.refl w (fun _ => False)).alloc (.cells (p.cells (.slice A rs.length c) (.slice B vs.length d)).toArray 28)).alloc (.cells ((⟨0, 0, 0, 0, 0, 0, 0, 0⟩ : Nums).cells (.slice none 0 0) (.slice none 0 0)).toArray 107)
    have hz : (((w.alloc (.cells (p.cells (.slice A rs.length c) (.slice B vs.length d)).toArray 28)).alloc (.cells ((⟨0, 0, 0, 0, 0, 0, 0, 0⟩ : Nums).cells (.slice none 0 0) (.slice none 0 0)).toArray 107))).heap.size = w.heap.size + 1 + 1 := by simp
    have hR := hB.kp hK (fun _ _ _ h => h)
    simp only [Nums.cells] at b0 b1 hK hz hR
    generalize ((w.alloc _).alloc _) = W at b0 b1 hK hz hR ⊢
    obtain ⟨b, hb⟩ : ∃ b, w.heap.size = b := ⟨_, rfl⟩
    rw [hb] at b0 b1 hz ⊢
    have b0' : Blk W b (p.cells (.slice A rs.length c) (.slice B vs.length d)) 28 := b0
    have n0 : b < W.heap.size := by omega
    have nb : b ≠ W.heap.size := by omega
    have HZ := Go.Lib.hid hz
    have HB := Go.Lib.hid hb
    clear hz hb
    go_region_held3 (fun w' => w'.cell? ⟨b, 0, none⟩ = some (.int .i64 p.ports) ∧ w'.cell? ⟨b, 2, none⟩ = some (.slice B vs.length d) ∧ w'.cell? ⟨b, 3, none⟩ = some (.int .i64 p.sh) ∧ w'.cell? ⟨b, 4, none⟩ = some (.int .i64 p.bu) ∧ w'.cell? ⟨b, 5, none⟩ = some (.int .i64 p.sl) ∧ w'.cell? ⟨b, 6, none⟩ = some (.int .i64 p.tries) ∧ w'.cell? ⟨b, 7, none⟩ = some (.int .i64 p.ring) ∧ w'.cell? ⟨b, 8, none⟩ = some (.int .u32 p.normal) ∧ w'.cell? ⟨b, 9, none⟩ = some (.int .u32 p.short))
      ((refine toS (p := p) (r := .slice A rs.length c) (v := .slice B vs.length d) (T := 28) ?_; (repeat (first | with_reducible exact b0' | with_reducible assumption | with_reducible apply Blk.drew | with_reducible apply Blk.alloc | (with_reducible refine Blk.far ?_ ?_ _))); all_goals (exact nb)))
      (first
        | (go_at_call 105; refine (sto_calls _ p.sh p.bu p.sl).mono ?_; rintro e w1 ⟨rfl, rfl⟩)
        | (go_at_call 104; refine (vto_calls _ B vs d ?_ hv).mono ?_; (focus (refine Rd.below hR ?_; repeat (first | with_reducible exact Below.refl _ _ | with_reducible apply Below.drew | (with_reducible refine Below.alloc ?_ (by first | omega | (simp; done) | (simp; omega)) _)))); rintro e w1 ⟨Au, cu, rfl, hO1, hB1⟩; have b2 : Blk w1 b (p.cells (.slice A rs.length c) (.slice B vs.length d)) 28 := (by refine Blk.below ?_ hB1; repeat (first | with_reducible exact b0' | with_reducible apply Blk.drew | with_reducible apply Blk.alloc)); have lt2 := hB1.size; (try simp only [World.size_alloc, World.size_drew] at lt2); (try (have lt3 : W.heap.size < w1.heap.size := by omega)); (try (have lt4 : W.heap.size + 1 < w1.heap.size := by omega)); (try (have lt5 : W.heap.size + 1 + 1 < w1.heap.size := by omega));  obtain ⟨hcc, hff⟩ := bcell hB1))
    all_goals
      have hb := HB.out
      have hz := HZ.out
      clear HB HZ
      subst hb
      go_wp2_with fail
      go_meet
    · have hw : ToW w w1 p (.slice A rs.length c) (.slice B vs.length d) (.slice Au vs.length cu) vs :=
        ⟨b2, Blk.below b1.drew hB1, hO1.mono (by simp; omega), hK.drew.toBelow.trans (hB1.mono (by simp; omega))⟩
      exact ⟨_, rfl, (((hw.alloc _).alloc _).alloc _).fin (by omega) (Blk.new' _ _ _ (by simp))⟩
    · have hw : ToW w w1 p (.slice A rs.length c) (.slice B vs.length d) (.slice Au vs.length cu) vs :=
        ⟨b2, Blk.below b1.drew hB1, hO1.mono (by simp; omega), hK.drew.toBelow.trans (hB1.mono (by simp; omega))⟩
      exact ⟨_, rfl, (((hw.alloc _).alloc _).alloc _).fin (by omega) (((Blk.new w1 (p.cells (.slice none 0 0) (.slice Au vs.length cu)) _).alloc _).alloc _)⟩
    · have hw : ToW w w1 p (.slice A rs.length c) (.slice B vs.length d) (.slice Au vs.length cu) vs :=
        ⟨b2, Blk.below (b1.alloc _).drew hB1, hO1.mono (by simp; omega), (hK.alloc _).drew.toBelow.trans (hB1.mono (by simp; omega))⟩
      have hbo : Blk w1 W.heap.size ((⟨0, 0, 0, 0, 0, 0, 0, 0⟩ : Nums).cells (.slice none 0 0) (.slice none 0 0)) 107 := Blk.below (Blk.new W _ _).drew hB1
      have hu : (Value.slice Au vs.length cu).ownBlock ≠ some W.heap.size := fun e => by have := (hO1.lt e).1; simp at this; omega
      exact ⟨_, rfl, (((hw.laid (o := W.heap.size) (by omega) hu p (.slice none 0 0) (.slice Au vs.length cu)).alloc _).alloc _).fin (by omega) (((laidPlan_blk hbo).alloc _).alloc _)⟩
  case rest =>
    obtain ⟨o, rfl, hT⟩ := hcut
    obtain ⟨u, hbo, hou⟩ := hT.bo
    have hho := hT.ho
    have hst : ToL w wc p (.slice A rs.length c) (.slice B vs.length d) vs o [] (.slice none 0 0) u := ⟨hT.b0, hT.b1, hbo, Own.nil _ _ _ _, hou, hT.hB⟩
    have HS := Go.Lib.hid hst
    clear hst hT hbo hou
    go_wp2_with fail
    go_loopg [4] rs.length (fun gd i wr => ∃ (k : Nat) (vR : Value), k + gd = rs.length ∧ i = .int .i64 k ∧ ToL w wr p (.slice A rs.length c) (.slice B vs.length d) vs o (rs.take k) vR u)
    case atStart => exact ⟨0, _, by omega, rfl, HS.out⟩
    case round =>
      obtain ⟨k, vR, hk, rfl, hL⟩ := hrel
      have g1 := hL.b0.get 1 rfl
      have g2 := hL.bo.get 1 rfl
      have f2 := hL.bo.frozen 1
      by_cases hlt : k < rs.length
      · obtain ⟨x, hx⟩ := get_of_lt hlt
        obtain ⟨k1, k2⟩ := ruleCells_get rs _ x hx
        obtain ⟨ba, oa, hA1, m1⟩ := hA.out _ _ k1
        obtain ⟨ba', oa', hA2, m2⟩ := hA.out _ _ k2
        rw [hA1] at hA2
        obtain ⟨rfl, rfl⟩ : ba' = ba ∧ oa' = oa := by
          injection hA2 with h
          injection h with h3 h4
          exact ⟨h3.symm, h4.symm⟩
        subst hA1
        rw [← Nat.add_assoc] at m2
        have lt0 : ba' < w.heap.size := World.block_lt_of_cell? w _ m1
        have hz := hL.hB.size
        have M1 : wr.cell? ⟨ba', oa' + k * 2, none⟩ = some (.int .i64 x.pvid) := (hL.hB.cell (p := ⟨ba', oa' + k * 2, none⟩) lt0).trans m1
        have M2 : wr.cell? ⟨ba', oa' + k * 2 + 1, none⟩ = some (.int .i64 x.accept) := (hL.hB.cell (p := ⟨ba', oa' + k * 2 + 1, none⟩) lt0).trans m2
        have lk : (k : Int) < (rs.length : Int) := by omega
        have l0 : (0 : Int) ≤ (k : Int) := by omega
        have hlen : (rs.take k).length = k := by simp; omega
        have ho := hL.own
        rw [hlen] at ho
        have hob := hL.b0.lt
        have hob2 := hL.bo.lt
        have lt1 : ba' < wr.heap.size := by omega
        have hg : 0 < gk := by omega
        have HNO := Go.Lib.hid (hL.own.ne_blk hL.bo (by decide))
        have HL := Go.Lib.hid hL
        have HK := Go.Lib.hid hk
        have HT := Go.Lib.hid (ruleCells_take rs k x hx)
        clear hL hk hlen m1 m2 k1 k2 hA2 hx HS
        go_wp2_with fail
        go_region_law (refine own_step (by rfl) _ _ 103 187 w.heap.size 2 16 k (by rfl) Tryz.underlying103 info_prule2 (by decide) vR (ruleCells (rs.take k)) [.int .i64 x.pvid, .int .i64 x.accept] (by rfl) (by rfl) (by rfl) (by simp [Value.oneCell']) ho (by omega) (by unfold maxLen; omega) (by omega) ?_; intro g cap w1 hown hKp hat hlt1; have z1 := (HL.out.bo.kp hKp HNO.out).get 1 rfl; have z2 := (HL.out.bo.kp hKp HNO.out).frozen 1)
        all_goals
          have hL := HL.out
          have bo := hL.bo.kp hKp HNO.out
          have z3 : (Value.slice (some ⟨g, 0, none⟩) (k + 1) cap).ownBlock ≠ some o := hown.ne_blk bo (by decide)
          have z4 := hL.ownV.kp hKp (fun b hb => hL.ownV.ne_own hL.own (by decide) hb)
          have z5 : ∀ b, u.ownBlock = some b → b ≠ o := fun b hb e => z4.ne_blk bo (by decide) (e ▸ hb)
          have hl2 : (rs.take (k + 1)).length = k + 1 := by simp; omega
          have hfin : ToL w (w1.setCell ⟨o, 1, none⟩ (.slice (some ⟨g, 0, none⟩) (k + 1) cap)) p (.slice (some ⟨ba', oa', none⟩) rs.length c) (.slice B vs.length d) vs o (rs.take (k + 1)) (.slice (some ⟨g, 0, none⟩) (k + 1) cap) u :=
            ⟨(hL.b0.kp hKp (hL.own.ne_blk hL.b0 (by decide))).far (p := ⟨o, 1, none⟩) (by show w.heap.size ≠ o; omega) _, (hL.b1.kp hKp (hL.own.ne_blk hL.b1 (by decide))).far (p := ⟨o, 1, none⟩) (by show w.heap.size + 1 ≠ o; omega) _, bo.put 1 _ rfl,
              by rw [hl2, HT.out]; exact hown.far z3 _, z4.far (p := ⟨o, 1, none⟩) (fun e => z5 o e rfl) _,
              (((Kp.of_below (S := fun _ => False) hL.hB).trans hKp (fun b hlt hs => by have := (hL.own.lt hs).1; omega)).setCell (p := ⟨o, 1, none⟩) (fun h => by have h : o < w.heap.size := h; omega) _).toBelow⟩
          have HF := Go.Lib.hid hfin
          clear hfin hL bo z3 z4 z5 hl2 hown hKp
          go_wp2_with fail
          go_roundg (gk - 1)
          case measure => omega
          case rel => exact ⟨k + 1, _, by have := HK.out; omega, by simp, HF.out⟩
      · obtain rfl : k = rs.length := by omega
        rw [List.take_length] at hL
        obtain ⟨AR, cR, rfl, _, _, hRR, hRO⟩ := hL.own.slice
        obtain ⟨AV, cV, rfl, _, _, hRV, hVO⟩ := hL.ownV.slice
        obtain ⟨p0, p1, p2, p3, p4, p5, p6, p7, p8, p9⟩ := plan_cells hL.bo
        obtain ⟨r0, r1, r2, r3, r4, r5, r6, r7, r8, r9⟩ := plan_cells hL.b1
        have t0 := hL.b1.frozen 0
        have t1 := hL.b1.frozen 1
        have t2 := hL.b1.frozen 2
        have t3 := hL.b1.frozen 3
        have t4 := hL.b1.frozen 4
        have t5 := hL.b1.frozen 5
        have t6 := hL.b1.frozen 6
        have t7 := hL.b1.frozen 7
        have t8 := hL.b1.frozen 8
        have t9 := hL.b1.frozen 9
        have hW := laidPlan_kp wr (w.heap.size + 1) p (.slice AR rs.length cR) (.slice AV vs.length cV)
        have hWb := laidPlan_blk (q := p) (r := .slice AR rs.length cR) (v := .slice AV vs.length cV) hL.b1
        have hpost : ToPost w p rs vs (.returned (p.agg (.slice AR rs.length cR) (.slice AV vs.length cV))) (laidPlan wr (w.heap.size + 1) p (.slice AR rs.length cR) (.slice AV vs.length cV)) :=
          ⟨AR, AV, cR, cV, rfl,
            hL.own.kp hW (fun b hb e => hL.own.ne_blk hL.b1 (by decide) (e ▸ hb)), hL.ownV.kp hW (fun b hb e => hL.ownV.ne_blk hL.b1 (by decide) (e ▸ hb)),
            ((Kp.of_below (S := fun _ => False) hL.hB).trans hW (fun b hlt hs => by omega)).toBelow⟩
        have HP := Go.Lib.hid hpost
        have HWB := Go.Lib.hid hWb
        clear hpost hWb hW hRR hRO hRV hVO hL HS
        have hge : (rs.length : Int) ≤ (rs.length : Int) := Int.le_refl _
        go_wp2_with fail
        have hcs := plan_cells HWB.out
        have hp := HP.out
        unfold laidPlan at hcs hp
        refine bodyPost_ret (v := p.agg (.slice AR rs.length cR) (.slice AV vs.length cV)) (by simp [results, Tryz.results51, go_sem, Nums.agg, hcs]) rfl hp
end Go.Proofs.YtcpaodidpomdaaaGreat

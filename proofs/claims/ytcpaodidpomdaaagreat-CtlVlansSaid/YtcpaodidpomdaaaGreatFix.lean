/- patchbayref17.Fix: a plan that may be, out of any one. -/
import Derived.Test.YtcpaodidpomdaaaGreatPlan
import Derived.Deep.LoopGhost
import Derived.Deep.CutRange
set_option linter.unusedVariables false
set_option linter.unusedSimpArgs false
namespace Go.Proofs.YtcpaodidpomdaaaGreat
open Go.RowKit

theorem fixS {w : World} {b : Nat} {p : Nums} {r v : Value} {T : TypeId} (h : Blk w b (p.cells r v) T) :
    w.cell? ⟨b, 0, none⟩ = some (.int .i64 p.ports) ∧ w.cell? ⟨b, 3, none⟩ = some (.int .i64 p.sh) ∧ w.cell? ⟨b, 4, none⟩ = some (.int .i64 p.bu) ∧ w.cell? ⟨b, 5, none⟩ = some (.int .i64 p.sl) ∧ w.cell? ⟨b, 6, none⟩ = some (.int .i64 p.tries) ∧ w.cell? ⟨b, 7, none⟩ = some (.int .i64 p.ring) ∧ w.cell? ⟨b, 8, none⟩ = some (.int .u32 p.normal) ∧ w.cell? ⟨b, 9, none⟩ = some (.int .u32 p.short) :=
  ⟨h.get 0 rfl, h.get 3 rfl, h.get 4 rfl, h.get 5 rfl, h.get 6 rfl, h.get 7 rfl, h.get 8 rfl, h.get 9 rfl⟩
/-- Behind the first statement of Fix: the block of 'out', the parameter's, the result's. -/
structure FixA (w wx : World) (p q : Nums) (r v : Value) (o : Nat) : Prop where
  b0 : Blk wx w.heap.size (p.cells r v) 28
  b1 : Blk wx (w.heap.size + 1) ((⟨0, 0, 0, 0, 0, 0, 0, 0⟩ : Nums).cells (.slice none 0 0) (.slice none 0 0)) 28
  bo : Blk wx o (q.cells (.slice none 0 0) (.slice none 0 0)) 28
  ho : w.heap.size + 1 < o
  hB : Below w.heap.size w wx
  good : q.Good

/-- In the loop over the VLANs. -/
structure FixV (w wr : World) (p q : Nums) (r v : Value) (o : Nat) (rs : List Rule) (vR : Value) (vs : List Vl) (vV : Value) : Prop where
  b0 : Blk wr w.heap.size (p.cells r v) 28
  b1 : Blk wr (w.heap.size + 1) ((⟨0, 0, 0, 0, 0, 0, 0, 0⟩ : Nums).cells (.slice none 0 0) (.slice none 0 0)) 28
  bo : Blk wr o (q.cells vR vV) 28
  own : Own wr w.heap.size 124 2 vR rs.length (ruleCells rs)
  ownV : Own wr w.heap.size 80 3 vV vs.length (vlCells vs)
  hB : Below w.heap.size w wr
  right : ∀ r ∈ rs, r.Right
  ok : ∀ v ∈ vs, v.Ok q.ports.toNat
  rising : Rising 0 vs
  last : lastVid 0 vs ≤ 3 * vs.length
  last0 : 0 ≤ lastVid 0 vs
/-- In the loop over the rules. -/
structure FixL (w wr : World) (p q : Nums) (r v : Value) (o : Nat) (rs : List Rule) (vR : Value) : Prop where
  b0 : Blk wr w.heap.size (p.cells r v) 28
  b1 : Blk wr (w.heap.size + 1) ((⟨0, 0, 0, 0, 0, 0, 0, 0⟩ : Nums).cells (.slice none 0 0) (.slice none 0 0)) 28
  bo : Blk wr o (q.cells vR (.slice none 0 0)) 28
  own : Own wr w.heap.size 124 2 vR rs.length (ruleCells rs)
  hB : Below w.heap.size w wr
  right : ∀ r ∈ rs, r.Right

theorem FixL.kp {w wr w1 : World} {p q : Nums} {r v : Value} {o : Nat} {rs : List Rule} {vR : Value} {S : Nat → Prop} (h : FixL w wr p q r v o rs vR) (k : Kp wr w1 S) (h0 : ¬ S w.heap.size) (h1 : ¬ S (w.heap.size + 1)) (h2 : ¬ S o) (h3 : ∀ b, vR.ownBlock = some b → ¬ S b) (hb : ∀ b, b < w.heap.size → ¬ S b) : FixL w w1 p q r v o rs vR :=
  ⟨h.b0.kp k h0, h.b1.kp k h1, h.bo.kp k h2, h.own.kp k h3, ((Kp.of_below (S := fun _ => False) h.hB).trans k (fun b hlt hs => hb b hlt hs)).toBelow, h.right⟩
theorem FixL.alloc {w wr : World} {p q : Nums} {r v : Value} {o : Nat} {rs : List Rule} {vR : Value} (h : FixL w wr p q r v o rs vR) (x : Obj) : FixL w (wr.alloc x) p q r v o rs vR :=
  h.kp ((Kp.refl wr (fun _ => False)).alloc x) (fun h => h) (fun h => h) (fun h => h) (fun _ _ h => h) (fun _ _ h => h)

theorem FixV.kp {w wr w1 : World} {p q : Nums} {r v : Value} {o : Nat} {rs : List Rule} {vR : Value} {vs : List Vl} {vV : Value} {S : Nat → Prop} (h : FixV w wr p q r v o rs vR vs vV) (k : Kp wr w1 S) (h0 : ¬ S w.heap.size) (h1 : ¬ S (w.heap.size + 1)) (h2 : ¬ S o) (h3 : ∀ b, vR.ownBlock = some b → ¬ S b) (h4 : ∀ b, vV.ownBlock = some b → ¬ S b) (hb : ∀ b, b < w.heap.size → ¬ S b) : FixV w w1 p q r v o rs vR vs vV :=
  ⟨h.b0.kp k h0, h.b1.kp k h1, h.bo.kp k h2, h.own.kp k h3, h.ownV.kp k h4, ((Kp.of_below (S := fun _ => False) h.hB).trans k (fun b hlt hs => hb b hlt hs)).toBelow, h.right, h.ok, h.rising, h.last, h.last0⟩
theorem FixV.alloc {w wr : World} {p q : Nums} {r v : Value} {o : Nat} {rs : List Rule} {vR : Value} {vs : List Vl} {vV : Value} (h : FixV w wr p q r v o rs vR vs vV) (x : Obj) : FixV w (wr.alloc x) p q r v o rs vR vs vV :=
  h.kp ((Kp.refl wr (fun _ => False)).alloc x) (fun h => h) (fun h => h) (fun h => h) (fun _ _ h => h) (fun _ _ h => h) (fun _ _ h => h)
/-- What Fix answers, its lists new. -/
def FixPost2 (w : World) (e : Ending) (w' : World) : Prop := ∃ (q : Nums) (rs : List Rule) (vs : List Vl) (A B : Option Addr) (c d : Nat), e = .returned (q.agg (.slice A rs.length c) (.slice B vs.length d)) ∧ q.Good ∧ (rs.length : Int) = q.ports ∧ (∀ r ∈ rs, r.Right) ∧
  (∀ v ∈ vs, v.Ok q.ports.toNat) ∧ Rising 0 vs ∧ vs.length ≤ 8 ∧ Rd w' A (ruleCells rs) ∧ Rd w' B (vlCells vs) ∧ Below w.heap.size w w' ∧ (∀ b o, A = some ⟨b, o, none⟩ → w.heap.size ≤ b) ∧ (∀ b o, B = some ⟨b, o, none⟩ → w.heap.size ≤ b)
set_option maxRecDepth 100000 in
set_option maxHeartbeats 4000000 in
theorem fix_calls (w : World) (p : Nums) (A1 A2 : Option Addr) (rules : List Rule) (vls : List Vl) (c1 c2 : Nat) (h1 : Rd w A1 (ruleCells rules)) (h2 : Rd w A2 (vlCells vls)) (hr : rules.length ≤ maxLen) (hv : vls.length ≤ maxLen) (hu : ∀ v ∈ vls, U64 v.mem ∧ U64 v.unt) :
    Calls Tryz.prog 11 #[p.agg (.slice A1 rules.length c1) (.slice A2 vls.length c2)] w (FixPost2 w) := by
  unfold Nums.agg
  go_enter Tryz.func11, Tryz.ntmps11
  go_upto_region 1 with fail
  go_cut [3] (fun s3 wx => ∃ o q, s3 = ptr o ∧ FixA w wx p q (.slice A1 rules.length c1) (.slice A2 vls.length c2) o)
  case first =>
    obtain ⟨x, ex, yx, zx⟩ := modFix p.sh 1 8 (by omega) (by omega) (by omega) (by omega)
    obtain ⟨y, ey, yy, zy⟩ := modFix p.bu 1 16 (by omega) (by omega) (by omega) (by omega)
    obtain ⟨z, ez, yz, zz⟩ := modFix p.sl 1 8 (by omega) (by omega) (by omega) (by omega)
    have hf := fun W => fixSize_calls W p.sh p.bu p.sl x y z ex ey ez
    obtain ⟨x1, e1, y1, z1⟩ := modFix p.ports 2 7 (by omega) (by omega) (by omega) (by omega)
    obtain ⟨x2, e2, y2, z2⟩ := modFix p.tries 1 8 (by omega) (by omega) (by omega) (by omega)
    obtain ⟨x3, e3, y3, z3⟩ := modFix p.ring 1 64 (by omega) (by omega) (by omega) (by omega)
    clear ex ey ez
    have b0 := ((Blk.new w (p.cells (.slice A1 rules.length c1) (.slice A2 vls.length c2)) 28).alloc (.cells ((⟨0, 0, 0, 0, 0, 0, 0, 0⟩ : Nums).cells (.slice none 0 0) (.slice none 0 0)).toArray 28))
    have b1 := (Blk.new (w.alloc (.cells (p.cells (.slice A1 rules.length c1) (.slice A2 vls.length c2)).toArray 28)) ((⟨0, 0, 0, 0, 0, 0, 0, 0⟩ : Nums).cells (.slice none 0 0) (.slice none 0 0)) 28)
    have hB := ((Kp.refl w (fun _ => False)).alloc (.cells (p.cells (.slice A1 rules.length c1) (.slice A2 vls.length c2)).toArray 28)).alloc (.cells ((⟨0, 0, 0, 0, 0, 0, 0, 0⟩ : Nums).cells (.slice none 0 0) (.slice none 0 0)).toArray 28)
    rw [World.size_alloc] at b1
    have hz : (((w.alloc (.cells (p.cells (.slice A1 rules.length c1) (.slice A2 vls.length c2)).toArray 28)).alloc (.cells ((⟨0, 0, 0, 0, 0, 0, 0, 0⟩ : Nums).cells (.slice none 0 0) (.slice none 0 0)).toArray 28))).heap.size = w.heap.size + 1 + 1 := by simp
    simp only [Nums.cells] at b0 b1 hB hz
    generalize ((w.alloc _).alloc _) = W at b0 b1 hB hz ⊢
    obtain ⟨b, hb⟩ : ∃ b, w.heap.size = b := ⟨_, rfl⟩
    rw [hb] at b0 b1 hz ⊢
    have b0' : Blk W b (p.cells (.slice A1 rules.length c1) (.slice A2 vls.length c2)) 28 := b0
    have n0 : ¬ b = W.heap.size := by omega
    have n1 : ¬ b = W.heap.size + 1 := by omega
    have n2 : ¬ b = W.heap.size + 1 + 1 := by omega
    have HZ := Go.Lib.hid hz
    have HB := Go.Lib.hid hb
    clear hz hb
    have d0 := b0.get 0 rfl
    have d3 := b0.get 3 rfl
    have d4 := b0.get 4 rfl
    have d5 := b0.get 5 rfl
    have d6 := b0.get 6 rfl
    have d7 := b0.get 7 rfl
    have d8 := b0.get 8 rfl
    have d9 := b0.get 9 rfl
    go_region_held3 (fun w' => w'.cell? ⟨b, 0, none⟩ = some (.int .i64 p.ports) ∧ w'.cell? ⟨b, 3, none⟩ = some (.int .i64 p.sh) ∧ w'.cell? ⟨b, 4, none⟩ = some (.int .i64 p.bu) ∧ w'.cell? ⟨b, 5, none⟩ = some (.int .i64 p.sl) ∧ w'.cell? ⟨b, 6, none⟩ = some (.int .i64 p.tries) ∧ w'.cell? ⟨b, 7, none⟩ = some (.int .i64 p.ring) ∧ w'.cell? ⟨b, 8, none⟩ = some (.int .u32 p.normal) ∧ w'.cell? ⟨b, 9, none⟩ = some (.int .u32 p.short))
      (exact fixS (by repeat (first | exact b0' | apply Blk.drew | apply Blk.alloc | (apply Blk.far; (simp; omega))))) (first | (go_at_call 58; refine (hf _).mono ?_; rintro e w1 ⟨rfl, rfl⟩))
    all_goals (have hb := HB.out; clear HB d0 d3 d4 d5 d6 d7 d8 d9; subst hb; go_wp2_with fail; go_meet)
    all_goals (simp only [IntWalk.i64_left]; rw [e1, e2, e3]; go_tidy)
    all_goals
      have hz := HZ.out
      clear HZ
      refine ⟨_, ⟨x1, x, y, z, x2, x3, p.normal, p.short⟩, rfl, ⟨?_, ?_, ?_, ?_, ?_, ?_⟩⟩
      · repeat (first | exact b0' | apply Blk.drew | apply Blk.alloc)
      · repeat (first | exact b1 | apply Blk.drew | apply Blk.alloc)
      · repeat (first | exact Blk.new' _ _ _ (by simp) | apply Blk.drew | apply Blk.alloc)
      · omega
      · exact (((((hB.alloc _).alloc _).alloc _).drew)).toBelow
      · exact ⟨by dsimp only; omega, by dsimp only; omega, by dsimp only; omega, by dsimp only; omega, by dsimp only; omega, by dsimp only; omega⟩
  case rest =>
    obtain ⟨o, q, rfl, hA⟩ := hcut
    have hho := hA.ho
    have hgood := hA.good
    have hstart : FixL w wc p q (.slice A1 rules.length c1) (.slice A2 vls.length c2) o [] (.slice none 0 0) := ⟨hA.b0, hA.b1, hA.bo, Own.nil _ _ _ _, hA.hB, fun _ h => by cases h⟩
    go_wp2_with fail
    go_loopg [4, 5] (q.ports.toNat) (fun d i _ wr => ∃ (rs : List Rule) (vR : Value), (rs.length : Int) + d = q.ports ∧ i = .int .i64 rs.length ∧ FixL w wr p q (.slice A1 rules.length c1) (.slice A2 vls.length c2) o rs vR)
    case atStart => exact ⟨[], _, by have := hgood.ports; simp; omega, rfl, hstart⟩
    case round =>
      obtain ⟨rs, vR, hk, rfl, hL⟩ := hrel
      have hpb := hgood.ports
      have d0 := hL.bo.get 0 rfl
      have d1 := hL.bo.get 1 rfl
      have g1 := hL.b0.get 1 rfl
      have n0 : w.heap.size < wr.heap.size := hL.b0.lt
      have n1 : o < wr.heap.size := hL.bo.lt
      have n2 : w.heap.size + 1 < wr.heap.size := hL.b1.lt
      by_cases hlt : (rs.length : Int) < q.ports
      · have HL := Go.Lib.hid hL
        have HK := Go.Lib.hid hk
        clear hL hk hA hstart
        go_upto_if 48 with fail
        go_cut [5] (fun s5 wx => ∃ rr : Rule, s5 = ptr wr.heap.size ∧ rr.Right ∧ Blk wx wr.heap.size [.int .i64 rr.pvid, .int .i64 rr.accept] 124 ∧ FixL w wx p q (.slice A1 rules.length c1) (.slice A2 vls.length c2) o rs vR)
        case first =>
          by_cases hin : rs.length < rules.length
          · obtain ⟨ru, hru⟩ := get_of_lt hin
            obtain ⟨k1, k2⟩ := ruleCells_get rules _ ru hru
            obtain ⟨ba, oa, hA1, m1⟩ := h1.out _ _ k1
            obtain ⟨ba', oa', hA1', m2⟩ := h1.out _ _ k2
            obtain ⟨x, ex, yx, zx⟩ := modFix ru.pvid 1 4094 (by omega) (by omega) (by omega) (by omega)
            obtain ⟨y, ey, zy⟩ := modFix0 ru.accept 3 (by omega) (by omega)
            rw [hA1] at hA1'
            obtain ⟨rfl, rfl⟩ : ba' = ba ∧ oa' = oa := by
              injection hA1' with h
              injection h with h3 h4
              exact ⟨h3.symm, h4.symm⟩
            subst hA1
            clear hA1' k1 k2 hru
            have hL := HL.out
            have hB := hL.hB
            have lt0 : ba' < w.heap.size := World.block_lt_of_cell? w _ m1
            rw [← Nat.add_assoc] at m2
            have m1' : (wr.alloc (.cells #[.int .i64 1, .int .i64 0] 124)).cell? ⟨ba', oa' + rs.length * 2, none⟩ = some (.int .i64 ru.pvid) := by
              rw [World.cell?_alloc_past _ _ _ (by have := hB.size; omega)]; exact (hB.cell (p := ⟨ba', oa' + rs.length * 2, none⟩) lt0).trans m1
            have m2' : (wr.alloc (.cells #[.int .i64 1, .int .i64 0] 124)).cell? ⟨ba', oa' + rs.length * 2 + 1, none⟩ = some (.int .i64 ru.accept) := by
              rw [World.cell?_alloc_past _ _ _ (by have := hB.size; omega)]; exact (hB.cell (p := ⟨ba', oa' + rs.length * 2 + 1, none⟩) lt0).trans m2
            have g1' := (hL.alloc (.cells #[.int .i64 1, .int .i64 0] 124)).b0.get 1 rfl
            have hL' := hL.alloc (.cells #[.int .i64 1, .int .i64 0] 124)
            have bR := Blk.new wr [.int .i64 1, .int .i64 0] 124
            have ne1 : ¬ wr.heap.size = ba' := by have := hB.size; omega
            have ne2 : ¬ ba' = wr.heap.size := by have := hB.size; omega
            have ne3 : ¬ wr.heap.size = w.heap.size := by omega
            have ne4 : ¬ w.heap.size = wr.heap.size := by omega
            have HO := Go.Lib.hid (fun b hb => (hL.own.lt (k := b) hb).2 : ∀ b, vR.ownBlock = some b → b < wr.heap.size)
            have e0 := bR.get 0 rfl
            have e1 := bR.get 1 rfl
            have f0 := bR.frozen 0
            have f1 := bR.frozen 1
            have hin' : (rs.length : Int) < rules.length := by omega
            have HX := Go.Lib.hid ex
            have HY := Go.Lib.hid ey
            have HW := Go.Lib.hid hL'
            have HR := Go.Lib.hid bR
            clear ex ey hL' bR hL HL hB m1 m2 g1 d0 d1 h1
            generalize wr.alloc (.cells #[.int .i64 1, .int .i64 0] 124) = W7 at *
            go_wp2_with fail
            go_region_held3 (fun w' => w'.cell? ⟨w.heap.size, 1, none⟩ = some (.slice (some ⟨ba', oa', none⟩) rules.length c1) ∧ w'.cell? ⟨ba', oa' + rs.length * 2, none⟩ = some (.int .i64 ru.pvid) ∧ w'.cell? ⟨ba', oa' + rs.length * 2 + 1, none⟩ = some (.int .i64 ru.accept)) (go_keep) (fail)
            all_goals (go_wp2_with fail; go_meet)
            all_goals
              simp only [IntWalk.i64_left]
              rw [HX.out, HY.out]
              refine ⟨⟨x, y⟩, by simp, ⟨by dsimp only; omega, by dsimp only; omega⟩, ((HR.out.put 0 _ rfl).put 1 _ rfl).drew, ?_⟩
              exact HW.out.kp (((Kp.refl W7 (fun k => k = wr.heap.size)).setCell (p := ⟨wr.heap.size, 0, none⟩) (fun _ => rfl) _).setCell (p := ⟨wr.heap.size, 1, none⟩) (fun _ => rfl) _).drew ne4 (by omega) (by omega) (fun b hb => by have := HO.out b hb; omega) (fun b hb => by omega)
          · go_wp2_with fail
            go_meet
            exact ⟨⟨1, 0⟩, by simp, ⟨by dsimp only; omega, by dsimp only; omega⟩, Blk.new wr _ _, HL.out.alloc _⟩
        case rest =>
          obtain ⟨rr, rfl, hright, hbr, hL⟩ := hcut
          have hk := HK.out
          have hwr := hbr.lt
          have hg0 : 0 < gk := by omega
          have e0 := hbr.get 0 rfl
          have e1 := hbr.get 1 rfl
          have d1 := hL.bo.get 1 rfl
          have lto := hL.bo.lt
          have ho0 := hL.own
          have hw0 := hL.b0.lt
          have hL' := Go.Lib.hid hL
          have hlen : rs.length < 8 := by omega
          clear HL hk hL g1
          go_wp2_with (at_builtin; refine own_append1 rfl _ _ 22 124 w.heap.size 2 16 rs.length rfl Tryz.underlying22 info_rule (by decide) vR (ruleCells rs) [.int .i64 rr.pvid, .int .i64 rr.accept] rfl rfl rfl ?c1 ho0 ?c2 ?c3 ?c4 ?c5)
          case c1 => intro u hu; simp at hu; rcases hu with rfl | rfl <;> rfl
          case c2 => omega
          case c3 => unfold maxLen; omega
          case c4 => omega
          case c5 =>
            intro v1 w1 hown hK hv
            obtain ⟨Av, cv, rfl, _⟩ := hown.slice
            have hL := hL'.out
            have q0 := hL.own.ne_blk hL.b0 (by decide)
            have q1 := hL.own.ne_blk hL.b1 (by decide)
            have q2 := hL.own.ne_blk hL.bo (by decide)
            have b0 := hL.b0.kp hK q0
            have b1 := hL.b1.kp hK q1
            have bo := hL.bo.kp hK q2
            have hB := ((Kp.of_below (S := fun _ => False) hL.hB).trans hK (fun b hlt hs => by have := (hL.own.lt hs).1; omega))
            have z1 := bo.get 1 rfl
            have z2 := bo.frozen 1
            have z3 : (Value.slice Av (rs.length + 1) cv).ownBlock ≠ some o := hown.ne_blk bo (by decide)
            rw [← ruleCells_snoc] at hown
            have hright2 : ∀ r ∈ rs ++ [rr], r.Right := by
              intro r hr
              rcases List.mem_append.1 hr with hr | hr
              · exact hL.right r hr
              · simp at hr; subst hr; exact hright
            have hfin : FixL w (w1.setCell ⟨o, 1, none⟩ (.slice Av (rs.length + 1) cv)) p q (.slice A1 rules.length c1) (.slice A2 vls.length c2) o (rs ++ [rr]) (.slice Av (rs.length + 1) cv) :=
              ⟨b0.far (p := ⟨o, 1, none⟩) (by show w.heap.size ≠ o; omega) (.slice Av (rs.length + 1) cv), b1.far (p := ⟨o, 1, none⟩) (by show w.heap.size + 1 ≠ o; omega) (.slice Av (rs.length + 1) cv), bo.put 1 (.slice Av (rs.length + 1) cv) rfl,
                by rw [List.length_append]; exact hown.kp ((Kp.refl w1 (fun k => k = o)).setCell (p := ⟨o, 1, none⟩) (fun _ => rfl) (.slice Av (rs.length + 1) cv)) (fun b hb e => z3 (e ▸ hb)),
                (hB.setCell (p := ⟨o, 1, none⟩) (fun h => by have h : o < w.heap.size := h; omega) (.slice Av (rs.length + 1) cv)).toBelow, hright2⟩
            have HF := Go.Lib.hid hfin
            clear hfin hL hown hK hB bo b0 b1 hright2 hright q0 q1 q2 hv z3 hL' hbr ho0
            go_wp2_with fail
            go_roundg (gk - 1)
            case measure => omega
            case rel => exact ⟨rs ++ [rr], (.slice Av (rs.length + 1) cv), by have := HK.out; simp; omega, by simp, HF.out⟩
      · have e1 : (rs.length : Int) = q.ports := by omega
        have hV : FixV w wr p q (.slice A1 rules.length c1) (.slice A2 vls.length c2) o rs vR [] (.slice none 0 0) :=
          ⟨hL.b0, hL.b1, hL.bo, hL.own, Own.nil _ _ _ _, hL.hB, hL.right, fun _ h => by (cases h), trivial, by simp [lastVid], by simp [lastVid]⟩
        have HE := Go.Lib.hid e1
        have HV := Go.Lib.hid hV
        have hall := allI_calls wr q.ports (by omega) (by omega)
        have hge : q.ports ≤ (rs.length : Int) := by omega
        clear hk hL e1 hV hA hstart
        go_wp2_with (go_at_call 59; refine hall.mono ?_; rintro e w' ⟨rfl, rfl⟩)
        clear hall d1 g1 d0
        obtain ⟨N, hN⟩ : ∃ N : Nat, q.ports.toNat = N := ⟨_, rfl⟩
        have hN8 : N ≤ 8 := by omega
        rw [hN]
        have HN := Go.Lib.hid hN
        clear hN
        have U0 : U64 (pw N - 1) := by have := pw_lt (show N < 64 by omega); unfold U64; omega
        obtain ⟨wo, rfl⟩ : ∃ wo : World, wo = wr := ⟨_, rfl⟩
        go_loopg [6, 8, 9, 10] (vls.length) (fun d s6 i _ _ w2 => ∃ (vs : List Vl) (vV : Value), vs.length + d = vls.length ∧ vs.length ≤ 8 ∧ i = .int .i64 vs.length ∧ s6 = .int .i64 (lastVid 0 vs) ∧ FixV w w2 p q (.slice A1 rules.length c1) (.slice A2 vls.length c2) o rs vR vs vV)
        case atStart => exact ⟨[], _, by simp, by simp, rfl, rfl, HV.out⟩
        case round =>
          obtain ⟨vs, vV, hk, hk8, rfl, rfl, hV⟩ := hrel
          have n0 := hV.b0.lt
          have n1 := hV.bo.lt
          have n2 := hV.b1.lt
          have g2 := hV.b0.get 2 rfl
          have z1 := hV.last
          have z0 := hV.last0
          by_cases hlt : vs.length < vls.length ∧ vs.length < 8
          · obtain ⟨hlt1, hlt2⟩ := hlt
            obtain ⟨vl, hvl⟩ := get_of_lt hlt1
            obtain ⟨u1, u2⟩ := hu vl (List.mem_of_getElem? hvl)
            obtain ⟨k1, k2, k3⟩ := vlCells_get vls _ vl hvl
            obtain ⟨ba, oa, hA1, m1⟩ := h2.out _ _ k1
            obtain ⟨ba', oa', hA2, m2⟩ := h2.out _ _ k2
            obtain ⟨ba'', oa'', hA3, m3⟩ := h2.out _ _ k3
            rw [hA1] at hA2 hA3
            obtain ⟨rfl, rfl⟩ : ba' = ba ∧ oa' = oa := by
              injection hA2 with h
              injection h with h3 h4
              exact ⟨h3.symm, h4.symm⟩
            obtain ⟨rfl, rfl⟩ : ba'' = ba' ∧ oa'' = oa' := by
              injection hA3 with h
              injection h with h3 h4
              exact ⟨h3.symm, h4.symm⟩
            subst hA1
            rw [← Nat.add_assoc] at m2 m3
            obtain ⟨x, ex, zx⟩ := modFix0 vl.vid 3 (by omega) (by omega)
            have lt0 : ba'' < w.heap.size := World.block_lt_of_cell? w _ m1
            have hBz := hV.hB.size
            have M1 : wr.cell? ⟨ba'', oa'' + vs.length * 3, none⟩ = some (.int .i64 vl.vid) := (hV.hB.cell (p := ⟨ba'', oa'' + vs.length * 3, none⟩) lt0).trans m1
            have M2 : wr.cell? ⟨ba'', oa'' + vs.length * 3 + 1, none⟩ = some (.int .u64 (vl.mem : Int)) := (hV.hB.cell (p := ⟨ba'', oa'' + vs.length * 3 + 1, none⟩) lt0).trans m2
            have M3 : wr.cell? ⟨ba'', oa'' + vs.length * 3 + 2, none⟩ = some (.int .u64 (vl.unt : Int)) := (hV.hB.cell (p := ⟨ba'', oa'' + vs.length * 3 + 2, none⟩) lt0).trans m3
            have l1 : (vs.length : Int) < vls.length := by omega
            have l2 : (vs.length : Int) < 8 := by omega
            have H2 := Go.Lib.hid hV
            have HK := Go.Lib.hid hk
            clear hV hk hA2 hA3 m1 k1 k2 k3 hvl
            have hVz := H2.out
            have hLv := hVz.alloc (.cells #[.int .i64 (lastVid 0 vs + 1 + (x : Int)), .int .u64 0, .int .u64 0] 80)
            have hBv := Blk.new wr [.int .i64 (lastVid 0 vs + 1 + (x : Int)), .int .u64 0, .int .u64 0] 80
            have HLv := Go.Lib.hid hLv
            have HBv := Go.Lib.hid hBv
            have ne0 : ¬ wr.heap.size = w.heap.size := by omega
            clear hVz hLv hBv
            go_wp2_with fail
            clear M1 M2 M3 g2 ex
            obtain ⟨wp, rfl⟩ : ∃ wp : World, wp = wr := ⟨_, rfl⟩
            obtain ⟨gk2, rfl⟩ : ∃ g : Nat, g = gk := ⟨_, rfl⟩
            go_loopg [10] 64 (fun d i wi => ∃ k : Nat, k + d = 64 ∧ i = .int .i64 k ∧ Blk wi wp.heap.size [.int .i64 (lastVid 0 vs + 1 + (x : Int)), .int .u64 ((vl.mem % pw N % pw k : Nat) : Int), .int .u64 (((vl.mem % pw N &&& vl.unt) % pw k : Nat) : Int)] 80 ∧
              FixV w wi p q (.slice A1 rules.length c1) (.slice (some ⟨ba'', oa'', none⟩) vls.length c2) o rs vR vs vV)
            case atStart => exact ⟨0, rfl, rfl, by simpa [pw, Nat.mod_one] using HBv.out, HLv.out⟩
            case round =>
              obtain ⟨k, hk, rfl, hB, hV⟩ := hrel
              have b0 := hB.get 0 rfl
              have b1 := hB.get 1 rfl
              have b2 := hB.get 2 rfl
              have f1 := hB.frozen 1
              have f2 := hB.frozen 2
              have g2 := hV.b0.get 2 rfl
              have o2 := hV.bo.get 2 rfl
              have lt9 : wp.heap.size < wr.heap.size := hB.lt
              have hnr : ∀ b, vR.ownBlock = some b → ¬ b = wp.heap.size := fun b hb e => by have := (H2.out.own.lt hb).2; omega
              have hnv : ∀ b, vV.ownBlock = some b → ¬ b = wp.heap.size := fun b hb e => by have := (H2.out.ownV.lt hb).2; omega
              have HNR := Go.Lib.hid hnr
              have HNV := Go.Lib.hid hnv
              clear hnr hnv
              by_cases hk64 : k < 64
              · have hbz := hV.hB
                have M2 : wr.cell? ⟨ba'', oa'' + vs.length * 3 + 1, none⟩ = some (.int .u64 (vl.mem : Int)) := (hbz.cell (p := ⟨ba'', oa'' + vs.length * 3 + 1, none⟩) lt0).trans m2
                have M3 : wr.cell? ⟨ba'', oa'' + vs.length * 3 + 2, none⟩ = some (.int .u64 (vl.unt : Int)) := (hbz.cell (p := ⟨ba'', oa'' + vs.length * 3 + 2, none⟩) lt0).trans m3
                have ne1 : ¬ wp.heap.size = ba'' := by omega
                have ne2 : ¬ ba'' = wp.heap.size := by omega
                have ne3 : ¬ w.heap.size = wp.heap.size := by omega
                have eM := pw_mod_succ (vl.mem % pw N) k
                have eU := pw_mod_succ (vl.mem % pw N &&& vl.unt) k
                rw [inS_mod] at eM
                rw [inS_and, inS_mod] at eU
                have cA : inS (pw N - 1) k = decide (k < N) := inS_all N k
                have wM := fun W => with_calls W (vl.mem % pw N % pw k) k (pw_mod_lt _ _) hk64
                have wU := fun W => with_calls W ((vl.mem % pw N &&& vl.unt) % pw k) k (pw_mod_lt _ _) hk64
                have kz : (k : Int) < 64 := by omega
                have HBZ := Go.Lib.hid hB
                have HVZ := Go.Lib.hid hV
                have hg1 : 0 < gk := by omega
                have HKZ := Go.Lib.hid hk
                clear hB hV hbz hk
                generalize hMk : vl.mem % pw N % pw k = a at *
                generalize hUk : (vl.mem % pw N &&& vl.unt) % pw k = b at *
                generalize hMk1 : vl.mem % pw N % pw (k + 1) = a' at *
                generalize hUk1 : (vl.mem % pw N &&& vl.unt) % pw (k + 1) = b' at *
                have HA' := Go.Lib.hid hMk1
                have HU' := Go.Lib.hid hUk1
                clear hMk hUk hMk1 hUk1
                cases h1' : decide (k < N) with
                | false =>
                  rw [h1'] at cA eM eU
                  obtain rfl : a' = a := by simpa using eM
                  obtain rfl : b' = b := by simpa using eU
                  clear eM eU wM wU h1'
                  go_wp2_with (go_at_call 39; refine (has_calls _ _ k (by assumption) hk64).mono ?_; rintro e w' ⟨rfl, rfl⟩)
                  go_roundg (gk - 1)
                  case measure => omega
                  case rel => exact ⟨k + 1, by have := HKZ.out; omega, by simp, by rw [HA'.out, HU'.out]; exact HBZ.out, HVZ.out⟩
                | true =>
                  rw [h1'] at cA eM eU
                  cases h2' : inS vl.mem k with
                  | false =>
                    rw [h2'] at eM eU
                    obtain rfl : a' = a := by simpa using eM
                    obtain rfl : b' = b := by simpa using eU
                    clear eM eU wM wU h1'
                    go_wp2_with (go_at_call 39; refine (has_calls _ _ k (by assumption) hk64).mono ?_; rintro e w' ⟨rfl, rfl⟩)
                    go_roundg (gk - 1)
                    case measure => omega
                    case rel => exact ⟨k + 1, by have := HKZ.out; omega, by simp, by rw [HA'.out, HU'.out]; exact HBZ.out, HVZ.out⟩
                  | true =>
                    rw [h2'] at eM eU
                    have eM2 : a + pw k = a' := by simpa using eM.symm
                    rw [eM2] at wM
                    have hC : FixV w (wr.setCell ⟨wp.heap.size, 1, none⟩ (.int .u64 (a' : Int))) p q (.slice A1 rules.length c1) (.slice (some ⟨ba'', oa'', none⟩) vls.length c2) o rs vR vs vV :=
                      HVZ.out.kp ((Kp.refl wr (fun k => k = wp.heap.size)).setCell (p := ⟨wp.heap.size, 1, none⟩) (fun _ => rfl) _) ne3 (by omega) (by omega) HNR.out HNV.out (fun b hb => by omega)
                    have hD := HBZ.out.put 1 (.int .u64 (a' : Int)) rfl
                    have HC := Go.Lib.hid hC
                    have HD := Go.Lib.hid hD
                    have WM := Go.Lib.hid wM
                    clear hC hD eM eM2 wM
                    cases h3' : inS vl.unt k with
                    | false =>
                      rw [h3'] at eU
                      obtain rfl : b' = b := by simpa using eU
                      clear eU wU h1'
                      go_wp2_with (first | (go_at_call 39; refine (has_calls _ _ k (by assumption) hk64).mono ?_; rintro e w' ⟨rfl, rfl⟩) | (go_at_call 60; refine (WM.out _).mono ?_; rintro e w' ⟨rfl, rfl⟩))
                      go_roundg (gk - 1)
                      case measure => omega
                      case rel => exact ⟨k + 1, by have := HKZ.out; omega, by simp, by rw [HA'.out, HU'.out]; exact HD.out, HC.out⟩
                    | true =>
                      rw [h3'] at eU
                      have eU2 : b + pw k = b' := by simpa using eU.symm
                      rw [eU2] at wU
                      have hC2 : FixV w ((wr.setCell ⟨wp.heap.size, 1, none⟩ (.int .u64 (a' : Int))).setCell ⟨wp.heap.size, 2, none⟩ (.int .u64 (b' : Int))) p q (.slice A1 rules.length c1) (.slice (some ⟨ba'', oa'', none⟩) vls.length c2) o rs vR vs vV :=
                        HC.out.kp ((Kp.refl _ (fun k => k = wp.heap.size)).setCell (p := ⟨wp.heap.size, 2, none⟩) (fun _ => rfl) _) ne3 (by omega) (by omega) HNR.out HNV.out (fun b hb => by omega)
                      have hD2 := HD.out.put 2 (.int .u64 (b' : Int)) rfl
                      have HC2 := Go.Lib.hid hC2
                      have HD2 := Go.Lib.hid hD2
                      have WU := Go.Lib.hid wU
                      clear hC2 hD2 eU eU2 wU h1'
                      go_wp2_with (first | (go_at_call 39; refine (has_calls _ _ k (by assumption) hk64).mono ?_; rintro e w' ⟨rfl, rfl⟩) | (go_at_call_of 60 (Value.int .u64 (a : Int)); refine (WM.out _).mono ?_; rintro e w' ⟨rfl, rfl⟩) | (go_at_call_of 60 (Value.int .u64 (b : Int)); refine (WU.out _).mono ?_; rintro e w' ⟨rfl, rfl⟩))
                      go_roundg (gk - 1)
                      case measure => omega
                      case rel => exact ⟨k + 1, by have := HKZ.out; omega, by simp, by rw [HA'.out, HU'.out]; exact HD2.out, HC2.out⟩
              · obtain rfl : k = 64 := by omega
                have hM : vl.mem % pw N < pw N := pw_mod_lt _ _
                have hM64 : vl.mem % pw N % pw 64 = vl.mem % pw N := Nat.mod_eq_of_lt (Nat.lt_of_lt_of_le hM (pw_le (by omega)))
                have hU64 : (vl.mem % pw N &&& vl.unt) % pw 64 = (vl.mem % pw N &&& vl.unt) := Nat.mod_eq_of_lt (Nat.lt_of_le_of_lt (and_le_left' _ _) (Nat.lt_of_lt_of_le hM (pw_le (by omega))))
                rw [hM64, hU64] at hB
                rw [hM64] at b1
                rw [hU64] at b2
                have hok : Vl.Ok q.ports.toNat ⟨lastVid 0 vs + 1 + (x : Int), vl.mem % pw N, vl.mem % pw N &&& vl.unt⟩ := by
                  rw [HN.out]
                  refine ⟨by dsimp only; omega, hM, ?_⟩
                  show (vl.mem % pw N &&& vl.unt) &&& (vl.mem % pw N) = _
                  rw [Nat.and_comm, ← Nat.and_assoc, Nat.and_self]
                have HOK := Go.Lib.hid hok
                clear hM64 hU64 hok
                generalize hMM : vl.mem % pw N = M at *
                generalize hUU : M &&& vl.unt = U at *
                have h64 : (64 : Int) ≤ ((64 : Nat) : Int) := by omega
                have HB := Go.Lib.hid hB
                have HVV := Go.Lib.hid hV
                have ho0 := hV.ownV
                have hlt0 := hV.b0.lt
                have hg0 : 0 < gk2 := by have := HK.out; omega
                clear hB hV hMM hUU hM hk
                go_wp2_with (at_builtin; refine own_append1 rfl _ _ 23 80 w.heap.size 3 24 vs.length rfl Tryz.underlying23 info_vlan (by decide) vV (vlCells vs) [.int .i64 (lastVid 0 vs + 1 + (x : Int)), .int .u64 (M : Int), .int .u64 (U : Int)] rfl rfl rfl ?c1 ho0 ?c2 ?c3 ?c4 ?c5)
                case c1 => intro u hu; simp at hu; rcases hu with rfl | rfl | rfl <;> rfl
                case c2 => omega
                case c3 => unfold maxLen; omega
                case c4 => omega
                case c5 =>
                  intro v1 w1 hown hK hv1
                  obtain ⟨Av, cv, rfl, _⟩ := hown.slice
                  have hL := HVV.out
                  have q0 := hL.ownV.ne_blk hL.b0 (by decide)
                  have q1 := hL.ownV.ne_blk hL.b1 (by decide)
                  have q2 := hL.ownV.ne_blk hL.bo (by decide)
                  have b0 := hL.b0.kp hK q0
                  have b1 := hL.b1.kp hK q1
                  have bo := hL.bo.kp hK q2
                  have or := hL.own.kp hK (fun b hb => hL.own.ne_own hL.ownV (by decide) hb)
                  have hB := ((Kp.of_below (S := fun _ => False) hL.hB).trans hK (fun b hlt hs => by have := (hL.ownV.lt hs).1; omega))
                  have z2 := bo.frozen 2
                  have z1 := bo.get 2 rfl
                  have z3 : (Value.slice Av (vs.length + 1) cv).ownBlock ≠ some o := hown.ne_blk bo (by decide)
                  have z4 : ∀ b, vR.ownBlock = some b → b ≠ o := fun b hb e => or.ne_blk bo (by decide) (e ▸ hb)
                  have e3 := (vlCells_snoc vs ⟨lastVid 0 vs + 1 + (x : Int), M, U⟩).symm
                  rw [e3] at hown
                  have hok2 : ∀ v ∈ vs ++ [⟨lastVid 0 vs + 1 + (x : Int), M, U⟩], Vl.Ok q.ports.toNat v := by
                    intro v hv
                    rcases List.mem_append.1 hv with hv | hv
                    · exact hL.ok v hv
                    · simp at hv; subst hv; exact HOK.out
                  have hfin : FixV w (w1.setCell ⟨o, 2, none⟩ (.slice Av (vs.length + 1) cv)) p q (.slice A1 rules.length c1) (.slice (some ⟨ba'', oa'', none⟩) vls.length c2) o rs vR (vs ++ [⟨lastVid 0 vs + 1 + (x : Int), M, U⟩]) (.slice Av (vs.length + 1) cv) :=
                    ⟨b0.far (p := ⟨o, 2, none⟩) (by show w.heap.size ≠ o; omega) _, b1.far (p := ⟨o, 2, none⟩) (by show w.heap.size + 1 ≠ o; omega) _, bo.put 2 _ rfl,
                      or.kp ((Kp.refl w1 (fun k => k = o)).setCell (p := ⟨o, 2, none⟩) (fun _ => rfl) _) z4,
                      by rw [List.length_append]; exact hown.kp ((Kp.refl w1 (fun k => k = o)).setCell (p := ⟨o, 2, none⟩) (fun _ => rfl) _) (fun b hb e => z3 (e ▸ hb)),
                      (hB.setCell (p := ⟨o, 2, none⟩) (fun h => by have h : o < w.heap.size := h; omega) _).toBelow, hL.right, hok2,
                      (Rising_snoc _ _ _).2 ⟨hL.rising, by dsimp only; omega⟩, by rw [lastVid_snoc, List.length_append]; dsimp only [List.length]; omega, by rw [lastVid_snoc]; dsimp only; omega⟩
                  have e4 := lastVid_snoc 0 vs ⟨lastVid 0 vs + 1 + (x : Int), M, U⟩
                  have HF := Go.Lib.hid hfin
                  have HE4 := Go.Lib.hid e4
                  clear hfin e4 e3 hL hown hK hB bo b0 b1 or hok2 q0 q1 q2 hv1 z3 z4 ho0
                  go_wp2_with fail
                  go_roundg (gk2 - 1)
                  case measure => omega
                  case rel => exact ⟨vs ++ [⟨lastVid 0 vs + 1 + (x : Int), M, U⟩], _, by have := HK.out; simp; omega, by simp; omega, by simp, by rw [HE4.out], HF.out⟩
          · have hd : True := trivial
            have H2 := Go.Lib.hid hV
            have HK := Go.Lib.hid hk
            clear hV hk
            have hV := H2.out
            obtain ⟨AR, cR, rfl, _, _, hRR, hRO⟩ := hV.own.slice
            obtain ⟨AV, cV, rfl, _, _, hRV, hVO⟩ := hV.ownV.slice
            obtain ⟨p0, p1, p2, p3, p4, p5, p6, p7, p8, p9⟩ := plan_cells hV.bo
            obtain ⟨r0, r1, r2, r3, r4, r5, r6, r7, r8, r9⟩ := plan_cells hV.b1
            have t0 := hV.b1.frozen 0
            have t1 := hV.b1.frozen 1
            have t2 := hV.b1.frozen 2
            have t3 := hV.b1.frozen 3
            have t4 := hV.b1.frozen 4
            have t5 := hV.b1.frozen 5
            have t6 := hV.b1.frozen 6
            have t7 := hV.b1.frozen 7
            have t8 := hV.b1.frozen 8
            have t9 := hV.b1.frozen 9
            have hW := laidPlan_kp wr (w.heap.size + 1) q (.slice AR rs.length cR) (.slice AV vs.length cV)
            have hWb := laidPlan_blk (q := q) (r := .slice AR rs.length cR) (v := .slice AV vs.length cV) hV.b1
            have hpost : FixPost2 w (.returned (q.agg (.slice AR rs.length cR) (.slice AV vs.length cV))) (laidPlan wr (w.heap.size + 1) q (.slice AR rs.length cR) (.slice AV vs.length cV)) :=
              ⟨q, rs, vs, AR, AV, cR, cV, rfl, hgood, HE.out, hV.right, hV.ok, hV.rising, hk8,
                hRR.kp hW (fun b o e h => hV.own.ne_blk hV.b1 (by decide) (by rw [(hRO b o e).2.2, h])),
                hRV.kp hW (fun b o e h => hV.ownV.ne_blk hV.b1 (by decide) (by rw [(hVO b o e).2.2, h])),
                ((Kp.of_below (S := fun _ => False) hV.hB).trans hW (fun b hlt hs => by omega)).toBelow, fun b o e => (hRO b o e).1, fun b o e => (hVO b o e).1⟩
            have HP := Go.Lib.hid hpost
            have HWB := Go.Lib.hid hWb
            clear hpost hWb hW hRR hRO hRV hVO hV
            by_cases ha : vs.length < vls.length
            · have hb : (8 : Int) ≤ (vs.length : Int) := by omega
              have ha' : (vs.length : Int) < vls.length := by omega
              clear hd
              go_wp2_with fail
              have hcs := plan_cells HWB.out
              have hp := HP.out
              unfold laidPlan at hcs hp
              refine bodyPost_ret (v := q.agg (.slice AR rs.length cR) (.slice AV vs.length cV)) (by simp [results, Tryz.results11, go_sem, Nums.agg, hcs]) rfl hp
            · have hb : (vls.length : Int) ≤ (vs.length : Int) := by omega
              clear hd
              go_wp2_with fail
              have hcs := plan_cells HWB.out
              have hp := HP.out
              unfold laidPlan at hcs hp
              refine bodyPost_ret (v := q.agg (.slice AR rs.length cR) (.slice AV vs.length cV)) (by simp [results, Tryz.results11, go_sem, Nums.agg, hcs]) rfl hp
end Go.Proofs.YtcpaodidpomdaaaGreat

/- patchbaylaw17.Op: an order as the program has it. -/
import Derived.Test.YtcpaodidpomdaaaGreatAct
set_option linter.unusedVariables false
set_option linter.unusedSimpArgs false
set_option maxRecDepth 100000
namespace Go.Proofs.YtcpaodidpomdaaaGreat
open Go.RowKit

theorem l8to_calls (w : World) (a b : Int) :
    Calls Tryz.prog 79 #[.agg #[.int .i64 a, .int .u64 b]] w fun e w' => e = .returned (.agg #[.int .i64 a, .int .u64 b]) ∧ Below w.heap.size w w' := by
  go_enter Tryz.func79, Tryz.ntmps79
  go_wp2_with fail
  exact bodyPost_ret (v := .agg #[.int .i64 a, .int .u64 b]) (by simp [results, Tryz.results79, go_sem]) rfl ⟨rfl, ((Below.refl w.heap.size w).alloc (Nat.le_refl _) _).alloc (by simp) _⟩
theorem opKeep14 {W : World} {ob : Nat} {o : OpS} {T : TypeId} (hB : Blk W ob o.cells T) : W.cell? ⟨ob, 0, none⟩ = some (.int .i64 o.kind) ∧ W.cell? ⟨ob, 1, none⟩ = some (.int .i64 o.port) ∧ W.cell? ⟨ob, 2, none⟩ = some (.int .i64 o.dest) ∧ W.cell? ⟨ob, 3, none⟩ = some (.int .i64 o.vid) ∧ W.cell? ⟨ob, 4, none⟩ = some (.int .i64 o.state) ∧ W.cell? ⟨ob, 5, none⟩ = some (.int .i64 o.kvid) ∧ W.cell? ⟨ob, 6, none⟩ = some (.int .u64 o.kmac) ∧ W.cell? ⟨ob, 7, none⟩ = some (.int .u64 o.mem) ∧ W.cell? ⟨ob, 8, none⟩ = some (.int .u64 o.unt) ∧ W.cell? ⟨ob, 9, none⟩ = some (.int .u32 o.now) ∧ W.cell? ⟨ob, 10, none⟩ = some (.int .u32 o.limit) ∧ W.cell? ⟨ob, 11, none⟩ = some (.int .i64 o.shard) ∧ W.cell? ⟨ob, 12, none⟩ = some (.int .i64 o.bucket) ∧ W.cell? ⟨ob, 13, none⟩ = some (.int .i64 o.id) :=
  ⟨hB.get 0 rfl, hB.get 1 rfl, hB.get 2 rfl, hB.get 3 rfl, hB.get 4 rfl, hB.get 5 rfl, hB.get 6 rfl, hB.get 7 rfl, hB.get 8 rfl, hB.get 9 rfl, hB.get 10 rfl, hB.get 11 rfl, hB.get 12 rfl, hB.get 13 rfl⟩
/-- An order laid into a block. -/
def laidOp (w : World) (b : Nat) (o : OpS) : World := ((((((((((((((w.setCell ⟨b, 0, none⟩ (.int .i64 o.kind)).setCell ⟨b, 1, none⟩ (.int .i64 o.port)).setCell ⟨b, 2, none⟩ (.int .i64 o.dest)).setCell ⟨b, 3, none⟩ (.int .i64 o.vid)).setCell ⟨b, 4, none⟩ (.int .i64 o.state)).setCell ⟨b, 5, none⟩ (.int .i64 o.kvid)).setCell ⟨b, 6, none⟩ (.int .u64 o.kmac)).setCell ⟨b, 7, none⟩ (.int .u64 o.mem)).setCell ⟨b, 8, none⟩ (.int .u64 o.unt)).setCell ⟨b, 9, none⟩ (.int .u32 o.now)).setCell ⟨b, 10, none⟩ (.int .u32 o.limit)).setCell ⟨b, 11, none⟩ (.int .i64 o.shard)).setCell ⟨b, 12, none⟩ (.int .i64 o.bucket)).setCell ⟨b, 13, none⟩ (.int .i64 o.id))
theorem laidOp_kp (w : World) (b : Nat) (o : OpS) : Kp w (laidOp w b o) (fun k => k = b) := by
  unfold laidOp
  exact (((((((((((((((Kp.refl w (fun k => k = b)).setCell (p := ⟨b, 0, none⟩) (fun _ => rfl) _).setCell (p := ⟨b, 1, none⟩) (fun _ => rfl) _).setCell (p := ⟨b, 2, none⟩) (fun _ => rfl) _).setCell (p := ⟨b, 3, none⟩) (fun _ => rfl) _).setCell (p := ⟨b, 4, none⟩) (fun _ => rfl) _).setCell (p := ⟨b, 5, none⟩) (fun _ => rfl) _).setCell (p := ⟨b, 6, none⟩) (fun _ => rfl) _).setCell (p := ⟨b, 7, none⟩) (fun _ => rfl) _).setCell (p := ⟨b, 8, none⟩) (fun _ => rfl) _).setCell (p := ⟨b, 9, none⟩) (fun _ => rfl) _).setCell (p := ⟨b, 10, none⟩) (fun _ => rfl) _).setCell (p := ⟨b, 11, none⟩) (fun _ => rfl) _).setCell (p := ⟨b, 12, none⟩) (fun _ => rfl) _).setCell (p := ⟨b, 13, none⟩) (fun _ => rfl) _)
theorem laidOp_blk {w : World} {b : Nat} {o o' : OpS} {T : TypeId} (h : Blk w b o'.cells T) : Blk (laidOp w b o) b o.cells T := by
  unfold laidOp
  exact ((((((((((((((h.set 0 _).set 1 _).set 2 _).set 3 _).set 4 _).set 5 _).set 6 _).set 7 _).set 8 _).set 9 _).set 10 _).set 11 _).set 12 _).set 13 _)
set_option maxHeartbeats 2000000 in
theorem op17_calls (w : World) (o : OpS) :
    Calls Tryz.prog 29 #[o.agg] w fun e w' => e = .returned o.agg ∧ Below w.heap.size w w' := by
  have b0 := (Blk.new w o.cells 58).alloc (.cells (OpS.cells ⟨0, 0, 0, 0, 0, 0, 0, 0, 0, 0, 0, 0, 0, 0⟩).toArray 68)
  have b1 := Blk.new' (w.alloc (.cells o.cells.toArray 58)) (OpS.cells ⟨0, 0, 0, 0, 0, 0, 0, 0, 0, 0, 0, 0, 0, 0⟩) 68 (b := w.heap.size + 1) (by simp)
  have hB := ((Below.refl w.heap.size w).alloc (Nat.le_refl _) (.cells o.cells.toArray 58)).alloc (by simp) (.cells (OpS.cells ⟨0, 0, 0, 0, 0, 0, 0, 0, 0, 0, 0, 0, 0, 0⟩).toArray 68)
  have hto := fun W => l8to_calls W o.kvid o.kmac
  simp only [OpS.cells] at b0 b1 hB
  unfold OpS.agg
  go_enter Tryz.func29, Tryz.ntmps29
  go_upto_region 1 with fail
  generalize ((w.alloc _).alloc _) = W0 at b0 b1 hB ⊢
  have k0 := opKeep14 (o := o) b0.drew
  have h1 := b1.drew
  go_region_held3 (fun W => W.cell? ⟨w.heap.size, 0, none⟩ = some (.int .i64 o.kind) ∧ W.cell? ⟨w.heap.size, 1, none⟩ = some (.int .i64 o.port) ∧ W.cell? ⟨w.heap.size, 2, none⟩ = some (.int .i64 o.dest) ∧ W.cell? ⟨w.heap.size, 3, none⟩ = some (.int .i64 o.vid) ∧ W.cell? ⟨w.heap.size, 4, none⟩ = some (.int .i64 o.state) ∧ W.cell? ⟨w.heap.size, 5, none⟩ = some (.int .i64 o.kvid) ∧ W.cell? ⟨w.heap.size, 6, none⟩ = some (.int .u64 o.kmac) ∧ W.cell? ⟨w.heap.size, 7, none⟩ = some (.int .u64 o.mem) ∧ W.cell? ⟨w.heap.size, 8, none⟩ = some (.int .u64 o.unt) ∧ W.cell? ⟨w.heap.size, 9, none⟩ = some (.int .u32 o.now) ∧ W.cell? ⟨w.heap.size, 10, none⟩ = some (.int .u32 o.limit) ∧ W.cell? ⟨w.heap.size, 11, none⟩ = some (.int .i64 o.shard) ∧ W.cell? ⟨w.heap.size, 12, none⟩ = some (.int .i64 o.bucket) ∧ W.cell? ⟨w.heap.size, 13, none⟩ = some (.int .i64 o.id))
    (first | with_reducible exact k0 | with_reducible exact k2 | with_reducible exact kk3)
    (first | (go_at_call 79; refine (hto _).mono ?_; rintro e w2 ⟨rfl, hB2⟩; have hb2 := b0.drew.below hB2; have k2 := opKeep14 (o := o) hb2; have hr2 := b1.drew.below hB2; obtain ⟨y0, y1, y2, y3, y4, y5, y6, y7, y8, y9, y10, y11, y12, y13⟩ := opKeep14 (o := ⟨0, 0, 0, 0, 0, 0, 0, 0, 0, 0, 0, 0, 0, 0⟩) hr2; have z0 := hr2.frozen 0; have z1 := hr2.frozen 1; have z2 := hr2.frozen 2; have z3 := hr2.frozen 3; have z4 := hr2.frozen 4; have z5 := hr2.frozen 5; have z6 := hr2.frozen 6; have z7 := hr2.frozen 7; have z8 := hr2.frozen 8; have z9 := hr2.frozen 9; have z10 := hr2.frozen 10; have z11 := hr2.frozen 11; have z12 := hr2.frozen 12; have z13 := hr2.frozen 13; have hb3 := hb2.kp (laidOp_kp w2 (w.heap.size + 1) o) (by omega); have kk3 := opKeep14 (o := o) hb3; unfold laidOp at kk3; have hltr := hr2.lt))
  have hcs := opKeep14 (laidOp_blk (o := o) (o' := ⟨0, 0, 0, 0, 0, 0, 0, 0, 0, 0, 0, 0, 0, 0⟩) hr2)
  have hp : Below w.heap.size w (laidOp w2 (w.heap.size + 1) o) := (((Kp.of_below (S := fun _ => False) ((Below.drawn hB 1).trans (hB2.mono hB.size)))).trans (laidOp_kp w2 (w.heap.size + 1) o) (fun k hk (e : k = _) => by omega)).toBelow
  unfold laidOp at hcs hp
  have HC := Go.Lib.hid hcs
  have HP := Go.Lib.hid hp
  clear hcs hp kk3 k2 k0 hb3 hb2 hr2 hB2 hB b0 b1 h1 hto y0 y1 y2 y3 y4 y5 y6 y7 y8 y9 y10 y11 y12 y13 z0 z1 z2 z3 z4 z5 z6 z7 z8 z9 z10 z11 z12 z13
  go_wp2_with fail
  have hcs := HC.out
  refine bodyPost_ret (v := o.agg) (by simp [results, Tryz.results29, go_sem, OpS.agg, hcs]) rfl ⟨rfl, HP.out⟩
end Go.Proofs.YtcpaodidpomdaaaGreat

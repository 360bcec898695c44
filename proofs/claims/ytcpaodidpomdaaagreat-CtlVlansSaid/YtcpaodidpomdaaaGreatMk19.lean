/- patchbaylaw19.Make: a fabric out of the law's plan. -/
import Derived.Test.YtcpaodidpomdaaaGreatMake
import Derived.Test.YtcpaodidpomdaaaGreatTo
set_option linter.unusedVariables false
set_option linter.unusedSimpArgs false
namespace Go.Proofs.YtcpaodidpomdaaaGreat
open Go.RowKit

theorem fmem_calls {w : World} {f m : Nat} (h : w.cell? ⟨f, 10, none⟩ = some (ptr m)) :
    Calls Tryz.prog 43 #[ptr f] w fun e w' => e = .returned (ptr m) ∧ w = w' := by
  go_enter Tryz.func43, Tryz.ntmps43
  go_wp2
  go_ret
  exact ⟨rfl, rfl⟩
theorem ffdb_calls {w : World} {f m : Nat} (h : w.cell? ⟨f, 11, none⟩ = some (ptr m)) :
    Calls Tryz.prog 53 #[ptr f] w fun e w' => e = .returned (ptr m) ∧ w = w' := by
  go_enter Tryz.func53, Tryz.ntmps53
  go_wp2
  go_ret
  exact ⟨rfl, rfl⟩

theorem Made.lift {w w1 w' : World} {p : Nums} {rs : List Rule} {vs : List Vl} {f : Nat} {a : MemA} {fd : Nat} {E C : Int} {N K : Nat} {A B : Option Addr} {c d : Nat} {V : Value} {rows : List (Value × List Nat)}
    (h : Made w1 w' p rs vs f a fd E C N K A B c d V rows) (hB : Below w.heap.size w w1) : Made w w' p rs vs f a fd E C N K A B c d V rows :=
  ⟨h.fab, h.ownR.mono hB.size, h.ownV.mono hB.size, h.fdb, h.mem, h.nrows, h.own.mono hB.size, fun i x hi => (h.each i x hi).mono hB.size, hB.trans (h.below.mono hB.size), Nat.lt_of_le_of_lt hB.size h.hf, h.ha, h.hE, h.hN, h.hK, h.hC⟩

set_option maxRecDepth 100000 in
set_option maxHeartbeats 1000000 in
theorem make19_calls (w : World) (p : Nums) (A B : Option Addr) (rs : List Rule) (vs : List Vl) (c d : Nat) (hg : p.Good) (hn : (rs.length : Int) = p.ports) (hr : ∀ r ∈ rs, r.Right) (hv : ∀ v ∈ vs, Vl.Ok p.ports.toNat v) (hri : Rising 0 vs) (hvl : vs.length ≤ 8)
    (hA : Rd w A (ruleCells rs)) (hB : Rd w B (vlCells vs)) :
    Calls Tryz.prog 12 #[p.agg (.slice A rs.length c) (.slice B vs.length d)] w fun e w' => ∃ f a fd E C N K A2 B2 c2 d2 V rows, e = .returned (ptr f) ∧ Made w w' p rs vs f a fd E C N K A2 B2 c2 d2 V rows := by
  have hp := hg.ports
  have b0 := Blk.new w (p.cells (.slice A rs.length c) (.slice B vs.length d)) 28
  have hz := (Below.refl w.heap.size w).alloc (Nat.le_refl _) (.cells (p.cells (.slice A rs.length c) (.slice B vs.length d)).toArray 28)
  have hto : Calls Tryz.prog 51 _ _ (fun e w' => ∃ (A' B' : Option Addr) (c' d' : Nat), e = .returned (.agg #[.int .i64 p.ports, .slice A' rs.length c', .slice B' vs.length d', .int .i64 p.sh, .int .i64 p.bu, .int .i64 p.sl, .int .i64 p.tries, .int .i64 p.ring, .int .u32 p.normal, .int .u32 p.short]) ∧
      Own w' (w.alloc (.cells (p.cells (.slice A rs.length c) (.slice B vs.length d)).toArray 28)).heap.size 187 2 (.slice A' rs.length c') rs.length (ruleCells rs) ∧ Own w' (w.alloc (.cells (p.cells (.slice A rs.length c) (.slice B vs.length d)).toArray 28)).heap.size 182 3 (.slice B' vs.length d') vs.length (vlCells vs) ∧ Below (w.alloc (.cells (p.cells (.slice A rs.length c) (.slice B vs.length d)).toArray 28)).heap.size (w.alloc (.cells (p.cells (.slice A rs.length c) (.slice B vs.length d)).toArray 28)) w') :=
    to_calls (w.alloc (.cells (p.cells (.slice A rs.length c) (.slice B vs.length d)).toArray 28)) p A B rs vs c d (hA.below hz) (hB.below hz) (by omega) (by omega)
  have hmk : ∀ (W : World) (A' B' : Option Addr) (c' d' : Nat), Rd W A' (ruleCells rs) → Rd W B' (vlCells vs) → Sv A' rs.length c' → Sv B' vs.length d' → _ := fun W A' B' c' d' h1 h2 h3 h4 => make_calls W p A' B' rs vs c' d' hg hn hr hv hri hvl h1 h2 h3 h4
  simp only [Nums.agg, Nums.cells] at hto hmk b0 hz
  unfold Nums.agg
  go_enter Tryz.func12, Tryz.ntmps12
  go_upto_region 1 with fail
  generalize (w.alloc _) = W0 at b0 hz hto ⊢
  obtain ⟨p0, p1, p2, p3, p4, p5, p6, p7, p8, p9⟩ := plan_cells (r := .slice A rs.length c) (v := .slice B vs.length d) b0
  go_wp2_with (first
    | (go_at_call 51; refine hto.mono ?_; rintro e W1 ⟨A', B', c', d', rfl, hR, hV, hB1⟩)
    | (go_at_call 50; refine (hmk W1 A' B' c' d' (by obtain ⟨_, _, e, _, _, h, _⟩ := hR.slice; cases e; exact h) (by obtain ⟨_, _, e, _, _, h, _⟩ := hV.slice; cases e; exact h) (Sv.of_own hR) (Sv.of_own hV)).mono ?_; rintro e W2 ⟨f, a, fd, E, C, N, K, A2, B2, c2, d2, V, rows, rfl, hMd⟩; obtain ⟨f0, f7, f10, f11, f12⟩ := fab_cells hMd.fab)
    | (go_at_call 43; refine (fmem_calls f10).mono ?_; rintro e w3 ⟨rfl, rfl⟩)
    | (go_at_call 53; refine (ffdb_calls f11).mono ?_; rintro e w3 ⟨rfl, rfl⟩))
  go_ret
  exact ⟨f, a, fd, E, C, N, K, A2, B2, c2, d2, V, rows, rfl, hMd.lift (hz.trans (hB1.mono hz.size))⟩
end Go.Proofs.YtcpaodidpomdaaaGreat

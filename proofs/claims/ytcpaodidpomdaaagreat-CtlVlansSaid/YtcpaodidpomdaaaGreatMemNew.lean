/- mem.New: a memory of so many cells and locks, all new. -/
import Derived.Test.YtcpaodidpomdaaaGreatMem
import Derived.RegionTactic
import Derived.Deep.DeepCutAuto
import Derived.LoopTactic
import Derived.Lib.Hide
set_option linter.unusedVariables false
set_option linter.unusedSimpArgs false
namespace Go.Proofs.YtcpaodidpomdaaaGreat
open Go.RowKit

theorem info_u64 : (Tryz.prog.info? 33).map (fun i => (i.zero, i.size, i.bytes)) = some (some (.int .u64 0), 1, 8) := by kernel_rfl
theorem info_int : (Tryz.prog.info? 3).map (fun i => (i.zero, i.size, i.bytes)) = some (some (.int .i64 0), 1, 8) := by kernel_rfl

def newLocks (K k : Nat) : List Int := List.replicate k (-1) ++ List.replicate (K - k) 0
theorem newLocks_len (K k : Nat) (h : k ≤ K) : (newLocks K k).length = K := by simp [newLocks]; omega
theorem newLocks_set (K k : Nat) (h : k < K) : (newLocks K k).set k (-1) = newLocks K (k + 1) := by
  apply List.ext_getElem
  · simp [newLocks]; omega
  · intro i h1 h2
    simp only [newLocks, List.getElem_set, List.getElem_append, List.getElem_replicate, List.length_replicate]
    split <;> split <;> (try split) <;> first | rfl | omega
theorem newLocks_get (K k : Nat) (h : k < K) : (newLocks K k)[k]? = some 0 := by
  unfold newLocks
  rw [List.getElem?_append_right (by simp), List.getElem?_replicate]
  simp
  omega

/-- New memory at wr, since w. -/
structure MemNew (w wr : World) (n K k : Nat) (s6 : Value) : Prop where
  out : ∃ a : MemA, s6 = .pointer (some ⟨a.m, 0, none⟩) ∧ IsMem wr a ⟨List.replicate n 0, newLocks K k, 0⟩ ∧ Below w.heap.size w wr ∧ ∀ b, a.has b → w.heap.size ≤ b

theorem u64s_rep (n : Nat) : u64s (List.replicate n 0) = List.replicate n (.int .u64 0) := by simp [u64s]
theorem i64s_rep (n : Nat) : i64s (newLocks n 0) = List.replicate n (.int .i64 0) := by simp [i64s, newLocks]

theorem memNew_1 (w : World) (n K : Nat) (hn : n ≤ 1048576) (hK : K ≤ 128) :
    MemNew w (((w.alloc (.cells (madeCells #[.int .u64 0] n) 33)).alloc (.cells (madeCells #[.int .i64 0] K) 3)).alloc (.cells #[.slice (some ⟨w.heap.size, 0, none⟩) n n, .slice (some ⟨w.heap.size + 1, 0, none⟩) K K, .int .i64 0] 161)).drew n K 0 (.pointer (some ⟨w.heap.size + 1 + 1, 0, none⟩)) := by
  refine ⟨⟨w.heap.size + 1 + 1, w.heap.size, w.heap.size + 1⟩, rfl, ⟨?_, ?_, ?_, by simpa using hn, by rw [newLocks_len _ _ (by omega)]; exact hK, by simp⟩, ?_, ?_⟩
  · have := (Blk.new ((w.alloc (.cells (madeCells #[.int .u64 0] n) 33)).alloc (.cells (madeCells #[.int .i64 0] K) 3)) [.slice (some ⟨w.heap.size, 0, none⟩) n n, .slice (some ⟨w.heap.size + 1, 0, none⟩) K K, .int .i64 0] 161).drew
    simpa [newLocks_len _ _ (Nat.zero_le K)] using this
  · rw [u64s_rep]; exact (((Blk.made w (.int .u64 0) n 33).alloc _).alloc _).drew
  · rw [i64s_rep]
    have := ((Blk.made (w.alloc (.cells (madeCells #[.int .u64 0] n) 33)) (.int .i64 0) K 3).alloc (.cells #[.slice (some ⟨w.heap.size, 0, none⟩) n n, .slice (some ⟨w.heap.size + 1, 0, none⟩) K K, .int .i64 0] 161)).drew
    simpa using this
  · exact ((((Kp.refl w (fun _ => False)).alloc _).alloc _).alloc _).drew.toBelow
  · rintro b (rfl | rfl | rfl) <;> simp <;> omega
theorem memNew_2 (w : World) (n K : Nat) (hn : n ≤ 1048576) (hK : K ≤ 128) :
    MemNew w (((w.alloc (.cells (madeCells #[.int .i64 0] K) 3)).alloc (.cells (madeCells #[.int .u64 0] n) 33)).alloc (.cells #[.slice (some ⟨w.heap.size + 1, 0, none⟩) n n, .slice (some ⟨w.heap.size, 0, none⟩) K K, .int .i64 0] 161)).drew n K 0 (.pointer (some ⟨w.heap.size + 1 + 1, 0, none⟩)) := by
  refine ⟨⟨w.heap.size + 1 + 1, w.heap.size + 1, w.heap.size⟩, rfl, ⟨?_, ?_, ?_, by simpa using hn, by rw [newLocks_len _ _ (by omega)]; exact hK, by simp⟩, ?_, ?_⟩
  · have := (Blk.new ((w.alloc (.cells (madeCells #[.int .i64 0] K) 3)).alloc (.cells (madeCells #[.int .u64 0] n) 33)) [.slice (some ⟨w.heap.size + 1, 0, none⟩) n n, .slice (some ⟨w.heap.size, 0, none⟩) K K, .int .i64 0] 161).drew
    simpa [newLocks_len _ _ (Nat.zero_le K)] using this
  · rw [u64s_rep]
    have := ((Blk.made (w.alloc (.cells (madeCells #[.int .i64 0] K) 3)) (.int .u64 0) n 33).alloc (.cells #[.slice (some ⟨w.heap.size + 1, 0, none⟩) n n, .slice (some ⟨w.heap.size, 0, none⟩) K K, .int .i64 0] 161)).drew
    simpa using this
  · rw [i64s_rep]; exact (((Blk.made w (.int .i64 0) K 3).alloc _).alloc _).drew
  · exact ((((Kp.refl w (fun _ => False)).alloc _).alloc _).alloc _).drew.toBelow
  · rintro b (rfl | rfl | rfl) <;> simp <;> omega

set_option maxHeartbeats 1000000 in
theorem new_calls (w : World) (n K : Nat) (h1 : 1 ≤ n) (h2 : n ≤ 1048576) (h3 : K ≤ 128) :
    Calls Tryz.prog 99 #[.int .i64 n, .int .i64 K] w fun e w' => ∃ a : MemA, e = .returned (.tuple #[.pointer (some ⟨a.m, 0, none⟩), .int .i64 0]) ∧
      IsMem w' a ⟨List.replicate n 0, List.replicate K (-1), 0⟩ ∧ Below w.heap.size w w' ∧ ∀ b, a.has b → w.heap.size ≤ b := by
  have k1 := fun W : World => run_make_row' (P := Tryz.prog) 159 33 _ 8 Tryz.underlying159 info_u64 rfl .i64 .i64 n (by omega) (by omega) W
  have k2 := fun W : World => run_make_row' (P := Tryz.prog) 90 3 _ 8 Tryz.underlying90 info_int rfl .i64 .i64 K (by omega) (by omega) W
  have b1 : (1 : Int) ≤ (n : Int) := by omega
  have b2 : (n : Int) ≤ 1048576 := by omega
  have b3 : (0 : Int) ≤ (K : Int) := by omega
  have b4 : (K : Int) ≤ 128 := by omega
  go_enter Tryz.func99, Tryz.ntmps99
  go_upto_region 3 with fail
  go_cut [6] (fun s6 wx => MemNew w wx n K 0 s6)
  case first =>
    go_region
    all_goals (go_wp2_with fail; go_meet)
    · exact memNew_1 w n K h2 h3
    · exact memNew_2 w n K h2 h3
  case rest =>
    obtain ⟨a, rfl, hM, hB, hf⟩ := hcut
    clear k1 k2
    have c1 := hM.c1
    rw [show (newLocks K 0).length = K from newLocks_len _ _ (by omega)] at c1
    go_wp2_with fail
    go_loopw [33, 7] (fun i _ wr => ∃ k : Nat, k ≤ K ∧ i = .int .i64 k ∧ IsMem wr a ⟨List.replicate n 0, newLocks K k, 0⟩ ∧ Below w.heap.size w wr) (fun i _ _ => K - (intOf i).toNat)
    case atStart => exact ⟨0, Nat.zero_le _, rfl, hM, hB⟩
    case round =>
      obtain ⟨k, hk, rfl, hM1, hB1⟩ := hrel
      have d1 := hM1.c1
      rw [show (newLocks K k).length = K from newLocks_len _ _ hk] at d1
      by_cases hlt : k < K
      · have d2 : wr.cell? ⟨a.lb, k, none⟩ = some (.int .i64 0) := hM1.hl.get _ (i64s_get (newLocks_get K k hlt))
        have d3 := hM1.hl.frozen k
        have hN := hM1.setL k (-1)
        simp only [newLocks_set K k hlt] at hN
        have hB2 := hB1.setCell (p := ⟨a.lb, k, none⟩) (hf _ (.inr (.inr rfl))) (.int .i64 (-1))
        clear hM1 hB1 hM hB
        go_wp2
        go_roundw
        case rel => exact ⟨k + 1, by omega, by go_num, hN, hB2⟩
        case measure => simp [intOf]; omega
      · have e : k = K := by omega
        have hk2 : (K : Int) ≤ (k : Int) := by omega
        have hM2 : IsMem wr a ⟨List.replicate n 0, List.replicate K (-1), 0⟩ := by
          subst e
          simpa [newLocks] using hM1
        clear e hM1 hM hB hlt
        go_wp2
        go_ret2
        exact ⟨a, rfl, hM2, hB1, hf⟩
end Go.Proofs.YtcpaodidpomdaaaGreat

/- Package ring: where a ring and its acts lie, and the steps of a Push. -/
import Derived.Test.YtcpaodidpomdaaaGreatMem
import Derived.RegionTactic
import Derived.Deep.DeepCutAuto
import Derived.Deep.RegionHeld3
import Derived.Deep.QuietTactic
import Derived.BigQuiet
import Derived.Laws.EntriesVeiled
set_option linter.unusedVariables false
set_option linter.unusedSimpArgs false
namespace Go.Proofs.YtcpaodidpomdaaaGreat
open Go.RowKit

structure EndS where
  count : Int
  spot : Int
  busy : Bool
structure RingS where
  base : Int
  size : Int
  inn : EndS
  out : EndS
structure IsRing (w : World) (r m : Nat) (s : RingS) : Prop where
  out : Blk w r [ptr m, .int .i64 s.base, .int .i64 s.size, .int .u64 s.inn.count, .int .i64 s.inn.spot, .bool s.inn.busy, .int .u64 s.out.count, .int .i64 s.out.spot, .bool s.out.busy] 158
structure RActS where
  next : FuncId
  value : Int
  ok : Bool
  mark : Int
  over : Bool
structure IsRAct (w : World) (b r off : Nat) (s : RActS) : Prop where
  out : Blk w b [ptr r, .pointer (some ⟨r, off, none⟩), fnv s.next, .int .u64 s.value, .bool s.ok, .int .i64 s.mark, .bool s.over] 198

section
variable {w w1 : World} {r m b off : Nat} {s : RingS} {x : RActS} {S : Nat → Prop}
theorem IsRing.kp (h : IsRing w r m s) (k : Kp w w1 S) (hn : ¬ S r) : IsRing w1 r m s := ⟨h.out.kp k hn⟩
theorem IsRAct.kp (h : IsRAct w b r off x) (k : Kp w w1 S) (hn : ¬ S b) : IsRAct w1 b r off x := ⟨h.out.kp k hn⟩
theorem IsRing.drew (h : IsRing w r m s) : IsRing w.drew r m s := ⟨h.out.drew⟩
theorem IsRAct.drew (h : IsRAct w b r off x) : IsRAct w.drew b r off x := ⟨h.out.drew⟩
theorem IsMem.drew {a : MemA} {s : MemS} (h : IsMem w a s) : IsMem w.drew a s := ⟨h.hm.drew, h.hc.drew, h.hl.drew, h.nc, h.nl, h.t0⟩
theorem IsRing.ne_mem {a : MemA} {t : MemS} (h : IsRing w r m s) (hM : IsMem w a t) : ¬ r = a.m := h.out.ne hM.hm (by decide)
theorem IsRing.ne_cb {a : MemA} {t : MemS} (h : IsRing w r m s) (hM : IsMem w a t) : ¬ r = a.cb := h.out.ne hM.hc (by decide)
theorem IsRing.ne_lb {a : MemA} {t : MemS} (h : IsRing w r m s) (hM : IsMem w a t) : ¬ r = a.lb := h.out.ne hM.hl (by decide)
theorem IsRAct.ne_mem {a : MemA} {t : MemS} (h : IsRAct w b r off x) (hM : IsMem w a t) : ¬ b = a.m := h.out.ne hM.hm (by decide)
theorem IsRAct.ne_cb {a : MemA} {t : MemS} (h : IsRAct w b r off x) (hM : IsMem w a t) : ¬ b = a.cb := h.out.ne hM.hc (by decide)
theorem IsRAct.ne_lb {a : MemA} {t : MemS} (h : IsRAct w b r off x) (hM : IsMem w a t) : ¬ b = a.lb := h.out.ne hM.hl (by decide)
theorem IsRAct.ne_ring {r' m : Nat} (h : IsRAct w b r off x) (hR : IsRing w r' m s) : ¬ b = r' := h.out.ne hR.out (by decide)
theorem IsMem.far {a : MemA} {t : MemS} (h : IsMem w a t) {p : Addr} (hp : ¬ a.has p.block) (u : Value) : IsMem (w.setCell p u) a t :=
  ⟨h.hm.far (fun e => hp (.inl e.symm)) u, h.hc.far (fun e => hp (.inr (.inl e.symm))) u, h.hl.far (fun e => hp (.inr (.inr e.symm))) u, h.nc, h.nl, h.t0⟩
theorem IsRAct.off_mem {a : MemA} {t : MemS} (h : IsRAct w b r off x) (hM : IsMem w a t) : ¬ a.has b := by
  rintro (e | e | e)
  · exact h.ne_mem hM e
  · exact h.ne_cb hM e
  · exact h.ne_lb hM e
theorem IsRing.off_mem {a : MemA} {t : MemS} (h : IsRing w r m s) (hM : IsMem w a t) : ¬ a.has r := by
  rintro (e | e | e)
  · exact h.ne_mem hM e
  · exact h.ne_cb hM e
  · exact h.ne_lb hM e
/-- What a step of a Push loads, beside the memory. -/
theorem push_cells (hR : IsRing w r m s) (hA : IsRAct w b r 3 x) :
    w.cell? ⟨b, 0, none⟩ = some (ptr r) ∧ w.cell? ⟨b, 1, none⟩ = some (.pointer (some ⟨r, 3, none⟩)) ∧ w.cell? ⟨b, 3, none⟩ = some (.int .u64 x.value) ∧
    w.cell? ⟨r, 0, none⟩ = some (ptr m) ∧ w.cell? ⟨r, 1, none⟩ = some (.int .i64 s.base) ∧ w.cell? ⟨r, 2, none⟩ = some (.int .i64 s.size) ∧
    w.cell? ⟨r, 3, none⟩ = some (.int .u64 s.inn.count) ∧ w.cell? ⟨r, 4, none⟩ = some (.int .i64 s.inn.spot) :=
  ⟨hA.out.get 0 rfl, hA.out.get 1 rfl, hA.out.get 3 rfl, hR.out.get 0 rfl, hR.out.get 1 rfl, hR.out.get 2 rfl, hR.out.get 3 rfl, hR.out.get 4 rfl⟩
end

set_option maxRecDepth 100000 in
/-- One who asks for room finds some. -/
theorem room_yes {w : World} {a : MemA} {s : MemS} {r b : Nat} {rs : RingS} {x : RActS} {tk : Int} (hM : IsMem w a s) (hs : Small s.time) (hR : IsRing w r a.m rs) (hA : IsRAct w b r 3 x)
    (hb : 0 ≤ rs.base) (hb2 : rs.base ≤ 1048576) (hz : 1 ≤ rs.size) (hz2 : rs.size ≤ 64) (htk : s.cells[(rs.base + 1).toNat]? = some tk) (h0 : 0 ≤ tk) (h1 : tk ≤ rs.inn.count) (h2 : Small rs.inn.count) (hroom : rs.inn.count - tk < rs.size) :
    Calls Tryz.prog 114 #[ptr b] w fun e w' => e = .returned (.bool false) ∧
      IsMem w' a { s with time := s.time + 1 } ∧ IsRAct w' b r 3 { x with next := 162 } ∧ Kp w w' (fun k => k = a.m ∨ k = b) := by
  have hM0 := hM.drew
  have hR0 := hR.drew
  have hA0 := hA.drew
  have hload := load_calls hM0 hs (rs.base + 1) tk (by omega) htk
  have hK0 := (Kp.refl w (fun k => k = a.m ∨ k = b)).drew
  have n1 := hR0.ne_mem hM0
  have n2 := hA0.ne_mem hM0
  unfold Small at h2
  clear htk
  have hw1 : IntKind.i64.wrap (rs.base + 1) = rs.base + 1 := IntWalk.i64_in _ (by omega)
  have hw2 : IntKind.u64.wrap (rs.inn.count - tk) = rs.inn.count - tk := IntWalk.u64_in _ (by omega)
  have hw3 : IntKind.u64.wrap rs.size = rs.size := IntWalk.u64_in _ (by omega)
  go_enter Tryz.func114, Tryz.ntmps114
  go_wp2_with fail
  go_region_held3 (fun w' => w'.cell? ⟨b, 0, none⟩ = some (ptr r) ∧ w'.cell? ⟨b, 1, none⟩ = some (.pointer (some ⟨r, 3, none⟩)) ∧ w'.cell? ⟨b, 3, none⟩ = some (.int .u64 x.value) ∧ w'.cell? ⟨r, 0, none⟩ = some (ptr a.m) ∧ w'.cell? ⟨r, 1, none⟩ = some (.int .i64 rs.base) ∧ w'.cell? ⟨r, 2, none⟩ = some (.int .i64 rs.size) ∧ w'.cell? ⟨r, 3, none⟩ = some (.int .u64 rs.inn.count) ∧ w'.cell? ⟨r, 4, none⟩ = some (.int .i64 rs.inn.spot))
    (exact push_cells (by assumption) (by assumption))
    (first | (go_at_call 82; refine hload.mono ?_; rintro e w1 ⟨rfl, hM1, hK1⟩; have hR1 := hR0.kp hK1 n1; have hA1 := hA0.kp hK1 n2; have hK2 := hK0.trans hK1 (fun _ _ h => .inl h)))
  clear hw1 hw2 hw3
  have c2 := hA1.out.get 2 rfl
  have f2 := hA1.out.frozen 2
  have hA2 := hA1.out.put 2 (fnv 162) rfl
  have hK3 := hK2.setCell (p := ⟨b, 2, none⟩) (fun _ => .inr rfl) (fnv 162)
  have hM2 := hM1.far (p := ⟨b, 2, none⟩) (hA1.off_mem hM1) (fnv 162)
  clear hM hR hA hM0 hR0 hA0 hM1 hR1 hA1
  go_wp2
  go_ret
  exact ⟨rfl, hM2, ⟨hA2⟩, hK3⟩
end Go.Proofs.YtcpaodidpomdaaaGreat

/- A plan as data: rules, VLANs, numbers; what may be. -/
import Derived.Test.YtcpaodidpomdaaaGreatSets
set_option linter.unusedVariables false
set_option linter.unusedSimpArgs false
namespace Go.Proofs.YtcpaodidpomdaaaGreat
open Go.RowKit

structure Rule where
  pvid : Int
  accept : Int
structure Vl where
  vid : Int
  mem : Nat
  unt : Nat
def ruleCells (l : List Rule) : List Value := l.flatMap fun r => [.int .i64 r.pvid, .int .i64 r.accept]
def vlCells (l : List Vl) : List Value := l.flatMap fun v => [.int .i64 v.vid, .int .u64 (v.mem : Int), .int .u64 (v.unt : Int)]
/-- A plan's numbers. -/
structure Nums where
  ports : Int
  sh : Int
  bu : Int
  sl : Int
  tries : Int
  ring : Int
  normal : Int
  short : Int
def Nums.cells (p : Nums) (r v : Value) : List Value :=
  [.int .i64 p.ports, r, v, .int .i64 p.sh, .int .i64 p.bu, .int .i64 p.sl, .int .i64 p.tries, .int .i64 p.ring, .int .u32 p.normal, .int .u32 p.short]
def Nums.agg (p : Nums) (r v : Value) : Value :=
  .agg #[.int .i64 p.ports, r, v, .int .i64 p.sh, .int .i64 p.bu, .int .i64 p.sl, .int .i64 p.tries, .int .i64 p.ring, .int .u32 p.normal, .int .u32 p.short]
structure Nums.Good (p : Nums) : Prop where
  ports : 2 ≤ p.ports ∧ p.ports ≤ 8
  sh : 1 ≤ p.sh ∧ p.sh ≤ 8
  bu : 1 ≤ p.bu ∧ p.bu ≤ 16
  sl : 1 ≤ p.sl ∧ p.sl ≤ 8
  tries : 1 ≤ p.tries ∧ p.tries ≤ 8
  ring : 1 ≤ p.ring ∧ p.ring ≤ 64

theorem info_rule : (Tryz.prog.info? 124).map (fun i => (i.zero.map (·.cells.size), i.size, i.bytes)) = some (some 2, 2, 16) := by kernel_rfl
theorem info_vlan : (Tryz.prog.info? 80).map (fun i => (i.zero.map (·.cells.size), i.size, i.bytes)) = some (some 3, 3, 24) := by kernel_rfl

structure Rule.Right (r : Rule) : Prop where
  pvid : 1 ≤ r.pvid ∧ r.pvid ≤ 4094
  accept : 0 ≤ r.accept ∧ r.accept ≤ 2
theorem ruleCells_snoc (l : List Rule) (r : Rule) : ruleCells (l ++ [r]) = ruleCells l ++ [.int .i64 r.pvid, .int .i64 r.accept] := by simp [ruleCells]
theorem ruleCells_len (l : List Rule) : (ruleCells l).length = l.length * 2 := by
  induction l with
  | nil => rfl
  | cons r l ih => simp [ruleCells] at *; omega
theorem ruleCells_get (l : List Rule) (k : Nat) (r : Rule) (h : l[k]? = some r) : (ruleCells l)[k * 2]? = some (.int .i64 r.pvid) ∧ (ruleCells l)[k * 2 + 1]? = some (.int .i64 r.accept) := by
  induction l generalizing k with
  | nil => simp at h
  | cons x l ih =>
    cases k with
    | zero => simp at h; subst h; exact ⟨rfl, rfl⟩
    | succ k =>
      simp at h
      have := ih k h
      have e : (k + 1) * 2 = k * 2 + 2 := by omega
      rw [e]
      exact this
/-- VLANs that may be, their numbers rising. -/
def lastVid (a : Int) : List Vl → Int
  | [] => a
  | v :: l => lastVid v.vid l
def Rising (a : Int) : List Vl → Prop
  | [] => True
  | v :: l => a < v.vid ∧ Rising v.vid l
theorem lastVid_snoc (a : Int) (l : List Vl) (v : Vl) : lastVid a (l ++ [v]) = v.vid := by
  induction l generalizing a with
  | nil => rfl
  | cons x l ih => exact ih x.vid
theorem Rising_snoc (a : Int) (l : List Vl) (v : Vl) : Rising a (l ++ [v]) ↔ Rising a l ∧ lastVid a l < v.vid := by
  induction l generalizing a with
  | nil => simp [Rising, lastVid]
  | cons x l ih => simp [Rising, lastVid, ih, and_assoc]
/-- One VLAN, of so many ports. -/
structure Vl.Ok (n : Nat) (v : Vl) : Prop where
  vid : 1 ≤ v.vid ∧ v.vid ≤ 24
  mem : v.mem < pw n
  unt : v.unt &&& v.mem = v.unt
theorem vlCells_snoc (l : List Vl) (v : Vl) : vlCells (l ++ [v]) = vlCells l ++ [.int .i64 v.vid, .int .u64 (v.mem : Int), .int .u64 (v.unt : Int)] := by simp [vlCells]
theorem vlCells_get (l : List Vl) (k : Nat) (v : Vl) (h : l[k]? = some v) : (vlCells l)[k * 3]? = some (.int .i64 v.vid) ∧ (vlCells l)[k * 3 + 1]? = some (.int .u64 (v.mem : Int)) ∧ (vlCells l)[k * 3 + 2]? = some (.int .u64 (v.unt : Int)) := by
  induction l generalizing k with
  | nil => simp at h
  | cons x l ih =>
    cases k with
    | zero => simp at h; subst h; exact ⟨rfl, rfl, rfl⟩
    | succ k =>
      simp at h
      have := ih k h
      have e : (k + 1) * 3 = k * 3 + 3 := by omega
      rw [e]
      exact this
theorem plan_cells {w : World} {b : Nat} {p : Nums} {r v : Value} {T : TypeId} (h : Blk w b (p.cells r v) T) :
    w.cell? ⟨b, 0, none⟩ = some (.int .i64 p.ports) ∧ w.cell? ⟨b, 1, none⟩ = some r ∧ w.cell? ⟨b, 2, none⟩ = some v ∧ w.cell? ⟨b, 3, none⟩ = some (.int .i64 p.sh) ∧ w.cell? ⟨b, 4, none⟩ = some (.int .i64 p.bu) ∧ w.cell? ⟨b, 5, none⟩ = some (.int .i64 p.sl) ∧ w.cell? ⟨b, 6, none⟩ = some (.int .i64 p.tries) ∧ w.cell? ⟨b, 7, none⟩ = some (.int .i64 p.ring) ∧ w.cell? ⟨b, 8, none⟩ = some (.int .u32 p.normal) ∧ w.cell? ⟨b, 9, none⟩ = some (.int .u32 p.short) :=
  ⟨h.get 0 rfl, h.get 1 rfl, h.get 2 rfl, h.get 3 rfl, h.get 4 rfl, h.get 5 rfl, h.get 6 rfl, h.get 7 rfl, h.get 8 rfl, h.get 9 rfl⟩
/-- The plan p is laid into block b. -/
def laidPlan (w : World) (b : Nat) (q : Nums) (r v : Value) : World :=
  (((((((((w.setCell ⟨b, 0, none⟩ (.int .i64 q.ports)).setCell ⟨b, 1, none⟩ r).setCell ⟨b, 2, none⟩ v).setCell ⟨b, 3, none⟩ (.int .i64 q.sh)).setCell ⟨b, 4, none⟩ (.int .i64 q.bu)).setCell ⟨b, 5, none⟩ (.int .i64 q.sl)).setCell ⟨b, 6, none⟩ (.int .i64 q.tries)).setCell ⟨b, 7, none⟩ (.int .i64 q.ring)).setCell ⟨b, 8, none⟩ (.int .u32 q.normal)).setCell ⟨b, 9, none⟩ (.int .u32 q.short)
theorem laidPlan_kp (w : World) (b : Nat) (q : Nums) (r v : Value) : Kp w (laidPlan w b q r v) (fun k => k = b) := by
  unfold laidPlan
  exact ((((((((((Kp.refl w (fun k => k = b)).setCell (p := ⟨b, 0, none⟩) (fun _ => rfl) _).setCell (p := ⟨b, 1, none⟩) (fun _ => rfl) _).setCell (p := ⟨b, 2, none⟩) (fun _ => rfl) _).setCell (p := ⟨b, 3, none⟩) (fun _ => rfl) _).setCell (p := ⟨b, 4, none⟩) (fun _ => rfl) _).setCell (p := ⟨b, 5, none⟩) (fun _ => rfl) _).setCell (p := ⟨b, 6, none⟩) (fun _ => rfl) _).setCell (p := ⟨b, 7, none⟩) (fun _ => rfl) _).setCell (p := ⟨b, 8, none⟩) (fun _ => rfl) _).setCell (p := ⟨b, 9, none⟩) (fun _ => rfl) _
theorem laidPlan_blk {w : World} {b : Nat} {p q : Nums} {r v r' v' : Value} {T : TypeId} (h : Blk w b (p.cells r' v') T) : Blk (laidPlan w b q r v) b (q.cells r v) T := by
  unfold laidPlan
  exact (((((((((h.set 0 _).set 1 _).set 2 _).set 3 _).set 4 _).set 5 _).set 6 _).set 7 _).set 8 _).set 9 _
/-- What Fix answers. -/
def FixPost (w : World) (e : Ending) (w' : World) : Prop := ∃ (q : Nums) (rs : List Rule) (vs : List Vl) (A B : Option Addr) (c d : Nat), e = .returned (q.agg (.slice A rs.length c) (.slice B vs.length d)) ∧ q.Good ∧ (rs.length : Int) = q.ports ∧ (∀ r ∈ rs, r.Right) ∧
  (∀ v ∈ vs, v.Ok q.ports.toNat) ∧ Rising 0 vs ∧ vs.length ≤ 8 ∧ Rd w' A (ruleCells rs) ∧ Rd w' B (vlCells vs) ∧ Below w.heap.size w w'

end Go.Proofs.YtcpaodidpomdaaaGreat

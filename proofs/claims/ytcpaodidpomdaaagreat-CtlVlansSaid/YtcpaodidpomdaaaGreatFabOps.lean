/- What a fabric's calls do: its ports' locks, its stands' and VLANs' words. -/
import Derived.Test.YtcpaodidpomdaaaGreatFabr
import Derived.Test.YtcpaodidpomdaaaGreatOwn
set_option linter.unusedVariables false
set_option linter.unusedSimpArgs false
namespace Go.Proofs.YtcpaodidpomdaaaGreat
open Go.RowKit

theorem passed_len (s : MemS) (l : Nat) (x y : Int) : (passed s l x y).cells = s.cells ∧ (passed s l x y).locks.length = s.locks.length ∧ (passed s l x y).time = s.time + 1 := by
  unfold passed; split <;> simp

theorem fhas_yes {w : World} {f : Nat} (P q : Int) (h : w.cell? ⟨f, 0, none⟩ = some (.int .i64 P)) (h0 : 0 ≤ q) (h1 : q < P) :
    Calls Tryz.prog 72 #[ptr f, .int .i64 q] w fun e w' => e = .returned (.bool true) ∧ w = w' := by
  go_enter Tryz.func72, Tryz.ntmps72
  go_wp2
  go_ret
  exact ⟨rfl, rfl⟩
theorem fhas_no {w : World} {f : Nat} (P q : Int) (h : w.cell? ⟨f, 0, none⟩ = some (.int .i64 P)) (h1 : q < 0 ∨ P ≤ q) :
    Calls Tryz.prog 72 #[ptr f, .int .i64 q] w fun e w' => e = .returned (.bool false) ∧ w = w' := by
  by_cases h0 : q < 0
  · go_enter Tryz.func72, Tryz.ntmps72
    go_wp2
    go_ret
    exact ⟨rfl, rfl⟩
  · have h2 : decide (q < P) = false := by simp; omega
    have h3 : 0 ≤ q := by omega
    clear h0 h1
    go_enter Tryz.func72, Tryz.ntmps72
    go_wp2
    go_ret
    exact ⟨rfl, rfl⟩

/-- What a call of a fabric's memory keeps: all but the memory. -/
theorem Fab.memturn {F : FA} {w w1 : World} {s s1 : MemS} {rg : Nat → Nat → RingS} {S : Nat → Prop} (h : Fab F w s rg) (hm : IsMem w1 F.a s1) (k : Kp w w1 S) (hS : ∀ b, S b → F.a.has b) (hc : s1.cells.length = s.cells.length) (hl : s1.locks.length = s.locks.length) : Fab F w1 s1 rg :=
  h.turn hm k (fun b e => .inl (hS b e)) hc hl
theorem FA.has_m (a : MemA) : ∀ b, b = a.m → a.has b := fun _ h => .inl h
theorem FA.has_c (a : MemA) : ∀ b, (b = a.m ∨ b = a.cb) → a.has b := fun _ h => h.elim .inl (fun h => .inr (.inl h))
theorem FA.has_l (a : MemA) : ∀ b, (b = a.m ∨ b = a.lb) → a.has b := fun _ h => h.elim .inl (fun h => .inr (.inr h))

section
variable {F : FA} {w : World} {s : MemS} {rg : Nat → Nat → RingS}
theorem Fab.ports (h : Fab F w s rg) : w.cell? ⟨F.f, 0, none⟩ = some (.int .i64 F.p.ports) := (fab_cells h.fab).1
theorem Fab.memc (h : Fab F w s rg) : w.cell? ⟨F.f, 10, none⟩ = some (ptr F.a.m) := (fab_cells h.fab).2.2.1
theorem Fab.nlocks (h : Fab F w s rg) : (s.locks.length : Int) = F.p.ports + F.p.sh := by have := h.nl; have := h.ok.made.hK; omega
theorem Fab.ncells (h : Fab F w s rg) : F.p.ports + 2 * (F.vs.length : Int) ≤ (s.cells.length : Int) := by
  have h1 := h.nc
  have h2 := h.ok.made.hE
  have h3 := h.ok.made.hN
  have h4 := h.ok.made.hC
  have g := h.ok.good
  obtain ⟨p1, p2⟩ := g.ports
  obtain ⟨s1, s2⟩ := g.sh
  obtain ⟨b1, b2⟩ := g.bu
  obtain ⟨l1, l2⟩ := g.sl
  obtain ⟨r1, r2⟩ := g.ring
  have x1 := (mul_bd F.p.sh F.p.bu 8 16 (by omega) s2 (by omega) b2)
  have x2 := (mul_bd (F.p.sh * F.p.bu) (1 + 2 * F.p.sl) 128 17 x1.1 x1.2 (by omega) (by omega)).1
  have y1 := (mul_bd F.p.ports F.p.ports 8 8 (by omega) p2 (by omega) p2)
  have y2 := (mul_bd (F.p.ports * F.p.ports) (F.p.ring + 2) 64 66 y1.1 y1.2 (by omega) (by omega)).1
  omega

theorem ftake_calls (hF : Fab F w s rg) (hs : Small s.time) (q y : Int) (h0 : 0 ≤ q) (h1 : q < F.p.ports) (hy : 0 ≤ y) :
    Calls Tryz.prog 27 #[ptr F.f, .int .i64 q, .int .i64 y] w fun e w' =>
      e = .returned (.bool (lockIs s q.toNat (-1))) ∧ Fab F w' (passed s q.toNat (-1) y) rg ∧ Kp w w' F.a.has := by
  have c0 := hF.ports
  have c1 := hF.memc
  have hn := hF.nlocks
  have hg := hF.ok.good.sh
  have ht := take_calls hF.mem hs q y h0 (by omega) hy
  have hh := fhas_yes F.p.ports q c0 h0 h1
  obtain ⟨l1, l2, l3⟩ := passed_len s q.toNat (-1) y
  have HF := Go.Lib.hid hF
  have HL := Go.Lib.hid l1
  clear hF hs hn l1
  go_enter Tryz.func27, Tryz.ntmps27
  go_wp2_with (first
    | (go_at_call 72; refine hh.mono ?_; rintro e w' ⟨rfl, rfl⟩)
    | (go_at_call 73; refine ht.mono ?_; rintro e w' ⟨rfl, hM, hK⟩))
  go_ret
  exact ⟨rfl, HF.out.memturn hM hK (FA.has_l _) (by rw [HL.out]) l2, hK.mono (fun b _ hb => FA.has_l _ b hb)⟩

theorem ffree_calls (hF : Fab F w s rg) (hs : Small s.time) (q y : Int) (h0 : 0 ≤ q) (h1 : q < F.p.ports) (hy : 0 ≤ y) :
    Calls Tryz.prog 34 #[ptr F.f, .int .i64 q, .int .i64 y] w fun e w' =>
      e = .returned (.bool (lockIs s q.toNat y)) ∧ Fab F w' (passed s q.toNat y (-1)) rg ∧ Kp w w' F.a.has := by
  have c0 := hF.ports
  have c1 := hF.memc
  have hn := hF.nlocks
  have hg := hF.ok.good.sh
  have ht := free_calls hF.mem hs q y h0 (by omega) hy
  have hh := fhas_yes F.p.ports q c0 h0 h1
  obtain ⟨l1, l2, l3⟩ := passed_len s q.toNat y (-1)
  have HF := Go.Lib.hid hF
  have HL := Go.Lib.hid l1
  clear hF hs hn l1
  go_enter Tryz.func34, Tryz.ntmps34
  go_wp2_with (first
    | (go_at_call 72; refine hh.mono ?_; rintro e w' ⟨rfl, rfl⟩)
    | (go_at_call 83; refine ht.mono ?_; rintro e w' ⟨rfl, hM, hK⟩))
  go_ret
  exact ⟨rfl, HF.out.memturn hM hK (FA.has_l _) (by rw [HL.out]) l2, hK.mono (fun b _ hb => FA.has_l _ b hb)⟩
end

/-! Package port. -/
theorem pright_calls (w : World) (st : Int) (h0 : 0 ≤ st) (h1 : st ≤ 4) :
    Calls Tryz.prog 74 #[.int .i64 st] w fun e w' => e = .returned (.bool true) ∧ w = w' := by
  go_enter Tryz.func74, Tryz.ntmps74
  go_wp2
  go_ret
  exact ⟨rfl, rfl⟩
theorem pforwards_calls (w : World) (st : Int) :
    Calls Tryz.prog 209 #[.int .i64 st] w fun e w' => e = .returned (.bool (st == 4)) ∧ w = w' := by
  go_enter Tryz.func209, Tryz.ntmps209
  go_wp2
  go_ret
  exact ⟨rfl, rfl⟩
/-- How a port stands, as a word. -/
def standW (st ep : Int) : Int := st + 256 * ep
set_option maxRecDepth 100000 in
theorem pof_calls (w : World) (st ep : Int) (h0 : 0 ≤ st) (h1 : st ≤ 4) (h2 : 0 ≤ ep) (h3 : ep < 4294967296) :
    Calls Tryz.prog 81 #[.int .u64 (standW st ep)] w fun e w' => e = .returned (.tuple #[.agg #[.int .i64 st, .int .u32 ep], .bool true]) ∧ Below w.heap.size w w' := by
  have e1 : bits BinOp.and IntKind.u64 (standW st ep) 255 = st := by
    have h := u64_and_nat (standW st ep).toNat 255 (by unfold standW; omega) (by omega)
    rw [nat_mask8] at h
    have e : (((standW st ep).toNat : Nat) : Int) = standW st ep := by unfold standW; omega
    rw [e] at h
    refine h.trans ?_
    unfold standW
    omega
  have e2 : standW st ep / 256 = ep := by unfold standW; omega
  have e3 : standW st ep / 1099511627776 = 0 := by unfold standW; omega
  have b1 : 0 ≤ standW st ep := by unfold standW; omega
  have b2 : standW st ep < 1099511627776 := by unfold standW; omega
  generalize standW st ep = W at *
  go_enter Tryz.func81, Tryz.ntmps81
  go_wp2_with (go_at_call 74; refine (pright_calls _ st h0 h1).mono ?_; rintro e w' ⟨rfl, rfl⟩)
  refine bodyPost_ret (v := .tuple #[.agg #[.int .i64 st, .int .u32 ep], .bool true]) (by simp [results, Tryz.results81, go_sem]) rfl ⟨rfl, ?_⟩
  exact ((Below.refl w.heap.size w).alloc (Nat.le_refl _) _).alloc (by simp) _

theorem pset_calls (w : World) (st ep q : Int) (h0 : 0 ≤ q) (h1 : q ≤ 4) (h2 : 0 ≤ ep) (h3 : ep + 1 < 4294967296) :
    Calls Tryz.prog 215 #[.agg #[.int .i64 st, .int .u32 ep], .int .i64 q] w fun e w' => e = .returned (.tuple #[.agg #[.int .i64 q, .int .u32 (ep + 1)], .int .i64 0]) ∧ Below w.heap.size w w' := by
  go_enter Tryz.func215, Tryz.ntmps215
  go_wp2_with (go_at_call 74; refine (pright_calls _ q h0 h1).mono ?_; rintro e w' ⟨rfl, rfl⟩)
  refine bodyPost_ret (v := .tuple #[.agg #[.int .i64 q, .int .u32 (ep + 1)], .int .i64 0]) (by simp [results, Tryz.results215, go_sem]) rfl ⟨rfl, ?_⟩
  first | exact ((Below.refl w.heap.size w).alloc (Nat.le_refl _) _).alloc (by simp) _ | exact (((Below.refl w.heap.size w).alloc (Nat.le_refl _) _).alloc (by simp) _).alloc (by simp; omega) _

theorem pword_calls (w : World) (st ep : Int) (h0 : 0 ≤ st) (h1 : st ≤ 4) (h2 : 0 ≤ ep) (h3 : ep < 4294967296) :
    Calls Tryz.prog 216 #[.agg #[.int .i64 st, .int .u32 ep]] w fun e w' => e = .returned (.int .u64 (standW st ep)) ∧ Below w.heap.size w w' := by
  have e1 : bits BinOp.or IntKind.u64 st (ep * 256) = standW st ep := by
    have h := u64_or_nat st.toNat (ep.toNat * 256) (by omega) (by omega)
    rw [Nat.or_comm, nat_join 8 (ep.toNat * 256) st.toNat (by omega) (by omega)] at h
    have x1 : ((st.toNat : Nat) : Int) = st := by omega
    have x2 : ((ep.toNat * 256 : Nat) : Int) = ep * 256 := by omega
    rw [x1, x2] at h
    rw [h, Int.natCast_add, x1, x2]
    unfold standW
    omega
  have hB := (Below.refl w.heap.size w).alloc (Nat.le_refl _) (.cells #[.int .i64 st, .int .u32 ep] 72)
  go_enter Tryz.func216, Tryz.ntmps216
  go_wp2_with (go_at_call 74; refine (pright_calls _ st h0 h1).mono ?_; rintro e w' ⟨rfl, rfl⟩)
  go_ret
  first | exact ⟨rfl, hB⟩ | exact ⟨rfl, hB.alloc (by simp) _⟩

/-! Package vlan: which VLAN. -/
/-- The place of a VLAN; -1: there is none. -/
def FindIs (vs : List Vl) (vid r : Int) : Prop :=
  (∃ (k : Nat) (v : Vl), r = k ∧ vs[k]? = some v ∧ v.vid = vid) ∨ (r = -1 ∧ ∀ v ∈ vs, v.vid ≠ vid)
theorem rising_lt {a : Int} {l : List Vl} (h : Rising a l) {i : Nat} {v : Vl} (hv : l[i]? = some v) : a < v.vid := by
  induction l generalizing a i with
  | nil => simp at hv
  | cons x l ih =>
    cases i with
    | zero => simp at hv; subst hv; exact h.1
    | succ i => simp at hv; have := ih h.2 hv; have := h.1; omega
theorem rising_inj {a : Int} {l : List Vl} (h : Rising a l) {i j : Nat} {v u : Vl} (hv : l[i]? = some v) (hu : l[j]? = some u) (e : v.vid = u.vid) : i = j := by
  induction l generalizing a i j with
  | nil => simp at hv
  | cons x l ih =>
    cases i with
    | zero =>
      cases j with
      | zero => rfl
      | succ j => simp at hv hu; subst hv; have := rising_lt h.2 hu; omega
    | succ i =>
      cases j with
      | zero => simp at hv hu; subst hu; have := rising_lt h.2 hv; omega
      | succ j => simp at hv hu; rw [ih h.2 hv hu]
theorem FindIs.at {vs : List Vl} {a r : Int} {j : Nat} {v : Vl} (h : FindIs vs v.vid r) (hr : Rising a vs) (hv : vs[j]? = some v) : r = j := by
  rcases h with ⟨k, u, rfl, hu, e⟩ | ⟨_, h⟩
  · rw [rising_inj hr hu hv e]
  · exact absurd rfl (h v (List.mem_of_getElem? hv))
theorem FindIs.none {vs : List Vl} {vid r : Int} (h : FindIs vs vid r) (hn : ∀ v ∈ vs, v.vid ≠ vid) : r = -1 := by
  rcases h with ⟨k, u, rfl, hu, e⟩ | ⟨h, _⟩
  · exact absurd e (hn u (List.mem_of_getElem? hu))
  · exact h
theorem FindIs.bd {vs : List Vl} {vid r : Int} (h : FindIs vs vid r) : -1 ≤ r ∧ r < (vs.length : Int) ∨ r = -1 := by
  rcases h with ⟨k, u, rfl, hu, e⟩ | ⟨h, _⟩
  · have := (List.getElem?_eq_some_iff.1 hu).1; omega
  · exact .inr h

theorem vfn_calls (w : World) (v : Vl) (vid : Int) (b : Nat) (h : w.cell? ⟨b, 0, none⟩ = some (.int .i64 vid)) :
    Calls Tryz.prog 179 #[.agg #[.int .i64 v.vid, .int .u64 (v.mem : Int), .int .u64 (v.unt : Int)], .pointer (some ⟨b, 0, none⟩)] w fun e w' => e = .returned (.bool (v.vid == vid)) ∧ Below w.heap.size w w' := by
  have hlt : b < w.heap.size := World.block_lt_of_cell? w _ h
  have hne : ¬ b = w.heap.size := by omega
  have hne2 : ¬ w.heap.size = b := by omega
  have hB := (Below.refl w.heap.size w).alloc (Nat.le_refl _) (.cells #[.int .i64 v.vid, .int .u64 (v.mem : Int), .int .u64 (v.unt : Int)] 182)
  have h2 : (w.alloc (.cells #[.int .i64 v.vid, .int .u64 (v.mem : Int), .int .u64 (v.unt : Int)] 182)).cell? ⟨b, 0, none⟩ = some (.int .i64 vid) := by rw [World.cell?_alloc_past _ _ _ hlt]; exact h
  go_enter Tryz.func179, Tryz.ntmps179
  go_wp2_with fail
  go_ret
  exact ⟨rfl, hB⟩

theorem vlanIndex_calls (w : World) (A : Option Addr) (vs : List Vl) (c : Nat) (vid : Int) (b : Nat) (h : w.cell? ⟨b, 0, none⟩ = some (.int .i64 vid)) (hR : Rd w A (vlCells vs)) (hlen : vs.length ≤ 8) :
    Calls Tryz.prog 178 #[.slice A vs.length c, .func (.func 179) #[] #[.pointer (some ⟨b, 0, none⟩)]] w fun e w' => (∃ r : Int, e = .returned (.int .i64 r) ∧ FindIs vs vid r) ∧ Below w.heap.size w w' := by
  have H0 := Below.refl w.heap.size w
  have hblt : b < w.heap.size := World.block_lt_of_cell? w _ h
  go_enter Tryz.func178, Tryz.ntmps178
  go_wp2_with fail
  go_loopg [4, 8] vs.length (fun d _ i wr => ∃ k : Nat, k + d = vs.length ∧ i = .int .i64 k ∧ Below w.heap.size w wr ∧ ∀ (j : Nat) (u : Vl), j < k → vs[j]? = some u → u.vid ≠ vid)
  case atStart => exact ⟨0, by omega, rfl, H0, fun j u h => by omega⟩
  case round =>
    obtain ⟨k, hk, rfl, hB, hno⟩ := hrel
    by_cases hlt : k < vs.length
    · obtain ⟨v, hv⟩ := get_of_lt hlt
      obtain ⟨k1, k2, k3⟩ := vlCells_get vs _ v hv
      obtain ⟨ba, oa, hA1, m1⟩ := hR.out _ _ k1
      obtain ⟨ba', oa', hA2, m2⟩ := hR.out _ _ k2
      obtain ⟨ba'', oa'', hA3, m3⟩ := hR.out _ _ k3
      rw [hA1] at hA2 hA3
      obtain ⟨rfl, rfl⟩ : ba' = ba ∧ oa' = oa := by
        injection hA2 with h
        injection h with h3 h4
        exact ⟨h3.symm, h4.symm⟩
      obtain ⟨rfl, rfl⟩ : ba'' = ba' ∧ oa'' = oa' := by
        injection hA3 with h
        injection h with h3 h4
        exact ⟨h3.symm, h4.symm⟩
      subst hA1
      rw [← Nat.add_assoc] at m2 m3
      have lt0 : ba'' < w.heap.size := World.block_lt_of_cell? w _ m1
      have hz := hB.size
      have M1 : wr.cell? ⟨ba'', oa'' + k * 3, none⟩ = some (.int .i64 v.vid) := (hB.cell (p := ⟨ba'', oa'' + k * 3, none⟩) lt0).trans m1
      have M2 : wr.cell? ⟨ba'', oa'' + k * 3 + 1, none⟩ = some (.int .u64 (v.mem : Int)) := (hB.cell (p := ⟨ba'', oa'' + k * 3 + 1, none⟩) lt0).trans m2
      have M3 : wr.cell? ⟨ba'', oa'' + k * 3 + 2, none⟩ = some (.int .u64 (v.unt : Int)) := (hB.cell (p := ⟨ba'', oa'' + k * 3 + 2, none⟩) lt0).trans m3
      have hfn := vfn_calls wr v vid b ((hB.cell (p := ⟨b, 0, none⟩) hblt).trans h)
      have lk : (k : Int) < (vs.length : Int) := by omega
      have hg : 0 < gk := by omega
      have HK := Go.Lib.hid hk
      have HB := Go.Lib.hid hB
      have HN := Go.Lib.hid hno
      have HV := Go.Lib.hid hv
      by_cases hvid : v.vid = vid
      · have he : (v.vid == vid) = true := by simp [hvid]
        rw [he] at hfn
        have HE := Go.Lib.hid hvid
        clear hk hA2 hA3 k1 k2 k3 hv m1 m2 m3 hB hno h he hvid
        go_wp2_with (go_at_call 179; refine hfn.mono ?_; rintro e w' ⟨rfl, hB1⟩)
        go_ret
        exact ⟨⟨k, rfl, .inl ⟨k, v, rfl, HV.out, HE.out⟩⟩, HB.out.trans (hB1.mono hz)⟩
      · have he : (v.vid == vid) = false := by simp [hvid]
        rw [he] at hfn
        have HE := Go.Lib.hid hvid
        clear hk hA2 hA3 k1 k2 k3 hv m1 m2 m3 hB hno h he hvid
        go_wp2_with (go_at_call 179; refine hfn.mono ?_; rintro e w' ⟨rfl, hB1⟩)
        go_roundg (gk - 1)
        case measure => omega
        case rel =>
          refine ⟨k + 1, by have := HK.out; omega, by simp, HB.out.trans (hB1.mono hz), fun j u hj hu => ?_⟩
          by_cases e : j = k
          · subst e
            rw [HV.out] at hu
            injection hu with hu
            subst hu
            exact HE.out
          · exact HN.out j u (by omega) hu
    · have hge : (vs.length : Int) ≤ (k : Int) := by omega
      have HN := Go.Lib.hid hno
      have e : k = vs.length := by omega
      have HE := Go.Lib.hid e
      clear hlt hno e
      go_wp2_with fail
      go_ret
      refine ⟨⟨-1, rfl, .inr ⟨rfl, fun v hv => ?_⟩⟩, hB⟩
      obtain ⟨j, hj, rfl⟩ := List.getElem_of_mem hv
      exact HN.out j _ (by have := HE.out; omega) (List.getElem?_eq_getElem hj)

theorem find_calls (w : World) (A : Option Addr) (vs : List Vl) (c : Nat) (vid : Int) (hR : Rd w A (vlCells vs)) (hl : vs.length ≤ 8) :
    Calls Tryz.prog 127 #[.slice A vs.length c, .int .i64 vid] w fun e w' => (∃ r : Int, e = .returned (.int .i64 r) ∧ FindIs vs vid r) ∧ Below w.heap.size w w' := by
  have hB := (Below.refl w.heap.size w).alloc (Nat.le_refl _) (.cells #[.int .i64 vid] 3)
  have hI := vlanIndex_calls (w.alloc (.cells #[.int .i64 vid] 3)) A vs c vid w.heap.size (by have := (Blk.new w [.int .i64 vid] 3).get 0 rfl; exact this) (hR.below hB) hl
  have hz := hB.size
  go_enter Tryz.func127, Tryz.ntmps127
  go_wp2_with (go_at_call 178; refine hI.mono ?_; rintro e w' ⟨⟨r, rfl, hr⟩, hB1⟩)
  go_ret
  exact ⟨⟨r, rfl, hr⟩, hB.trans (hB1.mono hz)⟩

section
variable {F : FA} {w : World} {s : MemS} {rg : Nat → Nat → RingS}
theorem fvlan_calls (hF : Fab F w s rg) (vid : Int) :
    Calls Tryz.prog 76 #[ptr F.f, .int .i64 vid] w fun e w' => (∃ r : Int, e = .returned (.int .i64 r) ∧ FindIs F.vs vid r) ∧ Below w.heap.size w w' := by
  have hf := find_calls w F.B F.vs F.d vid hF.vl hF.ok.nvl
  have c2 := hF.fab.get 2 rfl
  go_enter Tryz.func76, Tryz.ntmps76
  go_wp2_with (go_at_call 127; refine hf.mono ?_; rintro e w' ⟨⟨r, rfl, hr⟩, hB1⟩)
  go_ret
  exact ⟨⟨r, rfl, hr⟩, hB1⟩

/-- A VLAN's words. -/
theorem fmembers_calls (hF : Fab F w s rg) (hs : Small s.time) (vid : Int) (j : Nat) (v : Vl) (hv : F.vs[j]? = some v) (hid : v.vid = vid) (x : Int) (hx : s.cells[(F.p.ports + 2 * j).toNat]? = some x) :
    Calls Tryz.prog 37 #[ptr F.f, .int .i64 vid] w fun e w' => e = .returned (.int .u64 x) ∧ Fab F w' { s with time := s.time + 1 } rg ∧ Kp w w' F.a.has := by
  subst hid
  have hj := (List.getElem?_eq_some_iff.1 hv).1
  have hn := hF.ok.nvl
  have hp := hF.ok.good.ports
  have hfv := fvlan_calls hF v.vid
  have hri := hF.ok.ris
  have HF := Go.Lib.hid hF
  have HV := Go.Lib.hid hv
  clear hv hF
  have k1 : (0 : Int) ≤ j := by omega
  go_enter Tryz.func37, Tryz.ntmps37
  go_wp2_with (go_at_call 76; refine hfv.mono ?_; rintro e w1 ⟨⟨r, rfl, hr⟩, hB1⟩; obtain rfl := hr.at hri HV.out)
  have hF1 := (HF.out.below hB1).drew
  have hK1 := (Kp.of_below (S := F.a.has) hB1).drew
  have hld := load_calls hF1.mem hs (F.p.ports + 2 * j) x (by omega) hx
  have c0 := hF1.ports
  have c1 := hF1.memc
  clear hfv hr hx hB1
  go_region_held3 (fun w' => w'.cell? ⟨F.f, 0, none⟩ = some (.int .i64 F.p.ports) ∧ w'.cell? ⟨F.f, 10, none⟩ = some (ptr F.a.m)) (first | exact ⟨c0, c1⟩ | exact ⟨hF2.ports, hF2.memc⟩)
    (first
      | (go_at_call 84; refine (vlanAt_calls F.p.ports j c0 ⟨by omega, by omega⟩ ⟨by omega, by omega⟩).mono ?_; rintro e w2 ⟨rfl, rfl⟩)
      | (go_at_call 82; refine hld.mono ?_; rintro e w3 ⟨rfl, hM, hK⟩; have hF2 := hF1.memturn hM hK (FA.has_m _) rfl rfl; have hK2 := hK1.trans hK (fun b _ hb => FA.has_m _ b hb)))
  all_goals
    go_wp2_with fail
    go_ret
    exact ⟨rfl, hF2, hK2⟩
theorem funtagged_calls (hF : Fab F w s rg) (hs : Small s.time) (vid : Int) (j : Nat) (v : Vl) (hv : F.vs[j]? = some v) (hid : v.vid = vid) (x : Int) (hx : s.cells[(F.p.ports + 2 * j + 1).toNat]? = some x) :
    Calls Tryz.prog 38 #[ptr F.f, .int .i64 vid] w fun e w' => e = .returned (.int .u64 x) ∧ Fab F w' { s with time := s.time + 1 } rg ∧ Kp w w' F.a.has := by
  subst hid
  have hj := (List.getElem?_eq_some_iff.1 hv).1
  have hn := hF.ok.nvl
  have hp := hF.ok.good.ports
  have hfv := fvlan_calls hF v.vid
  have hri := hF.ok.ris
  have HF := Go.Lib.hid hF
  have HV := Go.Lib.hid hv
  clear hv hF
  have k1 : (0 : Int) ≤ j := by omega
  go_enter Tryz.func38, Tryz.ntmps38
  go_wp2_with (go_at_call 76; refine hfv.mono ?_; rintro e w1 ⟨⟨r, rfl, hr⟩, hB1⟩; obtain rfl := hr.at hri HV.out)
  have hF1 := (HF.out.below hB1).drew
  have hK1 := (Kp.of_below (S := F.a.has) hB1).drew
  have hld := load_calls hF1.mem hs (F.p.ports + 2 * j + 1) x (by omega) hx
  have c0 := hF1.ports
  have c1 := hF1.memc
  clear hfv hr hx hB1
  have hw1 : IntKind.i64.wrap (F.p.ports + 2 * (j : Int) + 1) = F.p.ports + 2 * (j : Int) + 1 := IntWalk.i64_in _ (by omega)
  go_region_held3 (fun w' => w'.cell? ⟨F.f, 0, none⟩ = some (.int .i64 F.p.ports) ∧ w'.cell? ⟨F.f, 10, none⟩ = some (ptr F.a.m)) (first | exact ⟨c0, c1⟩ | exact ⟨hF2.ports, hF2.memc⟩)
    (first
      | (go_at_call 84; refine (vlanAt_calls F.p.ports j c0 ⟨by omega, by omega⟩ ⟨by omega, by omega⟩).mono ?_; rintro e w2 ⟨rfl, rfl⟩)
      | (go_at_call 82; refine hld.mono ?_; rintro e w3 ⟨rfl, hM, hK⟩; have hF2 := hF1.memturn hM hK (FA.has_m _) rfl rfl; have hK2 := hK1.trans hK (fun b _ hb => FA.has_m _ b hb)))
  all_goals
    go_wp2_with fail
    go_ret
    exact ⟨rfl, hF2, hK2⟩
theorem fstand_calls (hF : Fab F w s rg) (hs : Small s.time) (q st ep : Int) (h0 : 0 ≤ q) (h1 : q < F.p.ports) (hx : s.cells[q.toNat]? = some (standW st ep)) (g0 : 0 ≤ st) (g1 : st ≤ 4) (g2 : 0 ≤ ep) (g3 : ep < 4294967296) :
    Calls Tryz.prog 32 #[ptr F.f, .int .i64 q] w fun e w' => e = .returned (.agg #[.int .i64 st, .int .u32 ep]) ∧ Fab F w' { s with time := s.time + 1 } rg ∧ Kp w w' F.a.has := by
  have hF0 := hF.alloc (.cells #[.int .i64 0, .int .u32 0] 72)
  have hM0 := hF0.mem
  have hK0 := (Kp.refl w F.a.has).alloc (.cells #[.int .i64 0, .int .u32 0] 72)
  have hb0 := Blk.new w [.int .i64 0, .int .u32 0] 72
  have hlt : F.w0.heap.size ≤ w.heap.size := hF.kp.size
  clear hF
  go_enter Tryz.func32, Tryz.ntmps32
  go_wp2_with fail
  obtain ⟨b0, hb⟩ : ∃ b, w.heap.size = b := ⟨_, rfl⟩
  rw [hb] at hb0 hlt ⊢
  have HB := Go.Lib.hid hb
  generalize (w.alloc _) = W at *
  have c0 := hF0.ports
  have c1 := hF0.memc
  have hlt2 : b0 < W.heap.size := hb0.lt
  clear hb
  refine (fhas_yes F.p.ports q c0 h0 h1).mono ?_
  rintro e w1 ⟨rfl, rfl⟩
  go_wp2_with (go_at_call 82; refine (load_calls hF0.mem hs q (standW st ep) h0 hx).mono ?_; rintro e w2 ⟨rfl, hM, hK⟩)
  refine (pof_calls _ st ep g0 g1 g2 g3).mono ?_
  rintro e w3 ⟨rfl, hB⟩
  have hb3 := (hb0.kp hK (fun e => hb0.ne hM0.hm (by decide) e)).below hB
  have n1 := hb3.lt
  have n2 : ¬ b0 = w3.heap.size := by omega
  have n3 : ¬ w3.heap.size = b0 := by omega
  have d0 := hb3.get 0 rfl
  have d1 := hb3.get 1 rfl
  have f0 := hb3.frozen 0
  have f1 := hb3.frozen 1
  have hF3 := (hF0.memturn hM hK (FA.has_m _) rfl rfl).below hB
  have hK3 := (hK0.trans hK (fun b _ hb => FA.has_m _ b hb)).trans (Kp.of_below (S := fun _ => False) hB) (fun _ _ h => h.elim)
  clear hF0 hK0 hM hK hB c0 c1 hx hb0
  go_wp2_with fail
  have hk4 := (((Kp.refl w3 (fun k => k = b0)).setCell (p := ⟨b0, 0, none⟩) (fun _ => rfl) (.int .i64 st)).setCell (p := ⟨b0, 1, none⟩) (fun _ => rfl) (.int .u32 ep)).alloc (.cells #[.int .i64 st, .int .u32 ep] 72)
  have hb4 := ((hb3.set 0 (.int .i64 st)).set 1 (.int .u32 ep)).alloc (.cells #[.int .i64 st, .int .u32 ep] 72)
  have q0 := hb4.get 0 rfl
  have q1 := hb4.get 1 rfl
  refine bodyPost_ret (v := .agg #[.int .i64 st, .int .u32 ep]) (by simp [results, Tryz.results32, go_sem, q0, q1]) rfl ⟨rfl, hF3.past hk4 (fun b e => by rw [e]; exact hlt), hK3.trans hk4 (fun b hlt' e => by have := HB.out; omega)⟩
end
end Go.Proofs.YtcpaodidpomdaaaGreat

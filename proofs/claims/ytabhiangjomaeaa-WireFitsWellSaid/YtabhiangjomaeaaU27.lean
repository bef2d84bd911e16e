/- wire.Unpack: walk. wire.Unpack's way: plain parts, and its callees' contracts in its memory. -/
import Derived.Test.YtabhiangjomaeaaU26
import Derived.Deep.RegionHeld3
import Derived.Deep.RegionWith
import Derived.Deep.DeepCutAuto
import Derived.Laws.Tables
namespace Go.Proofs.Ytabhiangjomaeaa.unpack
open Go.RowKit Go.Proofs.Ytabhiangjomaeaa.kit Go.Proofs.Ytabhiangjomaeaa.nspec Go.Proofs.Ytabhiangjomaeaa.unpP Go.Proofs.Ytabhiangjomaeaa.wireP Go.Proofs.Ytabhiangjomaeaa.wireM Go.Proofs.Ytabhiangjomaeaa.wireC Go.Proofs.Ytabhiangjomaeaa.wpack Go.Proofs.Ytabhiangjomaeaa.rows Go.Proofs.Ytabhiangjomaeaa.cur Go.Proofs.Ytabhiangjomaeaa.cname Go.Proofs.Ytabhiangjomaeaa.crec Go.Proofs.Ytabhiangjomaeaa.putM Go.Proofs.Ytabhiangjomaeaa.udoor Go.Proofs.Ytabhiangjomaeaa.ust Go.Proofs.Ytabhiangjomaeaa.uend
set_option linter.unusedVariables false

theorem and64 : ∀ n : Fin 256, (bits .and .u8 (n.val : Int) 64 != 0) = decide (n.val / 64 % 2 = 1) := by decide +kernel
theorem and64' {n : Nat} (h : n < 256) : (bits .and .u8 (n : Int) 64 != 0) = decide (n / 64 % 2 = 1) := and64 ⟨n, h⟩
theorem cells_all (p : Pl) (m : Mg) : (cellsM p m).all (·.oneCell') = true := by simp [cellsM, Value.oneCell']
/-- the three boxes -/
def boxes (w : World) (k : Nat) (e : Int) : World := ((w.alloc (.cells (cellsM ⟨none, 0, none, 0, none, 0, none, 0⟩ noM) 37)).alloc (.cells #[.int .i64 (k : Int)] 3)).alloc (.cells #[.int .i64 e] 40)
theorem boxes_at (w : World) (k : Nat) (e : Int) : MsgAt (boxes w k e) w.heap.size ⟨none, 0, none, 0, none, 0, none, 0⟩ noM ∧ (boxes w k e).heap[w.heap.size + 1]? = some (.cells #[.int .i64 (k : Int)] 3 (0, 0)) ∧ (boxes w k e).heap[w.heap.size + 2]? = some (.cells #[.int .i64 e] 40 (0, 0)) ∧ Below w.heap.size w (boxes w k e) ∧ (boxes w k e).heap.size = w.heap.size + 3 := by
  have s1 : ∀ (w : World) o, (w.alloc o).heap.size = w.heap.size + 1 := fun w o => by simp
  have hB : Below w.heap.size w (boxes w k e) := (((Below.refl w.heap.size w).alloc (Nat.le_refl _) _).alloc (by rw [s1]; omega) _).alloc (by rw [s1, s1]; omega) _
  refine ⟨?_, ?_, ?_, hB, by unfold boxes; rw [s1, s1, s1]⟩
  · exact (heap_alloc_old _ _ (by rw [s1, s1]; omega)).trans ((heap_alloc_old _ _ (by rw [s1]; omega)).trans (heap_alloc_new _ _))
  · have h := heap_alloc_new (w.alloc (.cells (cellsM ⟨none, 0, none, 0, none, 0, none, 0⟩ noM) 37)) (.cells #[.int .i64 (k : Int)] 3)
    rw [s1] at h
    exact (heap_alloc_old _ _ (by rw [s1, s1]; omega)).trans h
  · have h := heap_alloc_new ((w.alloc (.cells (cellsM ⟨none, 0, none, 0, none, 0, none, 0⟩ noM) 37)).alloc (.cells #[.int .i64 (k : Int)] 3)) (.cells #[.int .i64 e] 40)
    rw [s1, s1] at h
    exact h
/-- the end ahead of the door -/
theorem early (w : World) (k : Nat) (e : Int) (tmps : Array Value) (h2 : tmps[2]?.getD undef = .pointer (some ⟨w.heap.size, 0, none⟩)) (h3 : tmps[3]?.getD undef = .pointer (some ⟨w.heap.size + 1, 0, none⟩)) (h4 : tmps[4]?.getD undef = .pointer (some ⟨w.heap.size + 2, 0, none⟩)) :
    bodyPostD Try.prog Try.f26 (UnpE w.heap.size w (noM, k, e)) .ret { tmps := tmps, defers := [] } (boxes w k e) := by
  obtain ⟨g1, g2, g3, g4, _⟩ := boxes_at w k e
  exact door_none g1 (by simp only [World.cell?, g2]; rfl) (by simp only [World.cell?, g3]; rfl) (Own4.none _ _) g4 rfl tmps h2 h3 h4
theorem two_set {W w0 : World} {b0 : Nat} {pl : Pl} {m : Mg} {va ve : Value} (hM : MsgAt W b0 pl m) (ha : W.heap[b0 + 1]? = some (.cells #[va] 3 (0, 0))) (he : W.heap[b0 + 2]? = some (.cells #[ve] 40 (0, 0))) (ho : Own4 b0 W pl m) (hB : Below b0 w0 W) (k e : Int) :
    MsgAt ((W.setCell ⟨b0 + 1, 0, none⟩ (.int .i64 k)).setCell ⟨b0 + 2, 0, none⟩ (.int .i64 e)) b0 pl m ∧ ((W.setCell ⟨b0 + 1, 0, none⟩ (.int .i64 k)).setCell ⟨b0 + 2, 0, none⟩ (.int .i64 e)).cell? ⟨b0 + 1, 0, none⟩ = some (.int .i64 k) ∧
    ((W.setCell ⟨b0 + 1, 0, none⟩ (.int .i64 k)).setCell ⟨b0 + 2, 0, none⟩ (.int .i64 e)).cell? ⟨b0 + 2, 0, none⟩ = some (.int .i64 e) ∧ Own4 b0 ((W.setCell ⟨b0 + 1, 0, none⟩ (.int .i64 k)).setCell ⟨b0 + 2, 0, none⟩ (.int .i64 e)) pl m ∧ Below b0 w0 ((W.setCell ⟨b0 + 1, 0, none⟩ (.int .i64 k)).setCell ⟨b0 + 2, 0, none⟩ (.int .i64 e)) := by
  have a1 := heap_setCell_same W (b0 + 1) 0 _ _ (.int .i64 k) ha
  have e1 := (far_one (b := b0 + 1) (j := 0) (v := .int .i64 k) (show b0 + 2 ≠ b0 + 1 by omega)).trans he
  have e2 := heap_setCell_same _ (b0 + 2) 0 _ _ (.int .i64 e) e1
  have a2 := (far_one (b := b0 + 2) (j := 0) (v := .int .i64 e) (show b0 + 1 ≠ b0 + 2 by omega)).trans a1
  refine ⟨(far_one (by omega)).trans ((far_one (by omega)).trans hM), ?_, ?_, own_set (own_set ho ha (by decide) (by decide)) e1 (by decide) (by decide), below_one (below_one hB (by omega)) (by omega)⟩
  · simp only [World.cell?, a2]; rfl
  · simp only [World.cell?, e2]; rfl
theorem wpList_store_self {ops : Array Oper} {rest : List Oper} {o : Oper} {a : Act} {w : World} {Q : Exit → Act → World → Prop} (hgd : o.guard = none) (ty : TypeId) (x y : Operand) (ho : o.op = .store ty x y)
    (g : Nat) (cells : Array Value) (hx : a.eval x = .pointer (some ⟨g, 0, none⟩)) (hy : a.eval y = .agg cells)
    (t : TypeId) (hg : w.heap[g]? = some (.cells cells t (0, 0))) (hi : (Try.prog.info? ty).map (·.size) = some cells.size) (h1 : cells.all (·.oneCell') = true)
    (h : wpList Try.prog ops Q rest (a.put o.dst undef) w) : wpList Try.prog ops Q (o :: rest) a w :=
  wpList_store_row hgd ty x y ho g cells hx hy t cells hg hi rfl h1 (by rw [setRow_self _ _ _ _ _ hg]; exact h)
set_option maxRecDepth 100000 in
set_option maxHeartbeats 4000000 in
theorem unpack_big (a : Option Addr) (b : Bs) (cap : Nat) (w : World) (hi : In0 w.heap.size w a b cap) (h : 65535 < b.length) :
    Calls Try.prog 26 #[.slice a b.length cap] w (UnpE w.heap.size w (unpackS b)) := by
  have hr : unpackS b = (noM, 0, 12) := by unfold unpackS; rw [if_pos h]
  rw [hr]
  obtain ⟨L, hL⟩ : ∃ L, b.length = L := ⟨_, rfl⟩
  have hle := hi.le; have hcm := hi.cm
  unfold maxLen at hcm
  rw [hL] at h hle ⊢
  have hLi : (65535 : Int) < (L : Int) := by omega
  clear hL hr
  go_enter_defers Try.func26, Try.ntmps26
  go_wp2_with fail
  exact early w 0 12 _ rfl rfl rfl
set_option maxRecDepth 100000 in
set_option maxHeartbeats 4000000 in
theorem unpack_few (a : Option Addr) (b : Bs) (cap : Nat) (w : World) (hi : In0 w.heap.size w a b cap) (h : b.length < 12) :
    Calls Try.prog 26 #[.slice a b.length cap] w (UnpE w.heap.size w (unpackS b)) := by
  have hr : unpackS b = (noM, b.length, 10) := by unfold unpackS; rw [if_neg (by omega), if_pos h]
  rw [hr]
  obtain ⟨L, hL⟩ : ∃ L, b.length = L := ⟨_, rfl⟩
  have hle := hi.le; have hcm := hi.cm
  unfold maxLen at hcm
  rw [hL] at h hle ⊢
  have hLi : (L : Int) < 12 := by omega
  clear hL hr
  go_enter_defers Try.func26, Try.ntmps26
  go_wp2_with fail
  exact early w L 10 _ rfl rfl rfl
set_option maxRecDepth 100000 in
set_option maxHeartbeats 4000000 in
theorem unpack_form (a : Option Addr) (b : Bs) (cap : Nat) (w : World) (hi : In0 w.heap.size w a b cap) (h : ¬ 65535 < b.length) (h12 : ¬ b.length < 12) (h3 : atB b 3 / 64 % 2 = 1) :
    Calls Try.prog 26 #[.slice a b.length cap] w (UnpE w.heap.size w (unpackS b)) := by
  have hr : unpackS b = (noM, 2, 8) := by unfold unpackS; rw [if_neg h, if_neg h12, if_pos h3]
  rw [hr]
  have hle := hi.le; have hcm := hi.cm
  unfold maxLen at hcm
  obtain ⟨c3, hc3, hn3⟩ := atB_some (b := b) (k := 3) (by omega)
  obtain ⟨g, o, rfl, hg, hcell⟩ := hi.rd 3 c3 hc3
  rw [← hn3] at hcell
  have hb3 := and64' (atB_lt b 3)
  rw [decide_eq_true h3] at hb3
  obtain ⟨z, hz⟩ : ∃ z, atB b 3 = z := ⟨_, rfl⟩
  rw [hz] at hb3 hcell
  obtain ⟨L, hL⟩ : ∃ L, b.length = L := ⟨_, rfl⟩
  rw [hL] at h h12 hle ⊢
  have hLi : (12 : Int) ≤ (L : Int) := by omega
  have hLj : (L : Int) ≤ 65535 := by omega
  clear hL hr hz h3
  obtain ⟨b0, hb0⟩ : ∃ b0, w.heap.size = b0 := ⟨_, rfl⟩
  have hbx := boxes_at w 0 0
  have hcw := (hbx.2.2.2.1.cell (p := ⟨g, o + 3, none⟩) hg).trans hcell
  obtain ⟨W, hW⟩ : ∃ W, boxes w 0 0 = W := ⟨_, rfl⟩
  rw [hW, hb0] at hbx
  rw [hW] at hcw
  rw [hb0]
  have HBX := Lib.hid hbx; have HW := Lib.hid hW
  clear hbx hW
  go_enter_defers Try.func26, Try.ntmps26
  go_upto_region 5 with fail
  change Code.wp _ _ _ _ (boxes w 0 0)
  rw [HW.out]
  go_upto_region 6 with fail
  have hM := HBX.out.1
  have ca : W.cell? ⟨b0 + 1, 0, none⟩ = some (.int .i64 0) := by simp only [World.cell?, HBX.out.2.1]; rfl
  have ce : W.cell? ⟨b0 + 2, 0, none⟩ = some (.int .i64 0) := by simp only [World.cell?, HBX.out.2.2.1]; rfl
  have za : W.frozen? ⟨b0 + 1, 0, none⟩ = false := by simp only [World.frozen?, HBX.out.2.1]; simp
  have ze : W.frozen? ⟨b0 + 2, 0, none⟩ = false := by simp only [World.frozen?, HBX.out.2.2.1]; simp
  go_wp2_with (first | (refine wpList_load_row rfl 37 _ rfl b0 rfl 37 _ _ _ hM Try.underlying37 rfl (by rw [infoMsg]; rfl) ?_) | (refine wpList_store_self rfl 37 _ _ rfl b0 _ rfl rfl 37 hM (by rw [infoMsg]; rfl) (cells_all _ _) ?_))
  obtain ⟨k1, k2, k3, k4, k5⟩ := two_set (k := 2) (e := 8) hM HBX.out.2.1 HBX.out.2.2.1 (Own4.none _ _) HBX.out.2.2.2.1
  trace_state
  exact door_none (k := 2) k1 k2 k3 k4 k5 rfl _ rfl rfl rfl
end Go.Proofs.Ytabhiangjomaeaa.unpack
namespace Go.Proofs.Ytabhiangjomaeaa.unpackP
open Go.RowKit Go.Proofs.Ytabhiangjomaeaa.kit Go.Proofs.Ytabhiangjomaeaa.nspec Go.Proofs.Ytabhiangjomaeaa.unpP Go.Proofs.Ytabhiangjomaeaa.wireP Go.Proofs.Ytabhiangjomaeaa.wireM Go.Proofs.Ytabhiangjomaeaa.wireC Go.Proofs.Ytabhiangjomaeaa.wpack Go.Proofs.Ytabhiangjomaeaa.rows Go.Proofs.Ytabhiangjomaeaa.cur Go.Proofs.Ytabhiangjomaeaa.cname Go.Proofs.Ytabhiangjomaeaa.crec Go.Proofs.Ytabhiangjomaeaa.putM Go.Proofs.Ytabhiangjomaeaa.udoor Go.Proofs.Ytabhiangjomaeaa.ust Go.Proofs.Ytabhiangjomaeaa.uend Go.Proofs.Ytabhiangjomaeaa.unpack
set_option linter.unusedVariables false

/-- what comes of the sections that are left -/
def outU (b : Bs) : Nat → Nat → Mg → Nat → Mg × Nat × Int
  | 0, _, m, k => if k < b.length then (noM, k, 11) else (m, 0, 0)
  | f + 1, s, m, k => match manyU (recU b) (num2 b (6 + 2 * s)) k with
    | .bad e i => (noM, i, e)
    | .ok l j => outU b f (s + 1) (updM m s l) j
/-- what comes of the records of a section that are left -/
def inU (b : Bs) (f s : Nat) (m : Mg) (n k : Nat) : Mg × Nat × Int :=
  match manyU (recU b) n k with
    | .bad e i => (noM, i, e)
    | .ok l j => outU b f (s + 1) (updM m s (secL m s ++ l)) j
/-- what comes of the questions that are left -/
def quU (b : Bs) (m : Mg) (n k : Nat) : Mg × Nat × Int :=
  match manyU (quesU b) n k with
    | .bad e i => (noM, i, e)
    | .ok l j => outU b 3 0 { m with qs := m.qs ++ l } j
def headM (b : Bs) : Mg := ⟨num2 b 0, signB (num2 b 2) 15, num2 b 2 / 2048 % 16, signB (num2 b 2) 10, signB (num2 b 2) 9, signB (num2 b 2) 8, signB (num2 b 2) 7, signB (num2 b 2) 5, signB (num2 b 2) 4, num2 b 2 % 16, [], [], [], []⟩
theorem unpack_is {b : Bs} (h : ¬ 65535 < b.length) (h12 : ¬ b.length < 12) (h3 : ¬ atB b 3 / 64 % 2 = 1) : unpackS b = quU b (headM b) (num2 b 4) 12 := by
  unfold unpackS quU
  rw [if_neg h, if_neg h12, if_neg h3]
  cases manyU (quesU b) (num2 b 4) 12 with
  | bad e i => rfl
  | ok qs k0 =>
    simp only [outU]
    cases manyU (recU b) (num2 b 6) k0 with
    | bad e i => rfl
    | ok an k1 =>
      simp only
      cases manyU (recU b) (num2 b 8) k1 with
      | bad e i => rfl
      | ok au k2 =>
        simp only
        cases manyU (recU b) (num2 b 10) k2 with
        | bad e i => rfl
        | ok ar k3 => rfl
theorem quU_end (b : Bs) (m : Mg) (k : Nat) : quU b m 0 k = outU b 3 0 m k := by
  unfold quU manyU; simp
theorem quU_bad {b : Bs} {m : Mg} {n k : Nat} {e : Int} (h : quesU b k = .bad e) : quU b m (n + 1) k = (noM, k, e) := by
  unfold quU; simp only [manyU, h]
theorem quU_ok {b : Bs} {m : Mg} {n k j : Nat} {x : Qn} (h : quesU b k = .ok x j) : quU b m (n + 1) k = quU b { m with qs := m.qs ++ [x] } n j := by
  unfold quU; simp only [manyU, h]
  cases manyU (quesU b) n j with
  | bad e i => rfl
  | ok l i => simp
theorem inU_start (b : Bs) (f s : Nat) (m : Mg) (k : Nat) (h : secL m s = []) : inU b f s m (num2 b (6 + 2 * s)) k = outU b (f + 1) s m k := by
  unfold inU; simp only [outU, h, List.nil_append]
theorem inU_end (b : Bs) (f s : Nat) (m : Mg) (k : Nat) : inU b f s m 0 k = outU b f (s + 1) (updM m s (secL m s)) k := by
  unfold inU manyU; simp
theorem updM_self (m : Mg) (s : Nat) : updM m s (secL m s) = m := by match s with | 0 => rfl | 1 => rfl | _ + 2 => rfl
theorem inU_bad {b : Bs} {f s : Nat} {m : Mg} {n k : Nat} {e : Int} (h : recU b k = .bad e) : inU b f s m (n + 1) k = (noM, k, e) := by
  unfold inU; simp only [manyU, h]
theorem inU_ok {b : Bs} {f s : Nat} {m : Mg} {n k j : Nat} {x : Rc} (h : recU b k = .ok x j) : inU b f s m (n + 1) k = inU b f s (updM m s (secL m s ++ [x])) n j := by
  unfold inU; simp only [manyU, h]
  cases manyU (recU b) n j with
  | bad e i => rfl
  | ok l i => simp only [secL_upd, updM_upd, List.append_assoc, List.singleton_append]

section
variable {b0 : Nat} {w0 wr : World} {a : Option Addr} {b : Bs} {cap : Nat} {pl : Pl} {m : Mg} {k g : Nat}
theorem num_st (hi : In0 b0 w0 a b cap) (hl : b.length ≤ 65535) (h : St b0 w0 wr a b cap pl m k g) (hk : k + 2 ≤ b.length) :
    Calls Try.prog 62 #[.pointer (some ⟨b0 + 3, 0, none⟩), .int .i64 2] wr fun e w' => e = .returned (.int .i64 (num2 b k : Int)) ∧ St b0 w0 w' a b cap pl m (k + 2) g ∧ EffC (b0 + 3) wr w' :=
  (number_ok (b0 + 3) a b cap k 2 wr (h.cur hi) hl (by omega) hk).mono fun e w' ⟨h1, h2, h3⟩ => ⟨by rw [h1, numB_two], h.eff h3 h2, h3⟩
theorem num_bad (hi : In0 b0 w0 a b cap) (hl : b.length ≤ 65535) (h : St b0 w0 wr a b cap pl m k g) (hk0 : k ≤ b.length) (hk : b.length < k + 2) :
    Calls Try.prog 62 #[.pointer (some ⟨b0 + 3, 0, none⟩), .int .i64 2] wr fun e w' => e = stopE 10 ∧ EffC (b0 + 3) wr w' :=
  (number_no (b0 + 3) a b cap k 2 wr (h.cur hi) hl hk0 (by omega) hk).mono fun e w' ⟨h1, h2, h3⟩ => ⟨h1, h3⟩
theorem name_ok (hi : In0 b0 w0 a b cap) (hl : b.length ≤ 65535) (h : St b0 w0 wr a b cap pl m k g) (hk : k ≤ b.length) {s : Bs} {j : Nat} (hn : nameAt b k b.length 10 = .ok s j) :
    Calls Try.prog 64 #[.pointer (some ⟨b0 + 3, 0, none⟩), .int .i64 (b.length : Int), .int .i64 10] wr fun e w' => e = .returned (.string (mkB s)) ∧ St b0 w0 w' a b cap pl m j g ∧ EffC (b0 + 3) wr w' :=
  (cname_any (b0 + 3) a b cap k b.length 10 wr (h.cur hi) hl hk (Nat.le_refl _)).mono fun e w' hE => by
    rw [hn] at hE
    obtain ⟨h1, h2, h3⟩ := hE
    exact ⟨h1, h.eff h3 h2, h3⟩
theorem name_bad (hi : In0 b0 w0 a b cap) (hl : b.length ≤ 65535) (h : St b0 w0 wr a b cap pl m k g) (hk : k ≤ b.length) {x : Int} (hn : nameAt b k b.length 10 = .bad x) :
    Calls Try.prog 64 #[.pointer (some ⟨b0 + 3, 0, none⟩), .int .i64 (b.length : Int), .int .i64 10] wr fun e w' => e = stopE x ∧ EffC (b0 + 3) wr w' :=
  (cname_any (b0 + 3) a b cap k b.length 10 wr (h.cur hi) hl hk (Nat.le_refl _)).mono fun e w' hE => by
    rw [hn] at hE
    obtain ⟨h1, h2, h3⟩ := hE
    exact ⟨h1, h3⟩
theorem rec_ok (hi : In0 b0 w0 a b cap) (hl : b.length ≤ 65535) (h0 : 0 < b.length) (h : St b0 w0 wr a b cap pl m k g) (hk : k ≤ b.length) {x : Rc} {j : Nat} (hn : recU b k = .ok x j) :
    Calls Try.prog 65 #[.pointer (some ⟨b0 + 3, 0, none⟩)] wr fun e w' => e = .returned (.agg x.cells.toArray) ∧ St b0 w0 w' a b cap pl m j g ∧ EffC (b0 + 3) wr w' :=
  (crec_any (b0 + 3) a b cap k wr (h.cur hi) hl hk h0).mono fun e w' hE => by
    rw [← recG_eq, hn] at hE
    obtain ⟨h1, h2, h3⟩ := hE
    exact ⟨h1, h.eff h3 h2, h3⟩
theorem rec_bad (hi : In0 b0 w0 a b cap) (hl : b.length ≤ 65535) (h0 : 0 < b.length) (h : St b0 w0 wr a b cap pl m k g) (hk : k ≤ b.length) {x : Int} (hn : recU b k = .bad x) :
    Calls Try.prog 65 #[.pointer (some ⟨b0 + 3, 0, none⟩)] wr fun e w' => e = stopE x ∧ EffC (b0 + 3) wr w' :=
  (crec_any (b0 + 3) a b cap k wr (h.cur hi) hl hk h0).mono fun e w' hE => by
    rw [← recG_eq, hn] at hE
    exact hE
end
/-- the five blocks made -/
theorem st_start {w : World} {a : Option Addr} {b : Bs} {cap : Nat} :
    St w.heap.size w (((boxes w 0 0).alloc (.cells #[.slice a b.length cap, .int .i64 0] 107)).alloc (.cells #[.int .i64 0] 3)) a b cap ⟨none, 0, none, 0, none, 0, none, 0⟩ noM 0 0 := by
  obtain ⟨g1, g2, g3, g4, g5⟩ := boxes_at w 0 0
  have s1 : ∀ (w : World) o, (w.alloc o).heap.size = w.heap.size + 1 := fun w o => by simp
  have hB : Below (boxes w 0 0).heap.size (boxes w 0 0) (((boxes w 0 0).alloc (.cells #[.slice a b.length cap, .int .i64 0] 107)).alloc (.cells #[.int .i64 0] 3)) := ((Below.refl _ _).alloc (Nat.le_refl _) _).alloc (by rw [s1]; omega) _
  have h1 := heap_alloc_new (boxes w 0 0) (.cells #[.slice a b.length cap, .int .i64 0] 107)
  have h2 := heap_alloc_new ((boxes w 0 0).alloc (.cells #[.slice a b.length cap, .int .i64 0] 107)) (.cells #[.int .i64 0] 3)
  rw [s1, g5] at h2
  rw [g5] at h1
  exact ⟨(hB.block _ (by omega)).trans g1, (hB.block _ (by omega)).trans g2, (hB.block _ (by omega)).trans g3, (heap_alloc_old _ _ (by rw [s1]; omega)).trans h1, h2, Own4.none _ _, g4.trans (hB.mono (by omega))⟩
end Go.Proofs.Ytabhiangjomaeaa.unpackP

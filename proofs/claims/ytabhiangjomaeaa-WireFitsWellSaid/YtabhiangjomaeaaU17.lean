/- (*wire.cursor).record: walk . What is packed is unpacked: records, questions, messages: plain. -/
import Derived.Test.YtabhiangjomaeaaU16
import Derived.Test.YtabhiangjomaeaaU8
import Derived.Test.YtabhiangjomaeaaU15
namespace Go.Proofs.Ytabhiangjomaeaa.crec
open Go.RowKit Go.Proofs.Ytabhiangjomaeaa.kit Go.Proofs.Ytabhiangjomaeaa.takes Go.Proofs.Ytabhiangjomaeaa.nspec Go.Proofs.Ytabhiangjomaeaa.rsplit Go.Proofs.Ytabhiangjomaeaa.check Go.Proofs.Ytabhiangjomaeaa.bits Go.Proofs.Ytabhiangjomaeaa.bld Go.Proofs.Ytabhiangjomaeaa.coded Go.Proofs.Ytabhiangjomaeaa.fld Go.Proofs.Ytabhiangjomaeaa.wireP Go.Proofs.Ytabhiangjomaeaa.wireM Go.Proofs.Ytabhiangjomaeaa.packP Go.Proofs.Ytabhiangjomaeaa.buf Go.Proofs.Ytabhiangjomaeaa.psmall Go.Proofs.Ytabhiangjomaeaa.fits Go.Proofs.Ytabhiangjomaeaa.pdata Go.Proofs.Ytabhiangjomaeaa.unpP Go.Proofs.Ytabhiangjomaeaa.rows Go.Proofs.Ytabhiangjomaeaa.cur Go.Proofs.Ytabhiangjomaeaa.cname Go.Proofs.Ytabhiangjomaeaa.cdata
set_option linter.unusedVariables false

/-- a record as it is read -/
def recG (b : Bs) (k : Nat) : Got Rc :=
  match nameAt b k b.length 10 with
  | .bad e => .bad e
  | .ok o j =>
    if b.length < j + 10 then .bad 10
    else if b.length < j + 10 + num2 b (j + 8) then .bad 10
    else match dataC (num2 b j) b (j + 10) (num2 b (j + 8)) with
      | .bad e => .bad e
      | .ok d i =>
        if rightB ⟨mkB o, num2 b j, num2 b (j + 2), num4 b (j + 4), mkB d⟩ = true then .ok ⟨mkB o, num2 b j, num2 b (j + 2), num4 b (j + 4), mkB d⟩ i else .bad 7
theorem dataC_next {t : Int} {b : Bs} {k n : Nat} {d : Bs} {i : Nat} (h : dataC t b k n = .ok d i) : i = k + n := by
  unfold dataC at h
  split at h
  · cases h; rfl
  · exact dataU_len _ b k _ _ d i h
theorem recG_eq (b : Bs) (k : Nat) : recU b k = recG b k := by
  unfold recU recG
  cases nameAt b k b.length 10 with
  | bad e => rfl
  | ok o j =>
    by_cases c1 : b.length < j + 10
    · simp only [if_pos c1]
    by_cases c2 : b.length < j + 10 + num2 b (j + 8)
    · simp only [if_neg c1, if_pos c2]
    simp only [if_neg c1, if_neg c2]
    by_cases c3 : num2 b (j + 8) = 0 ∨ shortL (num2 b j) = []
    · have e : dataC (num2 b j) b (j + 10) (num2 b (j + 8)) = .ok (cutB b (j + 10) (j + 10 + num2 b (j + 8))) (j + 10 + num2 b (j + 8)) := by unfold dataC; rw [if_pos c3]
      rw [e, if_pos c3]
    · have e : dataC (num2 b j) b (j + 10) (num2 b (j + 8)) = dataU (shortL (num2 b j)) b (j + 10) (j + 10 + num2 b (j + 8)) [] := by unfold dataC; rw [if_neg c3]
      rw [e, if_neg c3]
      cases hd : dataU (shortL (num2 b j)) b (j + 10) (j + 10 + num2 b (j + 8)) [] with
      | bad x => rfl
      | ok d i =>
        have hi := dataU_len _ b _ _ _ d i hd
        subst hi; rfl
/-- how a reading ends -/
def RecE (g : Got Rc) (C : Nat) (a : Option Addr) (b : Bs) (cap : Nat) (w : World) (e : Ending) (w' : World) : Prop :=
  match g with
  | .bad x => e = stopE x ∧ EffC C w w'
  | .ok x j => e = .returned (.agg x.cells.toArray) ∧ Cur w' C a b cap j ∧ EffC C w w'
theorem RecE.no {g : Got Rc} {x : Int} {C : Nat} {a : Option Addr} {b : Bs} {cap : Nat} {w w' : World} (hg : g = .bad x) (h2 : EffC C w w') : RecE g C a b cap w (stopE x) w' := by
  subst hg; exact ⟨rfl, h2⟩
theorem RecE.yes {g : Got Rc} {x : Rc} {j : Nat} {C : Nat} {a : Option Addr} {b : Bs} {cap : Nat} {w w' : World} (hg : g = .ok x j) (h1 : Cur w' C a b cap j) (h2 : EffC C w w') : RecE g C a b cap w (.returned (.agg x.cells.toArray)) w' := by
  subst hg; exact ⟨rfl, h1, h2⟩
theorem eff_set {w w1 : World} {C B i : Nat} (he : EffC C w w1) (hB : w.heap.size ≤ B) (v : Value) : EffC C w (w1.setCell ⟨B, i, none⟩ v) :=
  he.then_below ⟨rfl, rfl, rfl, by simp, fun k hk => Below.heap_setCell _ ⟨B, i, none⟩ _ k (by show k ≠ B; omega)⟩
theorem blk_set {w1 : World} {C B i : Nat} {o : Obj} (hb : w1.heap[C]? = some o) (hB : B ≠ C) (v : Value) : (w1.setCell ⟨B, i, none⟩ v).heap[C]? = some o := by
  rw [Below.heap_setCell _ ⟨B, i, none⟩ _ C (by show C ≠ B; omega)]; exact hb
theorem num2_le (b : Bs) (k : Nat) : num2 b k ≤ 65535 := by unfold num2; have := atB_lt b k; have := atB_lt b (k + 1); omega
theorem num4_le (b : Bs) (k : Nat) : num4 b k ≤ 4294967295 := by unfold num4; have := num2_le b k; have := num2_le b (k + 2); omega
theorem right_read {s d : Bs} {t c l : Nat} (hs : ∃ ls, s = put ls ∧ okL ls ∧ 0 + s.length ≤ 255) (ht : t ≤ 65535) (hc : c ≤ 65535) (hl : l ≤ 4294967295) (hd : t = 41 → d.length ≤ 65535) :
    rightB ⟨mkB s, (t : Int), (c : Int), (l : Int), mkB d⟩ = (decide ((t : Int) = 41) || (emptyB ⟨mkB s, (t : Int), (c : Int), (l : Int), mkB d⟩ || decide (checkS (t : Int) d = 0))) := by
  obtain ⟨ls, h1, h2, h3⟩ := hs
  unfold rightB
  have hz : (mkB d).size = d.length := by unfold mkB; rw [mk_size]
  rw [isB_yes (s := mkB s) (ls := ls) ⟨by unfold mkB; simpa using h1, h2, by unfold mkB; simp; omega⟩, inB_yes (v := (t : Int)) (by omega) (by omega), inB_yes (v := (c : Int)) (by omega) (by omega), inB_yes (v := (l : Int)) (by omega) (by omega)]
  simp only [Bool.true_and]
  by_cases h : t = 41
  · have h' : (t : Int) = 41 := by omega
    rw [if_pos h', hz, decide_eq_true h', decide_eq_true (hd h), Bool.true_or]
  · have h' : ¬ (t : Int) = 41 := by omega
    rw [if_neg h', decide_eq_false h', Bool.false_or]; rfl
theorem data_41 {b : Bs} {k n : Nat} {d : Bs} {i t : Nat} (h : dataC (t : Int) b k n = .ok d i) (hn : n ≤ 65535) : t = 41 → d.length ≤ 65535 := by
  intro h41; subst h41
  have e : shortL ((41 : Nat) : Int) = [] := rfl
  unfold dataC at h
  rw [if_pos (Or.inr e)] at h
  cases h
  unfold cutB
  rw [List.length_take]; omega
theorem dataU_room : ∀ (fs : List (Option Nat)) (b : Bs) (k lim : Nat) (acc : Bs) (s : Bs) (j : Nat), lim ≤ b.length → b.length ≤ 65535 → dataU fs b k lim acc = .ok s j → s.length ≤ acc.length + fs.length * 65535
  | [], b, k, lim, acc, s, j, h1, h2, h => by
    simp only [dataU] at h; split at h
    · cases h; omega
    · cases h
  | none :: fs, b, k, lim, acc, s, j, h1, h2, h => by
    simp only [dataU] at h
    cases hn : nameAt b k lim 7 with
    | bad e => rw [hn] at h; cases h
    | ok r i =>
      rw [hn] at h
      have h3 := dataU_room fs b i lim _ s j h1 h2 h
      have h4 := (nameAt_len h1 hn).1
      rw [List.length_append] at h3
      rw [List.length_cons]; omega
  | some n :: fs, b, k, lim, acc, s, j, h1, h2, h => by
    simp only [dataU] at h; split at h
    · cases h
    · have h3 := dataU_room fs b _ lim _ s j h1 h2 h
      have h4 : (cutB b k (k + n)).length ≤ n := by unfold cutB; rw [List.length_take]; omega
      rw [List.length_append] at h3
      rw [List.length_cons]; omega
theorem short_three (t : Int) : (shortL t).length ≤ 3 := by
  unfold shortL
  by_cases h2 : t = 2 ∨ t = 5 ∨ t = 12
  · rw [if_pos h2]; simp
  by_cases h15 : t = 15
  · subst h15; decide
  by_cases h6 : t = 6
  · subst h6; decide
  · simp [h2, h15, h6]
theorem dataC_room {t : Int} {b : Bs} {k n : Nat} {d : Bs} {i : Nat} (h : dataC t b k n = .ok d i) (hk : k + n ≤ b.length) (hl : b.length ≤ 65535) : d.length ≤ 262140 := by
  unfold dataC at h
  split at h
  · cases h; unfold cutB; rw [List.length_take]; omega
  · have h1 := dataU_room _ b k _ _ d i hk hl h
    have h2 := short_three t
    simp only [List.length_nil] at h1
    omega
/-- a record in memory -/
def RcAt (w : World) (B : Nat) (x : Rc) : Prop := w.heap[B]? = some (.cells x.cells.toArray 52 (0, 0))
theorem RcAt.eff {w w1 : World} {B C : Nat} {x : Rc} (h : RcAt w B x) (he : EffC C w w1) (hne : B ≠ C) : RcAt w1 B x :=
  (he.kept B (Array.getElem?_eq_some_iff.1 h).1 hne).trans h
theorem RcAt.lt {w : World} {B : Nat} {x : Rc} (h : RcAt w B x) : B < w.heap.size := (Array.getElem?_eq_some_iff.1 h).1
theorem RcAt.c0 {w : World} {B : Nat} {x : Rc} (h : RcAt w B x) : w.cell? ⟨B, 0, none⟩ = some (.string x.o) := by unfold RcAt at h; simp only [World.cell?, h]; rfl
theorem RcAt.c1 {w : World} {B : Nat} {x : Rc} (h : RcAt w B x) : w.cell? ⟨B, 1, none⟩ = some (.int .i64 x.t) := by unfold RcAt at h; simp only [World.cell?, h]; rfl
theorem RcAt.c2 {w : World} {B : Nat} {x : Rc} (h : RcAt w B x) : w.cell? ⟨B, 2, none⟩ = some (.int .i64 x.c) := by unfold RcAt at h; simp only [World.cell?, h]; rfl
theorem RcAt.c3 {w : World} {B : Nat} {x : Rc} (h : RcAt w B x) : w.cell? ⟨B, 3, none⟩ = some (.int .i64 x.l) := by unfold RcAt at h; simp only [World.cell?, h]; rfl
theorem RcAt.c4 {w : World} {B : Nat} {x : Rc} (h : RcAt w B x) : w.cell? ⟨B, 4, none⟩ = some (.string x.d) := by unfold RcAt at h; simp only [World.cell?, h]; rfl
theorem RcAt.z {w : World} {B : Nat} {x : Rc} (h : RcAt w B x) (i : Nat) : w.frozen? ⟨B, i, none⟩ = false := by unfold RcAt at h; simp [World.frozen?, h]
theorem RcAt.st {w : World} {B : Nat} {x : Rc} (h : RcAt w B x) : RcAt (w.setCell ⟨B, 1, none⟩ (.int .i64 x.t)) B x := by
  unfold RcAt at *; rw [heap_setCell_same w B 1 _ _ (.int .i64 x.t) h]; rfl
theorem RcAt.s1 {w : World} {B : Nat} {x : Rc} (h : RcAt w B x) (v : Int) : RcAt (w.setCell ⟨B, 1, none⟩ (.int .i64 v)) B { x with t := v } := by
  unfold RcAt at *; rw [heap_setCell_same w B 1 _ _ (.int .i64 v) h]; rfl
theorem RcAt.s2 {w : World} {B : Nat} {x : Rc} (h : RcAt w B x) (v : Int) : RcAt (w.setCell ⟨B, 2, none⟩ (.int .i64 v)) B { x with c := v } := by
  unfold RcAt at *; rw [heap_setCell_same w B 2 _ _ (.int .i64 v) h]; rfl
theorem RcAt.s3 {w : World} {B : Nat} {x : Rc} (h : RcAt w B x) (v : Int) : RcAt (w.setCell ⟨B, 3, none⟩ (.int .i64 v)) B { x with l := v } := by
  unfold RcAt at *; rw [heap_setCell_same w B 3 _ _ (.int .i64 v) h]; rfl
theorem RcAt.s4 {w : World} {B : Nat} {x : Rc} (h : RcAt w B x) (v : ByteArray) : RcAt (w.setCell ⟨B, 4, none⟩ (.string v)) B { x with d := v } := by
  unfold RcAt at *; rw [heap_setCell_same w B 4 _ _ (.string v) h]; rfl
theorem RcAt.s0 {w : World} {B : Nat} {x : Rc} (h : RcAt w B x) (v : ByteArray) : RcAt (w.setCell ⟨B, 0, none⟩ (.string v)) B { x with o := v } := by
  unfold RcAt at *; rw [heap_setCell_same w B 0 _ _ (.string v) h]; rfl
def setRc (w : World) (P : Nat) (x : Rc) : World := ((((w.setCell ⟨P, 0, none⟩ (.string x.o)).setCell ⟨P, 1, none⟩ (.int .i64 x.t)).setCell ⟨P, 2, none⟩ (.int .i64 x.c)).setCell ⟨P, 3, none⟩ (.int .i64 x.l)).setCell ⟨P, 4, none⟩ (.string x.d)
theorem setRc_at {w : World} {P : Nat} {z : Rc} (h : RcAt w P z) (x : Rc) : RcAt (setRc w P x) P x := ((((h.s0 x.o).s1 x.t).s2 x.c).s3 x.l).s4 x.d
theorem setRc_eff {w W : World} {C P : Nat} (h : EffC C w W) (hP : w.heap.size ≤ P) (x : Rc) : EffC C w (setRc W P x) := eff_set (eff_set (eff_set (eff_set (eff_set h hP _) hP _) hP _) hP _) hP _
theorem setRc_blk {W : World} {C P : Nat} {o : Obj} (h : W.heap[C]? = some o) (hP : P ≠ C) (x : Rc) : (setRc W P x).heap[C]? = some o := blk_set (blk_set (blk_set (blk_set (blk_set h hP _) hP _) hP _) hP _) hP _
set_option maxRecDepth 100000 in
set_option maxHeartbeats 8000000 in
theorem crec_any (C : Nat) (a : Option Addr) (b : Bs) (cap k : Nat) (w : World) (h : Cur w C a b cap k) (hl : b.length ≤ 65535) (hk : k ≤ b.length) (hb0 : 0 < b.length) :
    Calls Try.prog 65 #[.pointer (some ⟨C, 0, none⟩)] w (RecE (recG b k) C a b cap w) := by
  obtain ⟨R, hR⟩ : ∃ R, recG b k = R := ⟨_, rfl⟩
  rw [hR]
  have HC0 := Lib.hid h
  have hltC := h.lt
  have r0 := h.c0
  unfold recG at hR
  have CN := Lib.hid (fun w h => cname_any C a b cap k b.length 10 w h hl hk (Nat.le_refl _))
  have HR := Lib.hid hR
  clear h hR
  go_enter Try.func65, Try.ntmps65
  go_wp2_with fail
  obtain ⟨Z, hZ⟩ : ∃ Z : Obj, Obj.cells #[.string ⟨#[]⟩, .int .i64 0, .int .i64 0, .int .i64 0, .string ⟨#[]⟩] 52 = Z := ⟨_, rfl⟩
  have hB0 := (Below.refl w.heap.size w).alloc (Nat.le_refl _) Z
  have hHC := HC0.out.below hB0
  have HE0 : Hid (EffC C w (w.alloc Z)) := Lib.hid (EffC.of_below hB0)
  have hP0 : RcAt (w.alloc Z) w.heap.size ⟨⟨#[]⟩, 0, 0, 0, ⟨#[]⟩⟩ := by subst hZ; exact Array.getElem?_push_size ..
  subst hZ
  refine (CN.out _ hHC).mono ?_
  have HR' := HR.out
  cases hg : nameAt b k b.length 10 with
  | bad x =>
    rw [hg] at HR'
    have HRb : Hid (R = .bad x) := Lib.hid HR'.symm
    clear HR' hg hB0 hHC
    rintro e w1 ⟨rfl, _, he⟩
    have HE1 := Lib.hid (HE0.out.trans he)
    unfold stopE
    go_wp2_with fail
    exact ⟨rfl, RecE.no HRb.out HE1.out⟩
  | ok s j =>
    rw [hg] at HR'
    simp only [] at HR'
    have HRj := Lib.hid HR'
    have hjb := (nameAt_len (Nat.le_refl _) hg).2
    have HNM := Lib.hid (nameU_is _ b k k b.length 10 0 s j (by omega) (Nat.le_refl _) hg)
    rintro e w1 ⟨rfl, hc, he⟩
    have HE1 := Lib.hid (HE0.out.trans he)
    have HC1 := Lib.hid hc
    have hPC : w.heap.size ≠ C := by omega
    have HP1 := Lib.hid (RcAt.eff hP0 he hPC)
    have hw1 : w.heap.size + 1 ≤ w1.heap.size := by have := he.size; simpa using this
    clear HR' hg hB0 hHC hc he HE0
    obtain ⟨SS, hSS⟩ : ∃ SS, mkB s = SS := ⟨_, rfl⟩
    have HSS := Lib.hid hSS
    rw [hSS]
    clear hSS
    go_upto_region 2 with fail
    have hB1 := (Below.refl w1.heap.size w1).alloc (Nat.le_refl _) (Obj.cells #[.string SS, .int .i64 0, .int .i64 0, .int .i64 0, .string ⟨#[]⟩] 52)
    have hA2 : RcAt (w1.alloc (Obj.cells #[.string SS, .int .i64 0, .int .i64 0, .int .i64 0, .string ⟨#[]⟩] 52)) w1.heap.size ⟨SS, 0, 0, 0, ⟨#[]⟩⟩ := Array.getElem?_push_size ..
    have hC2 := HC1.out.below hB1
    have hE2 := HE1.out.then_below (Below.mono hB1 (by omega))
    have hP2 : RcAt _ w.heap.size ⟨⟨#[]⟩, 0, 0, 0, ⟨#[]⟩⟩ := (hB1.block w.heap.size (by omega)).trans HP1.out
    obtain ⟨W2, hW2⟩ : ∃ W2, w1.alloc (Obj.cells #[.string SS, .int .i64 0, .int .i64 0, .int .i64 0, .string ⟨#[]⟩] 52) = W2 := ⟨_, rfl⟩
    rw [hW2] at hA2 hC2 hE2 hP2 ⊢
    have HP2 := Lib.hid hP2
    have HA2 := Lib.hid hA2; have HC2 := Lib.hid hC2; have HE2 := Lib.hid hE2
    obtain ⟨B, hB⟩ : ∃ B, w1.heap.size = B := ⟨_, rfl⟩
    have hBC : B ≠ C := by omega
    have hBw : w.heap.size < B := by omega
    rw [hB] at HA2 ⊢
    have NO := Lib.hid (fun k n w h hn hk => number_ok C a b cap k n w h hl hn hk)
    have NN := Lib.hid (fun k n w h hk0 hn hk => number_no C a b cap k n w h hl hk0 hn hk)
    clear hA2 hC2 hE2 hW2 hB1 hB hw1 r0
    have HRB : b.length < j + 10 → Hid (R = .bad 10) := fun h => by
      have h1 := HRj.out; rw [if_pos h] at h1; exact Lib.hid h1.symm
    by_cases d1 : b.length < j + 2
    · have HRb := HRB (by omega)
      clear HRB HRj
      go_wp2_with fail
      refine (NN.out j 2 _ HC2.out hjb (by omega) d1).mono ?_
      rintro e w3 ⟨rfl, _, he⟩
      have HE3 := Lib.hid (HE2.out.trans he)
      unfold stopE
      go_wp2_with fail
      exact ⟨rfl, RecE.no HRb.out HE3.out⟩
    have N1 := Lib.hid (fun w h => numB_two b j ▸ NO.out j 2 w h (by omega) (by omega))
    go_wp2_with fail
    refine (N1.out _ HC2.out).mono ?_
    rintro e w3 ⟨rfl, hc3, he3⟩
    have HA3 := Lib.hid (HA2.out.eff he3 hBC)
    have HP3 := Lib.hid (HP2.out.eff he3 hPC)
    have HC3 := Lib.hid hc3; have HE3 := Lib.hid (HE2.out.trans he3)
    clear hc3 he3 HA2 HC2 HE2 N1
    by_cases d2 : b.length < j + 2 + 2
    · have HRb := HRB (by omega)
      clear HRB HRj
      go_wp2_with fail
      refine (NN.out (j + 2) 2 _ HC3.out (by omega) (by omega) d2).mono ?_
      rintro e w4 ⟨rfl, _, he⟩
      have HE4 := Lib.hid (HE3.out.trans he)
      unfold stopE
      go_wp2_with fail
      exact ⟨rfl, RecE.no HRb.out HE4.out⟩
    have N2 := Lib.hid (fun w h => numB_two b (j + 2) ▸ NO.out (j + 2) 2 w h (by omega) (by omega))
    go_wp2_with fail
    refine (N2.out _ HC3.out).mono ?_
    rintro e w4 ⟨rfl, hc4, he4⟩
    have HA4 := Lib.hid (HA3.out.eff he4 hBC)
    have HP4 := Lib.hid (HP3.out.eff he4 hPC)
    have HC4 := Lib.hid hc4; have HE4 := Lib.hid (HE3.out.trans he4)
    clear hc4 he4 HA3 HC3 HE3 N2
    by_cases d3 : b.length < j + 2 + 2 + 4
    · have HRb := HRB (by omega)
      clear HRB HRj
      go_wp2_with fail
      refine (NN.out (j + 2 + 2) 4 _ HC4.out (by omega) (by omega) d3).mono ?_
      rintro e w5 ⟨rfl, _, he⟩
      have HE5 := Lib.hid (HE4.out.trans he)
      unfold stopE
      go_wp2_with fail
      exact ⟨rfl, RecE.no HRb.out HE5.out⟩
    have N3 := Lib.hid (fun w h => numB_four b (j + 2 + 2) ▸ NO.out (j + 2 + 2) 4 w h (by omega) (by omega))
    go_wp2_with fail
    refine (N3.out _ HC4.out).mono ?_
    rintro e w5 ⟨rfl, hc5, he5⟩
    have HA5 := Lib.hid (HA4.out.eff he5 hBC)
    have HP5 := Lib.hid (HP4.out.eff he5 hPC)
    have HC5 := Lib.hid hc5; have HE5 := Lib.hid (HE4.out.trans he5)
    clear hc5 he5 HA4 HC4 HE4 N3
    have hA6 := ((HA5.out.s1 (num2 b j)).s2 (num2 b (j + 2))).s3 (num4 b (j + 2 + 2))
    have hE6 := eff_set (i := 3) (eff_set (i := 2) (eff_set (i := 1) HE5.out (Nat.le_of_lt hBw) (.int .i64 (num2 b j))) (Nat.le_of_lt hBw) (.int .i64 (num2 b (j + 2)))) (Nat.le_of_lt hBw) (.int .i64 (num4 b (j + 2 + 2)))
    have hK6 := blk_set (i := 3) (blk_set (i := 2) (blk_set (i := 1) HC5.out.blk hBC (.int .i64 (num2 b j))) hBC (.int .i64 (num2 b (j + 2)))) hBC (.int .i64 (num4 b (j + 2 + 2)))
    have hC6 := HC0.out.from_ hE6 hK6
    have b0 := HA5.out.c1; have b1 := HA5.out.c2; have b2 := HA5.out.c3; have bz1 := HA5.out.z 1; have bz2 := HA5.out.z 2; have bz3 := HA5.out.z 3; have blt := HA5.out.lt
    have HP6 : Hid (RcAt _ w.heap.size ⟨⟨#[]⟩, 0, 0, 0, ⟨#[]⟩⟩) := Lib.hid (blk_set (i := 3) (blk_set (i := 2) (blk_set (i := 1) HP5.out (show B ≠ w.heap.size by omega) (.int .i64 (num2 b j))) (show B ≠ w.heap.size by omega) (.int .i64 (num2 b (j + 2)))) (show B ≠ w.heap.size by omega) (.int .i64 (num4 b (j + 2 + 2))))
    have HA6 := Lib.hid hA6; have HE6 := Lib.hid hE6; have HC6 := Lib.hid hC6
    clear hA6 hE6 hK6 hC6
    go_upto_region 3 with fail
    obtain ⟨W6, hW6⟩ : ∃ W6, ((w5.setCell ⟨B, 1, none⟩ (.int .i64 (num2 b j : Int))).setCell ⟨B, 2, none⟩ (.int .i64 (num2 b (j + 2) : Int))).setCell ⟨B, 3, none⟩ (.int .i64 (num4 b (j + 2 + 2) : Int)) = W6 := ⟨_, rfl⟩
    rw [hW6] at HA6 HE6 HC6 HP6 ⊢
    clear hW6 b0 b1 b2 bz1 bz2 bz3 blt HA5 HC5 HE5
    by_cases d4 : b.length < j + 2 + 2 + 4 + 2
    · have HRb := HRB (by omega)
      clear HRB HRj
      go_wp2_with fail
      refine (NN.out (j + 2 + 2 + 4) 2 _ HC6.out (by omega) (by omega) d4).mono ?_
      rintro e w7 ⟨rfl, _, he⟩
      have HE7 := Lib.hid (HE6.out.trans he)
      unfold stopE
      go_wp2_with fail
      exact ⟨rfl, RecE.no HRb.out HE7.out⟩
    have N4 := Lib.hid (fun w h => numB_two b (j + 2 + 2 + 4) ▸ NO.out (j + 2 + 2 + 4) 2 w h (by omega) (by omega))
    go_wp2_with fail
    refine (N4.out _ HC6.out).mono ?_
    rintro e w7 ⟨rfl, hc7, he7⟩
    have HA7 := Lib.hid (HA6.out.eff he7 hBC)
    have HP7 := Lib.hid (HP6.out.eff he7 hPC)
    have HC7 : Hid (Cur w7 C a b cap (j + 10)) := Lib.hid hc7; have HE7 := Lib.hid (HE6.out.trans he7)
    have hRk := HRj.out
    rw [if_neg (by omega)] at hRk
    obtain ⟨n, hn⟩ : ∃ n, num2 b (j + 8) = n := ⟨_, rfl⟩
    have hnv : num2 b (j + 2 + 2 + 4) = n := hn
    rw [hnv]
    rw [hn] at hRk
    have hn16 : n ≤ 65535 := by rw [← hn]; unfold num2; have := atB_lt b (j + 8); have := atB_lt b (j + 8 + 1); omega
    clear hc7 he7 HA6 HC6 HE6 N4 HRB HRj hn hnv NO NN
    by_cases d5 : b.length < j + 10 + n
    · rw [if_pos d5] at hRk
      have HRb : Hid (R = .bad 10) := Lib.hid hRk.symm
      have NX := Lib.hid (need_no C a b cap (j + 10) n w7 HC7.out hl (by omega) hn16 d5)
      clear hRk
      go_wp2_with fail
      refine NX.out.mono ?_
      rintro e w8 ⟨rfl, _, he⟩
      have HE8 := Lib.hid (HE7.out.trans he)
      unfold stopE
      go_wp2_with fail
      exact ⟨rfl, RecE.no HRb.out HE8.out⟩
    rw [if_neg d5] at hRk
    have NX := Lib.hid (need_ok C a b cap (j + 10) n w7 HC7.out hl (by omega))
    have HRk := Lib.hid hRk
    clear hRk
    go_wp2_with fail
    refine NX.out.mono ?_
    rintro e w8 ⟨rfl, hc8, he8⟩
    have HA8 := Lib.hid (HA7.out.eff he8 hBC)
    have HP8 := Lib.hid (HP7.out.eff he8 hPC)
    have HC8 := Lib.hid hc8; have HE8 := Lib.hid (HE7.out.trans he8)
    clear hc8 he8 HA7 HC7 HE7 NX
    have ND := Lib.hid (fun t => cdata_any C a b cap (j + 10) n t w8 HC8.out hl (by omega) hb0)
    have b1 := HA8.out.c1
    go_wp2_with fail
    refine (ND.out _).mono ?_
    have HD := HRk.out
    cases hd : dataC (num2 b j) b (j + 10) n with
    | bad x =>
      rw [hd] at HD
      have HRb : Hid (R = .bad x) := Lib.hid HD.symm
      clear HD hd
      rintro e w9 ⟨rfl, he⟩
      have HE9 := Lib.hid (HE8.out.trans he)
      unfold stopE
      go_wp2_with fail
      exact ⟨rfl, RecE.no HRb.out HE9.out⟩
    | ok d i =>
      rw [hd] at HD
      simp only [] at HD
      have HRd := Lib.hid HD
      have HDC := Lib.hid hd
      rintro e w9 ⟨rfl, hc9, he9⟩
      have HA9 := Lib.hid (HA8.out.eff he9 hBC)
      have HP9 := Lib.hid (HP8.out.eff he9 hPC)
      have HC9 := Lib.hid hc9; have HE9 := Lib.hid (HE8.out.trans he9)
      obtain ⟨DD, hDD⟩ : ∃ DD, mkB d = DD := ⟨_, rfl⟩
      have HDD := Lib.hid hDD
      rw [hDD]
      have b4 := HA9.out.c4; have bz4 := HA9.out.z 4; have blt := HA9.out.lt
      have HA10 := Lib.hid (HA9.out.s4 DD)
      have hE10 := eff_set (i := 4) HE9.out (Nat.le_of_lt hBw) (.string DD)
      have HC10 := Lib.hid (HC0.out.from_ hE10 (blk_set (i := 4) HC9.out.blk hBC (.string DD)))
      have HE10 := Lib.hid hE10
      have HP10 : Hid (RcAt _ w.heap.size ⟨⟨#[]⟩, 0, 0, 0, ⟨#[]⟩⟩) := Lib.hid (blk_set (i := 4) HP9.out (show B ≠ w.heap.size by omega) (.string DD))
      clear HD hd hc9 he9 hDD HA8 HC8 HE8 hE10 b1
      go_upto_region 6 with fail
      obtain ⟨W, hW⟩ : ∃ W, w9.setCell ⟨B, 4, none⟩ (.string DD) = W := ⟨_, rfl⟩
      rw [hW] at HA10 HE10 HC10 HP10 ⊢
      clear hW b4 bz4 blt HA9 HC9 HE9
      have HRI : Hid ((if rightB ⟨SS, (num2 b j : Int), (num2 b (j + 2) : Int), (num4 b (j + 4) : Int), DD⟩ = true then Got.ok ⟨SS, (num2 b j : Int), (num2 b (j + 2) : Int), (num4 b (j + 4) : Int), DD⟩ i else .bad 7) = R) := Lib.hid (by rw [← HSS.out, ← HDD.out]; exact HRd.out)
      have HRR : Hid (rightB ⟨SS, (num2 b j : Int), (num2 b (j + 2) : Int), (num4 b (j + 4) : Int), DD⟩ = (decide ((num2 b j : Int) = 41) || (emptyB ⟨SS, (num2 b j : Int), (num2 b (j + 2) : Int), (num4 b (j + 4) : Int), DD⟩ || decide (checkS (num2 b j : Int) DD.data.toList = 0)))) := Lib.hid (by
        rw [← HSS.out, ← HDD.out]; exact right_read HNM.out (num2_le _ _) (num2_le _ _) (num4_le _ _) (data_41 HDC.out hn16))
      have HA : Hid (RcAt W B ⟨SS, (num2 b j : Int), (num2 b (j + 2) : Int), (num4 b (j + 4) : Int), DD⟩) := HA10
      have hDs : DD.size ≤ 262140 := by rw [← HDD.out]; unfold mkB; rw [mk_size]; exact dataC_room HDC.out (by omega) hl
      clear HRd HDC HRk HNM HSS HDD HA10
      obtain ⟨t, ht⟩ : ∃ t : Int, (num2 b j : Int) = t := ⟨_, rfl⟩
      obtain ⟨cl, hcl⟩ : ∃ c : Int, (num2 b (j + 2) : Int) = c := ⟨_, rfl⟩
      obtain ⟨lf, hlf⟩ : ∃ c : Int, (num4 b (j + 4) : Int) = c := ⟨_, rfl⟩
      have htb : 0 ≤ t ∧ t ≤ 65535 := by have := num2_le b j; omega
      have hcb : 0 ≤ cl ∧ cl ≤ 65535 := by have := num2_le b (j + 2); omega
      rw [ht, hcl, hlf] at HRI HRR HA
      have a0 := HA.out.c0; have a1 := HA.out.c1; have a2 := HA.out.c2; have a3 := HA.out.c3; have a4 := HA.out.c4
      have p0 := HP10.out.c0; have p1 := HP10.out.c1; have p2 := HP10.out.c2; have p3 := HP10.out.c3; have p4 := HP10.out.c4
      have q0 := HP10.out.z 0; have q1 := HP10.out.z 1; have q2 := HP10.out.z 2; have q3 := HP10.out.z 3; have q4 := HP10.out.z 4
      have plt := HP10.out.lt; have alt := HA.out.lt
      clear ht hcl hlf
      have HF1 := Lib.hid (setRc_at HP10.out ⟨SS, t, cl, lf, DD⟩)
      have HF2 := Lib.hid (setRc_eff HE10.out (Nat.le_refl w.heap.size) ⟨SS, t, cl, lf, DD⟩)
      have HF3 := Lib.hid (HC0.out.from_ HF2.out (setRc_blk HC10.out.blk hPC ⟨SS, t, cl, lf, DD⟩))
      by_cases c41 : t = 41
      · have e41 : (t == 41) = true := by rw [c41]; rfl
        have HRb : Hid (R = .ok ⟨SS, t, cl, lf, DD⟩ i) := Lib.hid (by
          have h := HRI.out
          rw [HRR.out, decide_eq_true c41, Bool.true_or, if_pos rfl] at h; exact h.symm)
        clear c41 HRI HRR
        go_wp2_with fail
        have f0 := HF1.out.c0; have f1 := HF1.out.c1; have f2 := HF1.out.c2; have f3 := HF1.out.c3; have f4 := HF1.out.c4
        have hWF : (((((W.setCell ⟨w.heap.size, 0, none⟩ (.string SS)).setCell ⟨w.heap.size, 1, none⟩ (.int .i64 t)).setCell ⟨w.heap.size, 2, none⟩ (.int .i64 cl)).setCell ⟨w.heap.size, 3, none⟩ (.int .i64 lf)).setCell ⟨w.heap.size, 4, none⟩ (.string DD)) = setRc W w.heap.size ⟨SS, t, cl, lf, DD⟩ := rfl
        rw [hWF]
        obtain ⟨WF, hWF2⟩ : ∃ WF, setRc W w.heap.size ⟨SS, t, cl, lf, DD⟩ = WF := ⟨_, rfl⟩
        rw [hWF2] at f0 f1 f2 f3 f4 HF2 HF3 ⊢
        clear hWF hWF2 HF1
        refine bodyPost_ret (v := .agg #[.string SS, .int .i64 t, .int .i64 cl, .int .i64 lf, .string DD]) (by simp [results, Try.results65, go_sem, f0, f1, f2, f3, f4]) rfl (RecE.yes HRb.out HF3.out HF2.out)
      · have e41 : (t == 41) = false := by rw [beq_eq_false_iff_ne]; exact c41
        have HRS := HRR.out
        rw [decide_eq_false c41, Bool.false_or] at HRS
        clear HRR c41
        by_cases hem : emptyB ⟨SS, t, cl, lf, DD⟩ = true
        · have HRb : Hid (R = .ok ⟨SS, t, cl, lf, DD⟩ i) := Lib.hid (by
            have h := HRI.out
            rw [HRS, hem, Bool.true_or, if_pos rfl] at h; exact h.symm)
          have hem2 : DD.size = 0 ∧ (cl = 254 ∨ cl = 255) := by simpa [emptyB] using hem
          have hDe : DD = ⟨#[]⟩ := by apply ByteArray.ext; apply Array.eq_empty_of_size_eq_zero; exact hem2.1
          have hDi : DD.toList.isEmpty = true := by rw [hDe, Lib.toList_data]; rfl
          have hcl := hem2.2
          clear hem hem2 hDe HRS HRI
          by_cases c254 : cl = 254
          · have e1 : (cl == 254) = true := by rw [c254]; rfl
            clear c254 hcl
            go_wp2_with fail
            have f0 := HF1.out.c0; have f1 := HF1.out.c1; have f2 := HF1.out.c2; have f3 := HF1.out.c3; have f4 := HF1.out.c4
            have hWF : (((((W.setCell ⟨w.heap.size, 0, none⟩ (.string SS)).setCell ⟨w.heap.size, 1, none⟩ (.int .i64 t)).setCell ⟨w.heap.size, 2, none⟩ (.int .i64 cl)).setCell ⟨w.heap.size, 3, none⟩ (.int .i64 lf)).setCell ⟨w.heap.size, 4, none⟩ (.string DD)) = setRc W w.heap.size ⟨SS, t, cl, lf, DD⟩ := rfl
            rw [hWF]
            obtain ⟨WF, hWF2⟩ : ∃ WF, setRc W w.heap.size ⟨SS, t, cl, lf, DD⟩ = WF := ⟨_, rfl⟩
            rw [hWF2] at f0 f1 f2 f3 f4 HF2 HF3 ⊢
            clear hWF hWF2 HF1
            refine bodyPost_ret (v := .agg #[.string SS, .int .i64 t, .int .i64 cl, .int .i64 lf, .string DD]) (by simp [results, Try.results65, go_sem, f0, f1, f2, f3, f4]) rfl (RecE.yes HRb.out HF3.out HF2.out)
          · have e1 : (cl == 254) = false := by rw [beq_eq_false_iff_ne]; exact c254
            have e2 : (cl == 255) = true := by rw [beq_iff_eq]; omega
            clear c254 hcl
            go_wp2_with fail
            have f0 := HF1.out.c0; have f1 := HF1.out.c1; have f2 := HF1.out.c2; have f3 := HF1.out.c3; have f4 := HF1.out.c4
            have hWF : (((((W.setCell ⟨w.heap.size, 0, none⟩ (.string SS)).setCell ⟨w.heap.size, 1, none⟩ (.int .i64 t)).setCell ⟨w.heap.size, 2, none⟩ (.int .i64 cl)).setCell ⟨w.heap.size, 3, none⟩ (.int .i64 lf)).setCell ⟨w.heap.size, 4, none⟩ (.string DD)) = setRc W w.heap.size ⟨SS, t, cl, lf, DD⟩ := rfl
            rw [hWF]
            obtain ⟨WF, hWF2⟩ : ∃ WF, setRc W w.heap.size ⟨SS, t, cl, lf, DD⟩ = WF := ⟨_, rfl⟩
            rw [hWF2] at f0 f1 f2 f3 f4 HF2 HF3 ⊢
            clear hWF hWF2 HF1
            refine bodyPost_ret (v := .agg #[.string SS, .int .i64 t, .int .i64 cl, .int .i64 lf, .string DD]) (by simp [results, Try.results65, go_sem, f0, f1, f2, f3, f4]) rfl (RecE.yes HRb.out HF3.out HF2.out)
        · have hem2 : DD.toList.isEmpty = false ∨ (DD.toList.isEmpty = true ∧ (cl == 254) = false ∧ (cl == 255) = false) := by
            by_cases h0 : DD.size = 0
            · right
              have hDe : DD = ⟨#[]⟩ := by apply ByteArray.ext; apply Array.eq_empty_of_size_eq_zero; exact h0
              refine ⟨by rw [hDe, Lib.toList_data]; rfl, ?_, ?_⟩
              · rw [beq_eq_false_iff_ne]; intro e; exact hem (by simp [emptyB, h0, e])
              · rw [beq_eq_false_iff_ne]; intro e; exact hem (by simp [emptyB, h0, e])
            · exact .inl (not_empty h0)
          have hem3 : emptyB ⟨SS, t, cl, lf, DD⟩ = false := by simpa using hem
          rw [hem3, Bool.false_or] at HRS
          have HRT := Lib.hid HRS
          have CK := Lib.hid (Go.Proofs.Ytabhiangjomaeaa.dcheck.dcheck_any t DD W (by unfold maxLen; omega))
          clear hem hem3 HRS HF1 HF2 HF3
          rcases hem2 with hDi | ⟨hDi, e1, e2⟩
          · go_wp2_with fail
            refine CK.out.mono ?_
            rintro e wk ⟨rfl, hbk⟩
            have HAk : Hid (RcAt wk B ⟨SS, t, cl, lf, DD⟩) := Lib.hid ((hbk.block B alt).trans HA.out)
            have HPk : Hid (RcAt wk w.heap.size ⟨⟨#[]⟩, 0, 0, 0, ⟨#[]⟩⟩) := Lib.hid ((hbk.block _ plt).trans HP10.out)
            have hEk := HE10.out.trans (EffC.of_below hbk)
            have HEk := Lib.hid hEk
            have hCk := (hbk.block C HC10.out.lt).trans HC10.out.blk
            have HF1 := Lib.hid (setRc_at HPk.out ⟨SS, t, cl, lf, DD⟩)
            have HF2 := Lib.hid (setRc_eff HEk.out (Nat.le_refl w.heap.size) ⟨SS, t, cl, lf, DD⟩)
            have HF3 := Lib.hid (HC0.out.from_ HF2.out (setRc_blk hCk hPC ⟨SS, t, cl, lf, DD⟩))
            clear hbk hEk hCk a0 a1 a2 a3 a4 p0 p1 p2 p3 p4 q0 q1 q2 q3 q4 plt alt CK
            obtain ⟨cs, hcs⟩ : ∃ cs, checkS t DD.data.toList = cs := ⟨_, rfl⟩
            rw [hcs] at HRT ⊢
            clear hcs
            have a0 := HAk.out.c0; have a1 := HAk.out.c1; have a2 := HAk.out.c2; have a3 := HAk.out.c3; have a4 := HAk.out.c4
            have p0 := HPk.out.c0; have p1 := HPk.out.c1; have p2 := HPk.out.c2; have p3 := HPk.out.c3; have p4 := HPk.out.c4
            have q0 := HPk.out.z 0; have q1 := HPk.out.z 1; have q2 := HPk.out.z 2; have q3 := HPk.out.z 3; have q4 := HPk.out.z 4
            have plt := HPk.out.lt; have alt := HAk.out.lt
            by_cases c0 : cs = 0
            · have HRb : Hid (R = .ok ⟨SS, t, cl, lf, DD⟩ i) := Lib.hid (by
                have h := HRI.out
                rw [HRT.out, decide_eq_true c0, if_pos rfl] at h; exact h.symm)
              have e0 : (cs != 0) = false := by rw [c0]; rfl
              clear c0 HRI HRT
              go_wp2_with fail
              have f0 := HF1.out.c0; have f1 := HF1.out.c1; have f2 := HF1.out.c2; have f3 := HF1.out.c3; have f4 := HF1.out.c4
              have hWF : (((((wk.setCell ⟨w.heap.size, 0, none⟩ (.string SS)).setCell ⟨w.heap.size, 1, none⟩ (.int .i64 t)).setCell ⟨w.heap.size, 2, none⟩ (.int .i64 cl)).setCell ⟨w.heap.size, 3, none⟩ (.int .i64 lf)).setCell ⟨w.heap.size, 4, none⟩ (.string DD)) = setRc wk w.heap.size ⟨SS, t, cl, lf, DD⟩ := rfl
              rw [hWF]
              obtain ⟨WF, hWF2⟩ : ∃ WF, setRc wk w.heap.size ⟨SS, t, cl, lf, DD⟩ = WF := ⟨_, rfl⟩
              rw [hWF2] at f0 f1 f2 f3 f4 HF2 HF3 ⊢
              clear hWF hWF2 HF1
              refine bodyPost_ret (v := .agg #[.string SS, .int .i64 t, .int .i64 cl, .int .i64 lf, .string DD]) (by simp [results, Try.results65, go_sem, f0, f1, f2, f3, f4]) rfl (RecE.yes HRb.out HF3.out HF2.out)
            · have HRb : Hid (R = .bad 7) := Lib.hid (by
                have h := HRI.out
                rw [HRT.out, decide_eq_false c0, if_neg (by simp)] at h; exact h.symm)
              have e0 : (cs != 0) = true := by rw [bne_iff_ne]; exact c0
              clear c0 HRI HRT
              go_wp2_with fail
              exact ⟨rfl, RecE.no HRb.out HEk.out⟩
          · go_wp2_with fail
            refine CK.out.mono ?_
            rintro e wk ⟨rfl, hbk⟩
            have HAk : Hid (RcAt wk B ⟨SS, t, cl, lf, DD⟩) := Lib.hid ((hbk.block B alt).trans HA.out)
            have HPk : Hid (RcAt wk w.heap.size ⟨⟨#[]⟩, 0, 0, 0, ⟨#[]⟩⟩) := Lib.hid ((hbk.block _ plt).trans HP10.out)
            have hEk := HE10.out.trans (EffC.of_below hbk)
            have HEk := Lib.hid hEk
            have hCk := (hbk.block C HC10.out.lt).trans HC10.out.blk
            have HF1 := Lib.hid (setRc_at HPk.out ⟨SS, t, cl, lf, DD⟩)
            have HF2 := Lib.hid (setRc_eff HEk.out (Nat.le_refl w.heap.size) ⟨SS, t, cl, lf, DD⟩)
            have HF3 := Lib.hid (HC0.out.from_ HF2.out (setRc_blk hCk hPC ⟨SS, t, cl, lf, DD⟩))
            clear hbk hEk hCk a0 a1 a2 a3 a4 p0 p1 p2 p3 p4 q0 q1 q2 q3 q4 plt alt CK
            obtain ⟨cs, hcs⟩ : ∃ cs, checkS t DD.data.toList = cs := ⟨_, rfl⟩
            rw [hcs] at HRT ⊢
            clear hcs
            have a0 := HAk.out.c0; have a1 := HAk.out.c1; have a2 := HAk.out.c2; have a3 := HAk.out.c3; have a4 := HAk.out.c4
            have p0 := HPk.out.c0; have p1 := HPk.out.c1; have p2 := HPk.out.c2; have p3 := HPk.out.c3; have p4 := HPk.out.c4
            have q0 := HPk.out.z 0; have q1 := HPk.out.z 1; have q2 := HPk.out.z 2; have q3 := HPk.out.z 3; have q4 := HPk.out.z 4
            have plt := HPk.out.lt; have alt := HAk.out.lt
            by_cases c0 : cs = 0
            · have HRb : Hid (R = .ok ⟨SS, t, cl, lf, DD⟩ i) := Lib.hid (by
                have h := HRI.out
                rw [HRT.out, decide_eq_true c0, if_pos rfl] at h; exact h.symm)
              have e0 : (cs != 0) = false := by rw [c0]; rfl
              clear c0 HRI HRT
              go_wp2_with fail
              have f0 := HF1.out.c0; have f1 := HF1.out.c1; have f2 := HF1.out.c2; have f3 := HF1.out.c3; have f4 := HF1.out.c4
              have hWF : (((((wk.setCell ⟨w.heap.size, 0, none⟩ (.string SS)).setCell ⟨w.heap.size, 1, none⟩ (.int .i64 t)).setCell ⟨w.heap.size, 2, none⟩ (.int .i64 cl)).setCell ⟨w.heap.size, 3, none⟩ (.int .i64 lf)).setCell ⟨w.heap.size, 4, none⟩ (.string DD)) = setRc wk w.heap.size ⟨SS, t, cl, lf, DD⟩ := rfl
              rw [hWF]
              obtain ⟨WF, hWF2⟩ : ∃ WF, setRc wk w.heap.size ⟨SS, t, cl, lf, DD⟩ = WF := ⟨_, rfl⟩
              rw [hWF2] at f0 f1 f2 f3 f4 HF2 HF3 ⊢
              clear hWF hWF2 HF1
              refine bodyPost_ret (v := .agg #[.string SS, .int .i64 t, .int .i64 cl, .int .i64 lf, .string DD]) (by simp [results, Try.results65, go_sem, f0, f1, f2, f3, f4]) rfl (RecE.yes HRb.out HF3.out HF2.out)
            · have HRb : Hid (R = .bad 7) := Lib.hid (by
                have h := HRI.out
                rw [HRT.out, decide_eq_false c0, if_neg (by simp)] at h; exact h.symm)
              have e0 : (cs != 0) = true := by rw [bne_iff_ne]; exact c0
              clear c0 HRI HRT
              go_wp2_with fail
              exact ⟨rfl, RecE.no HRb.out HEk.out⟩
end Go.Proofs.Ytabhiangjomaeaa.crec
namespace Go.Proofs.Ytabhiangjomaeaa.roundV
open Go.Proofs.Ytabhiangjomaeaa.kit Go.Proofs.Ytabhiangjomaeaa.nspec Go.Proofs.Ytabhiangjomaeaa.rsplit Go.Proofs.Ytabhiangjomaeaa.check Go.Proofs.Ytabhiangjomaeaa.fld Go.Proofs.Ytabhiangjomaeaa.wireP Go.Proofs.Ytabhiangjomaeaa.wireM Go.Proofs.Ytabhiangjomaeaa.packP Go.Proofs.Ytabhiangjomaeaa.psmall Go.Proofs.Ytabhiangjomaeaa.fits Go.Proofs.Ytabhiangjomaeaa.pdata Go.Proofs.Ytabhiangjomaeaa.wpack Go.Proofs.Ytabhiangjomaeaa.unpP Go.Proofs.Ytabhiangjomaeaa.shortP Go.Proofs.Ytabhiangjomaeaa.roundU Go.Proofs.Ytabhiangjomaeaa.cdata Go.Proofs.Ytabhiangjomaeaa.crec
set_option linter.unusedVariables false

theorem nameF_tail : ∀ (f : Nat) (n : Bs) (n0 : Nat) (N : Noted), ∃ t N', ∀ out : Bs, out.length = n0 → nameF f n ⟨out, N⟩ = ⟨out ++ t, N'⟩
  | 0, n, n0, N => ⟨[], N, fun out h => by simp [nameF]⟩
  | f + 1, [], n0, N => ⟨[], N, fun out h => by simp [nameF]⟩
  | f + 1, c :: r, n0, N => by
    by_cases hc : c = 0
    · exact ⟨[0], N, fun out h => by simp [nameF, hc]⟩
    cases hf : findN N (c :: r) with
    | some k => exact ⟨be2 (49152 + k), N, fun out h => by simp only [nameF, if_neg hc, hf]⟩
    | none =>
      obtain ⟨t, N', h⟩ := nameF_tail f ((c :: r).drop (1 + c.toNat)) (n0 + ((c :: r).take (1 + c.toNat)).length) (if n0 ≤ 16383 then N ++ [(c :: r, n0)] else N)
      refine ⟨(c :: r).take (1 + c.toNat) ++ t, N', fun out ho => ?_⟩
      simp only [nameF, if_neg hc, hf]
      rw [ho, h (out ++ (c :: r).take (1 + c.toNat)) (by rw [List.length_append, ho]), List.append_assoc]
theorem dataP_tail : ∀ (fs : List (Option Nat)) (d : Bs) (n0 : Nat) (N : Noted), ∃ t N', ∀ out : Bs, out.length = n0 → dataP fs d ⟨out, N⟩ = ⟨out ++ t, N'⟩
  | [], d, n0, N => ⟨d, N, fun out h => rfl⟩
  | none :: fs, d, n0, N => by
    obtain ⟨t1, N1, h1⟩ := nameF_tail ((d.take (nameSz d)).length + 1) (d.take (nameSz d)) n0 N
    obtain ⟨t2, N2, h2⟩ := dataP_tail fs (d.drop (nameSz d)) (n0 + t1.length) N1
    refine ⟨t1 ++ t2, N2, fun out h => ?_⟩
    simp only [dataP, nameP]
    rw [h1 out h, h2 _ (by rw [List.length_append, h]), List.append_assoc]
  | some k :: fs, d, n0, N => by
    obtain ⟨t2, N2, h2⟩ := dataP_tail fs (d.drop k) (n0 + (d.take k).length) N
    refine ⟨d.take k ++ t2, N2, fun out h => ?_⟩
    simp only [dataP]
    rw [h2 _ (by rw [List.length_append, h]), List.append_assoc]
theorem set_at : ∀ (a : Bs) (c v : UInt8) (t : Bs), (a ++ c :: t).set a.length v = a ++ v :: t
  | [], c, v, t => rfl
  | x :: a, c, v, t => by simp
theorem patch_at (a t : Bs) (n : Int) : patch (a ++ [0, 0] ++ t) a.length n = a ++ be2 n ++ t := by
  unfold patch be2
  have e : a ++ [0, 0] ++ t = a ++ 0 :: (0 :: t) := by simp
  rw [e, set_at]
  have e2 : a ++ byte (n / 256) :: (0 :: t) = (a ++ [byte (n / 256)]) ++ 0 :: t := by simp
  have e3 : a.length + 1 = (a ++ [byte (n / 256)]).length := by simp
  rw [e2, e3, set_at]; simp
/-- a record as it is written: its length stands ahead of its data -/
theorem recP_form (x : Rc) (p : Pp) : ∃ n : Nat, recP x p = dataP (if x.d.size = 0 then [] else fieldsW x.t) x.d.data.toList ⟨(nameP x.o.data.toList p).out ++ (be2 x.t ++ be2 x.c ++ be4 x.l) ++ be2 n, (nameP x.o.data.toList p).N⟩ ∧
    (recP x p).out.length = (nameP x.o.data.toList p).out.length + 10 + n := by
  rw [← recP_eq x p _ rfl]
  obtain ⟨a, ha⟩ : ∃ a, (nameP x.o.data.toList p).out ++ (be2 x.t ++ be2 x.c ++ be4 x.l) = a := ⟨_, rfl⟩
  have hal : a.length = (nameP x.o.data.toList p).out.length + 8 := by rw [← ha]; simp only [List.length_append, be2_len, be4_len]
  simp only [ha]
  obtain ⟨t, N', h⟩ := dataP_tail (if x.d.size = 0 then [] else fieldsW x.t) x.d.data.toList (a.length + 2) (nameP x.o.data.toList p).N
  refine ⟨t.length, ?_, ?_⟩
  · rw [h (a ++ [0, 0]) (by simp), h (a ++ be2 t.length) (by rw [List.length_append, be2_len])]
    simp only
    have e : (((a ++ [0, 0] ++ t).length : Nat) : Int) - (a.length : Int) - 2 = (t.length : Int) := by simp; omega
    rw [e, patch_at]
  · rw [h (a ++ [0, 0]) (by simp)]
    simp only [patch_len, List.length_append, List.length_cons, List.length_nil]; omega
theorem mkB_data (s : ByteArray) : mkB s.data.toList = s := by unfold mkB; simp
theorem right_all {x : Rc} (h : rightB x = true) : (∃ ls, IsN x.o.data.toList ls) ∧ (0 ≤ x.t ∧ x.t ≤ 65535) ∧ (0 ≤ x.c ∧ x.c ≤ 65535) ∧ (0 ≤ x.l ∧ x.l ≤ 4294967295) ∧ x.d.size ≤ 65535 ∧ (x.d.size ≠ 0 → fieldsW x.t ≠ [] → FitsE (fieldsW x.t) x.d.data.toList) ∧ (x.d.size ≠ 0 → Fits (fieldsW x.t) x.d.data.toList) := by
  have h' := right_use h
  unfold rightB at h
  simp only [Bool.and_eq_true, inB, decide_eq_true_eq] at h
  obtain ⟨h1, ⟨h2, h3⟩, ⟨h4, h5⟩, ⟨h6, h7⟩, h8⟩ := h
  refine ⟨h'.1, ⟨h2, h3⟩, ⟨h4, h5⟩, ⟨h6, h7⟩, h'.2.2.2.1, fun hd hf => ?_, h'.2.2.2.2⟩
  by_cases h41 : x.t = 41
  · exfalso; apply hf; rw [h41]; rfl
  · rw [if_neg h41, Bool.or_eq_true] at h8
    rcases h8 with h8 | h8
    · unfold emptyB at h8; simp [hd] at h8
    · exact fitsE_w (by simpa using h8) hf
theorem fieldsW_nil (t : Int) : fieldsW t = [] ↔ shortL t = [] := by
  rw [← short_nil]
  unfold fieldsW
  rw [List.map_eq_nil_iff]
  constructor
  · intro h; rw [← size_len, h]; rfl
  · intro h; exact List.eq_nil_of_length_eq_zero (by rw [size_len]; exact h)
theorem dataU_none : ∀ (fs : List (Option Nat)) (b : Bs) (k : Nat) (acc s : Bs) (j : Nat), dataU fs b k k acc = .ok s j → s = acc
  | [], b, k, acc, s, j, h => by simp only [dataU, if_true] at h; cases h; rfl
  | none :: fs, b, k, acc, s, j, h => by
    simp only [dataU, nameAt] at h
    rw [nameR_step b k k k 7 0 (by omega), if_pos (Nat.le_refl _)] at h
    cases h
  | some n :: fs, b, k, acc, s, j, h => by
    simp only [dataU] at h
    by_cases hn : k < k + n
    · rw [if_pos hn] at h; cases h
    · rw [if_neg hn] at h
      have h0 : n = 0 := by omega
      subst h0
      have e := dataU_none fs b k _ s j h
      rw [e]; unfold cutB; simp
/-- a thing is read where it was written, with whatever behind it; cut, the bytes end -/
def Reads {α : Type} (f : Bs → Nat → Got α) (x : α) (p q : Pp) : Prop :=
  (∃ t, q.out = p.out ++ t) ∧ Inv q ∧ (∀ t, f (q.out ++ t) p.out.length = .ok x q.out.length) ∧ ∀ c, p.out.length ≤ c → c < q.out.length → f (q.out.take c) p.out.length = .bad 10
theorem q_all {x : Qn} (h : rightQ x = true) : (∃ ls, IsN x.n.data.toList ls) ∧ (0 ≤ x.t ∧ x.t ≤ 65535) ∧ (0 ≤ x.c ∧ x.c ≤ 65535) := by
  have h' := q_use h
  unfold rightQ at h
  simp only [Bool.and_eq_true, inB, decide_eq_true_eq] at h
  exact ⟨h', h.2.1, h.2.2⟩
theorem take_more {a t : Bs} {c : Nat} (h : a.length ≤ c) : (a ++ t).take c = a ++ t.take (c - a.length) := by
  rw [List.take_append, List.take_of_length_le h]
theorem take_less {a t : Bs} {c : Nat} (h : c ≤ a.length) : (a ++ t).take c = a.take c := List.take_append_of_le_length h
theorem ques_reads (x : Qn) (p : Pp) (hx : rightQ x = true) (hi : Inv p) : Reads quesU x p (quesP x p) := by
  obtain ⟨⟨ls, h1, h2, h3⟩, ht, hc⟩ := q_all hx
  have e : quesP x p = ⟨(nameP (put ls) p).out ++ (be2 x.t ++ be2 x.c), (nameP (put ls) p).N⟩ := by unfold quesP; rw [h1]
  rw [h1] at h3
  obtain ⟨⟨t1, ht1⟩, g2, g3⟩ := name_inv h2 hi
  have hxx : (⟨mkB (put ls), x.t, x.c⟩ : Qn) = x := by rw [← h1, mkB_data]
  obtain ⟨q, hq⟩ : ∃ q, nameP (put ls) p = q := ⟨_, rfl⟩
  have hn := fun t lim over => name_at h2 hi h3 t lim over
  have hcut := fun c => name_cut h2 hi h3 (c := c)
  rw [hq] at e ht1 g2 g3 hn
  rw [hq] at hcut
  rw [e]
  have hlen : (q.out ++ (be2 x.t ++ be2 x.c)).length = q.out.length + 4 := by simp only [List.length_append, be2_len]
  refine ⟨⟨t1 ++ (be2 x.t ++ be2 x.c), by simp only [ht1, List.append_assoc]⟩, g3.app _, fun t => ?_, fun c c1 c2 => ?_⟩
  · simp only
    unfold quesU
    rw [List.append_assoc]
    have hle : q.out.length ≤ (q.out ++ (be2 x.t ++ be2 x.c ++ t)).length := by simp only [List.length_append, be2_len]; omega
    rw [hn _ _ 10 hle (Nat.le_refl _)]
    simp only
    rw [if_neg (by simp only [List.length_append, be2_len]; omega)]
    have a1 : num2 (be2 x.t ++ be2 x.c ++ t) 0 = x.t.toNat := by rw [List.append_assoc]; exact num2_be2 ht.1 ht.2 _
    have a2 : num2 (be2 x.t ++ be2 x.c ++ t) 2 = x.c.toNat := by rw [List.append_assoc]; exact (num2_more (be2 x.t) (be2 x.c ++ t) 0).trans (num2_be2 hc.1 hc.2 _)
    have n0 : num2 (q.out ++ (be2 x.t ++ be2 x.c ++ t)) q.out.length = x.t.toNat := (num2_more q.out _ 0).trans a1
    have n2 : num2 (q.out ++ (be2 x.t ++ be2 x.c ++ t)) (q.out.length + 2) = x.c.toNat := (num2_more q.out _ 2).trans a2
    rw [n0, n2, hlen, show ((x.t.toNat : Nat) : Int) = x.t by omega, show ((x.c.toNat : Nat) : Int) = x.c by omega, hxx]
  · simp only at c1 c2 ⊢
    rw [hlen] at c2
    by_cases c3 : c < q.out.length
    · rw [take_less (by omega)]
      unfold quesU
      rw [hcut c c1 c3]
    · rw [take_more (by omega)]
      unfold quesU
      have hz : (q.out ++ (be2 x.t ++ be2 x.c).take (c - q.out.length)).length = c := by rw [List.length_append, List.length_take]; simp only [List.length_append, be2_len]; omega
      rw [hn _ _ 10 (by rw [hz]; omega) (Nat.le_refl _)]
      simp only
      rw [if_pos (by rw [hz]; omega)]
theorem rec_reads (x : Rc) (p : Pp) (hx : rightB x = true) (hi : Inv p) : Reads recU x p (recP x p) := by
  obtain ⟨⟨ls, h1, h2, h3⟩, ht, hc, hl, hd, hfe, hff⟩ := right_all hx
  obtain ⟨n, e, hlen⟩ := recP_form x p
  rw [h1] at h3 e hlen
  obtain ⟨⟨t1, ht1⟩, g2, g3⟩ := name_inv h2 hi
  obtain ⟨q, hq⟩ : ∃ q, nameP (put ls) p = q := ⟨_, rfl⟩
  have hn := fun t lim over => name_at h2 hi h3 t lim over
  have hcut := fun c => name_cut h2 hi h3 (c := c)
  rw [hq] at e hlen ht1 g2 g3 hn
  rw [hq] at hcut
  obtain ⟨a, ha⟩ : ∃ a, q.out ++ (be2 x.t ++ be2 x.c ++ be4 x.l) ++ be2 n = a := ⟨_, rfl⟩
  have hal : a.length = q.out.length + 10 := by rw [← ha]; simp only [List.length_append, be2_len, be4_len]
  have ha2 : a = q.out ++ (be2 x.t ++ (be2 x.c ++ (be4 x.l ++ be2 n))) := by rw [← ha]; simp only [List.append_assoc]
  rw [ha] at e
  have hia : Inv ⟨a, q.N⟩ := by rw [ha2]; exact g3.app _
  -- what is written behind the head
  have hn65 : n ≤ 65535 := by
    have hup := dataP_upL (if x.d.size = 0 then [] else fieldsW x.t) x.d.data.toList ⟨a, q.N⟩ (by
      split
      · trivial
      · exact hff (by assumption))
    rw [← e, hlen, size_len] at hup
    simp only at hup
    omega
  have hD : ∃ t2, (recP x p).out = a ++ t2 ∧ Inv (recP x p) ∧ ∀ t, (if n = 0 ∨ shortL x.t = [] then Got.ok (cutB ((recP x p).out ++ t) (q.out.length + 10) (q.out.length + 10 + n)) 0 else dataU (shortL x.t) ((recP x p).out ++ t) (q.out.length + 10) (q.out.length + 10 + n) []) = .ok x.d.data.toList (if n = 0 ∨ shortL x.t = [] then 0 else q.out.length + 10 + n) := by
    by_cases hd0 : x.d.size = 0
    · have hdn : x.d.data.toList = [] := List.eq_nil_of_length_eq_zero (by rw [size_len]; exact hd0)
      rw [if_pos hd0, hdn] at e
      have e2 : recP x p = ⟨a, q.N⟩ := by rw [e]; simp [dataP]
      have hn0 : n = 0 := by rw [e2] at hlen; simp only at hlen; omega
      subst hn0
      rw [e2, hdn]
      refine ⟨[], by simp, hia, fun t => ?_⟩
      rw [if_pos (Or.inl rfl), if_pos (Or.inl rfl)]
      unfold cutB; simp
    · rw [if_neg hd0] at e
      by_cases hf : fieldsW x.t = []
      · rw [hf] at e
        have hs := (fieldsW_nil x.t).1 hf
        have e2 : recP x p = ⟨a ++ x.d.data.toList, q.N⟩ := by rw [e]; simp only [dataP]
        have hnd : x.d.data.toList.length = n := by rw [e2] at hlen; simp only [List.length_append] at hlen; omega
        rw [e2]
        refine ⟨_, rfl, hia.app _, fun t => ?_⟩
        rw [if_pos (Or.inr hs), if_pos (Or.inr hs), ← hal, cut_all a x.d.data.toList hnd t]
      · have hs : shortL x.t ≠ [] := fun h => hf ((fieldsW_nil x.t).2 h)
        obtain ⟨⟨t2, k1⟩, k2, k3⟩ := data_reads _ _ ⟨a, q.N⟩ (hfe hd0 hf) hia
        rw [← e] at k1 k2 k3
        simp only at k1 k3
        rw [hal, hlen] at k3
        have hn0 : n ≠ 0 := by
          intro h0; subst h0
          have h := dataU_none _ _ _ _ _ _ (k3 [] [])
          rw [List.nil_append] at h
          have h' := size_len x.d
          rw [h] at h'; exact hd0 h'.symm
        refine ⟨t2, k1, k2, fun t => ?_⟩
        rw [if_neg (fun h => h.elim hn0 hs), if_neg (fun h => h.elim hn0 hs), ← dataU_w]
        exact k3 t []
  obtain ⟨t2, k1, k2, k3⟩ := hD
  have hxx : (⟨mkB (put ls), x.t, x.c, x.l, mkB x.d.data.toList⟩ : Rc) = x := by rw [← h1, mkB_data, mkB_data]
  have hout : (recP x p).out = q.out ++ (be2 x.t ++ (be2 x.c ++ (be4 x.l ++ (be2 n ++ t2)))) := by rw [k1, ha2]; simp only [List.append_assoc]
  have hn2 : t2.length = n := by rw [k1, List.length_append] at hlen; omega
  -- the head's numbers
  have numT : ∀ t, num2 (q.out ++ (be2 x.t ++ t)) q.out.length = x.t.toNat := fun t => by
    have n0 := num2_more q.out (be2 x.t ++ t) 0
    rw [num2_be2 ht.1 ht.2] at n0; exact n0
  have numC : ∀ t, num2 (q.out ++ (be2 x.t ++ (be2 x.c ++ t))) (q.out.length + 2) = x.c.toNat := fun t => by
    rw [num2_more]
    have n0 := num2_more (be2 x.t) (be2 x.c ++ t) 0
    rw [num2_be2 hc.1 hc.2] at n0; exact n0
  have numL : ∀ t, num4 (q.out ++ (be2 x.t ++ (be2 x.c ++ (be4 x.l ++ t)))) (q.out.length + 4) = x.l.toNat := fun t => by
    rw [num4_more]
    have n0 := num4_more (be2 x.t) (be2 x.c ++ (be4 x.l ++ t)) 2
    have n1 := num4_more (be2 x.c) (be4 x.l ++ t) 0
    rw [num4_be4 hl.1 hl.2] at n1
    exact n0.trans n1
  have numN : ∀ t, num2 (q.out ++ (be2 x.t ++ (be2 x.c ++ (be4 x.l ++ (be2 n ++ t))))) (q.out.length + 8) = n := fun t => by
    rw [num2_more]
    have n0 := num2_more (be2 x.t) (be2 x.c ++ (be4 x.l ++ (be2 n ++ t))) 6
    have n1 := num2_more (be2 x.c) (be4 x.l ++ (be2 n ++ t)) 4
    have n2 := num2_more (be4 x.l) (be2 n ++ t) 0
    rw [num2_be2 (by omega) (by omega)] at n2
    exact n0.trans (n1.trans (n2.trans (by omega)))
  refine ⟨⟨t1 ++ (be2 x.t ++ (be2 x.c ++ (be4 x.l ++ (be2 n ++ t2)))), by rw [hout, ht1, List.append_assoc]⟩, k2, fun t => ?_, fun c c1 c2 => ?_⟩
  · obtain ⟨B, hB⟩ : ∃ B, (recP x p).out ++ t = B := ⟨_, rfl⟩
    have k3 := k3 t
    rw [hB] at k3 ⊢
    have hB2 : B = q.out ++ (be2 x.t ++ (be2 x.c ++ (be4 x.l ++ (be2 n ++ (t2 ++ t))))) := by rw [← hB, hout]; simp only [List.append_assoc]
    have hBl : B.length = q.out.length + 10 + n + t.length := by rw [← hB, List.length_append, hlen]
    unfold recU
    have a1 := hn (be2 x.t ++ (be2 x.c ++ (be4 x.l ++ (be2 n ++ (t2 ++ t))))) B.length 10 (by omega) (by rw [hB2]; exact Nat.le_refl _)
    rw [← hB2] at a1
    rw [a1]
    have b1 := numT (be2 x.c ++ (be4 x.l ++ (be2 n ++ (t2 ++ t))))
    have b2 := numC (be4 x.l ++ (be2 n ++ (t2 ++ t)))
    have b3 := numL (be2 n ++ (t2 ++ t))
    have b4 := numN (t2 ++ t)
    rw [← hB2] at b1 b2 b3 b4
    simp only
    rw [if_neg (by omega), b4, if_neg (by omega), b1, b2, b3, show ((x.t.toNat : Nat) : Int) = x.t by omega, k3]
    simp only
    rw [show ((x.c.toNat : Nat) : Int) = x.c by omega, show ((x.l.toNat : Nat) : Int) = x.l by omega, hxx, if_pos hx, hlen]
  · rw [hlen] at c2
    by_cases c3 : c < q.out.length
    · rw [hout, take_less (by omega)]
      unfold recU
      rw [hcut c c1 c3]
    · obtain ⟨B, hB⟩ : ∃ B, (recP x p).out.take c = B := ⟨_, rfl⟩
      have hBl : B.length = c := by rw [← hB, List.length_take, hlen]; omega
      rw [hB]
      unfold recU
      have hB1 : B = q.out ++ (be2 x.t ++ (be2 x.c ++ (be4 x.l ++ (be2 n ++ t2)))).take (c - q.out.length) := by rw [← hB, hout, take_more (by omega)]
      have a1 := hn ((be2 x.t ++ (be2 x.c ++ (be4 x.l ++ (be2 n ++ t2)))).take (c - q.out.length)) B.length 10 (by omega) (by rw [hB1]; exact Nat.le_refl _)
      rw [← hB1] at a1
      rw [a1]
      simp only
      by_cases c4 : c < q.out.length + 10
      · rw [if_pos (by omega)]
      · rw [if_neg (by omega)]
        have hB2 : B = q.out ++ (be2 x.t ++ (be2 x.c ++ (be4 x.l ++ (be2 n ++ t2.take (c - a.length))))) := by
          rw [← hB, k1, take_more (by omega), ha2]; simp only [List.append_assoc]
        have b4 := numN (t2.take (c - a.length))
        rw [← hB2] at b4
        rw [b4, if_pos (by omega)]
end Go.Proofs.Ytabhiangjomaeaa.roundV

/- gazetteerref1.CheckData: walk. Messages in plain words: records, questions, which are right. wire.right, gazetteerref2.Right: walks (printed by gen_right.py). Lists of timed keys, and of keys of a plan, in memory; both are held against their like. Messages in memory. Packing in plain words. -/
import Derived.Test.YtabhiangjomaeaaU9
import Derived.Test.YtabhiangjomaeaaU2
import Derived.Test.YtabhiangjomaeaaU8
import Derived.Test.YtabhiangjomaeaaU6
import Derived.Test.YtabhiangjomaeaaU1
import Derived.BigQuiet
import Derived.Deep.QuietTactic
namespace Go.Proofs.Ytabhiangjomaeaa.checkData
open Go.RowKit Go.Proofs.Ytabhiangjomaeaa.kit Go.Proofs.Ytabhiangjomaeaa.nspec Go.Proofs.Ytabhiangjomaeaa.fld Go.Proofs.Ytabhiangjomaeaa.takes Go.Proofs.Ytabhiangjomaeaa.splitD Go.Proofs.Ytabhiangjomaeaa.rsize Go.Proofs.Ytabhiangjomaeaa.rform Go.Proofs.Ytabhiangjomaeaa.parts
set_option linter.unusedVariables false

theorem fair4_of {fs gs : List Fld} (h : some gs = some fs) (hl : gs.length ≤ 20) (hk : gs.all (fun f => match f with | .num k => decide (k = 1 ∨ k = 2 ∨ k = 4) | _ => true) = true) : Fair4 fs := by
  have e := Option.some.inj h
  subst e
  refine ⟨hl, fun k hm => ?_⟩
  have := List.all_eq_true.1 hk _ hm
  simpa using this
theorem form_fair4 {t : Int} {fs : List Fld} (h : formS t = some fs) : Fair4 fs := by
  by_cases h1 : t = 1
  · subst h1; exact fair4_of h (by decide) (by decide)
  by_cases h2 : t = 2
  · subst h2; exact fair4_of h (by decide) (by decide)
  by_cases h5 : t = 5
  · subst h5; exact fair4_of h (by decide) (by decide)
  by_cases h12 : t = 12
  · subst h12; exact fair4_of h (by decide) (by decide)
  by_cases h39 : t = 39
  · subst h39; exact fair4_of h (by decide) (by decide)
  by_cases h6 : t = 6
  · subst h6; exact fair4_of h (by decide) (by decide)
  by_cases h13 : t = 13
  · subst h13; exact fair4_of h (by decide) (by decide)
  by_cases h15 : t = 15
  · subst h15; exact fair4_of h (by decide) (by decide)
  by_cases h16 : t = 16
  · subst h16; exact fair4_of h (by decide) (by decide)
  by_cases h28 : t = 28
  · subst h28; exact fair4_of h (by decide) (by decide)
  by_cases h33 : t = 33
  · subst h33; exact fair4_of h (by decide) (by decide)
  by_cases h35 : t = 35
  · subst h35; exact fair4_of h (by decide) (by decide)
  by_cases h43 : t = 43
  · subst h43; exact fair4_of h (by decide) (by decide)
  by_cases h46 : t = 46
  · subst h46; exact fair4_of h (by decide) (by decide)
  by_cases h47 : t = 47
  · subst h47; exact fair4_of h (by decide) (by decide)
  by_cases h48 : t = 48
  · subst h48; exact fair4_of h (by decide) (by decide)
  by_cases h50 : t = 50
  · subst h50; exact fair4_of h (by decide) (by decide)
  by_cases h51 : t = 51
  · subst h51; exact fair4_of h (by decide) (by decide)
  by_cases h257 : t = 257
  · subst h257; exact fair4_of h (by decide) (by decide)
  simp [formS, h1, h2, h5, h12, h39, h6, h13, h15, h16, h28, h33, h35, h43, h46, h47, h48, h50, h51, h257] at h
theorem form_holds {t : Int} {fs : List Fld} (h : formS t = some fs) : holdsB t = true := by
  by_cases h1 : t = 1
  · subst h1; decide
  by_cases h2 : t = 2
  · subst h2; decide
  by_cases h5 : t = 5
  · subst h5; decide
  by_cases h12 : t = 12
  · subst h12; decide
  by_cases h39 : t = 39
  · subst h39; decide
  by_cases h6 : t = 6
  · subst h6; decide
  by_cases h13 : t = 13
  · subst h13; decide
  by_cases h15 : t = 15
  · subst h15; decide
  by_cases h16 : t = 16
  · subst h16; decide
  by_cases h28 : t = 28
  · subst h28; decide
  by_cases h33 : t = 33
  · subst h33; decide
  by_cases h35 : t = 35
  · subst h35; decide
  by_cases h43 : t = 43
  · subst h43; decide
  by_cases h46 : t = 46
  · subst h46; decide
  by_cases h47 : t = 47
  · subst h47; decide
  by_cases h48 : t = 48
  · subst h48; decide
  by_cases h50 : t = 50
  · subst h50; decide
  by_cases h51 : t = 51
  · subst h51; decide
  by_cases h257 : t = 257
  · subst h257; decide
  simp [formS, h1, h2, h5, h12, h39, h6, h13, h15, h16, h28, h33, h35, h43, h46, h47, h48, h50, h51, h257] at h
theorem form_cons {t : Int} {fs : List Fld} (h : formS t = some fs) : lettersB fs ≠ [] ∧ lettersB fs ≠ [45] := by
  by_cases h1 : t = 1
  · subst h1; have e := Option.some.inj h; subst e; exact ⟨by decide, by decide⟩
  by_cases h2 : t = 2
  · subst h2; have e := Option.some.inj h; subst e; exact ⟨by decide, by decide⟩
  by_cases h5 : t = 5
  · subst h5; have e := Option.some.inj h; subst e; exact ⟨by decide, by decide⟩
  by_cases h12 : t = 12
  · subst h12; have e := Option.some.inj h; subst e; exact ⟨by decide, by decide⟩
  by_cases h39 : t = 39
  · subst h39; have e := Option.some.inj h; subst e; exact ⟨by decide, by decide⟩
  by_cases h6 : t = 6
  · subst h6; have e := Option.some.inj h; subst e; exact ⟨by decide, by decide⟩
  by_cases h13 : t = 13
  · subst h13; have e := Option.some.inj h; subst e; exact ⟨by decide, by decide⟩
  by_cases h15 : t = 15
  · subst h15; have e := Option.some.inj h; subst e; exact ⟨by decide, by decide⟩
  by_cases h16 : t = 16
  · subst h16; have e := Option.some.inj h; subst e; exact ⟨by decide, by decide⟩
  by_cases h28 : t = 28
  · subst h28; have e := Option.some.inj h; subst e; exact ⟨by decide, by decide⟩
  by_cases h33 : t = 33
  · subst h33; have e := Option.some.inj h; subst e; exact ⟨by decide, by decide⟩
  by_cases h35 : t = 35
  · subst h35; have e := Option.some.inj h; subst e; exact ⟨by decide, by decide⟩
  by_cases h43 : t = 43
  · subst h43; have e := Option.some.inj h; subst e; exact ⟨by decide, by decide⟩
  by_cases h46 : t = 46
  · subst h46; have e := Option.some.inj h; subst e; exact ⟨by decide, by decide⟩
  by_cases h47 : t = 47
  · subst h47; have e := Option.some.inj h; subst e; exact ⟨by decide, by decide⟩
  by_cases h48 : t = 48
  · subst h48; have e := Option.some.inj h; subst e; exact ⟨by decide, by decide⟩
  by_cases h50 : t = 50
  · subst h50; have e := Option.some.inj h; subst e; exact ⟨by decide, by decide⟩
  by_cases h51 : t = 51
  · subst h51; have e := Option.some.inj h; subst e; exact ⟨by decide, by decide⟩
  by_cases h257 : t = 257
  · subst h257; have e := Option.some.inj h; subst e; exact ⟨by decide, by decide⟩
  simp [formS, h1, h2, h5, h12, h39, h6, h13, h15, h16, h28, h33, h35, h43, h46, h47, h48, h50, h51, h257] at h

theorem notEmpty {F : ByteArray} (h : F.data.toList ≠ []) : F.toList.isEmpty = false := by
  rw [Lib.toList_data]
  cases hl : F.data.toList with
  | nil => exact absurd hl h
  | cons => rfl
theorem not45 {F : ByteArray} (h : F.data.toList ≠ [45]) : (F.toList == [45]) = false := by rw [Lib.toList_data]; simpa using h

set_option maxRecDepth 100000 in
set_option maxHeartbeats 2000000 in
theorem rdcheck_any (t : Int) (s : ByteArray) (w : World) (hs : s.size ≤ maxLen) :
    Calls Try.prog 102 #[.int .i64 t, .string s] w fun e w' => e = .returned (.int .i64 (checkS t s.data.toList)) ∧ Below w.heap.size w w' := by
  obtain ⟨R, HR⟩ : ∃ R, Hid (checkS t s.data.toList = R) := ⟨_, Lib.hid rfl⟩
  rw [HR.out]
  have CF := Lib.hid (fun w => rform_any t w)
  unfold FormIs at CF
  obtain ⟨F, hF⟩ : ∃ F : ByteArray, (⟨(formB t).toArray⟩ : ByteArray) = F := ⟨_, rfl⟩
  have hFd : F.data.toList = formB t := by rw [← hF]
  rw [hF] at CF
  cases hf : formS t with
  | none =>
    have hP : partsS t s.data.toList = some [] := by unfold partsS; rw [hf]
    obtain ⟨b, hb⟩ : ∃ b, holdsB t = b := ⟨_, rfl⟩
    cases b with
    | false =>
      have HN : Hid (6 = R) := Lib.hid (by rw [← HR.out, checkS, if_pos hb])
      have he : F.toList = [] := by rw [Lib.toList_data, hFd]; unfold formB; rw [hf, hb]; rfl
      clear hF hFd hf hP hb
      go_enter Try.func102, Try.ntmps102
      go_wp2_with fail
      refine (CF.out _).mono ?_
      rintro e w1 ⟨rfl, rfl⟩
      go_wp2_with fail
      go_ret
      exact ⟨by rw [← HN.out]; rfl, Below.refl _ _⟩
    | true =>
      have hl45 : F.data.toList = [45] := by rw [hFd]; unfold formB; rw [hf, hb]; rfl
      have he : F.toList.isEmpty = false := notEmpty (by rw [hl45]; simp)
      have h45 : (F.toList == [45]) = true := by rw [Lib.toList_data, hl45]; rfl
      by_cases hl : 65535 < s.size
      · have HN : Hid (7 = R) := Lib.hid (by rw [← HR.out, checkS, if_neg (by rw [hb]; simp), if_pos (by rw [size_len]; exact hl)])
        have hli : (65535 : Int) < (s.size : Int) := by omega
        clear hF hFd hf hP hb hl hl45
        go_enter Try.func102, Try.ntmps102
        go_wp2_with fail
        refine (CF.out _).mono ?_
        rintro e w1 ⟨rfl, rfl⟩
        go_wp2_with fail
        go_ret
        exact ⟨by rw [← HN.out]; rfl, Below.refl _ _⟩
      · have HN : Hid (0 = R) := Lib.hid (by rw [← HR.out, checkS, if_neg (by rw [hb]; simp), if_neg (by rw [size_len]; exact hl), hP]; rfl)
        have hli : (s.size : Int) ≤ 65535 := by omega
        clear hF hFd hf hP hb hl hl45
        go_enter Try.func102, Try.ntmps102
        go_wp2_with fail
        refine (CF.out _).mono ?_
        rintro e w1 ⟨rfl, rfl⟩
        go_wp2_with fail
        go_ret
        exact ⟨by rw [← HN.out]; rfl, Below.refl _ _⟩
  | some fs =>
    have hb := form_holds hf
    obtain ⟨c1, c2⟩ := form_cons hf
    have hFl : F.data.toList = lettersB fs := by rw [hFd]; unfold formB; rw [hf]
    have he : F.toList.isEmpty = false := notEmpty (by rw [hFl]; exact c1)
    have h45 : (F.toList == [45]) = false := not45 (by rw [hFl]; exact c2)
    by_cases hl : 65535 < s.size
    · have HN : Hid (7 = R) := Lib.hid (by rw [← HR.out, checkS, if_neg (by rw [hb]; simp), if_pos (by rw [size_len]; exact hl)])
      have hli : (65535 : Int) < (s.size : Int) := by omega
      clear hF hFd hf hb hl hFl c1 c2
      go_enter Try.func102, Try.ntmps102
      go_wp2_with fail
      refine (CF.out _).mono ?_
      rintro e w1 ⟨rfl, rfl⟩
      go_wp2_with fail
      go_ret
      exact ⟨by rw [← HN.out]; rfl, Below.refl _ _⟩
    · have HC : Hid (R = if partsS t s.data.toList = none then 7 else 0) := Lib.hid (by rw [← HR.out, checkS, if_neg (by rw [hb]; simp), if_neg (by rw [size_len]; exact hl)])
      have hli : (s.size : Int) ≤ 65535 := by omega
      have hls : s.size ≤ 65535 := by omega
      have HP : Hid (partsS t s.data.toList = match splitS fs s.data.toList with | some (p, []) => some p | _ => none) := Lib.hid (by unfold partsS; rw [hf]; rfl)
      have CP := Lib.hid (fun w => parts_any fs F s w hFl (form_fair4 hf) hls fs.length rfl)
      clear hF hFd hf hb hl hFl c1 c2
      go_enter Try.func102, Try.ntmps102
      go_wp2_with fail
      refine (CF.out _).mono ?_
      rintro e w1 ⟨rfl, rfl⟩
      go_wp2_with fail
      refine (CP.out _).mono ?_
      rintro e w2 ⟨hB2, ⟨v, p, r, hsp, rfl, hown⟩ | ⟨hsp, rfl⟩⟩
      · have HB := Lib.hid hB2
        have HQ : Hid (R = if r.isEmpty then 0 else 7) := Lib.hid (by rw [HC.out, HP.out, hsp]; cases r <;> simp)
        clear hB2 hsp hown
        cases r with
        | nil =>
          have HN : Hid (R = 0) := Lib.hid HQ.out
          simp only [List.isEmpty_nil]
          go_wp2_with fail
          go_ret
          exact ⟨by rw [HN.out]; rfl, HB.out⟩
        | cons x r =>
          have HN : Hid (R = 7) := Lib.hid HQ.out
          simp only [List.isEmpty_cons]
          go_wp2_with fail
          go_ret
          exact ⟨by rw [HN.out]; rfl, HB.out⟩
      · have HB := Lib.hid hB2
        have HN : Hid (R = 7) := Lib.hid (by rw [HC.out, HP.out, hsp]; rfl)
        clear hB2 hsp
        go_wp2_with fail
        go_ret
        exact ⟨by rw [HN.out]; rfl, HB.out⟩
end Go.Proofs.Ytabhiangjomaeaa.checkData
namespace Go.Proofs.Ytabhiangjomaeaa.wireP
open Go.RowKit Go.Proofs.Ytabhiangjomaeaa.kit Go.Proofs.Ytabhiangjomaeaa.takes Go.Proofs.Ytabhiangjomaeaa.nspec Go.Proofs.Ytabhiangjomaeaa.rsplit Go.Proofs.Ytabhiangjomaeaa.check Go.Proofs.Ytabhiangjomaeaa.fld
set_option linter.unusedVariables false

/-- a record -/
structure Rc where
  o : ByteArray
  t : Int
  c : Int
  l : Int
  d : ByteArray
def Rc.cells (x : Rc) : List Value := [.string x.o, .int .i64 x.t, .int .i64 x.c, .int .i64 x.l, .string x.d]
/-- a question -/
structure Qn where
  n : ByteArray
  t : Int
  c : Int
def Qn.cells (x : Qn) : List Value := [.string x.n, .int .i64 x.t, .int .i64 x.c]
def inB (v top : Int) : Bool := decide (0 ≤ v) && decide (v ≤ top)
def emptyB (x : Rc) : Bool := decide (x.d.size = 0) && (decide (x.c = 254) || decide (x.c = 255))
def rightB (x : Rc) : Bool :=
  isB x.o && (inB x.t 65535 && (inB x.c 65535 && (inB x.l 4294967295 && (if x.t = 41 then decide (x.d.size ≤ 65535) else (emptyB x || decide (checkS x.t x.d.data.toList = 0))))))
def rightQ (x : Qn) : Bool := isB x.n && (inB x.t 65535 && inB x.c 65535)
theorem inB_yes {v top : Int} (h0 : 0 ≤ v) (h1 : v ≤ top) : inB v top = true := by simp [inB, h0, h1]
theorem inB_low {v top : Int} (h0 : v < 0) : inB v top = false := by simp [inB]; intro h; omega
theorem inB_high {v top : Int} (h0 : top < v) : inB v top = false := by simp [inB]; intro h; omega

set_option maxRecDepth 100000 in
theorem in_any (v top : Int) (w : World) : Calls Try.prog 56 #[.int .i64 v, .int .i64 top] w fun e w' => e = .returned (.bool (inB v top)) ∧ w' = w := by
  obtain ⟨R, HR⟩ : ∃ R, Hid (inB v top = R) := ⟨_, Lib.hid rfl⟩
  rw [HR.out]
  by_cases h0 : 0 ≤ v
  · by_cases h1 : v ≤ top
    · have h : R = true := by rw [← HR.out]; exact inB_yes h0 h1
      subst h
      have e0 : decide (0 ≤ v) = true := by simpa using h0
      have e1 : decide (v ≤ top) = true := by simpa using h1
      clear h0 h1
      go_enter Try.func56, Try.ntmps56
      go_wp2_with fail
      go_ret
      exact ⟨rfl, rfl⟩
    · have h : R = false := by rw [← HR.out]; exact inB_high (by omega)
      subst h
      have e0 : decide (0 ≤ v) = true := by simpa using h0
      have e1 : decide (v ≤ top) = false := by simpa using h1
      clear h0 h1
      go_enter Try.func56, Try.ntmps56
      go_wp2_with fail
      go_ret
      exact ⟨rfl, rfl⟩
  · have h : R = false := by rw [← HR.out]; exact inB_low (by omega)
    subst h
    have e0 : decide (0 ≤ v) = false := by simpa using h0
    clear h0
    go_enter Try.func56, Try.ntmps56
    go_wp2_with fail
    go_ret
    exact ⟨rfl, rfl⟩

set_option maxRecDepth 100000 in
theorem empty_any (x : Rc) (w : World) : Calls Try.prog 101 #[.agg #[.string x.o, .int .i64 x.t, .int .i64 x.c, .int .i64 x.l, .string x.d]] w fun e w' => e = .returned (.bool (emptyB x)) ∧ Below w.heap.size w w' := by
  obtain ⟨R, HR⟩ : ∃ R, Hid (emptyB x = R) := ⟨_, Lib.hid rfl⟩
  rw [HR.out]
  have hB : Hid (Below w.heap.size w (w.alloc (.cells #[.string x.o, .int .i64 x.t, .int .i64 x.c, .int .i64 x.l, .string x.d] 52))) := Lib.hid ((Below.refl _ _).alloc (Nat.le_refl _) _)
  by_cases h0 : x.d.size = 0
  · have he := emp_yes h0
    by_cases h1 : x.c = 254
    · have h : R = true := by rw [← HR.out]; simp [emptyB, h0, h1]
      subst h
      have e1 : (x.c == 254) = true := by simpa using h1
      clear h0 h1
      go_enter Try.func101, Try.ntmps101
      go_wp2_with fail
      go_ret
      exact ⟨rfl, hB.out⟩
    · have e1 : (x.c == 254) = false := by simpa using h1
      by_cases h2 : x.c = 255
      · have h : R = true := by rw [← HR.out]; simp [emptyB, h0, h2]
        subst h
        have e2 : (x.c == 255) = true := by simpa using h2
        clear h0 h1 h2
        go_enter Try.func101, Try.ntmps101
        go_wp2_with fail
        go_ret
        exact ⟨rfl, hB.out⟩
      · have h : R = false := by rw [← HR.out]; simp [emptyB, h1, h2]
        subst h
        have e2 : (x.c == 255) = false := by simpa using h2
        clear h0 h1 h2
        go_enter Try.func101, Try.ntmps101
        go_wp2_with fail
        go_ret
        exact ⟨rfl, hB.out⟩
  · have he := emp_no (s := x.d) (by omega)
    have h : R = false := by rw [← HR.out]; simp [emptyB, h0]
    subst h
    clear h0
    go_enter Try.func101, Try.ntmps101
    go_wp2_with fail
    go_ret
    exact ⟨rfl, hB.out⟩
end Go.Proofs.Ytabhiangjomaeaa.wireP
namespace Go.Proofs.Ytabhiangjomaeaa.wireR
open Go.RowKit Go.Proofs.Ytabhiangjomaeaa.kit Go.Proofs.Ytabhiangjomaeaa.takes Go.Proofs.Ytabhiangjomaeaa.nspec Go.Proofs.Ytabhiangjomaeaa.rsplit Go.Proofs.Ytabhiangjomaeaa.check Go.Proofs.Ytabhiangjomaeaa.checkAll Go.Proofs.Ytabhiangjomaeaa.dcheck Go.Proofs.Ytabhiangjomaeaa.checkData Go.Proofs.Ytabhiangjomaeaa.fld Go.Proofs.Ytabhiangjomaeaa.wireP
set_option linter.unusedVariables false

/-- the record's box behind a call -/
theorem box_cells {w w1 : World} {x : Rc} {t : TypeId} (hB : Below (w.alloc (.cells #[.string x.o, .int .i64 x.t, .int .i64 x.c, .int .i64 x.l, .string x.d] t)).heap.size (w.alloc (.cells #[.string x.o, .int .i64 x.t, .int .i64 x.c, .int .i64 x.l, .string x.d] t)) w1) :
    w1.cell? ⟨w.heap.size, 0, none⟩ = some (.string x.o) ∧ w1.cell? ⟨w.heap.size, 1, none⟩ = some (.int .i64 x.t) ∧ w1.cell? ⟨w.heap.size, 2, none⟩ = some (.int .i64 x.c) ∧ w1.cell? ⟨w.heap.size, 3, none⟩ = some (.int .i64 x.l) ∧ w1.cell? ⟨w.heap.size, 4, none⟩ = some (.string x.d) := by
  have hl : w.heap.size < (w.alloc (.cells #[.string x.o, .int .i64 x.t, .int .i64 x.c, .int .i64 x.l, .string x.d] t)).heap.size := by simp
  have hb : (w.alloc (.cells #[.string x.o, .int .i64 x.t, .int .i64 x.c, .int .i64 x.l, .string x.d] t)).heap[w.heap.size]? = some (.cells #[.string x.o, .int .i64 x.t, .int .i64 x.c, .int .i64 x.l, .string x.d] t (0, 0)) := heap_alloc_new _ _
  refine ⟨(hB.cell (p := ⟨w.heap.size, 0, none⟩) hl).trans ?_, (hB.cell (p := ⟨w.heap.size, 1, none⟩) hl).trans ?_, (hB.cell (p := ⟨w.heap.size, 2, none⟩) hl).trans ?_, (hB.cell (p := ⟨w.heap.size, 3, none⟩) hl).trans ?_, (hB.cell (p := ⟨w.heap.size, 4, none⟩) hl).trans ?_⟩ <;> (simp only [World.cell?, hb]; rfl)

set_option maxRecDepth 100000 in
set_option maxHeartbeats 4000000 in
theorem right_any (x : Rc) (w : World) (hd : x.d.size ≤ maxLen) :
    Calls Try.prog 58 #[.agg #[.string x.o, .int .i64 x.t, .int .i64 x.c, .int .i64 x.l, .string x.d]] w fun e w' => e = .returned (.bool (rightB x)) ∧ Below w.heap.size w w' := by
  obtain ⟨R, HR⟩ : ∃ R, Hid (rightB x = R) := ⟨_, Lib.hid rfl⟩
  rw [HR.out]
  have HB0 : Hid (Below w.heap.size w (w.alloc (.cells #[.string x.o, .int .i64 x.t, .int .i64 x.c, .int .i64 x.l, .string x.d] 52))) := Lib.hid ((Below.refl _ _).alloc (Nat.le_refl _) _)
  have CN := Lib.hid (check_all x.o (w.alloc (.cells #[.string x.o, .int .i64 x.t, .int .i64 x.c, .int .i64 x.l, .string x.d] 52)))
  rw [chkE_isB] at CN
  have Ct := Lib.hid (fun w => in_any x.t 65535 w)
  have Cc := Lib.hid (fun w => in_any x.c 65535 w)
  have Cl := Lib.hid (fun w => in_any x.l 4294967295 w)
  have CD := Lib.hid (fun w => dcheck_any x.t x.d w hd)
  obtain ⟨K, hK⟩ : ∃ K, checkS x.t x.d.data.toList = K := ⟨_, rfl⟩
  rw [hK] at CD
  clear hd
  go_enter Try.func58, Try.ntmps58
  go_wp2_with fail
  refine CN.out.mono ?_
  rintro e w1 ⟨rfl, hB1⟩
  obtain ⟨k0, k1, k2, k3, k4⟩ := box_cells hB1
  have HB1 := Lib.hid (HB0.out.trans (hB1.mono HB0.out.size))
  clear hB1 HB0 CN
  cases hn : isB x.o with
  | false =>
    obtain rfl : R = false := by rw [← HR.out]; simp [rightB, hn]
    clear hn
    go_wp2_with fail
    go_ret
    exact ⟨rfl, HB1.out⟩
  | true =>
    cases ht : inB x.t 65535 with
    | false =>
      obtain rfl : R = false := by rw [← HR.out]; simp [rightB, hn, ht]
      rw [ht] at Ct
      clear hn ht
      go_wp2_with fail
      refine (Ct.out _).mono ?_
      rintro e w' ⟨rfl, rfl⟩
      go_wp2_with fail
      go_ret
      exact ⟨rfl, HB1.out⟩
    | true =>
      cases hc : inB x.c 65535 with
      | false =>
        obtain rfl : R = false := by rw [← HR.out]; simp [rightB, hn, ht, hc]
        rw [hc] at Cc
        rw [ht] at Ct
        clear hn ht hc
        go_wp2_with fail
        refine (Ct.out _).mono ?_
        rintro e w' ⟨rfl, rfl⟩
        go_wp2_with fail
        refine (Cc.out _).mono ?_
        rintro e w' ⟨rfl, rfl⟩
        go_wp2_with fail
        go_ret
        exact ⟨rfl, HB1.out⟩
      | true =>
        cases hl : inB x.l 4294967295 with
        | false =>
          obtain rfl : R = false := by rw [← HR.out]; simp [rightB, hn, ht, hc, hl]
          rw [hl] at Cl
          rw [ht] at Ct
          rw [hc] at Cc
          clear hn ht hc hl
          go_wp2_with fail
          refine (Ct.out _).mono ?_
          rintro e w' ⟨rfl, rfl⟩
          go_wp2_with fail
          refine (Cc.out _).mono ?_
          rintro e w' ⟨rfl, rfl⟩
          go_wp2_with fail
          refine (Cl.out _).mono ?_
          rintro e w' ⟨rfl, rfl⟩
          go_wp2_with fail
          go_ret
          exact ⟨rfl, HB1.out⟩
        | true =>
          rw [ht] at Ct
          rw [hc] at Cc
          rw [hl] at Cl
          have HRR : Hid ((if x.t = 41 then decide (x.d.size ≤ 65535) else (emptyB x || decide (K = 0))) = R) := Lib.hid (by rw [← HR.out, ← hK]; simp [rightB, hn, ht, hc, hl])
          clear hn ht hc hl hK
          go_wp2_with fail
          refine (Ct.out _).mono ?_
          rintro e w' ⟨rfl, rfl⟩
          go_wp2_with fail
          refine (Cc.out _).mono ?_
          rintro e w' ⟨rfl, rfl⟩
          go_wp2_with fail
          refine (Cl.out _).mono ?_
          rintro e w' ⟨rfl, rfl⟩
          by_cases h41 : x.t = 41
          · have e41 : (x.t == 41) = true := by simpa using h41
            obtain ⟨b, hb⟩ : ∃ b, decide (x.d.size ≤ 65535) = b := ⟨_, rfl⟩
            obtain rfl : b = R := by rw [← HRR.out, if_pos h41, hb]
            have hv : Value.bool (decide ((x.d.size : Int) ≤ 65535)) = Value.bool b := by rw [← hb]; congr 1; rw [decide_eq_decide]; omega
            clear h41 hb
            go_wp2_with fail
            go_ret
            exact ⟨by first | rfl | rw [hv], HB1.out⟩
          · have e41 : (x.t == 41) = false := by simpa using h41
            have HRS : Hid ((emptyB x || decide (K = 0)) = R) := Lib.hid (by rw [← HRR.out, if_neg h41])
            clear h41 HRR
            have last : ∀ (hne : emptyB x = false), Hid (decide (K = 0) = R) := fun h => Lib.hid (by rw [← HRS.out, h]; rfl)
            have LAST := Lib.hid last; clear last
            by_cases h0 : x.d.size = 0
            · have he := emp_yes h0
              by_cases h1 : x.c = 254
              · obtain rfl : R = true := by rw [← HRS.out]; simp [emptyB, h0, h1]
                have e1 : (x.c == 254) = true := by simpa using h1
                clear h0 h1
                go_wp2_with fail
                go_ret
                exact ⟨rfl, HB1.out⟩
              · have e1 : (x.c == 254) = false := by simpa using h1
                by_cases h2 : x.c = 255
                · obtain rfl : R = true := by rw [← HRS.out]; simp [emptyB, h0, h2]
                  have e2 : (x.c == 255) = true := by simpa using h2
                  clear h0 h1 h2
                  go_wp2_with fail
                  go_ret
                  exact ⟨rfl, HB1.out⟩
                · have HL := LAST.out (by simp [emptyB, h1, h2])
                  have e2 : (x.c == 255) = false := by simpa using h2
                  clear h0 h1 h2 LAST HRS
                  go_wp2_with fail
                  refine (CD.out _).mono ?_
                  rintro e w2 ⟨rfl, hB2⟩
                  have HB2 := Lib.hid (HB1.out.trans (hB2.mono HB1.out.size)); clear hB2
                  have hv : Value.bool (K == 0) = Value.bool R := by rw [← HL.out]; simp [BEq.beq]
                  go_wp2_with fail
                  go_ret
                  exact ⟨by first | rfl | rw [hv], HB2.out⟩
            · have he := emp_no (s := x.d) (by omega)
              have HL := LAST.out (by simp [emptyB, h0])
              clear h0 LAST HRS
              go_wp2_with fail
              refine (CD.out _).mono ?_
              rintro e w2 ⟨rfl, hB2⟩
              have HB2 := Lib.hid (HB1.out.trans (hB2.mono HB1.out.size)); clear hB2
              have hv : Value.bool (K == 0) = Value.bool R := by rw [← HL.out]; simp [BEq.beq]
              go_wp2_with fail
              go_ret
              exact ⟨by first | rfl | rw [hv], HB2.out⟩
set_option maxRecDepth 100000 in
set_option maxHeartbeats 4000000 in
theorem rright_any (x : Rc) (w : World) (ho : x.o.size ≤ 1099511627776) (hd : x.d.size ≤ maxLen) :
    Calls Try.prog 60 #[.agg #[.string x.o, .int .i64 x.t, .int .i64 x.c, .int .i64 x.l, .string x.d]] w fun e w' => e = .returned (.bool (rightB x)) ∧ Below w.heap.size w w' := by
  obtain ⟨R, HR⟩ : ∃ R, Hid (rightB x = R) := ⟨_, Lib.hid rfl⟩
  rw [HR.out]
  have HB0 : Hid (Below w.heap.size w (w.alloc (.cells #[.string x.o, .int .i64 x.t, .int .i64 x.c, .int .i64 x.l, .string x.d] 52))) := Lib.hid ((Below.refl _ _).alloc (Nat.le_refl _) _)
  have CN := Lib.hid (isName_any x.o (w.alloc (.cells #[.string x.o, .int .i64 x.t, .int .i64 x.c, .int .i64 x.l, .string x.d] 52)) ho)
  have CE := Lib.hid (fun w => empty_any x w)
  have CD := Lib.hid (fun w => rdcheck_any x.t x.d w hd)
  obtain ⟨K, hK⟩ : ∃ K, checkS x.t x.d.data.toList = K := ⟨_, rfl⟩
  rw [hK] at CD
  clear hd ho
  go_enter Try.func60, Try.ntmps60
  go_wp2_with fail
  refine CN.out.mono ?_
  rintro e w1 ⟨rfl, hB1⟩
  obtain ⟨k0, k1, k2, k3, k4⟩ := box_cells hB1
  have HB1 := Lib.hid (HB0.out.trans (hB1.mono HB0.out.size))
  clear hB1 HB0 CN
  cases hn : isB x.o with
  | false =>
    obtain rfl : R = false := by rw [← HR.out]; simp [rightB, hn]
    clear hn
    go_wp2_with fail
    go_ret
    exact ⟨rfl, HB1.out⟩
  | true =>
    by_cases lt : x.t < 0
    · obtain rfl : R = false := by rw [← HR.out]; simp [rightB, hn, inB_low lt]
      have et : decide (x.t < 0) = true := by simpa using lt
      clear hn  lt
      go_wp2_with fail
      go_ret
      exact ⟨rfl, HB1.out⟩
    · have et : decide (x.t < 0) = false := by simpa using lt
      by_cases mt : 65535 < x.t
      · obtain rfl : R = false := by rw [← HR.out]; simp [rightB, hn, inB_high mt]
        have gt : decide (65535 < x.t) = true := by simpa using mt
        clear hn  lt mt
        go_wp2_with fail
        go_ret
        exact ⟨rfl, HB1.out⟩
      · have gt : decide (65535 < x.t) = false := by simpa using mt
        by_cases lc : x.c < 0
        · obtain rfl : R = false := by rw [← HR.out]; simp [rightB, hn, inB_yes (v := x.t) (top := 65535) (by omega) (by omega), inB_low lc]
          have ec : decide (x.c < 0) = true := by simpa using lc
          clear hn lt mt lc
          go_wp2_with fail
          go_ret
          exact ⟨rfl, HB1.out⟩
        · have ec : decide (x.c < 0) = false := by simpa using lc
          by_cases mc : 65535 < x.c
          · obtain rfl : R = false := by rw [← HR.out]; simp [rightB, hn, inB_yes (v := x.t) (top := 65535) (by omega) (by omega), inB_high mc]
            have gc : decide (65535 < x.c) = true := by simpa using mc
            clear hn lt mt lc mc
            go_wp2_with fail
            go_ret
            exact ⟨rfl, HB1.out⟩
          · have gc : decide (65535 < x.c) = false := by simpa using mc
            by_cases ll : x.l < 0
            · obtain rfl : R = false := by rw [← HR.out]; simp [rightB, hn, inB_yes (v := x.t) (top := 65535) (by omega) (by omega), inB_yes (v := x.c) (top := 65535) (by omega) (by omega), inB_low ll]
              have el : decide (x.l < 0) = true := by simpa using ll
              clear hn lt mt lc mc ll
              go_wp2_with fail
              go_ret
              exact ⟨rfl, HB1.out⟩
            · have el : decide (x.l < 0) = false := by simpa using ll
              by_cases ml : 4294967295 < x.l
              · obtain rfl : R = false := by rw [← HR.out]; simp [rightB, hn, inB_yes (v := x.t) (top := 65535) (by omega) (by omega), inB_yes (v := x.c) (top := 65535) (by omega) (by omega), inB_high ml]
                have gl : decide (4294967295 < x.l) = true := by simpa using ml
                clear hn lt mt lc mc ll ml
                go_wp2_with fail
                go_ret
                exact ⟨rfl, HB1.out⟩
              · have gl : decide (4294967295 < x.l) = false := by simpa using ml
                have HRR : Hid ((if x.t = 41 then decide (x.d.size ≤ 65535) else (emptyB x || decide (K = 0))) = R) := Lib.hid (by rw [← HR.out, ← hK]; simp [rightB, hn, inB_yes (v := x.t) (top := 65535) (by omega) (by omega), inB_yes (v := x.c) (top := 65535) (by omega) (by omega), inB_yes (v := x.l) (top := 4294967295) (by omega) (by omega)])
                clear hn lt mt lc mc ll ml hK
                by_cases h41 : x.t = 41
                · have e41 : (x.t == 41) = true := by simpa using h41
                  obtain ⟨b, hb⟩ : ∃ b, decide (x.d.size ≤ 65535) = b := ⟨_, rfl⟩
                  obtain rfl : b = R := by rw [← HRR.out, if_pos h41, hb]
                  have hv : Value.bool (decide ((x.d.size : Int) ≤ 65535)) = Value.bool b := by rw [← hb]; congr 1; rw [decide_eq_decide]; omega
                  clear h41 hb
                  go_wp2_with fail
                  go_ret
                  exact ⟨by first | rfl | rw [hv], HB1.out⟩
                · have e41 : (x.t == 41) = false := by simpa using h41
                  obtain ⟨m, hm⟩ : ∃ m, emptyB x = m := ⟨_, rfl⟩
                  have HRS : Hid ((m || decide (K = 0)) = R) := Lib.hid (by rw [← HRR.out, if_neg h41, hm])
                  rw [hm] at CE
                  clear h41 HRR hm
                  go_wp2_with fail
                  refine (CE.out _).mono ?_
                  rintro e w2 ⟨rfl, hB2⟩
                  have hl := HB1.out.size
                  have hlt : w.heap.size < w1.heap.size := by
                    rcases Nat.lt_or_ge w.heap.size w1.heap.size with h | h
                    · exact h
                    · simp [World.cell?, Array.getElem?_eq_none h] at k0
                  have q1 := (hB2.cell (p := ⟨w.heap.size, 1, none⟩) hlt).trans k1
                  have q4 := (hB2.cell (p := ⟨w.heap.size, 4, none⟩) hlt).trans k4
                  have HB2 := Lib.hid (HB1.out.trans (hB2.mono HB1.out.size)); clear hB2
                  cases m with
                  | true =>
                    obtain rfl : R = true := by rw [← HRS.out]; rfl
                    go_wp2_with fail
                    go_ret
                    exact ⟨rfl, HB2.out⟩
                  | false =>
                    go_wp2_with fail
                    refine (CD.out _).mono ?_
                    rintro e w3 ⟨rfl, hB3⟩
                    have HB3 := Lib.hid (HB2.out.trans (hB3.mono HB2.out.size)); clear hB3
                    have hv : Value.bool (K == 0) = Value.bool R := by rw [← HRS.out]; simp [BEq.beq]
                    go_wp2_with fail
                    go_ret
                    exact ⟨by first | rfl | rw [hv], HB3.out⟩
end Go.Proofs.Ytabhiangjomaeaa.wireR
namespace Go.Proofs.Ytabhiangjomaeaa.timed
open Go.RowKit Go.Proofs.Ytabhiangjomaeaa.kit
set_option linter.unusedVariables false

theorem bel_drewN {B : Nat} {a w : World} (h : Below B a w) (q : Nat) : Below B a (w.drewN q) := ⟨h.os, h.tape, h.output, h.size, h.block⟩
/-- a key with its times -/
structure Tm where
  f : Int
  m : Int
  e : Int
  s : Int
  p : Int
  a : Int
  r : Int
  v : Int
deriving DecidableEq
def Tm.cells (x : Tm) : List Value := [.int .i64 x.f, .int .i64 x.m, .int .i64 x.e, .int .i64 x.s, .int .i64 x.p, .int .i64 x.a, .int .i64 x.r, .int .i64 x.v]
/-- a key of a plan -/
structure Pk where
  f : Int
  m : Int
  e : Int
  s : Int
  on : Bool
deriving DecidableEq
def Pk.cells (x : Pk) : List Value := [.int .i64 x.f, .int .i64 x.m, .int .i64 x.e, .int .i64 x.s, .bool x.on]

/-- rows of so many cells can be read from address a on -/
def RdC (w : World) (a : Option Addr) (n : Nat) (ls : List (List Value)) : Prop :=
  ∀ (j : Nat) (x : List Value), ls[j]? = some x → x.length = n ∧ ∃ g o, a = some ⟨g, o, none⟩ ∧ g < w.heap.size ∧ ∀ i u, x[i]? = some u → w.cell? ⟨g, o + j * n + i, none⟩ = some u
theorem RdC.below {w w' : World} {a : Option Addr} {n B : Nat} {ls : List (List Value)} (h : RdC w a n ls) (hB : Below B w w') (hz : B = w.heap.size) : RdC w' a n ls := by
  intro j x hx
  obtain ⟨h0, g, o, h1, h3, h4⟩ := h j x hx
  exact ⟨h0, g, o, h1, Nat.lt_of_lt_of_le h3 hB.size, fun i u hu => (hB.cell (p := ⟨g, o + j * n + i, none⟩) (by rw [hz]; exact h3)).trans (h4 i u hu)⟩
theorem RdC.nil (w : World) (a : Option Addr) (n : Nat) : RdC w a n [] := by intro j x h; simp at h

def AtT (w : World) (g o : Nat) (x : Tm) : Prop :=
  w.cell? ⟨g, o, none⟩ = some (.int .i64 x.f) ∧ w.cell? ⟨g, o + 1, none⟩ = some (.int .i64 x.m) ∧ w.cell? ⟨g, o + 2, none⟩ = some (.int .i64 x.e) ∧ w.cell? ⟨g, o + 3, none⟩ = some (.int .i64 x.s) ∧
  w.cell? ⟨g, o + 4, none⟩ = some (.int .i64 x.p) ∧ w.cell? ⟨g, o + 5, none⟩ = some (.int .i64 x.a) ∧ w.cell? ⟨g, o + 6, none⟩ = some (.int .i64 x.r) ∧ w.cell? ⟨g, o + 7, none⟩ = some (.int .i64 x.v)
theorem RdC.at_t {w : World} {a : Option Addr} {L : List Tm} (h : RdC w a 8 (L.map Tm.cells)) {j : Nat} {x : Tm} (hj : L[j]? = some x) : ∃ g o, a = some ⟨g, o, none⟩ ∧ g < w.heap.size ∧ AtT w g (o + j * 8) x := by
  obtain ⟨_, g, o, h1, h2, h3⟩ := h j x.cells (by rw [List.getElem?_map, hj]; rfl)
  exact ⟨g, o, h1, h2, h3 0 _ rfl, h3 1 _ rfl, h3 2 _ rfl, h3 3 _ rfl, h3 4 _ rfl, h3 5 _ rfl, h3 6 _ rfl, h3 7 _ rfl⟩
theorem AtT.below {w w' : World} {g o B : Nat} {x : Tm} (h : AtT w g o x) (hB : Below B w w') (hg : g < B) : AtT w' g o x := by
  obtain ⟨h0, h1, h2, h3, h4, h5, h6, h7⟩ := h
  exact ⟨(hB.cell (p := ⟨g, _, none⟩) hg).trans h0, (hB.cell (p := ⟨g, _, none⟩) hg).trans h1, (hB.cell (p := ⟨g, _, none⟩) hg).trans h2, (hB.cell (p := ⟨g, _, none⟩) hg).trans h3, (hB.cell (p := ⟨g, _, none⟩) hg).trans h4, (hB.cell (p := ⟨g, _, none⟩) hg).trans h5, (hB.cell (p := ⟨g, _, none⟩) hg).trans h6, (hB.cell (p := ⟨g, _, none⟩) hg).trans h7⟩
def AtK (w : World) (g o : Nat) (x : Pk) : Prop :=
  w.cell? ⟨g, o, none⟩ = some (.int .i64 x.f) ∧ w.cell? ⟨g, o + 1, none⟩ = some (.int .i64 x.m) ∧ w.cell? ⟨g, o + 2, none⟩ = some (.int .i64 x.e) ∧ w.cell? ⟨g, o + 3, none⟩ = some (.int .i64 x.s) ∧ w.cell? ⟨g, o + 4, none⟩ = some (.bool x.on)
theorem RdC.at_k {w : World} {a : Option Addr} {L : List Pk} (h : RdC w a 5 (L.map Pk.cells)) {j : Nat} {x : Pk} (hj : L[j]? = some x) : ∃ g o, a = some ⟨g, o, none⟩ ∧ g < w.heap.size ∧ AtK w g (o + j * 5) x := by
  obtain ⟨_, g, o, h1, h2, h3⟩ := h j x.cells (by rw [List.getElem?_map, hj]; rfl)
  exact ⟨g, o, h1, h2, h3 0 _ rfl, h3 1 _ rfl, h3 2 _ rfl, h3 3 _ rfl, h3 4 _ rfl⟩
theorem AtK.below {w w' : World} {g o B : Nat} {x : Pk} (h : AtK w g o x) (hB : Below B w w') (hg : g < B) : AtK w' g o x := by
  obtain ⟨h0, h1, h2, h3, h4⟩ := h
  exact ⟨(hB.cell (p := ⟨g, _, none⟩) hg).trans h0, (hB.cell (p := ⟨g, _, none⟩) hg).trans h1, (hB.cell (p := ⟨g, _, none⟩) hg).trans h2, (hB.cell (p := ⟨g, _, none⟩) hg).trans h3, (hB.cell (p := ⟨g, _, none⟩) hg).trans h4⟩

set_option maxRecDepth 100000 in
set_option maxHeartbeats 2000000 in
theorem same_line (a b : Option Addr) (n c d : Nat) (L : List Tm) (w : World) (hn : n = L.length) (hx : RdC w a 8 (L.map Tm.cells)) (hy : RdC w b 8 (L.map Tm.cells)) (hl : n ≤ 1099511627776) :
    Calls Try.prog 16 #[.slice a n c, .slice b n d] w fun e w' => e = .returned (.bool true) ∧ Below w.heap.size w w' := by
  have HN := Lib.hid hn; have HX := Lib.hid hx; have HY := Lib.hid hy
  clear hn hx hy
  go_enter Try.func16, Try.ntmps16
  go_wp2
  go_loopg [5, 13] (n + 1) (fun gas _ kv wr => ∃ (k : Nat), kv = .int .i64 k ∧ k ≤ n ∧ k + gas = n + 1 ∧ Hid (Below w.heap.size w wr))
  case atStart => exact ⟨0, rfl, by omega, by omega, Lib.hid (Below.refl _ _)⟩
  case round =>
    obtain ⟨k, rfl, hk, hkg, hB⟩ := hrel
    have HK := Lib.hid hkg; clear hkg
    by_cases hlt : k < n
    · obtain ⟨p, hp⟩ : ∃ p, L[k]? = some p := ⟨_, List.getElem?_eq_getElem (by have := HN.out; omega)⟩
      obtain ⟨g1, o1, rfl, hg1, hcl1⟩ := HX.out.at_t hp
      obtain ⟨g2, o2, rfl, hg2, hcl2⟩ := HY.out.at_t hp
      obtain ⟨x0, x1, x2, x3, x4, x5, x6, x7⟩ := hcl1.below hB.out hg1
      obtain ⟨y0, y1, y2, y3, y4, y5, y6, y7⟩ := hcl2.below hB.out hg2
      clear hp hcl1 hcl2
      have zk : (0 : Int) ≤ (k : Int) := by omega
      have zl : (k : Int) < (n : Int) := by omega
      go_wp2_with fail
      go_quiet (fail)
      have hBn : Hid (Below w.heap.size w (wr.drewN nq)) := Lib.hid (bel_drewN hB.out nq)
      go_wp2
      have hkg := HK.out
      go_roundg (gk - 1)
      case rel => exact ⟨k + 1, by go_num, by omega, by omega, hBn⟩
      case measure => omega
    · go_wp2_with fail
      go_ret
      exact ⟨rfl, hB.out⟩
set_option maxRecDepth 100000 in
set_option maxHeartbeats 2000000 in
theorem same_keys (a b : Option Addr) (n c d : Nat) (L : List Pk) (w : World) (hn : n = L.length) (hx : RdC w a 5 (L.map Pk.cells)) (hy : RdC w b 5 (L.map Pk.cells)) (hl : n ≤ 1099511627776) :
    Calls Try.prog 15 #[.slice a n c, .slice b n d] w fun e w' => e = .returned (.bool true) ∧ Below w.heap.size w w' := by
  have HN := Lib.hid hn; have HX := Lib.hid hx; have HY := Lib.hid hy
  clear hn hx hy
  go_enter Try.func15, Try.ntmps15
  go_wp2
  go_loopg [5, 13] (n + 1) (fun gas _ kv wr => ∃ (k : Nat), kv = .int .i64 k ∧ k ≤ n ∧ k + gas = n + 1 ∧ Hid (Below w.heap.size w wr))
  case atStart => exact ⟨0, rfl, by omega, by omega, Lib.hid (Below.refl _ _)⟩
  case round =>
    obtain ⟨k, rfl, hk, hkg, hB⟩ := hrel
    have HK := Lib.hid hkg; clear hkg
    by_cases hlt : k < n
    · obtain ⟨p, hp⟩ : ∃ p, L[k]? = some p := ⟨_, List.getElem?_eq_getElem (by have := HN.out; omega)⟩
      obtain ⟨g1, o1, rfl, hg1, hcl1⟩ := HX.out.at_k hp
      obtain ⟨g2, o2, rfl, hg2, hcl2⟩ := HY.out.at_k hp
      obtain ⟨x0, x1, x2, x3, x4⟩ := hcl1.below hB.out hg1
      obtain ⟨y0, y1, y2, y3, y4⟩ := hcl2.below hB.out hg2
      clear hp hcl1 hcl2
      have zk : (0 : Int) ≤ (k : Int) := by omega
      have zl : (k : Int) < (n : Int) := by omega
      go_wp2_with fail
      go_quiet (fail)
      have hBn : Hid (Below w.heap.size w (wr.drewN nq)) := Lib.hid (bel_drewN hB.out nq)
      go_wp2
      have hkg := HK.out
      go_roundg (gk - 1)
      case rel => exact ⟨k + 1, by go_num, by omega, by omega, hBn⟩
      case measure => omega
    · go_wp2_with fail
      go_ret
      exact ⟨rfl, hB.out⟩
end Go.Proofs.Ytabhiangjomaeaa.timed
namespace Go.Proofs.Ytabhiangjomaeaa.wireM
open Go.RowKit Go.Proofs.Ytabhiangjomaeaa.kit Go.Proofs.Ytabhiangjomaeaa.timed Go.Proofs.Ytabhiangjomaeaa.nspec Go.Proofs.Ytabhiangjomaeaa.rsplit Go.Proofs.Ytabhiangjomaeaa.check Go.Proofs.Ytabhiangjomaeaa.fld Go.Proofs.Ytabhiangjomaeaa.wireP
set_option linter.unusedVariables false

/-- a message -/
structure Mg where
  id : Int
  rs : Bool
  op : Int
  aa : Bool
  tc : Bool
  rd : Bool
  ra : Bool
  ad : Bool
  cd : Bool
  rc : Int
  qs : List Qn
  an : List Rc
  au : List Rc
  ar : List Rc
/-- where a message's lists lie -/
structure Pl where
  qa : Option Addr
  qc : Nat
  na : Option Addr
  nc : Nat
  ua : Option Addr
  uc : Nat
  ra : Option Addr
  rc : Nat
/-- the lists can be read there -/
structure RdM (w : World) (p : Pl) (m : Mg) : Prop where
  q : RdC w p.qa 3 (m.qs.map Qn.cells)
  n : RdC w p.na 5 (m.an.map Rc.cells)
  u : RdC w p.ua 5 (m.au.map Rc.cells)
  r : RdC w p.ra 5 (m.ar.map Rc.cells)
theorem RdM.below {w w' : World} {p : Pl} {m : Mg} {B : Nat} (h : RdM w p m) (hB : Below B w w') (hz : B = w.heap.size) : RdM w' p m :=
  ⟨h.q.below hB hz, h.n.below hB hz, h.u.below hB hz, h.r.below hB hz⟩
/-- where a list is none, it is empty -/
structure NilM (p : Pl) (m : Mg) : Prop where
  n : p.na = none → m.an.length = 0 ∧ p.nc = 0
  u : p.ua = none → m.au.length = 0 ∧ p.uc = 0
  r : p.ra = none → m.ar.length = 0 ∧ p.rc = 0
/-- sizes that the walks can bear -/
structure OkR (x : Rc) : Prop where
  o : x.o.size ≤ 1099511627776
  d : x.d.size ≤ 1099511627776
structure OkM (m : Mg) : Prop where
  q : ∀ x ∈ m.qs, x.n.size ≤ 1099511627776
  n : ∀ x ∈ m.an, OkR x
  u : ∀ x ∈ m.au, OkR x
  r : ∀ x ∈ m.ar, OkR x
  ql : m.qs.length ≤ 1099511627776
  nl : m.an.length ≤ 1099511627776
  ul : m.au.length ≤ 1099511627776
  rl : m.ar.length ≤ 1099511627776
/-- sizes as they come: what the program itself can bear -/
structure OkW (m : Mg) : Prop where
  n : ∀ x ∈ m.an, x.d.size ≤ maxLen
  u : ∀ x ∈ m.au, x.d.size ≤ maxLen
  r : ∀ x ∈ m.ar, x.d.size ≤ maxLen
  ql : m.qs.length ≤ maxLen
  nl : m.an.length ≤ maxLen
  ul : m.au.length ≤ maxLen
  rl : m.ar.length ≤ maxLen
theorem OkM.w {m : Mg} (h : OkM m) : OkW m :=
  ⟨fun x hx => Nat.le_trans (h.n x hx).d (by unfold maxLen; omega), fun x hx => Nat.le_trans (h.u x hx).d (by unfold maxLen; omega), fun x hx => Nat.le_trans (h.r x hx).d (by unfold maxLen; omega), Nat.le_trans h.ql (by unfold maxLen; omega), Nat.le_trans h.nl (by unfold maxLen; omega), Nat.le_trans h.ul (by unfold maxLen; omega), Nat.le_trans h.rl (by unfold maxLen; omega)⟩
def checkB (m : Mg) : Bool :=
  inB m.id 65535 && (inB m.op 15 && (inB m.rc 15 && (decide (m.qs.length ≤ 65535 ∧ m.an.length ≤ 65535 ∧ m.au.length ≤ 65535 ∧ m.ar.length ≤ 65535) && (m.qs.all rightQ && (m.an.all rightB && (m.au.all rightB && m.ar.all rightB))))))

def AtR (w : World) (g o : Nat) (x : Rc) : Prop :=
  w.cell? ⟨g, o, none⟩ = some (.string x.o) ∧ w.cell? ⟨g, o + 1, none⟩ = some (.int .i64 x.t) ∧ w.cell? ⟨g, o + 2, none⟩ = some (.int .i64 x.c) ∧ w.cell? ⟨g, o + 3, none⟩ = some (.int .i64 x.l) ∧ w.cell? ⟨g, o + 4, none⟩ = some (.string x.d)
theorem at_r {w : World} {a : Option Addr} {L : List Rc} (h : RdC w a 5 (L.map Rc.cells)) {j : Nat} {x : Rc} (hj : L[j]? = some x) : ∃ g o, a = some ⟨g, o, none⟩ ∧ g < w.heap.size ∧ AtR w g (o + j * 5) x := by
  obtain ⟨_, g, o, h1, h2, h3⟩ := h j x.cells (by rw [List.getElem?_map, hj]; rfl)
  exact ⟨g, o, h1, h2, h3 0 _ rfl, h3 1 _ rfl, h3 2 _ rfl, h3 3 _ rfl, h3 4 _ rfl⟩
theorem AtR.below {w w' : World} {g o B : Nat} {x : Rc} (h : AtR w g o x) (hB : Below B w w') (hg : g < B) : AtR w' g o x := by
  obtain ⟨h0, h1, h2, h3, h4⟩ := h
  exact ⟨(hB.cell (p := ⟨g, _, none⟩) hg).trans h0, (hB.cell (p := ⟨g, _, none⟩) hg).trans h1, (hB.cell (p := ⟨g, _, none⟩) hg).trans h2, (hB.cell (p := ⟨g, _, none⟩) hg).trans h3, (hB.cell (p := ⟨g, _, none⟩) hg).trans h4⟩
def AtQ (w : World) (g o : Nat) (x : Qn) : Prop :=
  w.cell? ⟨g, o, none⟩ = some (.string x.n) ∧ w.cell? ⟨g, o + 1, none⟩ = some (.int .i64 x.t) ∧ w.cell? ⟨g, o + 2, none⟩ = some (.int .i64 x.c)
theorem at_q {w : World} {a : Option Addr} {L : List Qn} (h : RdC w a 3 (L.map Qn.cells)) {j : Nat} {x : Qn} (hj : L[j]? = some x) : ∃ g o, a = some ⟨g, o, none⟩ ∧ g < w.heap.size ∧ AtQ w g (o + j * 3) x := by
  obtain ⟨_, g, o, h1, h2, h3⟩ := h j x.cells (by rw [List.getElem?_map, hj]; rfl)
  exact ⟨g, o, h1, h2, h3 0 _ rfl, h3 1 _ rfl, h3 2 _ rfl⟩
theorem AtQ.below {w w' : World} {g o B : Nat} {x : Qn} (h : AtQ w g o x) (hB : Below B w w') (hg : g < B) : AtQ w' g o x := by
  obtain ⟨h0, h1, h2⟩ := h
  exact ⟨(hB.cell (p := ⟨g, _, none⟩) hg).trans h0, (hB.cell (p := ⟨g, _, none⟩) hg).trans h1, (hB.cell (p := ⟨g, _, none⟩) hg).trans h2⟩

/-- a message's fourteen cells -/
structure BoxM (w : World) (B : Nat) (p : Pl) (m : Mg) : Prop where
  lt : B < w.heap.size
  c0 : w.cell? ⟨B, 0, none⟩ = some (.int .i64 m.id)
  c1 : w.cell? ⟨B, 1, none⟩ = some (.bool m.rs)
  c2 : w.cell? ⟨B, 2, none⟩ = some (.int .i64 m.op)
  c3 : w.cell? ⟨B, 3, none⟩ = some (.bool m.aa)
  c4 : w.cell? ⟨B, 4, none⟩ = some (.bool m.tc)
  c5 : w.cell? ⟨B, 5, none⟩ = some (.bool m.rd)
  c6 : w.cell? ⟨B, 6, none⟩ = some (.bool m.ra)
  c7 : w.cell? ⟨B, 7, none⟩ = some (.bool m.ad)
  c8 : w.cell? ⟨B, 8, none⟩ = some (.bool m.cd)
  c9 : w.cell? ⟨B, 9, none⟩ = some (.int .i64 m.rc)
  c10 : w.cell? ⟨B, 10, none⟩ = some (.slice p.qa m.qs.length p.qc)
  c11 : w.cell? ⟨B, 11, none⟩ = some (.slice p.na m.an.length p.nc)
  c12 : w.cell? ⟨B, 12, none⟩ = some (.slice p.ua m.au.length p.uc)
  c13 : w.cell? ⟨B, 13, none⟩ = some (.slice p.ra m.ar.length p.rc)
theorem BoxM.below {w w' : World} {B N : Nat} {p : Pl} {m : Mg} (h : BoxM w B p m) (hB : Below N w w') (hl : B < N) : BoxM w' B p m :=
  ⟨Nat.lt_of_lt_of_le h.lt hB.size, (hB.cell (p := ⟨B, 0, none⟩) hl).trans h.c0, (hB.cell (p := ⟨B, 1, none⟩) hl).trans h.c1, (hB.cell (p := ⟨B, 2, none⟩) hl).trans h.c2, (hB.cell (p := ⟨B, 3, none⟩) hl).trans h.c3, (hB.cell (p := ⟨B, 4, none⟩) hl).trans h.c4, (hB.cell (p := ⟨B, 5, none⟩) hl).trans h.c5, (hB.cell (p := ⟨B, 6, none⟩) hl).trans h.c6, (hB.cell (p := ⟨B, 7, none⟩) hl).trans h.c7, (hB.cell (p := ⟨B, 8, none⟩) hl).trans h.c8, (hB.cell (p := ⟨B, 9, none⟩) hl).trans h.c9, (hB.cell (p := ⟨B, 10, none⟩) hl).trans h.c10, (hB.cell (p := ⟨B, 11, none⟩) hl).trans h.c11, (hB.cell (p := ⟨B, 12, none⟩) hl).trans h.c12, (hB.cell (p := ⟨B, 13, none⟩) hl).trans h.c13⟩
def cellsM (p : Pl) (m : Mg) : Array Value := #[.int .i64 m.id, .bool m.rs, .int .i64 m.op, .bool m.aa, .bool m.tc, .bool m.rd, .bool m.ra, .bool m.ad, .bool m.cd, .int .i64 m.rc, .slice p.qa m.qs.length p.qc, .slice p.na m.an.length p.nc, .slice p.ua m.au.length p.uc, .slice p.ra m.ar.length p.rc]
theorem BoxM.fresh (w : World) (t : TypeId) (b : Nat) (hb : b = w.heap.size) (p : Pl) (m : Mg) : BoxM (w.alloc (.cells #[.int .i64 m.id, .bool m.rs, .int .i64 m.op, .bool m.aa, .bool m.tc, .bool m.rd, .bool m.ra, .bool m.ad, .bool m.cd, .int .i64 m.rc, .slice p.qa m.qs.length p.qc, .slice p.na m.an.length p.nc, .slice p.ua m.au.length p.uc, .slice p.ra m.ar.length p.rc] t)) b p m := by
  subst hb
  have hb : (w.alloc (.cells #[.int .i64 m.id, .bool m.rs, .int .i64 m.op, .bool m.aa, .bool m.tc, .bool m.rd, .bool m.ra, .bool m.ad, .bool m.cd, .int .i64 m.rc, .slice p.qa m.qs.length p.qc, .slice p.na m.an.length p.nc, .slice p.ua m.au.length p.uc, .slice p.ra m.ar.length p.rc] t)).heap[w.heap.size]? = some (.cells #[.int .i64 m.id, .bool m.rs, .int .i64 m.op, .bool m.aa, .bool m.tc, .bool m.rd, .bool m.ra, .bool m.ad, .bool m.cd, .int .i64 m.rc, .slice p.qa m.qs.length p.qc, .slice p.na m.an.length p.nc, .slice p.ua m.au.length p.uc, .slice p.ra m.ar.length p.rc] t (0, 0)) := heap_alloc_new _ _
  constructor
  · simp
  all_goals (simp only [World.cell?, hb]; rfl)
theorem all_no {α : Type} {f : α → Bool} {L : List α} {k : Nat} {x : α} (hx : L[k]? = some x) (h : f x = false) : L.all f = false := by
  rw [List.all_eq_false]
  exact ⟨x, List.mem_of_getElem? hx, by rw [h]; simp⟩
theorem all_step {α : Type} {f : α → Bool} {L : List α} {k : Nat} {x : α} (hx : L[k]? = some x) (h : f x = true) (ha : (L.take k).all f = true) : (L.take (k + 1)).all f = true := by
  obtain ⟨h1, h2⟩ := List.getElem?_eq_some_iff.1 hx
  rw [List.take_succ_eq_append_getElem h1, List.all_append, ha, h2]; simp [h]
theorem all_end {α : Type} {f : α → Bool} {L : List α} {k : Nat} (hk : L.length ≤ k) (ha : (L.take k).all f = true) : L.all f = true := by
  rwa [List.take_of_length_le hk] at ha
end Go.Proofs.Ytabhiangjomaeaa.wireM
namespace Go.Proofs.Ytabhiangjomaeaa.packP
open Go.RowKit Go.Proofs.Ytabhiangjomaeaa.kit Go.Proofs.Ytabhiangjomaeaa.nspec Go.Proofs.Ytabhiangjomaeaa.rsplit Go.Proofs.Ytabhiangjomaeaa.check Go.Proofs.Ytabhiangjomaeaa.fld Go.Proofs.Ytabhiangjomaeaa.wireP Go.Proofs.Ytabhiangjomaeaa.wireM
set_option linter.unusedVariables false

/-- where rests of names stand -/
abbrev Noted := List (Bs × Nat)
def findN : Noted → Bs → Option Nat
  | [], _ => none
  | (r, k) :: N, n => if r = n then some k else findN N n
theorem findN_snoc : ∀ (N : Noted) (r n : Bs) (k : Nat), findN (N ++ [(r, k)]) n = match findN N n with | some j => some j | none => if r = n then some k else none
  | [], r, n, k => by simp only [List.nil_append, findN]
  | (r', k') :: N, r, n, k => by
    simp only [List.cons_append, findN]
    by_cases h : r' = n
    · simp only [if_pos h]
    · simp only [if_neg h]; exact findN_snoc N r n k
theorem findN_mem : ∀ {N : Noted} {n : Bs} {k : Nat}, findN N n = some k → (n, k) ∈ N
  | [], n, k, h => by simp [findN] at h
  | (r, j) :: N, n, k, h => by
    simp only [findN] at h
    by_cases e : r = n
    · rw [if_pos e] at h; cases h; subst e; exact List.mem_cons_self
    · rw [if_neg e] at h; exact List.mem_cons_of_mem _ (findN_mem h)

def byte (v : Int) : UInt8 := UInt8.ofNat (v % 256).toNat
def be2 (v : Int) : Bs := [byte (v / 256), byte v]
def be4 (v : Int) : Bs := be2 (v / 65536) ++ be2 v
/-- the paper: what is written, and what is noted -/
structure Pp where
  out : Bs
  N : Noted
def nameF : Nat → Bs → Pp → Pp
  | 0, _, p => p
  | _ + 1, [], p => p
  | f + 1, c :: r, p =>
    if c = 0 then ⟨p.out ++ [0], p.N⟩
    else match findN p.N (c :: r) with
      | some k => ⟨p.out ++ be2 (49152 + k), p.N⟩
      | none => nameF f ((c :: r).drop (1 + c.toNat)) ⟨p.out ++ (c :: r).take (1 + c.toNat), if p.out.length ≤ 16383 then p.N ++ [(c :: r, p.out.length)] else p.N⟩
def nameP (n : Bs) (p : Pp) : Pp := nameF (n.length + 1) n p
theorem nameF_fuel : ∀ (f g : Nat) (n : Bs) (p : Pp), n.length < f → n.length < g → nameF f n p = nameF g n p
  | 0, _, n, p, h, _ => by omega
  | _, 0, n, p, _, h => by omega
  | f + 1, g + 1, [], p, _, _ => rfl
  | f + 1, g + 1, c :: r, p, h1, h2 => by
    simp only [nameF]
    by_cases hc : c = 0
    · rw [if_pos hc, if_pos hc]
    · rw [if_neg hc, if_neg hc]
      cases findN p.N (c :: r) with
      | some k => rfl
      | none =>
        simp only
        apply nameF_fuel
        · rw [List.length_drop]; simp only [List.length_cons] at *; omega
        · rw [List.length_drop]; simp only [List.length_cons] at *; omega
theorem nameP_end {p : Pp} {r : Bs} : nameP (0 :: r) p = ⟨p.out ++ [0], p.N⟩ := by simp [nameP, nameF]
theorem nameP_hit {c : UInt8} {r : Bs} {p : Pp} {k : Nat} (hc : c ≠ 0) (h : findN p.N (c :: r) = some k) : nameP (c :: r) p = ⟨p.out ++ be2 (49152 + k), p.N⟩ := by
  simp only [nameP, nameF, if_neg hc, h]
theorem nameP_go {c : UInt8} {r : Bs} {p : Pp} (hc : c ≠ 0) (h : findN p.N (c :: r) = none) :
    nameP (c :: r) p = nameP ((c :: r).drop (1 + c.toNat)) ⟨p.out ++ (c :: r).take (1 + c.toNat), if p.out.length ≤ 16383 then p.N ++ [(c :: r, p.out.length)] else p.N⟩ := by
  unfold nameP
  rw [List.length_cons]
  simp only [nameF, if_neg hc, h]
  apply nameF_fuel
  · rw [List.length_drop]; simp only [List.length_cons]; omega
  · omega
/-- a noted place can be pointed at -/
def Near (N : Noted) : Prop := ∀ r k, (r, k) ∈ N → k ≤ 16383
theorem Near.nil : Near [] := by intro r k h; simp at h
theorem Near.snoc {N : Noted} (h : Near N) {r : Bs} {k : Nat} (hk : k ≤ 16383) : Near (N ++ [(r, k)]) := by
  intro r' k' hm
  rcases List.mem_append.1 hm with h1 | h1
  · exact h r' k' h1
  · simp at h1; omega
theorem Near.step {p : Pp} (h : Near p.N) (n : Bs) : Near (if p.out.length ≤ 16383 then p.N ++ [(n, p.out.length)] else p.N) := by
  split
  · exact h.snoc (by assumption)
  · exact h
theorem nameF_near : ∀ (f : Nat) (n : Bs) (p : Pp), Near p.N → Near (nameF f n p).N
  | 0, n, p, h => h
  | f + 1, [], p, h => h
  | f + 1, c :: r, p, h => by
    simp only [nameF]
    by_cases hc : c = 0
    · rw [if_pos hc]; exact h
    · rw [if_neg hc]
      cases findN p.N (c :: r) with
      | some k => exact h
      | none => exact nameF_near f _ _ (h.step _)
theorem nameF_len : ∀ (f : Nat) (n : Bs) (p : Pp), (nameF f n p).out.length ≤ p.out.length + n.length + 2 ∧ p.out.length ≤ (nameF f n p).out.length
  | 0, n, p => by simp [nameF]; omega
  | f + 1, [], p => by simp [nameF]
  | f + 1, c :: r, p => by
    simp only [nameF]
    by_cases hc : c = 0
    · rw [if_pos hc]; simp only [List.length_append, List.length_cons, List.length_nil]; omega
    · rw [if_neg hc]
      cases findN p.N (c :: r) with
      | some k => simp only [be2, List.length_append, List.length_cons, List.length_nil]; omega
      | none =>
        have h := nameF_len f ((c :: r).drop (1 + c.toNat)) ⟨p.out ++ (c :: r).take (1 + c.toNat), if p.out.length ≤ 16383 then p.N ++ [(c :: r, p.out.length)] else p.N⟩
        simp only [List.length_append, List.length_take, List.length_drop, List.length_cons] at h ⊢
        omega

/-- the parts of data whose names may be short -/
def shortL (t : Int) : List (Option Nat) := if t = 2 ∨ t = 5 ∨ t = 12 then [none] else if t = 15 then [some 2, none] else if t = 6 then [none, none, some 20] else []
/-- how many bytes the name has that stands first -/
def nameSz : Bs → Nat
  | [] => 1
  | c :: r => if c = 0 then 1 else 1 + c.toNat + nameSz (r.drop c.toNat)
termination_by d => d.length
decreasing_by simp only [List.length_drop, List.length_cons]; omega
def dataP : List (Option Nat) → Bs → Pp → Pp
  | [], d, p => ⟨p.out ++ d, p.N⟩
  | none :: fs, d, p => dataP fs (d.drop (nameSz d)) (nameP (d.take (nameSz d)) p)
  | some k :: fs, d, p => dataP fs (d.drop k) ⟨p.out ++ d.take k, p.N⟩
def patch (out : Bs) (k : Nat) (n : Int) : Bs := (out.set k (byte (n / 256))).set (k + 1) (byte n)
def recP (x : Rc) (p : Pp) : Pp :=
  let q := nameP x.o.data.toList p
  let q1 : Pp := ⟨q.out ++ (be2 x.t ++ be2 x.c ++ be4 x.l), q.N⟩
  let q2 := dataP (if x.d.size = 0 then [] else shortL x.t) x.d.data.toList ⟨q1.out ++ [0, 0], q1.N⟩
  ⟨patch q2.out q1.out.length ((q2.out.length : Int) - q1.out.length - 2), q2.N⟩
def quesP (x : Qn) (p : Pp) : Pp :=
  let q := nameP x.n.data.toList p
  ⟨q.out ++ (be2 x.t ++ be2 x.c), q.N⟩
def bit (b : Bool) (v : Int) : Int := if b then v else 0
def signsV (m : Mg) : Int := bit m.rs 32768 + m.op * 2048 + bit m.aa 1024 + bit m.tc 512 + bit m.rd 256 + bit m.ra 128 + bit m.ad 32 + bit m.cd 16 + m.rc
def headP (m : Mg) : Bs := be2 m.id ++ be2 (signsV m) ++ be2 m.qs.length ++ be2 m.an.length ++ be2 m.au.length ++ be2 m.ar.length
/-- the records, none where a paper is full -/
def recsP : List Rc → Pp → Option Pp
  | [], p => if 65535 < p.out.length then none else some p
  | x :: L, p => if 65535 < p.out.length then none else recsP L (recP x p)
def packP (m : Mg) : Option Bs := (recsP (m.an ++ m.au ++ m.ar) (m.qs.foldl (fun p x => quesP x p) ⟨headP m, []⟩)).map Pp.out
/-- the bytes of a message, and its fault -/
def packS (m : Mg) : Bs × Int := if checkB m = false then ([], 8) else match packP m with | none => ([], 12) | some b => (b, 0)
end Go.Proofs.Ytabhiangjomaeaa.packP

/- gazetteerref1.CheckData: walk. name.Check of a text of any size: walk. Messages in plain words: records, questions, which are right. seal.count, gazetteerref4.Starless, Zonal, gazetteerlaw4.upper: walks. -/
import Derived.Test.YtflijhodlimjoaaGreatK13
import Derived.Test.YtflijhodlimjoaaGreatK3
import Derived.Test.YtflijhodlimjoaaGreatK11
import Derived.Test.YtflijhodlimjoaaGreatK8
import Derived.Test.YtflijhodlimjoaaGreatK5
namespace Go.Proofs.YtflijhodlimjoaaGreat.checkData
open Go.RowKit Go.Proofs.YtflijhodlimjoaaGreat.kit Go.Proofs.YtflijhodlimjoaaGreat.nspec Go.Proofs.YtflijhodlimjoaaGreat.fld Go.Proofs.YtflijhodlimjoaaGreat.takes Go.Proofs.YtflijhodlimjoaaGreat.splitD Go.Proofs.YtflijhodlimjoaaGreat.rsize Go.Proofs.YtflijhodlimjoaaGreat.rform Go.Proofs.YtflijhodlimjoaaGreat.parts
set_option linter.unusedVariables false

theorem fair4_of {fs gs : List Fld} (h : some gs = some fs) (hl : gs.length ≤ 20) (hk : gs.all (fun f => match f with | .num k => decide (k = 1 ∨ k = 2 ∨ k = 4) | _ => true) = true) : Fair4 fs := by
  have e := Option.some.inj h
  subst e
  refine ⟨hl, fun k hm => ?_⟩
  have := List.all_eq_true.1 hk _ hm
  simpa using this
theorem form_fair4 {t : Int} {fs : List Fld} (h : formS t = some fs) : Fair4 fs := by
  by_cases h1 : t = 1
  · subst h1; exact fair4_of h (by decide) (by decide)
  by_cases h2 : t = 2
  · subst h2; exact fair4_of h (by decide) (by decide)
  by_cases h5 : t = 5
  · subst h5; exact fair4_of h (by decide) (by decide)
  by_cases h12 : t = 12
  · subst h12; exact fair4_of h (by decide) (by decide)
  by_cases h39 : t = 39
  · subst h39; exact fair4_of h (by decide) (by decide)
  by_cases h6 : t = 6
  · subst h6; exact fair4_of h (by decide) (by decide)
  by_cases h13 : t = 13
  · subst h13; exact fair4_of h (by decide) (by decide)
  by_cases h15 : t = 15
  · subst h15; exact fair4_of h (by decide) (by decide)
  by_cases h16 : t = 16
  · subst h16; exact fair4_of h (by decide) (by decide)
  by_cases h28 : t = 28
  · subst h28; exact fair4_of h (by decide) (by decide)
  by_cases h33 : t = 33
  · subst h33; exact fair4_of h (by decide) (by decide)
  by_cases h35 : t = 35
  · subst h35; exact fair4_of h (by decide) (by decide)
  by_cases h43 : t = 43
  · subst h43; exact fair4_of h (by decide) (by decide)
  by_cases h46 : t = 46
  · subst h46; exact fair4_of h (by decide) (by decide)
  by_cases h47 : t = 47
  · subst h47; exact fair4_of h (by decide) (by decide)
  by_cases h48 : t = 48
  · subst h48; exact fair4_of h (by decide) (by decide)
  by_cases h50 : t = 50
  · subst h50; exact fair4_of h (by decide) (by decide)
  by_cases h51 : t = 51
  · subst h51; exact fair4_of h (by decide) (by decide)
  by_cases h257 : t = 257
  · subst h257; exact fair4_of h (by decide) (by decide)
  simp [formS, h1, h2, h5, h12, h39, h6, h13, h15, h16, h28, h33, h35, h43, h46, h47, h48, h50, h51, h257] at h
theorem form_holds {t : Int} {fs : List Fld} (h : formS t = some fs) : holdsB t = true := by
  by_cases h1 : t = 1
  · subst h1; decide
  by_cases h2 : t = 2
  · subst h2; decide
  by_cases h5 : t = 5
  · subst h5; decide
  by_cases h12 : t = 12
  · subst h12; decide
  by_cases h39 : t = 39
  · subst h39; decide
  by_cases h6 : t = 6
  · subst h6; decide
  by_cases h13 : t = 13
  · subst h13; decide
  by_cases h15 : t = 15
  · subst h15; decide
  by_cases h16 : t = 16
  · subst h16; decide
  by_cases h28 : t = 28
  · subst h28; decide
  by_cases h33 : t = 33
  · subst h33; decide
  by_cases h35 : t = 35
  · subst h35; decide
  by_cases h43 : t = 43
  · subst h43; decide
  by_cases h46 : t = 46
  · subst h46; decide
  by_cases h47 : t = 47
  · subst h47; decide
  by_cases h48 : t = 48
  · subst h48; decide
  by_cases h50 : t = 50
  · subst h50; decide
  by_cases h51 : t = 51
  · subst h51; decide
  by_cases h257 : t = 257
  · subst h257; decide
  simp [formS, h1, h2, h5, h12, h39, h6, h13, h15, h16, h28, h33, h35, h43, h46, h47, h48, h50, h51, h257] at h
theorem form_cons {t : Int} {fs : List Fld} (h : formS t = some fs) : lettersB fs ≠ [] ∧ lettersB fs ≠ [45] := by
  by_cases h1 : t = 1
  · subst h1; have e := Option.some.inj h; subst e; exact ⟨by decide, by decide⟩
  by_cases h2 : t = 2
  · subst h2; have e := Option.some.inj h; subst e; exact ⟨by decide, by decide⟩
  by_cases h5 : t = 5
  · subst h5; have e := Option.some.inj h; subst e; exact ⟨by decide, by decide⟩
  by_cases h12 : t = 12
  · subst h12; have e := Option.some.inj h; subst e; exact ⟨by decide, by decide⟩
  by_cases h39 : t = 39
  · subst h39; have e := Option.some.inj h; subst e; exact ⟨by decide, by decide⟩
  by_cases h6 : t = 6
  · subst h6; have e := Option.some.inj h; subst e; exact ⟨by decide, by decide⟩
  by_cases h13 : t = 13
  · subst h13; have e := Option.some.inj h; subst e; exact ⟨by decide, by decide⟩
  by_cases h15 : t = 15
  · subst h15; have e := Option.some.inj h; subst e; exact ⟨by decide, by decide⟩
  by_cases h16 : t = 16
  · subst h16; have e := Option.some.inj h; subst e; exact ⟨by decide, by decide⟩
  by_cases h28 : t = 28
  · subst h28; have e := Option.some.inj h; subst e; exact ⟨by decide, by decide⟩
  by_cases h33 : t = 33
  · subst h33; have e := Option.some.inj h; subst e; exact ⟨by decide, by decide⟩
  by_cases h35 : t = 35
  · subst h35; have e := Option.some.inj h; subst e; exact ⟨by decide, by decide⟩
  by_cases h43 : t = 43
  · subst h43; have e := Option.some.inj h; subst e; exact ⟨by decide, by decide⟩
  by_cases h46 : t = 46
  · subst h46; have e := Option.some.inj h; subst e; exact ⟨by decide, by decide⟩
  by_cases h47 : t = 47
  · subst h47; have e := Option.some.inj h; subst e; exact ⟨by decide, by decide⟩
  by_cases h48 : t = 48
  · subst h48; have e := Option.some.inj h; subst e; exact ⟨by decide, by decide⟩
  by_cases h50 : t = 50
  · subst h50; have e := Option.some.inj h; subst e; exact ⟨by decide, by decide⟩
  by_cases h51 : t = 51
  · subst h51; have e := Option.some.inj h; subst e; exact ⟨by decide, by decide⟩
  by_cases h257 : t = 257
  · subst h257; have e := Option.some.inj h; subst e; exact ⟨by decide, by decide⟩
  simp [formS, h1, h2, h5, h12, h39, h6, h13, h15, h16, h28, h33, h35, h43, h46, h47, h48, h50, h51, h257] at h

theorem notEmpty {F : ByteArray} (h : F.data.toList ≠ []) : F.toList.isEmpty = false := by
  rw [Lib.toList_data]
  cases hl : F.data.toList with
  | nil => exact absurd hl h
  | cons => rfl
theorem not45 {F : ByteArray} (h : F.data.toList ≠ [45]) : (F.toList == [45]) = false := by rw [Lib.toList_data]; simpa using h

set_option maxRecDepth 100000 in
set_option maxHeartbeats 2000000 in
theorem rdcheck_any (t : Int) (s : ByteArray) (w : World) (hs : s.size ≤ maxLen) :
    Calls Tryz.prog 140 #[.int .i64 t, .string s] w fun e w' => e = .returned (.int .i64 (checkS t s.data.toList)) ∧ Below w.heap.size w w' := by
  obtain ⟨R, HR⟩ : ∃ R, Hid (checkS t s.data.toList = R) := ⟨_, Lib.hid rfl⟩
  rw [HR.out]
  have CF := Lib.hid (fun w => rform_any t w)
  unfold FormIs at CF
  obtain ⟨F, hF⟩ : ∃ F : ByteArray, (⟨(formB t).toArray⟩ : ByteArray) = F := ⟨_, rfl⟩
  have hFd : F.data.toList = formB t := by rw [← hF]
  rw [hF] at CF
  cases hf : formS t with
  | none =>
    have hP : partsS t s.data.toList = some [] := by unfold partsS; rw [hf]
    obtain ⟨b, hb⟩ : ∃ b, holdsB t = b := ⟨_, rfl⟩
    cases b with
    | false =>
      have HN : Hid (6 = R) := Lib.hid (by rw [← HR.out, checkS, if_pos hb])
      have he : F.toList = [] := by rw [Lib.toList_data, hFd]; unfold formB; rw [hf, hb]; rfl
      clear hF hFd hf hP hb
      go_enter Tryz.func140, Tryz.ntmps140
      go_wp2_with fail
      refine (CF.out _).mono ?_
      rintro e w1 ⟨rfl, rfl⟩
      go_wp2_with fail
      go_ret
      exact ⟨by rw [← HN.out]; rfl, Below.refl _ _⟩
    | true =>
      have hl45 : F.data.toList = [45] := by rw [hFd]; unfold formB; rw [hf, hb]; rfl
      have he : F.toList.isEmpty = false := notEmpty (by rw [hl45]; simp)
      have h45 : (F.toList == [45]) = true := by rw [Lib.toList_data, hl45]; rfl
      by_cases hl : 65535 < s.size
      · have HN : Hid (7 = R) := Lib.hid (by rw [← HR.out, checkS, if_neg (by rw [hb]; simp), if_pos (by rw [size_len]; exact hl)])
        have hli : (65535 : Int) < (s.size : Int) := by omega
        clear hF hFd hf hP hb hl hl45
        go_enter Tryz.func140, Tryz.ntmps140
        go_wp2_with fail
        refine (CF.out _).mono ?_
        rintro e w1 ⟨rfl, rfl⟩
        go_wp2_with fail
        go_ret
        exact ⟨by rw [← HN.out]; rfl, Below.refl _ _⟩
      · have HN : Hid (0 = R) := Lib.hid (by rw [← HR.out, checkS, if_neg (by rw [hb]; simp), if_neg (by rw [size_len]; exact hl), hP]; rfl)
        have hli : (s.size : Int) ≤ 65535 := by omega
        clear hF hFd hf hP hb hl hl45
        go_enter Tryz.func140, Tryz.ntmps140
        go_wp2_with fail
        refine (CF.out _).mono ?_
        rintro e w1 ⟨rfl, rfl⟩
        go_wp2_with fail
        go_ret
        exact ⟨by rw [← HN.out]; rfl, Below.refl _ _⟩
  | some fs =>
    have hb := form_holds hf
    obtain ⟨c1, c2⟩ := form_cons hf
    have hFl : F.data.toList = lettersB fs := by rw [hFd]; unfold formB; rw [hf]
    have he : F.toList.isEmpty = false := notEmpty (by rw [hFl]; exact c1)
    have h45 : (F.toList == [45]) = false := not45 (by rw [hFl]; exact c2)
    by_cases hl : 65535 < s.size
    · have HN : Hid (7 = R) := Lib.hid (by rw [← HR.out, checkS, if_neg (by rw [hb]; simp), if_pos (by rw [size_len]; exact hl)])
      have hli : (65535 : Int) < (s.size : Int) := by omega
      clear hF hFd hf hb hl hFl c1 c2
      go_enter Tryz.func140, Tryz.ntmps140
      go_wp2_with fail
      refine (CF.out _).mono ?_
      rintro e w1 ⟨rfl, rfl⟩
      go_wp2_with fail
      go_ret
      exact ⟨by rw [← HN.out]; rfl, Below.refl _ _⟩
    · have HC : Hid (R = if partsS t s.data.toList = none then 7 else 0) := Lib.hid (by rw [← HR.out, checkS, if_neg (by rw [hb]; simp), if_neg (by rw [size_len]; exact hl)])
      have hli : (s.size : Int) ≤ 65535 := by omega
      have hls : s.size ≤ 65535 := by omega
      have HP : Hid (partsS t s.data.toList = match splitS fs s.data.toList with | some (p, []) => some p | _ => none) := Lib.hid (by unfold partsS; rw [hf]; rfl)
      have CP := Lib.hid (fun w => parts_any fs F s w hFl (form_fair4 hf) hls fs.length rfl)
      clear hF hFd hf hb hl hFl c1 c2
      go_enter Tryz.func140, Tryz.ntmps140
      go_wp2_with fail
      refine (CF.out _).mono ?_
      rintro e w1 ⟨rfl, rfl⟩
      go_wp2_with fail
      refine (CP.out _).mono ?_
      rintro e w2 ⟨hB2, ⟨v, p, r, hsp, rfl, hown⟩ | ⟨hsp, rfl⟩⟩
      · have HB := Lib.hid hB2
        have HQ : Hid (R = if r.isEmpty then 0 else 7) := Lib.hid (by rw [HC.out, HP.out, hsp]; cases r <;> simp)
        clear hB2 hsp hown
        cases r with
        | nil =>
          have HN : Hid (R = 0) := Lib.hid HQ.out
          simp only [List.isEmpty_nil]
          go_wp2_with fail
          go_ret
          exact ⟨by rw [HN.out]; rfl, HB.out⟩
        | cons x r =>
          have HN : Hid (R = 7) := Lib.hid HQ.out
          simp only [List.isEmpty_cons]
          go_wp2_with fail
          go_ret
          exact ⟨by rw [HN.out]; rfl, HB.out⟩
      · have HB := Lib.hid hB2
        have HN : Hid (R = 7) := Lib.hid (by rw [HC.out, HP.out, hsp]; rfl)
        clear hB2 hsp
        go_wp2_with fail
        go_ret
        exact ⟨by rw [HN.out]; rfl, HB.out⟩
end Go.Proofs.YtflijhodlimjoaaGreat.checkData
namespace Go.Proofs.YtflijhodlimjoaaGreat.checkAll
open Go.RowKit Go.Proofs.YtflijhodlimjoaaGreat.kit Go.Proofs.YtflijhodlimjoaaGreat.check
theorem check_all (n : ByteArray) (w : World) :
    Calls Tryz.prog 50 #[.string n] w fun e w' => e = .returned (.int .i64 (chkE n)) ∧ Below w.heap.size w w' := by
  by_cases h1 : 255 < (n.size : Int)
  · exact check_long n w h1
  · exact check_any n w (by omega)
end Go.Proofs.YtflijhodlimjoaaGreat.checkAll
namespace Go.Proofs.YtflijhodlimjoaaGreat.wireP
open Go.RowKit Go.Proofs.YtflijhodlimjoaaGreat.kit Go.Proofs.YtflijhodlimjoaaGreat.takes Go.Proofs.YtflijhodlimjoaaGreat.nspec Go.Proofs.YtflijhodlimjoaaGreat.rsplit Go.Proofs.YtflijhodlimjoaaGreat.check Go.Proofs.YtflijhodlimjoaaGreat.fld
set_option linter.unusedVariables false

/-- a record -/
structure Rc where
  o : ByteArray
  t : Int
  c : Int
  l : Int
  d : ByteArray
def Rc.cells (x : Rc) : List Value := [.string x.o, .int .i64 x.t, .int .i64 x.c, .int .i64 x.l, .string x.d]
/-- a question -/
structure Qn where
  n : ByteArray
  t : Int
  c : Int
def Qn.cells (x : Qn) : List Value := [.string x.n, .int .i64 x.t, .int .i64 x.c]
def inB (v top : Int) : Bool := decide (0 ≤ v) && decide (v ≤ top)
def emptyB (x : Rc) : Bool := decide (x.d.size = 0) && (decide (x.c = 254) || decide (x.c = 255))
def rightB (x : Rc) : Bool :=
  isB x.o && (inB x.t 65535 && (inB x.c 65535 && (inB x.l 4294967295 && (if x.t = 41 then decide (x.d.size ≤ 65535) else (emptyB x || decide (checkS x.t x.d.data.toList = 0))))))
def rightQ (x : Qn) : Bool := isB x.n && (inB x.t 65535 && inB x.c 65535)
theorem inB_yes {v top : Int} (h0 : 0 ≤ v) (h1 : v ≤ top) : inB v top = true := by simp [inB, h0, h1]
theorem inB_low {v top : Int} (h0 : v < 0) : inB v top = false := by simp [inB]; intro h; omega
theorem inB_high {v top : Int} (h0 : top < v) : inB v top = false := by simp [inB]; intro h; omega

end Go.Proofs.YtflijhodlimjoaaGreat.wireP
namespace Go.Proofs.YtflijhodlimjoaaGreat.sealA
open Go.RowKit Go.Proofs.YtflijhodlimjoaaGreat.kit Go.Proofs.YtflijhodlimjoaaGreat.nspec Go.Proofs.YtflijhodlimjoaaGreat.refA Go.Proofs.YtflijhodlimjoaaGreat.nameA Go.Proofs.YtflijhodlimjoaaGreat.star Go.Proofs.YtflijhodlimjoaaGreat.rsplit Go.Proofs.YtflijhodlimjoaaGreat.wireP Go.Proofs.YtflijhodlimjoaaGreat.fld
set_option linter.unusedVariables false

/-- the labels of an owner, without a star in front -/
def lessS (l : Bs) : Int := countS l - (if isStarS l then 1 else 0)
set_option maxRecDepth 100000 in
theorem count_any (s : ByteArray) (w : World) (hs : s.size ≤ 1099511627776) :
    Calls Tryz.prog 55 #[.string s] w fun e w' => e = .returned (.int .i64 (lessS s.data.toList)) ∧ Below w.heap.size w w' := by
  have hb := refB.countS_bd s.data.toList
  have CC := Lib.hid (nameA.ncount_any s w hs)
  have CS := Lib.hid (fun wx => star.nisStar_any s wx hs)
  obtain ⟨k, hk⟩ : ∃ k, countS s.data.toList = k := ⟨_, rfl⟩
  rw [hk] at CC hb
  cases hst : isStarS s.data.toList with
  | true =>
    have HL : Hid (lessS s.data.toList = k - 1) := Lib.hid (by unfold lessS; rw [hst, hk]; rfl)
    rw [hst] at CS
    clear hk hst
    go_enter Tryz.func55, Tryz.ntmps55
    go_wp2_with fail
    refine CC.out.mono ?_
    rintro e w1 ⟨rfl, hB1⟩
    have HB1 := Lib.hid hB1
    clear hB1
    go_wp2_with fail
    refine (CS.out w1).mono ?_
    rintro e w2 ⟨rfl, hB2⟩
    have HB2 := Lib.hid (HB1.out.trans (hB2.mono HB1.out.size))
    clear hB2
    go_wp2_with fail
    go_ret
    exact ⟨by rw [HL.out]; first | rfl | go_num, HB2.out⟩
  | false =>
    have HL : Hid (lessS s.data.toList = k) := Lib.hid (by unfold lessS; rw [hst, hk]; simp)
    rw [hst] at CS
    clear hk hst
    go_enter Tryz.func55, Tryz.ntmps55
    go_wp2_with fail
    refine CC.out.mono ?_
    rintro e w1 ⟨rfl, hB1⟩
    have HB1 := Lib.hid hB1
    clear hB1
    go_wp2_with fail
    refine (CS.out w1).mono ?_
    rintro e w2 ⟨rfl, hB2⟩
    have HB2 := Lib.hid (HB1.out.trans (hB2.mono HB1.out.size))
    clear hB2
    go_wp2_with fail
    go_ret
    exact ⟨by rw [HL.out]; rfl, HB2.out⟩
set_option maxRecDepth 100000 in
theorem starless_any (s : ByteArray) (w : World) (hs : s.size ≤ 1099511627776) :
    Calls Tryz.prog 65 #[.string s] w fun e w' => e = .returned (.int .i64 (lessS s.data.toList)) ∧ Below w.heap.size w w' := by
  have hb := refB.countS_bd s.data.toList
  have CC := Lib.hid (fun wx => refA.count_any s wx hs)
  have CS := Lib.hid (star.isStar_any s w hs)
  obtain ⟨k, hk⟩ : ∃ k, countS s.data.toList = k := ⟨_, rfl⟩
  rw [hk] at CC hb
  cases hst : isStarS s.data.toList with
  | true =>
    have HL : Hid (lessS s.data.toList = k - 1) := Lib.hid (by unfold lessS; rw [hst, hk]; rfl)
    rw [hst] at CS
    clear hk hst
    go_enter Tryz.func65, Tryz.ntmps65
    go_wp2_with fail
    refine CS.out.mono ?_
    rintro e w1 ⟨rfl, hB1⟩
    have HB1 := Lib.hid hB1
    clear hB1
    go_wp2_with fail
    refine (CC.out w1).mono ?_
    rintro e w2 ⟨rfl, hB2⟩
    have HB2 := Lib.hid (HB1.out.trans (hB2.mono HB1.out.size))
    clear hB2
    go_wp2_with fail
    go_ret
    exact ⟨by rw [HL.out]; first | rfl | go_num, HB2.out⟩
  | false =>
    have HL : Hid (lessS s.data.toList = k) := Lib.hid (by unfold lessS; rw [hst, hk]; simp)
    rw [hst] at CS
    clear hk hst
    go_enter Tryz.func65, Tryz.ntmps65
    go_wp2_with fail
    refine CS.out.mono ?_
    rintro e w1 ⟨rfl, hB1⟩
    have HB1 := Lib.hid hB1
    clear hB1
    go_wp2_with fail
    refine (CC.out w1).mono ?_
    rintro e w2 ⟨rfl, hB2⟩
    have HB2 := Lib.hid (HB1.out.trans (hB2.mono HB1.out.size))
    clear hB2
    go_wp2_with fail
    go_ret
    exact ⟨by rw [HL.out]; rfl, HB2.out⟩
/-- a record that a zone may have -/
def zonB (x : Rc) : Bool := isB x.o && (decide (x.c = 1) && (decide (0 ≤ x.l) && (decide (x.l ≤ 2147483647) && decide (checkS x.t x.d.data.toList = 0))))
set_option maxRecDepth 100000 in
set_option maxHeartbeats 2000000 in
theorem zonal_any (x : Rc) (w : World) (ho : x.o.size ≤ 1099511627776) (hd : x.d.size ≤ maxLen) :
    Calls Tryz.prog 82 #[.agg #[.string x.o, .int .i64 x.t, .int .i64 x.c, .int .i64 x.l, .string x.d]] w fun e w' => e = .returned (.bool (zonB x)) ∧ Below w.heap.size w w' := by
  obtain ⟨R, hR⟩ : ∃ R, zonB x = R := ⟨_, rfl⟩
  rw [hR]
  have HR := Lib.hid hR
  obtain ⟨o, t, c, l, d⟩ := x
  dsimp only at ho hd ⊢
  have hB0 := (Below.refl w.heap.size w).alloc (Nat.le_refl _) (.cells #[.string o, .int .i64 t, .int .i64 c, .int .i64 l, .string d] 34)
  have hx := heap_alloc_new w (.cells #[.string o, .int .i64 t, .int .i64 c, .int .i64 l, .string d] 34)
  obtain ⟨X, hX⟩ : ∃ X, w.heap.size = X := ⟨_, rfl⟩
  obtain ⟨W, hW⟩ : ∃ W, w.alloc (.cells #[.string o, .int .i64 t, .int .i64 c, .int .i64 l, .string d] 34) = W := ⟨_, rfl⟩
  rw [hW] at hB0 hx
  rw [hX] at hx
  have c0 : W.cell? ⟨X, 0, none⟩ = some (.string o) := by simp only [World.cell?, hx]; rfl
  have HX := Lib.hid hX; have HW := Lib.hid hW; have HB0 := Lib.hid hB0; have HXX := Lib.hid hx
  have CN := Lib.hid (rsplit.isName_any o W ho)
  have CD := Lib.hid (fun wx => checkData.rdcheck_any t d wx hd)
  obtain ⟨ce, hce⟩ : ∃ ce, checkS t d.data.toList = ce := ⟨_, rfl⟩
  rw [hce] at CD
  have HCE := Lib.hid hce
  clear hR hX hW hB0 hx hce
  go_enter Tryz.func82, Tryz.ntmps82
  go_upto_region 1 with fail
  rw [HW.out]
  try rw [HX.out]
  go_wp2_with fail
  refine CN.out.mono ?_
  rintro e w1 ⟨rfl, hB1⟩
  have hx1 := (hB1.block X (Array.getElem?_eq_some_iff.1 HXX.out).1).trans HXX.out
  have y1 : w1.cell? ⟨X, 1, none⟩ = some (.int .i64 t) := by simp only [World.cell?, hx1]; rfl
  have y2 : w1.cell? ⟨X, 2, none⟩ = some (.int .i64 c) := by simp only [World.cell?, hx1]; rfl
  have y3 : w1.cell? ⟨X, 3, none⟩ = some (.int .i64 l) := by simp only [World.cell?, hx1]; rfl
  have y4 : w1.cell? ⟨X, 4, none⟩ = some (.string d) := by simp only [World.cell?, hx1]; rfl
  have HB1 := Lib.hid (HB0.out.trans (hB1.mono HB0.out.size))
  have hbz := HB0.out.size
  have HB1' := Lib.hid hB1.size
  clear hB1 hx1 c0 CN HXX
  cases hn : isB o with
  | false =>
    have HF : Hid (R = false) := Lib.hid (by rw [← HR.out]; unfold zonB; rw [hn]; rfl)
    clear hn
    go_wp2_with fail
    go_ret
    exact ⟨by rw [HF.out]; rfl, HB1.out⟩
  | true =>
  by_cases h1 : ¬ c = 1
  · have e1 : (c == 1) = false := by rw [beq_eq_false_iff_ne]; exact h1
    have HF : Hid (R = false) := Lib.hid (by rw [← HR.out]; unfold zonB; simp [hn, h1])
    clear hn
    go_wp2_with fail
    go_ret
    exact ⟨by rw [HF.out]; rfl, HB1.out⟩
  obtain rfl : c = 1 := by omega
  by_cases h2 : l < 0
  · have e2 : decide (0 ≤ l) = false := decide_eq_false (by omega)
    have HF : Hid (R = false) := Lib.hid (by rw [← HR.out]; unfold zonB; simp [hn]; try omega)
    clear hn
    go_wp2_with fail
    go_ret
    exact ⟨by rw [HF.out]; rfl, HB1.out⟩
  have e2 : decide (0 ≤ l) = true := decide_eq_true (by omega)
  by_cases h3 : 2147483647 < l
  · have e3 : decide (l ≤ 2147483647) = false := decide_eq_false (by omega)
    have HF : Hid (R = false) := Lib.hid (by rw [← HR.out]; unfold zonB; simp [hn]; try omega)
    clear hn
    go_wp2_with fail
    go_ret
    exact ⟨by rw [HF.out]; rfl, HB1.out⟩
  have e3 : decide (l ≤ 2147483647) = true := decide_eq_true (by omega)
  have HF : Hid (R = decide (ce = 0)) := Lib.hid (by rw [← HR.out, ← HCE.out]; unfold zonB; simp only [hn]; rw [decide_eq_true (show 0 ≤ l by omega), decide_eq_true (show l ≤ 2147483647 by omega)]; rfl)
  clear hn
  by_cases hc : ce = 0
  · subst hc
    go_wp2_with fail
    refine (CD.out w1).mono ?_
    rintro e w2 ⟨rfl, hB2⟩
    have HB2 := Lib.hid (HB1.out.trans (hB2.mono (Nat.le_trans hbz HB1'.out)))
    clear hB2
    go_wp2_with fail
    go_ret
    exact ⟨by rw [HF.out]; rfl, HB2.out⟩
  · have e4 : (ce == 0) = false := by rw [beq_eq_false_iff_ne]; exact hc
    go_wp2_with fail
    refine (CD.out w1).mono ?_
    rintro e w2 ⟨rfl, hB2⟩
    have HB2 := Lib.hid (HB1.out.trans (hB2.mono (Nat.le_trans hbz HB1'.out)))
    clear hB2
    go_wp2_with fail
    go_ret
    exact ⟨by rw [HF.out, decide_eq_false hc]; rfl, HB2.out⟩
end Go.Proofs.YtflijhodlimjoaaGreat.sealA

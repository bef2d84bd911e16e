/- gazetteerref1.CheckData: walk. Messages in plain words: records, questions, which are right. PLAIN: proofs of absence, what they say, and what they prove (both Judge, both Absent). proof.right: walk; what the reference's Gap says of itself: walks. The reference's Gap: AtCut, Away, Lacks: walks (gen_gapb.py). The reference's Gap: Matches, Spans, Denies: walks (gen_gapc.py). -/
import Derived.Test.YtanoiiodnddkfaaGreatJ16
import Derived.Test.YtanoiiodnddkfaaGreatJ13
import Derived.Test.YtanoiiodnddkfaaGreatJ15
import Derived.Test.YtanoiiodnddkfaaGreatJ14
import Derived.Test.YtanoiiodnddkfaaGreatJ7
import Derived.Test.YtanoiiodnddkfaaGreatJ8
import Derived.Test.YtanoiiodnddkfaaGreatJ5
import Derived.Test.YtanoiiodnddkfaaGreatJ4
namespace Go.Proofs.YtanoiiodnddkfaaGreat.checkData
open Go.RowKit Go.Proofs.YtanoiiodnddkfaaGreat.kit Go.Proofs.YtanoiiodnddkfaaGreat.nspec Go.Proofs.YtanoiiodnddkfaaGreat.fld Go.Proofs.YtanoiiodnddkfaaGreat.takes Go.Proofs.YtanoiiodnddkfaaGreat.splitD Go.Proofs.YtanoiiodnddkfaaGreat.rsize Go.Proofs.YtanoiiodnddkfaaGreat.rform Go.Proofs.YtanoiiodnddkfaaGreat.parts
set_option linter.unusedVariables false

theorem fair4_of {fs gs : List Fld} (h : some gs = some fs) (hl : gs.length ≤ 20) (hk : gs.all (fun f => match f with | .num k => decide (k = 1 ∨ k = 2 ∨ k = 4) | _ => true) = true) : Fair4 fs := by
  have e := Option.some.inj h
  subst e
  refine ⟨hl, fun k hm => ?_⟩
  have := List.all_eq_true.1 hk _ hm
  simpa using this
theorem form_fair4 {t : Int} {fs : List Fld} (h : formS t = some fs) : Fair4 fs := by
  by_cases h1 : t = 1
  · subst h1; exact fair4_of h (by decide) (by decide)
  by_cases h2 : t = 2
  · subst h2; exact fair4_of h (by decide) (by decide)
  by_cases h5 : t = 5
  · subst h5; exact fair4_of h (by decide) (by decide)
  by_cases h12 : t = 12
  · subst h12; exact fair4_of h (by decide) (by decide)
  by_cases h39 : t = 39
  · subst h39; exact fair4_of h (by decide) (by decide)
  by_cases h6 : t = 6
  · subst h6; exact fair4_of h (by decide) (by decide)
  by_cases h13 : t = 13
  · subst h13; exact fair4_of h (by decide) (by decide)
  by_cases h15 : t = 15
  · subst h15; exact fair4_of h (by decide) (by decide)
  by_cases h16 : t = 16
  · subst h16; exact fair4_of h (by decide) (by decide)
  by_cases h28 : t = 28
  · subst h28; exact fair4_of h (by decide) (by decide)
  by_cases h33 : t = 33
  · subst h33; exact fair4_of h (by decide) (by decide)
  by_cases h35 : t = 35
  · subst h35; exact fair4_of h (by decide) (by decide)
  by_cases h43 : t = 43
  · subst h43; exact fair4_of h (by decide) (by decide)
  by_cases h46 : t = 46
  · subst h46; exact fair4_of h (by decide) (by decide)
  by_cases h47 : t = 47
  · subst h47; exact fair4_of h (by decide) (by decide)
  by_cases h48 : t = 48
  · subst h48; exact fair4_of h (by decide) (by decide)
  by_cases h50 : t = 50
  · subst h50; exact fair4_of h (by decide) (by decide)
  by_cases h51 : t = 51
  · subst h51; exact fair4_of h (by decide) (by decide)
  by_cases h257 : t = 257
  · subst h257; exact fair4_of h (by decide) (by decide)
  simp [formS, h1, h2, h5, h12, h39, h6, h13, h15, h16, h28, h33, h35, h43, h46, h47, h48, h50, h51, h257] at h
theorem form_holds {t : Int} {fs : List Fld} (h : formS t = some fs) : holdsB t = true := by
  by_cases h1 : t = 1
  · subst h1; decide
  by_cases h2 : t = 2
  · subst h2; decide
  by_cases h5 : t = 5
  · subst h5; decide
  by_cases h12 : t = 12
  · subst h12; decide
  by_cases h39 : t = 39
  · subst h39; decide
  by_cases h6 : t = 6
  · subst h6; decide
  by_cases h13 : t = 13
  · subst h13; decide
  by_cases h15 : t = 15
  · subst h15; decide
  by_cases h16 : t = 16
  · subst h16; decide
  by_cases h28 : t = 28
  · subst h28; decide
  by_cases h33 : t = 33
  · subst h33; decide
  by_cases h35 : t = 35
  · subst h35; decide
  by_cases h43 : t = 43
  · subst h43; decide
  by_cases h46 : t = 46
  · subst h46; decide
  by_cases h47 : t = 47
  · subst h47; decide
  by_cases h48 : t = 48
  · subst h48; decide
  by_cases h50 : t = 50
  · subst h50; decide
  by_cases h51 : t = 51
  · subst h51; decide
  by_cases h257 : t = 257
  · subst h257; decide
  simp [formS, h1, h2, h5, h12, h39, h6, h13, h15, h16, h28, h33, h35, h43, h46, h47, h48, h50, h51, h257] at h
theorem form_cons {t : Int} {fs : List Fld} (h : formS t = some fs) : lettersB fs ≠ [] ∧ lettersB fs ≠ [45] := by
  by_cases h1 : t = 1
  · subst h1; have e := Option.some.inj h; subst e; exact ⟨by decide, by decide⟩
  by_cases h2 : t = 2
  · subst h2; have e := Option.some.inj h; subst e; exact ⟨by decide, by decide⟩
  by_cases h5 : t = 5
  · subst h5; have e := Option.some.inj h; subst e; exact ⟨by decide, by decide⟩
  by_cases h12 : t = 12
  · subst h12; have e := Option.some.inj h; subst e; exact ⟨by decide, by decide⟩
  by_cases h39 : t = 39
  · subst h39; have e := Option.some.inj h; subst e; exact ⟨by decide, by decide⟩
  by_cases h6 : t = 6
  · subst h6; have e := Option.some.inj h; subst e; exact ⟨by decide, by decide⟩
  by_cases h13 : t = 13
  · subst h13; have e := Option.some.inj h; subst e; exact ⟨by decide, by decide⟩
  by_cases h15 : t = 15
  · subst h15; have e := Option.some.inj h; subst e; exact ⟨by decide, by decide⟩
  by_cases h16 : t = 16
  · subst h16; have e := Option.some.inj h; subst e; exact ⟨by decide, by decide⟩
  by_cases h28 : t = 28
  · subst h28; have e := Option.some.inj h; subst e; exact ⟨by decide, by decide⟩
  by_cases h33 : t = 33
  · subst h33; have e := Option.some.inj h; subst e; exact ⟨by decide, by decide⟩
  by_cases h35 : t = 35
  · subst h35; have e := Option.some.inj h; subst e; exact ⟨by decide, by decide⟩
  by_cases h43 : t = 43
  · subst h43; have e := Option.some.inj h; subst e; exact ⟨by decide, by decide⟩
  by_cases h46 : t = 46
  · subst h46; have e := Option.some.inj h; subst e; exact ⟨by decide, by decide⟩
  by_cases h47 : t = 47
  · subst h47; have e := Option.some.inj h; subst e; exact ⟨by decide, by decide⟩
  by_cases h48 : t = 48
  · subst h48; have e := Option.some.inj h; subst e; exact ⟨by decide, by decide⟩
  by_cases h50 : t = 50
  · subst h50; have e := Option.some.inj h; subst e; exact ⟨by decide, by decide⟩
  by_cases h51 : t = 51
  · subst h51; have e := Option.some.inj h; subst e; exact ⟨by decide, by decide⟩
  by_cases h257 : t = 257
  · subst h257; have e := Option.some.inj h; subst e; exact ⟨by decide, by decide⟩
  simp [formS, h1, h2, h5, h12, h39, h6, h13, h15, h16, h28, h33, h35, h43, h46, h47, h48, h50, h51, h257] at h

theorem notEmpty {F : ByteArray} (h : F.data.toList ≠ []) : F.toList.isEmpty = false := by
  rw [Lib.toList_data]
  cases hl : F.data.toList with
  | nil => exact absurd hl h
  | cons => rfl
theorem not45 {F : ByteArray} (h : F.data.toList ≠ [45]) : (F.toList == [45]) = false := by rw [Lib.toList_data]; simpa using h

set_option maxRecDepth 100000 in
set_option maxHeartbeats 2000000 in
theorem rdcheck_any (t : Int) (s : ByteArray) (w : World) (hs : s.size ≤ maxLen) :
    Calls Tryz.prog 102 #[.int .i64 t, .string s] w fun e w' => e = .returned (.int .i64 (checkS t s.data.toList)) ∧ Below w.heap.size w w' := by
  obtain ⟨R, HR⟩ : ∃ R, Hid (checkS t s.data.toList = R) := ⟨_, Lib.hid rfl⟩
  rw [HR.out]
  have CF := Lib.hid (fun w => rform_any t w)
  unfold FormIs at CF
  obtain ⟨F, hF⟩ : ∃ F : ByteArray, (⟨(formB t).toArray⟩ : ByteArray) = F := ⟨_, rfl⟩
  have hFd : F.data.toList = formB t := by rw [← hF]
  rw [hF] at CF
  cases hf : formS t with
  | none =>
    have hP : partsS t s.data.toList = some [] := by unfold partsS; rw [hf]
    obtain ⟨b, hb⟩ : ∃ b, holdsB t = b := ⟨_, rfl⟩
    cases b with
    | false =>
      have HN : Hid (6 = R) := Lib.hid (by rw [← HR.out, checkS, if_pos hb])
      have he : F.toList = [] := by rw [Lib.toList_data, hFd]; unfold formB; rw [hf, hb]; rfl
      clear hF hFd hf hP hb
      go_enter Tryz.func102, Tryz.ntmps102
      go_wp2_with fail
      refine (CF.out _).mono ?_
      rintro e w1 ⟨rfl, rfl⟩
      go_wp2_with fail
      go_ret
      exact ⟨by rw [← HN.out]; rfl, Below.refl _ _⟩
    | true =>
      have hl45 : F.data.toList = [45] := by rw [hFd]; unfold formB; rw [hf, hb]; rfl
      have he : F.toList.isEmpty = false := notEmpty (by rw [hl45]; simp)
      have h45 : (F.toList == [45]) = true := by rw [Lib.toList_data, hl45]; rfl
      by_cases hl : 65535 < s.size
      · have HN : Hid (7 = R) := Lib.hid (by rw [← HR.out, checkS, if_neg (by rw [hb]; simp), if_pos (by rw [size_len]; exact hl)])
        have hli : (65535 : Int) < (s.size : Int) := by omega
        clear hF hFd hf hP hb hl hl45
        go_enter Tryz.func102, Tryz.ntmps102
        go_wp2_with fail
        refine (CF.out _).mono ?_
        rintro e w1 ⟨rfl, rfl⟩
        go_wp2_with fail
        go_ret
        exact ⟨by rw [← HN.out]; rfl, Below.refl _ _⟩
      · have HN : Hid (0 = R) := Lib.hid (by rw [← HR.out, checkS, if_neg (by rw [hb]; simp), if_neg (by rw [size_len]; exact hl), hP]; rfl)
        have hli : (s.size : Int) ≤ 65535 := by omega
        clear hF hFd hf hP hb hl hl45
        go_enter Tryz.func102, Tryz.ntmps102
        go_wp2_with fail
        refine (CF.out _).mono ?_
        rintro e w1 ⟨rfl, rfl⟩
        go_wp2_with fail
        go_ret
        exact ⟨by rw [← HN.out]; rfl, Below.refl _ _⟩
  | some fs =>
    have hb := form_holds hf
    obtain ⟨c1, c2⟩ := form_cons hf
    have hFl : F.data.toList = lettersB fs := by rw [hFd]; unfold formB; rw [hf]
    have he : F.toList.isEmpty = false := notEmpty (by rw [hFl]; exact c1)
    have h45 : (F.toList == [45]) = false := not45 (by rw [hFl]; exact c2)
    by_cases hl : 65535 < s.size
    · have HN : Hid (7 = R) := Lib.hid (by rw [← HR.out, checkS, if_neg (by rw [hb]; simp), if_pos (by rw [size_len]; exact hl)])
      have hli : (65535 : Int) < (s.size : Int) := by omega
      clear hF hFd hf hb hl hFl c1 c2
      go_enter Tryz.func102, Tryz.ntmps102
      go_wp2_with fail
      refine (CF.out _).mono ?_
      rintro e w1 ⟨rfl, rfl⟩
      go_wp2_with fail
      go_ret
      exact ⟨by rw [← HN.out]; rfl, Below.refl _ _⟩
    · have HC : Hid (R = if partsS t s.data.toList = none then 7 else 0) := Lib.hid (by rw [← HR.out, checkS, if_neg (by rw [hb]; simp), if_neg (by rw [size_len]; exact hl)])
      have hli : (s.size : Int) ≤ 65535 := by omega
      have hls : s.size ≤ 65535 := by omega
      have HP : Hid (partsS t s.data.toList = match splitS fs s.data.toList with | some (p, []) => some p | _ => none) := Lib.hid (by unfold partsS; rw [hf]; rfl)
      have CP := Lib.hid (fun w => parts_any fs F s w hFl (form_fair4 hf) hls fs.length rfl)
      clear hF hFd hf hb hl hFl c1 c2
      go_enter Tryz.func102, Tryz.ntmps102
      go_wp2_with fail
      refine (CF.out _).mono ?_
      rintro e w1 ⟨rfl, rfl⟩
      go_wp2_with fail
      refine (CP.out _).mono ?_
      rintro e w2 ⟨hB2, ⟨v, p, r, hsp, rfl, hown⟩ | ⟨hsp, rfl⟩⟩
      · have HB := Lib.hid hB2
        have HQ : Hid (R = if r.isEmpty then 0 else 7) := Lib.hid (by rw [HC.out, HP.out, hsp]; cases r <;> simp)
        clear hB2 hsp hown
        cases r with
        | nil =>
          have HN : Hid (R = 0) := Lib.hid HQ.out
          simp only [List.isEmpty_nil]
          go_wp2_with fail
          go_ret
          exact ⟨by rw [HN.out]; rfl, HB.out⟩
        | cons x r =>
          have HN : Hid (R = 7) := Lib.hid HQ.out
          simp only [List.isEmpty_cons]
          go_wp2_with fail
          go_ret
          exact ⟨by rw [HN.out]; rfl, HB.out⟩
      · have HB := Lib.hid hB2
        have HN : Hid (R = 7) := Lib.hid (by rw [HC.out, HP.out, hsp]; rfl)
        clear hB2 hsp
        go_wp2_with fail
        go_ret
        exact ⟨by rw [HN.out]; rfl, HB.out⟩
end Go.Proofs.YtanoiiodnddkfaaGreat.checkData
namespace Go.Proofs.YtanoiiodnddkfaaGreat.wireP
open Go.RowKit Go.Proofs.YtanoiiodnddkfaaGreat.kit Go.Proofs.YtanoiiodnddkfaaGreat.takes Go.Proofs.YtanoiiodnddkfaaGreat.nspec Go.Proofs.YtanoiiodnddkfaaGreat.rsplit Go.Proofs.YtanoiiodnddkfaaGreat.check Go.Proofs.YtanoiiodnddkfaaGreat.fld
set_option linter.unusedVariables false

/-- a record -/
structure Rc where
  o : ByteArray
  t : Int
  c : Int
  l : Int
  d : ByteArray
def Rc.cells (x : Rc) : List Value := [.string x.o, .int .i64 x.t, .int .i64 x.c, .int .i64 x.l, .string x.d]
/-- a question -/
structure Qn where
  n : ByteArray
  t : Int
  c : Int
def Qn.cells (x : Qn) : List Value := [.string x.n, .int .i64 x.t, .int .i64 x.c]
def inB (v top : Int) : Bool := decide (0 ≤ v) && decide (v ≤ top)
def emptyB (x : Rc) : Bool := decide (x.d.size = 0) && (decide (x.c = 254) || decide (x.c = 255))
def rightB (x : Rc) : Bool :=
  isB x.o && (inB x.t 65535 && (inB x.c 65535 && (inB x.l 4294967295 && (if x.t = 41 then decide (x.d.size ≤ 65535) else (emptyB x || decide (checkS x.t x.d.data.toList = 0))))))
def rightQ (x : Qn) : Bool := isB x.n && (inB x.t 65535 && inB x.c 65535)
theorem inB_yes {v top : Int} (h0 : 0 ≤ v) (h1 : v ≤ top) : inB v top = true := by simp [inB, h0, h1]
theorem inB_low {v top : Int} (h0 : v < 0) : inB v top = false := by simp [inB]; intro h; omega
theorem inB_high {v top : Int} (h0 : top < v) : inB v top = false := by simp [inB]; intro h; omega

end Go.Proofs.YtanoiiodnddkfaaGreat.wireP
namespace Go.Proofs.YtanoiiodnddkfaaGreat.gapP
open Go.RowKit Go.Proofs.YtanoiiodnddkfaaGreat.kit Go.Proofs.YtanoiiodnddkfaaGreat.nspec Go.Proofs.YtanoiiodnddkfaaGreat.refA Go.Proofs.YtanoiiodnddkfaaGreat.refB Go.Proofs.YtanoiiodnddkfaaGreat.fld Go.Proofs.YtanoiiodnddkfaaGreat.wireP
set_option linter.unusedVariables false

/-- a proof that may be used -/
structure Gp where
  x : Rc
  hashed : Bool
  nx : ByteArray
  own : ByteArray
  salt : ByteArray
  rounds : Int
  ty : List Nat
def rgtB (ap : Bs) (x : Rc) : Bool := withinS x.o.data.toList ap && (decide (x.c = 1) && (decide (0 ≤ x.l) && (decide (x.l ≤ 2147483647) && decide (checkS x.t x.d.data.toList = 0))))
/-- an NSEC that may be used -/
def useN (ap : Bs) (x : Rc) : Option Gp :=
  if x.t = 47 ∧ rgtB ap x = true then
    match partsS 47 x.d.data.toList with
    | some [a, b] => if withinS a ap = true then some ⟨x, false, ⟨a.toArray⟩, ⟨#[]⟩, ⟨#[]⟩, 0, (typesS b).getD []⟩ else none
    | _ => none
  else none
/-- an NSEC3 that may be used -/
def useH (ap : Bs) (x : Rc) : Option Gp :=
  if x.t = 50 ∧ rgtB ap x = true then
    match partsS 50 x.d.data.toList with
    | some [a, b, c, s, n, k] =>
      if (a = [1] ∧ b = [0]) ∧ equalS (parentS x.o.data.toList) ap = true ∧ (val.valL c 0 : Int) ≤ 50 ∧ n.length = 11 then
        match back.from32S ((nameL.labS x.o.data.toList).headD []) with
        | some o => if o.length = 10 then some ⟨x, true, ⟨(n.drop 1).toArray⟩, ⟨o.toArray⟩, ⟨(s.drop 1).toArray⟩, val.valL c 0, (typesS k).getD []⟩ else none
        | none => none
      else none
    | _ => none
  else none
def says (g : Gp) (t : Int) : Bool := g.ty.any (fun y => (y : Int) == t)
def cutB (g : Gp) : Bool := says g 2 && !says g 6
def awayB (g : Gp) : Bool := cutB g || says g 39
def lacksB (g : Gp) (t : Int) : Bool := if cutB g && t != 43 then false else if t = 255 then g.ty.isEmpty else !says g t && !says g 5
def ltB (a b : Bs) : Bool := decide (Lib.compareBytes a b < 0)
def betB (a b x : Bs) : Bool := if ltB a b then ltB a x && ltB x b else ltB a x || ltB x b
def hashOf (g : Gp) (n : Bs) : Bs := (hash.hashS n g.salt.data.toList g.rounds).1
def matchB (g : Gp) (n : Bs) : Bool := if g.hashed then decide (hashOf g n = g.own.data.toList) else equalS g.x.o.data.toList n
def spanB (g : Gp) (n : Bs) : Bool := if g.hashed then betB g.own.data.toList g.nx.data.toList (hashOf g n) else cov.covS g.x.o.data.toList g.nx.data.toList n
def denyB (g : Gp) (n : Bs) : Bool := spanB g n && !(awayB g && withinS n g.x.o.data.toList)
def namesG (ap : Bs) (L : List Rc) : List Gp := L.filterMap (useN ap)
def likeB (a g : Gp) : Bool := decide (g.salt = a.salt) && decide (g.rounds = a.rounds)
def takeH (acc : List Gp) (o : Option Gp) : List Gp := match o with
  | none => acc
  | some g => match acc with
    | [] => [g]
    | a :: r => if likeB a g then acc ++ [g] else acc
def hashesG (ap : Bs) (L : List Rc) : List Gp := L.foldl (fun acc x => takeH acc (useH ap x)) []
def shownB (l : List Gp) (n : Bs) (t : Int) : Bool := l.any (fun g => matchB g n && lacksB g t)
def spannedB (l : List Gp) (n : Bs) : Bool := l.any (fun g => spanB g n)
def encl (g : Gp) (q : Bs) : Bs := if countS (commonS q g.x.o.data.toList) < countS (commonS q g.nx.data.toList) then commonS q g.nx.data.toList else commonS q g.x.o.data.toList
def judgeF (l : List Gp) (q : Bs) (t : Int) : List Gp → Int
  | [] => 0
  | g :: r =>
    if denyB g q = false then judgeF l q t r
    else if withinS g.nx.data.toList q = true then 2
    else if shownB l (star.starS (encl g q)) t = true then 2
    else match l.find? (fun h => denyB h (star.starS (encl g q))) with
      | some h => if withinS h.nx.data.toList (star.starS (encl g q)) = true then 2 else 1
      | none => judgeF l q t r
def judgeN (l : List Gp) (q : Bs) (t : Int) : Int := if shownB l q t = true then 2 else judgeF l q t l
def belowI (l : List Gp) (q e : Bs) (k t : Int) : Int :=
  if spannedB l (tailS q (k + 1)) = false then 0
  else if spannedB l (star.starS e) = true then 1
  else match l.find? (fun h => matchB h (star.starS e)) with
    | some h => if lacksB h t = true then 2 else 0
    | none => 0
def judgeU (ap q : Bs) (l : List Gp) (t : Int) : Nat → Int → Int
  | 0, _ => 0
  | f + 1, k =>
    if k < countS ap then 0
    else match l.find? (fun g => matchB g (tailS q k)) with
      | none => judgeU ap q l t f (k - 1)
      | some g => if k = countS q then (if lacksB g t = true then 2 else 0) else if awayB g = true then 0 else belowI l q (tailS q k) k t
def judgeH (ap q : Bs) (l : List Gp) (t : Int) : Int := judgeU ap q l t (countS q + 2).toNat (countS q)
def judgeI (ap : Bs) (L : List Rc) (q : Bs) (t : Int) : Int :=
  if withinS q ap = false ∨ t < 1 ∨ 65535 < t then 0
  else if namesG ap L = [] then judgeH ap q (hashesG ap L) t else judgeN (namesG ap L) q t
def absentB (ap : Bs) (L : List Rc) (n : Bs) : Bool :=
  if withinS n ap = false then false
  else if namesG ap L = [] then spannedB (hashesG ap L) n else (namesG ap L).any (fun g => denyB g n && !withinS g.nx.data.toList n)
end Go.Proofs.YtanoiiodnddkfaaGreat.gapP
namespace Go.Proofs.YtanoiiodnddkfaaGreat.gapA
open Go.RowKit Go.Proofs.YtanoiiodnddkfaaGreat.kit Go.Proofs.YtanoiiodnddkfaaGreat.nspec Go.Proofs.YtanoiiodnddkfaaGreat.refA Go.Proofs.YtanoiiodnddkfaaGreat.refB Go.Proofs.YtanoiiodnddkfaaGreat.fld Go.Proofs.YtanoiiodnddkfaaGreat.wireP Go.Proofs.YtanoiiodnddkfaaGreat.gapP Go.Proofs.YtanoiiodnddkfaaGreat.bits Go.Proofs.YtanoiiodnddkfaaGreat.ints
set_option linter.unusedVariables false

set_option maxRecDepth 100000 in
set_option maxHeartbeats 2000000 in
theorem right_any (ap : ByteArray) (x : Rc) (w : World) (hap : ap.size ≤ 1048576) (ho : x.o.size ≤ 1099511627776) (hd : x.d.size ≤ maxLen) :
    Calls Tryz.prog 66 #[.string ap, .agg #[.string x.o, .int .i64 x.t, .int .i64 x.c, .int .i64 x.l, .string x.d]] w fun e w' => e = .returned (.bool (rgtB ap.data.toList x)) ∧ Below w.heap.size w w' := by
  obtain ⟨R, hR⟩ : ∃ R, rgtB ap.data.toList x = R := ⟨_, rfl⟩
  rw [hR]
  have HR := Lib.hid hR
  obtain ⟨o, t, c, l, d⟩ := x
  dsimp only at ho hd ⊢
  have hB0 := (Below.refl w.heap.size w).alloc (Nat.le_refl _) (.cells #[.string o, .int .i64 t, .int .i64 c, .int .i64 l, .string d] 32)
  have hx := heap_alloc_new w (.cells #[.string o, .int .i64 t, .int .i64 c, .int .i64 l, .string d] 32)
  obtain ⟨X, hX⟩ : ∃ X, w.heap.size = X := ⟨_, rfl⟩
  obtain ⟨W, hW⟩ : ∃ W, w.alloc (.cells #[.string o, .int .i64 t, .int .i64 c, .int .i64 l, .string d] 32) = W := ⟨_, rfl⟩
  rw [hW] at hB0 hx
  rw [hX] at hx
  have c0 : W.cell? ⟨X, 0, none⟩ = some (.string o) := by simp only [World.cell?, hx]; rfl
  have HX := Lib.hid hX; have HW := Lib.hid hW; have HB0 := Lib.hid hB0; have HXX := Lib.hid hx
  have CN := Lib.hid (nameB.nwithin_any o ap W ho (by omega))
  have CD := Lib.hid (fun wx => dcheck.dcheck_any t d wx hd)
  obtain ⟨ce, hce⟩ : ∃ ce, checkS t d.data.toList = ce := ⟨_, rfl⟩
  rw [hce] at CD
  have HCE := Lib.hid hce
  rw [nameC.within_same] at CN
  clear hR hX hW hB0 hx hce
  go_enter Tryz.func66, Tryz.ntmps66
  go_upto_region 1 with fail
  rw [HW.out]
  try rw [HX.out]
  go_wp2_with fail
  refine CN.out.mono ?_
  rintro e w1 ⟨rfl, hB1⟩
  have hx1 := (hB1.block X (Array.getElem?_eq_some_iff.1 HXX.out).1).trans HXX.out
  have y1 : w1.cell? ⟨X, 1, none⟩ = some (.int .i64 t) := by simp only [World.cell?, hx1]; rfl
  have y2 : w1.cell? ⟨X, 2, none⟩ = some (.int .i64 c) := by simp only [World.cell?, hx1]; rfl
  have y3 : w1.cell? ⟨X, 3, none⟩ = some (.int .i64 l) := by simp only [World.cell?, hx1]; rfl
  have y4 : w1.cell? ⟨X, 4, none⟩ = some (.string d) := by simp only [World.cell?, hx1]; rfl
  have HB1 := Lib.hid (HB0.out.trans (hB1.mono HB0.out.size))
  have hbz := HB0.out.size
  have HB1' := Lib.hid hB1.size
  clear hB1 hx1 c0 CN HXX
  cases hn : withinS o.data.toList ap.data.toList with
  | false =>
    have HF : Hid (R = false) := Lib.hid (by rw [← HR.out]; unfold rgtB; rw [hn]; rfl)
    clear hn
    go_wp2_with fail
    go_ret
    exact ⟨by rw [HF.out]; rfl, HB1.out⟩
  | true =>
  by_cases h1 : ¬ c = 1
  · have e1 : (c == 1) = false := by rw [beq_eq_false_iff_ne]; exact h1
    have HF : Hid (R = false) := Lib.hid (by rw [← HR.out]; unfold rgtB; simp [hn, h1])
    clear hn
    go_wp2_with fail
    go_ret
    exact ⟨by rw [HF.out]; rfl, HB1.out⟩
  obtain rfl : c = 1 := by omega
  by_cases h2 : l < 0
  · have e2 : decide (0 ≤ l) = false := decide_eq_false (by omega)
    have HF : Hid (R = false) := Lib.hid (by rw [← HR.out]; unfold rgtB; simp [hn]; try omega)
    clear hn
    go_wp2_with fail
    go_ret
    exact ⟨by rw [HF.out]; rfl, HB1.out⟩
  have e2 : decide (0 ≤ l) = true := decide_eq_true (by omega)
  by_cases h3 : 2147483647 < l
  · have e3 : decide (l ≤ 2147483647) = false := decide_eq_false (by omega)
    have HF : Hid (R = false) := Lib.hid (by rw [← HR.out]; unfold rgtB; simp [hn]; try omega)
    clear hn
    go_wp2_with fail
    go_ret
    exact ⟨by rw [HF.out]; rfl, HB1.out⟩
  have e3 : decide (l ≤ 2147483647) = true := decide_eq_true (by omega)
  have HF : Hid (R = decide (ce = 0)) := Lib.hid (by rw [← HR.out, ← HCE.out]; unfold rgtB; simp only [hn]; rw [decide_eq_true (show 0 ≤ l by omega), decide_eq_true (show l ≤ 2147483647 by omega)]; rfl)
  clear hn
  by_cases hc : ce = 0
  · subst hc
    go_wp2_with fail
    refine (CD.out w1).mono ?_
    rintro e w2 ⟨rfl, hB2⟩
    have HB2 := Lib.hid (HB1.out.trans (hB2.mono (Nat.le_trans hbz HB1'.out)))
    clear hB2
    go_wp2_with fail
    go_ret
    exact ⟨by rw [HF.out]; rfl, HB2.out⟩
  · have e4 : (ce == 0) = false := by rw [beq_eq_false_iff_ne]; exact hc
    go_wp2_with fail
    refine (CD.out w1).mono ?_
    rintro e w2 ⟨rfl, hB2⟩
    have HB2 := Lib.hid (HB1.out.trans (hB2.mono (Nat.le_trans hbz HB1'.out)))
    clear hB2
    go_wp2_with fail
    go_ret
    exact ⟨by rw [HF.out, decide_eq_false hc]; rfl, HB2.out⟩

theorem any_step {ty : List Nat} {k y : Nat} {f : Nat → Bool} {R : Bool} (hy : ty[k]? = some y) (h : (ty.drop k).any f = R) : (f y || (ty.drop (k + 1)).any f) = R := by
  obtain ⟨hlt, rfl⟩ := List.getElem?_eq_some_iff.1 hy
  rw [List.drop_eq_getElem_cons hlt, List.any_cons] at h
  exact h
/-- the reference's Gap in memory: the cells of one, its types' list at v -/
def gapC (g : Gp) (v : Value) : Array Value := #[.string g.x.o, .int .i64 g.x.t, .int .i64 g.x.c, .int .i64 g.x.l, .string g.x.d, .bool g.hashed, .string g.nx, .string g.own, .string g.salt, .int .i64 g.rounds, v]
set_option maxRecDepth 100000 in
set_option maxHeartbeats 2000000 in
theorem says_any (g : Gp) (a : Option Addr) (n c : Nat) (t : Int) (w : World) (hn : g.ty.length = n) (hl : n ≤ 1048576) (hr : RdN w a g.ty) :
    Calls Tryz.prog 57 #[.agg (gapC g (.slice a n c)), .int .i64 t] w fun e w' => e = .returned (.bool (says g t)) ∧ Below w.heap.size w w' := by
  obtain ⟨R, HR⟩ : ∃ R, Hid (says g t = R) := ⟨_, Lib.hid rfl⟩
  rw [HR.out]
  have HS : Hid ((g.ty.drop 0).any (fun y => (y : Int) == t) = R) := Lib.hid HR.out
  obtain ⟨⟨o, rt, rc, rl, rd⟩, hh, s1, s2, s3, ro, ty⟩ := g
  dsimp only [gapC] at hn hr HS ⊢
  have HRD := Lib.hid hr
  clear hr HR
  have hB0 := (Below.refl w.heap.size w).alloc (Nat.le_refl _) (.cells #[.string o, .int .i64 rt, .int .i64 rc, .int .i64 rl, .string rd, .bool hh, .string s1, .string s2, .string s3, .int .i64 ro, .slice a n c] 45)
  have hx := heap_alloc_new w (.cells #[.string o, .int .i64 rt, .int .i64 rc, .int .i64 rl, .string rd, .bool hh, .string s1, .string s2, .string s3, .int .i64 ro, .slice a n c] 45)
  obtain ⟨X, hX⟩ : ∃ X, w.heap.size = X := ⟨_, rfl⟩
  obtain ⟨W, hW⟩ : ∃ W, w.alloc (.cells #[.string o, .int .i64 rt, .int .i64 rc, .int .i64 rl, .string rd, .bool hh, .string s1, .string s2, .string s3, .int .i64 ro, .slice a n c] 45) = W := ⟨_, rfl⟩
  rw [hW] at hB0 hx
  rw [hX] at hx
  have c10 : W.cell? ⟨X, 10, none⟩ = some (.slice a n c) := by simp only [World.cell?, hx]; rfl
  have HX := Lib.hid hX; have HW := Lib.hid hW; have HB0 := Lib.hid hB0
  have HRW := Lib.hid (HRD.out.below hB0 rfl)
  have HN := Lib.hid hn
  clear hX hW hB0 hx hn
  go_enter Tryz.func57, Tryz.ntmps57
  go_upto_region 1 with fail
  rw [HW.out]
  try rw [HX.out]
  go_wp2_with fail
  go_loopg [6, 10] (n + 1) (fun gas _ kv wr => ∃ (k : Nat), kv = .int .i64 k ∧ k ≤ n ∧ k + gas = n + 1 ∧ Hid ((ty.drop k).any (fun y => (y : Int) == t) = R) ∧ Below w.heap.size w wr)
  case atStart => exact ⟨0, rfl, by omega, by omega, HS, HB0.out⟩
  case round =>
    obtain ⟨k, rfl, hk, hkg, HW2, hB⟩ := hrel
    have HKG := Lib.hid hkg; clear hkg
    have HB := Lib.hid hB; clear hB
    by_cases hlt : k < n
    · obtain ⟨y, hy⟩ : ∃ y, ty[k]? = some y := ⟨_, List.getElem?_eq_getElem (by have := HN.out; omega)⟩
      obtain ⟨g, of, rfl, hg, hcy⟩ := HRD.out k y hy
      have hcw := (HB.out.cell (p := ⟨g, of + k, none⟩) hg).trans hcy
      unfold bitV at hcw
      have zk : (0 : Int) ≤ (k : Int) := by omega
      have zl : (k : Int) < (n : Int) := by omega
      have HSTEP := any_step hy HW2.out
      clear hg hcy
      by_cases he : (y : Int) = t
      · have he' : ((y : Int) == t) = true := by rw [beq_iff_eq]; exact he
        have HT : Hid (R = true) := Lib.hid (by rw [← HSTEP, he']; rfl)
        clear he hy HSTEP
        go_wp2_with fail
        go_ret
        exact ⟨by rw [HT.out]; rfl, HB.out⟩
      · have he' : ((y : Int) == t) = false := by rw [beq_eq_false_iff_ne]; exact he
        have HT := Lib.hid (show ((ty.drop (k + 1)).any (fun y => (y : Int) == t)) = R by rw [← HSTEP, he']; rfl)
        clear he hy HSTEP
        go_wp2_with fail
        have hkg := HKG.out
        go_roundg (gk - 1)
        case rel => exact ⟨k + 1, by go_num, by omega, by omega, HT, HB.out⟩
        case measure => omega
    · have hnl : ¬ (k : Int) < (n : Int) := by omega
      have HF : Hid (R = false) := Lib.hid (by rw [← HW2.out, List.drop_eq_nil_of_le (by have := HN.out; omega)]; rfl)
      go_wp2_with fail
      go_ret
      exact ⟨by rw [HF.out]; rfl, HB.out⟩
end Go.Proofs.YtanoiiodnddkfaaGreat.gapA
namespace Go.Proofs.YtanoiiodnddkfaaGreat.gapB
open Go.RowKit Go.Proofs.YtanoiiodnddkfaaGreat.kit Go.Proofs.YtanoiiodnddkfaaGreat.nspec Go.Proofs.YtanoiiodnddkfaaGreat.refA Go.Proofs.YtanoiiodnddkfaaGreat.refB Go.Proofs.YtanoiiodnddkfaaGreat.fld Go.Proofs.YtanoiiodnddkfaaGreat.wireP Go.Proofs.YtanoiiodnddkfaaGreat.gapP Go.Proofs.YtanoiiodnddkfaaGreat.bits Go.Proofs.YtanoiiodnddkfaaGreat.ints Go.Proofs.YtanoiiodnddkfaaGreat.gapA
set_option linter.unusedVariables false

theorem cells11 {w : World} {X : Nat} {g : Gp} {a : Option Addr} {n c : Nat} {fr : Nat × Nat} (h : w.heap[X]? = some (.cells #[.string g.x.o, .int .i64 g.x.t, .int .i64 g.x.c, .int .i64 g.x.l, .string g.x.d, .bool g.hashed, .string g.nx, .string g.own, .string g.salt, .int .i64 g.rounds, .slice a n c] 45 fr)) : w.cell? ⟨X, 0, none⟩ = some (.string g.x.o) ∧ w.cell? ⟨X, 1, none⟩ = some (.int .i64 g.x.t) ∧ w.cell? ⟨X, 2, none⟩ = some (.int .i64 g.x.c) ∧ w.cell? ⟨X, 3, none⟩ = some (.int .i64 g.x.l) ∧ w.cell? ⟨X, 4, none⟩ = some (.string g.x.d) ∧ w.cell? ⟨X, 5, none⟩ = some (.bool g.hashed) ∧ w.cell? ⟨X, 6, none⟩ = some (.string g.nx) ∧ w.cell? ⟨X, 7, none⟩ = some (.string g.own) ∧ w.cell? ⟨X, 8, none⟩ = some (.string g.salt) ∧ w.cell? ⟨X, 9, none⟩ = some (.int .i64 g.rounds) ∧ w.cell? ⟨X, 10, none⟩ = some (.slice a n c) := by
  refine ⟨?_, ?_, ?_, ?_, ?_, ?_, ?_, ?_, ?_, ?_, ?_⟩ <;> (simp only [World.cell?, h]; rfl)
set_option maxRecDepth 100000 in
set_option maxHeartbeats 2000000 in
theorem atcut_any (g : Gp) (a : Option Addr) (n c : Nat) (w : World) (hn : g.ty.length = n) (hl : n ≤ 1048576) (hr : RdN w a g.ty) :
    Calls Tryz.prog 56 #[.agg (gapC g (.slice a n c))] w fun e w' => e = .returned (.bool (cutB g)) ∧ Below w.heap.size w w' := by
  have CS := Lib.hid (fun (t : Int) (wx : World) (hB : Below w.heap.size w wx) => says_any g a n c t wx hn hl (hr.below hB rfl))
  dsimp only [gapC] at CS ⊢
  obtain ⟨b2, h2⟩ : ∃ b, says g 2 = b := ⟨_, rfl⟩
  obtain ⟨b6, h6⟩ : ∃ b, says g 6 = b := ⟨_, rfl⟩
  have C2 := Lib.hid (CS.out 2); have C6 := Lib.hid (CS.out 6)
  rw [h2] at C2
  rw [h6] at C6
  unfold cutB
  rw [h2, h6]
  clear h2 h6 CS hr hn
  have hB0 := (Below.refl w.heap.size w).alloc (Nat.le_refl _) (.cells #[.string g.x.o, .int .i64 g.x.t, .int .i64 g.x.c, .int .i64 g.x.l, .string g.x.d, .bool g.hashed, .string g.nx, .string g.own, .string g.salt, .int .i64 g.rounds, .slice a n c] 45)
  have hx := heap_alloc_new w (.cells #[.string g.x.o, .int .i64 g.x.t, .int .i64 g.x.c, .int .i64 g.x.l, .string g.x.d, .bool g.hashed, .string g.nx, .string g.own, .string g.salt, .int .i64 g.rounds, .slice a n c] 45)
  obtain ⟨X, hX⟩ : ∃ X, w.heap.size = X := ⟨_, rfl⟩
  obtain ⟨W, hW⟩ : ∃ W, w.alloc (.cells #[.string g.x.o, .int .i64 g.x.t, .int .i64 g.x.c, .int .i64 g.x.l, .string g.x.d, .bool g.hashed, .string g.nx, .string g.own, .string g.salt, .int .i64 g.rounds, .slice a n c] 45) = W := ⟨_, rfl⟩
  rw [hW] at hB0 hx
  rw [hX] at hx
  obtain ⟨d0, d1, d2, d3, d4, d5, d6, d7, d8, d9, d10⟩ := cells11 hx
  have HX := Lib.hid hX; have HW := Lib.hid hW; have HB0 := Lib.hid hB0; have HXX := Lib.hid hx
  cases b2 with
  | false =>
    go_enter Tryz.func56, Tryz.ntmps56
    go_upto_region 1 with fail
    try rw [HW.out]
    try rw [HX.out]
    go_wp2_with fail
    refine (C2.out W HB0.out).mono ?_
    rintro e w1 ⟨rfl, hBz⟩
    have HBw1 := Lib.hid (HB0.out.trans (hBz.mono HB0.out.size))
    clear hBz
    go_wp2_with fail
    go_ret
    exact ⟨rfl, HBw1.out⟩
  | true =>
    go_enter Tryz.func56, Tryz.ntmps56
    go_upto_region 1 with fail
    try rw [HW.out]
    try rw [HX.out]
    go_wp2_with fail
    refine (C2.out W HB0.out).mono ?_
    rintro e w1 ⟨rfl, hBz⟩
    have HBw1 := Lib.hid (HB0.out.trans (hBz.mono HB0.out.size))
    have HXw1 := Lib.hid ((hBz.block X (Array.getElem?_eq_some_iff.1 HXX.out).1).trans HXX.out)
    clear d0 d1 d2 d3 d4 d5 d6 d7 d8 d9 d10 hBz
    obtain ⟨d0, d1, d2, d3, d4, d5, d6, d7, d8, d9, d10⟩ := cells11 HXw1.out
    cases b6 with
    | false =>
      go_wp2_with fail
      refine (C6.out w1 HBw1.out).mono ?_
      rintro e w2 ⟨rfl, hBz⟩
      have HBw2 := Lib.hid (HBw1.out.trans (hBz.mono HBw1.out.size))
      clear hBz
      go_wp2_with fail
      go_ret
      exact ⟨rfl, HBw2.out⟩
    | true =>
      go_wp2_with fail
      refine (C6.out w1 HBw1.out).mono ?_
      rintro e w2 ⟨rfl, hBz⟩
      have HBw2 := Lib.hid (HBw1.out.trans (hBz.mono HBw1.out.size))
      clear hBz
      go_wp2_with fail
      go_ret
      exact ⟨rfl, HBw2.out⟩
set_option maxRecDepth 100000 in
set_option maxHeartbeats 2000000 in
theorem away_any (g : Gp) (a : Option Addr) (n c : Nat) (w : World) (hn : g.ty.length = n) (hl : n ≤ 1048576) (hr : RdN w a g.ty) :
    Calls Tryz.prog 25 #[.agg (gapC g (.slice a n c))] w fun e w' => e = .returned (.bool (awayB g)) ∧ Below w.heap.size w w' := by
  have CS := Lib.hid (fun (t : Int) (wx : World) (hB : Below w.heap.size w wx) => says_any g a n c t wx hn hl (hr.below hB rfl))
  have CA := Lib.hid (fun (wx : World) (hB : Below w.heap.size w wx) => atcut_any g a n c wx hn hl (hr.below hB rfl))
  dsimp only [gapC] at CS CA ⊢
  obtain ⟨b2, h2⟩ : ∃ b, cutB g = b := ⟨_, rfl⟩
  obtain ⟨b6, h6⟩ : ∃ b, says g 39 = b := ⟨_, rfl⟩
  have C6 := Lib.hid (CS.out 39)
  rw [h2] at CA
  rw [h6] at C6
  unfold awayB
  rw [h2, h6]
  clear h2 h6 CS hr hn
  have hB0 := (Below.refl w.heap.size w).alloc (Nat.le_refl _) (.cells #[.string g.x.o, .int .i64 g.x.t, .int .i64 g.x.c, .int .i64 g.x.l, .string g.x.d, .bool g.hashed, .string g.nx, .string g.own, .string g.salt, .int .i64 g.rounds, .slice a n c] 45)
  have hx := heap_alloc_new w (.cells #[.string g.x.o, .int .i64 g.x.t, .int .i64 g.x.c, .int .i64 g.x.l, .string g.x.d, .bool g.hashed, .string g.nx, .string g.own, .string g.salt, .int .i64 g.rounds, .slice a n c] 45)
  obtain ⟨X, hX⟩ : ∃ X, w.heap.size = X := ⟨_, rfl⟩
  obtain ⟨W, hW⟩ : ∃ W, w.alloc (.cells #[.string g.x.o, .int .i64 g.x.t, .int .i64 g.x.c, .int .i64 g.x.l, .string g.x.d, .bool g.hashed, .string g.nx, .string g.own, .string g.salt, .int .i64 g.rounds, .slice a n c] 45) = W := ⟨_, rfl⟩
  rw [hW] at hB0 hx
  rw [hX] at hx
  obtain ⟨d0, d1, d2, d3, d4, d5, d6, d7, d8, d9, d10⟩ := cells11 hx
  have HX := Lib.hid hX; have HW := Lib.hid hW; have HB0 := Lib.hid hB0; have HXX := Lib.hid hx
  cases b2 with
  | true =>
    go_enter Tryz.func25, Tryz.ntmps25
    go_upto_region 1 with fail
    try rw [HW.out]
    try rw [HX.out]
    go_wp2_with fail
    refine (CA.out W HB0.out).mono ?_
    rintro e w1 ⟨rfl, hBz⟩
    have HBw1 := Lib.hid (HB0.out.trans (hBz.mono HB0.out.size))
    clear hBz
    go_wp2_with fail
    go_ret
    exact ⟨rfl, HBw1.out⟩
  | false =>
    go_enter Tryz.func25, Tryz.ntmps25
    go_upto_region 1 with fail
    try rw [HW.out]
    try rw [HX.out]
    go_wp2_with fail
    refine (CA.out W HB0.out).mono ?_
    rintro e w1 ⟨rfl, hBz⟩
    have HBw1 := Lib.hid (HB0.out.trans (hBz.mono HB0.out.size))
    have HXw1 := Lib.hid ((hBz.block X (Array.getElem?_eq_some_iff.1 HXX.out).1).trans HXX.out)
    clear d0 d1 d2 d3 d4 d5 d6 d7 d8 d9 d10 hBz
    obtain ⟨d0, d1, d2, d3, d4, d5, d6, d7, d8, d9, d10⟩ := cells11 HXw1.out
    cases b6 with
    | false =>
      go_wp2_with fail
      refine (C6.out w1 HBw1.out).mono ?_
      rintro e w2 ⟨rfl, hBz⟩
      have HBw2 := Lib.hid (HBw1.out.trans (hBz.mono HBw1.out.size))
      clear hBz
      go_wp2_with fail
      go_ret
      exact ⟨rfl, HBw2.out⟩
    | true =>
      go_wp2_with fail
      refine (C6.out w1 HBw1.out).mono ?_
      rintro e w2 ⟨rfl, hBz⟩
      have HBw2 := Lib.hid (HBw1.out.trans (hBz.mono HBw1.out.size))
      clear hBz
      go_wp2_with fail
      go_ret
      exact ⟨rfl, HBw2.out⟩
set_option maxRecDepth 100000 in
set_option maxHeartbeats 2000000 in
theorem lacks_any (g : Gp) (a : Option Addr) (n c : Nat) (t : Int) (w : World) (hn : g.ty.length = n) (hl : n ≤ 1048576) (hr : RdN w a g.ty) :
    Calls Tryz.prog 24 #[.agg (gapC g (.slice a n c)), .int .i64 t] w fun e w' => e = .returned (.bool (lacksB g t)) ∧ Below w.heap.size w w' := by
  have CS := Lib.hid (fun (t : Int) (wx : World) (hB : Below w.heap.size w wx) => says_any g a n c t wx hn hl (hr.below hB rfl))
  have CA := Lib.hid (fun (wx : World) (hB : Below w.heap.size w wx) => atcut_any g a n c wx hn hl (hr.below hB rfl))
  dsimp only [gapC] at CS CA ⊢
  obtain ⟨b2, h2⟩ : ∃ b, cutB g = b := ⟨_, rfl⟩
  obtain ⟨bt, ht⟩ : ∃ b, says g t = b := ⟨_, rfl⟩
  obtain ⟨b5, h5⟩ : ∃ b, says g 5 = b := ⟨_, rfl⟩
  have C5 := Lib.hid (CS.out 5); have C7 := Lib.hid (CS.out t)
  rw [h2] at CA
  rw [h5] at C5
  rw [ht] at C7
  obtain ⟨R, HR⟩ : ∃ R, Hid ((if b2 && t != 43 then false else if t = 255 then g.ty.isEmpty else !bt && !b5) = R) := ⟨_, Lib.hid rfl⟩
  have e : lacksB g t = R := by unfold lacksB; rw [h2, ht, h5]; exact HR.out
  rw [e]
  have HN := Lib.hid hn
  clear h2 ht h5 CS hr hn e
  have hB0 := (Below.refl w.heap.size w).alloc (Nat.le_refl _) (.cells #[.string g.x.o, .int .i64 g.x.t, .int .i64 g.x.c, .int .i64 g.x.l, .string g.x.d, .bool g.hashed, .string g.nx, .string g.own, .string g.salt, .int .i64 g.rounds, .slice a n c] 45)
  have hx := heap_alloc_new w (.cells #[.string g.x.o, .int .i64 g.x.t, .int .i64 g.x.c, .int .i64 g.x.l, .string g.x.d, .bool g.hashed, .string g.nx, .string g.own, .string g.salt, .int .i64 g.rounds, .slice a n c] 45)
  obtain ⟨X, hX⟩ : ∃ X, w.heap.size = X := ⟨_, rfl⟩
  obtain ⟨W, hW⟩ : ∃ W, w.alloc (.cells #[.string g.x.o, .int .i64 g.x.t, .int .i64 g.x.c, .int .i64 g.x.l, .string g.x.d, .bool g.hashed, .string g.nx, .string g.own, .string g.salt, .int .i64 g.rounds, .slice a n c] 45) = W := ⟨_, rfl⟩
  rw [hW] at hB0 hx
  rw [hX] at hx
  obtain ⟨d0, d1, d2, d3, d4, d5, d6, d7, d8, d9, d10⟩ := cells11 hx
  have HX := Lib.hid hX; have HW := Lib.hid hW; have HB0 := Lib.hid hB0; have HXX := Lib.hid hx
  by_cases h43 : t = 43
  · subst h43
    cases b2 with
    | true =>
      go_enter Tryz.func24, Tryz.ntmps24
      go_upto_region 1 with fail
      try rw [HW.out]
      try rw [HX.out]
      go_wp2_with fail
      refine (CA.out W HB0.out).mono ?_
      rintro e w1 ⟨rfl, hBz⟩
      have HBw1 := Lib.hid (HB0.out.trans (hBz.mono HB0.out.size))
      have HXw1 := Lib.hid ((hBz.block X (Array.getElem?_eq_some_iff.1 HXX.out).1).trans HXX.out)
      clear d0 d1 d2 d3 d4 d5 d6 d7 d8 d9 d10 hBz
      obtain ⟨d0, d1, d2, d3, d4, d5, d6, d7, d8, d9, d10⟩ := cells11 HXw1.out
      cases bt with
      | true =>
        go_wp2_with fail
        refine (C7.out w1 HBw1.out).mono ?_
        rintro e w2 ⟨rfl, hBz⟩
        have HBw2 := Lib.hid (HBw1.out.trans (hBz.mono HBw1.out.size))
        clear hBz
        go_wp2_with fail
        go_ret
        exact ⟨by rw [← HR.out]; simp [], HBw2.out⟩
      | false =>
        go_wp2_with fail
        refine (C7.out w1 HBw1.out).mono ?_
        rintro e w2 ⟨rfl, hBz⟩
        have HBw2 := Lib.hid (HBw1.out.trans (hBz.mono HBw1.out.size))
        have HXw2 := Lib.hid ((hBz.block X (Array.getElem?_eq_some_iff.1 HXw1.out).1).trans HXw1.out)
        clear d0 d1 d2 d3 d4 d5 d6 d7 d8 d9 d10 hBz
        obtain ⟨d0, d1, d2, d3, d4, d5, d6, d7, d8, d9, d10⟩ := cells11 HXw2.out
        cases b5 with
        | true =>
          go_wp2_with fail
          refine (C5.out w2 HBw2.out).mono ?_
          rintro e w3 ⟨rfl, hBz⟩
          have HBw3 := Lib.hid (HBw2.out.trans (hBz.mono HBw2.out.size))
          clear hBz
          go_wp2_with fail
          go_ret
          exact ⟨by rw [← HR.out]; simp [], HBw3.out⟩
        | false =>
          go_wp2_with fail
          refine (C5.out w2 HBw2.out).mono ?_
          rintro e w3 ⟨rfl, hBz⟩
          have HBw3 := Lib.hid (HBw2.out.trans (hBz.mono HBw2.out.size))
          clear hBz
          go_wp2_with fail
          go_ret
          exact ⟨by rw [← HR.out]; simp [], HBw3.out⟩
    | false =>
      go_enter Tryz.func24, Tryz.ntmps24
      go_upto_region 1 with fail
      try rw [HW.out]
      try rw [HX.out]
      go_wp2_with fail
      refine (CA.out W HB0.out).mono ?_
      rintro e w1 ⟨rfl, hBz⟩
      have HBw1 := Lib.hid (HB0.out.trans (hBz.mono HB0.out.size))
      have HXw1 := Lib.hid ((hBz.block X (Array.getElem?_eq_some_iff.1 HXX.out).1).trans HXX.out)
      clear d0 d1 d2 d3 d4 d5 d6 d7 d8 d9 d10 hBz
      obtain ⟨d0, d1, d2, d3, d4, d5, d6, d7, d8, d9, d10⟩ := cells11 HXw1.out
      cases bt with
      | true =>
        go_wp2_with fail
        refine (C7.out w1 HBw1.out).mono ?_
        rintro e w2 ⟨rfl, hBz⟩
        have HBw2 := Lib.hid (HBw1.out.trans (hBz.mono HBw1.out.size))
        clear hBz
        go_wp2_with fail
        go_ret
        exact ⟨by rw [← HR.out]; simp [], HBw2.out⟩
      | false =>
        go_wp2_with fail
        refine (C7.out w1 HBw1.out).mono ?_
        rintro e w2 ⟨rfl, hBz⟩
        have HBw2 := Lib.hid (HBw1.out.trans (hBz.mono HBw1.out.size))
        have HXw2 := Lib.hid ((hBz.block X (Array.getElem?_eq_some_iff.1 HXw1.out).1).trans HXw1.out)
        clear d0 d1 d2 d3 d4 d5 d6 d7 d8 d9 d10 hBz
        obtain ⟨d0, d1, d2, d3, d4, d5, d6, d7, d8, d9, d10⟩ := cells11 HXw2.out
        cases b5 with
        | true =>
          go_wp2_with fail
          refine (C5.out w2 HBw2.out).mono ?_
          rintro e w3 ⟨rfl, hBz⟩
          have HBw3 := Lib.hid (HBw2.out.trans (hBz.mono HBw2.out.size))
          clear hBz
          go_wp2_with fail
          go_ret
          exact ⟨by rw [← HR.out]; simp [], HBw3.out⟩
        | false =>
          go_wp2_with fail
          refine (C5.out w2 HBw2.out).mono ?_
          rintro e w3 ⟨rfl, hBz⟩
          have HBw3 := Lib.hid (HBw2.out.trans (hBz.mono HBw2.out.size))
          clear hBz
          go_wp2_with fail
          go_ret
          exact ⟨by rw [← HR.out]; simp [], HBw3.out⟩
  · have n43 : (t != 43) = true := by rw [bne_iff_ne]; exact h43
    cases b2 with
    | true =>
      go_enter Tryz.func24, Tryz.ntmps24
      go_upto_region 1 with fail
      try rw [HW.out]
      try rw [HX.out]
      go_wp2_with fail
      refine (CA.out W HB0.out).mono ?_
      rintro e w1 ⟨rfl, hBz⟩
      have HBw1 := Lib.hid (HB0.out.trans (hBz.mono HB0.out.size))
      have HXw1 := Lib.hid ((hBz.block X (Array.getElem?_eq_some_iff.1 HXX.out).1).trans HXX.out)
      clear d0 d1 d2 d3 d4 d5 d6 d7 d8 d9 d10 hBz
      obtain ⟨d0, d1, d2, d3, d4, d5, d6, d7, d8, d9, d10⟩ := cells11 HXw1.out
      go_wp2_with fail
      go_ret
      exact ⟨by rw [← HR.out]; simp [h43], HBw1.out⟩
    | false =>
      by_cases h255 : t = 255
      · subst h255
        go_enter Tryz.func24, Tryz.ntmps24
        go_upto_region 1 with fail
        try rw [HW.out]
        try rw [HX.out]
        go_wp2_with fail
        refine (CA.out W HB0.out).mono ?_
        rintro e w1 ⟨rfl, hBz⟩
        have HBw1 := Lib.hid (HB0.out.trans (hBz.mono HB0.out.size))
        have HXw1 := Lib.hid ((hBz.block X (Array.getElem?_eq_some_iff.1 HXX.out).1).trans HXX.out)
        clear d0 d1 d2 d3 d4 d5 d6 d7 d8 d9 d10 hBz
        obtain ⟨d0, d1, d2, d3, d4, d5, d6, d7, d8, d9, d10⟩ := cells11 HXw1.out
        rcases Nat.eq_zero_or_pos n with h0 | h0
        · have hi : ((n : Int) == 0) = true := by rw [beq_iff_eq]; omega
          have hem : g.ty.isEmpty = true := by rw [List.isEmpty_iff]; exact List.eq_nil_of_length_eq_zero (by rw [HN.out]; exact h0)
          have HF : Hid (R = true) := Lib.hid (by rw [← HR.out, hem]; rfl)
          clear hem
          subst h0
          go_wp2_with fail
          go_ret
          exact ⟨by rw [HF.out]; rfl, HBw1.out⟩
        · have hi : ((n : Int) == 0) = false := by rw [beq_eq_false_iff_ne]; omega
          have hem : g.ty.isEmpty = false := by
            cases hq : g.ty with
            | nil => have := HN.out; rw [hq] at this; simp at this; omega
            | cons _ _ => rfl
          have HF : Hid (R = false) := Lib.hid (by rw [← HR.out, hem]; rfl)
          clear hem
          go_wp2_with fail
          go_ret
          exact ⟨by rw [HF.out]; rfl, HBw1.out⟩
      · have n255 : (t == 255) = false := by rw [beq_eq_false_iff_ne]; exact h255
        go_enter Tryz.func24, Tryz.ntmps24
        go_upto_region 1 with fail
        try rw [HW.out]
        try rw [HX.out]
        go_wp2_with fail
        refine (CA.out W HB0.out).mono ?_
        rintro e w1 ⟨rfl, hBz⟩
        have HBw1 := Lib.hid (HB0.out.trans (hBz.mono HB0.out.size))
        have HXw1 := Lib.hid ((hBz.block X (Array.getElem?_eq_some_iff.1 HXX.out).1).trans HXX.out)
        clear d0 d1 d2 d3 d4 d5 d6 d7 d8 d9 d10 hBz
        obtain ⟨d0, d1, d2, d3, d4, d5, d6, d7, d8, d9, d10⟩ := cells11 HXw1.out
        cases bt with
        | true =>
          go_wp2_with fail
          refine (C7.out w1 HBw1.out).mono ?_
          rintro e w2 ⟨rfl, hBz⟩
          have HBw2 := Lib.hid (HBw1.out.trans (hBz.mono HBw1.out.size))
          clear hBz
          go_wp2_with fail
          go_ret
          exact ⟨by rw [← HR.out]; simp [h255], HBw2.out⟩
        | false =>
          go_wp2_with fail
          refine (C7.out w1 HBw1.out).mono ?_
          rintro e w2 ⟨rfl, hBz⟩
          have HBw2 := Lib.hid (HBw1.out.trans (hBz.mono HBw1.out.size))
          have HXw2 := Lib.hid ((hBz.block X (Array.getElem?_eq_some_iff.1 HXw1.out).1).trans HXw1.out)
          clear d0 d1 d2 d3 d4 d5 d6 d7 d8 d9 d10 hBz
          obtain ⟨d0, d1, d2, d3, d4, d5, d6, d7, d8, d9, d10⟩ := cells11 HXw2.out
          cases b5 with
          | true =>
            go_wp2_with fail
            refine (C5.out w2 HBw2.out).mono ?_
            rintro e w3 ⟨rfl, hBz⟩
            have HBw3 := Lib.hid (HBw2.out.trans (hBz.mono HBw2.out.size))
            clear hBz
            go_wp2_with fail
            go_ret
            exact ⟨by rw [← HR.out]; simp [h255], HBw3.out⟩
          | false =>
            go_wp2_with fail
            refine (C5.out w2 HBw2.out).mono ?_
            rintro e w3 ⟨rfl, hBz⟩
            have HBw3 := Lib.hid (HBw2.out.trans (hBz.mono HBw2.out.size))
            clear hBz
            go_wp2_with fail
            go_ret
            exact ⟨by rw [← HR.out]; simp [h255], HBw3.out⟩
end Go.Proofs.YtanoiiodnddkfaaGreat.gapB
namespace Go.Proofs.YtanoiiodnddkfaaGreat.gapC
open Go.RowKit Go.Proofs.YtanoiiodnddkfaaGreat.kit Go.Proofs.YtanoiiodnddkfaaGreat.nspec Go.Proofs.YtanoiiodnddkfaaGreat.refA Go.Proofs.YtanoiiodnddkfaaGreat.refB Go.Proofs.YtanoiiodnddkfaaGreat.fld Go.Proofs.YtanoiiodnddkfaaGreat.wireP Go.Proofs.YtanoiiodnddkfaaGreat.gapP Go.Proofs.YtanoiiodnddkfaaGreat.bits Go.Proofs.YtanoiiodnddkfaaGreat.ints Go.Proofs.YtanoiiodnddkfaaGreat.gapA Go.Proofs.YtanoiiodnddkfaaGreat.gapB
set_option linter.unusedVariables false

/-- what is known of a proof that may be used -/
structure OkG (g : Gp) : Prop where
  o : g.x.o.size ≤ 1048576
  nx : g.nx.size ≤ 1048576
  own : g.hashed = true → g.own.size = 10
  salt : g.salt.size ≤ 1048576
theorem str_eqB {a b : ByteArray} : (a.toList == b.toList) = decide (a.data.toList = b.data.toList) := by
  rw [Lib.toList_data, Lib.toList_data, Bool.eq_iff_iff, beq_iff_eq, decide_eq_true_eq]
theorem less_lt (a b : Bs) : Op.bytesLess a b = ltB a b := by
  unfold ltB
  rcases rcmp.cmp_cases a b with ⟨h1, h2⟩ | ⟨h1, h2, h3⟩ | ⟨h1, h2, h3⟩
  · rw [h2, decide_eq_true (by omega)]
  · first | rw [h2, decide_eq_true (by omega)] | rw [h2, decide_eq_false (by omega)]
  · first | rw [h2, decide_eq_true (by omega)] | rw [h2, decide_eq_false (by omega)]
theorem less_at (a b : ByteArray) : Op.bytesLess a.toList b.toList = ltB a.data.toList b.data.toList := by rw [Lib.toList_data, Lib.toList_data]; exact less_lt _ _
theorem hash_bad {n s : Bs} {r : Int} (h : (hash.hashS n s r).2 ≠ 0) : (hash.hashS n s r).1 = [] := by
  unfold hash.hashS at h ⊢
  split
  · rfl
  · rename_i h1
    rw [if_neg h1] at h
    split
    · rfl
    · rename_i h2
      rw [if_neg h2] at h
      exact absurd rfl h
set_option maxRecDepth 100000 in
set_option maxHeartbeats 2000000 in
theorem matches_any (g : Gp) (a : Option Addr) (n c : Nat) (N : ByteArray) (w : World) (hk : OkG g) (hN : N.size ≤ 1048576) :
    Calls Tryz.prog 23 #[.agg (gapC g (.slice a n c)), .string N] w fun e w' => e = .returned (.bool (matchB g N.data.toList)) ∧ Below w.heap.size w w' := by
  have CE := Lib.hid (fun (wx : World) (hB : Below w.heap.size w wx) => refA.equal_any g.x.o N wx (by have := hk.o; omega) (by omega))
  have CH := Lib.hid (fun (wx : World) (hB : Below w.heap.size w wx) => hash.rhash_any N g.salt g.rounds wx (by omega) (by have := hk.salt; omega))
  dsimp only [gapC]
  have hB0 := (Below.refl w.heap.size w).alloc (Nat.le_refl _) (.cells #[.string g.x.o, .int .i64 g.x.t, .int .i64 g.x.c, .int .i64 g.x.l, .string g.x.d, .bool g.hashed, .string g.nx, .string g.own, .string g.salt, .int .i64 g.rounds, .slice a n c] 45)
  have hx := heap_alloc_new w (.cells #[.string g.x.o, .int .i64 g.x.t, .int .i64 g.x.c, .int .i64 g.x.l, .string g.x.d, .bool g.hashed, .string g.nx, .string g.own, .string g.salt, .int .i64 g.rounds, .slice a n c] 45)
  obtain ⟨X, hX⟩ : ∃ X, w.heap.size = X := ⟨_, rfl⟩
  obtain ⟨W, hW⟩ : ∃ W, w.alloc (.cells #[.string g.x.o, .int .i64 g.x.t, .int .i64 g.x.c, .int .i64 g.x.l, .string g.x.d, .bool g.hashed, .string g.nx, .string g.own, .string g.salt, .int .i64 g.rounds, .slice a n c] 45) = W := ⟨_, rfl⟩
  rw [hW] at hB0 hx
  rw [hX] at hx
  obtain ⟨d0, d1, d2, d3, d4, d5, d6, d7, d8, d9, d10⟩ := cells11 hx
  have HX := Lib.hid hX; have HW := Lib.hid hW; have HB0 := Lib.hid hB0; have HXX := Lib.hid hx
  rcases Bool.eq_false_or_eq_true g.hashed with hh | hh
  rotate_left
  · skip
    rw [hh] at d5
    have HR : Hid (matchB g N.data.toList = equalS g.x.o.data.toList N.data.toList) := Lib.hid (by unfold matchB; rw [hh]; rfl)
    rw [HR.out]
    clear hh CH
    go_enter Tryz.func23, Tryz.ntmps23
    go_upto_region 1 with fail
    try rw [HW.out]
    try rw [HX.out]
    go_wp2_with fail
    refine (CE.out W HB0.out).mono ?_
    rintro e w1 ⟨rfl, hBz⟩
    have HBw1 := Lib.hid (HB0.out.trans (hBz.mono HB0.out.size))
    clear hBz
    go_wp2_with fail
    go_ret
    first | exact ⟨rfl, HBw1.out⟩ | exact ⟨rfl, HX.out ▸ HBw1.out⟩
  · skip
    rw [hh] at d5
    have hown := hk.own hh
    have HR : Hid (matchB g N.data.toList = decide ((hash.hashS N.data.toList g.salt.data.toList g.rounds).1 = g.own.data.toList)) := Lib.hid (by unfold matchB; rw [hh]; rfl)
    rw [HR.out]
    obtain ⟨r, hr⟩ : ∃ r, hash.hashS N.data.toList g.salt.data.toList g.rounds = r := ⟨_, rfl⟩
    have hbad : r.2 ≠ 0 → r.1 = [] := by rw [← hr]; exact hash_bad
    rw [hr] at CH ⊢
    obtain ⟨r1, r2⟩ := r
    unfold hash.Ret2 at CH
    dsimp only at CH hbad ⊢
    obtain ⟨H, hH⟩ : ∃ H : ByteArray, (⟨r1.toArray⟩ : ByteArray) = H := ⟨_, rfl⟩
    rw [hH] at CH
    have hHd : r1 = H.data.toList := by rw [← hH]
    clear hr hh CE hH HR
    by_cases h0 : r2 = 0
    · subst h0
      have hq := @str_eqB H g.own
      rw [← hHd] at hq
      cases hd : decide (r1 = g.own.data.toList) with
      | false =>
        rw [hd] at hq
        clear hd hHd hbad hown
        go_enter Tryz.func23, Tryz.ntmps23
        go_upto_region 1 with fail
        try rw [HW.out]
        try rw [HX.out]
        go_wp2_with fail
        refine (CH.out W HB0.out).mono ?_
        rintro e w1 ⟨rfl, hBz⟩
        have HBw1 := Lib.hid (HB0.out.trans (hBz.mono HB0.out.size))
        have HXw1 := Lib.hid ((hBz.block X (Array.getElem?_eq_some_iff.1 HXX.out).1).trans HXX.out)
        clear d0 d1 d2 d3 d4 d5 d6 d7 d8 d9 d10 hBz
        obtain ⟨d0, d1, d2, d3, d4, d5, d6, d7, d8, d9, d10⟩ := cells11 HXw1.out
        go_wp2_with fail
        go_ret
        first | exact ⟨rfl, HBw1.out⟩ | exact ⟨rfl, HX.out ▸ HBw1.out⟩
      | true =>
        rw [hd] at hq
        clear hd hHd hbad hown
        go_enter Tryz.func23, Tryz.ntmps23
        go_upto_region 1 with fail
        try rw [HW.out]
        try rw [HX.out]
        go_wp2_with fail
        refine (CH.out W HB0.out).mono ?_
        rintro e w1 ⟨rfl, hBz⟩
        have HBw1 := Lib.hid (HB0.out.trans (hBz.mono HB0.out.size))
        have HXw1 := Lib.hid ((hBz.block X (Array.getElem?_eq_some_iff.1 HXX.out).1).trans HXX.out)
        clear d0 d1 d2 d3 d4 d5 d6 d7 d8 d9 d10 hBz
        obtain ⟨d0, d1, d2, d3, d4, d5, d6, d7, d8, d9, d10⟩ := cells11 HXw1.out
        go_wp2_with fail
        go_ret
        first | exact ⟨rfl, HBw1.out⟩ | exact ⟨rfl, HX.out ▸ HBw1.out⟩
    · have e0 : (r2 == 0) = false := by rw [beq_eq_false_iff_ne]; exact h0
      have hf : decide (r1 = g.own.data.toList) = false := by
        rw [decide_eq_false_iff_not, hbad h0]
        intro h
        have := congrArg List.length h
        rw [size_len, hown] at this
        simp at this
      rw [hf]
      clear hf hHd hbad hown h0
      go_enter Tryz.func23, Tryz.ntmps23
      go_upto_region 1 with fail
      try rw [HW.out]
      try rw [HX.out]
      go_wp2_with fail
      refine (CH.out W HB0.out).mono ?_
      rintro e w1 ⟨rfl, hBz⟩
      have HBw1 := Lib.hid (HB0.out.trans (hBz.mono HB0.out.size))
      have HXw1 := Lib.hid ((hBz.block X (Array.getElem?_eq_some_iff.1 HXX.out).1).trans HXX.out)
      clear d0 d1 d2 d3 d4 d5 d6 d7 d8 d9 d10 hBz
      obtain ⟨d0, d1, d2, d3, d4, d5, d6, d7, d8, d9, d10⟩ := cells11 HXw1.out
      go_wp2_with fail
      go_ret
      first | exact ⟨rfl, HBw1.out⟩ | exact ⟨rfl, HX.out ▸ HBw1.out⟩
set_option maxRecDepth 100000 in
set_option maxHeartbeats 2000000 in
theorem spans_any (g : Gp) (a : Option Addr) (n c : Nat) (N : ByteArray) (w : World) (hk : OkG g) (hN : N.size ≤ 1048576) (hs : g.hashed = true → (hash.hashS N.data.toList g.salt.data.toList g.rounds).2 = 0) :
    Calls Tryz.prog 33 #[.agg (gapC g (.slice a n c)), .string N] w fun e w' => e = .returned (.bool (spanB g N.data.toList)) ∧ Below w.heap.size w w' := by
  have CV := Lib.hid (fun (wx : World) (hB : Below w.heap.size w wx) => cov.covers_any g.x.o g.nx N wx hk.o hk.nx hN)
  have CH := Lib.hid (fun (wx : World) (hB : Below w.heap.size w wx) => hash.rhash_any N g.salt g.rounds wx (by omega) (by have := hk.salt; omega))
  dsimp only [gapC]
  have hB0 := (Below.refl w.heap.size w).alloc (Nat.le_refl _) (.cells #[.string g.x.o, .int .i64 g.x.t, .int .i64 g.x.c, .int .i64 g.x.l, .string g.x.d, .bool g.hashed, .string g.nx, .string g.own, .string g.salt, .int .i64 g.rounds, .slice a n c] 45)
  have hx := heap_alloc_new w (.cells #[.string g.x.o, .int .i64 g.x.t, .int .i64 g.x.c, .int .i64 g.x.l, .string g.x.d, .bool g.hashed, .string g.nx, .string g.own, .string g.salt, .int .i64 g.rounds, .slice a n c] 45)
  obtain ⟨X, hX⟩ : ∃ X, w.heap.size = X := ⟨_, rfl⟩
  obtain ⟨W, hW⟩ : ∃ W, w.alloc (.cells #[.string g.x.o, .int .i64 g.x.t, .int .i64 g.x.c, .int .i64 g.x.l, .string g.x.d, .bool g.hashed, .string g.nx, .string g.own, .string g.salt, .int .i64 g.rounds, .slice a n c] 45) = W := ⟨_, rfl⟩
  rw [hW] at hB0 hx
  rw [hX] at hx
  obtain ⟨d0, d1, d2, d3, d4, d5, d6, d7, d8, d9, d10⟩ := cells11 hx
  have HX := Lib.hid hX; have HW := Lib.hid hW; have HB0 := Lib.hid hB0; have HXX := Lib.hid hx
  rcases Bool.eq_false_or_eq_true g.hashed with hh | hh
  rotate_left
  · skip
    rw [hh] at d5
    have HR : Hid (spanB g N.data.toList = cov.covS g.x.o.data.toList g.nx.data.toList N.data.toList) := Lib.hid (by unfold spanB; rw [hh]; rfl)
    rw [HR.out]
    clear hh CH hs
    go_enter Tryz.func33, Tryz.ntmps33
    go_upto_region 1 with fail
    try rw [HW.out]
    try rw [HX.out]
    go_wp2_with fail
    refine (CV.out W HB0.out).mono ?_
    rintro e w1 ⟨rfl, hBz⟩
    have HBw1 := Lib.hid (HB0.out.trans (hBz.mono HB0.out.size))
    clear hBz
    go_wp2_with fail
    go_ret
    first | exact ⟨rfl, HBw1.out⟩ | exact ⟨rfl, HX.out ▸ HBw1.out⟩
  · skip
    rw [hh] at d5
    have hs0 := hs hh
    have HR : Hid (spanB g N.data.toList = betB g.own.data.toList g.nx.data.toList (hash.hashS N.data.toList g.salt.data.toList g.rounds).1) := Lib.hid (by unfold spanB; rw [hh]; rfl)
    rw [HR.out]
    obtain ⟨r, hr⟩ : ∃ r, hash.hashS N.data.toList g.salt.data.toList g.rounds = r := ⟨_, rfl⟩
    rw [hr] at CH hs0 ⊢
    obtain ⟨r1, r2⟩ := r
    unfold hash.Ret2 at CH
    dsimp only at CH hs0 ⊢
    subst hs0
    obtain ⟨H, hH⟩ : ∃ H : ByteArray, (⟨r1.toArray⟩ : ByteArray) = H := ⟨_, rfl⟩
    rw [hH] at CH
    obtain rfl : r1 = H.data.toList := by rw [← hH]
    have l1 := less_at g.own g.nx
    have l2 := less_at g.own H
    have l3 := less_at H g.nx
    unfold betB
    clear hr hh CV hH HR hs
    cases e1 : ltB g.own.data.toList g.nx.data.toList <;> cases e2 : ltB g.own.data.toList H.data.toList <;> cases e3 : ltB H.data.toList g.nx.data.toList <;> rw [e1] at l1 <;> rw [e2] at l2 <;> rw [e3] at l3 <;> clear e1 e2 e3
    all_goals
      go_enter Tryz.func33, Tryz.ntmps33
      go_upto_region 1 with fail
      try rw [HW.out]
      try rw [HX.out]
      go_wp2_with fail
      refine (CH.out W HB0.out).mono ?_
      rintro e w1 ⟨rfl, hBz⟩
      have HBw1 := Lib.hid (HB0.out.trans (hBz.mono HB0.out.size))
      have HXw1 := Lib.hid ((hBz.block X (Array.getElem?_eq_some_iff.1 HXX.out).1).trans HXX.out)
      clear d0 d1 d2 d3 d4 d5 d6 d7 d8 d9 d10 hBz
      obtain ⟨d0, d1, d2, d3, d4, d5, d6, d7, d8, d9, d10⟩ := cells11 HXw1.out
      go_wp2_with fail
      go_ret
      first | exact ⟨rfl, HBw1.out⟩ | exact ⟨rfl, HX.out ▸ HBw1.out⟩
set_option maxRecDepth 100000 in
set_option maxHeartbeats 2000000 in
theorem denies_any (g : Gp) (a : Option Addr) (n c : Nat) (N : ByteArray) (w : World) (hk : OkG g) (hN : N.size ≤ 1048576) (hh : g.hashed = false) (hn : g.ty.length = n) (hl : n ≤ 1048576) (hr : RdN w a g.ty) :
    Calls Tryz.prog 18 #[.agg (gapC g (.slice a n c)), .string N] w fun e w' => e = .returned (.bool (denyB g N.data.toList)) ∧ Below w.heap.size w w' := by
  have CS := Lib.hid (fun (wx : World) (hB : Below w.heap.size w wx) => spans_any g a n c N wx hk hN (fun h => by rw [hh] at h; cases h))
  have CA := Lib.hid (fun (wx : World) (hB : Below w.heap.size w wx) => away_any g a n c wx hn hl (hr.below hB rfl))
  have CW := Lib.hid (fun (wx : World) (hB : Below w.heap.size w wx) => within_any N g.x.o wx (by omega) (by have := hk.o; omega))
  dsimp only [gapC] at CS CA ⊢
  unfold denyB
  obtain ⟨b1, h1⟩ : ∃ b, spanB g N.data.toList = b := ⟨_, rfl⟩
  obtain ⟨b2, h2⟩ : ∃ b, awayB g = b := ⟨_, rfl⟩
  obtain ⟨b3, h3⟩ : ∃ b, withinS N.data.toList g.x.o.data.toList = b := ⟨_, rfl⟩
  rw [h1] at CS ⊢
  rw [h2] at CA ⊢
  rw [h3] at CW ⊢
  clear h1 h2 h3 hr hh
  have hB0 := (Below.refl w.heap.size w).alloc (Nat.le_refl _) (.cells #[.string g.x.o, .int .i64 g.x.t, .int .i64 g.x.c, .int .i64 g.x.l, .string g.x.d, .bool g.hashed, .string g.nx, .string g.own, .string g.salt, .int .i64 g.rounds, .slice a n c] 45)
  have hx := heap_alloc_new w (.cells #[.string g.x.o, .int .i64 g.x.t, .int .i64 g.x.c, .int .i64 g.x.l, .string g.x.d, .bool g.hashed, .string g.nx, .string g.own, .string g.salt, .int .i64 g.rounds, .slice a n c] 45)
  obtain ⟨X, hX⟩ : ∃ X, w.heap.size = X := ⟨_, rfl⟩
  obtain ⟨W, hW⟩ : ∃ W, w.alloc (.cells #[.string g.x.o, .int .i64 g.x.t, .int .i64 g.x.c, .int .i64 g.x.l, .string g.x.d, .bool g.hashed, .string g.nx, .string g.own, .string g.salt, .int .i64 g.rounds, .slice a n c] 45) = W := ⟨_, rfl⟩
  rw [hW] at hB0 hx
  rw [hX] at hx
  obtain ⟨d0, d1, d2, d3, d4, d5, d6, d7, d8, d9, d10⟩ := cells11 hx
  have HX := Lib.hid hX; have HW := Lib.hid hW; have HB0 := Lib.hid hB0; have HXX := Lib.hid hx
  cases b1 with
  | false =>
    go_enter Tryz.func18, Tryz.ntmps18
    go_upto_region 1 with fail
    try rw [HW.out]
    try rw [HX.out]
    go_wp2_with fail
    refine (CS.out W HB0.out).mono ?_
    rintro e w1 ⟨rfl, hBz⟩
    have HBw1 := Lib.hid (HB0.out.trans (hBz.mono HB0.out.size))
    clear hBz
    go_wp2_with fail
    go_ret
    first | exact ⟨rfl, HBw1.out⟩ | exact ⟨rfl, HX.out ▸ HBw1.out⟩
  | true =>
    cases b2 with
    | false =>
      go_enter Tryz.func18, Tryz.ntmps18
      go_upto_region 1 with fail
      try rw [HW.out]
      try rw [HX.out]
      go_wp2_with fail
      refine (CS.out W HB0.out).mono ?_
      rintro e w1 ⟨rfl, hBz⟩
      have HBw1 := Lib.hid (HB0.out.trans (hBz.mono HB0.out.size))
      have HXw1 := Lib.hid ((hBz.block X (Array.getElem?_eq_some_iff.1 HXX.out).1).trans HXX.out)
      clear d0 d1 d2 d3 d4 d5 d6 d7 d8 d9 d10 hBz
      obtain ⟨d0, d1, d2, d3, d4, d5, d6, d7, d8, d9, d10⟩ := cells11 HXw1.out
      go_wp2_with fail
      refine (CA.out w1 HBw1.out).mono ?_
      rintro e w2 ⟨rfl, hBz⟩
      have HBw2 := Lib.hid (HBw1.out.trans (hBz.mono HBw1.out.size))
      clear hBz
      go_wp2_with fail
      go_ret
      first | exact ⟨rfl, HBw2.out⟩ | exact ⟨rfl, HX.out ▸ HBw2.out⟩
    | true =>
      cases b3 with
      | false =>
        go_enter Tryz.func18, Tryz.ntmps18
        go_upto_region 1 with fail
        try rw [HW.out]
        try rw [HX.out]
        go_wp2_with fail
        refine (CS.out W HB0.out).mono ?_
        rintro e w1 ⟨rfl, hBz⟩
        have HBw1 := Lib.hid (HB0.out.trans (hBz.mono HB0.out.size))
        have HXw1 := Lib.hid ((hBz.block X (Array.getElem?_eq_some_iff.1 HXX.out).1).trans HXX.out)
        clear d0 d1 d2 d3 d4 d5 d6 d7 d8 d9 d10 hBz
        obtain ⟨d0, d1, d2, d3, d4, d5, d6, d7, d8, d9, d10⟩ := cells11 HXw1.out
        go_wp2_with fail
        refine (CA.out w1 HBw1.out).mono ?_
        rintro e w2 ⟨rfl, hBz⟩
        have HBw2 := Lib.hid (HBw1.out.trans (hBz.mono HBw1.out.size))
        have HXw2 := Lib.hid ((hBz.block X (Array.getElem?_eq_some_iff.1 HXw1.out).1).trans HXw1.out)
        clear d0 d1 d2 d3 d4 d5 d6 d7 d8 d9 d10 hBz
        obtain ⟨d0, d1, d2, d3, d4, d5, d6, d7, d8, d9, d10⟩ := cells11 HXw2.out
        go_wp2_with fail
        refine (CW.out w2 HBw2.out).mono ?_
        rintro e w3 ⟨rfl, hBz⟩
        have HBw3 := Lib.hid (HBw2.out.trans (hBz.mono HBw2.out.size))
        clear hBz
        go_wp2_with fail
        go_ret
        first | exact ⟨rfl, HBw3.out⟩ | exact ⟨rfl, HX.out ▸ HBw3.out⟩
      | true =>
        go_enter Tryz.func18, Tryz.ntmps18
        go_upto_region 1 with fail
        try rw [HW.out]
        try rw [HX.out]
        go_wp2_with fail
        refine (CS.out W HB0.out).mono ?_
        rintro e w1 ⟨rfl, hBz⟩
        have HBw1 := Lib.hid (HB0.out.trans (hBz.mono HB0.out.size))
        have HXw1 := Lib.hid ((hBz.block X (Array.getElem?_eq_some_iff.1 HXX.out).1).trans HXX.out)
        clear d0 d1 d2 d3 d4 d5 d6 d7 d8 d9 d10 hBz
        obtain ⟨d0, d1, d2, d3, d4, d5, d6, d7, d8, d9, d10⟩ := cells11 HXw1.out
        go_wp2_with fail
        refine (CA.out w1 HBw1.out).mono ?_
        rintro e w2 ⟨rfl, hBz⟩
        have HBw2 := Lib.hid (HBw1.out.trans (hBz.mono HBw1.out.size))
        have HXw2 := Lib.hid ((hBz.block X (Array.getElem?_eq_some_iff.1 HXw1.out).1).trans HXw1.out)
        clear d0 d1 d2 d3 d4 d5 d6 d7 d8 d9 d10 hBz
        obtain ⟨d0, d1, d2, d3, d4, d5, d6, d7, d8, d9, d10⟩ := cells11 HXw2.out
        go_wp2_with fail
        refine (CW.out w2 HBw2.out).mono ?_
        rintro e w3 ⟨rfl, hBz⟩
        have HBw3 := Lib.hid (HBw2.out.trans (hBz.mono HBw2.out.size))
        clear hBz
        go_wp2_with fail
        go_ret
        first | exact ⟨rfl, HBw3.out⟩ | exact ⟨rfl, HX.out ▸ HBw3.out⟩
end Go.Proofs.YtanoiiodnddkfaaGreat.gapC

/- gazetteerref1.CheckData: walk. Messages in plain words: records, questions, which are right. wire.right, gazetteerref2.Right: walks (printed by gen_right.py). Lists of timed keys, and of keys of a plan, in memory; both are held against their like. Messages in memory. gazetteerref2.Zonal: walk. -/
import Derived.Test.YtjejmgdpjfdhjaaGreatDoorP14
import Derived.Test.YtjejmgdpjfdhjaaGreatDoorP10
import Derived.Test.YtjejmgdpjfdhjaaGreatDoorP13
import Derived.Test.YtjejmgdpjfdhjaaGreatDoorP8
import Derived.Test.YtjejmgdpjfdhjaaGreatDoorK1
import Derived.BigQuiet
import Derived.Deep.QuietTactic
namespace Go.Proofs.YtjejmgdpjfdhjaaGreatDoor.checkData
open Go.RowKit Go.Proofs.YtjejmgdpjfdhjaaGreatDoor.kit Go.Proofs.YtjejmgdpjfdhjaaGreatDoor.nspec Go.Proofs.YtjejmgdpjfdhjaaGreatDoor.fld Go.Proofs.YtjejmgdpjfdhjaaGreatDoor.takes Go.Proofs.YtjejmgdpjfdhjaaGreatDoor.splitD Go.Proofs.YtjejmgdpjfdhjaaGreatDoor.rsize Go.Proofs.YtjejmgdpjfdhjaaGreatDoor.rform Go.Proofs.YtjejmgdpjfdhjaaGreatDoor.parts
set_option linter.unusedVariables false

theorem fair4_of {fs gs : List Fld} (h : some gs = some fs) (hl : gs.length ≤ 20) (hk : gs.all (fun f => match f with | .num k => decide (k = 1 ∨ k = 2 ∨ k = 4) | _ => true) = true) : Fair4 fs := by
  have e := Option.some.inj h
  subst e
  refine ⟨hl, fun k hm => ?_⟩
  have := List.all_eq_true.1 hk _ hm
  simpa using this
theorem form_fair4 {t : Int} {fs : List Fld} (h : formS t = some fs) : Fair4 fs := by
  by_cases h1 : t = 1
  · subst h1; exact fair4_of h (by decide) (by decide)
  by_cases h2 : t = 2
  · subst h2; exact fair4_of h (by decide) (by decide)
  by_cases h5 : t = 5
  · subst h5; exact fair4_of h (by decide) (by decide)
  by_cases h12 : t = 12
  · subst h12; exact fair4_of h (by decide) (by decide)
  by_cases h39 : t = 39
  · subst h39; exact fair4_of h (by decide) (by decide)
  by_cases h6 : t = 6
  · subst h6; exact fair4_of h (by decide) (by decide)
  by_cases h13 : t = 13
  · subst h13; exact fair4_of h (by decide) (by decide)
  by_cases h15 : t = 15
  · subst h15; exact fair4_of h (by decide) (by decide)
  by_cases h16 : t = 16
  · subst h16; exact fair4_of h (by decide) (by decide)
  by_cases h28 : t = 28
  · subst h28; exact fair4_of h (by decide) (by decide)
  by_cases h33 : t = 33
  · subst h33; exact fair4_of h (by decide) (by decide)
  by_cases h35 : t = 35
  · subst h35; exact fair4_of h (by decide) (by decide)
  by_cases h43 : t = 43
  · subst h43; exact fair4_of h (by decide) (by decide)
  by_cases h46 : t = 46
  · subst h46; exact fair4_of h (by decide) (by decide)
  by_cases h47 : t = 47
  · subst h47; exact fair4_of h (by decide) (by decide)
  by_cases h48 : t = 48
  · subst h48; exact fair4_of h (by decide) (by decide)
  by_cases h50 : t = 50
  · subst h50; exact fair4_of h (by decide) (by decide)
  by_cases h51 : t = 51
  · subst h51; exact fair4_of h (by decide) (by decide)
  by_cases h257 : t = 257
  · subst h257; exact fair4_of h (by decide) (by decide)
  simp [formS, h1, h2, h5, h12, h39, h6, h13, h15, h16, h28, h33, h35, h43, h46, h47, h48, h50, h51, h257] at h
theorem form_holds {t : Int} {fs : List Fld} (h : formS t = some fs) : holdsB t = true := by
  by_cases h1 : t = 1
  · subst h1; decide
  by_cases h2 : t = 2
  · subst h2; decide
  by_cases h5 : t = 5
  · subst h5; decide
  by_cases h12 : t = 12
  · subst h12; decide
  by_cases h39 : t = 39
  · subst h39; decide
  by_cases h6 : t = 6
  · subst h6; decide
  by_cases h13 : t = 13
  · subst h13; decide
  by_cases h15 : t = 15
  · subst h15; decide
  by_cases h16 : t = 16
  · subst h16; decide
  by_cases h28 : t = 28
  · subst h28; decide
  by_cases h33 : t = 33
  · subst h33; decide
  by_cases h35 : t = 35
  · subst h35; decide
  by_cases h43 : t = 43
  · subst h43; decide
  by_cases h46 : t = 46
  · subst h46; decide
  by_cases h47 : t = 47
  · subst h47; decide
  by_cases h48 : t = 48
  · subst h48; decide
  by_cases h50 : t = 50
  · subst h50; decide
  by_cases h51 : t = 51
  · subst h51; decide
  by_cases h257 : t = 257
  · subst h257; decide
  simp [formS, h1, h2, h5, h12, h39, h6, h13, h15, h16, h28, h33, h35, h43, h46, h47, h48, h50, h51, h257] at h
theorem form_cons {t : Int} {fs : List Fld} (h : formS t = some fs) : lettersB fs ≠ [] ∧ lettersB fs ≠ [45] := by
  by_cases h1 : t = 1
  · subst h1; have e := Option.some.inj h; subst e; exact ⟨by decide, by decide⟩
  by_cases h2 : t = 2
  · subst h2; have e := Option.some.inj h; subst e; exact ⟨by decide, by decide⟩
  by_cases h5 : t = 5
  · subst h5; have e := Option.some.inj h; subst e; exact ⟨by decide, by decide⟩
  by_cases h12 : t = 12
  · subst h12; have e := Option.some.inj h; subst e; exact ⟨by decide, by decide⟩
  by_cases h39 : t = 39
  · subst h39; have e := Option.some.inj h; subst e; exact ⟨by decide, by decide⟩
  by_cases h6 : t = 6
  · subst h6; have e := Option.some.inj h; subst e; exact ⟨by decide, by decide⟩
  by_cases h13 : t = 13
  · subst h13; have e := Option.some.inj h; subst e; exact ⟨by decide, by decide⟩
  by_cases h15 : t = 15
  · subst h15; have e := Option.some.inj h; subst e; exact ⟨by decide, by decide⟩
  by_cases h16 : t = 16
  · subst h16; have e := Option.some.inj h; subst e; exact ⟨by decide, by decide⟩
  by_cases h28 : t = 28
  · subst h28; have e := Option.some.inj h; subst e; exact ⟨by decide, by decide⟩
  by_cases h33 : t = 33
  · subst h33; have e := Option.some.inj h; subst e; exact ⟨by decide, by decide⟩
  by_cases h35 : t = 35
  · subst h35; have e := Option.some.inj h; subst e; exact ⟨by decide, by decide⟩
  by_cases h43 : t = 43
  · subst h43; have e := Option.some.inj h; subst e; exact ⟨by decide, by decide⟩
  by_cases h46 : t = 46
  · subst h46; have e := Option.some.inj h; subst e; exact ⟨by decide, by decide⟩
  by_cases h47 : t = 47
  · subst h47; have e := Option.some.inj h; subst e; exact ⟨by decide, by decide⟩
  by_cases h48 : t = 48
  · subst h48; have e := Option.some.inj h; subst e; exact ⟨by decide, by decide⟩
  by_cases h50 : t = 50
  · subst h50; have e := Option.some.inj h; subst e; exact ⟨by decide, by decide⟩
  by_cases h51 : t = 51
  · subst h51; have e := Option.some.inj h; subst e; exact ⟨by decide, by decide⟩
  by_cases h257 : t = 257
  · subst h257; have e := Option.some.inj h; subst e; exact ⟨by decide, by decide⟩
  simp [formS, h1, h2, h5, h12, h39, h6, h13, h15, h16, h28, h33, h35, h43, h46, h47, h48, h50, h51, h257] at h

theorem notEmpty {F : ByteArray} (h : F.data.toList ≠ []) : F.toList.isEmpty = false := by
  rw [Lib.toList_data]
  cases hl : F.data.toList with
  | nil => exact absurd hl h
  | cons => rfl
theorem not45 {F : ByteArray} (h : F.data.toList ≠ [45]) : (F.toList == [45]) = false := by rw [Lib.toList_data]; simpa using h

set_option maxRecDepth 100000 in
set_option maxHeartbeats 2000000 in
theorem rdcheck_any (t : Int) (s : ByteArray) (w : World) (hs : s.size ≤ maxLen) :
    Calls Tryz.prog 17 #[.int .i64 t, .string s] w fun e w' => e = .returned (.int .i64 (checkS t s.data.toList)) ∧ Below w.heap.size w w' := by
  obtain ⟨R, HR⟩ : ∃ R, Hid (checkS t s.data.toList = R) := ⟨_, Lib.hid rfl⟩
  rw [HR.out]
  have CF := Lib.hid (fun w => rform_any t w)
  unfold FormIs at CF
  obtain ⟨F, hF⟩ : ∃ F : ByteArray, (⟨(formB t).toArray⟩ : ByteArray) = F := ⟨_, rfl⟩
  have hFd : F.data.toList = formB t := by rw [← hF]
  rw [hF] at CF
  cases hf : formS t with
  | none =>
    have hP : partsS t s.data.toList = some [] := by unfold partsS; rw [hf]
    obtain ⟨b, hb⟩ : ∃ b, holdsB t = b := ⟨_, rfl⟩
    cases b with
    | false =>
      have HN : Hid (6 = R) := Lib.hid (by rw [← HR.out, checkS, if_pos hb])
      have he : F.toList = [] := by rw [Lib.toList_data, hFd]; unfold formB; rw [hf, hb]; rfl
      clear hF hFd hf hP hb
      go_enter Tryz.func17, Tryz.ntmps17
      go_wp2_with fail
      refine (CF.out _).mono ?_
      rintro e w1 ⟨rfl, rfl⟩
      go_wp2_with fail
      go_ret
      exact ⟨by rw [← HN.out]; rfl, Below.refl _ _⟩
    | true =>
      have hl45 : F.data.toList = [45] := by rw [hFd]; unfold formB; rw [hf, hb]; rfl
      have he : F.toList.isEmpty = false := notEmpty (by rw [hl45]; simp)
      have h45 : (F.toList == [45]) = true := by rw [Lib.toList_data, hl45]; rfl
      by_cases hl : 65535 < s.size
      · have HN : Hid (7 = R) := Lib.hid (by rw [← HR.out, checkS, if_neg (by rw [hb]; simp), if_pos (by rw [size_len]; exact hl)])
        have hli : (65535 : Int) < (s.size : Int) := by omega
        clear hF hFd hf hP hb hl hl45
        go_enter Tryz.func17, Tryz.ntmps17
        go_wp2_with fail
        refine (CF.out _).mono ?_
        rintro e w1 ⟨rfl, rfl⟩
        go_wp2_with fail
        go_ret
        exact ⟨by rw [← HN.out]; rfl, Below.refl _ _⟩
      · have HN : Hid (0 = R) := Lib.hid (by rw [← HR.out, checkS, if_neg (by rw [hb]; simp), if_neg (by rw [size_len]; exact hl), hP]; rfl)
        have hli : (s.size : Int) ≤ 65535 := by omega
        clear hF hFd hf hP hb hl hl45
        go_enter Tryz.func17, Tryz.ntmps17
        go_wp2_with fail
        refine (CF.out _).mono ?_
        rintro e w1 ⟨rfl, rfl⟩
        go_wp2_with fail
        go_ret
        exact ⟨by rw [← HN.out]; rfl, Below.refl _ _⟩
  | some fs =>
    have hb := form_holds hf
    obtain ⟨c1, c2⟩ := form_cons hf
    have hFl : F.data.toList = lettersB fs := by rw [hFd]; unfold formB; rw [hf]
    have he : F.toList.isEmpty = false := notEmpty (by rw [hFl]; exact c1)
    have h45 : (F.toList == [45]) = false := not45 (by rw [hFl]; exact c2)
    by_cases hl : 65535 < s.size
    · have HN : Hid (7 = R) := Lib.hid (by rw [← HR.out, checkS, if_neg (by rw [hb]; simp), if_pos (by rw [size_len]; exact hl)])
      have hli : (65535 : Int) < (s.size : Int) := by omega
      clear hF hFd hf hb hl hFl c1 c2
      go_enter Tryz.func17, Tryz.ntmps17
      go_wp2_with fail
      refine (CF.out _).mono ?_
      rintro e w1 ⟨rfl, rfl⟩
      go_wp2_with fail
      go_ret
      exact ⟨by rw [← HN.out]; rfl, Below.refl _ _⟩
    · have HC : Hid (R = if partsS t s.data.toList = none then 7 else 0) := Lib.hid (by rw [← HR.out, checkS, if_neg (by rw [hb]; simp), if_neg (by rw [size_len]; exact hl)])
      have hli : (s.size : Int) ≤ 65535 := by omega
      have hls : s.size ≤ 65535 := by omega
      have HP : Hid (partsS t s.data.toList = match splitS fs s.data.toList with | some (p, []) => some p | _ => none) := Lib.hid (by unfold partsS; rw [hf]; rfl)
      have CP := Lib.hid (fun w => parts_any fs F s w hFl (form_fair4 hf) hls fs.length rfl)
      clear hF hFd hf hb hl hFl c1 c2
      go_enter Tryz.func17, Tryz.ntmps17
      go_wp2_with fail
      refine (CF.out _).mono ?_
      rintro e w1 ⟨rfl, rfl⟩
      go_wp2_with fail
      refine (CP.out _).mono ?_
      rintro e w2 ⟨hB2, ⟨v, p, r, hsp, rfl, hown⟩ | ⟨hsp, rfl⟩⟩
      · have HB := Lib.hid hB2
        have HQ : Hid (R = if r.isEmpty then 0 else 7) := Lib.hid (by rw [HC.out, HP.out, hsp]; cases r <;> simp)
        clear hB2 hsp hown
        cases r with
        | nil =>
          have HN : Hid (R = 0) := Lib.hid HQ.out
          simp only [List.isEmpty_nil]
          go_wp2_with fail
          go_ret
          exact ⟨by rw [HN.out]; rfl, HB.out⟩
        | cons x r =>
          have HN : Hid (R = 7) := Lib.hid HQ.out
          simp only [List.isEmpty_cons]
          go_wp2_with fail
          go_ret
          exact ⟨by rw [HN.out]; rfl, HB.out⟩
      · have HB := Lib.hid hB2
        have HN : Hid (R = 7) := Lib.hid (by rw [HC.out, HP.out, hsp]; rfl)
        clear hB2 hsp
        go_wp2_with fail
        go_ret
        exact ⟨by rw [HN.out]; rfl, HB.out⟩
end Go.Proofs.YtjejmgdpjfdhjaaGreatDoor.checkData
namespace Go.Proofs.YtjejmgdpjfdhjaaGreatDoor.wireP
open Go.RowKit Go.Proofs.YtjejmgdpjfdhjaaGreatDoor.kit Go.Proofs.YtjejmgdpjfdhjaaGreatDoor.takes Go.Proofs.YtjejmgdpjfdhjaaGreatDoor.nspec Go.Proofs.YtjejmgdpjfdhjaaGreatDoor.rsplit Go.Proofs.YtjejmgdpjfdhjaaGreatDoor.check Go.Proofs.YtjejmgdpjfdhjaaGreatDoor.fld
set_option linter.unusedVariables false

/-- a record -/
structure Rc where
  o : ByteArray
  t : Int
  c : Int
  l : Int
  d : ByteArray
def Rc.cells (x : Rc) : List Value := [.string x.o, .int .i64 x.t, .int .i64 x.c, .int .i64 x.l, .string x.d]
/-- a question -/
structure Qn where
  n : ByteArray
  t : Int
  c : Int
def Qn.cells (x : Qn) : List Value := [.string x.n, .int .i64 x.t, .int .i64 x.c]
def inB (v top : Int) : Bool := decide (0 ≤ v) && decide (v ≤ top)
def emptyB (x : Rc) : Bool := decide (x.d.size = 0) && (decide (x.c = 254) || decide (x.c = 255))
def rightB (x : Rc) : Bool :=
  isB x.o && (inB x.t 65535 && (inB x.c 65535 && (inB x.l 4294967295 && (if x.t = 41 then decide (x.d.size ≤ 65535) else (emptyB x || decide (checkS x.t x.d.data.toList = 0))))))
def rightQ (x : Qn) : Bool := isB x.n && (inB x.t 65535 && inB x.c 65535)
theorem inB_yes {v top : Int} (h0 : 0 ≤ v) (h1 : v ≤ top) : inB v top = true := by simp [inB, h0, h1]
theorem inB_low {v top : Int} (h0 : v < 0) : inB v top = false := by simp [inB]; intro h; omega
theorem inB_high {v top : Int} (h0 : top < v) : inB v top = false := by simp [inB]; intro h; omega

end Go.Proofs.YtjejmgdpjfdhjaaGreatDoor.wireP
namespace Go.Proofs.YtjejmgdpjfdhjaaGreatDoor.wireR
open Go.RowKit Go.Proofs.YtjejmgdpjfdhjaaGreatDoor.kit Go.Proofs.YtjejmgdpjfdhjaaGreatDoor.takes Go.Proofs.YtjejmgdpjfdhjaaGreatDoor.nspec Go.Proofs.YtjejmgdpjfdhjaaGreatDoor.rsplit Go.Proofs.YtjejmgdpjfdhjaaGreatDoor.check Go.Proofs.YtjejmgdpjfdhjaaGreatDoor.checkAll Go.Proofs.YtjejmgdpjfdhjaaGreatDoor.dcheck Go.Proofs.YtjejmgdpjfdhjaaGreatDoor.checkData Go.Proofs.YtjejmgdpjfdhjaaGreatDoor.fld Go.Proofs.YtjejmgdpjfdhjaaGreatDoor.wireP
set_option linter.unusedVariables false

/-- the record's box behind a call -/
theorem box_cells {w w1 : World} {x : Rc} {t : TypeId} (hB : Below (w.alloc (.cells #[.string x.o, .int .i64 x.t, .int .i64 x.c, .int .i64 x.l, .string x.d] t)).heap.size (w.alloc (.cells #[.string x.o, .int .i64 x.t, .int .i64 x.c, .int .i64 x.l, .string x.d] t)) w1) :
    w1.cell? ⟨w.heap.size, 0, none⟩ = some (.string x.o) ∧ w1.cell? ⟨w.heap.size, 1, none⟩ = some (.int .i64 x.t) ∧ w1.cell? ⟨w.heap.size, 2, none⟩ = some (.int .i64 x.c) ∧ w1.cell? ⟨w.heap.size, 3, none⟩ = some (.int .i64 x.l) ∧ w1.cell? ⟨w.heap.size, 4, none⟩ = some (.string x.d) := by
  have hl : w.heap.size < (w.alloc (.cells #[.string x.o, .int .i64 x.t, .int .i64 x.c, .int .i64 x.l, .string x.d] t)).heap.size := by simp
  have hb : (w.alloc (.cells #[.string x.o, .int .i64 x.t, .int .i64 x.c, .int .i64 x.l, .string x.d] t)).heap[w.heap.size]? = some (.cells #[.string x.o, .int .i64 x.t, .int .i64 x.c, .int .i64 x.l, .string x.d] t (0, 0)) := heap_alloc_new _ _
  refine ⟨(hB.cell (p := ⟨w.heap.size, 0, none⟩) hl).trans ?_, (hB.cell (p := ⟨w.heap.size, 1, none⟩) hl).trans ?_, (hB.cell (p := ⟨w.heap.size, 2, none⟩) hl).trans ?_, (hB.cell (p := ⟨w.heap.size, 3, none⟩) hl).trans ?_, (hB.cell (p := ⟨w.heap.size, 4, none⟩) hl).trans ?_⟩ <;> (simp only [World.cell?, hb]; rfl)

end Go.Proofs.YtjejmgdpjfdhjaaGreatDoor.wireR
namespace Go.Proofs.YtjejmgdpjfdhjaaGreatDoor.timed
open Go.RowKit Go.Proofs.YtjejmgdpjfdhjaaGreatDoor.kit
set_option linter.unusedVariables false

theorem bel_drewN {B : Nat} {a w : World} (h : Below B a w) (q : Nat) : Below B a (w.drewN q) := ⟨h.os, h.tape, h.output, h.size, h.block⟩
/-- a key with its times -/
structure Tm where
  f : Int
  m : Int
  e : Int
  s : Int
  p : Int
  a : Int
  r : Int
  v : Int
deriving DecidableEq
def Tm.cells (x : Tm) : List Value := [.int .i64 x.f, .int .i64 x.m, .int .i64 x.e, .int .i64 x.s, .int .i64 x.p, .int .i64 x.a, .int .i64 x.r, .int .i64 x.v]
/-- a key of a plan -/
structure Pk where
  f : Int
  m : Int
  e : Int
  s : Int
  on : Bool
deriving DecidableEq
def Pk.cells (x : Pk) : List Value := [.int .i64 x.f, .int .i64 x.m, .int .i64 x.e, .int .i64 x.s, .bool x.on]

/-- rows of so many cells can be read from address a on -/
def RdC (w : World) (a : Option Addr) (n : Nat) (ls : List (List Value)) : Prop :=
  ∀ (j : Nat) (x : List Value), ls[j]? = some x → x.length = n ∧ ∃ g o, a = some ⟨g, o, none⟩ ∧ g < w.heap.size ∧ ∀ i u, x[i]? = some u → w.cell? ⟨g, o + j * n + i, none⟩ = some u
theorem RdC.below {w w' : World} {a : Option Addr} {n B : Nat} {ls : List (List Value)} (h : RdC w a n ls) (hB : Below B w w') (hz : B = w.heap.size) : RdC w' a n ls := by
  intro j x hx
  obtain ⟨h0, g, o, h1, h3, h4⟩ := h j x hx
  exact ⟨h0, g, o, h1, Nat.lt_of_lt_of_le h3 hB.size, fun i u hu => (hB.cell (p := ⟨g, o + j * n + i, none⟩) (by rw [hz]; exact h3)).trans (h4 i u hu)⟩
theorem RdC.nil (w : World) (a : Option Addr) (n : Nat) : RdC w a n [] := by intro j x h; simp at h

def AtT (w : World) (g o : Nat) (x : Tm) : Prop :=
  w.cell? ⟨g, o, none⟩ = some (.int .i64 x.f) ∧ w.cell? ⟨g, o + 1, none⟩ = some (.int .i64 x.m) ∧ w.cell? ⟨g, o + 2, none⟩ = some (.int .i64 x.e) ∧ w.cell? ⟨g, o + 3, none⟩ = some (.int .i64 x.s) ∧
  w.cell? ⟨g, o + 4, none⟩ = some (.int .i64 x.p) ∧ w.cell? ⟨g, o + 5, none⟩ = some (.int .i64 x.a) ∧ w.cell? ⟨g, o + 6, none⟩ = some (.int .i64 x.r) ∧ w.cell? ⟨g, o + 7, none⟩ = some (.int .i64 x.v)
theorem RdC.at_t {w : World} {a : Option Addr} {L : List Tm} (h : RdC w a 8 (L.map Tm.cells)) {j : Nat} {x : Tm} (hj : L[j]? = some x) : ∃ g o, a = some ⟨g, o, none⟩ ∧ g < w.heap.size ∧ AtT w g (o + j * 8) x := by
  obtain ⟨_, g, o, h1, h2, h3⟩ := h j x.cells (by rw [List.getElem?_map, hj]; rfl)
  exact ⟨g, o, h1, h2, h3 0 _ rfl, h3 1 _ rfl, h3 2 _ rfl, h3 3 _ rfl, h3 4 _ rfl, h3 5 _ rfl, h3 6 _ rfl, h3 7 _ rfl⟩
theorem AtT.below {w w' : World} {g o B : Nat} {x : Tm} (h : AtT w g o x) (hB : Below B w w') (hg : g < B) : AtT w' g o x := by
  obtain ⟨h0, h1, h2, h3, h4, h5, h6, h7⟩ := h
  exact ⟨(hB.cell (p := ⟨g, _, none⟩) hg).trans h0, (hB.cell (p := ⟨g, _, none⟩) hg).trans h1, (hB.cell (p := ⟨g, _, none⟩) hg).trans h2, (hB.cell (p := ⟨g, _, none⟩) hg).trans h3, (hB.cell (p := ⟨g, _, none⟩) hg).trans h4, (hB.cell (p := ⟨g, _, none⟩) hg).trans h5, (hB.cell (p := ⟨g, _, none⟩) hg).trans h6, (hB.cell (p := ⟨g, _, none⟩) hg).trans h7⟩
def AtK (w : World) (g o : Nat) (x : Pk) : Prop :=
  w.cell? ⟨g, o, none⟩ = some (.int .i64 x.f) ∧ w.cell? ⟨g, o + 1, none⟩ = some (.int .i64 x.m) ∧ w.cell? ⟨g, o + 2, none⟩ = some (.int .i64 x.e) ∧ w.cell? ⟨g, o + 3, none⟩ = some (.int .i64 x.s) ∧ w.cell? ⟨g, o + 4, none⟩ = some (.bool x.on)
theorem RdC.at_k {w : World} {a : Option Addr} {L : List Pk} (h : RdC w a 5 (L.map Pk.cells)) {j : Nat} {x : Pk} (hj : L[j]? = some x) : ∃ g o, a = some ⟨g, o, none⟩ ∧ g < w.heap.size ∧ AtK w g (o + j * 5) x := by
  obtain ⟨_, g, o, h1, h2, h3⟩ := h j x.cells (by rw [List.getElem?_map, hj]; rfl)
  exact ⟨g, o, h1, h2, h3 0 _ rfl, h3 1 _ rfl, h3 2 _ rfl, h3 3 _ rfl, h3 4 _ rfl⟩
theorem AtK.below {w w' : World} {g o B : Nat} {x : Pk} (h : AtK w g o x) (hB : Below B w w') (hg : g < B) : AtK w' g o x := by
  obtain ⟨h0, h1, h2, h3, h4⟩ := h
  exact ⟨(hB.cell (p := ⟨g, _, none⟩) hg).trans h0, (hB.cell (p := ⟨g, _, none⟩) hg).trans h1, (hB.cell (p := ⟨g, _, none⟩) hg).trans h2, (hB.cell (p := ⟨g, _, none⟩) hg).trans h3, (hB.cell (p := ⟨g, _, none⟩) hg).trans h4⟩

end Go.Proofs.YtjejmgdpjfdhjaaGreatDoor.timed
namespace Go.Proofs.YtjejmgdpjfdhjaaGreatDoor.wireM
open Go.RowKit Go.Proofs.YtjejmgdpjfdhjaaGreatDoor.kit Go.Proofs.YtjejmgdpjfdhjaaGreatDoor.timed Go.Proofs.YtjejmgdpjfdhjaaGreatDoor.nspec Go.Proofs.YtjejmgdpjfdhjaaGreatDoor.rsplit Go.Proofs.YtjejmgdpjfdhjaaGreatDoor.check Go.Proofs.YtjejmgdpjfdhjaaGreatDoor.fld Go.Proofs.YtjejmgdpjfdhjaaGreatDoor.wireP
set_option linter.unusedVariables false

/-- a message -/
structure Mg where
  id : Int
  rs : Bool
  op : Int
  aa : Bool
  tc : Bool
  rd : Bool
  ra : Bool
  ad : Bool
  cd : Bool
  rc : Int
  qs : List Qn
  an : List Rc
  au : List Rc
  ar : List Rc
/-- where a message's lists lie -/
structure Pl where
  qa : Option Addr
  qc : Nat
  na : Option Addr
  nc : Nat
  ua : Option Addr
  uc : Nat
  ra : Option Addr
  rc : Nat
/-- the lists can be read there -/
structure RdM (w : World) (p : Pl) (m : Mg) : Prop where
  q : RdC w p.qa 3 (m.qs.map Qn.cells)
  n : RdC w p.na 5 (m.an.map Rc.cells)
  u : RdC w p.ua 5 (m.au.map Rc.cells)
  r : RdC w p.ra 5 (m.ar.map Rc.cells)
theorem RdM.below {w w' : World} {p : Pl} {m : Mg} {B : Nat} (h : RdM w p m) (hB : Below B w w') (hz : B = w.heap.size) : RdM w' p m :=
  ⟨h.q.below hB hz, h.n.below hB hz, h.u.below hB hz, h.r.below hB hz⟩
/-- where a list is none, it is empty -/
structure NilM (p : Pl) (m : Mg) : Prop where
  n : p.na = none → m.an.length = 0 ∧ p.nc = 0
  u : p.ua = none → m.au.length = 0 ∧ p.uc = 0
  r : p.ra = none → m.ar.length = 0 ∧ p.rc = 0
/-- sizes that the walks can bear -/
structure OkR (x : Rc) : Prop where
  o : x.o.size ≤ 1099511627776
  d : x.d.size ≤ 1099511627776
structure OkM (m : Mg) : Prop where
  q : ∀ x ∈ m.qs, x.n.size ≤ 1099511627776
  n : ∀ x ∈ m.an, OkR x
  u : ∀ x ∈ m.au, OkR x
  r : ∀ x ∈ m.ar, OkR x
  ql : m.qs.length ≤ 1099511627776
  nl : m.an.length ≤ 1099511627776
  ul : m.au.length ≤ 1099511627776
  rl : m.ar.length ≤ 1099511627776
/-- sizes as they come: what the program itself can bear -/
structure OkW (m : Mg) : Prop where
  n : ∀ x ∈ m.an, x.d.size ≤ maxLen
  u : ∀ x ∈ m.au, x.d.size ≤ maxLen
  r : ∀ x ∈ m.ar, x.d.size ≤ maxLen
  ql : m.qs.length ≤ maxLen
  nl : m.an.length ≤ maxLen
  ul : m.au.length ≤ maxLen
  rl : m.ar.length ≤ maxLen
theorem OkM.w {m : Mg} (h : OkM m) : OkW m :=
  ⟨fun x hx => Nat.le_trans (h.n x hx).d (by unfold maxLen; omega), fun x hx => Nat.le_trans (h.u x hx).d (by unfold maxLen; omega), fun x hx => Nat.le_trans (h.r x hx).d (by unfold maxLen; omega), Nat.le_trans h.ql (by unfold maxLen; omega), Nat.le_trans h.nl (by unfold maxLen; omega), Nat.le_trans h.ul (by unfold maxLen; omega), Nat.le_trans h.rl (by unfold maxLen; omega)⟩
def checkB (m : Mg) : Bool :=
  inB m.id 65535 && (inB m.op 15 && (inB m.rc 15 && (decide (m.qs.length ≤ 65535 ∧ m.an.length ≤ 65535 ∧ m.au.length ≤ 65535 ∧ m.ar.length ≤ 65535) && (m.qs.all rightQ && (m.an.all rightB && (m.au.all rightB && m.ar.all rightB))))))

def AtR (w : World) (g o : Nat) (x : Rc) : Prop :=
  w.cell? ⟨g, o, none⟩ = some (.string x.o) ∧ w.cell? ⟨g, o + 1, none⟩ = some (.int .i64 x.t) ∧ w.cell? ⟨g, o + 2, none⟩ = some (.int .i64 x.c) ∧ w.cell? ⟨g, o + 3, none⟩ = some (.int .i64 x.l) ∧ w.cell? ⟨g, o + 4, none⟩ = some (.string x.d)
theorem at_r {w : World} {a : Option Addr} {L : List Rc} (h : RdC w a 5 (L.map Rc.cells)) {j : Nat} {x : Rc} (hj : L[j]? = some x) : ∃ g o, a = some ⟨g, o, none⟩ ∧ g < w.heap.size ∧ AtR w g (o + j * 5) x := by
  obtain ⟨_, g, o, h1, h2, h3⟩ := h j x.cells (by rw [List.getElem?_map, hj]; rfl)
  exact ⟨g, o, h1, h2, h3 0 _ rfl, h3 1 _ rfl, h3 2 _ rfl, h3 3 _ rfl, h3 4 _ rfl⟩
theorem AtR.below {w w' : World} {g o B : Nat} {x : Rc} (h : AtR w g o x) (hB : Below B w w') (hg : g < B) : AtR w' g o x := by
  obtain ⟨h0, h1, h2, h3, h4⟩ := h
  exact ⟨(hB.cell (p := ⟨g, _, none⟩) hg).trans h0, (hB.cell (p := ⟨g, _, none⟩) hg).trans h1, (hB.cell (p := ⟨g, _, none⟩) hg).trans h2, (hB.cell (p := ⟨g, _, none⟩) hg).trans h3, (hB.cell (p := ⟨g, _, none⟩) hg).trans h4⟩
def AtQ (w : World) (g o : Nat) (x : Qn) : Prop :=
  w.cell? ⟨g, o, none⟩ = some (.string x.n) ∧ w.cell? ⟨g, o + 1, none⟩ = some (.int .i64 x.t) ∧ w.cell? ⟨g, o + 2, none⟩ = some (.int .i64 x.c)
theorem at_q {w : World} {a : Option Addr} {L : List Qn} (h : RdC w a 3 (L.map Qn.cells)) {j : Nat} {x : Qn} (hj : L[j]? = some x) : ∃ g o, a = some ⟨g, o, none⟩ ∧ g < w.heap.size ∧ AtQ w g (o + j * 3) x := by
  obtain ⟨_, g, o, h1, h2, h3⟩ := h j x.cells (by rw [List.getElem?_map, hj]; rfl)
  exact ⟨g, o, h1, h2, h3 0 _ rfl, h3 1 _ rfl, h3 2 _ rfl⟩
theorem AtQ.below {w w' : World} {g o B : Nat} {x : Qn} (h : AtQ w g o x) (hB : Below B w w') (hg : g < B) : AtQ w' g o x := by
  obtain ⟨h0, h1, h2⟩ := h
  exact ⟨(hB.cell (p := ⟨g, _, none⟩) hg).trans h0, (hB.cell (p := ⟨g, _, none⟩) hg).trans h1, (hB.cell (p := ⟨g, _, none⟩) hg).trans h2⟩

/-- a message's fourteen cells -/
structure BoxM (w : World) (B : Nat) (p : Pl) (m : Mg) : Prop where
  lt : B < w.heap.size
  c0 : w.cell? ⟨B, 0, none⟩ = some (.int .i64 m.id)
  c1 : w.cell? ⟨B, 1, none⟩ = some (.bool m.rs)
  c2 : w.cell? ⟨B, 2, none⟩ = some (.int .i64 m.op)
  c3 : w.cell? ⟨B, 3, none⟩ = some (.bool m.aa)
  c4 : w.cell? ⟨B, 4, none⟩ = some (.bool m.tc)
  c5 : w.cell? ⟨B, 5, none⟩ = some (.bool m.rd)
  c6 : w.cell? ⟨B, 6, none⟩ = some (.bool m.ra)
  c7 : w.cell? ⟨B, 7, none⟩ = some (.bool m.ad)
  c8 : w.cell? ⟨B, 8, none⟩ = some (.bool m.cd)
  c9 : w.cell? ⟨B, 9, none⟩ = some (.int .i64 m.rc)
  c10 : w.cell? ⟨B, 10, none⟩ = some (.slice p.qa m.qs.length p.qc)
  c11 : w.cell? ⟨B, 11, none⟩ = some (.slice p.na m.an.length p.nc)
  c12 : w.cell? ⟨B, 12, none⟩ = some (.slice p.ua m.au.length p.uc)
  c13 : w.cell? ⟨B, 13, none⟩ = some (.slice p.ra m.ar.length p.rc)
theorem BoxM.below {w w' : World} {B N : Nat} {p : Pl} {m : Mg} (h : BoxM w B p m) (hB : Below N w w') (hl : B < N) : BoxM w' B p m :=
  ⟨Nat.lt_of_lt_of_le h.lt hB.size, (hB.cell (p := ⟨B, 0, none⟩) hl).trans h.c0, (hB.cell (p := ⟨B, 1, none⟩) hl).trans h.c1, (hB.cell (p := ⟨B, 2, none⟩) hl).trans h.c2, (hB.cell (p := ⟨B, 3, none⟩) hl).trans h.c3, (hB.cell (p := ⟨B, 4, none⟩) hl).trans h.c4, (hB.cell (p := ⟨B, 5, none⟩) hl).trans h.c5, (hB.cell (p := ⟨B, 6, none⟩) hl).trans h.c6, (hB.cell (p := ⟨B, 7, none⟩) hl).trans h.c7, (hB.cell (p := ⟨B, 8, none⟩) hl).trans h.c8, (hB.cell (p := ⟨B, 9, none⟩) hl).trans h.c9, (hB.cell (p := ⟨B, 10, none⟩) hl).trans h.c10, (hB.cell (p := ⟨B, 11, none⟩) hl).trans h.c11, (hB.cell (p := ⟨B, 12, none⟩) hl).trans h.c12, (hB.cell (p := ⟨B, 13, none⟩) hl).trans h.c13⟩
def cellsM (p : Pl) (m : Mg) : Array Value := #[.int .i64 m.id, .bool m.rs, .int .i64 m.op, .bool m.aa, .bool m.tc, .bool m.rd, .bool m.ra, .bool m.ad, .bool m.cd, .int .i64 m.rc, .slice p.qa m.qs.length p.qc, .slice p.na m.an.length p.nc, .slice p.ua m.au.length p.uc, .slice p.ra m.ar.length p.rc]
theorem BoxM.fresh (w : World) (t : TypeId) (b : Nat) (hb : b = w.heap.size) (p : Pl) (m : Mg) : BoxM (w.alloc (.cells #[.int .i64 m.id, .bool m.rs, .int .i64 m.op, .bool m.aa, .bool m.tc, .bool m.rd, .bool m.ra, .bool m.ad, .bool m.cd, .int .i64 m.rc, .slice p.qa m.qs.length p.qc, .slice p.na m.an.length p.nc, .slice p.ua m.au.length p.uc, .slice p.ra m.ar.length p.rc] t)) b p m := by
  subst hb
  have hb : (w.alloc (.cells #[.int .i64 m.id, .bool m.rs, .int .i64 m.op, .bool m.aa, .bool m.tc, .bool m.rd, .bool m.ra, .bool m.ad, .bool m.cd, .int .i64 m.rc, .slice p.qa m.qs.length p.qc, .slice p.na m.an.length p.nc, .slice p.ua m.au.length p.uc, .slice p.ra m.ar.length p.rc] t)).heap[w.heap.size]? = some (.cells #[.int .i64 m.id, .bool m.rs, .int .i64 m.op, .bool m.aa, .bool m.tc, .bool m.rd, .bool m.ra, .bool m.ad, .bool m.cd, .int .i64 m.rc, .slice p.qa m.qs.length p.qc, .slice p.na m.an.length p.nc, .slice p.ua m.au.length p.uc, .slice p.ra m.ar.length p.rc] t (0, 0)) := heap_alloc_new _ _
  constructor
  · simp
  all_goals (simp only [World.cell?, hb]; rfl)
theorem all_no {α : Type} {f : α → Bool} {L : List α} {k : Nat} {x : α} (hx : L[k]? = some x) (h : f x = false) : L.all f = false := by
  rw [List.all_eq_false]
  exact ⟨x, List.mem_of_getElem? hx, by rw [h]; simp⟩
theorem all_step {α : Type} {f : α → Bool} {L : List α} {k : Nat} {x : α} (hx : L[k]? = some x) (h : f x = true) (ha : (L.take k).all f = true) : (L.take (k + 1)).all f = true := by
  obtain ⟨h1, h2⟩ := List.getElem?_eq_some_iff.1 hx
  rw [List.take_succ_eq_append_getElem h1, List.all_append, ha, h2]; simp [h]
theorem all_end {α : Type} {f : α → Bool} {L : List α} {k : Nat} (hk : L.length ≤ k) (ha : (L.take k).all f = true) : L.all f = true := by
  rwa [List.take_of_length_le hk] at ha
end Go.Proofs.YtjejmgdpjfdhjaaGreatDoor.wireM
namespace Go.Proofs.YtjejmgdpjfdhjaaGreatDoor.zon2
open Go.RowKit Go.Proofs.YtjejmgdpjfdhjaaGreatDoor.kit Go.Proofs.YtjejmgdpjfdhjaaGreatDoor.nspec Go.Proofs.YtjejmgdpjfdhjaaGreatDoor.rsplit Go.Proofs.YtjejmgdpjfdhjaaGreatDoor.fld Go.Proofs.YtjejmgdpjfdhjaaGreatDoor.wireP Go.Proofs.YtjejmgdpjfdhjaaGreatDoor.wireM
set_option linter.unusedVariables false

/-- a record that a zone may have -/
def zonB (x : Rc) : Bool := isB x.o && (decide (x.c = 1) && (decide (0 ≤ x.l) && (decide (x.l ≤ 2147483647) && decide (checkS x.t x.d.data.toList = 0))))
set_option maxRecDepth 100000 in
set_option maxHeartbeats 2000000 in
theorem zonal_any (x : Rc) (w : World) (ho : x.o.size ≤ 1099511627776) (hd : x.d.size ≤ maxLen) :
    Calls Tryz.prog 33 #[.agg #[.string x.o, .int .i64 x.t, .int .i64 x.c, .int .i64 x.l, .string x.d]] w fun e w' => e = .returned (.bool (zonB x)) ∧ Below w.heap.size w w' := by
  obtain ⟨R, hR⟩ : ∃ R, zonB x = R := ⟨_, rfl⟩
  rw [hR]
  have HR := Lib.hid hR
  obtain ⟨o, t, c, l, d⟩ := x
  dsimp only at ho hd ⊢
  have hB0 := (Below.refl w.heap.size w).alloc (Nat.le_refl _) (.cells #[.string o, .int .i64 t, .int .i64 c, .int .i64 l, .string d] 47)
  have hx := heap_alloc_new w (.cells #[.string o, .int .i64 t, .int .i64 c, .int .i64 l, .string d] 47)
  obtain ⟨X, hX⟩ : ∃ X, w.heap.size = X := ⟨_, rfl⟩
  obtain ⟨W, hW⟩ : ∃ W, w.alloc (.cells #[.string o, .int .i64 t, .int .i64 c, .int .i64 l, .string d] 47) = W := ⟨_, rfl⟩
  rw [hW] at hB0 hx
  rw [hX] at hx
  have c0 : W.cell? ⟨X, 0, none⟩ = some (.string o) := by simp only [World.cell?, hx]; rfl
  have HX := Lib.hid hX; have HW := Lib.hid hW; have HB0 := Lib.hid hB0; have HXX := Lib.hid hx
  have CN := Lib.hid (rsplit.isName_any o W ho)
  have CD := Lib.hid (fun wx => checkData.rdcheck_any t d wx hd)
  obtain ⟨ce, hce⟩ : ∃ ce, checkS t d.data.toList = ce := ⟨_, rfl⟩
  rw [hce] at CD
  have HCE := Lib.hid hce
  clear hR hX hW hB0 hx hce
  go_enter Tryz.func33, Tryz.ntmps33
  go_upto_region 1 with fail
  rw [HW.out]
  try rw [HX.out]
  go_wp2_with fail
  refine CN.out.mono ?_
  rintro e w1 ⟨rfl, hB1⟩
  have hx1 := (hB1.block X (Array.getElem?_eq_some_iff.1 HXX.out).1).trans HXX.out
  have y1 : w1.cell? ⟨X, 1, none⟩ = some (.int .i64 t) := by simp only [World.cell?, hx1]; rfl
  have y2 : w1.cell? ⟨X, 2, none⟩ = some (.int .i64 c) := by simp only [World.cell?, hx1]; rfl
  have y3 : w1.cell? ⟨X, 3, none⟩ = some (.int .i64 l) := by simp only [World.cell?, hx1]; rfl
  have y4 : w1.cell? ⟨X, 4, none⟩ = some (.string d) := by simp only [World.cell?, hx1]; rfl
  have HB1 := Lib.hid (HB0.out.trans (hB1.mono HB0.out.size))
  have hbz := HB0.out.size
  have HB1' := Lib.hid hB1.size
  clear hB1 hx1 c0 CN HXX
  cases hn : isB o with
  | false =>
    have HF : Hid (R = false) := Lib.hid (by rw [← HR.out]; unfold zonB; rw [hn]; rfl)
    clear hn
    go_wp2_with fail
    go_ret
    exact ⟨by rw [HF.out]; rfl, HB1.out⟩
  | true =>
  by_cases h1 : ¬ c = 1
  · have e1 : (c == 1) = false := by rw [beq_eq_false_iff_ne]; exact h1
    have HF : Hid (R = false) := Lib.hid (by rw [← HR.out]; unfold zonB; simp [hn, h1])
    clear hn
    go_wp2_with fail
    go_ret
    exact ⟨by rw [HF.out]; rfl, HB1.out⟩
  obtain rfl : c = 1 := by omega
  by_cases h2 : l < 0
  · have e2 : decide (0 ≤ l) = false := decide_eq_false (by omega)
    have HF : Hid (R = false) := Lib.hid (by rw [← HR.out]; unfold zonB; simp [hn]; try omega)
    clear hn
    go_wp2_with fail
    go_ret
    exact ⟨by rw [HF.out]; rfl, HB1.out⟩
  have e2 : decide (0 ≤ l) = true := decide_eq_true (by omega)
  by_cases h3 : 2147483647 < l
  · have e3 : decide (l ≤ 2147483647) = false := decide_eq_false (by omega)
    have HF : Hid (R = false) := Lib.hid (by rw [← HR.out]; unfold zonB; simp [hn]; try omega)
    clear hn
    go_wp2_with fail
    go_ret
    exact ⟨by rw [HF.out]; rfl, HB1.out⟩
  have e3 : decide (l ≤ 2147483647) = true := decide_eq_true (by omega)
  have HF : Hid (R = decide (ce = 0)) := Lib.hid (by rw [← HR.out, ← HCE.out]; unfold zonB; simp only [hn]; rw [decide_eq_true (show 0 ≤ l by omega), decide_eq_true (show l ≤ 2147483647 by omega)]; rfl)
  clear hn
  by_cases hc : ce = 0
  · subst hc
    go_wp2_with fail
    refine (CD.out w1).mono ?_
    rintro e w2 ⟨rfl, hB2⟩
    have HB2 := Lib.hid (HB1.out.trans (hB2.mono (Nat.le_trans hbz HB1'.out)))
    clear hB2
    go_wp2_with fail
    go_ret
    exact ⟨by rw [HF.out]; rfl, HB2.out⟩
  · have e4 : (ce == 0) = false := by rw [beq_eq_false_iff_ne]; exact hc
    go_wp2_with fail
    refine (CD.out w1).mono ?_
    rintro e w2 ⟨rfl, hB2⟩
    have HB2 := Lib.hid (HB1.out.trans (hB2.mono (Nat.le_trans hbz HB1'.out)))
    clear hB2
    go_wp2_with fail
    go_ret
    exact ⟨by rw [HF.out, decide_eq_false hc]; rfl, HB2.out⟩
end Go.Proofs.YtjejmgdpjfdhjaaGreatDoor.zon2

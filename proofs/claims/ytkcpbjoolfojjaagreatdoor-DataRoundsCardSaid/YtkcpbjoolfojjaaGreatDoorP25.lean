/- data.split: walk. data.holds, data.Check: walks. name.Check of a text of any size: walk. Two lists at once: one is read while the other grows. -/
import Derived.Test.YtkcpbjoolfojjaaGreatDoorP24
import Derived.Test.YtkcpbjoolfojjaaGreatDoorP2
import Derived.Test.YtkcpbjoolfojjaaGreatDoorP6
import Derived.Deep.DeepCutAuto
import Derived.Handy
import Derived.Maps.AppendAt
namespace Go.Proofs.YtkcpbjoolfojjaaGreatDoor.splitD
open Go.RowKit Go.Proofs.YtkcpbjoolfojjaaGreatDoor.kit Go.Proofs.YtkcpbjoolfojjaaGreatDoor.nspec Go.Proofs.YtkcpbjoolfojjaaGreatDoor.rsplit Go.Proofs.YtkcpbjoolfojjaaGreatDoor.fld Go.Proofs.YtkcpbjoolfojjaaGreatDoor.formW Go.Proofs.YtkcpbjoolfojjaaGreatDoor.takes Go.Proofs.YtkcpbjoolfojjaaGreatDoor.kindsT Go.Proofs.YtkcpbjoolfojjaaGreatDoor.hostT Go.Proofs.YtkcpbjoolfojjaaGreatDoor.textsT
set_option linter.unusedVariables false

def RdF (w : World) (g : Nat) (fs : List Fld) : Prop := ∀ (j : Nat) (f : Fld), fs[j]? = some f → w.cell? ⟨g, j, none⟩ = some (fldV f)
def FairF (fs : List Fld) : Prop := fs.length ≤ 20 ∧ ∀ k, Fld.num k ∈ fs → k ≤ 100
/-- what split leaves -/
def SplitPost (w : World) (fs : List Fld) (d : Bs) (e : Ending) (w' : World) : Prop := Below w.heap.size w w' ∧ ((∃ (v : Value) (p : List Bs) (r : Bs), splitS fs d = some (p, r) ∧ e = .returned (.tuple #[v, .bool r.isEmpty]) ∧ w'.ownsRow w.heap.size 9 1 v p.length (p.map strV)) ∨ (splitS fs d = none ∧ e = .returned (.tuple #[.slice none 0 0, .bool false])))
def addP (P : List Bs) (o : Option (List Bs × Bs)) : Option (List Bs × Bs) := o.map (fun p => (P ++ p.1, p.2))
theorem addP_nil (o : Option (List Bs × Bs)) : addP [] o = o := by cases o <;> simp [addP]
theorem addP_end (P : List Bs) (d : Bs) : addP P (splitS [] d) = some (P, d) := by simp [addP, splitS]
theorem addP_bad {P : List Bs} {f : Fld} {fs : List Fld} {d : Bs} (h : takeS f d < 0) : addP P (splitS (f :: fs) d) = none := by simp [addP, splitS, h]
theorem addP_go {P : List Bs} {f : Fld} {fs : List Fld} {d : Bs} {m : Nat} (h : takeS f d = (m : Int)) : addP P (splitS (f :: fs) d) = addP (P ++ [d.take m]) (splitS fs (d.drop m)) := by
  simp only [addP, splitS, h]
  rw [if_neg (by omega), Int.toNat_natCast]
  cases splitS fs (d.drop m) <;> simp

theorem ownsRow_below {w w' : World} {base : Nat} {e : TypeId} {size n : Nat} {v : Value} {xs : List Value} (h : w.ownsRow base e size v n xs) (hB : Below w.heap.size w w') : w'.ownsRow base e size v n xs := by
  refine ⟨h.1, ?_⟩
  rcases h.2 with h1 | ⟨g, cap, cur, h1, h2, h3, h4⟩
  · exact .inl h1
  · exact .inr ⟨g, cap, cur, h1, h2, (hB.block g (Array.getElem?_eq_some_iff.1 h3).1).trans h3, h4⟩
set_option maxRecDepth 100000 in
set_option maxHeartbeats 8000000 in
theorem split_any (fs : List Fld) (g : Nat) (s : ByteArray) (w : World) (hr : RdF w g fs) (hg : g < w.heap.size) (hf : FairF fs) (hs : s.size ≤ 65535) (n : Nat) (hn : fs.length = n) :
    Calls Tryz.prog 30 #[.slice (some ⟨g, 0, none⟩) n n, .string s] w (SplitPost w fs s.data.toList) := by
  obtain ⟨i0, hi, hz0, hz1, hz2⟩ := info_parts infoStr
  obtain ⟨R, HR⟩ : ∃ R, Hid (splitS fs s.data.toList = R) := ⟨_, Lib.hid rfl⟩
  have HR0 : Hid (addP [] (splitS (fs.drop 0) s.data.toList) = R) := Lib.hid (by rw [addP_nil, List.drop_zero]; exact HR.out)
  have hn20 : n ≤ 20 := by rw [← hn]; exact hf.1
  have HN := Lib.hid hn; have HF := Lib.hid hf.2; have HRD := Lib.hid hr
  clear hn hf hr
  go_enter Tryz.func30, Tryz.ntmps30
  go_wp2_with fail
  go_loopg [1, 6, 8, 9, 12] (n + 1) (fun gas dv pv _ _ kv wr => ∃ (k : Nat) (u : ByteArray) (P : List Bs), kv = .int .i64 k ∧ dv = .string u ∧ k ≤ n ∧ n + 1 ≤ k + gas ∧ u.size ≤ 65535 ∧ P.length ≤ k ∧ Hid (addP P (splitS (fs.drop k) u.data.toList) = R) ∧ wr.ownsRow w.heap.size 9 1 pv P.length (P.map strV) ∧ Below w.heap.size w wr)
  case atStart => exact ⟨0, s, [], rfl, rfl, by omega, by omega, hs, by simp, HR0, World.ownsRow_nil _ _ _ _, Below.refl _ _⟩
  case round =>
    obtain ⟨k, u, P, rfl, rfl, hk, hkg, hu, hP, HW, hown, hB⟩ := hrel
    have HKG := Lib.hid hkg; clear hkg
    have HB := Lib.hid hB
    by_cases hlt : k < n
    · obtain ⟨f, hfk⟩ : ∃ f, fs[k]? = some f := ⟨_, List.getElem?_eq_getElem (by have := HN.out; omega)⟩
      have hcell := (hB.cell (p := ⟨g, k, none⟩) hg).trans (HRD.out k f hfk)
      have hdr : fs.drop k = f :: fs.drop (k + 1) := by
        obtain ⟨h1, h2⟩ := List.getElem?_eq_some_iff.1 hfk
        rw [List.drop_eq_getElem_cons h1, h2]
      have hnum := fun j (e : f = .num j) => HF.out j (by rw [← e]; exact List.mem_of_getElem? hfk)
      have HD := Lib.hid hdr; have HNUM := Lib.hid hnum; have HOWN := Lib.hid hown
      obtain ⟨fv, hfv⟩ : ∃ fv, fldV f = fv := ⟨_, rfl⟩
      have HFV := Lib.hid hfv
      rw [hfv] at hcell
      clear hdr hnum hfk hfv hown hB
      go_upto_region 5 with (fail)
      go_cut [9] (fun s9 wx => s9 = .int .i64 (takeS f u.data.toList) ∧ Below wr.heap.size wr wx)
      case first =>
        clear hcell
        have hfv := HFV.out
        subst hfv
        clear HFV HRD HF HD HW HN HR HR0 HOWN
        cases f with
        | num j =>
          simp only [fldV]
          go_wp2_with fail
          refine (num_any j u _ (HNUM.out j rfl) (by omega)).mono ?_
          rintro e w1 ⟨rfl, hB1⟩
          go_wp2_with fail
          go_meet
          exact ⟨rfl, hB1⟩
        | ip4 =>
          simp only [fldV]
          go_wp2_with fail
          refine (ip4_any u _ (by omega)).mono ?_
          rintro e w1 ⟨rfl, hB1⟩
          go_wp2_with fail
          go_meet
          exact ⟨rfl, hB1⟩
        | ip6 =>
          simp only [fldV]
          go_wp2_with fail
          refine (ip6_any u _ (by omega)).mono ?_
          rintro e w1 ⟨rfl, hB1⟩
          go_wp2_with fail
          go_meet
          exact ⟨rfl, hB1⟩
        | host =>
          simp only [fldV]
          go_wp2_with fail
          refine (host_any u _ (by omega)).mono ?_
          rintro e w1 ⟨rfl, hB1⟩
          go_wp2_with fail
          go_meet
          exact ⟨rfl, hB1⟩
        | text =>
          simp only [fldV]
          go_wp2_with fail
          refine (text_any u _ (by omega)).mono ?_
          rintro e w1 ⟨rfl, hB1⟩
          go_wp2_with fail
          go_meet
          exact ⟨rfl, hB1⟩
        | texts =>
          simp only [fldV]
          go_wp2_with fail
          refine (texts_any u _ (by omega)).mono ?_
          rintro e w1 ⟨rfl, hB1⟩
          go_wp2_with fail
          go_meet
          exact ⟨rfl, hB1⟩
        | tail =>
          simp only [fldV]
          go_wp2_with fail
          refine (tail_any u _ (by omega)).mono ?_
          rintro e w1 ⟨rfl, hB1⟩
          go_wp2_with fail
          go_meet
          exact ⟨rfl, hB1⟩
        | hexes =>
          simp only [fldV]
          go_wp2_with fail
          refine (hexes_any u _ (by omega)).mono ?_
          rintro e w1 ⟨rfl, hB1⟩
          go_wp2_with fail
          go_meet
          exact ⟨rfl, hB1⟩
        | b64 =>
          simp only [fldV]
          go_wp2_with fail
          refine (b64_any u _ (by omega)).mono ?_
          rintro e w1 ⟨rfl, hB1⟩
          go_wp2_with fail
          go_meet
          exact ⟨rfl, hB1⟩
        | kind =>
          simp only [fldV]
          go_wp2_with fail
          refine (kind_any u _ (by omega)).mono ?_
          rintro e w1 ⟨rfl, hB1⟩
          go_wp2_with fail
          go_meet
          exact ⟨rfl, hB1⟩
        | kinds =>
          simp only [fldV]
          go_wp2_with fail
          refine (kinds_any u _ (by omega)).mono ?_
          rintro e w1 ⟨rfl, hB1⟩
          go_wp2_with fail
          go_meet
          exact ⟨rfl, hB1⟩
        | salt =>
          simp only [fldV]
          go_wp2_with fail
          refine (salt_any u _ (by omega)).mono ?_
          rintro e w1 ⟨rfl, hB1⟩
          go_wp2_with fail
          go_meet
          exact ⟨rfl, hB1⟩
        | hash =>
          simp only [fldV]
          go_wp2_with fail
          refine (hash_any u _ (by omega)).mono ?_
          rintro e w1 ⟨rfl, hB1⟩
          go_wp2_with fail
          go_meet
          exact ⟨rfl, hB1⟩
      case rest =>
        obtain ⟨rfl, hB2⟩ := hcut
        have hT := takeS_le f u.data.toList
        rw [size_len] at hT
        have HB3 := Lib.hid (HB.out.trans (hB2.mono HB.out.size))
        have HOWN2 := Lib.hid (ownsRow_below HOWN.out hB2)
        obtain ⟨T, hTT⟩ : ∃ T, takeS f u.data.toList = T := ⟨_, rfl⟩
        have HTT := Lib.hid hTT
        rw [hTT] at hT ⊢
        obtain ⟨hT1, hT2⟩ := hT
        clear hTT hB2 HOWN HB hcell
        by_cases hneg : T < 0
        · have HBAD : Hid (splitS fs s.data.toList = none) := Lib.hid (by rw [HR.out, ← HW.out, HD.out, addP_bad (by rw [HTT.out]; exact hneg)])
          go_wp2_with fail
          go_ret2
          exact ⟨HB3.out, .inr ⟨HBAD.out, rfl⟩⟩
        · obtain ⟨m, rfl⟩ : ∃ m : Nat, T = m := ⟨T.toNat, by omega⟩
          have hms : m ≤ u.size := by omega
          have hmi : (m : Int) ≤ (u.size : Int) := by omega
          have HW2 : Hid (addP (P ++ [u.data.toList.take m]) (splitS (fs.drop (k + 1)) (u.data.toList.drop m)) = R) := Lib.hid (by rw [← addP_go HTT.out, ← HD.out]; exact HW.out)
          have hx : (u.extract 0 m).data.toList = u.data.toList.take m := ext0 u m
          have HX : Hid (Value.string (u.extract 0 m) = strV (u.data.toList.take m)) := Lib.hid (congrArg Value.string (ba_ext hx))
          have HU2 := Lib.hid (ext_end u m)
          have hus2 : (u.extract m u.size).size = u.size - m := by rw [ByteArray.size_extract]; omega
          have HUS2 := Lib.hid hus2
          have hown := HOWN2.out
          have hB' := HB3.out
          have hsz := hB'.size
          clear hneg hx hus2 hT1 hT2
          go_wp2_with (at_builtin; go_must (refine wpList_append_own _ rfl _ _ 70 rfl w.heap.size 9 i0 (.string ByteArray.empty) 1 16 Tryz.underlying70 hi hz0 hz1 hz2 rfl (by decide) _ _ _ rfl (hown.alloc _) ⟨_, 0, none⟩ 1 1 [.string (u.extract 0 m)] rfl rfl ?c1 ?c2 ?c3 ?c4 ?c5 ?_))
          case c1 => exact cell_one_new _ _ _
          case c2 => simp [Value.oneCell']
          case c3 => unfold maxLen; omega
          case c4 => omega
          case c5 => simp; omega
          intro v' w1 hown' hgrow hnil
          have hown2 := own_snoc HX.out hown'
          have hB4 := below_append hB' hsz hown hgrow
          clear hown' hgrow hown hnil
          go_wp2_with fail
          have hkg := HKG.out
          go_roundg (gk - 1)
          case rel =>
            have h2 := HUS2.out
            exact ⟨k + 1, _, _, by go_num, rfl, by omega, by omega, by omega, by simp; omega, Lib.hid (by rw [HU2.out]; exact HW2.out), hown2, hB4⟩
          case measure => omega
    · have hke : k = n := by omega
      subst hke
      have HE : Hid (R = some (P, u.data.toList)) := Lib.hid (by rw [← HW.out, List.drop_eq_nil_iff.2 (by have := HN.out; omega), addP_end])
      have HFIN : Hid (splitS fs s.data.toList = some (P, u.data.toList)) := Lib.hid (HR.out.trans HE.out)
      have hem : u.data.toList.isEmpty = u.toList.isEmpty := by rw [Lib.toList_data]
      have HEM := Lib.hid hem
      clear hlt hem
      go_wp2_with fail
      go_ret2
      refine ⟨HB.out, .inl ⟨_, P, u.data.toList, HFIN.out, ?_, hown⟩⟩
      rw [HEM.out]; rfl
end Go.Proofs.YtkcpbjoolfojjaaGreatDoor.splitD
namespace Go.Proofs.YtkcpbjoolfojjaaGreatDoor.dcheck
open Go.RowKit Go.Proofs.YtkcpbjoolfojjaaGreatDoor.kit Go.Proofs.YtkcpbjoolfojjaaGreatDoor.nspec Go.Proofs.YtkcpbjoolfojjaaGreatDoor.fld Go.Proofs.YtkcpbjoolfojjaaGreatDoor.formW Go.Proofs.YtkcpbjoolfojjaaGreatDoor.splitD
set_option linter.unusedVariables false

theorem holds_no {t : Int} (h : t < 1 ∨ 65535 < t ∨ t = 41 ∨ (128 ≤ t ∧ t ≤ 255)) : holdsB t = false := by
  unfold holdsB
  rcases h with h | h | h | h
  · rw [decide_eq_false (by omega)]; rfl
  · rw [decide_eq_false (p := t ≤ 65535) (by omega)]; simp
  · subst h; rfl
  · rw [decide_eq_false (p := t < 128) (by omega), decide_eq_false (p := 255 < t) (by omega)]; simp
theorem holds_yes {t : Int} (h1 : 1 ≤ t) (h2 : t ≤ 65535) (h3 : t ≠ 41) (h4 : t < 128 ∨ 255 < t) : holdsB t = true := by
  unfold holdsB
  rw [decide_eq_true h1, decide_eq_true h2, (bne_iff_ne).2 h3]
  rcases h4 with h | h
  · rw [decide_eq_true h]; rfl
  · rw [decide_eq_true h]; simp

set_option maxRecDepth 100000 in
set_option maxHeartbeats 2000000 in
theorem holds_any (t : Int) (w : World) : Calls Tryz.prog 14 #[.int .i64 t] w fun e w' => e = .returned (.bool (holdsB t)) ∧ w = w' := by
  by_cases h1 : t < 1
  · have H := Lib.hid (holds_no (.inl h1))
    go_enter Tryz.func14, Tryz.ntmps14
    go_wp2_with fail
    go_ret
    exact ⟨by rw [H.out]; rfl, rfl⟩
  have h1i : 1 ≤ t := by omega
  clear h1
  by_cases h2 : 65535 < t
  · have H := Lib.hid (holds_no (.inr (.inl h2)))
    go_enter Tryz.func14, Tryz.ntmps14
    go_wp2_with fail
    go_ret
    exact ⟨by rw [H.out]; rfl, rfl⟩
  have h2i : t ≤ 65535 := by omega
  clear h2
  by_cases h3 : t = 41
  · subst h3
    go_enter Tryz.func14, Tryz.ntmps14
    go_wp2_with fail
    go_ret
    exact ⟨rfl, rfl⟩
  have h3b : (t != 41) = true := by rw [bne_iff_ne]; exact h3
  have H3 := Lib.hid h3; clear h3
  by_cases h4 : t < 128
  · have H := Lib.hid (holds_yes h1i h2i H3.out (.inl h4))
    go_enter Tryz.func14, Tryz.ntmps14
    go_wp2_with fail
    go_ret
    exact ⟨by rw [H.out]; rfl, rfl⟩
  have h4i : 128 ≤ t := by omega
  clear h4
  by_cases h5 : 255 < t
  · have H := Lib.hid (holds_yes h1i h2i H3.out (.inr h5))
    go_enter Tryz.func14, Tryz.ntmps14
    go_wp2_with fail
    go_ret
    exact ⟨by rw [H.out]; rfl, rfl⟩
  · have h5i : t ≤ 255 := by omega
    have H := Lib.hid (holds_no (.inr (.inr (.inr ⟨h4i, h5i⟩))))
    have d4 : decide (t < 128) = false := by rw [decide_eq_false_iff_not]; omega
    have d5 : decide (255 < t) = false := by rw [decide_eq_false_iff_not]; omega
    clear h5
    go_enter Tryz.func14, Tryz.ntmps14
    go_wp2_with fail
    go_ret
    exact ⟨by rw [H.out]; rfl, rfl⟩

theorem fair_of {fs gs : List Fld} (h : some gs = some fs) (hl : gs.length ≤ 20) (hk : gs.all (fun f => match f with | .num k => decide (k ≤ 100) | _ => true) = true) : FairF fs := by
  have e := Option.some.inj h
  subst e
  refine ⟨hl, fun k hm => ?_⟩
  have := List.all_eq_true.1 hk _ hm
  simpa using this
theorem form_fair {t : Int} {fs : List Fld} (h : formS t = some fs) : FairF fs := by
  by_cases h1 : t = 1
  · subst h1; exact fair_of h (by decide) (by decide)
  by_cases h2 : t = 2
  · subst h2; exact fair_of h (by decide) (by decide)
  by_cases h5 : t = 5
  · subst h5; exact fair_of h (by decide) (by decide)
  by_cases h12 : t = 12
  · subst h12; exact fair_of h (by decide) (by decide)
  by_cases h39 : t = 39
  · subst h39; exact fair_of h (by decide) (by decide)
  by_cases h6 : t = 6
  · subst h6; exact fair_of h (by decide) (by decide)
  by_cases h13 : t = 13
  · subst h13; exact fair_of h (by decide) (by decide)
  by_cases h15 : t = 15
  · subst h15; exact fair_of h (by decide) (by decide)
  by_cases h16 : t = 16
  · subst h16; exact fair_of h (by decide) (by decide)
  by_cases h28 : t = 28
  · subst h28; exact fair_of h (by decide) (by decide)
  by_cases h33 : t = 33
  · subst h33; exact fair_of h (by decide) (by decide)
  by_cases h35 : t = 35
  · subst h35; exact fair_of h (by decide) (by decide)
  by_cases h43 : t = 43
  · subst h43; exact fair_of h (by decide) (by decide)
  by_cases h46 : t = 46
  · subst h46; exact fair_of h (by decide) (by decide)
  by_cases h47 : t = 47
  · subst h47; exact fair_of h (by decide) (by decide)
  by_cases h48 : t = 48
  · subst h48; exact fair_of h (by decide) (by decide)
  by_cases h50 : t = 50
  · subst h50; exact fair_of h (by decide) (by decide)
  by_cases h51 : t = 51
  · subst h51; exact fair_of h (by decide) (by decide)
  by_cases h257 : t = 257
  · subst h257; exact fair_of h (by decide) (by decide)
  simp [formS, h1, h2, h5, h12, h39, h6, h13, h15, h16, h28, h33, h35, h43, h46, h47, h48, h50, h51, h257] at h
theorem fields_rd (fs : List Fld) (w : World) : RdF (w.alloc (fieldsO fs)) w.heap.size fs := by
  intro j f hf
  unfold fieldsO
  rw [World.cell?_alloc_new]
  simp [hf]

set_option maxRecDepth 100000 in
set_option maxHeartbeats 2000000 in
theorem dcheck_any (t : Int) (s : ByteArray) (w : World) (hs : s.size ≤ maxLen) :
    Calls Tryz.prog 10 #[.int .i64 t, .string s] w fun e w' => e = .returned (.int .i64 (checkS t s.data.toList)) ∧ Below w.heap.size w w' := by
  obtain ⟨R, HR⟩ : ∃ R, Hid (checkS t s.data.toList = R) := ⟨_, Lib.hid rfl⟩
  rw [HR.out]
  have CH := Lib.hid (fun w => holds_any t w)
  obtain ⟨b, hb⟩ : ∃ b, holdsB t = b := ⟨_, rfl⟩
  rw [hb] at CH
  cases b with
  | false =>
    have HN : Hid (6 = R) := Lib.hid (by rw [← HR.out, checkS, if_pos hb])
    clear hb
    go_enter Tryz.func10, Tryz.ntmps10
    go_wp2_with fail
    refine (CH.out _).mono ?_
    rintro e w1 ⟨rfl, rfl⟩
    go_wp2_with fail
    go_ret
    exact ⟨by rw [← HN.out]; rfl, Below.refl _ _⟩
  | true =>
    have hnb : ¬ holdsB t = false := by rw [hb]; simp
    by_cases hl : 65535 < s.size
    · have HN : Hid (7 = R) := Lib.hid (by rw [← HR.out, checkS, if_neg hnb, if_pos (by rw [size_len]; exact hl)])
      have hli : (65535 : Int) < (s.size : Int) := by omega
      clear hb hnb hl
      go_enter Tryz.func10, Tryz.ntmps10
      go_wp2_with fail
      refine (CH.out _).mono ?_
      rintro e w1 ⟨rfl, rfl⟩
      go_wp2_with fail
      go_ret
      exact ⟨by rw [← HN.out]; rfl, Below.refl _ _⟩
    · have hli : (s.size : Int) ≤ 65535 := by omega
      have hls : s.size ≤ 65535 := by omega
      have HC : Hid (R = if partsS t s.data.toList = none then 7 else 0) := Lib.hid (by rw [← HR.out, checkS, if_neg hnb, if_neg (by rw [size_len]; exact hl)])
      clear hb hnb hl
      cases hf : formS t with
      | none =>
        have HN : Hid (0 = R) := Lib.hid (by rw [HC.out]; unfold partsS; rw [hf]; rfl)
        have CF := Lib.hid (fun w => form_no t w hf)
        clear hf
        go_enter Tryz.func10, Tryz.ntmps10
        go_wp2_with fail
        refine (CH.out _).mono ?_
        rintro e w1 ⟨rfl, rfl⟩
        go_wp2_with fail
        refine (CF.out _).mono ?_
        rintro e w1 ⟨rfl, rfl⟩
        go_wp2_with fail
        go_ret
        exact ⟨by rw [← HN.out]; rfl, Below.refl _ _⟩
      | some fs =>
        have CF := Lib.hid (fun w => form_yes t fs w hf)
        have HFA := Lib.hid (form_fair hf)
        have HP : Hid (partsS t s.data.toList = match splitS fs s.data.toList with | some (p, []) => some p | _ => none) := Lib.hid (by unfold partsS; rw [hf]; rfl)
        obtain ⟨n, hn⟩ : ∃ n, fs.length = n := ⟨_, rfl⟩
        have CS := Lib.hid (fun w => split_any fs w.heap.size s (w.alloc (fieldsO fs)) (fields_rd fs w) (by rw [World.size_alloc]; omega) HFA.out hls n hn)
        unfold FormPost at CF
        rw [hn] at CF
        clear hf hn
        go_enter Tryz.func10, Tryz.ntmps10
        go_wp2_with fail
        refine (CH.out _).mono ?_
        rintro e w1 ⟨rfl, rfl⟩
        go_wp2_with fail
        refine (CF.out _).mono ?_
        rintro e w1 ⟨rfl, rfl⟩
        go_wp2_with fail
        refine (CS.out _).mono ?_
        rintro e w2 ⟨hB2, ⟨v, p, r, hsp, rfl, hown⟩ | ⟨hsp, rfl⟩⟩
        · have HB := Lib.hid (((Below.refl w.heap.size w).alloc (Nat.le_refl _) (fieldsO fs)).trans (hB2.mono (by rw [World.size_alloc]; omega)))
          have HQ : Hid (R = if r.isEmpty then 0 else 7) := Lib.hid (by rw [HC.out, HP.out, hsp]; cases r <;> simp)
          clear hB2 hsp hown
          cases r with
          | nil =>
            have HN : Hid (R = 0) := Lib.hid HQ.out
            simp only [List.isEmpty_nil]
            go_wp2_with fail
            go_ret
            exact ⟨by rw [HN.out]; rfl, HB.out⟩
          | cons x r =>
            have HN : Hid (R = 7) := Lib.hid HQ.out
            simp only [List.isEmpty_cons]
            go_wp2_with fail
            go_ret
            exact ⟨by rw [HN.out]; rfl, HB.out⟩
        · have HB := Lib.hid (((Below.refl w.heap.size w).alloc (Nat.le_refl _) (fieldsO fs)).trans (hB2.mono (by rw [World.size_alloc]; omega)))
          have HN : Hid (R = 7) := Lib.hid (by rw [HC.out, HP.out, hsp]; rfl)
          clear hB2 hsp
          go_wp2_with fail
          go_ret
          exact ⟨by rw [HN.out]; rfl, HB.out⟩
end Go.Proofs.YtkcpbjoolfojjaaGreatDoor.dcheck
namespace Go.Proofs.YtkcpbjoolfojjaaGreatDoor.checkAll
open Go.RowKit Go.Proofs.YtkcpbjoolfojjaaGreatDoor.kit Go.Proofs.YtkcpbjoolfojjaaGreatDoor.check
theorem check_all (n : ByteArray) (w : World) :
    Calls Tryz.prog 9 #[.string n] w fun e w' => e = .returned (.int .i64 (chkE n)) ∧ Below w.heap.size w w' := by
  by_cases h1 : 255 < (n.size : Int)
  · exact check_long n w h1
  · exact check_any n w (by omega)
end Go.Proofs.YtkcpbjoolfojjaaGreatDoor.checkAll
namespace Go.Proofs.YtkcpbjoolfojjaaGreatDoor.two
open Go.RowKit Go.Proofs.YtkcpbjoolfojjaaGreatDoor.kit Go.Proofs.YtkcpbjoolfojjaaGreatDoor.ints
set_option linter.unusedVariables false

theorem cell_same {w w1 : World} {p : Addr} (h : w1.heap[p.block]? = w.heap[p.block]?) : w1.cell? p = w.cell? p := by unfold World.cell?; rw [h]
/-- v's own block is not a's -/
def Apart (v : Value) (a : Option Addr) : Prop := ∀ b, a = some b → v.ownBlock ≠ some b.block
theorem Apart.low {v : Value} {a : Option Addr} {B : Nat} (h : ∀ k, v.ownBlock = some k → k < B) (ha : ∀ b, a = some b → B ≤ b.block) : Apart v a := by
  intro b hb h2
  have := h _ h2
  have := ha _ hb
  omega
theorem Apart.next {v v' : Value} {a : Option Addr} {w : World} (h : Apart v a) (ha : ∀ b, a = some b → b.block < w.heap.size) (hat : v'.ownBlock = v.ownBlock ∨ v'.ownBlock = some (w.heap.size + 1)) : Apart v' a := by
  intro b hb h2
  have hlt := ha _ hb
  rcases hat with h3 | h3
  · exact h b hb (h3 ▸ h2)
  · rw [h3] at h2
    simp only [Option.some.injEq] at h2
    omega
theorem block_kept {w w1 : World} {o : Obj} {v : Value} {k : Nat} (hg : (w.alloc o).grownBy w1 v.ownBlock) (hk : k < w.heap.size) (hne : v.ownBlock ≠ some k) : w1.heap[k]? = w.heap[k]? := by
  have h1 := hg.block k (by rw [World.size_alloc]; omega) (fun h => hne h.symm)
  exact h1.trans (Below.heap_alloc w o k hk)
theorem RdN.kept {w w1 : World} {a : Option Addr} {ls : List Nat} {o : Obj} {v : Value} (h : RdN w a ls) (hg : (w.alloc o).grownBy w1 v.ownBlock) (hap : Apart v a) : RdN w1 a ls := by
  intro j x hx
  obtain ⟨g, p, h1, h2, h3⟩ := h j x hx
  have hb := block_kept hg h2 (hap _ h1)
  refine ⟨g, p, h1, ?_, ?_⟩
  · have := hg.size
    rw [World.size_alloc] at this; omega
  · rw [cell_same (p := ⟨g, p + j, none⟩) hb]; exact h3
end Go.Proofs.YtkcpbjoolfojjaaGreatDoor.two

/- data.Read of a type with a form: the walk (shape t; printed by gen_rdw.py). data.Read: what it leaves, whatever it is handed. PLAIN: the words of a told line, as the statement's split tells them; what is put together with blanks is told apart again. name.Join, the reference's Join: walks. What is told of a name is read as that name: plain. Base 32 goes back, and keeps the order: plain. PLAIN: what is told of a field's bytes is read as them: numbers, types, digits, base 32 and 64, texts. -/
import Derived.Test.YtkcpbjoolfojjaaGreatDoorP26
import Derived.Test.YtkcpbjoolfojjaaGreatDoorP6
import Derived.Test.YtkcpbjoolfojjaaGreatDoorP22
import Derived.Test.YtkcpbjoolfojjaaGreatDoorP7
import Derived.Test.YtkcpbjoolfojjaaGreatDoorP14
import Derived.Handy
namespace Go.Proofs.YtkcpbjoolfojjaaGreatDoor.rdW
open Go.RowKit Go.Proofs.YtkcpbjoolfojjaaGreatDoor.kit Go.Proofs.YtkcpbjoolfojjaaGreatDoor.nspec Go.Proofs.YtkcpbjoolfojjaaGreatDoor.fld Go.Proofs.YtkcpbjoolfojjaaGreatDoor.bits Go.Proofs.YtkcpbjoolfojjaaGreatDoor.bld Go.Proofs.YtkcpbjoolfojjaaGreatDoor.formW Go.Proofs.YtkcpbjoolfojjaaGreatDoor.splitD Go.Proofs.YtkcpbjoolfojjaaGreatDoor.dcheck Go.Proofs.YtkcpbjoolfojjaaGreatDoor.rdP Go.Proofs.YtkcpbjoolfojjaaGreatDoor.rdQ Go.Proofs.YtkcpbjoolfojjaaGreatDoor.wd Go.Proofs.YtkcpbjoolfojjaaGreatDoor.wdB Go.Proofs.YtkcpbjoolfojjaaGreatDoor.wdD Go.Proofs.YtkcpbjoolfojjaaGreatDoor.wdE Go.Proofs.YtkcpbjoolfojjaaGreatDoor.wdF Go.Proofs.YtkcpbjoolfojjaaGreatDoor.wdG Go.Proofs.YtkcpbjoolfojjaaGreatDoor.rdDoor
set_option linter.unusedVariables false

set_option maxRecDepth 100000 in
set_option maxHeartbeats 8000000 in
/-- a type with a form -/
theorem read_form_t (t : Int) (a : Option Addr) (L : List Wo) (cap : Nat) (O : ByteArray) (w : World) (hin : In w a L cap) (hO : O.size ≤ 1048576) (ht : TabS w) (hb : holdsB t = true) (ho : (nspec.split O.data.toList).isSome = true) (hsg : isSign L = false) (fs : List Fld) (hf : formS t = some fs) (x : Wo) (r : List Wo) (hL : L = x :: r) (hxq : x.q = false) (hxs : x.s.data.toList ≠ [92, 35]) :
    Calls Tryz.prog 5 #[.int .i64 t, .slice a L.length cap, .string O] w (ReadE w.heap.size w (readD t L O.data.toList)) := by
  have hr : readD t L O.data.toList = fin (wholeR t O.data.toList L) := by
    unfold readD; rw [if_neg (by rw [hb]; simp), if_neg (by rw [ho]; simp), if_neg (by rw [hsg]; simp)]
  unfold wholeR at hr
  rw [hf] at hr
  simp only at hr
  have hF4 := Go.Proofs.YtkcpbjoolfojjaaGreatDoor.checkData.form_fair4 hf
  have hnum : ∀ f ∈ fs, ∀ j, f = .num j → j = 1 ∨ j = 2 ∨ j = 4 := fun f h j e => by subst e; exact hF4.2 _ h
  obtain ⟨n, hn⟩ : ∃ n, fs.length = n := ⟨_, rfl⟩
  have hn20 : n ≤ 20 := by rw [← hn]; exact hF4.1
  have CFD := Lib.hid (fun (C k : Nat) (w : World) (h : AtW w C a L cap O k) (ht : TabW C w) (f : Fld) (hm : f ∈ fs) => field_read C a L cap O k w h ht f (hnum f hm))
  have HLEN := Lib.hid (fun (k k' : Nat) (f : Fld) (d : Bs) (hm : f ∈ fs) (h : fieldR O.data.toList L k f = .ok (d, k')) => Go.Proofs.YtkcpbjoolfojjaaGreatDoor.rdLen.field_len h hin.few hin.sm (by rw [size_len]; exact hO) (fun j e => by rcases hnum f hm j e with h | h | h <;> omega))
  have CF := Lib.hid (fun w => form_yes t fs w hf)
  unfold FormPost at CF
  rw [hn] at CF
  have hfew := hin.few
  obtain ⟨R, hR⟩ : ∃ R, fieldsR O.data.toList L fs 0 = R := ⟨_, rfl⟩
  obtain ⟨RD, hRD⟩ : ∃ RD, readD t L O.data.toList = RD := ⟨_, rfl⟩
  rw [hR, hRD] at hr
  rw [hRD]
  have HRE : Hid (∀ y, R = .error y → RD = ([], y.1, y.2)) := Lib.hid (fun y e => by rw [hr, e]; rfl)
  have HRO : Hid (∀ d k, R = .ok (d, k) → RD = if k < L.length then ([], (k : Int), 2) else if 65535 < d.length then ([], 0, 12) else (d, 0, 0)) := Lib.hid (fun d k e => by
    rw [hr, e]
    simp only
    by_cases h1 : k < L.length
    · rw [if_pos h1, if_pos h1]; rfl
    · rw [if_neg h1, if_neg h1]
      by_cases h2 : 65535 < d.length
      · rw [if_pos h2, if_pos h2]; rfl
      · rw [if_neg h2, if_neg h2]; rfl)
  have HR0 : Hid (addF [] (fieldsR O.data.toList L (fs.drop 0) 0) = R) := Lib.hid (by rw [addF_nil]; exact hR)
  have HNN := Lib.hid hn
  have CH := Lib.hid (fun w => holds_any t w)
  rw [hb] at CH
  have CC := Lib.hid (fun w => checkAll.check_all O w)
  rw [show check.chkE O = 0 from by rw [chk_eq, if_pos ho]] at CC
  have HIN := Lib.hid (fun w1 hB => words_at (w1 := w1) hin hO hB)
  have HCW := Lib.hid (fun (w1 : World) (hB : Below w.heap.size w w1) (x : Wo) (r : List Wo) (e : L = x :: r) => show ∃ g o, a = some ⟨g, o, none⟩ ∧ g < w1.heap.size ∧ w1.cell? ⟨g, o, none⟩ = some (.string x.s) ∧ w1.cell? ⟨g, o + 1, none⟩ = some (.bool x.q) from by
    obtain ⟨g, o, h1, h2, h3, h4⟩ := hin.rd 0 x (by rw [e]; rfl)
    exact ⟨g, o, h1, Nat.lt_of_lt_of_le h2 hB.size, (hB.cell (p := ⟨g, o, none⟩) h2).trans h3, (hB.cell (p := ⟨g, o + 1, none⟩) h2).trans h4⟩)
  have HT := Lib.hid ht
  obtain ⟨hS, hz⟩ := boxes_at w
  obtain ⟨W, hW⟩ : ∃ W, boxes w = W := ⟨_, rfl⟩
  obtain ⟨b0, hb0⟩ : ∃ b0, w.heap.size = b0 := ⟨_, rfl⟩
  rw [hW, hb0] at hS
  have HB0 := Lib.hid hb0
  rw [hb0]
  have HW := Lib.hid hW; have HS := Lib.hid hS
  have hn0 : 0 < (L.length : Int) := by rw [hL]; simp
  have HL := Lib.hid hL; have HXQ := Lib.hid hxq
  have hq92 : (x.s.toList == [92, 35]) = false := by rw [Lib.toList_data]; simpa using hxs
  clear hr hS hz hW hb ho hsg hf hin ht hF4 hnum hn hR hRD hL hxq hxs
  go_enter_defers Tryz.func5, Tryz.ntmps5
  go_upto_region 1 with fail
  change Code.wp _ _ _ _ (boxes w)
  rw [HW.out]
  go_wp2_with fail
  refine (CH.out _).mono ?_
  rintro e w2 ⟨rfl, rfl⟩
  go_wp2_with fail
  refine (CC.out _).mono ?_
  rintro e w3 ⟨rfl, hB3⟩
  have HS3 := Lib.hid (HS.out.below hB3)
  clear hB3
  have HBW3 : Hid (Below w.heap.size w w3) := Lib.hid (by have h := HS3.out.bel; rw [← HB0.out] at h; exact h)
  have HA4 := Lib.hid (HIN.out w3 HBW3.out)
  have HS4 := Lib.hid (HS3.out.lay (wordsO a L.length cap O))
  have hC3 : b0 + 3 ≤ w3.heap.size := HS3.out.top
  have HT4 : Hid (TabW w3.heap.size (w3.alloc (wordsO a L.length cap O))) := Lib.hid ⟨w3, Nat.le_refl _, HT.out.below HBW3.out, (Below.refl _ _).alloc (Nat.le_refl _) _⟩
  have HCW4 := Lib.hid (fun x r e => HCW.out (w3.alloc (wordsO a L.length cap O)) (HBW3.out.alloc HBW3.out.size _) x r e)
  obtain ⟨C, hCC⟩ : ∃ C, w3.heap.size = C := ⟨_, rfl⟩
  obtain ⟨w4, hw4⟩ : ∃ w4, w3.alloc (wordsO a L.length cap O) = w4 := ⟨_, rfl⟩
  rw [hCC, hw4] at HA4 HT4
  rw [hw4] at HS4 HCW4
  rw [hCC] at hC3
  have HW4 := Lib.hid hw4; have HCC := Lib.hid hCC
  clear hw4 hCC
  go_upto_region 7 with fail
  change Code.wp _ _ _ _ (w3.alloc (wordsO a _ cap O))
  rw [HW4.out, HCC.out]
  go_wp2_with fail
  refine (CF.out _).mono ?_
  rintro e w5 ⟨rfl, hw5⟩
  have hB5 : Below w4.heap.size w4 w5 := by rw [hw5]; exact (Below.refl w4.heap.size w4).alloc (Nat.le_refl _) _
  have HRF : Hid (RdF w5 w4.heap.size fs) := Lib.hid (by rw [hw5]; exact fields_rd fs w4)
  have hF5 : w4.heap.size < w5.heap.size := by rw [hw5, World.size_alloc]; omega
  have hCF : C < w4.heap.size := HA4.out.lt
  have HB5 := Lib.hid hB5
  have HA5 := Lib.hid (HA4.out.below hB5)
  have HS5 := Lib.hid (HS4.out.below hB5)
  have HT5 := Lib.hid (HT4.out.eff (EffW.of_below (C := C) hB5))
  clear hB5 hw5
  obtain ⟨F, hF⟩ : ∃ F, w4.heap.size = F := ⟨_, rfl⟩
  obtain ⟨g, o, ha, hg, hcs, hcq⟩ := HCW4.out x r HL.out
  have c5s := (HB5.out.cell (p := ⟨g, o, none⟩) hg).trans hcs
  have c5q := (HB5.out.cell (p := ⟨g, o + 1, none⟩) hg).trans hcq
  rw [HXQ.out] at c5q
  clear hcs hcq hg
  subst ha
  rw [hF] at HRF hF5 hCF ⊢
  clear hF
  have HFB : Hid (Bld w5.heap.size w5.heap.size [] (w5.alloc (.cells #[.pointer none, .slice none 0 0] 52))) := Lib.hid (Lib.fresh_isBuilder 52 5 w5)
  have hal := (Below.refl w5.heap.size w5).alloc (Nat.le_refl _) (.cells #[.pointer none, .slice none 0 0] 52)
  have HAB := Lib.hid (on_below HA5.out HA5.out (EffW.refl C w5) hal)
  clear hal
  have hC5 : C < w5.heap.size := by omega
  go_wp2_with fail
  go_loopg [14, 61] (n + 1) (fun gas _ kv wr => ∃ (j k : Nat) (A : Bs), kv = .int .i64 (j : Int) ∧ j ≤ n ∧ n + 1 ≤ j + gas ∧ A.length ≤ 6597069766656 * j ∧ Hid (addF A (fieldsR O.data.toList L (fs.drop j) k) = R) ∧ Hid (AtW wr C (some ⟨g, o, none⟩) L cap O k) ∧ Hid (Bld w5.heap.size w5.heap.size A wr) ∧ Hid (EffW C w5 wr))
  case atStart => exact ⟨0, 0, [], rfl, by omega, by omega, by simp, HR0, Lib.hid HAB.out.1, HFB, Lib.hid HAB.out.2⟩
  case round =>
    clear HFB HAB HR0
    obtain ⟨j, k, A, rfl, hj, hjg, hAl, HW2, HA, HBD, HEE⟩ := hrel
    have HJG := Lib.hid hjg; clear hjg
    have HSS := Lib.hid (St.effC HS5.out HEE.out hC3)
    by_cases hlt : j < n
    · obtain ⟨f, hfj⟩ : ∃ f, fs[j]? = some f := ⟨_, List.getElem?_eq_getElem (by have := HNN.out; omega)⟩
      have hm := List.mem_of_getElem? hfj
      have HJ := Lib.hid hfj
      have CR := Lib.hid (CFD.out C k wr HA.out (HT5.out.eff HEE.out) f hm)
      have HLF := Lib.hid (fun k' d => HLEN.out k k' f d hm)
      have hcF : wr.cell? ⟨F, j, none⟩ = some (fldV f) := by
        have h := HRF.out j f hfj
        simp only [World.cell?] at h ⊢
        rw [HEE.out.kept F hF5 (by omega)]; exact h
      have hj0 : 0 ≤ (j : Int) := by omega
      have hji : (j : Int) < (n : Int) := by omega
      obtain ⟨Q, hQ⟩ : ∃ Q, fieldR O.data.toList L k f = Q := ⟨_, rfl⟩
      rw [hQ] at CR
      have HLQ := Lib.hid (fun k' d (e : Q = .ok (d, k')) => HLF.out k' d (hQ.trans e))
      have HBADQ := Lib.hid (fun y (e : Q = .error y) => HRE.out y (fields_bad HW2.out HJ.out (hQ.trans e)))
      have HGOQ := Lib.hid (fun d k' (e : Q = .ok (d, k')) => fields_go HW2.out HJ.out (hQ.trans e))
      clear hQ hm hfj HJ HLF HW2
      obtain ⟨fv, hfv⟩ : ∃ fv, fldV f = fv := ⟨_, rfl⟩
      rw [hfv] at hcF
      have HFV := Lib.hid hfv
      clear hfv
      go_upto_region 19 with fail
      have hfv := HFV.out
      subst hfv
      clear HFV hcF
      cases f <;> (
        simp only [fldV]
        simp only [funOf, recOf] at CR
        go_wp2_with fail
        refine CR.out.mono ?_
        rintro e w6 ⟨he6, h6⟩
        have HS6 := Lib.hid (St.effC HSS.out he6 hC3)
        cases Q with
        | error y =>
          have hRD := HBADQ.out y rfl
          subst hRD
          simp only at h6
          subst h6
          unfold faultE
          go_wp2_with fail
          exact door_no HS6.out _ rfl rfl rfl
        | ok y =>
          obtain ⟨d, k'⟩ := y
          obtain ⟨rfl, h6a⟩ := h6
          have HWN := Lib.hid (HGOQ.out d k' rfl)
          have hdl := HLQ.out k' d rfl
          obtain ⟨D, hD⟩ : ∃ D : ByteArray, (⟨d.toArray⟩ : ByteArray) = D := ⟨_, rfl⟩
          have hDd : D.data.toList = d := by rw [← hD]
          have hDs : D.size = d.length := by rw [← size_len, hDd]
          have he56 := HEE.out.trans he6
          have hsz6 := he56.size
          have CW := Lib.hid (ws w5.heap.size w5.heap.size A D w6 (bld_eff HBD.out he6 hC5) (by omega) hsz6)
          have HA6 := Lib.hid h6a; have HE6 := Lib.hid he56; have HDD := Lib.hid hDd; have HDL := Lib.hid hdl
          rw [hD]
          clear he6 h6a hD hDd hDs he56 hdl hsz6
          go_wp2_with fail
          refine CW.out.mono ?_
          rintro e w7 ⟨rfl, hb7, hB7⟩
          obtain ⟨hA7, he7⟩ := on_below HA5.out HA6.out HE6.out hB7
          rw [HDD.out] at hb7
          have HB8 := Lib.hid hb7; have HA8 := Lib.hid hA7; have HE8 := Lib.hid he7
          clear hb7 hB7 hA7 he7
          have hl7 : (A ++ d).length ≤ 6597069766656 * (j + 1) := by rw [List.length_append]; have := HDL.out; omega
          go_wp2_with fail
          have hjg := HJG.out
          go_roundg (gk - 1)
          case rel => exact ⟨j + 1, k', A ++ d, by go_num, by omega, by omega, hl7, HWN, HA8, HB8, HE8⟩
          case measure => omega)
    · have hRe := fields_end HW2.out (show fs.length ≤ j by have := HNN.out; omega)
      have hRD := HRO.out A k hRe
      have hji : (n : Int) ≤ (j : Int) := by omega
      have c0 := HA.out.c0; have c1 := HA.out.c1
      by_cases hkL : k < L.length
      · rw [if_pos hkL] at hRD
        subst hRD
        have hki : (k : Int) < (L.length : Int) := by omega
        clear hRe hlt hkL HW2
        go_wp2_with fail
        all_goals exact door_no (x := (k : Int)) (y := 2) HSS.out _ rfl rfl rfl
      · rw [if_neg hkL] at hRD
        have hki : (L.length : Int) ≤ (k : Int) := by omega
        have CL := Lib.hid (Tryz.Builder_Len _ _ _ wr HBD.out)
        rw [Lib.byteCells_length] at CL
        by_cases hlg : 65535 < A.length
        · rw [if_pos hlg] at hRD
          subst hRD
          have hli : (65535 : Int) < (A.length : Int) := by omega
          have cd := HSS.out.cd; have ca := HSS.out.ca; have ce := HSS.out.ce; have zd := HSS.out.zd; have za := HSS.out.za; have ze := HSS.out.ze
          clear hRe hlt hkL HW2 hlg
          go_wp2_with fail
          refine CL.out.mono ?_
          rintro e w6 ⟨rfl, rfl⟩
          go_wp2_with fail
          exact door_yes (set3 HSS.out ⟨#[]⟩ 0 12) _ rfl rfl rfl
        · rw [if_neg hlg] at hRD
          subst hRD
          have hli : (A.length : Int) ≤ 65535 := by omega
          have CSB := Lib.hid (Tryz.Builder_String_any _ _ A _ HBD.out HEE.out.size)
          clear hRe hlt hkL HW2 hlg
          go_wp2_with fail
          refine CL.out.mono ?_
          rintro e w6 ⟨rfl, rfl⟩
          go_wp2_with fail
          refine CSB.out.mono ?_
          rintro e w7 ⟨rfl, hB7⟩
          have HS7 := Lib.hid (St.effC HS5.out (on_below HA5.out HA.out HEE.out hB7).2 hC3)
          clear hB7 c0 c1
          have cd := HS7.out.cd; have ca := HS7.out.ca; have ce := HS7.out.ce; have zd := HS7.out.zd; have za := HS7.out.za; have ze := HS7.out.ze
          go_wp2_with fail
          exact door_yes (set3 HS7.out ⟨A.toArray⟩ 0 0) _ rfl rfl rfl
end Go.Proofs.YtkcpbjoolfojjaaGreatDoor.rdW
namespace Go.Proofs.YtkcpbjoolfojjaaGreatDoor.rdW
open Go.RowKit Go.Proofs.YtkcpbjoolfojjaaGreatDoor.kit Go.Proofs.YtkcpbjoolfojjaaGreatDoor.nspec Go.Proofs.YtkcpbjoolfojjaaGreatDoor.fld Go.Proofs.YtkcpbjoolfojjaaGreatDoor.formW Go.Proofs.YtkcpbjoolfojjaaGreatDoor.dcheck Go.Proofs.YtkcpbjoolfojjaaGreatDoor.rdP Go.Proofs.YtkcpbjoolfojjaaGreatDoor.rdQ Go.Proofs.YtkcpbjoolfojjaaGreatDoor.wd Go.Proofs.YtkcpbjoolfojjaaGreatDoor.wdF Go.Proofs.YtkcpbjoolfojjaaGreatDoor.rdDoor
set_option linter.unusedVariables false

/-- data.Read is readD -/
theorem read_any (t : Int) (a : Option Addr) (L : List Wo) (cap : Nat) (O : ByteArray) (w : World) (hin : In w a L cap) (hO : O.size ≤ 1048576) (ht : TabS w) :
    Calls Tryz.prog 5 #[.int .i64 t, .slice a L.length cap, .string O] w (ReadE w.heap.size w (readD t L O.data.toList)) := by
  cases hb : holdsB t with
  | false => exact read_type t a L cap O w hb
  | true =>
    cases ho : (nspec.split O.data.toList).isSome with
    | false => exact read_name t a L cap O w hb ho
    | true =>
      cases hsg : isSign L with
      | true => exact read_sign t a L cap O w hin hO ht hb ho hsg
      | false =>
        cases hL : L with
        | nil =>
          subst hL
          cases hf : formS t with
          | none => exact read_none_e t a [] cap O w hin hO ht hb ho hsg hf rfl
          | some fs => exact read_form_e t a [] cap O w hin hO ht hb ho hsg fs hf rfl
        | cons x r =>
          subst hL
          cases hq : x.q with
          | true =>
            cases hf : formS t with
            | none => exact read_none_q t a _ cap O w hin hO ht hb ho hsg hf x r rfl hq
            | some fs => exact read_form_q t a _ cap O w hin hO ht hb ho hsg fs hf x r rfl hq
          | false =>
            have hx : x.s.data.toList ≠ [92, 35] := by
              intro e
              simp [isSign, hq, e] at hsg
            cases hf : formS t with
            | none => exact read_none_t t a _ cap O w hin hO ht hb ho hsg hf x r rfl hq hx
            | some fs => exact read_form_t t a _ cap O w hin hO ht hb ho hsg fs hf x r rfl hq hx
end Go.Proofs.YtkcpbjoolfojjaaGreatDoor.rdW
namespace Go.Proofs.YtkcpbjoolfojjaaGreatDoor.spS
open Go.RowKit Go.Proofs.YtkcpbjoolfojjaaGreatDoor.kit Go.Proofs.YtkcpbjoolfojjaaGreatDoor.nspec Go.Proofs.YtkcpbjoolfojjaaGreatDoor.fld Go.Proofs.YtkcpbjoolfojjaaGreatDoor.dshow Go.Proofs.YtkcpbjoolfojjaaGreatDoor.rdP
set_option linter.unusedVariables false

def mk (l : Bs) : ByteArray := ⟨l.toArray⟩
/-- up to a quote: what stands ahead of it, and behind -/
def closeF : Nat → Bs → Option (Bs × Bs)
  | 0, _ => none
  | _ + 1, [] => none
  | f + 1, c :: r => if c = 34 then some ([], r) else if c = 92 then (match r with
      | [] => none
      | d :: t => (closeF f t).map fun p => (c :: d :: p.1, p.2)) else (closeF f r).map fun p => (c :: p.1, p.2)
def closeS (s : Bs) : Option (Bs × Bs) := closeF (s.length + 1) s
theorem close_fuel : ∀ (f g : Nat) (s : Bs), s.length < f → s.length < g → closeF f s = closeF g s
  | 0, _, _, h, _ => by omega
  | _ + 1, 0, _, _, h => by omega
  | f + 1, g + 1, [], _, _ => rfl
  | f + 1, g + 1, c :: r, h1, h2 => by
    simp only [List.length_cons] at h1 h2
    simp only [closeF]
    rw [close_fuel f g r (by omega) (by omega)]
    cases r with
    | nil => rfl
    | cons d t =>
      simp only [List.length_cons] at h1 h2
      simp only
      rw [close_fuel f g t (by omega) (by omega)]
theorem close_len : ∀ (f : Nat) (s x t : Bs), closeF f s = some (x, t) → s.length = x.length + 1 + t.length
  | 0, _, _, _, h => by simp [closeF] at h
  | f + 1, [], _, _, h => by simp [closeF] at h
  | f + 1, c :: r, x, t, h => by
    simp only [closeF] at h
    split at h
    · simp only [Option.some.injEq, Prod.mk.injEq] at h
      obtain ⟨rfl, rfl⟩ := h; simp; omega
    · split at h
      · cases r with
        | nil => simp at h
        | cons d u =>
          simp only at h
          cases hc : closeF f u with
          | none => rw [hc] at h; simp at h
          | some p =>
            rw [hc] at h
            simp only [Option.map_some, Option.some.injEq, Prod.mk.injEq] at h
            obtain ⟨rfl, rfl⟩ := h
            have := close_len f u p.1 p.2 hc
            simp only [List.length_cons]; omega
      · cases hc : closeF f r with
        | none => rw [hc] at h; simp at h
        | some p =>
          rw [hc] at h
          simp only [Option.map_some, Option.some.injEq, Prod.mk.injEq] at h
          obtain ⟨rfl, rfl⟩ := h
          have := close_len f r p.1 p.2 hc
          simp only [List.length_cons]; omega
theorem close_def (f : Nat) (c : UInt8) (r : Bs) : closeF (f + 1) (c :: r) = if c = 34 then some ([], r) else if c = 92 then (match r with
      | [] => none
      | d :: t => (closeF f t).map fun p => (c :: d :: p.1, p.2)) else (closeF f r).map fun p => (c :: p.1, p.2) := by rw [closeF.eq_def]; rfl
def plainB (c : UInt8) : Bool := c != 32
/-- a line's words; none: a quote that is not closed -/
def splitF : Nat → Bs → Option (List Wo)
  | 0, _ => none
  | _ + 1, [] => some []
  | f + 1, c :: r => if c = 32 then splitF f r else if c = 34 then (match closeS r with
      | none => none
      | some p => (splitF f p.2).map (⟨mk p.1, true⟩ :: ·))
    else (splitF f ((c :: r).dropWhile plainB)).map (⟨mk ((c :: r).takeWhile plainB), false⟩ :: ·)
def splitS (s : Bs) : Option (List Wo) := splitF (s.length + 1) s
theorem drop_le (p : UInt8 → Bool) (l : Bs) : (l.dropWhile p).length ≤ l.length := (List.dropWhile_sublist p).length_le
theorem split_fuel : ∀ (f g : Nat) (s : Bs), s.length < f → s.length < g → splitF f s = splitF g s
  | 0, _, _, h, _ => by omega
  | _ + 1, 0, _, _, h => by omega
  | f + 1, g + 1, [], _, _ => rfl
  | f + 1, g + 1, c :: r, h1, h2 => by
    simp only [List.length_cons] at h1 h2
    simp only [splitF]
    by_cases hc : c = 32
    · rw [if_pos hc, if_pos hc]; exact split_fuel f g r (by omega) (by omega)
    · rw [if_neg hc, if_neg hc]
      by_cases hq : c = 34
      · rw [if_pos hq, if_pos hq]
        cases hcl : closeS r with
        | none => rfl
        | some p =>
          have := close_len _ r p.1 p.2 hcl
          simp only
          rw [split_fuel f g p.2 (by omega) (by omega)]
      · rw [if_neg hq, if_neg hq]
        have e : (c :: r).dropWhile plainB = r.dropWhile plainB := by rw [List.dropWhile_cons_of_pos (by simp [plainB, hc])]
        have hl := drop_le plainB r
        rw [e, split_fuel f g (r.dropWhile plainB) (by omega) (by omega)]
theorem split_nil : splitS [] = some [] := rfl
theorem split_blank (r : Bs) : splitS (32 :: r) = splitS r := by
  unfold splitS
  rw [List.length_cons, splitF, if_pos rfl]
theorem split_quote {r : Bs} {p : Bs × Bs} (h : closeS r = some p) : splitS (34 :: r) = (splitS p.2).map (⟨mk p.1, true⟩ :: ·) := by
  have hl := close_len _ r p.1 p.2 h
  unfold splitS
  rw [List.length_cons, splitF, if_neg (by decide), if_pos rfl, h]
  simp only
  rw [split_fuel (r.length + 1) (p.2.length + 1) p.2 (by omega) (by omega)]
theorem split_open {r : Bs} (h : closeS r = none) : splitS (34 :: r) = none := by
  unfold splitS
  rw [List.length_cons, splitF, if_neg (by decide), if_pos rfl, h]
theorem split_word {c : UInt8} {r : Bs} (h1 : c ≠ 32) (h2 : c ≠ 34) : splitS (c :: r) = (splitS ((c :: r).dropWhile plainB)).map (⟨mk ((c :: r).takeWhile plainB), false⟩ :: ·) := by
  have e : (c :: r).dropWhile plainB = r.dropWhile plainB := by rw [List.dropWhile_cons_of_pos (by simp [plainB, h1])]
  have hl := drop_le plainB r
  unfold splitS
  rw [List.length_cons, splitF, if_neg h1, if_neg h2, split_fuel (r.length + 1) (((c :: r).dropWhile plainB).length + 1) _ (by rw [e]; omega) (by omega)]
/-- a word as it stands in a line -/
def textW (w : Wo) : Bs := if w.q then 34 :: (w.s.data.toList ++ [34]) else w.s.data.toList
def GoodW (w : Wo) : Prop := if w.q then ∀ T, closeS (w.s.data.toList ++ 34 :: T) = some (w.s.data.toList, T) else w.s.data.toList ≠ [] ∧ (∀ c ∈ w.s.data.toList, c ≠ 32) ∧ w.s.data.toList.head? ≠ some 34
theorem wo_eq {w : Wo} {b : Bool} (h : w.q = b) : (⟨mk w.s.data.toList, b⟩ : Wo) = w := by
  cases w with | mk s q => simp only at h; subst h; rfl
theorem take_plain {x T : Bs} (h : ∀ c ∈ x, c ≠ 32) (hT : T = [] ∨ ∃ r, T = 32 :: r) : (x ++ T).takeWhile plainB = x ∧ (x ++ T).dropWhile plainB = T := by
  induction x with
  | nil =>
    rcases hT with rfl | ⟨r, rfl⟩
    · exact ⟨rfl, rfl⟩
    · exact ⟨rfl, rfl⟩
  | cons c r ih =>
    have hc : plainB c = true := by simp [plainB, h c (by simp)]
    obtain ⟨i1, i2⟩ := ih (fun d hd => h d (by simp [hd]))
    rw [List.cons_append, List.takeWhile_cons_of_pos hc, List.dropWhile_cons_of_pos hc, i1, i2]
    exact ⟨rfl, rfl⟩
theorem split_one {w : Wo} {T : Bs} (h : GoodW w) (hT : T = [] ∨ ∃ r, T = 32 :: r) : splitS (textW w ++ T) = (splitS T).map (w :: ·) := by
  unfold GoodW at h
  unfold textW
  cases hq : w.q with
  | true =>
    rw [hq] at h
    simp only [if_true] at h ⊢
    rw [List.cons_append, List.append_assoc]
    have h1 := h T
    rw [show w.s.data.toList ++ ([34] ++ T) = w.s.data.toList ++ 34 :: T from rfl, split_quote h1]
    rw [wo_eq hq]
  | false =>
    rw [hq] at h
    simp only [Bool.false_eq_true, if_false] at h ⊢
    obtain ⟨h1, h2, h3⟩ := h
    obtain ⟨t1, t2⟩ := take_plain h2 hT
    cases hx : w.s.data.toList with
    | nil => exact absurd hx h1
    | cons c r =>
      rw [hx] at h2 h3 t1 t2
      rw [List.cons_append] at t1 t2 ⊢
      rw [split_word (h2 c (by simp)) (by simpa using h3), t1, t2, ← hx, wo_eq hq]
theorem split_tail : ∀ ws : List Wo, (∀ w ∈ ws, GoodW w) → splitS (ws.flatMap (fun w => 32 :: textW w)) = some ws
  | [], _ => rfl
  | w :: r, h => by
    have ih := split_tail r (fun x hx => h x (by simp [hx]))
    rw [List.flatMap_cons, List.cons_append, split_blank, split_one (h w (by simp)), ih]
    · rfl
    · cases r with
      | nil => exact .inl rfl
      | cons y t => exact .inr ⟨_, rfl⟩
/-- what is put together with blanks -/
theorem split_join (ws : List Wo) (h : ∀ w ∈ ws, GoodW w) : splitS (joinS (ws.map textW)) = some ws := by
  cases ws with
  | nil => rfl
  | cons w r =>
    show splitS (textW w ++ (r.map textW).flatMap (fun y => 32 :: y)) = _
    have e : (r.map textW).flatMap (fun y => (32 : UInt8) :: y) = r.flatMap (fun w => 32 :: textW w) := by rw [List.flatMap_map]
    rw [e, split_one (h w (by simp)), split_tail r (fun x hx => h x (by simp [hx]))]
    · rfl
    · cases r with
      | nil => exact .inl rfl
      | cons y t => exact .inr ⟨_, rfl⟩
/-- texts in quotes are closed where they end -/
theorem close_quote : ∀ (d T : Bs), closeS (d.flatMap quoteB ++ 34 :: T) = some (d.flatMap quoteB, T)
  | [], T => by unfold closeS; simp [closeF]
  | c :: r, T => by
    have ih := close_quote r T
    have hc := c.toNat_lt
    rw [List.flatMap_cons, List.append_assoc]
    obtain ⟨Z, hZ⟩ : ∃ Z, r.flatMap quoteB ++ 34 :: T = Z := ⟨_, rfl⟩
    rw [hZ] at ih ⊢
    have esc : ∀ (a : UInt8) (Y : Bs), closeS (92 :: a :: Y) = (closeS Y).map fun p => (92 :: a :: p.1, p.2) := by
      intro a Y
      unfold closeS
      rw [List.length_cons, close_def, if_neg (by decide), if_pos rfl]
      show (closeF ((a :: Y).length + 1) Y).map _ = _
      rw [close_fuel ((a :: Y).length + 1) (Y.length + 1) Y (by simp; omega) (by omega)]
    have one : ∀ (a : UInt8) (Y : Bs), a ≠ 34 → a ≠ 92 → closeS (a :: Y) = (closeS Y).map fun p => (a :: p.1, p.2) := by
      intro a Y h1 h2
      unfold closeS
      rw [List.length_cons, close_def, if_neg h1, if_neg h2]
    unfold quoteB
    by_cases h1 : c = 34 ∨ c = 92
    · rw [if_pos h1]
      show closeS (92 :: c :: Z) = _
      rw [esc, ih]; rfl
    · rw [if_neg h1]
      by_cases h2 : c.toNat < 32 ∨ 126 < c.toNat
      · rw [if_pos h2]
        obtain ⟨d1, d2, d3⟩ : (48 + c / 100).toNat = 48 + c.toNat / 100 ∧ (48 + c / 10 % 10).toNat = 48 + c.toNat / 10 % 10 ∧ (48 + c % 10).toNat = 48 + c.toNat % 10 := by
          refine ⟨?_, ?_, ?_⟩ <;> simp [UInt8.toNat_add, UInt8.toNat_div, UInt8.toNat_mod] <;> omega
        have ne : ∀ (a : UInt8), 48 ≤ a.toNat → a.toNat ≤ 57 → a ≠ 34 ∧ a ≠ 92 := fun a ha hb => ⟨fun e => by subst e; simp at ha, fun e => by subst e; simp at hb⟩
        have n2 := ne (48 + c / 10 % 10) (by omega) (by omega)
        have n3 := ne (48 + c % 10) (by omega) (by omega)
        show closeS (92 :: (48 + c / 100) :: (48 + c / 10 % 10) :: (48 + c % 10) :: Z) = _
        rw [esc, one _ _ n2.1 n2.2, one _ _ n3.1 n3.2, ih]
        rfl
      · rw [if_neg h2]
        have n1 : c ≠ 34 := fun e => h1 (.inl e)
        have n2 : c ≠ 92 := fun e => h1 (.inr e)
        show closeS (c :: Z) = _
        rw [one c Z n1 n2, ih]
        rfl
end Go.Proofs.YtkcpbjoolfojjaaGreatDoor.spS
namespace Go.Proofs.YtkcpbjoolfojjaaGreatDoor.join
open Go.RowKit Go.Proofs.YtkcpbjoolfojjaaGreatDoor.kit Go.Proofs.YtkcpbjoolfojjaaGreatDoor.check Go.Proofs.YtkcpbjoolfojjaaGreatDoor.nspec Go.Proofs.YtkcpbjoolfojjaaGreatDoor.rsplit Go.Proofs.YtkcpbjoolfojjaaGreatDoor.refA Go.Proofs.YtkcpbjoolfojjaaGreatDoor.bld Go.Proofs.YtkcpbjoolfojjaaGreatDoor.rcmp Go.Proofs.YtkcpbjoolfojjaaGreatDoor.rput

def badB (x : Bs) : Bool := decide (x.length < 1) || decide (63 < x.length)
def badL (ls : List Bs) : Bool := ls.any badB
def joinS (ls : List Bs) : Bs × Int := if badL ls then ([], 3) else if 254 < room ls then ([], 4) else (put ls, 0)
end Go.Proofs.YtkcpbjoolfojjaaGreatDoor.join
namespace Go.Proofs.YtkcpbjoolfojjaaGreatDoor.roundsP
open Go.Proofs.YtkcpbjoolfojjaaGreatDoor.kit Go.Proofs.YtkcpbjoolfojjaaGreatDoor.nspec Go.Proofs.YtkcpbjoolfojjaaGreatDoor.rput Go.Proofs.YtkcpbjoolfojjaaGreatDoor.rsplit Go.Proofs.YtkcpbjoolfojjaaGreatDoor.readS Go.Proofs.YtkcpbjoolfojjaaGreatDoor.showA Go.Proofs.YtkcpbjoolfojjaaGreatDoor.showB Go.Proofs.YtkcpbjoolfojjaaGreatDoor.join Go.Proofs.YtkcpbjoolfojjaaGreatDoor.refA
set_option linter.unusedVariables false

theorem escL_dig (c : UInt8) : (48 + c / 100).toNat = 48 + c.toNat / 100 ∧ (48 + c / 10 % 10).toNat = 48 + c.toNat / 10 % 10 ∧ (48 + c % 10).toNat = 48 + c.toNat % 10 := by
  have := c.toNat_lt
  refine ⟨?_, ?_, ?_⟩ <;> simp [UInt8.toNat_add, UInt8.toNat_div, UInt8.toNat_mod] <;> omega
theorem spec_yes {c : UInt8} (h : spec8.contains c = true) : c.toNat = 46 ∨ c.toNat = 92 ∨ c.toNat = 34 ∨ c.toNat = 40 ∨ c.toNat = 41 ∨ c.toNat = 59 ∨ c.toNat = 64 ∨ c.toNat = 36 := by
  unfold spec8 at h
  simp only [List.contains_cons, List.contains_nil, Bool.or_false, Bool.or_eq_true, beq_iff_eq] at h
  rcases h with h | h | h | h | h | h | h | h <;> subst h <;> simp
theorem spec_no {c : UInt8} (h : spec8.contains c = false) : c.toNat ≠ 46 ∧ c.toNat ≠ 92 := by
  refine ⟨fun e => ?_, fun e => ?_⟩
  · have : c = 46 := UInt8.toNat_inj.1 e
    subst this; simp [spec8] at h
  · have : c = 92 := UInt8.toNat_inj.1 e
    subst this; simp [spec8] at h
theorem piece_esc (c : UInt8) (T : Bs) : ∃ (h : UInt8) (t : Bs) (n : Nat), escB c ++ T = h :: t ∧ h.toNat ≠ 46 ∧ pieceS (h :: t) = some (c, n) ∧ (h :: t).drop n = T := by
  rcases escB_cases c with ⟨h1, h2⟩ | ⟨h1, h2, h3⟩ | ⟨h1, h2, h3, h4⟩
  · refine ⟨92, c :: T, 2, by rw [h2]; rfl, by decide, ?_, rfl⟩
    have hd : digB c = false := digB_no (by have := spec_yes h1; omega)
    unfold pieceS; simp only
    rw [if_pos (by decide)]
    unfold escS; simp only
    rw [if_pos hd]
  · obtain ⟨d1, d2, d3⟩ := escL_dig c
    have hc := c.toNat_lt
    refine ⟨92, escL c ++ T, 4, by rw [h2]; rfl, by decide, ?_, rfl⟩
    unfold pieceS; simp only
    rw [if_pos (by decide)]
    unfold escL escS; simp only [List.cons_append, List.nil_append]
    have y1 : digB (48 + c / 100) = true := digB_yes (by omega)
    have y2 : digB (48 + c / 10 % 10) = true := digB_yes (by omega)
    have y3 : digB (48 + c % 10) = true := digB_yes (by omega)
    rw [if_neg (by rw [y1]; simp), y2, y3, d1, d2, d3]
    have e : (48 + c.toNat / 100 - 48) * 100 + (48 + c.toNat / 10 % 10 - 48) * 10 + (48 + c.toNat % 10 - 48) = c.toNat := by omega
    rw [e, if_pos (by decide), if_neg (by omega)]
    simp
  · obtain ⟨n1, n2⟩ := spec_no h1
    refine ⟨c, T, 1, by rw [h2]; rfl, n1, ?_, rfl⟩
    unfold pieceS; simp only
    rw [if_neg n2]
theorem rd_lab (l : List Bs) (first : Nat) (T : Bs) : ∀ (x now : Bs) (k : Nat), now.length + x.length ≤ 63 → ∃ k', rd l now first k (x.flatMap escB ++ T) = rd l (now ++ x) first k' T
  | [], now, k, _ => ⟨k, by simp⟩
  | c :: r, now, k, h => by
    simp only [List.length_cons] at h
    obtain ⟨h1, t, n, e1, e2, e3, e4⟩ := piece_esc c (r.flatMap escB ++ T)
    obtain ⟨k', e⟩ := rd_lab l first T r (now ++ [c]) (k + n) (by simp; omega)
    refine ⟨k', ?_⟩
    rw [List.flatMap_cons, List.append_assoc, e1, rd_go e2 e3 (by omega), e4, e, List.append_assoc]; rfl
theorem rd_show : ∀ (r l : List Bs) (first k : Nat), okL r → rd l [] first k (showL r) = .ok (l ++ r, [])
  | [], l, first, k, _ => by simp [showL, rd_nil]
  | x :: r, l, first, k, h => by
    obtain ⟨⟨h1, h2⟩, h3⟩ := okL_cons.1 h
    have e : showL (x :: r) = x.flatMap escB ++ (46 :: showL r) := by simp [showL, labSh]
    obtain ⟨k', e2⟩ := rd_lab l first (46 :: showL r) x [] k (by simp; omega)
    rw [e, e2, rd_dot (by decide) (by simp; intro e3; subst e3; simp at h1), rd_show r _ _ _ h3]
    simp
theorem show_two {x : Bs} {r : List Bs} (h : 1 ≤ x.length) : 2 ≤ (showL (x :: r)).length := by
  cases x with
  | nil => simp at h
  | cons c t =>
    have : 1 ≤ (escB c).length := by
      obtain ⟨h1, t, n, e1, _⟩ := piece_esc c []
      rw [List.append_nil] at e1; rw [e1]; simp
    simp only [showL, labSh, List.flatMap_cons, List.length_append, List.length_cons, List.length_nil]; omega
theorem read_show {n origin : Bs} {ls base : List Bs} (h : IsN n ls) (ho : IsN origin base) : readS (showS n) origin = (n, 0, 0) := by
  unfold readS
  rw [split_iff.2 ho]; simp only
  cases ls with
  | nil =>
    have e : showS n = [46] := by unfold showS; rw [split_iff.2 h]
    rw [e, if_neg (by simp), if_neg (by decide), if_pos rfl, h.1]; rfl
  | cons x r =>
    have e : showS n = showL (x :: r) := by unfold showS; rw [split_iff.2 h]
    have h2 := show_two (x := x) (r := r) (okL_cons.1 h.2.1).1.1
    have hr := isN_room h
    rw [e, if_neg (by intro e2; rw [e2] at h2; simp at h2), if_neg (by intro e2; rw [e2] at h2; simp at h2), if_neg (by intro e2; rw [e2] at h2; simp at h2)]
    rw [rd_show _ _ _ _ h.2.1]
    simp only [resS, finS, endL, List.nil_append, if_true]
    rw [if_neg (by omega), h.1]
end Go.Proofs.YtkcpbjoolfojjaaGreatDoor.roundsP
namespace Go.Proofs.YtkcpbjoolfojjaaGreatDoor.order32
open Go.Proofs.YtkcpbjoolfojjaaGreatDoor.kit Go.Proofs.YtkcpbjoolfojjaaGreatDoor.bits Go.Proofs.YtkcpbjoolfojjaaGreatDoor.back Go.Proofs.YtkcpbjoolfojjaaGreatDoor.low Go.Proofs.YtkcpbjoolfojjaaGreatDoor.to32 Go.Proofs.YtkcpbjoolfojjaaGreatDoor.spread

theorem ofb_lt (l : List Nat) (h : ∀ x ∈ l, x ≤ 1) : ofb l < 2 ^ l.length := by
  induction l with
  | nil => simp [ofb]
  | cons b r ih =>
    have hb := h b (by simp)
    have hr := ih (fun x hx => h x (by simp [hx]))
    rw [ofb_cons, List.length_cons, Nat.pow_succ]
    have : b * 2 ^ r.length ≤ 1 * 2 ^ r.length := Nat.mul_le_mul_right _ hb
    omega
theorem tob_ofb (l : List Nat) (h : ∀ x ∈ l, x ≤ 1) : tob (ofb l) l.length = l := by
  induction l with
  | nil => rfl
  | cons b r ih =>
    have hb := h b (by simp)
    have hr := fun x hx => h x (List.mem_cons_of_mem b hx)
    have hlt := ofb_lt r hr
    have hp := Nat.two_pow_pos r.length
    rw [List.length_cons, tob, ofb_cons]
    have e1 : (b * 2 ^ r.length + ofb r) / 2 ^ r.length % 2 = b := by
      rw [Nat.add_comm, Nat.add_mul_div_right _ _ hp, Nat.div_eq_of_lt hlt]; omega
    have e2 : tob (b * 2 ^ r.length + ofb r) r.length = r := by
      rw [← tob_mod _ _ r.length (Nat.le_refl _), Nat.add_comm, Nat.add_mul_mod_self_right, Nat.mod_eq_of_lt hlt, ih hr]
    rw [e1, e2]
/-- what is written is read -/
theorem dec_enc (n : Nat) (al : List UInt8) (val : UInt8 → Option Nat) (hn : 1 ≤ n) (hv : ∀ v, v < 2 ^ n → val (al.getD v 0) = some v) : ∀ (f : Nat) (l : List Nat), l.length ≤ f → (∀ x ∈ l, x ≤ 1) →
    ∃ z, z < n ∧ spreadS n val (enc n al l) = some (l ++ List.replicate z 0)
  | f, [], _, _ => ⟨0, hn, by simp [enc_nil, spreadS]⟩
  | 0, b :: r, h, _ => by simp at h
  | f + 1, b :: r, h, h1 => by
    have hne : b :: r ≠ [] := by simp
    by_cases hl : n ≤ (b :: r).length
    · have ht : ((b :: r) ++ List.replicate n 0).take n = (b :: r).take n := List.take_append_of_le_length hl
      have hlen : ((b :: r).take n).length = n := by rw [List.length_take]; omega
      have h2 : ∀ x ∈ (b :: r).take n, x ≤ 1 := fun x hx => h1 x (List.mem_of_mem_take hx)
      have hlt := ofb_lt _ h2
      rw [hlen] at hlt
      obtain ⟨z, hz, e⟩ := dec_enc n al val hn hv f ((b :: r).drop n) (by rw [List.length_drop]; omega) (fun x hx => h1 x (List.mem_of_mem_drop hx))
      refine ⟨z, hz, ?_⟩
      have e2 := tob_ofb _ h2
      rw [hlen] at e2
      rw [enc_step al hn hne, ht, spread_cons_some (hv _ hlt), e, e2]
      simp only [Option.map_some, ← List.append_assoc, List.take_append_drop]
    · have hle : (b :: r).length ≤ n := by omega
      refine ⟨n - (b :: r).length, by rw [List.length_cons]; omega, ?_⟩
      have ht : ((b :: r) ++ List.replicate n 0).take n = (b :: r) ++ List.replicate (n - (b :: r).length) 0 := by
        rw [List.take_append, List.take_of_length_le hle, List.take_replicate]; congr 2; omega
      have h2 : ∀ x ∈ (b :: r) ++ List.replicate (n - (b :: r).length) 0, x ≤ 1 := by
        intro x hx
        rcases List.mem_append.1 hx with hx | hx
        · exact h1 x hx
        · rw [List.mem_replicate] at hx; omega
      have hlen : ((b :: r) ++ List.replicate (n - (b :: r).length) 0).length = n := by rw [List.length_append, List.length_replicate]; omega
      have hlt := ofb_lt _ h2
      rw [hlen] at hlt
      have e2 := tob_ofb _ h2
      rw [hlen] at e2
      have hd : (b :: r).drop n = [] := by rw [List.drop_eq_nil_iff]; exact hle
      rw [enc_step al hn hne, ht, hd, enc_nil, spread_cons_some (hv _ hlt), e2]
      simp [spreadS]
theorem whole_bits (most z : Nat) (hz : z < most) (hz8 : z < 8) : ∀ l : List UInt8, whole most (bitsL l ++ List.replicate z 0) = some l
  | [] => by
    rw [show bitsL [] ++ List.replicate z 0 = List.replicate z 0 from rfl, whole_end (by rw [List.length_replicate]; exact hz8)]
    have : zeros (List.replicate z 0) = true := by simp [zeros]
    rw [this, List.length_replicate]; simp [hz]
  | c :: r => by
    rw [bits_cons, List.append_assoc, whole_byte, whole_bits most z hz hz8 r]
    simp
theorem val_letter32 : ∀ v, v < 2 ^ 5 → val32 (set32.getD v 0) = some v := by decide +kernel
theorem back_to (l : List UInt8) : from32S (to32S l) = some l := by
  obtain ⟨z, hz, e⟩ := dec_enc 5 set32 val32 (by omega) val_letter32 (bitsL l).length (bitsL l) (Nat.le_refl _) (coded.bitsL_01 l)
  unfold from32S to32S backS
  rw [e]
  simp only [Option.bind_some, List.nil_append]
  rw [whole_bits 5 z hz (by omega)]; simp

end Go.Proofs.YtkcpbjoolfojjaaGreatDoor.order32
namespace Go.Proofs.YtkcpbjoolfojjaaGreatDoor.rdE
open Go.RowKit Go.Proofs.YtkcpbjoolfojjaaGreatDoor.kit Go.Proofs.YtkcpbjoolfojjaaGreatDoor.nspec Go.Proofs.YtkcpbjoolfojjaaGreatDoor.bits Go.Proofs.YtkcpbjoolfojjaaGreatDoor.back Go.Proofs.YtkcpbjoolfojjaaGreatDoor.fld Go.Proofs.YtkcpbjoolfojjaaGreatDoor.tname Go.Proofs.YtkcpbjoolfojjaaGreatDoor.val Go.Proofs.YtkcpbjoolfojjaaGreatDoor.dshow Go.Proofs.YtkcpbjoolfojjaaGreatDoor.rdP Go.Proofs.YtkcpbjoolfojjaaGreatDoor.rdQ Go.Proofs.YtkcpbjoolfojjaaGreatDoor.spS Go.Proofs.YtkcpbjoolfojjaaGreatDoor.order32
set_option linter.unusedVariables false

/-- a number's digits, read -/
theorem num_app (a b : Bs) (v : Int) (h : 0 ≤ v) : ∀ (A : Bs), (∀ c ∈ A, 48 ≤ c.toNat ∧ c.toNat ≤ 57) → cnt.numS v (A ++ b) = cnt.numS (cnt.numS v A) b
  | [], _ => rfl
  | c :: r, hA => by
    obtain ⟨h1, h2⟩ := hA c (by simp)
    rw [List.cons_append, cnt.num_yes h1 h2, cnt.num_yes h1 h2]
    exact num_app a b _ (by omega) r (fun d hd => hA d (by simp [hd]))
theorem dec_dig : ∀ (n v : Nat), v < n → ∀ c ∈ Lib.decDigits v, 48 ≤ c.toNat ∧ c.toNat ≤ 57
  | 0, v, h => by omega
  | n + 1, v, h => by
    intro c hc
    by_cases h10 : v < 10
    · rw [dec_base h10] at hc
      simp only [List.mem_singleton] at hc
      subst hc
      rw [UInt8.toNat_ofNat']; omega
    · rw [dec_step h10, List.mem_append] at hc
      rcases hc with hc | hc
      · exact dec_dig n (v / 10) (by omega) c hc
      · simp only [List.mem_singleton] at hc
        subst hc
        rw [UInt8.toNat_ofNat']; omega
theorem num_dec : ∀ (n v : Nat), v < n → cnt.numS 0 (Lib.decDigits v) = (v : Int)
  | 0, v, h => by omega
  | n + 1, v, h => by
    by_cases h10 : v < 10
    · rw [dec_base h10, cnt.num_yes (by rw [UInt8.toNat_ofNat']; omega) (by rw [UInt8.toNat_ofNat']; omega), cnt.num_end, UInt8.toNat_ofNat']
      omega
    · rw [dec_step h10, num_app [] _ 0 (by omega) _ (dec_dig _ _ (Nat.lt_succ_self _)), num_dec n (v / 10) (by omega), cnt.num_yes (by rw [UInt8.toNat_ofNat']; omega) (by rw [UInt8.toNat_ofNat']; omega), cnt.num_end, UInt8.toNat_ofNat']
      omega
theorem dec_ne (v : Nat) : Lib.decDigits v ≠ [] := by
  by_cases h10 : v < 10
  · rw [dec_base h10]; simp
  · rw [dec_step h10]; simp
theorem count_dec (v size : Nat) (top : Int) (h : (v : Int) ≤ top) (hl : (Lib.decDigits v).length ≤ size) : cnt.countS (Lib.decDigits v) size top = (v : Int) := by
  rw [cnt.count_in (dec_ne v) hl (num_dec _ v (Nat.lt_succ_self _)), if_neg (by omega)]
/-- bytes as a number, and back -/
theorem val_app : ∀ (l : Bs) (c : UInt8) (v : Nat), valL (l ++ [c]) v = valL l v * 256 + c.toNat
  | [], c, v => rfl
  | d :: r, c, v => val_app r c _
theorem big_val : ∀ (n : Nat) (l : Bs), l.length = n → big.bigS (valL l 0) n = l
  | 0, l, h => by rw [List.eq_nil_of_length_eq_zero h]; rfl
  | n + 1, l, h => by
    obtain ⟨a, c, rfl⟩ : ∃ a c, l = a ++ [c] := ⟨l.dropLast, l.getLast (by intro e; rw [e] at h; simp at h), (List.dropLast_concat_getLast _).symm⟩
    have hc := c.toNat_lt
    rw [List.length_append] at h
    have ha : a.length = n := by simpa using h
    rw [val_app, big.bigS, show (valL a 0 * 256 + c.toNat) / 256 = valL a 0 by omega, show (valL a 0 * 256 + c.toNat) % 256 = c.toNat by omega, big_val n a ha]
    simp
theorem num_back {n : Nat} {x : Bs} (hn : n = 1 ∨ n = 2 ∨ n = 4) (hx : x.length = n) : numR n (Lib.decDigits (valL x 0)) = some x := by
  have hlt := valL_lt x 0
  rw [hx] at hlt
  have hv : valL x 0 < 4294967296 ∧ ((valL x 0 : Nat) : Int) ≤ ((2 ^ (8 * n) - 1 : Nat) : Int) := by
    rcases hn with rfl | rfl | rfl <;> simp at hlt ⊢ <;> omega
  have hc := count_dec (valL x 0) 10 ((2 ^ (8 * n) - 1 : Nat) : Int) hv.2 (dec_len 9 _ (by omega))
  unfold numR
  rw [hc, if_neg (by omega), Int.toNat_natCast, big_val n x hx]
/-- a type's word, read -/
theorem type_back {t : Int} (h1 : 1 ≤ t) (h2 : t ≤ 65535) : typeofP.typeOfD (tnameS t) = t := by
  rw [typeofP.typeof_same]
  unfold typeofR.typeOfS
  by_cases hm : mnemS t = []
  · have hd := itoa_nat (t := t) (by omega)
    obtain ⟨v, rfl⟩ : ∃ v : Nat, t = (v : Int) := ⟨t.toNat, by omega⟩
    have hw : low.lowL (tnameS (v : Int)) = typeofR.wordT ++ Lib.decDigits v := by
      rw [tname_in hm h1 h2, hd, Int.toNat_natCast]
      unfold low.lowL
      rw [List.map_append]
      congr 1
      have : ∀ c ∈ Lib.decDigits v, low.lowB c = c := fun c hc => low.lowB_id c (by have := dec_dig _ v (Nat.lt_succ_self _) c hc; omega)
      rw [List.map_congr_left this, List.map_id']
    rw [hw, typeofP.hit_word (by rfl)]
    unfold typeofR.restS
    have hne := dec_ne v
    have hlen : 1 ≤ (Lib.decDigits v).length := by
      rcases Nat.eq_zero_or_pos (Lib.decDigits v).length with h | h
      · exact absurd (List.eq_nil_of_length_eq_zero h) hne
      · exact h
    have hcnt := count_dec v 5 65535 h2 (dec_len 4 _ (by omega))
    rw [if_neg (by rintro (h | h); · rw [List.length_append, show typeofR.wordT.length = 4 from rfl] at h; omega
                   · exact h rfl)]
    rw [show (typeofR.wordT ++ Lib.decDigits v).drop 4 = Lib.decDigits v from rfl, hcnt, if_neg (by omega)]
    rfl
  · rw [typeofR.hit_yes (t := t) hm (L := low.lowL (tnameS t)) (by rw [tname_yes rfl (by cases h : mnemS t with | nil => exact absurd h hm | cons _ _ => rfl)])]
    rfl
/-- digits of sixteen, read -/
theorem val16_letter : ∀ v, v < 2 ^ 4 → val16 (set16.getD v 0) = some v := by decide +kernel
theorem val64_letter : ∀ v, v < 2 ^ 6 → val64 (set64.getD v 0) = some v := by decide +kernel
theorem hex_back (d : Bs) : unhexS (hexS d) = some d := by
  obtain ⟨z, hz, e⟩ := dec_enc 4 set16 val16 (by omega) val16_letter (bitsL d).length (bitsL d) (Nat.le_refl _) (coded.bitsL_01 d)
  have hl := spread_len 4 val16 _ _ e
  rw [List.length_append, List.length_replicate, bitsL_len] at hl
  have hh := hex_len d
  have hz0 : z = 0 := by
    have : (enc 4 set16 (bitsL d)).length = 2 * d.length := hh
    omega
  subst hz0
  unfold unhexS
  rw [hh, if_neg (by omega)]
  unfold hexS
  rw [e]
  exact whole_bits 1 0 (by omega) (by omega) d
theorem last_ne {n : Nat} {val : UInt8 → Option Nat} {s : Bs} {l : List Nat} (h : spreadS n val s = some l) : ∀ c ∈ s, val c ≠ none := by
  induction s generalizing l with
  | nil => intro c hc; simp at hc
  | cons a r ih =>
    intro c hc
    cases ha : val a with
    | none => rw [spread_cons_none ha] at h; cases h
    | some v =>
      rw [spread_cons_some ha] at h
      cases hr : spreadS n val r with
      | none => rw [hr] at h; cases h
      | some q =>
        rcases List.mem_cons.1 hc with rfl | hc
        · rw [ha]; simp
        · exact ih hr c hc
theorem pad_back {s : Bs} (h : ∀ c ∈ s, c ≠ 61) (h1 : s.length % 4 ≠ 1) : padN (padS s) = (4 - s.length % 4) % 4 ∧ (padS s).take ((padS s).length - (4 - s.length % 4) % 4) = s ∧ (padS s).length % 4 = 0 := by
  have hlast : s.getLast? ≠ some 61 := by
    intro e
    exact h 61 (List.mem_of_getLast? e) rfl
  have h3 : s.length % 4 = 0 ∨ s.length % 4 = 2 ∨ s.length % 4 = 3 := by omega
  unfold padS
  rcases h3 with h3 | h3 | h3
  · rw [h3]
    refine ⟨?_, ?_, ?_⟩
    · show padN (s ++ []) = 0
      rw [List.append_nil]
      unfold padN; rw [if_neg hlast]
    · show (s ++ []).take _ = s
      rw [List.append_nil]; simp
    · show (s ++ []).length % 4 = 0
      rw [List.append_nil]; exact h3
  · rw [h3]
    have e : List.replicate ((4 - 2) % 4) (61 : UInt8) = [61, 61] := rfl
    rw [e]
    refine ⟨?_, ?_, ?_⟩
    · unfold padN
      rw [if_pos (by simp [List.getLast?_append]), if_pos]
      rw [show s ++ [61, 61] = (s ++ [61]) ++ [61] by simp, List.dropLast_concat]
      simp [List.getLast?_append]
    · rw [List.length_append, show ([61, 61] : Bs).length = 2 from rfl, show (4 - 2) % 4 = 2 from rfl, Nat.add_sub_cancel]
      simp
    · rw [List.length_append]; simp; omega
  · rw [h3]
    have e : List.replicate ((4 - 3) % 4) (61 : UInt8) = [61] := rfl
    rw [e]
    refine ⟨?_, ?_, ?_⟩
    · unfold padN
      rw [if_pos (by simp [List.getLast?_append]), if_neg]
      rw [List.dropLast_concat]; exact hlast
    · rw [List.length_append, show ([61] : Bs).length = 1 from rfl, show (4 - 3) % 4 = 1 from rfl, Nat.add_sub_cancel]
      simp
    · rw [List.length_append]; simp; omega
theorem b64_back {d : Bs} (hd : d ≠ []) : unb64S (b64S d) = some d := by
  obtain ⟨z, hz, e⟩ := dec_enc 6 set64 val64 (by omega) val64_letter (bitsL d).length (bitsL d) (Nat.le_refl _) (coded.bitsL_01 d)
  have hl := spread_len 6 val64 _ _ e
  rw [List.length_append, List.length_replicate, bitsL_len] at hl
  have hne := last_ne e
  obtain ⟨s, hs⟩ : ∃ s, enc 6 set64 (bitsL d) = s := ⟨_, rfl⟩
  have hb : b64S d = padS s := by unfold b64S; rw [hs]
  rw [hs] at e hl hne
  have h61 : ∀ c ∈ s, c ≠ 61 := fun c hc e' => hne c hc (by rw [e']; exact val64_pad)
  obtain ⟨p1, p2, p3⟩ := pad_back h61 (by omega)
  have hdl : 1 ≤ d.length := by
    rcases Nat.eq_zero_or_pos d.length with h | h
    · exact absurd (List.eq_nil_of_length_eq_zero h) hd
    · exact h
  unfold unb64S
  rw [hb, if_neg, p1, p2, e]
  · exact whole_bits 6 z hz (by omega) d
  · rintro (h | h)
    · have h0 : s = [] := (List.append_eq_nil_iff.1 h).1
      rw [h0, List.length_nil] at hl
      omega
    · exact h p3
/-- a text in quotes, read -/
theorem piece_quote (c : UInt8) (T : Bs) : ∃ n, readS.pieceS (quoteB c ++ T) = some (c, n) ∧ (quoteB c ++ T).drop n = T := by
  have hc := c.toNat_lt
  unfold quoteB
  by_cases h1 : c = 34 ∨ c = 92
  · rw [if_pos h1]
    refine ⟨2, ?_, rfl⟩
    have hd : readS.digB c = false := by
      rcases h1 with rfl | rfl <;> decide
    show readS.pieceS (92 :: c :: T) = _
    unfold readS.pieceS; simp only
    rw [if_pos (by decide)]
    unfold readS.escS; simp only
    rw [if_pos hd]
  · rw [if_neg h1]
    by_cases h2 : c.toNat < 32 ∨ 126 < c.toNat
    · rw [if_pos h2]
      obtain ⟨d1, d2, d3⟩ := roundsP.escL_dig c
      refine ⟨4, ?_, rfl⟩
      show readS.pieceS (92 :: (showA.escL c ++ T)) = _
      unfold readS.pieceS; simp only
      rw [if_pos (by decide)]
      unfold showA.escL readS.escS; simp only [List.cons_append, List.nil_append]
      have dy : ∀ a : UInt8, 48 ≤ a.toNat → a.toNat ≤ 57 → readS.digB a = true := fun a ha hb => by unfold readS.digB; simp [ha, hb]
      have y1 := dy (48 + c / 100) (by omega) (by omega)
      have y2 := dy (48 + c / 10 % 10) (by omega) (by omega)
      have y3 := dy (48 + c % 10) (by omega) (by omega)
      rw [if_neg (by rw [y1]; simp), y2, y3, d1, d2, d3]
      have e : (48 + c.toNat / 100 - 48) * 100 + (48 + c.toNat / 10 % 10 - 48) * 10 + (48 + c.toNat % 10 - 48) = c.toNat := by omega
      rw [e, if_pos (by decide), if_neg (by omega)]
      simp
    · rw [if_neg h2]
      refine ⟨1, ?_, rfl⟩
      have n2 : c.toNat ≠ 92 := fun e => h1 (.inr (UInt8.toNat_inj.1 e))
      show readS.pieceS (c :: T) = _
      unfold readS.pieceS; simp only
      rw [if_neg n2]
theorem loose_quote : ∀ d : Bs, looseS (d.flatMap quoteB) = some d
  | [] => rfl
  | c :: r => by
    obtain ⟨n, h1, h2⟩ := piece_quote c (r.flatMap quoteB)
    have h3 := loose_go (A := []) (s := quoteB c ++ r.flatMap quoteB) (c := c) (n := n) (R := (looseS (quoteB c ++ r.flatMap quoteB)).map ([] ++ ·)) rfl h1
    rw [h2, loose_quote r] at h3
    rw [List.flatMap_cons]
    cases hx : looseS (quoteB c ++ r.flatMap quoteB) with
    | none => rw [hx] at h3; cases h3
    | some y =>
      rw [hx] at h3
      simp only [List.nil_append, Option.map_some, Option.some.injEq] at h3
      rw [← h3]; rfl
/-- a length and so many bytes -/
theorem len_back {c : UInt8} {r : Bs} (h : c.toNat = r.length) : lenR (some r) = some (c :: r) := by
  have hc := c.toNat_lt
  unfold lenR; simp only
  rw [if_neg (by omega), ← h]
  simp
theorem text_parts {x : Bs} (h : textS x = (x.length : Int)) : ∃ c r, x = c :: r ∧ c.toNat = r.length := by
  cases x with
  | nil => simp [textS] at h
  | cons c r =>
    refine ⟨c, r, rfl, ?_⟩
    simp only [textS, List.length_cons] at h
    split at h <;> omega
theorem salt_back {x : Bs} (h : textS x = (x.length : Int)) : saltR (dshow.saltS x) = some x := by
  obtain ⟨c, r, rfl, hc⟩ := text_parts h
  unfold dshow.saltS
  by_cases hr : r = []
  · subst hr
    have : c = 0 := UInt8.toNat_inj.1 (by simpa using hc)
    subst this
    rfl
  · have h2 := hex_len r
    have hrl : 1 ≤ r.length := by
      rcases Nat.eq_zero_or_pos r.length with h | h
      · exact absurd (List.eq_nil_of_length_eq_zero h) hr
      · exact h
    rw [if_neg (by rw [List.length_cons]; omega), List.drop_one, List.tail_cons]
    unfold saltR
    rw [if_neg (by intro e; rw [e] at h2; simp at h2; omega), hex_back]
    unfold someR; simp only
    rw [if_neg hr]
    exact len_back hc
theorem hash_back {x : Bs} (h : ¬ (x = [] ∨ x.getD 0 0 = 0)) (h2 : textS x = (x.length : Int)) : hashR (to32.to32S (x.drop 1)) = some x := by
  obtain ⟨c, r, rfl, hc⟩ := text_parts h2
  have hr : r ≠ [] := by
    rintro rfl
    apply h
    right
    have : c = 0 := UInt8.toNat_inj.1 (by simpa using hc)
    subst this; rfl
  unfold hashR
  rw [List.drop_one, List.tail_cons, back_to]
  unfold someR; simp only
  rw [if_neg hr]
  exact len_back hc
end Go.Proofs.YtkcpbjoolfojjaaGreatDoor.rdE

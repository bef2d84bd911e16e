/- The law NameRounds: walk. -/
import Derived.Test.YthblaldkpjilhaaRoundsQ
import Derived.Test.YthblaldkpjilhaaNameShow
import Derived.Test.YthblaldkpjilhaaNameRead
import Derived.Deep.DeepCutAuto
namespace Go.Proofs.Ythblaldkpjilhaa.nrounds
open Go.RowKit Go.Proofs.Ythblaldkpjilhaa.kit Go.Proofs.Ythblaldkpjilhaa.check Go.Proofs.Ythblaldkpjilhaa.nspec Go.Proofs.Ythblaldkpjilhaa.rsplit Go.Proofs.Ythblaldkpjilhaa.low Go.Proofs.Ythblaldkpjilhaa.refA Go.Proofs.Ythblaldkpjilhaa.refB Go.Proofs.Ythblaldkpjilhaa.nameA Go.Proofs.Ythblaldkpjilhaa.nameB Go.Proofs.Ythblaldkpjilhaa.nameL Go.Proofs.Ythblaldkpjilhaa.readS Go.Proofs.Ythblaldkpjilhaa.showB Go.Proofs.Ythblaldkpjilhaa.nshow Go.Proofs.Ythblaldkpjilhaa.nread Go.Proofs.Ythblaldkpjilhaa.join Go.Proofs.Ythblaldkpjilhaa.roundsP Go.Proofs.Ythblaldkpjilhaa.roundsQ
set_option linter.unusedVariables false

def wwwT : Bs := [119, 119, 119, 46, 69, 120, 97, 109, 112, 108, 101, 46]
def wwwN : Bs := [3, 119, 119, 119, 7, 69, 120, 97, 109, 112, 108, 101, 0]
theorem k1 : readS wwwT [0] = (wwwN, 0, 0) := by decide
theorem k2 : showS wwwN = wwwT := by decide

theorem chk_long {n : ByteArray} (h : 255 < (n.size : Int)) : chkE n = 1 := by unfold chkE; rw [if_pos (by omega)]
theorem check_all (n : ByteArray) (w : World) :
    Calls Try.prog 16 #[.string n] w fun e w' => e = .returned (.int .i64 (chkE n)) ∧ Below w.heap.size w w' := by
  by_cases h1 : 255 < (n.size : Int)
  · exact check_long n w h1
  · exact check_any n w (by omega)
theorem check_no (n : ByteArray) (w : World) (h : split n.data.toList = none) :
    Calls Try.prog 16 #[.string n] w fun e w' => e = .returned (.int .i64 1) ∧ Below w.heap.size w w' := by
  by_cases h1 : 255 < (n.size : Int)
  · rw [← chk_long h1]; exact check_long n w h1
  · rw [← chk_no h]; exact check_any n w (by omega)
set_option maxRecDepth 100000 in
theorem show_out (n : ByteArray) (w : World) (h : split n.data.toList = none) :
    Calls Try.prog 15 #[.string n] w fun e w' => e = .returned (.string ⟨#[]⟩) ∧ Below w.heap.size w w' := by
  go_enter Try.func15, Try.ntmps15
  go_wp2_with fail
  refine (check_no n _ h).mono ?_
  rintro e w1 ⟨rfl, hB1⟩
  go_wp2_with fail
  go_ret
  exact ⟨rfl, hB1⟩
set_option maxRecDepth 100000 in
theorem fold_out (n : ByteArray) (w : World) (h : split n.data.toList = none) :
    Calls Try.prog 17 #[.string n] w fun e w' => e = .returned (.string ⟨#[]⟩) ∧ Below w.heap.size w w' := by
  go_enter Try.func17, Try.ntmps17
  go_wp2_with fail
  refine (check_no n _ h).mono ?_
  rintro e w1 ⟨rfl, hB1⟩
  go_wp2_with fail
  go_ret
  exact ⟨rfl, hB1⟩
set_option maxRecDepth 100000 in
theorem count_out (n : ByteArray) (w : World) (h : split n.data.toList = none) :
    Calls Try.prog 18 #[.string n] w fun e w' => e = .returned (.int .i64 (-1)) ∧ Below w.heap.size w w' := by
  go_enter Try.func18, Try.ntmps18
  go_wp2_with fail
  refine (check_no n _ h).mono ?_
  rintro e w1 ⟨rfl, hB1⟩
  go_wp2_with fail
  go_ret
  exact ⟨rfl, hB1⟩
set_option maxRecDepth 100000 in
theorem equal_out (n m : ByteArray) (w : World) (h : split n.data.toList = none) :
    Calls Try.prog 19 #[.string n, .string m] w fun e w' => e = .returned (.bool false) ∧ Below w.heap.size w w' := by
  go_enter Try.func19, Try.ntmps19
  go_wp2_with fail
  refine (check_no n _ h).mono ?_
  rintro e w1 ⟨rfl, hB1⟩
  go_wp2_with fail
  go_ret
  exact ⟨rfl, hB1⟩

theorem show_room {n : Bs} {ls : List Bs} (h : IsN n ls) : (showS n).length ≤ 1100 := by
  unfold showS; rw [split_iff.2 h]
  have hr := isN_room h
  cases ls with
  | nil => simp
  | cons x r => have := show_len (x :: r); simp only; omega
theorem fold_room {n : Bs} {ls : List Bs} (h : IsN n ls) : (foldS n).length ≤ 255 := by
  have hr := isN_room h
  rw [foldS_yes h, put_length, room_low]; omega
theorem par_room {n x : Bs} {r : List Bs} (h : IsN n (x :: r)) : (parentS n).length ≤ 255 := by rw [q_par h]; exact (q_sub h).2.2
theorem len_room {n : Bs} {ls : List Bs} (h : IsN n ls) : ls.length ≤ 254 := by
  have hr := isN_room h
  have : ∀ l : List Bs, l.length ≤ room l := by
    intro l
    induction l with
    | nil => simp
    | cons x r ih => simp only [room, List.map_cons, List.sum_cons, List.length_cons] at *; omega
  have := this ls; omega
theorem sv_rd {w : World} {v : Value} {base : Nat} {ls : List Bs} (h : SV w v base ls) : ∃ a c, v = .slice a ls.length c ∧ Rd w a base ls ∧ ls.length ≤ c := by
  rcases h with ⟨rfl, h⟩ | ⟨h0, g, c, h1, h2, h3, h4, h5, h6⟩
  · exact ⟨none, 0, h, Rd.nil _ _ _, Nat.le_refl _⟩
  · exact ⟨_, c, h1, fun j x hx => ⟨g, 0, rfl, h4, h5, by rw [Nat.zero_add]; exact h6 j x hx⟩, h2⟩
theorem join_m {n : ByteArray} {ls : List Bs} {m : Nat} (hj : joinS ls = (n.data.toList, 0)) (hself : (⟨n.data.toList.toArray⟩ : ByteArray) = n) (hm : ls.length = m) (a : Option Addr) (c : Nat) (w : World) (hr : Rd w a 0 ls) (hl : m ≤ 254) (hc : m ≤ c) :
    Calls Try.prog 21 #[.slice a m c] w fun e w' => e = .returned (.tuple #[.string n, .int .i64 0]) ∧ Below w.heap.size w w' := by
  subst hm
  have h := njoin_any a c ls w hr (by omega) hc
  rw [hj] at h
  unfold RetJ at h
  simp only [hself] at h
  exact h

def OrgIs (v : Value) : Prop := ∃ (o : ByteArray) (base : List Bs), v = .string o ∧ IsN o.data.toList base

set_option maxRecDepth 100000 in
set_option maxHeartbeats 4000000 in
theorem walk (n o : ByteArray) (w : World) (hn : n.size ≤ maxLen) (ho : o.size ≤ maxLen) :
    Calls Try.prog 3 #[.string n, .string o] w fun e w' => e = .returned (.bool true) ∧ Below w.heap.size w w' := by
  have CR := Lib.hid (fun w => nread_any ⟨wwwT.toArray⟩ ⟨#[0]⟩ w (by decide) (by decide))
  have CS := Lib.hid (fun w => nshow_any ⟨wwwN.toArray⟩ w (by decide))
  have e1 : readS (⟨wwwT.toArray⟩ : ByteArray).data.toList (⟨#[0]⟩ : ByteArray).data.toList = (wwwN, 0, 0) := k1
  have e2 : showS (⟨wwwN.toArray⟩ : ByteArray).data.toList = wwwT := k2
  rw [e1] at CR
  rw [e2] at CS
  unfold Ret3 at CR
  clear e1 e2
  unfold wwwT wwwN at CR CS
  go_enter Try.func3, Try.ntmps3
  go_wp2_with fail
  refine (CR.out _).mono ?_
  rintro e w1 ⟨rfl, hB1⟩
  go_wp2_with fail
  refine (CS.out _).mono ?_
  rintro e w2 ⟨rfl, hB2⟩
  have HB0 := Lib.hid (hB1.trans (hB2.mono hB1.size))
  clear hB1 hB2 CR CS
  obtain ⟨K, hK⟩ : ∃ K, chkE o = K := ⟨_, rfl⟩
  have HK := Lib.hid hK; clear hK
  go_wp2_with fail
  refine (check_all o _).mono ?_
  rintro e w3 ⟨rfl, hB3⟩
  rw [HK.out]
  have HB1 := Lib.hid (HB0.out.trans (hB3.mono HB0.out.size))
  clear hB3 HB0
  go_upto_if 32 with (fail)
  go_cut [1] (fun s1 wx => OrgIs s1 ∧ Below w.heap.size w wx)
  case first =>
    rcases isB_or o with ⟨base, hO⟩ | hO
    · have hK : K = 0 := by rw [← HK.out]; exact chk_yes hO
      subst hK
      have HO := Lib.hid hO
      clear hO HK
      go_wp2_with fail
      go_meet
      exact ⟨⟨o, base, rfl, HO.out⟩, HB1.out⟩
    · have hK : K = 1 := by rw [← HK.out]; exact chk_no hO
      subst hK
      clear hO HK
      go_wp2_with fail
      go_meet
      exact ⟨⟨⟨#[0]⟩, [], rfl, ⟨rfl, by simp [okL], by decide⟩⟩, HB1.out⟩
  case rest =>
    obtain ⟨⟨org, base, rfl, hO⟩, hB⟩ := hcut
    have hos : org.size ≤ 255 := by have := hO.2.2; rwa [size_len] at this
    rcases isB_or n with ⟨ls, hN⟩ | hN
    · have hns : n.size ≤ 255 := by have := hN.2.2; rwa [size_len] at this
      obtain ⟨D, hD⟩ : ∃ D : ByteArray, (⟨(showS n.data.toList).toArray⟩ : ByteArray) = D := ⟨_, rfl⟩
      have hDd : D.data.toList = showS n.data.toList := by rw [← hD]
      have hDs : D.size ≤ 1100 := by rw [← size_len, hDd]; exact show_room hN
      have hself : (⟨n.data.toList.toArray⟩ : ByteArray) = n := ba_ext rfl
      obtain ⟨F, hF⟩ : ∃ F : ByteArray, (⟨(foldS n.data.toList).toArray⟩ : ByteArray) = F := ⟨_, rfl⟩
      have hFd : F.data.toList = foldS n.data.toList := by rw [← hF]
      have hFs : F.size ≤ 255 := by rw [← size_len, hFd]; exact fold_room hN
      have CK := Lib.hid (fun w => check_any n w (by omega))
      rw [chk_yes hN] at CK
      have C1 := Lib.hid (fun w => nshow_any n w (by omega))
      rw [hD] at C1
      have C2 := Lib.hid (fun w => nread_any D org w (by omega) (by omega))
      rw [hDd, read_show hN hO] at C2
      unfold Ret3 at C2
      simp only [hself] at C2
      have C3 := Lib.hid (fun w => nlabels_any n w (by omega))
      have hlab : labS n.data.toList = ls := by unfold labS; rw [split_iff.2 hN]
      have hj := q_join hN
      rw [hlab] at C3 hj
      obtain ⟨m, hm⟩ : ∃ m, ls.length = m := ⟨_, rfl⟩
      have hm127 : m ≤ 254 := by rw [← hm]; exact len_room hN
      have C4 := fun (a : Option Addr) (c : Nat) (w : World) (hr : Rd w a 0 ls) (hc : m ≤ c) => join_m hj hself hm a c w hr hm127 hc
      have C5 := Lib.hid (fun w => ncount_any n w (by omega))
      rw [q_count hN, hm] at C5
      have C6 := Lib.hid (fun w => ntail_any n (m : Int) w (by omega))
      have C7 := Lib.hid (fun w => ntail_any n 0 w (by omega))
      have h6 := q_all hN
      rw [hm] at h6
      rw [h6] at C6
      rw [q_none hN] at C7
      simp only [hself] at C6
      have C8 := Lib.hid (fun w => nfold_any n w (by omega))
      rw [hF] at C8
      have C9 := Lib.hid (fun w => nequal_any n F w (by omega) (by omega))
      rw [hFd, q_fold hN] at C9
      have HC4 := Lib.hid C4
      have HM := Lib.hid hm
      have HN := Lib.hid hN
      have HB := Lib.hid hB
      clear C4 hj hlab hm hN hO hB hD hDd hF hFd hself h6
      go_wp2_with fail
      refine (CK.out _).mono ?_
      rintro e v1 ⟨rfl, hB1⟩
      have HB1 := Lib.hid (HB.out.trans (hB1.mono HB.out.size)); clear hB1
      go_wp2_with fail
      refine (C1.out _).mono ?_
      rintro e v2 ⟨rfl, hB1⟩
      have HB2 := Lib.hid (HB1.out.trans (hB1.mono HB1.out.size)); clear hB1
      go_wp2_with fail
      refine (C2.out _).mono ?_
      rintro e v3 ⟨rfl, hB1⟩
      have HB3 := Lib.hid (HB2.out.trans (hB1.mono HB2.out.size)); clear hB1
      go_wp2_with fail
      refine (C3.out _).mono ?_
      rintro e v4 ⟨v, rfl, hSV, hB1⟩
      have HB4 := Lib.hid (HB3.out.trans (hB1.mono HB3.out.size)); clear hB1
      obtain ⟨a, c, rfl, hR, hc⟩ := sv_rd hSV
      have HR := Lib.hid (Rd.mono hR (Nat.zero_le _))
      clear hSV hR
      rw [HM.out] at hc ⊢
      go_wp2_with fail
      refine (HC4.out a c _ HR.out hc).mono ?_
      rintro e v5 ⟨rfl, hB1⟩
      have HB5 := Lib.hid (HB4.out.trans (hB1.mono HB4.out.size)); clear hB1
      go_wp2_with fail
      refine (C5.out _).mono ?_
      rintro e v6 ⟨rfl, hB1⟩
      have HB6 := Lib.hid (HB5.out.trans (hB1.mono HB5.out.size)); clear hB1
      go_wp2_with fail
      refine (C6.out _).mono ?_
      rintro e v7 ⟨rfl, hB1⟩
      have HB7 := Lib.hid (HB6.out.trans (hB1.mono HB6.out.size)); clear hB1
      go_wp2_with fail
      refine (C7.out _).mono ?_
      rintro e v8 ⟨rfl, hB1⟩
      have HB8 := Lib.hid (HB7.out.trans (hB1.mono HB7.out.size)); clear hB1
      go_wp2_with fail
      refine (C8.out _).mono ?_
      rintro e v9 ⟨rfl, hB1⟩
      have HB9 := Lib.hid (HB8.out.trans (hB1.mono HB8.out.size)); clear hB1
      go_wp2_with fail
      refine (C9.out _).mono ?_
      rintro e va ⟨rfl, hB1⟩
      have HBa := Lib.hid (HB9.out.trans (hB1.mono HB9.out.size)); clear hB1
      clear CK C1 C2 C3 HC4 C5 C6 C7 C8 C9 HB HB1 HB2 HB3 HB4 HB5 HB6 HB7 HB8 HB9 HR
      cases ls with
      | nil =>
        have hm0 : m = 0 := by rw [← HM.out]; rfl
        subst hm0
        obtain ⟨r1, r2⟩ := q_root HN.out
        have CP := Lib.hid (fun w => nparent_any n w (by omega))
        rw [r2] at CP
        have b0 : (n.toList == [0]) = true := by rw [Lib.toList_data, r1]; rfl
        clear r1 r2
        go_wp2_with fail
        refine (CP.out _).mono ?_
        rintro e vb ⟨rfl, hB1⟩
        have HBb := Lib.hid (HBa.out.trans (hB1.mono HBa.out.size)); clear hB1
        go_wp2_with fail
        go_ret
        exact ⟨rfl, HBb.out⟩
      | cons x r =>
        have hm0 : m = r.length + 1 := by rw [← HM.out]; rfl
        have hmi : 1 ≤ (m : Int) := by omega
        have b0 : ((m : Int) == 0) = false := by rw [beq_eq_false_iff_ne]; omega
        obtain ⟨P, hP⟩ : ∃ P : ByteArray, (⟨(parentS n.data.toList).toArray⟩ : ByteArray) = P := ⟨_, rfl⟩
        have hPd : P.data.toList = parentS n.data.toList := by rw [← hP]
        have hPs : P.size ≤ 255 := by rw [← size_len, hPd]; exact par_room HN.out
        have CP := Lib.hid (fun w => nparent_any n w (by omega))
        rw [hP] at CP
        obtain ⟨k, hk⟩ : ∃ k : Int, (m : Int) - 1 = k := ⟨_, rfl⟩
        have hkr : ((r.length : Nat) : Int) = k := by omega
        have CT := Lib.hid (fun w => ntail_any n k w (by omega))
        have ht := q_parent HN.out
        rw [hkr] at ht
        rw [ht, hP] at CT
        have CI := Lib.hid (fun w => nwithin_any n P w (by omega) (by omega))
        rw [hPd, q_in HN.out] at CI
        have CO := Lib.hid (fun w => nwithin_any P n w (by omega) (by omega))
        rw [hPd, q_out HN.out] at CO
        have xk : Value.int .i64 ((m : Int) - 1) = Value.int .i64 k := by rw [hk]
        clear hP hPd hk hkr ht hm0
        go_wp2_with fail
        refine (CP.out _).mono ?_
        rintro e vb ⟨rfl, hB1⟩
        have HBb := Lib.hid (HBa.out.trans (hB1.mono HBa.out.size)); clear hB1
        go_wp2_with fail
        refine (CT.out _).mono ?_
        rintro e vc ⟨rfl, hB1⟩
        have HBc := Lib.hid (HBb.out.trans (hB1.mono HBb.out.size)); clear hB1
        go_wp2_with fail
        refine (CP.out _).mono ?_
        rintro e vd ⟨rfl, hB1⟩
        have HBd := Lib.hid (HBc.out.trans (hB1.mono HBc.out.size)); clear hB1
        go_wp2_with fail
        refine (CI.out _).mono ?_
        rintro e ve ⟨rfl, hB1⟩
        have HBe := Lib.hid (HBd.out.trans (hB1.mono HBd.out.size)); clear hB1
        go_wp2_with fail
        refine (CP.out _).mono ?_
        rintro e vf ⟨rfl, hB1⟩
        have HBf := Lib.hid (HBe.out.trans (hB1.mono HBe.out.size)); clear hB1
        go_wp2_with fail
        refine (CO.out _).mono ?_
        rintro e vg ⟨rfl, hB1⟩
        have HBg := Lib.hid (HBf.out.trans (hB1.mono HBf.out.size)); clear hB1
        go_wp2_with fail
        go_ret
        exact ⟨rfl, HBg.out⟩
    · have CK := Lib.hid (fun w => check_no n w hN)
      have C1 := Lib.hid (fun w => show_out n w hN)
      have C2 := Lib.hid (fun w => fold_out n w hN)
      have C3 := Lib.hid (fun w => count_out n w hN)
      have C4 := Lib.hid (fun w => equal_out n n w hN)
      have HB := Lib.hid hB
      clear hN hO hB
      go_wp2_with fail
      refine (CK.out _).mono ?_
      rintro e v1 ⟨rfl, hB1⟩
      have HB1 := Lib.hid (HB.out.trans (hB1.mono HB.out.size)); clear hB1
      go_wp2_with fail
      refine (C1.out _).mono ?_
      rintro e v2 ⟨rfl, hB1⟩
      have HB2 := Lib.hid (HB1.out.trans (hB1.mono HB1.out.size)); clear hB1
      go_wp2_with fail
      refine (C2.out _).mono ?_
      rintro e v3 ⟨rfl, hB1⟩
      have HB3 := Lib.hid (HB2.out.trans (hB1.mono HB2.out.size)); clear hB1
      go_wp2_with fail
      refine (C3.out _).mono ?_
      rintro e v4 ⟨rfl, hB1⟩
      have HB4 := Lib.hid (HB3.out.trans (hB1.mono HB3.out.size)); clear hB1
      go_wp2_with fail
      refine (C4.out _).mono ?_
      rintro e v5 ⟨rfl, hB1⟩
      have HB5 := Lib.hid (HB4.out.trans (hB1.mono HB4.out.size)); clear hB1
      go_wp2_with fail
      go_ret
      exact ⟨rfl, HB5.out⟩
end Go.Proofs.Ythblaldkpjilhaa.nrounds

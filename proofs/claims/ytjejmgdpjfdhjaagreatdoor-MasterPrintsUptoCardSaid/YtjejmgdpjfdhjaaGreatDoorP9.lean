/- master.relative, gazetteerref2.owner: walks. -/
import Derived.Test.YtjejmgdpjfdhjaaGreatDoorP7
import Derived.Test.YtjejmgdpjfdhjaaGreatDoorP5
import Derived.Test.YtjejmgdpjfdhjaaGreatDoorP8
import Derived.Lib.SliceRun
namespace Go.Proofs.YtjejmgdpjfdhjaaGreatDoor.rel
open Go.RowKit Go.Proofs.YtjejmgdpjfdhjaaGreatDoor.kit Go.Proofs.YtjejmgdpjfdhjaaGreatDoor.nspec Go.Proofs.YtjejmgdpjfdhjaaGreatDoor.rsplit Go.Proofs.YtjejmgdpjfdhjaaGreatDoor.check Go.Proofs.YtjejmgdpjfdhjaaGreatDoor.refA Go.Proofs.YtjejmgdpjfdhjaaGreatDoor.nameA Go.Proofs.YtjejmgdpjfdhjaaGreatDoor.showB Go.Proofs.YtjejmgdpjfdhjaaGreatDoor.nshow Go.Proofs.YtjejmgdpjfdhjaaGreatDoor.rput Go.Proofs.YtjejmgdpjfdhjaaGreatDoor.textsT
set_option linter.unusedVariables false

/-- a name as it is written by an origin -/
def relS (n o : Bs) : Bs := match split n, split o with
  | some ls, some os => if ls = os then [64] else if os.length < ls.length ∧ ls.drop (ls.length - os.length) = os then (showL (ls.take (ls.length - os.length))).dropLast else showS n
  | _, _ => showS n
theorem rel_same {n o : Bs} {ls : List Bs} (h1 : IsN n ls) (h2 : IsN o ls) : relS n o = [64] := by
  unfold relS; rw [split_iff.2 h1, split_iff.2 h2]; simp
theorem rel_in {n o : Bs} {ls os : List Bs} (h1 : IsN n ls) (h2 : IsN o os) (h : os.length < ls.length) (he : ls.drop (ls.length - os.length) = os) : relS n o = (showL (ls.take (ls.length - os.length))).dropLast := by
  unfold relS; rw [split_iff.2 h1, split_iff.2 h2]
  simp only
  rw [if_neg (by intro h'; rw [h'] at h; omega), if_pos ⟨h, he⟩]
theorem rel_out {n o : Bs} {ls os : List Bs} (h1 : IsN n ls) (h2 : IsN o os) (hne : ls ≠ os) (h : ¬ (os.length < ls.length ∧ ls.drop (ls.length - os.length) = os)) : relS n o = showS n := by
  unfold relS; rw [split_iff.2 h1, split_iff.2 h2]
  simp only
  rw [if_neg hne, if_neg h]
theorem showL_snoc (ls : List Bs) (h : ls ≠ []) : ∃ y, showL ls = y ++ [46] := by
  obtain ⟨init, x, rfl⟩ : ∃ init x, ls = init ++ [x] := ⟨ls.dropLast, ls.getLast h, (List.dropLast_concat_getLast h).symm⟩
  exact ⟨showL init ++ x.flatMap escB, by simp [showL, labSh]⟩
theorem rel_len (n o : Bs) : (relS n o).length ≤ 1100 := by
  have hs : (showS n).length ≤ 1100 := by
    unfold showS
    split
    · simp
    · simp
    · rename_i ls h1 h2
      have hN := split_iff.1 h2
      have hr := isN_room hN
      have := show_len ls
      omega
  unfold relS
  split
  · rename_i ls os h1 h2
    have hr := isN_room (split_iff.1 h1)
    split
    · simp
    · split
      · rw [List.length_dropLast]
        have h3 := show_len (ls.take (ls.length - os.length))
        have h4 := room_take ls (ls.length - os.length)
        omega
      · exact hs
  · exact hs
theorem okL_take {ls : List Bs} (h : okL ls) (k : Nat) : okL (ls.take k) := fun x hx => h x (List.mem_of_mem_take hx)
theorem okL_drop {ls : List Bs} (h : okL ls) (k : Nat) : okL (ls.drop k) := fun x hx => h x (List.mem_of_mem_drop hx)
theorem isN_take {n : Bs} {ls : List Bs} (h : IsN n ls) (k : Nat) : IsN (put (ls.take k)) (ls.take k) :=
  isN_put (okL_take h.2.1 k) (by have := room_take ls k; have := isN_room h; omega)
theorem str_eqB {a b : ByteArray} : (a.toList == b.toList) = decide (a.data.toList = b.data.toList) := by
  rw [Lib.toList_data, Lib.toList_data]
  by_cases h : a.data.toList = b.data.toList
  · simp [h]
  · have : (a.data.toList == b.data.toList) = false := by rw [beq_eq_false_iff_ne]; exact h
    rw [this]; simp [h]
/-- what is ahead of the origin -/
theorem ahead_put {N O : ByteArray} {ls os : List Bs} {m : Nat} (h1 : IsN N.data.toList ls) (h2 : IsN O.data.toList os) (hm : ls.length - os.length = m) (hl : os.length < ls.length) (he : ls.drop m = os) :
    O.size ≤ N.size ∧ (N.extract 0 (N.size - O.size) ++ ⟨#[0]⟩ : ByteArray).data.toList = put (ls.take m) := by
  have e1 : N.data.toList = flat (ls.take m) ++ O.data.toList := by
    rw [h1.1, h2.1, ← he, put_flat, put_flat]
    simp only [flat]
    rw [← List.append_assoc, ← List.flatMap_append, List.take_append_drop]
  have e2 : N.size = (flat (ls.take m)).length + O.size := by rw [← size_len, e1, List.length_append, size_len]
  refine ⟨by omega, ?_⟩
  rw [ByteArray.data_append, Array.toList_append, Lib.extract_data, e1, put_flat]
  rw [show N.size - O.size - 0 = (flat (ls.take m)).length by omega]
  simp [flat]

set_option maxRecDepth 100000 in
set_option maxHeartbeats 2400000 in
theorem rel_any (N O : ByteArray) (ls os : List Bs) (w : World) (h1 : IsN N.data.toList ls) (h2 : IsN O.data.toList os) :
    Calls Tryz.prog 27 #[.string N, .string O] w fun e w' => e = .returned (.string ⟨(relS N.data.toList O.data.toList).toArray⟩) ∧ Below w.heap.size w w' := by
  have hN : N.size ≤ 255 := by have := h1.2.2; rwa [size_len] at this
  have hO : O.size ≤ 255 := by have := h2.2.2; rwa [size_len] at this
  obtain ⟨R, HR⟩ : ∃ R, Hid (relS N.data.toList O.data.toList = R) := ⟨_, Lib.hid rfl⟩
  rw [HR.out]
  obtain ⟨n, hn⟩ : ∃ n, ls.length = n := ⟨_, rfl⟩
  obtain ⟨k, hk⟩ : ∃ k, os.length = k := ⟨_, rfl⟩
  have hn4 : n ≤ 254 := by rw [← hn]; exact split_len h1
  have hk4 : k ≤ 254 := by rw [← hk]; exact split_len h2
  have CN := Lib.hid (fun w => ncount_any N w (by omega))
  have CO := Lib.hid (fun w => ncount_any O w (by omega))
  rw [countS_yes h1, hn] at CN
  rw [countS_yes h2, hk] at CO
  have CS := Lib.hid (fun w => nshow_any N w (by omega))
  by_cases hsame : ls = os
  · have hb : (N.toList == O.toList) = true := by rw [str_eqB, decide_eq_true_eq, h1.1, h2.1, hsame]
    have HE : Hid (R = [64]) := Lib.hid (by rw [← HR.out]; rw [hsame] at h1; exact rel_same h1 h2)
    clear hsame h1 h2 hn hk
    go_enter Tryz.func27, Tryz.ntmps27
    go_wp2_with fail
    refine (CN.out _).mono ?_
    rintro e w1 ⟨rfl, hB1⟩
    have HB1 := Lib.hid hB1; clear hB1
    go_wp2_with fail
    refine (CO.out _).mono ?_
    rintro e w2 ⟨rfl, hB2⟩
    have HB2 := Lib.hid (HB1.out.trans (hB2.mono HB1.out.size)); clear hB2
    go_wp2_with fail
    go_ret
    exact ⟨by rw [HE.out]; rfl, HB2.out⟩
  · have hb : (N.toList == O.toList) = false := by
      rw [str_eqB, decide_eq_false_iff_not, h1.1, h2.1]; intro h; exact hsame (put_inj h1.2.1 h2.2.1 h)
    by_cases hlt : k < n
    · obtain ⟨m, hm⟩ : ∃ m, n - k = m := ⟨_, rfl⟩
      have CT := Lib.hid (fun w => ntail_any N (k : Int) w (by omega))
      have eT : tailS N.data.toList (k : Int) = put (ls.drop m) := by
        unfold tailS; rw [split_iff.2 h1]; simp only; rw [if_pos (by omega), hn, Int.toNat_natCast, hm]
      rw [eT] at CT
      obtain ⟨T, hT⟩ : ∃ T : ByteArray, (⟨(put (ls.drop m)).toArray⟩ : ByteArray) = T := ⟨_, rfl⟩
      rw [hT] at CT
      have hTd : T.data.toList = put (ls.drop m) := by rw [← hT]
      have hlti : (k : Int) < (n : Int) := by omega
      have hsub : 0 < (n : Int) - (k : Int) := by omega
      by_cases hd : ls.drop m = os
      · have hb2 : (T.toList == O.toList) = true := by rw [str_eqB, decide_eq_true_eq, hTd, h2.1, hd]
        obtain ⟨a1, a2⟩ := ahead_put h1 h2 (by rw [hn, hk]; exact hm) (by omega) hd
        obtain ⟨q, hq⟩ : ∃ q, N.size - O.size = q := ⟨_, rfl⟩
        rw [hq] at a2
        obtain ⟨X, hX⟩ : ∃ X, N.extract 0 q = X := ⟨_, rfl⟩
        rw [hX] at a2
        have hXs : X.size ≤ 255 := by rw [← hX, ByteArray.size_extract]; omega
        have htk : ls.take m ≠ [] := by intro h; have h' := congrArg List.length h; rw [List.length_take, hn] at h'; simp only [List.length_nil] at h'; omega
        have hs1 : (X ++ (⟨#[0]⟩ : ByteArray)).size ≤ 256 := by rw [ByteArray.size_append, show (⟨#[0]⟩ : ByteArray).size = 1 from rfl]; omega
        have CX := Lib.hid (fun w => nshow_any (X ++ ⟨#[0]⟩) w (by omega))
        have eS : showS (X ++ ⟨#[0]⟩ : ByteArray).data.toList = showL (ls.take m) := by
          rw [a2]; exact showS_yes (isN_take h1 m) htk
        rw [eS] at CX
        obtain ⟨y, hy⟩ := showL_snoc _ htk
        obtain ⟨Y, hY⟩ : ∃ Y : ByteArray, (⟨(showL (ls.take m)).toArray⟩ : ByteArray) = Y := ⟨_, rfl⟩
        have hYd : Y.data.toList = y ++ [46] := by rw [← hY, ← hy]
        have hYl : Y.size ≤ 1100 := by
          rw [← hY, mk_size]
          have h3 := show_len (ls.take m); have h4 := room_take ls m; have h5 := isN_room h1; omega
        rw [hY] at CX
        have CTS := Lib.hid (fun w => Tryz.strings_TrimSuffix Y ⟨#[46]⟩ w (by omega))
        have eTS : Lib.trimSuffix Y.data.toList (⟨#[46]⟩ : ByteArray).data.toList = R := by
          rw [← HR.out, rel_in h1 h2 (by omega) (by rw [hn, hk, hm]; exact hd), hn, hk, hm, hy, hYd]
          simp [Lib.trimSuffix, Lib.hasSuffix]
        rw [eTS] at CTS
        have hqv := Lib.hid (show (N.size : Int) - (O.size : Int) = (q : Int) by omega)
        have hqN : (q : Int) ≤ (N.size : Int) := by omega
        clear hsame h1 h2 hn hk eT hT hTd hd a1 a2 hq htk eS hy hY hYd eTS hm
        go_enter Tryz.func27, Tryz.ntmps27
        go_wp2_with fail
        refine (CN.out _).mono ?_
        rintro e w1 ⟨rfl, hB1⟩
        have HB1 := Lib.hid hB1; clear hB1
        go_wp2_with fail
        refine (CO.out _).mono ?_
        rintro e w2 ⟨rfl, hB2⟩
        have HB2 := Lib.hid (HB1.out.trans (hB2.mono HB1.out.size)); clear hB2
        go_wp2_with fail
        refine (CO.out _).mono ?_
        rintro e w3 ⟨rfl, hB3⟩
        have HB3 := Lib.hid (HB2.out.trans (hB3.mono HB2.out.size)); clear hB3
        go_wp2_with fail
        refine (CT.out _).mono ?_
        rintro e w4 ⟨rfl, hB4⟩
        have HB4 := Lib.hid (HB3.out.trans (hB4.mono HB3.out.size)); clear hB4
        go_upto_region 5 with fail
        have hqe := congrArg (Value.int .i64) hqv.out
        go_wp2_with fail
        refine (CX.out _).mono ?_
        rintro e w5 ⟨rfl, hB5⟩
        have HB5 := Lib.hid (HB4.out.trans (hB5.mono HB4.out.size)); clear hB5
        go_wp2_with fail
        refine (CTS.out _).mono ?_
        rintro e w6 ⟨rfl, rfl⟩
        go_wp2_with fail
        go_ret
        exact ⟨rfl, HB5.out⟩
      · have hb2 : (T.toList == O.toList) = false := by
          rw [str_eqB, decide_eq_false_iff_not, hTd, h2.1]; intro h; exact hd (put_inj (okL_drop h1.2.1 m) h2.2.1 h)
        have HE : Hid (showS N.data.toList = R) := Lib.hid (by
          rw [← HR.out, rel_out h1 h2 hsame (by rw [hn, hk, hm]; intro h; exact hd h.2)])
        rw [HE.out] at CS
        clear hsame h1 h2 hn hk eT hT hTd hd hm
        go_enter Tryz.func27, Tryz.ntmps27
        go_wp2_with fail
        refine (CN.out _).mono ?_
        rintro e w1 ⟨rfl, hB1⟩
        have HB1 := Lib.hid hB1; clear hB1
        go_wp2_with fail
        refine (CO.out _).mono ?_
        rintro e w2 ⟨rfl, hB2⟩
        have HB2 := Lib.hid (HB1.out.trans (hB2.mono HB1.out.size)); clear hB2
        go_wp2_with fail
        refine (CO.out _).mono ?_
        rintro e w3 ⟨rfl, hB3⟩
        have HB3 := Lib.hid (HB2.out.trans (hB3.mono HB2.out.size)); clear hB3
        go_wp2_with fail
        refine (CT.out _).mono ?_
        rintro e w4 ⟨rfl, hB4⟩
        have HB4 := Lib.hid (HB3.out.trans (hB4.mono HB3.out.size)); clear hB4
        go_wp2_with fail
        refine (CS.out _).mono ?_
        rintro e w5 ⟨rfl, hB5⟩
        have HB5 := Lib.hid (HB4.out.trans (hB5.mono HB4.out.size)); clear hB5
        go_wp2_with fail
        go_ret
        exact ⟨rfl, HB5.out⟩
    · have HE : Hid (showS N.data.toList = R) := Lib.hid (by
        rw [← HR.out, rel_out h1 h2 hsame (by rw [hn, hk]; intro h; exact hlt h.1)])
      rw [HE.out] at CS
      have hsub : ¬ 0 < (n : Int) - (k : Int) := by omega
      clear hsame h1 h2 hn hk
      go_enter Tryz.func27, Tryz.ntmps27
      go_wp2_with fail
      refine (CN.out _).mono ?_
      rintro e w1 ⟨rfl, hB1⟩
      have HB1 := Lib.hid hB1; clear hB1
      go_wp2_with fail
      refine (CO.out _).mono ?_
      rintro e w2 ⟨rfl, hB2⟩
      have HB2 := Lib.hid (HB1.out.trans (hB2.mono HB1.out.size)); clear hB2
      go_wp2_with fail
      refine (CS.out _).mono ?_
      rintro e w5 ⟨rfl, hB5⟩
      have HB5 := Lib.hid (HB2.out.trans (hB5.mono HB2.out.size)); clear hB5
      go_wp2_with fail
      go_ret
      exact ⟨rfl, HB5.out⟩

theorem rd_take {w : World} {a : Option Addr} {base : Nat} {ls : List Bs} (h : Rd w a base ls) (k : Nat) : Rd w a base (ls.take k) := by
  intro j x hx
  refine h j x ?_
  rw [List.getElem?_take] at hx
  split at hx
  · exact hx
  · cases hx
theorem rel_at {n o : Bs} {ls os : List Bs} {k : Nat} (h1 : IsN n ls) (h2 : IsN o os) (hk : 0 < k) (hkn : k ≤ ls.length) (he : ls.drop k = os) : relS n o = (showL (ls.take k)).dropLast ∧ ls.take k ≠ [] := by
  have hl := congrArg List.length he
  rw [List.length_drop] at hl
  have e : ls.length - os.length = k := by omega
  have h3 := rel_in h1 h2 (by omega) (by rw [e]; exact he)
  rw [e] at h3
  refine ⟨h3, fun h => ?_⟩
  have := congrArg List.length h
  rw [List.length_take, List.length_nil] at this
  omega
theorem rel_end {n o : Bs} {ls os : List Bs} (h1 : IsN n ls) (h2 : IsN o os) (h : ∀ j, j < ls.length + 1 → ls.drop j ≠ os) : relS n o = showS n := by
  refine rel_out h1 h2 ?_ ?_
  · have := h 0 (by omega); simpa using this
  · intro h3; exact h _ (by omega) h3.2
set_option maxRecDepth 100000 in
set_option maxHeartbeats 2400000 in
theorem owner_nil (N O : ByteArray) (os : List Bs) (w : World) (h1 : IsN N.data.toList []) (h2 : IsN O.data.toList os) :
    Calls Tryz.prog 34 #[.string N, .string O] w fun e w' => e = .returned (.string ⟨(relS N.data.toList O.data.toList).toArray⟩) ∧ Below w.heap.size w w' := by
  have hN : N.size ≤ 255 := by have := h1.2.2; rwa [size_len] at this
  obtain ⟨R, HR⟩ : ∃ R, Hid (relS N.data.toList O.data.toList = R) := ⟨_, Lib.hid rfl⟩
  rw [HR.out]
  have H1 := Lib.hid h1; have H2 := Lib.hid h2
  have CS := Lib.hid (fun w => show_any N w (by omega))
  obtain ⟨T, hT⟩ : ∃ T : ByteArray, (⟨(put []).toArray⟩ : ByteArray) = T := ⟨_, rfl⟩
  have hTd : T.data.toList = put [] := by rw [← hT]
  have CP := Lib.hid (fun w => put_n none 0 0 [] w rfl (Rd.nil _ _ _) (by simp [room]) (by simp))
  rw [hT] at CP
  have HTD := Lib.hid hTd
  clear hT hTd h1 h2
  go_enter Tryz.func34, Tryz.ntmps34
  go_wp2_with fail
  refine (split_yes N [] _ H1.out).mono ?_
  rintro e w1 ⟨v, rfl, hsv, hB1⟩
  have hv : v = .slice none 0 0 := by
    rcases hsv with ⟨_, h⟩ | ⟨h, _⟩
    · exact h
    · exact absurd rfl h
  subst hv
  have HB1 := Lib.hid hB1
  clear hsv hB1
  by_cases ho : os = []
  · have hb : (T.toList == O.toList) = true := by rw [str_eqB, decide_eq_true_eq, HTD.out, H2.out.1, ho]
    have HE : Hid (R = [64]) := Lib.hid (by rw [← HR.out]; exact rel_same H1.out (by rw [← ho]; exact H2.out))
    clear ho
    go_wp2_with fail
    go_loopg [7] 3 (fun gas kv wr => kv = .int .i64 0 ∧ gas = 3 ∧ w1 = wr)
    case atStart => exact ⟨rfl, rfl, rfl⟩
    case round =>
      obtain ⟨rfl, rfl, rfl⟩ := hrel
      go_wp2_with fail
      refine (CP.out _).mono ?_
      rintro e w2 ⟨rfl, hB2⟩
      have HB2 := Lib.hid (HB1.out.trans (hB2.mono HB1.out.size)); clear hB2
      go_wp2_with fail
      go_ret
      exact ⟨by rw [HE.out]; rfl, HB2.out⟩
  · have hb : (T.toList == O.toList) = false := by
      rw [str_eqB, decide_eq_false_iff_not, HTD.out, H2.out.1]; intro h; exact ho (put_inj (by intro x hx; cases hx) H2.out.2.1 h).symm
    have HE : Hid (showS N.data.toList = R) := Lib.hid (by
      rw [← HR.out]; exact (rel_end H1.out H2.out (fun j _ h => ho (by rw [List.drop_nil] at h; exact h.symm))).symm)
    rw [HE.out] at CS
    clear ho
    go_wp2_with fail
    go_loopg [7] 3 (fun gas kv wr => ∃ k : Nat, kv = .int .i64 k ∧ k ≤ 1 ∧ k + gas = 3 ∧ Hid (Below w.heap.size w wr))
    case atStart => exact ⟨0, rfl, by omega, by omega, HB1⟩
    case round =>
      obtain ⟨k, rfl, hk, hkg, HB⟩ := hrel
      by_cases hk0 : k = 0
      · subst hk0
        go_wp2_with fail
        refine (CP.out _).mono ?_
        rintro e w2 ⟨rfl, hB2⟩
        have HB2 := Lib.hid (HB.out.trans (hB2.mono HB.out.size)); clear hB2
        go_wp2_with fail
        go_roundg (gk - 1)
        case rel => exact ⟨1, rfl, by omega, by omega, HB2⟩
        case measure => omega
      · obtain rfl : k = 1 := by omega
        go_wp2_with fail
        refine (CS.out _).mono ?_
        rintro e w2 ⟨rfl, hB2⟩
        have HB2 := Lib.hid (HB.out.trans (hB2.mono HB.out.size)); clear hB2
        go_wp2_with fail
        go_ret
        exact ⟨rfl, HB2.out⟩
set_option maxRecDepth 100000 in
set_option maxHeartbeats 2400000 in
theorem owner_some (N O : ByteArray) (ls os : List Bs) (w : World) (h1 : IsN N.data.toList ls) (h2 : IsN O.data.toList os) (h0 : ls ≠ []) :
    Calls Tryz.prog 34 #[.string N, .string O] w fun e w' => e = .returned (.string ⟨(relS N.data.toList O.data.toList).toArray⟩) ∧ Below w.heap.size w w' := by
  have hN : N.size ≤ 255 := by have := h1.2.2; rwa [size_len] at this
  obtain ⟨R, HR⟩ : ∃ R, Hid (relS N.data.toList O.data.toList = R) := ⟨_, Lib.hid rfl⟩
  rw [HR.out]
  have hll := split_len h1
  have hrm := isN_room h1
  have H1 := Lib.hid h1; have H2 := Lib.hid h2
  have CS := Lib.hid (fun w => show_any N w (by omega))
  obtain ⟨n, hn⟩ : ∃ n, ls.length = n := ⟨_, rfl⟩
  have HNN := Lib.hid hn
  rw [hn] at hll
  clear h1 h2 hn
  go_enter Tryz.func34, Tryz.ntmps34
  go_wp2_with fail
  refine (split_yes N ls _ H1.out).mono ?_
  rintro e w1 ⟨v, rfl, hsv, hB1⟩
  rcases hsv with ⟨h, _⟩ | ⟨_, g, c, rfl, hlc, hcm, hbg, hgz, hcells⟩
  · exact absurd h h0
  rw [HNN.out] at hlc ⊢
  have hn1 : 1 ≤ n := by
    rw [← HNN.out]
    cases ls with
    | nil => exact absurd rfl h0
    | cons a b => simp
  have HB1 := Lib.hid hB1
  have HRD := Lib.hid (fun i => rd_drop (i := i) hcells hgz)
  have HRT := Lib.hid (fun k => rd_take (rd_drop (i := 0) hcells hgz) k)
  unfold maxLen at hcm
  clear hB1 hcells h0
  go_wp2_with fail
  go_loopg [7] (n + 2) (fun gas kv wr => ∃ k : Nat, kv = .int .i64 k ∧ k ≤ n + 1 ∧ k + gas = n + 2 ∧ Hid (∀ j, j < k → ls.drop j ≠ os) ∧ Hid (Below w1.heap.size w1 wr))
  case atStart => exact ⟨0, rfl, by omega, by omega, Lib.hid (fun j hj => absurd hj (by omega)), Lib.hid (Below.refl _ _)⟩
  case round =>
    obtain ⟨k, rfl, hk, hkg, HNO, HB⟩ := hrel
    have HKG := Lib.hid hkg; clear hkg
    have hsz := HB.out.size
    have HBW := Lib.hid (HB1.out.trans (HB.out.mono HB1.out.size))
    by_cases hkn : k ≤ n
    · have hki : (k : Int) ≤ (n : Int) := by omega
      obtain ⟨T, hT⟩ : ∃ T : ByteArray, (⟨(put (ls.drop k)).toArray⟩ : ByteArray) = T := ⟨_, rfl⟩
      have hTd : T.data.toList = put (ls.drop k) := by rw [← hT]
      have CP := Lib.hid (fun (ad : Addr) nn cc (hnn : nn = n - k) (hr : Rd wr (some ad) 0 (ls.drop k)) => put_n (some ad) nn cc (ls.drop k) wr (by rw [List.length_drop, HNN.out]; exact hnn) hr (by have := room_drop ls k; omega) (by rw [List.length_drop, HNN.out]; omega))
      rw [hT] at CP
      have hmem : ∀ i, Rd wr (some ⟨g, i, none⟩) 0 (ls.drop i) := fun i => (HRD.out i).below HB.out rfl
      have hend : c = k → Rd wr (some ⟨g, 0, none⟩) 0 (ls.drop k) := fun h => by
        rw [List.drop_eq_nil_iff.2 (by rw [HNN.out]; omega)]; exact Rd.nil _ _ _
      have HMEM := Lib.hid hmem; have HEND := Lib.hid hend
      by_cases hd : ls.drop k = os
      · have hb : (T.toList == O.toList) = true := by rw [str_eqB, decide_eq_true_eq, hTd, H2.out.1, hd]
        by_cases hk0 : k = 0
        · subst hk0
          have HE : Hid (R = [64]) := Lib.hid (by rw [← HR.out]; rw [List.drop_zero] at hd; exact rel_same H1.out (by rw [hd]; exact H2.out))
          have hc0 : ¬ c = 0 := by omega
          clear hd hT hTd
          go_wp2_with fail
          refine (CP.out _ _ _ (by omega) (HMEM.out 0)).mono ?_
          rintro e w2 ⟨rfl, hB2⟩
          have HB2 := Lib.hid (HBW.out.trans (hB2.mono HBW.out.size)); clear hB2
          go_wp2_with fail
          go_ret
          exact ⟨by rw [HE.out]; rfl, HB2.out⟩
        · obtain ⟨hr1, hr2⟩ := rel_at H1.out H2.out (by omega) (by rw [HNN.out]; exact hkn) hd
          obtain ⟨y, hy⟩ := showL_snoc _ hr2
          have HE : Hid (y = R) := Lib.hid (by rw [← HR.out, hr1, hy]; simp)
          obtain ⟨U, hU⟩ : ∃ U : ByteArray, (⟨(put (ls.take k)).toArray⟩ : ByteArray) = U := ⟨_, rfl⟩
          have hUd : U.data.toList = put (ls.take k) := by rw [← hU]
          have htl : (ls.take k).length = k := by rw [List.length_take, HNN.out]; omega
          have CU := Lib.hid (fun wx nn cc (hnn : nn = k) (hr : Rd wx (some ⟨g, 0, none⟩) 0 (ls.take k)) => put_n (some ⟨g, 0, none⟩) nn cc (ls.take k) wx (hnn.trans htl.symm) hr (by have := room_take ls k; omega) (by rw [htl]; omega))
          rw [hU] at CU
          have hUs : U.size ≤ 255 := by
            rw [← size_len, hUd, put_length]; have := room_take ls k; omega
          have CX := Lib.hid (fun w => show_any U w (by omega))
          have eS : showS U.data.toList = showL (ls.take k) := by rw [hUd]; exact showS_yes (isN_take H1.out k) hr2
          rw [eS] at CX
          obtain ⟨Y, hY⟩ : ∃ Y : ByteArray, (⟨(showL (ls.take k)).toArray⟩ : ByteArray) = Y := ⟨_, rfl⟩
          have hYd : Y.data.toList = y ++ [46] := by rw [← hY, ← hy]
          have hYl : Y.size ≤ 1100 := by
            rw [← hY, mk_size]
            have h3 := show_len (ls.take k); have h4 := room_take ls k; omega
          rw [hY] at CX
          obtain ⟨q, hq⟩ : ∃ q, Y.size = q + 1 := ⟨y.length, by rw [← size_len, hYd]; simp⟩
          obtain ⟨Z, hZ⟩ : ∃ Z, Y.extract 0 q = Z := ⟨_, rfl⟩
          have HZE : Hid (Z = ⟨R.toArray⟩) := Lib.hid (by
            apply ba_ext
            have hql : q = y.length := by have := congrArg List.length hYd; rw [size_len, hq] at this; simpa using this
            rw [← hZ, Lib.extract_data, hYd, hql, ← HE.out]; simp)
          have HQ := Lib.hid hq
          have hki0 : ((k : Int) == 0) = false := by rw [beq_eq_false_iff_ne]; omega
          have hqv := Lib.hid (show (Y.size : Int) - 1 = (q : Int) by omega)
          have hqY : (q : Int) ≤ (Y.size : Int) := by omega
          have hkc : (k : Int) ≤ (c : Int) := by omega
          have HRTW := Lib.hid (fun k => (HRT.out k).below HB.out rfl)
          clear hd hT hTd hr1 hr2 hy hU hUd htl eS hY hYd hq
          by_cases hck : c = k
          · have HEN2 := Lib.hid (HEND.out hck)
            subst hck
            go_wp2_with fail
            refine (CP.out _ _ _ (by omega) HEN2.out).mono ?_
            rintro e w2 ⟨rfl, hB2⟩
            have HB2 := Lib.hid (HBW.out.trans (hB2.mono HBW.out.size))
            have HR2 := Lib.hid ((HRTW.out c).below hB2 rfl)
            clear hB2
            go_wp2_with fail
            refine (CU.out _ _ _ (by omega) HR2.out).mono ?_
            rintro e w3 ⟨rfl, hB3⟩
            have HB3 := Lib.hid (HB2.out.trans (hB3.mono HB2.out.size)); clear hB3
            go_wp2_with fail
            refine (CX.out _).mono ?_
            rintro e w4 ⟨rfl, hB4⟩
            have HB4 := Lib.hid (HB3.out.trans (hB4.mono HB3.out.size)); clear hB4
            go_upto_region 9 with fail
            have hqe := congrArg (Value.int .i64) hqv.out
            go_wp2_with fail
            go_ret
            exact ⟨by rw [← HZE.out]; rfl, HB4.out⟩
          · have hck' : ¬ c = k := hck
            clear HEND
            go_wp2_with fail
            refine (CP.out _ _ _ (by omega) (HMEM.out k)).mono ?_
            rintro e w2 ⟨rfl, hB2⟩
            have HB2 := Lib.hid (HBW.out.trans (hB2.mono HBW.out.size))
            have HR2 := Lib.hid ((HRTW.out k).below hB2 rfl)
            clear hB2
            go_wp2_with fail
            refine (CU.out _ _ _ (by omega) HR2.out).mono ?_
            rintro e w3 ⟨rfl, hB3⟩
            have HB3 := Lib.hid (HB2.out.trans (hB3.mono HB2.out.size)); clear hB3
            go_wp2_with fail
            refine (CX.out _).mono ?_
            rintro e w4 ⟨rfl, hB4⟩
            have HB4 := Lib.hid (HB3.out.trans (hB4.mono HB3.out.size)); clear hB4
            go_upto_region 9 with fail
            have hqe := congrArg (Value.int .i64) hqv.out
            go_wp2_with fail
            go_ret
            exact ⟨by rw [← HZE.out]; rfl, HB4.out⟩
      · have hb : (T.toList == O.toList) = false := by
          rw [str_eqB, decide_eq_false_iff_not, hTd, H2.out.1]; intro h; exact hd (put_inj (okL_drop H1.out.2.1 k) H2.out.2.1 h)
        have HNO2 : Hid (∀ j, j < k + 1 → ls.drop j ≠ os) := Lib.hid (fun j hj h => by
          rcases Nat.lt_or_ge j k with hjk | hjk
          · exact HNO.out j hjk h
          · have : j = k := by omega
            subst this; exact hd h)
        clear hd hT hTd
        by_cases hck : c = k
        · have HEN2 := Lib.hid (HEND.out hck)
          subst hck
          go_wp2_with fail
          refine (CP.out _ _ _ (by omega) HEN2.out).mono ?_
          rintro e w2 ⟨rfl, hB2⟩
          have HB2 := Lib.hid (HB.out.trans (hB2.mono hsz)); clear hB2
          go_wp2_with fail
          have hkg := HKG.out
          go_roundg (gk - 1)
          case rel => exact ⟨c + 1, by go_num, by omega, by omega, HNO2, HB2⟩
          case measure => omega
        · have hck' : ¬ c = k := hck
          clear HEND
          go_wp2_with fail
          refine (CP.out _ _ _ (by omega) (HMEM.out k)).mono ?_
          rintro e w2 ⟨rfl, hB2⟩
          have HB2 := Lib.hid (HB.out.trans (hB2.mono hsz)); clear hB2
          go_wp2_with fail
          have hkg := HKG.out
          go_roundg (gk - 1)
          case rel => exact ⟨k + 1, by go_num, by omega, by omega, HNO2, HB2⟩
          case measure => omega
    · obtain rfl : k = n + 1 := by omega
      have HE : Hid (showS N.data.toList = R) := Lib.hid (by
        rw [← HR.out]; exact (rel_end H1.out H2.out (by rw [HNN.out]; exact HNO.out)).symm)
      rw [HE.out] at CS
      go_wp2_with fail
      refine (CS.out _).mono ?_
      rintro e w2 ⟨rfl, hB2⟩
      have HB2 := Lib.hid (HBW.out.trans (hB2.mono HBW.out.size)); clear hB2
      go_wp2_with fail
      go_ret
      exact ⟨rfl, HB2.out⟩
theorem owner_any (N O : ByteArray) (ls os : List Bs) (w : World) (h1 : IsN N.data.toList ls) (h2 : IsN O.data.toList os) :
    Calls Tryz.prog 34 #[.string N, .string O] w fun e w' => e = .returned (.string ⟨(relS N.data.toList O.data.toList).toArray⟩) ∧ Below w.heap.size w w' := by
  by_cases h0 : ls = []
  · subst h0; exact owner_nil N O os w h1 h2
  · exact owner_some N O ls os w h1 h2 h0
end Go.Proofs.YtjejmgdpjfdhjaaGreatDoor.rel

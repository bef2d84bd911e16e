/- The reference's FoldName, EqualName, Count, Tail, Parent: walks. -/
import Derived.Test.YtjflojefpaffeaaPut
namespace Go.Proofs.Ytjflojefpaffeaa.refA
open Go.RowKit Go.Proofs.Ytjflojefpaffeaa.kit Go.Proofs.Ytjflojefpaffeaa.nspec Go.Proofs.Ytjflojefpaffeaa.rsplit Go.Proofs.Ytjflojefpaffeaa.rput Go.Proofs.Ytjflojefpaffeaa.low

def foldS (l : Bs) : Bs := match split l with | some ls => put (ls.map lowL) | none => []
def countS (l : Bs) : Int := match split l with | some ls => (ls.length : Int) | none => -1
def tailS (l : Bs) (k : Int) : Bs := match split l with | some ls => if 0 ≤ k ∧ k ≤ (ls.length : Int) then put (ls.drop (ls.length - k.toNat)) else [] | none => []
def parentS (l : Bs) : Bs := match split l with | some (_ :: r) => put r | _ => []
def equalS (a b : Bs) : Bool := match split a, split b with | some x, some y => decide (x.map lowL = y.map lowL) | _, _ => false

theorem split_len {l : Bs} {ls : List Bs} (h : IsN l ls) : ls.length ≤ 254 := by
  have h1 := isN_room h
  have : ∀ ls : List Bs, ls.length ≤ room ls := by
    intro ls; induction ls with
    | nil => simp [room]
    | cons x r ih => simp [room] at ih ⊢; omega
  have := this ls; omega
theorem room_low (ls : List Bs) : room (ls.map lowL) = room ls := by
  simp [room, lowL, List.map_map, Function.comp_def]
theorem okL_low {ls : List Bs} (h : okL ls) : okL (ls.map lowL) := by
  intro x hx
  obtain ⟨y, hy, rfl⟩ := List.mem_map.1 hx
  simpa [lowL] using h y hy

set_option maxRecDepth 100000 in
set_option maxHeartbeats 1000000 in
theorem fold_yes (s : ByteArray) (ls : List Bs) (w : World) (h : IsN s.data.toList ls) :
    Calls Try.prog 40 #[.string s] w fun e w' => e = .returned (strV (put (ls.map lowL))) ∧ Below w.heap.size w w' := by
  obtain ⟨i0, hi, hz0, hz1, hz2⟩ := info_parts infoStr
  have hll := split_len h
  have hrm := isN_room h
  have hok := h.2.1
  have HOK := Lib.hid hok; clear hok
  have HH := Lib.hid h; clear h
  go_enter Try.func40, Try.ntmps40
  go_wp2_with fail
  refine (split_yes s ls _ HH.out).mono ?_
  rintro e w1 ⟨v, rfl, hsv, hB1⟩
  obtain ⟨a, c, rfl, hrd⟩ := hsv.rd
  have HR := Lib.hid hrd; clear hsv hrd
  go_wp2
  go_loopg [5, 17] (ls.length) (fun gas ov kv wr => ∃ (k : Nat), kv = .int .i64 k ∧ k + gas = ls.length ∧ wr.ownsRow w1.heap.size 9 1 ov (ls.take k).length (((ls.take k).map lowL).map strV) ∧ Below w1.heap.size w1 wr)
  case atStart => exact ⟨0, rfl, by omega, World.ownsRow_nil _ _ _ _, Below.refl _ _⟩
  case round =>
    obtain ⟨k, rfl, hk, hown, hB⟩ := hrel
    have hk' : k ≤ ls.length := by omega
    have HK := Lib.hid hk; clear hk
    by_cases hlt : k < ls.length
    · obtain ⟨x, hx⟩ : ∃ x, ls[k]? = some x := ⟨_, List.getElem?_eq_getElem hlt⟩
      obtain ⟨g, o, rfl, _, hg, hcell⟩ := HR.out k x hx
      have hcell2 := (hB.cell (p := ⟨g, o + k, none⟩) hg).trans hcell
      have hxl := (HOK.out x (List.mem_of_getElem? hx)).2
      have HX := Lib.hid hx; clear hx hcell
      unfold strV at hcell2
      obtain ⟨xs, hxs⟩ : ∃ xs : ByteArray, xs = ⟨x.toArray⟩ := ⟨_, rfl⟩
      rw [← hxs] at hcell2
      have hxl : xs.size ≤ maxLen := by rw [hxs, mk_size]; unfold maxLen; omega
      have HXD : Hid (xs.data.toList = x) := Lib.hid (by rw [hxs])
      have HXS := Lib.hid hxs; clear hxs
      go_wp2_with fail
      refine (low_any xs _ hxl).mono ?_
      rintro e w2 ⟨rfl, hB2⟩
      rw [HXD.out]
      have hsz := hB.size
      have hsz2 := hB2.size
      have hown2 := hown.kept (w' := w2) (row := none) ⟨hB2.os, hB2.tape, hB2.output, hB2.size, fun k hk _ => hB2.block k hk⟩ (by cases hv : Value.ownBlock _ <;> simp)
      have hBB := hB.trans (hB2.mono hsz)
      have htk : (ls.take k).length ≤ 254 := by rw [List.length_take]; omega
      clear hown hcell2
      go_wp2_with (at_builtin; refine wpList_append_own _ rfl _ _ 55 rfl w1.heap.size 9 i0 (.string ByteArray.empty) 1 16 Try.underlying55 hi hz0 hz1 hz2 rfl (by decide) _ _ _ rfl (hown2.alloc _) ⟨w2.heap.size, 0, none⟩ 1 1 [.string ⟨(lowL x).toArray⟩] rfl rfl ?c1 ?c2 ?c3 ?c4 ?c5 ?_)
      case c1 => exact cell_one_new _ _ _
      case c2 => simp [Value.oneCell']
      case c3 => unfold maxLen; omega
      case c4 => omega
      case c5 => simp; omega
      intro v' w3 hown' hgrow _
      have hB3 := below_append hBB (by omega) hown2 hgrow
      have hsn : Hid (ls.take (k + 1) = ls.take k ++ [x]) := Lib.hid (by
        obtain ⟨h1, h2⟩ := List.getElem?_eq_some_iff.1 HX.out
        rw [List.take_succ_eq_append_getElem h1, h2])
      have HOW : Hid (w3.ownsRow w1.heap.size 9 1 v' (ls.take (k + 1)).length (((ls.take (k + 1)).map lowL).map strV)) := Lib.hid (by
        have hmin : min k ls.length = k := by omega
        rw [hsn.out]; simpa [strV, hmin] using hown')
      clear hown' hgrow hown2
      go_wp2
      have hk := HK.out
      go_roundg (gk - 1)
      case rel => exact ⟨k + 1, by go_num, by omega, HOW.out, hB3⟩
      case measure => omega
    · have HE : Hid (ls.take k = ls) := Lib.hid (List.take_of_length_le (by omega))
      rw [HE.out] at hown
      obtain ⟨a2, c2, rfl, hrd2⟩ := Rd.of_own (ls := ls.map lowL) (by simpa using hown)
      have hlm : (ls.map lowL).length = ls.length := List.length_map _
      have hput := put_any a2 c2 (ls.map lowL) wr (hrd2.mono (Nat.zero_le _)) (by rw [room_low]; omega) (by omega)
      rw [hlm] at hput ⊢
      have HP := Lib.hid hput; clear hput
      have HLM := Lib.hid hlm; clear hlm hown hrd2
      go_wp2_with fail
      refine HP.out.mono ?_
      rintro e w2 ⟨rfl, hB2⟩
      unfold strV
      go_wp2
      go_ret
      exact ⟨rfl, hB1.trans ((hB.trans (hB2.mono hB.size)).mono hB1.size)⟩
set_option maxRecDepth 100000 in
theorem fold_no (s : ByteArray) (w : World) (hs : s.size ≤ 1099511627776) (h : split s.data.toList = none) :
    Calls Try.prog 40 #[.string s] w fun e w' => e = .returned (strV []) ∧ Below w.heap.size w w' := by
  have HH := Lib.hid h; clear h
  go_enter Try.func40, Try.ntmps40
  go_wp2_with fail
  refine (split_no s _ hs HH.out).mono ?_
  rintro e w1 ⟨a, n, c, rfl, hB⟩
  go_wp2
  go_ret
  exact ⟨rfl, hB⟩
theorem foldS_yes {l : Bs} {ls : List Bs} (h : IsN l ls) : foldS l = put (ls.map lowL) := by unfold foldS; rw [split_iff.2 h]
theorem foldS_no {l : Bs} (h : split l = none) : foldS l = [] := by unfold foldS; rw [h]
theorem fold_any (s : ByteArray) (w : World) (hs : s.size ≤ 1099511627776) :
    Calls Try.prog 40 #[.string s] w fun e w' => e = .returned (.string ⟨(foldS s.data.toList).toArray⟩) ∧ Below w.heap.size w w' := by
  rcases isB_or s with ⟨ls, h⟩ | h
  · rw [foldS_yes h]; exact fold_yes s ls w h
  · rw [foldS_no h]; exact fold_no s w hs h

theorem equalS_eq (a b : Bs) : equalS a b = ((split a).isSome && (split b).isSome && decide (foldS a = foldS b)) := by
  unfold equalS foldS
  cases ha : split a with
  | none => rfl
  | some x =>
    cases hb : split b with
    | none => rfl
    | some y =>
      simp only [Option.isSome_some, Bool.true_and]
      have h1 := okL_low (split_iff.1 ha).2.1
      have h2 := okL_low (split_iff.1 hb).2.1
      by_cases h : x.map lowL = y.map lowL
      · rw [decide_eq_true h, decide_eq_true (congrArg put h)]
      · rw [decide_eq_false h, decide_eq_false (fun e => h (put_inj h1 h2 e))]
theorem beq_dec (a b : Bs) : ((⟨a.toArray⟩ : ByteArray).toList == (⟨b.toArray⟩ : ByteArray).toList) = decide (a = b) := by
  rw [Lib.toList_data, Lib.toList_data]
  by_cases h : a = b
  · subst h; simp
  · rw [decide_eq_false h]; simpa using h

set_option maxRecDepth 100000 in
set_option maxHeartbeats 1000000 in
theorem equal_any (s t : ByteArray) (w : World) (hs : s.size ≤ 1099511627776) (ht : t.size ≤ 1099511627776) :
    Calls Try.prog 44 #[.string s, .string t] w fun e w' => e = .returned (.bool (equalS s.data.toList t.data.toList)) ∧ Below w.heap.size w w' := by
  have HE := Lib.hid (equalS_eq s.data.toList t.data.toList)
  obtain ⟨R, HR⟩ : ∃ R, Hid (R = equalS s.data.toList t.data.toList) := ⟨_, Lib.hid rfl⟩
  go_enter Try.func44, Try.ntmps44
  go_wp2_with fail
  refine (isName_any s _ hs).mono ?_
  rintro e w1 ⟨rfl, hB1⟩
  obtain ⟨b1, hb1⟩ : ∃ b, isB s = b := ⟨_, rfl⟩
  rw [hb1]
  have H1 := Lib.hid hb1; clear hb1
  cases b1
  · go_wp2
    go_ret
    exact ⟨ret_bool (by rw [HE.out]; have := H1.out; unfold isB at this; rw [this]; rfl), hB1⟩
  go_wp2_with fail
  refine (isName_any t _ ht).mono ?_
  rintro e w2 ⟨rfl, hB2⟩
  obtain ⟨b2, hb2⟩ : ∃ b, isB t = b := ⟨_, rfl⟩
  rw [hb2]
  have H2 := Lib.hid hb2; clear hb2
  have hB12 := hB1.trans (hB2.mono hB1.size)
  cases b2
  · go_wp2
    go_ret
    exact ⟨ret_bool (by rw [HE.out]; have := H1.out; unfold isB at this; rw [this]; have := H2.out; unfold isB at this; rw [this]; rfl), hB12⟩
  go_wp2_with fail
  refine (fold_any s _ hs).mono ?_
  rintro e w3 ⟨rfl, hB3⟩
  have hB13 := hB12.trans (hB3.mono hB12.size)
  go_wp2_with fail
  refine (fold_any t _ ht).mono ?_
  rintro e w4 ⟨rfl, hB4⟩
  have hB14 := hB13.trans (hB4.mono hB13.size)
  have hbd := beq_dec (foldS s.data.toList) (foldS t.data.toList)
  have HBD := Lib.hid hbd; clear hbd
  go_wp2
  go_ret
  refine ⟨ret_bool ?_, hB14⟩
  rw [HE.out]
  have := H1.out; unfold isB at this; rw [this]; have := H2.out; unfold isB at this; rw [this]
  first | exact HBD.out | (rw [← HBD.out]; simp [Lib.toList_data])
theorem countS_yes {l : Bs} {ls : List Bs} (h : IsN l ls) : countS l = ls.length := by unfold countS; rw [split_iff.2 h]
theorem countS_no {l : Bs} (h : split l = none) : countS l = -1 := by unfold countS; rw [h]
set_option maxRecDepth 100000 in
theorem count_any (s : ByteArray) (w : World) (hs : s.size ≤ 1099511627776) :
    Calls Try.prog 58 #[.string s] w fun e w' => e = .returned (.int .i64 (countS s.data.toList)) ∧ Below w.heap.size w w' := by
  rcases isB_or s with ⟨ls, h⟩ | h
  · rw [countS_yes h]
    have HH := Lib.hid h; clear h
    go_enter Try.func58, Try.ntmps58
    go_wp2_with fail
    refine (split_yes s ls _ HH.out).mono ?_
    rintro e w1 ⟨v, rfl, hsv, hB⟩
    obtain ⟨a, c, rfl, _⟩ := hsv.rd
    go_wp2
    go_ret
    exact ⟨rfl, hB⟩
  · rw [countS_no h]
    have HH := Lib.hid h; clear h
    go_enter Try.func58, Try.ntmps58
    go_wp2_with fail
    refine (split_no s _ hs HH.out).mono ?_
    rintro e w1 ⟨a, n, c, rfl, hB⟩
    go_wp2
    go_ret
    exact ⟨rfl, hB⟩
theorem tailS_yes {l : Bs} {ls : List Bs} (h : IsN l ls) (k : Int) : tailS l k = if 0 ≤ k ∧ k ≤ (ls.length : Int) then put (ls.drop (ls.length - k.toNat)) else [] := by unfold tailS; rw [split_iff.2 h]
theorem tailS_no {l : Bs} (h : split l = none) (k : Int) : tailS l k = [] := by unfold tailS; rw [h]
theorem put_n (a : Option Addr) (n c : Nat) (ls : List Bs) (w : World) (hn : n = ls.length) (hr : Rd w a 0 ls) (hs : room ls ≤ 1099511627776) (hl : ls.length ≤ 1099511627776) :
    Calls Try.prog 83 #[.slice a n c] w fun e w' => e = .returned (.string ⟨(put ls).toArray⟩) ∧ Below w.heap.size w w' := by
  subst hn; exact put_any a c ls w hr hs hl
theorem rd_drop {w : World} {g i : Nat} {ls : List Bs} (h : ∀ (j : Nat) (x : Bs), ls[j]? = some x → w.cell? ⟨g, j, none⟩ = some (strV x)) (hg : g < w.heap.size) : Rd w (some ⟨g, i, none⟩) 0 (ls.drop i) := by
  intro j x hx
  rw [List.getElem?_drop] at hx
  exact ⟨g, i, rfl, Nat.zero_le _, hg, h _ x hx⟩
theorem room_drop (ls : List Bs) (k : Nat) : room (ls.drop k) ≤ room ls := by
  have := room_append (ls.take k) (ls.drop k); rw [List.take_append_drop] at this; omega
set_option maxRecDepth 100000 in
set_option maxHeartbeats 1000000 in
theorem tail_any (s : ByteArray) (k : Int) (w : World) (hs : s.size ≤ 1099511627776) :
    Calls Try.prog 62 #[.string s, .int .i64 k] w fun e w' => e = .returned (.string ⟨(tailS s.data.toList k).toArray⟩) ∧ Below w.heap.size w w' := by
  rcases isB_or s with ⟨ls, h⟩ | h
  · rw [tailS_yes h]
    have hll := split_len h
    have hrm := isN_room h
    have HH := Lib.hid h; clear h
    by_cases hk : 0 ≤ k ∧ k ≤ (ls.length : Int)
    · rw [if_pos hk]
      obtain ⟨hk0, hk1⟩ := hk
      obtain ⟨m, rfl⟩ := Int.eq_ofNat_of_zero_le hk0
      have hm : m ≤ ls.length := by omega
      obtain ⟨i, hi⟩ : ∃ i, i + m = ls.length := ⟨ls.length - m, by omega⟩
      have hii : ls.length - m = i := by omega
      rw [Int.toNat_natCast, hii]
      have hil : (ls.drop i).length = m := by rw [List.length_drop]; omega
      go_enter Try.func62, Try.ntmps62
      go_wp2_with fail
      refine (split_yes s ls _ HH.out).mono ?_
      rintro e w1 ⟨v, rfl, hsv, hB1⟩
      have hI : Hid (i + m = ls.length) := Lib.hid hi
      have hIL := Lib.hid hil
      have hi1 : (ls.length : Int) - (m : Int) = (i : Int) := by omega
      clear hii hil
      clear hi
      rcases hsv with ⟨rfl, rfl⟩ | ⟨hne, g, c, rfl, hlc, hcm, hbg, hgz, hcells⟩
      · have hi0 : i = 0 := by have := hI.out; simp at this; omega
        have hm0 : m = 0 := by have := hI.out; simp at this; omega
        subst hi0; subst hm0
        go_wp2_with fail
        refine (put_n none 0 0 [] _ rfl (Rd.nil _ _ _) (by simp [room]) (by simp)).mono ?_
        rintro e w2 ⟨rfl, hB2⟩
        go_wp2
        go_ret
        exact ⟨rfl, hB1.trans (hB2.mono hB1.size)⟩
      · have HRD := Lib.hid (rd_drop (i := i) hcells hgz); clear hcells
        have hrd := room_drop ls i
        unfold maxLen at hcm
        by_cases hci : c = i
        · subst hci
          have hd : ls.drop c = [] := List.drop_eq_nil_iff.2 hlc
          have HD := Lib.hid hd; clear hd
          go_wp2_with fail
          refine (put_n _ _ _ (ls.drop c) _ (by rw [List.length_drop]; omega) (by rw [HD.out]; exact Rd.nil _ _ _) (by omega) (by simp; omega)).mono ?_
          rintro e w2 ⟨rfl, hB2⟩
          go_wp2
          go_ret
          exact ⟨rfl, hB1.trans (hB2.mono hB1.size)⟩
        · have hci' : ¬ c = i := hci
          go_wp2_with fail
          refine (put_n _ _ _ (ls.drop i) _ (by simp) HRD.out (by omega) (by simp; omega)).mono ?_
          rintro e w2 ⟨rfl, hB2⟩
          go_wp2
          go_ret
          exact ⟨rfl, hB1.trans (hB2.mono hB1.size)⟩
    · rw [if_neg hk]
      by_cases hk0 : k < 0
      · go_enter Try.func62, Try.ntmps62
        go_wp2_with fail
        refine (split_yes s ls _ HH.out).mono ?_
        rintro e w1 ⟨v, rfl, hsv, hB1⟩
        obtain ⟨a, c, rfl, _⟩ := hsv.rd
        go_wp2
        go_ret
        exact ⟨rfl, hB1⟩
      · have hk0' : 0 ≤ k := by omega
        have hk1 : (ls.length : Int) < k := by omega
        clear hk hk0
        go_enter Try.func62, Try.ntmps62
        go_wp2_with fail
        refine (split_yes s ls _ HH.out).mono ?_
        rintro e w1 ⟨v, rfl, hsv, hB1⟩
        obtain ⟨a, c, rfl, _⟩ := hsv.rd
        go_wp2
        go_ret
        exact ⟨rfl, hB1⟩
  · rw [tailS_no h]
    have HH := Lib.hid h; clear h
    go_enter Try.func62, Try.ntmps62
    go_wp2_with fail
    refine (split_no s _ hs HH.out).mono ?_
    rintro e w1 ⟨a, n, c, rfl, hB⟩
    go_wp2
    go_ret
    exact ⟨rfl, hB⟩
theorem parentS_no {l : Bs} (h : split l = none) : parentS l = [] := by unfold parentS; rw [h]
theorem parentS_root {l : Bs} (h : IsN l []) : parentS l = [] := by unfold parentS; rw [split_iff.2 h]
theorem parentS_yes {l x : Bs} {r : List Bs} (h : IsN l (x :: r)) : parentS l = put r := by unfold parentS; rw [split_iff.2 h]
set_option maxRecDepth 100000 in
set_option maxHeartbeats 1000000 in
theorem parent_any (s : ByteArray) (w : World) (hs : s.size ≤ 1099511627776) :
    Calls Try.prog 60 #[.string s] w fun e w' => e = .returned (.string ⟨(parentS s.data.toList).toArray⟩) ∧ Below w.heap.size w w' := by
  rcases isB_or s with ⟨ls, h⟩ | h
  · have hll := split_len h
    have hrm := isN_room h
    cases ls with
    | nil =>
      rw [parentS_root h]
      have HH := Lib.hid h; clear h
      go_enter Try.func60, Try.ntmps60
      go_wp2_with fail
      refine (split_yes s [] _ HH.out).mono ?_
      rintro e w1 ⟨v, rfl, hsv, hB1⟩
      obtain ⟨a, c, rfl, _⟩ := hsv.rd
      go_wp2
      go_ret
      exact ⟨rfl, hB1⟩
    | cons x r =>
      rw [parentS_yes h]
      have HH := Lib.hid h; clear h
      go_enter Try.func60, Try.ntmps60
      go_wp2_with fail
      refine (split_yes s (x :: r) _ HH.out).mono ?_
      rintro e w1 ⟨v, rfl, hsv, hB1⟩
      rcases hsv with ⟨h0, _⟩ | ⟨_, g, c, rfl, hlc, hcm, hbg, hgz, hcells⟩
      · cases h0
      have HRD := Lib.hid (rd_drop (i := 1) hcells hgz); clear hcells
      have hrr : room r ≤ room (x :: r) := by simp [room]
      unfold maxLen at hcm
      simp only [List.length_cons] at hlc hll
      by_cases hci : c = 1
      · subst hci
        have hd : r = [] := List.eq_nil_of_length_eq_zero (by omega)
        subst hd
        go_wp2_with fail
        refine (put_n _ _ _ [] _ (by simp) (Rd.nil _ _ _) (by simp [room]) (by simp)).mono ?_
        rintro e w2 ⟨rfl, hB2⟩
        go_wp2
        go_ret
        exact ⟨rfl, hB1.trans (hB2.mono hB1.size)⟩
      · go_wp2_with fail
        refine (put_n _ _ _ r _ (by simp) HRD.out (by omega) (by omega)).mono ?_
        rintro e w2 ⟨rfl, hB2⟩
        go_wp2
        go_ret
        exact ⟨rfl, hB1.trans (hB2.mono hB1.size)⟩
  · rw [parentS_no h]
    have HH := Lib.hid h; clear h
    go_enter Try.func60, Try.ntmps60
    go_wp2_with fail
    refine (split_no s _ hs HH.out).mono ?_
    rintro e w1 ⟨a, n, c, rfl, hB⟩
    go_wp2
    go_ret
    exact ⟨rfl, hB⟩
end Go.Proofs.Ytjflojefpaffeaa.refA

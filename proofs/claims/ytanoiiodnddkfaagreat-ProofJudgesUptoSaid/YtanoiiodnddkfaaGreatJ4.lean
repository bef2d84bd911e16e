/- The reference's Put: walk. The reference's FoldName, EqualName, Count, Tail, Parent: walks. The reference's Within, Common: walks. name.Count, Tail, lower, Fold, Equal: walks. name.lower, Fold, Equal, Within, Common, Parent: walks. The reference's Graft: walk. -/
import Derived.Test.YtanoiiodnddkfaaGreatJ3
import Derived.Lib.SmallJoins
namespace Go.Proofs.YtanoiiodnddkfaaGreat.rput
open Go.RowKit Go.Proofs.YtanoiiodnddkfaaGreat.kit Go.Proofs.YtanoiiodnddkfaaGreat.nspec Go.Proofs.YtanoiiodnddkfaaGreat.rsplit

theorem byte_cell (w : World) (c : UInt8) : Bytes (w.alloc (.cells #[.int .u8 (c.toNat : Int)] 5)) w.heap.size [c] := by
  intro j d h
  have hj : j = 0 := by have := (List.getElem?_eq_some_iff.1 h).1; simpa using this
  subst hj
  have hd : d = c := by simpa using h.symm
  subst hd
  exact ⟨by simp [World.cell?_alloc_new], by simp⟩
theorem u8_mod (n : Nat) : ((UInt8.ofNat n).toNat : Int) = (n : Int) % 256 := by
  rw [UInt8.toNat_ofNat']; simp

/-- what stands ahead of the last byte -/
def flat (ls : List Bs) : Bs := ls.flatMap (fun x => UInt8.ofNat x.length :: x)
theorem flat_snoc (ls : List Bs) (x : Bs) : flat (ls ++ [x]) = flat ls ++ (UInt8.ofNat x.length :: x) := by simp [flat]
theorem flat_length (ls : List Bs) : (flat ls).length = room ls := by
  have := put_length ls; rw [put_flat] at this; simpa [flat] using this
theorem room_take (ls : List Bs) (k : Nat) : room (ls.take k) ≤ room ls := by
  have := room_append (ls.take k) (ls.drop k); rw [List.take_append_drop] at this; omega
theorem room_ge {ls : List Bs} {k : Nat} {x : Bs} (h : ls[k]? = some x) : room (ls.take k) + x.length + 1 ≤ room ls := by
  have h1 : ls.take (k + 1) = ls.take k ++ [x] := by
    obtain ⟨hk, rfl⟩ := List.getElem?_eq_some_iff.1 h
    rw [List.take_succ_eq_append_getElem hk]
  have := room_take ls (k + 1)
  rw [h1, room_append] at this
  simp [room] at this ⊢; omega

set_option maxRecDepth 100000 in
set_option maxHeartbeats 1000000 in
theorem put_any (a : Option Addr) (c : Nat) (ls : List Bs) (w : World) (hr : Rd w a 0 ls) (hs : room ls ≤ 1099511627776) (hn : ls.length ≤ 1099511627776) :
    Calls Tryz.prog 54 #[.slice a ls.length c] w fun e w' => e = .returned (strV (put ls)) ∧ Below w.heap.size w w' := by
  have HR := Lib.hid hr; clear hr
  go_enter Tryz.func54, Tryz.ntmps54
  go_wp2
  go_loopg [3, 8] (ls.length) (fun gas sv kv wr => ∃ (k : Nat) (u : ByteArray), kv = .int .i64 k ∧ k + gas = ls.length ∧ sv = .string u ∧ Below w.heap.size w wr ∧ Hid (u.data.toList = flat (ls.take k)))
  case atStart => exact ⟨0, ⟨#[]⟩, rfl, by omega, rfl, Below.refl _ _, Lib.hid (by simp [flat])⟩
  case round =>
    obtain ⟨k, u, rfl, hk, rfl, hB, HU⟩ := hrel
    have hk' : k ≤ ls.length := by omega
    have HK := Lib.hid hk; clear hk
    by_cases hlt : k < ls.length
    · obtain ⟨x, hx⟩ : ∃ x, ls[k]? = some x := ⟨_, List.getElem?_eq_getElem hlt⟩
      obtain ⟨g, o, rfl, _, hg, hcell⟩ := HR.out k x hx
      have hcell2 := (hB.cell (p := ⟨g, o + k, none⟩) hg).trans hcell
      have hrm := room_ge hx
      have HX := Lib.hid hx; clear hx hcell
      unfold strV at hcell2
      obtain ⟨xs, hxs⟩ : ∃ xs : ByteArray, xs = ⟨x.toArray⟩ := ⟨_, rfl⟩
      rw [← hxs] at hcell2
      have hxl : xs.size = x.length := by rw [hxs, mk_size]
      have HXS := Lib.hid hxs; clear hxs
      have hconv := bytes_back (P := Tryz.prog) (byte_cell wr (UInt8.ofNat xs.size)) 102 9 5 1 1 rfl Tryz.underlying102 Tryz.underlying5 Tryz.underlying9
      rw [u8_mod] at hconv
      have hul : u.size = room (ls.take k) := by rw [← size_len, HU.out, flat_length]
      have HXL := Lib.hid hxl; have HUL := Lib.hid hul
      have hb1 : xs.size ≤ 1099511627776 := by omega
      have hb2 : u.size ≤ 1099511627776 := by omega
      clear hxl hul hrm
      go_wp2
      have hk := HK.out
      go_roundg (gk - 1)
      case rel =>
        refine ⟨k + 1, _, by go_num, by omega, rfl, hB.alloc hB.size _, Lib.hid ?_⟩
        obtain ⟨h1, h2⟩ := List.getElem?_eq_some_iff.1 HX.out
        rw [List.take_succ_eq_append_getElem h1, h2, flat_snoc, Joins.data_append, Joins.data_append, HU.out, HXL.out, HXS.out]
        rfl
      case measure => omega
    · have HE : Hid (ls.take k = ls) := Lib.hid (List.take_of_length_le (by omega))
      have HUL : Hid (u.size = room (ls.take k)) := Lib.hid (by rw [← size_len, HU.out, flat_length])
      have hb2 : u.size ≤ 1099511627776 := by have := HUL.out; have := room_take ls k; omega
      go_wp2
      go_ret
      refine ⟨ret_str (ba_ext ?_), hB⟩
      rw [Joins.data_append, HU.out, HE.out, mk_data, put_flat]; rfl
end Go.Proofs.YtanoiiodnddkfaaGreat.rput
namespace Go.Proofs.YtanoiiodnddkfaaGreat.refA
open Go.RowKit Go.Proofs.YtanoiiodnddkfaaGreat.kit Go.Proofs.YtanoiiodnddkfaaGreat.nspec Go.Proofs.YtanoiiodnddkfaaGreat.rsplit Go.Proofs.YtanoiiodnddkfaaGreat.rput Go.Proofs.YtanoiiodnddkfaaGreat.low

def foldS (l : Bs) : Bs := match split l with | some ls => put (ls.map lowL) | none => []
def countS (l : Bs) : Int := match split l with | some ls => (ls.length : Int) | none => -1
def tailS (l : Bs) (k : Int) : Bs := match split l with | some ls => if 0 ≤ k ∧ k ≤ (ls.length : Int) then put (ls.drop (ls.length - k.toNat)) else [] | none => []
def parentS (l : Bs) : Bs := match split l with | some (_ :: r) => put r | _ => []
def equalS (a b : Bs) : Bool := match split a, split b with | some x, some y => decide (x.map lowL = y.map lowL) | _, _ => false

theorem split_len {l : Bs} {ls : List Bs} (h : IsN l ls) : ls.length ≤ 254 := by
  have h1 := isN_room h
  have : ∀ ls : List Bs, ls.length ≤ room ls := by
    intro ls; induction ls with
    | nil => simp [room]
    | cons x r ih => simp [room] at ih ⊢; omega
  have := this ls; omega
theorem room_low (ls : List Bs) : room (ls.map lowL) = room ls := by
  simp [room, lowL, List.map_map, Function.comp_def]
theorem okL_low {ls : List Bs} (h : okL ls) : okL (ls.map lowL) := by
  intro x hx
  obtain ⟨y, hy, rfl⟩ := List.mem_map.1 hx
  simpa [lowL] using h y hy

set_option maxRecDepth 100000 in
set_option maxHeartbeats 1000000 in
theorem fold_yes (s : ByteArray) (ls : List Bs) (w : World) (h : IsN s.data.toList ls) :
    Calls Tryz.prog 79 #[.string s] w fun e w' => e = .returned (strV (put (ls.map lowL))) ∧ Below w.heap.size w w' := by
  obtain ⟨i0, hi, hz0, hz1, hz2⟩ := info_parts infoStr
  have hll := split_len h
  have hrm := isN_room h
  have hok := h.2.1
  have HOK := Lib.hid hok; clear hok
  have HH := Lib.hid h; clear h
  go_enter Tryz.func79, Tryz.ntmps79
  go_wp2_with fail
  refine (split_yes s ls _ HH.out).mono ?_
  rintro e w1 ⟨v, rfl, hsv, hB1⟩
  obtain ⟨a, c, rfl, hrd⟩ := hsv.rd
  have HR := Lib.hid hrd; clear hsv hrd
  go_wp2
  go_loopg [5, 17] (ls.length) (fun gas ov kv wr => ∃ (k : Nat), kv = .int .i64 k ∧ k + gas = ls.length ∧ wr.ownsRow w1.heap.size 9 1 ov (ls.take k).length (((ls.take k).map lowL).map strV) ∧ Below w1.heap.size w1 wr)
  case atStart => exact ⟨0, rfl, by omega, World.ownsRow_nil _ _ _ _, Below.refl _ _⟩
  case round =>
    obtain ⟨k, rfl, hk, hown, hB⟩ := hrel
    have hk' : k ≤ ls.length := by omega
    have HK := Lib.hid hk; clear hk
    by_cases hlt : k < ls.length
    · obtain ⟨x, hx⟩ : ∃ x, ls[k]? = some x := ⟨_, List.getElem?_eq_getElem hlt⟩
      obtain ⟨g, o, rfl, _, hg, hcell⟩ := HR.out k x hx
      have hcell2 := (hB.cell (p := ⟨g, o + k, none⟩) hg).trans hcell
      have hxl := (HOK.out x (List.mem_of_getElem? hx)).2
      have HX := Lib.hid hx; clear hx hcell
      unfold strV at hcell2
      obtain ⟨xs, hxs⟩ : ∃ xs : ByteArray, xs = ⟨x.toArray⟩ := ⟨_, rfl⟩
      rw [← hxs] at hcell2
      have hxl : xs.size ≤ maxLen := by rw [hxs, mk_size]; unfold maxLen; omega
      have HXD : Hid (xs.data.toList = x) := Lib.hid (by rw [hxs])
      have HXS := Lib.hid hxs; clear hxs
      go_wp2_with fail
      refine (low_any xs _ hxl).mono ?_
      rintro e w2 ⟨rfl, hB2⟩
      rw [HXD.out]
      have hsz := hB.size
      have hsz2 := hB2.size
      have hown2 := hown.kept (w' := w2) (row := none) ⟨hB2.os, hB2.tape, hB2.output, hB2.size, fun k hk _ => hB2.block k hk⟩ (by cases hv : Value.ownBlock _ <;> simp)
      have hBB := hB.trans (hB2.mono hsz)
      have htk : (ls.take k).length ≤ 254 := by rw [List.length_take]; omega
      clear hown hcell2
      go_wp2_with (at_builtin; refine wpList_append_own _ rfl _ _ 74 rfl w1.heap.size 9 i0 (.string ByteArray.empty) 1 16 Tryz.underlying74 hi hz0 hz1 hz2 rfl (by decide) _ _ _ rfl (hown2.alloc _) ⟨w2.heap.size, 0, none⟩ 1 1 [.string ⟨(lowL x).toArray⟩] rfl rfl ?c1 ?c2 ?c3 ?c4 ?c5 ?_)
      case c1 => exact cell_one_new _ _ _
      case c2 => simp [Value.oneCell']
      case c3 => unfold maxLen; omega
      case c4 => omega
      case c5 => simp; omega
      intro v' w3 hown' hgrow _
      have hB3 := below_append hBB (by omega) hown2 hgrow
      have hsn : Hid (ls.take (k + 1) = ls.take k ++ [x]) := Lib.hid (by
        obtain ⟨h1, h2⟩ := List.getElem?_eq_some_iff.1 HX.out
        rw [List.take_succ_eq_append_getElem h1, h2])
      have HOW : Hid (w3.ownsRow w1.heap.size 9 1 v' (ls.take (k + 1)).length (((ls.take (k + 1)).map lowL).map strV)) := Lib.hid (by
        have hmin : min k ls.length = k := by omega
        rw [hsn.out]; simpa [strV, hmin] using hown')
      clear hown' hgrow hown2
      go_wp2
      have hk := HK.out
      go_roundg (gk - 1)
      case rel => exact ⟨k + 1, by go_num, by omega, HOW.out, hB3⟩
      case measure => omega
    · have HE : Hid (ls.take k = ls) := Lib.hid (List.take_of_length_le (by omega))
      rw [HE.out] at hown
      obtain ⟨a2, c2, rfl, hrd2⟩ := Rd.of_own (ls := ls.map lowL) (by simpa using hown)
      have hlm : (ls.map lowL).length = ls.length := List.length_map _
      have hput := put_any a2 c2 (ls.map lowL) wr (hrd2.mono (Nat.zero_le _)) (by rw [room_low]; omega) (by omega)
      rw [hlm] at hput ⊢
      have HP := Lib.hid hput; clear hput
      have HLM := Lib.hid hlm; clear hlm hown hrd2
      go_wp2_with fail
      refine HP.out.mono ?_
      rintro e w2 ⟨rfl, hB2⟩
      unfold strV
      go_wp2
      go_ret
      exact ⟨rfl, hB1.trans ((hB.trans (hB2.mono hB.size)).mono hB1.size)⟩
set_option maxRecDepth 100000 in
theorem fold_no (s : ByteArray) (w : World) (hs : s.size ≤ 1099511627776) (h : split s.data.toList = none) :
    Calls Tryz.prog 79 #[.string s] w fun e w' => e = .returned (strV []) ∧ Below w.heap.size w w' := by
  have HH := Lib.hid h; clear h
  go_enter Tryz.func79, Tryz.ntmps79
  go_wp2_with fail
  refine (split_no s _ hs HH.out).mono ?_
  rintro e w1 ⟨a, n, c, rfl, hB⟩
  go_wp2
  go_ret
  exact ⟨rfl, hB⟩
theorem foldS_yes {l : Bs} {ls : List Bs} (h : IsN l ls) : foldS l = put (ls.map lowL) := by unfold foldS; rw [split_iff.2 h]
theorem foldS_no {l : Bs} (h : split l = none) : foldS l = [] := by unfold foldS; rw [h]
theorem fold_any (s : ByteArray) (w : World) (hs : s.size ≤ 1099511627776) :
    Calls Tryz.prog 79 #[.string s] w fun e w' => e = .returned (.string ⟨(foldS s.data.toList).toArray⟩) ∧ Below w.heap.size w w' := by
  rcases isB_or s with ⟨ls, h⟩ | h
  · rw [foldS_yes h]; exact fold_yes s ls w h
  · rw [foldS_no h]; exact fold_no s w hs h

theorem equalS_eq (a b : Bs) : equalS a b = ((split a).isSome && (split b).isSome && decide (foldS a = foldS b)) := by
  unfold equalS foldS
  cases ha : split a with
  | none => rfl
  | some x =>
    cases hb : split b with
    | none => rfl
    | some y =>
      simp only [Option.isSome_some, Bool.true_and]
      have h1 := okL_low (split_iff.1 ha).2.1
      have h2 := okL_low (split_iff.1 hb).2.1
      by_cases h : x.map lowL = y.map lowL
      · rw [decide_eq_true h, decide_eq_true (congrArg put h)]
      · rw [decide_eq_false h, decide_eq_false (fun e => h (put_inj h1 h2 e))]
theorem beq_dec (a b : Bs) : ((⟨a.toArray⟩ : ByteArray).toList == (⟨b.toArray⟩ : ByteArray).toList) = decide (a = b) := by
  rw [Lib.toList_data, Lib.toList_data]
  by_cases h : a = b
  · subst h; simp
  · rw [decide_eq_false h]; simpa using h

set_option maxRecDepth 100000 in
set_option maxHeartbeats 1000000 in
theorem equal_any (s t : ByteArray) (w : World) (hs : s.size ≤ 1099511627776) (ht : t.size ≤ 1099511627776) :
    Calls Tryz.prog 51 #[.string s, .string t] w fun e w' => e = .returned (.bool (equalS s.data.toList t.data.toList)) ∧ Below w.heap.size w w' := by
  have HE := Lib.hid (equalS_eq s.data.toList t.data.toList)
  obtain ⟨R, HR⟩ : ∃ R, Hid (R = equalS s.data.toList t.data.toList) := ⟨_, Lib.hid rfl⟩
  go_enter Tryz.func51, Tryz.ntmps51
  go_wp2_with fail
  refine (isName_any s _ hs).mono ?_
  rintro e w1 ⟨rfl, hB1⟩
  obtain ⟨b1, hb1⟩ : ∃ b, isB s = b := ⟨_, rfl⟩
  rw [hb1]
  have H1 := Lib.hid hb1; clear hb1
  cases b1
  · go_wp2
    go_ret
    exact ⟨ret_bool (by rw [HE.out]; have := H1.out; unfold isB at this; rw [this]; rfl), hB1⟩
  go_wp2_with fail
  refine (isName_any t _ ht).mono ?_
  rintro e w2 ⟨rfl, hB2⟩
  obtain ⟨b2, hb2⟩ : ∃ b, isB t = b := ⟨_, rfl⟩
  rw [hb2]
  have H2 := Lib.hid hb2; clear hb2
  have hB12 := hB1.trans (hB2.mono hB1.size)
  cases b2
  · go_wp2
    go_ret
    exact ⟨ret_bool (by rw [HE.out]; have := H1.out; unfold isB at this; rw [this]; have := H2.out; unfold isB at this; rw [this]; rfl), hB12⟩
  go_wp2_with fail
  refine (fold_any s _ hs).mono ?_
  rintro e w3 ⟨rfl, hB3⟩
  have hB13 := hB12.trans (hB3.mono hB12.size)
  go_wp2_with fail
  refine (fold_any t _ ht).mono ?_
  rintro e w4 ⟨rfl, hB4⟩
  have hB14 := hB13.trans (hB4.mono hB13.size)
  have hbd := beq_dec (foldS s.data.toList) (foldS t.data.toList)
  have HBD := Lib.hid hbd; clear hbd
  go_wp2
  go_ret
  refine ⟨ret_bool ?_, hB14⟩
  rw [HE.out]
  have := H1.out; unfold isB at this; rw [this]; have := H2.out; unfold isB at this; rw [this]
  first | exact HBD.out | (rw [← HBD.out]; simp [Lib.toList_data])
theorem countS_yes {l : Bs} {ls : List Bs} (h : IsN l ls) : countS l = ls.length := by unfold countS; rw [split_iff.2 h]
theorem countS_no {l : Bs} (h : split l = none) : countS l = -1 := by unfold countS; rw [h]
set_option maxRecDepth 100000 in
theorem count_any (s : ByteArray) (w : World) (hs : s.size ≤ 1099511627776) :
    Calls Tryz.prog 20 #[.string s] w fun e w' => e = .returned (.int .i64 (countS s.data.toList)) ∧ Below w.heap.size w w' := by
  rcases isB_or s with ⟨ls, h⟩ | h
  · rw [countS_yes h]
    have HH := Lib.hid h; clear h
    go_enter Tryz.func20, Tryz.ntmps20
    go_wp2_with fail
    refine (split_yes s ls _ HH.out).mono ?_
    rintro e w1 ⟨v, rfl, hsv, hB⟩
    obtain ⟨a, c, rfl, _⟩ := hsv.rd
    go_wp2
    go_ret
    exact ⟨rfl, hB⟩
  · rw [countS_no h]
    have HH := Lib.hid h; clear h
    go_enter Tryz.func20, Tryz.ntmps20
    go_wp2_with fail
    refine (split_no s _ hs HH.out).mono ?_
    rintro e w1 ⟨a, n, c, rfl, hB⟩
    go_wp2
    go_ret
    exact ⟨rfl, hB⟩
theorem tailS_yes {l : Bs} {ls : List Bs} (h : IsN l ls) (k : Int) : tailS l k = if 0 ≤ k ∧ k ≤ (ls.length : Int) then put (ls.drop (ls.length - k.toNat)) else [] := by unfold tailS; rw [split_iff.2 h]
theorem tailS_no {l : Bs} (h : split l = none) (k : Int) : tailS l k = [] := by unfold tailS; rw [h]
theorem put_n (a : Option Addr) (n c : Nat) (ls : List Bs) (w : World) (hn : n = ls.length) (hr : Rd w a 0 ls) (hs : room ls ≤ 1099511627776) (hl : ls.length ≤ 1099511627776) :
    Calls Tryz.prog 54 #[.slice a n c] w fun e w' => e = .returned (.string ⟨(put ls).toArray⟩) ∧ Below w.heap.size w w' := by
  subst hn; exact put_any a c ls w hr hs hl
theorem rd_drop {w : World} {g i : Nat} {ls : List Bs} (h : ∀ (j : Nat) (x : Bs), ls[j]? = some x → w.cell? ⟨g, j, none⟩ = some (strV x)) (hg : g < w.heap.size) : Rd w (some ⟨g, i, none⟩) 0 (ls.drop i) := by
  intro j x hx
  rw [List.getElem?_drop] at hx
  exact ⟨g, i, rfl, Nat.zero_le _, hg, h _ x hx⟩
theorem room_drop (ls : List Bs) (k : Nat) : room (ls.drop k) ≤ room ls := by
  have := room_append (ls.take k) (ls.drop k); rw [List.take_append_drop] at this; omega
set_option maxRecDepth 100000 in
set_option maxHeartbeats 1000000 in
theorem tail_any (s : ByteArray) (k : Int) (w : World) (hs : s.size ≤ 1099511627776) :
    Calls Tryz.prog 22 #[.string s, .int .i64 k] w fun e w' => e = .returned (.string ⟨(tailS s.data.toList k).toArray⟩) ∧ Below w.heap.size w w' := by
  rcases isB_or s with ⟨ls, h⟩ | h
  · rw [tailS_yes h]
    have hll := split_len h
    have hrm := isN_room h
    have HH := Lib.hid h; clear h
    by_cases hk : 0 ≤ k ∧ k ≤ (ls.length : Int)
    · rw [if_pos hk]
      obtain ⟨hk0, hk1⟩ := hk
      obtain ⟨m, rfl⟩ := Int.eq_ofNat_of_zero_le hk0
      have hm : m ≤ ls.length := by omega
      obtain ⟨i, hi⟩ : ∃ i, i + m = ls.length := ⟨ls.length - m, by omega⟩
      have hii : ls.length - m = i := by omega
      rw [Int.toNat_natCast, hii]
      have hil : (ls.drop i).length = m := by rw [List.length_drop]; omega
      go_enter Tryz.func22, Tryz.ntmps22
      go_wp2_with fail
      refine (split_yes s ls _ HH.out).mono ?_
      rintro e w1 ⟨v, rfl, hsv, hB1⟩
      have hI : Hid (i + m = ls.length) := Lib.hid hi
      have hIL := Lib.hid hil
      have hi1 : (ls.length : Int) - (m : Int) = (i : Int) := by omega
      clear hii hil
      clear hi
      rcases hsv with ⟨rfl, rfl⟩ | ⟨hne, g, c, rfl, hlc, hcm, hbg, hgz, hcells⟩
      · have hi0 : i = 0 := by have := hI.out; simp at this; omega
        have hm0 : m = 0 := by have := hI.out; simp at this; omega
        subst hi0; subst hm0
        go_wp2_with fail
        refine (put_n none 0 0 [] _ rfl (Rd.nil _ _ _) (by simp [room]) (by simp)).mono ?_
        rintro e w2 ⟨rfl, hB2⟩
        go_wp2
        go_ret
        exact ⟨rfl, hB1.trans (hB2.mono hB1.size)⟩
      · have HRD := Lib.hid (rd_drop (i := i) hcells hgz); clear hcells
        have hrd := room_drop ls i
        unfold maxLen at hcm
        by_cases hci : c = i
        · subst hci
          have hd : ls.drop c = [] := List.drop_eq_nil_iff.2 hlc
          have HD := Lib.hid hd; clear hd
          go_wp2_with fail
          refine (put_n _ _ _ (ls.drop c) _ (by rw [List.length_drop]; omega) (by rw [HD.out]; exact Rd.nil _ _ _) (by omega) (by simp; omega)).mono ?_
          rintro e w2 ⟨rfl, hB2⟩
          go_wp2
          go_ret
          exact ⟨rfl, hB1.trans (hB2.mono hB1.size)⟩
        · have hci' : ¬ c = i := hci
          go_wp2_with fail
          refine (put_n _ _ _ (ls.drop i) _ (by simp) HRD.out (by omega) (by simp; omega)).mono ?_
          rintro e w2 ⟨rfl, hB2⟩
          go_wp2
          go_ret
          exact ⟨rfl, hB1.trans (hB2.mono hB1.size)⟩
    · rw [if_neg hk]
      by_cases hk0 : k < 0
      · go_enter Tryz.func22, Tryz.ntmps22
        go_wp2_with fail
        refine (split_yes s ls _ HH.out).mono ?_
        rintro e w1 ⟨v, rfl, hsv, hB1⟩
        obtain ⟨a, c, rfl, _⟩ := hsv.rd
        go_wp2
        go_ret
        exact ⟨rfl, hB1⟩
      · have hk0' : 0 ≤ k := by omega
        have hk1 : (ls.length : Int) < k := by omega
        clear hk hk0
        go_enter Tryz.func22, Tryz.ntmps22
        go_wp2_with fail
        refine (split_yes s ls _ HH.out).mono ?_
        rintro e w1 ⟨v, rfl, hsv, hB1⟩
        obtain ⟨a, c, rfl, _⟩ := hsv.rd
        go_wp2
        go_ret
        exact ⟨rfl, hB1⟩
  · rw [tailS_no h]
    have HH := Lib.hid h; clear h
    go_enter Tryz.func22, Tryz.ntmps22
    go_wp2_with fail
    refine (split_no s _ hs HH.out).mono ?_
    rintro e w1 ⟨a, n, c, rfl, hB⟩
    go_wp2
    go_ret
    exact ⟨rfl, hB⟩
theorem parentS_no {l : Bs} (h : split l = none) : parentS l = [] := by unfold parentS; rw [h]
theorem parentS_root {l : Bs} (h : IsN l []) : parentS l = [] := by unfold parentS; rw [split_iff.2 h]
theorem parentS_yes {l x : Bs} {r : List Bs} (h : IsN l (x :: r)) : parentS l = put r := by unfold parentS; rw [split_iff.2 h]
set_option maxRecDepth 100000 in
set_option maxHeartbeats 1000000 in
theorem parent_any (s : ByteArray) (w : World) (hs : s.size ≤ 1099511627776) :
    Calls Tryz.prog 85 #[.string s] w fun e w' => e = .returned (.string ⟨(parentS s.data.toList).toArray⟩) ∧ Below w.heap.size w w' := by
  rcases isB_or s with ⟨ls, h⟩ | h
  · have hll := split_len h
    have hrm := isN_room h
    cases ls with
    | nil =>
      rw [parentS_root h]
      have HH := Lib.hid h; clear h
      go_enter Tryz.func85, Tryz.ntmps85
      go_wp2_with fail
      refine (split_yes s [] _ HH.out).mono ?_
      rintro e w1 ⟨v, rfl, hsv, hB1⟩
      obtain ⟨a, c, rfl, _⟩ := hsv.rd
      go_wp2
      go_ret
      exact ⟨rfl, hB1⟩
    | cons x r =>
      rw [parentS_yes h]
      have HH := Lib.hid h; clear h
      go_enter Tryz.func85, Tryz.ntmps85
      go_wp2_with fail
      refine (split_yes s (x :: r) _ HH.out).mono ?_
      rintro e w1 ⟨v, rfl, hsv, hB1⟩
      rcases hsv with ⟨h0, _⟩ | ⟨_, g, c, rfl, hlc, hcm, hbg, hgz, hcells⟩
      · cases h0
      have HRD := Lib.hid (rd_drop (i := 1) hcells hgz); clear hcells
      have hrr : room r ≤ room (x :: r) := by simp [room]
      unfold maxLen at hcm
      simp only [List.length_cons] at hlc hll
      by_cases hci : c = 1
      · subst hci
        have hd : r = [] := List.eq_nil_of_length_eq_zero (by omega)
        subst hd
        go_wp2_with fail
        refine (put_n _ _ _ [] _ (by simp) (Rd.nil _ _ _) (by simp [room]) (by simp)).mono ?_
        rintro e w2 ⟨rfl, hB2⟩
        go_wp2
        go_ret
        exact ⟨rfl, hB1.trans (hB2.mono hB1.size)⟩
      · go_wp2_with fail
        refine (put_n _ _ _ r _ (by simp) HRD.out (by omega) (by omega)).mono ?_
        rintro e w2 ⟨rfl, hB2⟩
        go_wp2
        go_ret
        exact ⟨rfl, hB1.trans (hB2.mono hB1.size)⟩
  · rw [parentS_no h]
    have HH := Lib.hid h; clear h
    go_enter Tryz.func85, Tryz.ntmps85
    go_wp2_with fail
    refine (split_no s _ hs HH.out).mono ?_
    rintro e w1 ⟨a, n, c, rfl, hB⟩
    go_wp2
    go_ret
    exact ⟨rfl, hB⟩
end Go.Proofs.YtanoiiodnddkfaaGreat.refA
namespace Go.Proofs.YtanoiiodnddkfaaGreat.refB
open Go.RowKit Go.Proofs.YtanoiiodnddkfaaGreat.kit Go.Proofs.YtanoiiodnddkfaaGreat.nspec Go.Proofs.YtanoiiodnddkfaaGreat.rsplit Go.Proofs.YtanoiiodnddkfaaGreat.rput Go.Proofs.YtanoiiodnddkfaaGreat.low Go.Proofs.YtanoiiodnddkfaaGreat.refA

theorem tailS_len (l : Bs) (k : Int) : (tailS l k).length ≤ 255 := by
  unfold tailS
  cases h : split l with
  | none => simp
  | some ls =>
    simp only
    split
    · rw [put_length]; have := isN_room (split_iff.1 h); have := room_drop ls (ls.length - k.toNat); omega
    · simp
theorem countS_bd (l : Bs) : -1 ≤ countS l ∧ countS l ≤ 254 := by
  unfold countS
  cases h : split l with
  | none => simp
  | some ls => have := split_len (split_iff.1 h); simp only; omega

def wF (n z : Bs) : Nat → Nat → Bool
  | 0, _ => false
  | g + 1, k => if equalS (tailS n k) z then true else wF n z g (k + 1)
def withinS (n z : Bs) : Bool := wF n z (countS n + 1).toNat 0
theorem wF_yes {n z : Bs} {g k : Nat} {R : Bool} (h : wF n z g k = R) (hg : 0 < g) (he : equalS (tailS n k) z = true) : true = R := by
  obtain ⟨f, rfl⟩ : ∃ f, g = f + 1 := ⟨g - 1, by omega⟩
  rw [← h]; simp only [wF]; rw [if_pos he]
theorem wF_no {n z : Bs} {g k : Nat} {R : Bool} (h : wF n z g k = R) (hg : 0 < g) (he : equalS (tailS n k) z = false) : wF n z (g - 1) (k + 1) = R := by
  obtain ⟨f, rfl⟩ : ∃ f, g = f + 1 := ⟨g - 1, by omega⟩
  rw [← h]; simp only [wF]; rw [he]; simp

set_option maxRecDepth 100000 in
set_option maxHeartbeats 1000000 in
theorem within_any (s t : ByteArray) (w : World) (hs : s.size ≤ 1099511627776) (ht : t.size ≤ 1099511627776) :
    Calls Tryz.prog 15 #[.string s, .string t] w fun e w' => e = .returned (.bool (withinS s.data.toList t.data.toList)) ∧ Below w.heap.size w w' := by
  obtain ⟨R, HR⟩ : ∃ R, Hid (R = withinS s.data.toList t.data.toList) := ⟨_, Lib.hid rfl⟩
  obtain ⟨hC0, hC1⟩ := countS_bd s.data.toList
  have HC : Hid (wF s.data.toList t.data.toList (countS s.data.toList + 1).toNat 0 = R) := Lib.hid (by rw [HR.out]; rfl)
  obtain ⟨C, hC⟩ : ∃ C, countS s.data.toList = C := ⟨_, rfl⟩
  rw [hC] at hC0 hC1 HC
  have HCC := Lib.hid hC; clear hC
  go_enter Tryz.func15, Tryz.ntmps15
  go_wp2
  go_loopg [5] ((C + 1).toNat) (fun gas kv wr => ∃ (k : Nat), kv = .int .i64 k ∧ (k : Int) + gas = C + 1 ∧ Below w.heap.size w wr ∧ Hid (wF s.data.toList t.data.toList gas k = R))
  case atStart => exact ⟨0, rfl, by omega, Below.refl _ _, HC⟩
  case round =>
    obtain ⟨k, rfl, hk, hB, HW⟩ := hrel
    have hk' : (k : Int) ≤ C + 1 := by omega
    have HK := Lib.hid hk
    by_cases hlt : (k : Int) ≤ C
    · have hg : 0 < gk := by omega
      clear hk
      go_wp2_with fail
      refine (count_any s _ hs).mono ?_
      rintro e w1 ⟨rfl, hB1⟩
      rw [HCC.out]
      have hBB := hB.trans (hB1.mono hB.size)
      go_wp2_with fail
      refine (tail_any s k _ hs).mono ?_
      rintro e w2 ⟨rfl, hB2⟩
      have hBC := hBB.trans (hB2.mono hBB.size)
      have htl := tailS_len s.data.toList k
      go_wp2_with fail
      refine (equal_any _ t _ (by rw [mk_size]; omega) ht).mono ?_
      rintro e w3 ⟨rfl, hB3⟩
      have hBD := hBC.trans (hB3.mono hBC.size)
      rw [mk_data]
      obtain ⟨b, hb⟩ : ∃ b, equalS (tailS s.data.toList k) t.data.toList = b := ⟨_, rfl⟩
      rw [hb]
      have HE := Lib.hid hb; clear hb htl
      cases b
      · go_wp2
        have hk := HK.out
        go_roundg (gk - 1)
        case rel => exact ⟨k + 1, by go_num, by omega, hBD, Lib.hid (wF_no HW.out hg HE.out)⟩
        case measure => omega
      · go_wp2
        go_ret
        exact ⟨ret_bool ((wF_yes HW.out hg HE.out).trans HR.out), hBD⟩
    · have hg : gk = 0 := by omega
      subst hg
      have HF : Hid (false = R) := Lib.hid (by rw [← HW.out]; rfl)
      clear hk
      go_wp2_with fail
      refine (count_any s _ hs).mono ?_
      rintro e w1 ⟨rfl, hB1⟩
      rw [HCC.out]
      have hBB := hB.trans (hB1.mono hB.size)
      go_wp2
      go_ret
      exact ⟨ret_bool (HF.out.trans HR.out), hBB⟩

def cF (a b : Bs) : Nat → Bs
  | 0 => []
  | g + 1 => if withinS b (tailS a g) then tailS a g else cF a b g
def commonS (a b : Bs) : Bs := cF a b (countS a + 1).toNat
theorem cF_yes {a b : Bs} {g : Nat} {R : Bs} (h : cF a b (g + 1) = R) (he : withinS b (tailS a g) = true) : tailS a g = R := by
  rw [← h]; simp only [cF]; rw [if_pos he]
theorem cF_no {a b : Bs} {g : Nat} {R : Bs} (h : cF a b (g + 1) = R) (he : withinS b (tailS a g) = false) : cF a b g = R := by
  rw [← h]; simp only [cF]; rw [he]; simp

set_option maxRecDepth 100000 in
set_option maxHeartbeats 1000000 in
theorem common_any (s t : ByteArray) (w : World) (hs : s.size ≤ 1099511627776) (ht : t.size ≤ 1099511627776) :
    Calls Tryz.prog 19 #[.string s, .string t] w fun e w' => e = .returned (.string ⟨(commonS s.data.toList t.data.toList).toArray⟩) ∧ Below w.heap.size w w' := by
  obtain ⟨R, HR⟩ : ∃ R, Hid (R = commonS s.data.toList t.data.toList) := ⟨_, Lib.hid rfl⟩
  obtain ⟨hC0, hC1⟩ := countS_bd s.data.toList
  have HC : Hid (cF s.data.toList t.data.toList (countS s.data.toList + 1).toNat = R) := Lib.hid (by rw [HR.out]; rfl)
  obtain ⟨C, hC⟩ : ∃ C, countS s.data.toList = C := ⟨_, rfl⟩
  rw [hC] at hC0 hC1 HC
  have HCC := Lib.hid hC; clear hC
  go_enter Tryz.func19, Tryz.ntmps19
  go_wp2_with fail
  refine (count_any s _ hs).mono ?_
  rintro e w1 ⟨rfl, hB1⟩
  rw [HCC.out]
  go_wp2
  go_loopg [5] ((C + 1).toNat) (fun gas kv wr => ∃ (k : Int), kv = .int .i64 k ∧ k + 1 = gas ∧ k ≤ 254 ∧ Below w.heap.size w wr ∧ Hid (cF s.data.toList t.data.toList gas = R))
  case atStart => exact ⟨C, rfl, by omega, by omega, hB1, HC⟩
  case round =>
    obtain ⟨k, rfl, hk, hk254, hB, HW⟩ := hrel
    by_cases hlt : 0 ≤ k
    · obtain ⟨m, rfl⟩ := Int.eq_ofNat_of_zero_le hlt
      obtain rfl : gk = m + 1 := by omega
      clear hk
      go_wp2_with fail
      refine (tail_any s m _ hs).mono ?_
      rintro e w2 ⟨rfl, hB2⟩
      have hBC := hB.trans (hB2.mono hB.size)
      have htl := tailS_len s.data.toList m
      go_wp2_with fail
      refine (within_any t _ _ ht (by rw [mk_size]; omega)).mono ?_
      rintro e w3 ⟨rfl, hB3⟩
      have hBD := hBC.trans (hB3.mono hBC.size)
      rw [mk_data]
      obtain ⟨b, hb⟩ : ∃ b, withinS t.data.toList (tailS s.data.toList m) = b := ⟨_, rfl⟩
      rw [hb]
      have HE := Lib.hid hb; clear hb htl
      cases b
      · have HN := Lib.hid (cF_no HW.out HE.out)
        go_wp2
        go_roundg m
        case rel => exact ⟨_, rfl, by omega, by omega, hBD, HN⟩
        case measure => omega
      · have HY := Lib.hid (cF_yes HW.out HE.out)
        go_wp2_with fail
        refine (tail_any s m _ hs).mono ?_
        rintro e w4 ⟨rfl, hB4⟩
        have hBE := hBD.trans (hB4.mono hBD.size)
        go_wp2
        go_ret
        exact ⟨ret_str (by rw [HY.out, HR.out]), hBE⟩
    · obtain rfl : gk = 0 := by omega
      have HF : Hid ([] = R) := Lib.hid (by rw [← HW.out]; rfl)
      have hlt' : k < 0 := by omega
      clear hk hlt
      go_wp2
      go_ret
      exact ⟨ret_str (by rw [← HR.out, ← HF.out]), hB⟩
end Go.Proofs.YtanoiiodnddkfaaGreat.refB
namespace Go.Proofs.YtanoiiodnddkfaaGreat.nameA
open Go.RowKit Go.Shelf Go.Proofs.YtanoiiodnddkfaaGreat.kit Go.Proofs.YtanoiiodnddkfaaGreat.labels Go.Proofs.YtanoiiodnddkfaaGreat.check Go.Proofs.YtanoiiodnddkfaaGreat.nspec Go.Proofs.YtanoiiodnddkfaaGreat.rsplit Go.Proofs.YtanoiiodnddkfaaGreat.low Go.Proofs.YtanoiiodnddkfaaGreat.refA Go.Proofs.YtanoiiodnddkfaaGreat.refB
attribute [local go_sem] Oper.semAt_some

theorem pairsL_length : ∀ (k : Nat) (ls : List Bs), (pairsL k ls).length = ls.length + 1
  | _, [] => rfl
  | k, x :: r => by simp [pairsL, pairsL_length _ r]
theorem raw_length {N : Nat} (l : List (Lab N)) : (raw l).length = l.length := by simp [raw]

set_option maxRecDepth 100000 in
set_option maxHeartbeats 2000000 in
theorem ncount_yes (s : ByteArray) (ls : List Bs) (w : World) (h : IsN s.data.toList ls) :
    CallsIn Fence.wide 3 Tryz.prog 35 #[.string s] w fun e w' => e = .returned (.int .i64 (ls.length : Int)) ∧ Below w.heap.size w w' := by
  have hll := split_len h
  have hs : s.size ≤ 255 := by have := h.2.2; rwa [size_len] at this
  have HP := Lib.hid (pairs_isN h)
  have HK := Lib.hid (chk_yes h)
  clear h
  refine callsIn_of_wp_marks Tryz.func35 rfl trivial ?_ rfl
  simp only [Tryz.ntmps35, List.size_toArray, List.length_cons, List.length_nil, Nat.reduceAdd, Nat.reduceSub, Array.replicate_succ, Array.replicate_zero, List.push_toArray, List.append_toArray, List.nil_append, List.cons_append]
  gi_wp2_with fail
  refine ⟨trivial, ?_⟩
  refine (callsIn_wide.2 (check_any s _ (by omega))).mono ?_
  rintro e w1 ⟨rfl, hB1⟩
  rw [HK.out]
  gi_wp2_with fail
  refine ⟨trivial, ?_⟩
  refine (labels_in Fence.wide _ trivial rfl _ _).mono ?_
  rintro e w' ⟨rfl, rfl⟩
  gi_wp2
  obtain ⟨w2, hw2⟩ : ∃ w2, (w1.alloc (.cells #[.int .i64 (-1)] 3)).alloc (.cells #[.string s] 9) = w2 := ⟨_, rfl⟩
  rw [hw2]
  have hz : w2.heap.size = w1.heap.size + 2 := by rw [← hw2]; simp
  have hB : Below w.heap.size w w2 := by rw [← hw2]; exact (hB1.alloc hB1.size _).alloc (by have := hB1.size; simp; omega) _
  have h1 : Boxed w2 w1.heap.size 3 (.int .i64 (-1)) := by rw [← hw2]; exact (Boxed.new w1 _ _).alloc _
  have h3 : w2.cell? ⟨w1.heap.size + 1, 0, none⟩ = some (.string s) := by
    rw [← hw2]; have := (Boxed.new (w1.alloc (.cells #[.int .i64 (-1)] 3)) 9 (.string s)).cell; rw [World.size_alloc] at this; exact this
  have hz1 := hB1.size
  clear hw2
  refine wpIn_rangeFunc_ownG rfl (by omega) (gf := 92) (lb := #[.pointer (some ⟨w1.heap.size + 1, 0, none⟩)]) rfl trivial (enters_of Tryz.func92 (by kernel_rfl) rfl)
    (labels_stops Fence.wide _ trivial rfl (by omega) (w1.heap.size + 1) s (by omega) w2 (by omega) h3) (keepBox_t _) (fun W l o o' hl _ _ _ => keepBox_b W l o' (by omega)) (Below.refl _ _) (fun _ => rfl)
    (fun pre W => Boxed W w1.heap.size 3 (.int .i64 (-1 + (pre.length : Int))) ∧ Below w.heap.size w W)
    (fun _ _ _ => False)
    (((boxed_own _ _ (fun pre : List (Lab s.size) => .int .i64 (-1 + (pre.length : Int)))).from _).and (ownFrom_below (Nat.le_refl _) (by omega)))
    (fun c => ownFrom_pure _ _)
    ⟨h1, hB⟩
    (fun x => { tmps := #[.string s, undef, .int .i64 0, .pointer (some ⟨w1.heap.size, 0, none⟩), .string s, .int .i64 0, .bool false, .string s, .func (.func 92) #[] #[.pointer (some ⟨w1.heap.size + 1, 0, none⟩)], .int .i64 (x.val.1 : Int), .string x.val.2, undef, undef, undef], defers := [] }) ?assign ?body ?done ?stop
  case assign =>
    intro l x W K hK
    gi_wp2
    simpa using hK
  case body =>
    rintro l pre x W ⟨hb1, hBl⟩ hlen
    have hc1 := hb1.cell
    have hf1 := hb1.frozen
    gi_wp2
    refine ⟨(KeepsOthers.setCell _ _ _).from _, ?_, ?_, hBl.setCell (by simp; omega) _⟩
    · exact World.cell?_of_block (Below.heap_setCell _ _ _ _ (by simp))
    · have := hb1.set (.int .i64 (-1 + ((pre ++ [x]).length : Int)))
      have e : (-1 + ((pre ++ [x]).length : Int)) = -1 + (pre.length : Int) + 1 := by simp; omega
      rw [e] at this ⊢
      exact this
  case done =>
    rintro D ys W hD hS ⟨hb1, hBl⟩ hK
    have hlen : ys.length = ls.length + 1 := by rw [← raw_length, hS, HP.out, pairsL_length]
    clear hS
    have hc1 := hb1.cell
    have HL := Lib.hid hlen
    clear hlen
    gi_wp2
    refine ⟨by simp, .inl ⟨_, _, rfl, run_takeDeferred hK, ?_⟩⟩
    refine ⟨.int .i64 (-1 + (ys.length : Int)), by simp [results, Tryz.results35, go_sem], ret_int ?_, below_putObj hBl (by omega) _⟩
    rw [HL.out]; omega
  case stop =>
    rintro D c pre W hD hS h hK
    exact h.elim
theorem ncount_no (s : ByteArray) (w : World) (hs : s.size ≤ 1099511627776) (h : split s.data.toList = none) :
    Calls Tryz.prog 35 #[.string s] w fun e w' => e = .returned (.int .i64 (-1)) ∧ Below w.heap.size w w' := by
  have HK := Lib.hid (chk_no h)
  clear h
  go_enter Tryz.func35, Tryz.ntmps35
  go_wp2_with fail
  refine (check_any s _ hs).mono ?_
  rintro e w1 ⟨rfl, hB1⟩
  rw [HK.out]
  go_wp2
  go_ret
  exact ⟨rfl, hB1⟩
theorem ncount_any (s : ByteArray) (w : World) (hs : s.size ≤ 1099511627776) :
    Calls Tryz.prog 35 #[.string s] w fun e w' => e = .returned (.int .i64 (countS s.data.toList)) ∧ Below w.heap.size w w' := by
  rcases isB_or s with ⟨ls, h⟩ | h
  · rw [countS_yes h]; exact callsIn_wide.1 (ncount_yes s ls w h)
  · rw [countS_no h]; exact ncount_no s w hs h

theorem pairsL_at : ∀ (k j : Nat) (ls : List Bs) (p : Nat × ByteArray), (pairsL k ls)[j]? = some p → p.1 = k + room (ls.take j) ∧ j ≤ ls.length
  | k, 0, [], p, h => by simp [pairsL] at h; subst h; simp [room]
  | k, j + 1, [], p, h => by simp [pairsL] at h
  | k, 0, x :: r, p, h => by simp [pairsL] at h; subst h; simp [room]
  | k, j + 1, x :: r, p, h => by
    simp only [pairsL, List.getElem?_cons_succ] at h
    obtain ⟨h1, h2⟩ := pairsL_at _ j r p h
    simp only [List.take_succ_cons, List.length_cons]
    refine ⟨?_, by omega⟩
    rw [h1]; simp [room]; omega
theorem put_drop (ls : List Bs) (j : Nat) : (put ls).drop (room (ls.take j)) = put (ls.drop j) := by
  have h : put ls = (ls.take j).flatMap (fun x => UInt8.ofNat x.length :: x) ++ put (ls.drop j) := by
    rw [← put_append, List.take_append_drop]
  have hl : ((ls.take j).flatMap (fun x => UInt8.ofNat x.length :: x)).length = room (ls.take j) := by
    have := put_length (ls.take j); rw [put_flat] at this; simpa using this
  rw [h, ← hl, List.drop_left]
theorem pre_last {N : Nat} {s : ByteArray} {pre : List (Lab N)} {x : Lab N} (h : raw (pre ++ [x]) <+: pairs s) : (pairs s)[pre.length]? = some x.val := by
  obtain ⟨t, ht⟩ := h
  rw [← ht, raw_snoc, ← raw_length pre, List.append_assoc, List.getElem?_append_right (Nat.le_refl _)]
  simp
theorem tail_at {s : ByteArray} {ls : List Bs} {pre : List (Lab s.size)} {x : Lab s.size} {k : Int} (h : IsN s.data.toList ls) (hp : raw (pre ++ [x]) <+: pairs s) (hk : (ls.length : Int) - (pre.length : Int) = k) (hk0 : 0 ≤ k) :
    s.extract x.val.1 s.size = ⟨(tailS s.data.toList k).toArray⟩ := by
  have h1 := pre_last hp
  rw [pairs_isN h] at h1
  obtain ⟨h2, h3⟩ := pairsL_at 0 pre.length ls x.val h1
  refine ba_ext ?_
  rw [tailS_yes h, if_pos ⟨hk0, by omega⟩]
  rw [Lib.extract_data, List.take_of_length_le (by simp), h2, Nat.zero_add, show ls.length - k.toNat = pre.length from by omega]
  rw [h.1, put_drop]

set_option maxRecDepth 100000 in
set_option maxHeartbeats 2000000 in
theorem ntail_yes (s : ByteArray) (k : Int) (ls : List Bs) (w : World) (h : IsN s.data.toList ls) (hk0 : 0 ≤ k) (hk1 : k ≤ (ls.length : Int)) :
    CallsIn Fence.wide 3 Tryz.prog 37 #[.string s, .int .i64 k] w fun e w' => e = .returned (.string ⟨(tailS s.data.toList k).toArray⟩) ∧ Below w.heap.size w w' := by
  have hll := split_len h
  have hs : s.size ≤ 255 := by have := h.2.2; rwa [size_len] at this
  have HP := Lib.hid (pairs_isN h)
  have HN := Lib.hid h
  clear h
  refine callsIn_of_wp_marks Tryz.func37 rfl trivial ?_ rfl
  simp only [Tryz.ntmps37, List.size_toArray, List.length_cons, List.length_nil, Nat.reduceAdd, Nat.reduceSub, Array.replicate_succ, Array.replicate_zero, List.push_toArray, List.append_toArray, List.nil_append, List.cons_append]
  gi_wp2_with fail
  obtain ⟨w0, hw0⟩ : ∃ w0, ((w.alloc (.cells #[.string s] 9)).alloc (.cells #[.int .i64 k] 3)).alloc (.cells #[.string ByteArray.empty] 9) = w0 := ⟨_, rfl⟩
  have hE : (ByteArray.empty : ByteArray) = ⟨#[]⟩ := rfl
  rw [hE] at hw0
  rw [hw0]
  have hz0 : w0.heap.size = w.heap.size + 3 := by rw [← hw0]; simp
  have hB0 : Below w.heap.size w w0 := by rw [← hw0]; exact (((Below.refl _ w).alloc (Nat.le_refl _) _).alloc (by simp) _).alloc (by simp; omega) _
  have g1 : Boxed w0 w.heap.size 9 (.string s) := by rw [← hw0]; exact ((Boxed.new w _ _).alloc _).alloc _
  have g2 : Boxed w0 (w.heap.size + 1) 3 (.int .i64 k) := by
    rw [← hw0]; have := (Boxed.new (w.alloc (.cells #[.string s] 9)) 3 (.int .i64 k)).alloc (.cells #[.string ⟨#[]⟩] 9); rw [World.size_alloc] at this; exact this
  have g3 : Boxed w0 (w.heap.size + 2) 9 (.string ⟨#[]⟩) := by
    rw [← hw0]; have := (Boxed.new ((w.alloc (.cells #[.string s] 9)).alloc (.cells #[.int .i64 k] 3)) 9 (.string ⟨#[]⟩)); rw [World.size_alloc, World.size_alloc] at this; exact this
  clear hw0 hE
  refine ⟨trivial, ?_⟩
  refine (callsIn_wide.2 (callsIn_wide.1 (ncount_yes s ls _ HN.out))).mono ?_
  rintro e w1 ⟨rfl, hB1⟩
  have hBw := hB0.trans (hB1.mono hB0.size)
  have hz1 := hB1.size
  have kb : ∀ {B : Nat} {t : TypeId} {v : Value}, B < w0.heap.size → Boxed w0 B t v → Boxed w1 B t v := fun hb hv => (hB1.block _ hb).trans hv
  have f1 := kb (by omega) g1
  have f2 := kb (by omega) g2
  have f3 := kb (by omega) g3
  clear kb g1 g2 g3
  have c1 := f1.cell
  have c2 := f2.cell
  have hlt1 := f1.lt
  have hlt2 := f2.lt
  have hlt3 : w.heap.size + 1 + 1 < w1.heap.size := f3.lt
  have hk0b : decide (k < 0) = false := by simp; omega
  have hk1b : decide ((ls.length : Int) < k) = false := by simp; omega
  gi_wp2_with fail
  refine ⟨trivial, ?_⟩
  refine (labels_in Fence.wide _ trivial rfl _ _).mono ?_
  rintro e w' ⟨rfl, rfl⟩
  gi_wp2
  obtain ⟨w2, hw2⟩ : ∃ w2, (w1.alloc (.cells #[.int .i64 (ls.length : Int)] 3)).alloc (.cells #[.string s] 9) = w2 := ⟨_, rfl⟩
  rw [hw2]
  have hz : w2.heap.size = w1.heap.size + 2 := by rw [← hw2]; simp
  have hB : Below w.heap.size w w2 := by rw [← hw2]; exact (hBw.alloc hBw.size _).alloc (by have := hBw.size; simp; omega) _
  have h1 : Boxed w2 w1.heap.size 3 (.int .i64 (ls.length : Int)) := by rw [← hw2]; exact (Boxed.new w1 _ _).alloc _
  have h3 : w2.cell? ⟨w1.heap.size + 1, 0, none⟩ = some (.string s) := by
    rw [← hw2]; have := (Boxed.new (w1.alloc (.cells #[.int .i64 (ls.length : Int)] 3)) 9 (.string s)).cell; rw [World.size_alloc] at this; exact this
  have e1 : Boxed w2 w.heap.size 9 (.string s) := by rw [← hw2]; exact (f1.alloc _).alloc _
  have e2 : Boxed w2 (w.heap.size + 1) 3 (.int .i64 k) := by rw [← hw2]; exact (f2.alloc _).alloc _
  have e3 : Boxed w2 (w.heap.size + 1 + 1) 9 (.string ⟨#[]⟩) := by rw [← hw2]; exact (f3.alloc _).alloc _
  clear hw2 c1 c2 f1 f2 f3
  refine wpIn_rangeFunc_ownG rfl (by omega) (gf := 92) (lb := #[.pointer (some ⟨w1.heap.size + 1, 0, none⟩)]) rfl trivial (enters_of Tryz.func92 (by kernel_rfl) rfl)
    (labels_stops Fence.wide _ trivial rfl (by omega) (w1.heap.size + 1) s (by omega) w2 (by omega) h3) (keepBox_t _) (fun W l o o' hl _ _ _ => keepBox_b W l o' (by omega)) (Below.refl _ _) (fun _ => rfl)
    (fun pre W => Boxed W w1.heap.size 3 (.int .i64 ((ls.length : Int) - (pre.length : Int))) ∧ Boxed W w.heap.size 9 (.string s) ∧ Boxed W (w.heap.size + 1) 3 (.int .i64 k) ∧ Boxed W (w.heap.size + 1 + 1) 9 (.string ⟨#[]⟩) ∧ Below w.heap.size w W ∧ k + (pre.length : Int) ≤ (ls.length : Int))
    (fun c pre W => (c = .ret ∧ ∃ p x, pre = p ++ [x] ∧ (ls.length : Int) - (p.length : Int) = k ∧ Boxed W (w.heap.size + 1 + 1) 9 (.string (s.extract x.val.1 s.size))) ∧ Below w.heap.size w W)
    (((boxed_own _ _ (fun pre : List (Lab s.size) => .int .i64 ((ls.length : Int) - (pre.length : Int)))).from _).and (((boxed_own _ _ (fun _ => .string s)).from _).and (((boxed_own _ _ (fun _ => .int .i64 k)).from _).and (((boxed_own _ _ (fun _ => .string ⟨#[]⟩)).from _).and ((ownFrom_below (Nat.le_refl _) (by omega)).and (ownFrom_pure _ _))))))
    (fun c => OwnFrom.and (fun pre X Y row hs hg hr => by
      obtain ⟨h0, p, x, h1, h2, h3⟩ := hs
      exact ⟨h0, p, x, h1, h2, ((boxed_own (w.heap.size + 1 + 1) 9 (fun _ : Unit => .string (s.extract x.val.1 s.size))).from w2.heap.size) () X Y row h3 hg hr⟩) (ownFrom_below (Nat.le_refl _) (by omega)))
    ⟨by simpa using h1, e1, e2, e3, hB, by simpa using hk1⟩
    (fun x => { tmps := #[.string s, .int .i64 k, .pointer (some ⟨w.heap.size, 0, none⟩), .pointer (some ⟨w.heap.size + 1, 0, none⟩), .pointer (some ⟨w.heap.size + 1 + 1, 0, none⟩), .pointer (some ⟨w1.heap.size, 0, none⟩), .int .i64 (x.val.1 : Int), .string s, .int .i64 (ls.length : Int), .int .i64 k, .bool false, .bool false, .int .i64 (ls.length : Int), .int .i64 k, .bool false, .bool false, .string s, .func (.func 92) #[] #[.pointer (some ⟨w1.heap.size + 1, 0, none⟩)], .int .i64 (x.val.1 : Int), .string x.val.2, undef, undef, undef, undef, undef, undef, undef, undef], defers := [] }) ?assign ?body ?done ?stop
  case assign =>
    intro l x W K hK
    gi_wp2
    simpa using hK
  case body =>
    rintro l pre x W ⟨hb1, hb2, hb3, hb4, hBl, hpk⟩ hlen
    have hc1 := hb1.cell
    have hf1 := hb1.frozen
    have hc2 := hb2.cell
    have hc3 := hb3.cell
    have hc4 := hb4.cell
    have hf4 := hb4.frozen
    have hxs := x.property.1
    by_cases he : (ls.length : Int) - (pre.length : Int) = k
    · have he' : ((ls.length : Int) - (pre.length : Int) == k) = true := by simp [he]
      have HEQ := Lib.hid he; clear he
      gi_wp2
      exact ⟨(KeepsOthers.setCell _ _ _).from _, ⟨rfl, pre, x, rfl, HEQ.out, hb4.set _⟩, hBl.setCell (by simp; omega) _⟩
    · have he' : ((ls.length : Int) - (pre.length : Int) == k) = false := by simpa using he
      have hlt : k < (ls.length : Int) - (pre.length : Int) := by omega
      clear he
      gi_wp2
      have hne1 : w.heap.size ≠ w1.heap.size := by omega
      have hne2 : w.heap.size + 1 ≠ w1.heap.size := by omega
      have hne3 : w.heap.size + 1 + 1 ≠ w1.heap.size := by omega
      refine ⟨(KeepsOthers.setCell _ _ _).from _, World.cell?_of_block (Below.heap_setCell _ _ _ _ (by simp)), ?_, hb2.other hne1 _, hb3.other hne2 _, hb4.other hne3 _, hBl.setCell (by simp; omega) _, by simp; omega⟩
      have := hb1.set (.int .i64 ((ls.length : Int) - ((pre ++ [x]).length : Int)))
      have e : ((ls.length : Int) - ((pre ++ [x]).length : Int)) = (ls.length : Int) - (pre.length : Int) - 1 := by simp; omega
      rw [e] at this ⊢
      exact this
  case done =>
    rintro D ys W hD hS ⟨hb1, hb2, hb3, hb4, hBl, hpk⟩ hK
    have hlen : ys.length = ls.length + 1 := by rw [← raw_length, hS, HP.out, pairsL_length]
    exact absurd hpk (by omega)
  case stop =>
    rintro D c pre W hD hS ⟨⟨rfl, p, x, rfl, hpk, hb4⟩, hBl⟩ hK
    have HT := Lib.hid (tail_at HN.out hS hpk hk0)
    clear hpk
    gi_wp2
    refine ⟨by simp, .inl ⟨_, _, rfl, run_takeDeferred hK, ?_⟩⟩
    have hcf := (boxed_putObj hb4 (show w.heap.size + 1 + 1 ≠ D by omega) (.deferred none)).cell
    exact ⟨.string (s.extract x.val.1 s.size), by simp [results, Tryz.results37, go_sem, hcf], ret_str HT.out, below_putObj hBl (by omega) _⟩
theorem ntail_no (s : ByteArray) (k : Int) (w : World) (hs : s.size ≤ 1099511627776) (h : k < 0 ∨ countS s.data.toList < k) :
    Calls Tryz.prog 37 #[.string s, .int .i64 k] w fun e w' => e = .returned (.string ⟨[].toArray⟩) ∧ Below w.heap.size w w' := by
  obtain ⟨C, hC⟩ : ∃ C, countS s.data.toList = C := ⟨_, rfl⟩
  rw [hC] at h
  have HC := Lib.hid hC; clear hC
  go_enter Tryz.func37, Tryz.ntmps37
  go_wp2_with fail
  obtain ⟨w0, hw0⟩ : ∃ w0, ((w.alloc (.cells #[.string s] 9)).alloc (.cells #[.int .i64 k] 3)).alloc (.cells #[.string ByteArray.empty] 9) = w0 := ⟨_, rfl⟩
  have hE : (ByteArray.empty : ByteArray) = ⟨#[]⟩ := rfl
  rw [hE] at hw0
  rw [hw0]
  have hz0 : w0.heap.size = w.heap.size + 3 := by rw [← hw0]; simp
  have hB0 : Below w.heap.size w w0 := by rw [← hw0]; exact (((Below.refl _ w).alloc (Nat.le_refl _) _).alloc (by simp) _).alloc (by simp; omega) _
  have g2 : Boxed w0 (w.heap.size + 1) 3 (.int .i64 k) := by
    rw [← hw0]; have := (Boxed.new (w.alloc (.cells #[.string s] 9)) 3 (.int .i64 k)).alloc (.cells #[.string ⟨#[]⟩] 9); rw [World.size_alloc] at this; exact this
  have g3 : Boxed w0 (w.heap.size + 2) 9 (.string ⟨#[]⟩) := by
    rw [← hw0]; have := (Boxed.new ((w.alloc (.cells #[.string s] 9)).alloc (.cells #[.int .i64 k] 3)) 9 (.string ⟨#[]⟩)); rw [World.size_alloc, World.size_alloc] at this; exact this
  clear hw0 hE
  refine (ncount_any s _ hs).mono ?_
  rintro e w1 ⟨rfl, hB1⟩
  rw [HC.out]
  have hBw := hB0.trans (hB1.mono hB0.size)
  have hz1 := hB1.size
  have f2 : Boxed w1 (w.heap.size + 1) 3 (.int .i64 k) := (hB1.block _ (by omega)).trans g2
  have f3 : Boxed w1 (w.heap.size + 1 + 1) 9 (.string ⟨#[]⟩) := (hB1.block _ (by omega)).trans g3
  clear g2 g3
  have c2 := f2.cell
  have c3 := f3.cell
  have z3 := f3.frozen
  have hlt2 := f2.lt
  have hlt3 := f3.lt
  have e3 := (f3.set (.string ⟨#[]⟩)).alloc (.cells #[.int .i64 C] 3)
  have hBs : Below w.heap.size w (w1.setCell ⟨w.heap.size + 1 + 1, 0, none⟩ (.string ⟨#[]⟩)) := hBw.setCell (by simp; omega) _
  have hcf := e3.cell
  have HF := Lib.hid hcf; clear hcf e3 f2 f3
  by_cases hk : k < 0
  · go_wp2
    have hcf := HF.out
    exact bodyPost_ret (v := .string ⟨#[]⟩) (by simp [results, Tryz.results37, go_sem, hcf]) rfl ⟨rfl, hBs.alloc hBs.size _⟩
  · have hk' : 0 ≤ k := by omega
    have hC : C < k := by omega
    clear h hk
    go_wp2
    have hcf := HF.out
    exact bodyPost_ret (v := .string ⟨#[]⟩) (by simp [results, Tryz.results37, go_sem, hcf]) rfl ⟨rfl, hBs.alloc hBs.size _⟩
theorem ntail_any (s : ByteArray) (k : Int) (w : World) (hs : s.size ≤ 1099511627776) :
    Calls Tryz.prog 37 #[.string s, .int .i64 k] w fun e w' => e = .returned (.string ⟨(tailS s.data.toList k).toArray⟩) ∧ Below w.heap.size w w' := by
  by_cases hk : 0 ≤ k ∧ k ≤ countS s.data.toList
  · rcases isB_or s with ⟨ls, h⟩ | h
    · rw [countS_yes h] at hk
      exact callsIn_wide.1 (ntail_yes s k ls w h hk.1 hk.2)
    · rw [countS_no h] at hk; omega
  · have : tailS s.data.toList k = [] := by
      rcases isB_or s with ⟨ls, h⟩ | h
      · rw [countS_yes h] at hk; rw [tailS_yes h, if_neg hk]
      · rw [tailS_no h]
    rw [this]
    exact ntail_no s k w hs (by omega)
end Go.Proofs.YtanoiiodnddkfaaGreat.nameA
namespace Go.Proofs.YtanoiiodnddkfaaGreat.nameB
open Go.RowKit Go.Proofs.YtanoiiodnddkfaaGreat.kit Go.Proofs.YtanoiiodnddkfaaGreat.check Go.Proofs.YtanoiiodnddkfaaGreat.nspec Go.Proofs.YtanoiiodnddkfaaGreat.rsplit Go.Proofs.YtanoiiodnddkfaaGreat.low Go.Proofs.YtanoiiodnddkfaaGreat.refA Go.Proofs.YtanoiiodnddkfaaGreat.refB Go.Proofs.YtanoiiodnddkfaaGreat.nameA

set_option maxRecDepth 100000 in
set_option maxHeartbeats 400000 in
theorem lower_any (s : ByteArray) (w : World) (hs : s.size ≤ maxLen) :
    Calls Tryz.prog 65 #[.string s] w fun e w' => e = .returned (.string ⟨(lowL s.data.toList).toArray⟩) ∧ Below w.heap.size w w' := by
  unfold maxLen at hs
  have hconv := Lib.run_convert_string_bytes (P := Tryz.prog) w 9 102 5 s Tryz.underlying9 Tryz.underlying102 Tryz.underlying5
  have hB := bytesWorld_below w 5 s
  have hb0 := bytes_new w 5 s
  generalize grownCap w s.size 0 5 = cap at hconv
  generalize Lib.bytesWorld w 5 s = w1 at hconv hB hb0
  have H0 := Lib.hid hb0; clear hb0
  go_enter Tryz.func65, Tryz.ntmps65
  go_wp2
  clear hconv
  go_loopg [10] (s.size) (fun gas i wr => ∃ k : Nat, k + gas = s.size ∧ i = .int .i64 k ∧ Below w.heap.size w wr ∧ Hid (Bytes wr w.heap.size (lowTo k s.data.toList)))
  case atStart => exact ⟨0, by omega, rfl, hB, by rw [lowTo_zero]; exact H0⟩
  case round =>
    obtain ⟨k, hkg, rfl, hBr, hbr⟩ := hrel
    have hk : k ≤ s.size := by omega
    have HK := Lib.hid hkg; clear hkg
    clear hB H0
    by_cases hlt : k < s.size
    · obtain ⟨c, hc⟩ : ∃ c, s.data.toList[k]? = some c := ⟨_, List.getElem?_eq_getElem (by simpa using hlt)⟩
      obtain ⟨hcell, hfr⟩ := hbr.out k c (by rw [lowTo_at k _ (by simpa using hk)]; exact hc)
      have HC := Lib.hid hc
      clear hc
      obtain ⟨n, hn, hn0, hn1, hup, hlo⟩ : ∃ n : Int, n = (c.toNat : Int) ∧ 0 ≤ n ∧ n < 256 ∧ (65 ≤ n ∧ n ≤ 90 → ((lowB c).toNat : Int) = n + 32) ∧ (¬ (65 ≤ n ∧ n ≤ 90) → lowB c = c) :=
        ⟨_, rfl, by omega, byte_lt c, fun h => up_val c (by omega), fun h => lowB_id c (by omega)⟩
      rw [← hn] at hcell
      have HU := Lib.hid hup; have HL := Lib.hid hlo
      clear hup hlo hn
      by_cases hup : 65 ≤ n ∧ n ≤ 90
      · have hlow := HU.out hup
        have hset := bytes_set hbr.out k (lowB c)
        rw [lowTo_succ k _ c HC.out, hlow] at hset
        have HS := Lib.hid hset; clear hset hlow
        obtain ⟨h1, h2⟩ := hup
        go_wp2
        have hkg := HK.out
        go_roundg (gk - 1)
        case rel => exact ⟨k + 1, by omega, by go_num, hBr.setCell (Nat.le_refl _) _, HS⟩
        case measure => omega
      · have hsk := lowTo_skip k _ c HC.out (HL.out hup)
        have HS := Lib.hid hsk; clear hsk
        by_cases h1 : 65 ≤ n
        · have h2 : ¬ n ≤ 90 := by omega
          clear hup
          go_wp2
          have hkg := HK.out
          go_roundg (gk - 1)
          case rel => exact ⟨k + 1, by omega, by go_num, hBr, by rw [← HS.out]; exact hbr⟩
          case measure => omega
        · clear hup
          go_wp2
          have hkg := HK.out
          go_roundg (gk - 1)
          case rel => exact ⟨k + 1, by omega, by go_num, hBr, by rw [← HS.out]; exact hbr⟩
          case measure => omega
    · have hke : k = s.data.toList.length := by simp; omega
      have hfin := hbr.out
      rw [hke, lowTo_all] at hfin
      have hback := bytes_back (P := Tryz.prog) hfin 102 9 5 cap s.size (by simp [lowL]) Tryz.underlying102 Tryz.underlying5 Tryz.underlying9
      clear hfin
      have HKE := Lib.hid hke; clear hke
      go_wp2
      go_ret
      exact ⟨rfl, hBr⟩

theorem low_of_small (c : UInt8) (h : c.toNat ≤ 63) : lowB c = c := lowB_id c (by omega)
theorem low_put {ls : List Bs} (h : okL ls) : lowL (put ls) = put (ls.map lowL) := by
  induction ls with
  | nil => rfl
  | cons x r ih =>
    obtain ⟨⟨h1, h2⟩, h3⟩ := okL_cons.1 h
    have hn : (UInt8.ofNat x.length).toNat = x.length := nat_of (by omega)
    have := ih h3
    simp only [lowL, put, List.map_cons, List.map_append, List.length_map] at this ⊢
    rw [low_of_small _ (by omega), this]
theorem fold_low {l : Bs} {ls : List Bs} (h : IsN l ls) : foldS l = lowL l := by rw [foldS_yes h, h.1, low_put h.2.1]
theorem equal_low {a b : Bs} {x y : List Bs} (ha : IsN a x) (hb : IsN b y) : equalS a b = decide (lowL a = lowL b) := by
  rw [equalS_eq, split_iff.2 ha, split_iff.2 hb, fold_low ha, fold_low hb]; rfl
theorem equal_no1 {a b : Bs} (h : split a = none) : equalS a b = false := by rw [equalS_eq, h]; rfl
theorem equal_no2 {a b : Bs} (h : split b = none) : equalS a b = false := by rw [equalS_eq, h]; simp

set_option maxRecDepth 100000 in
theorem nfold_any (s : ByteArray) (w : World) (hs : s.size ≤ 1099511627776) :
    Calls Tryz.prog 111 #[.string s] w fun e w' => e = .returned (.string ⟨(foldS s.data.toList).toArray⟩) ∧ Below w.heap.size w w' := by
  rcases isB_or s with ⟨ls, h⟩ | h
  · rw [fold_low h]
    have HK := Lib.hid (chk_yes h); clear h
    go_enter Tryz.func111, Tryz.ntmps111
    go_wp2_with fail
    refine (check_any s _ hs).mono ?_
    rintro e w1 ⟨rfl, hB1⟩
    rw [HK.out]
    go_wp2_with fail
    refine (lower_any s _ (by unfold maxLen; omega)).mono ?_
    rintro e w2 ⟨rfl, hB2⟩
    go_wp2
    go_ret
    exact ⟨rfl, hB1.trans (hB2.mono hB1.size)⟩
  · rw [foldS_no h]
    have HK := Lib.hid (chk_no h); clear h
    go_enter Tryz.func111, Tryz.ntmps111
    go_wp2_with fail
    refine (check_any s _ hs).mono ?_
    rintro e w1 ⟨rfl, hB1⟩
    rw [HK.out]
    go_wp2
    go_ret
    exact ⟨rfl, hB1⟩

set_option maxRecDepth 100000 in
set_option maxHeartbeats 1000000 in
theorem nequal_any (s t : ByteArray) (w : World) (hs : s.size ≤ 1099511627776) (ht : t.size ≤ 1099511627776) :
    Calls Tryz.prog 36 #[.string s, .string t] w fun e w' => e = .returned (.bool (equalS s.data.toList t.data.toList)) ∧ Below w.heap.size w w' := by
  rcases isB_or s with ⟨ls, h⟩ | h
  · have HK := Lib.hid (chk_yes h)
    rcases isB_or t with ⟨ms, h2⟩ | h2
    · rw [equal_low h h2]
      have HK2 := Lib.hid (chk_yes h2); clear h h2
      go_enter Tryz.func36, Tryz.ntmps36
      go_wp2_with fail
      refine (check_any s _ hs).mono ?_
      rintro e w1 ⟨rfl, hB1⟩
      rw [HK.out]
      go_wp2_with fail
      refine (check_any t _ ht).mono ?_
      rintro e w2 ⟨rfl, hB2⟩
      rw [HK2.out]
      have hB12 := hB1.trans (hB2.mono hB1.size)
      go_wp2_with fail
      refine (lower_any s _ (by unfold maxLen; omega)).mono ?_
      rintro e w3 ⟨rfl, hB3⟩
      have hB13 := hB12.trans (hB3.mono hB12.size)
      go_wp2_with fail
      refine (lower_any t _ (by unfold maxLen; omega)).mono ?_
      rintro e w4 ⟨rfl, hB4⟩
      have hB14 := hB13.trans (hB4.mono hB13.size)
      have HBD := Lib.hid (beq_dec (lowL s.data.toList) (lowL t.data.toList))
      go_wp2
      go_ret
      refine ⟨ret_bool ?_, hB14⟩
      first | exact HBD.out | (rw [← HBD.out]; simp [Lib.toList_data])
    · rw [equal_no2 h2]
      have HK2 := Lib.hid (chk_no h2); clear h h2
      go_enter Tryz.func36, Tryz.ntmps36
      go_wp2_with fail
      refine (check_any s _ hs).mono ?_
      rintro e w1 ⟨rfl, hB1⟩
      rw [HK.out]
      go_wp2_with fail
      refine (check_any t _ ht).mono ?_
      rintro e w2 ⟨rfl, hB2⟩
      rw [HK2.out]
      have hB12 := hB1.trans (hB2.mono hB1.size)
      go_wp2
      go_ret
      exact ⟨rfl, hB12⟩
  · rw [equal_no1 h]
    have HK := Lib.hid (chk_no h); clear h
    go_enter Tryz.func36, Tryz.ntmps36
    go_wp2_with fail
    refine (check_any s _ hs).mono ?_
    rintro e w1 ⟨rfl, hB1⟩
    rw [HK.out]
    go_wp2
    go_ret
    exact ⟨rfl, hB1⟩

def withinP (n z : Bs) : Bool := decide (0 ≤ countS z) && equalS (tailS n (countS z)) z
set_option maxRecDepth 100000 in
theorem nwithin_any (s t : ByteArray) (w : World) (hs : s.size ≤ 1099511627776) (ht : t.size ≤ 1099511627776) :
    Calls Tryz.prog 11 #[.string s, .string t] w fun e w' => e = .returned (.bool (withinP s.data.toList t.data.toList)) ∧ Below w.heap.size w w' := by
  unfold withinP
  obtain ⟨C, hC⟩ : ∃ C, countS t.data.toList = C := ⟨_, rfl⟩
  rw [hC]
  have HC := Lib.hid hC; clear hC
  go_enter Tryz.func11, Tryz.ntmps11
  go_wp2_with fail
  refine (ncount_any t _ ht).mono ?_
  rintro e w1 ⟨rfl, hB1⟩
  rw [HC.out]
  by_cases h0 : 0 ≤ C
  · have hd : decide (0 ≤ C) = true := by simpa using h0
    go_wp2_with fail
    refine (ntail_any s C _ hs).mono ?_
    rintro e w2 ⟨rfl, hB2⟩
    have hB12 := hB1.trans (hB2.mono hB1.size)
    have htl := tailS_len s.data.toList C
    go_wp2_with fail
    refine (nequal_any _ t _ (by rw [mk_size]; omega) ht).mono ?_
    rintro e w3 ⟨rfl, hB3⟩
    rw [mk_data]
    go_wp2
    go_ret
    exact ⟨ret_bool (by simp [h0]), hB12.trans (hB3.mono hB12.size)⟩
  · have hd : decide (0 ≤ C) = false := by simpa using h0
    have h1 : C < 0 := by omega
    go_wp2
    go_ret
    exact ⟨ret_bool (by rw [hd]; rfl), hB1⟩

def comF (a b : Bs) : Nat → Bs
  | 0 => []
  | g + 1 => if equalS (tailS a g) (tailS b g) then tailS a g else comF a b g
def commonP (a b : Bs) : Bs := comF a b (min (countS a) (countS b) + 1).toNat
theorem comF_yes {a b : Bs} {g : Nat} {R : Bs} (h : comF a b (g + 1) = R) (he : equalS (tailS a g) (tailS b g) = true) : tailS a g = R := by
  rw [← h]; simp only [comF]; rw [if_pos he]
theorem comF_no {a b : Bs} {g : Nat} {R : Bs} (h : comF a b (g + 1) = R) (he : equalS (tailS a g) (tailS b g) = false) : comF a b g = R := by
  rw [← h]; simp only [comF]; rw [he]; simp
theorem tailS_neg (l : Bs) (k : Int) (h : k < 0) : tailS l k = [] := by
  unfold tailS
  cases split l with
  | none => rfl
  | some ls => simp only; rw [if_neg (by omega)]

set_option maxRecDepth 100000 in
set_option maxHeartbeats 1000000 in
theorem ncommon_any (s t : ByteArray) (w : World) (hs : s.size ≤ 1099511627776) (ht : t.size ≤ 1099511627776) :
    Calls Tryz.prog 44 #[.string s, .string t] w fun e w' => e = .returned (.string ⟨(commonP s.data.toList t.data.toList).toArray⟩) ∧ Below w.heap.size w w' := by
  obtain ⟨R, HR⟩ : ∃ R, Hid (R = commonP s.data.toList t.data.toList) := ⟨_, Lib.hid rfl⟩
  have hCs := countS_bd s.data.toList
  have hCt := countS_bd t.data.toList
  have HC : Hid (comF s.data.toList t.data.toList (min (countS s.data.toList) (countS t.data.toList) + 1).toNat = R) := Lib.hid (by rw [HR.out]; rfl)
  obtain ⟨C, hC⟩ : ∃ C, countS s.data.toList = C := ⟨_, rfl⟩
  obtain ⟨D, hD⟩ : ∃ D, countS t.data.toList = D := ⟨_, rfl⟩
  rw [hC] at hCs HC
  rw [hD] at hCt HC
  have HCC := Lib.hid hC; have HDD := Lib.hid hD; clear hC hD
  obtain ⟨hs1, hs2⟩ := hCs
  obtain ⟨ht1, ht2⟩ := hCt
  go_enter Tryz.func44, Tryz.ntmps44
  go_wp2_with fail
  refine (ncount_any s _ hs).mono ?_
  rintro e w1 ⟨rfl, hB1⟩
  rw [HCC.out]
  go_wp2_with fail
  refine (ncount_any t _ ht).mono ?_
  rintro e w2 ⟨rfl, hB2⟩
  rw [HDD.out]
  have hB12 := hB1.trans (hB2.mono hB1.size)
  clear hB1 hB2
  have hcd : C ≤ D ∨ D < C := by omega
  rcases hcd with hcd | hcd
  all_goals
    go_wp2
    go_loopg [5] ((min C D + 1).toNat) (fun gas kv wr => ∃ (k : Int), kv = .int .i64 k ∧ k + 1 = gas ∧ k ≤ 254 ∧ Below w.heap.size w wr ∧ Hid (comF s.data.toList t.data.toList gas = R))
    case atStart => exact ⟨_, rfl, by omega, by omega, hB12, HC⟩
    case round =>
      obtain ⟨k, rfl, hk, hk254, hB, HW⟩ := hrel
      by_cases hlt : 0 ≤ k
      · obtain ⟨m, rfl⟩ := Int.eq_ofNat_of_zero_le hlt
        obtain rfl : gk = m + 1 := by omega
        clear hk
        go_wp2_with fail
        refine (ntail_any s m _ hs).mono ?_
        rintro e w3 ⟨rfl, hB3⟩
        have hBC := hB.trans (hB3.mono hB.size)
        have htl := tailS_len s.data.toList m
        go_wp2_with fail
        refine (ntail_any t m _ ht).mono ?_
        rintro e w4 ⟨rfl, hB4⟩
        have hBD := hBC.trans (hB4.mono hBC.size)
        have htl2 := tailS_len t.data.toList m
        go_wp2_with fail
        refine (nequal_any _ _ _ (by rw [mk_size]; omega) (by rw [mk_size]; omega)).mono ?_
        rintro e w5 ⟨rfl, hB5⟩
        have hBE := hBD.trans (hB5.mono hBD.size)
        rw [mk_data, mk_data]
        obtain ⟨b, hb⟩ : ∃ b, equalS (tailS s.data.toList m) (tailS t.data.toList m) = b := ⟨_, rfl⟩
        rw [hb]
        have HE := Lib.hid hb; clear hb htl htl2
        cases b
        · have HN := Lib.hid (comF_no HW.out HE.out)
          go_wp2
          go_roundg m
          case rel => exact ⟨_, rfl, by omega, by omega, hBE, HN⟩
          case measure => omega
        · have HY := Lib.hid (comF_yes HW.out HE.out)
          go_wp2_with fail
          refine (ntail_any s m _ hs).mono ?_
          rintro e w6 ⟨rfl, hB6⟩
          have hBF := hBE.trans (hB6.mono hBE.size)
          go_wp2
          go_ret
          exact ⟨ret_str (by rw [HY.out, HR.out]), hBF⟩
      · obtain rfl : gk = 0 := by omega
        have HF : Hid ([] = R) := Lib.hid (by rw [← HW.out]; rfl)
        have hlt' : k < 0 := by omega
        clear hk hlt
        go_wp2_with fail
        refine (ntail_any s k _ hs).mono ?_
        rintro e w6 ⟨rfl, hB6⟩
        rw [tailS_neg _ _ hlt']
        go_wp2
        go_ret
        exact ⟨ret_str (by rw [← HR.out, ← HF.out]), hB.trans (hB6.mono hB.size)⟩

set_option maxRecDepth 100000 in
theorem nparent_any (s : ByteArray) (w : World) (hs : s.size ≤ 1099511627776) :
    Calls Tryz.prog 70 #[.string s] w fun e w' => e = .returned (.string ⟨(parentS s.data.toList).toArray⟩) ∧ Below w.heap.size w w' := by
  have hC := countS_bd s.data.toList
  have hp : tailS s.data.toList (countS s.data.toList - 1) = parentS s.data.toList := by
    rcases isB_or s with ⟨ls, h⟩ | h
    · rw [countS_yes h, tailS_yes h]
      cases ls with
      | nil => rw [parentS_root h, if_neg (by simp)]
      | cons x r =>
        rw [parentS_yes h, if_pos (by simp; omega)]
        have : (x :: r).length - (((x :: r).length : Int) - 1).toNat = 1 := by simp
        rw [this]; rfl
    · rw [tailS_no h, parentS_no h]
  obtain ⟨hc1, hc2⟩ := hC
  obtain ⟨C, hCC⟩ : ∃ C, countS s.data.toList = C := ⟨_, rfl⟩
  rw [hCC] at hp hc1 hc2
  have HC := Lib.hid hCC; clear hCC
  have HP := Lib.hid hp; clear hp
  go_enter Tryz.func70, Tryz.ntmps70
  go_wp2_with fail
  refine (ncount_any s _ hs).mono ?_
  rintro e w1 ⟨rfl, hB1⟩
  rw [HC.out]
  go_wp2_with fail
  refine (ntail_any s (C - 1) _ hs).mono ?_
  rintro e w2 ⟨rfl, hB2⟩
  rw [HP.out]
  go_wp2
  go_ret
  exact ⟨rfl, hB1.trans (hB2.mono hB1.size)⟩
end Go.Proofs.YtanoiiodnddkfaaGreat.nameB
namespace Go.Proofs.YtanoiiodnddkfaaGreat.refC
open Go.RowKit Go.Proofs.YtanoiiodnddkfaaGreat.kit Go.Proofs.YtanoiiodnddkfaaGreat.nspec Go.Proofs.YtanoiiodnddkfaaGreat.rsplit Go.Proofs.YtanoiiodnddkfaaGreat.rput Go.Proofs.YtanoiiodnddkfaaGreat.low Go.Proofs.YtanoiiodnddkfaaGreat.refA Go.Proofs.YtanoiiodnddkfaaGreat.refB Go.Proofs.YtanoiiodnddkfaaGreat.nameB

/-- the row of cells that Split has made can be the source of an append -/
theorem SV.src {w : World} {g : Nat} {ls : List Bs} (m : Nat) (hc : ∀ (j : Nat) (x : Bs), ls[j]? = some x → w.cell? ⟨g, j, none⟩ = some (strV x)) :
    ∀ (j : Nat) (u : Value), ((ls.take m).map strV)[j]? = some u → w.cell? ((⟨g, 0, none⟩ : Addr).add j) = some u := by
  intro j u hu
  rw [List.getElem?_map] at hu
  cases hx : (ls.take m)[j]? with
  | none => rw [hx] at hu; simp at hu
  | some x =>
    rw [hx] at hu
    have hx' : ls[j]? = some x := by
      rw [List.getElem?_take] at hx; split at hx
      · exact hx
      · simp at hx
    have : u = strV x := by simpa using hu.symm
    subst this
    rw [addr_add]; exact hc j x hx'
theorem one_str (ls : List Bs) : ∀ u ∈ ls.map strV, u.oneCell' = true := by
  intro u hu; obtain ⟨x, _, rfl⟩ := List.mem_map.1 hu; rfl

def graftS (n f t : Bs) : Bs × Int :=
  match split n, split f, split t with
  | some l, some x, some y => if withinS n f then (if 255 < (put (l.take (l.length - x.length) ++ y)).length then ([], 4) else (put (l.take (l.length - x.length) ++ y), 0)) else ([], 5)
  | _, _, _ => ([], 1)
theorem ret_se {a : Bs} {b : Int} {p : Bs × Int} (h : (a, b) = p) : Ending.returned (.tuple #[.string ⟨a.toArray⟩, .int .i64 b]) = .returned (.tuple #[.string ⟨p.1.toArray⟩, .int .i64 p.2]) := by subst h; rfl

/-- append onto a nil list, then onto that, and Put: the part of Graft behind its tests -/
theorem within_len {n f : Bs} {l x : List Bs} (hn : IsN n l) (hf : IsN f x) (h : withinS n f = true) : x.length ≤ l.length ∧ (l.drop (l.length - x.length)).map lowL = x.map lowL := by
  have key : ∀ (g k : Nat), wF n f g k = true → ∃ j : Nat, equalS (tailS n (j : Int)) f = true := by
    intro g
    induction g with
    | zero => intro k h; simp [wF] at h
    | succ g ih =>
      intro k h
      simp only [wF] at h
      by_cases he : equalS (tailS n (k : Int)) f = true
      · exact ⟨k, he⟩
      · rw [if_neg he] at h; exact ih _ h
  obtain ⟨j, hj⟩ := key _ _ h
  rw [tailS_yes hn] at hj
  by_cases hjl : (0 : Int) ≤ (j : Int) ∧ (j : Int) ≤ (l.length : Int)
  · rw [if_pos hjl, Int.toNat_natCast] at hj
    have hd := isN_put (okL_drop (l.length - j) hn.2.1) (by have := room_drop l (l.length - j); have := isN_room hn; omega)
    have := hj
    unfold equalS at this
    rw [split_iff.2 hd, split_iff.2 hf] at this
    simp only [decide_eq_true_eq] at this
    have hlen := congrArg List.length this
    simp only [List.length_map, List.length_drop] at hlen
    have hjx : j = x.length := by omega
    subst hjx
    exact ⟨by omega, this⟩
  · rw [if_neg hjl] at hj
    have : split [] = none := rfl
    rw [equal_no1 this] at hj; simp at hj

theorem split_gen (s : ByteArray) (w : World) (hs : s.size ≤ 1099511627776) :
    Calls Tryz.prog 53 #[.string s] w fun e w' => ∃ a n c, e = .returned (.tuple #[.slice a n c, .bool (isB s)]) ∧ Below w.heap.size w w' := by
  rcases isB_or s with ⟨ls, h⟩ | h
  · rw [isB_yes h]
    refine (split_yes s ls w h).mono ?_
    rintro e w' ⟨v, rfl, hsv, hB⟩
    obtain ⟨a, c, rfl, _⟩ := hsv.rd
    exact ⟨a, _, c, rfl, hB⟩
  · rw [isB_no h]
    exact split_no s w hs h
theorem graftS_bad {n f t : Bs} (h : ((split n).isSome && (split f).isSome && (split t).isSome) = false) : graftS n f t = ([], 1) := by
  unfold graftS
  cases hn : split n with
  | none => rfl
  | some l => cases hf : split f with
    | none => rfl
    | some x => cases ht : split t with
      | none => rfl
      | some y => rw [hn, hf, ht] at h; simp at h
end Go.Proofs.YtanoiiodnddkfaaGreat.refC

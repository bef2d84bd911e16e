/- The reference's Put: walk. The reference's FoldName, EqualName, Count, Tail, Parent: walks. The reference's Within, Common: walks. name.Count, Tail, lower, Fold, Equal: walks. The name that stands first: plain. How many bytes a name takes: data.host.take: walk. How many bytes a row of texts takes: data.texts.take: walk. -/
import Derived.Test.YtnamkladeaohoaaGreatK6
import Derived.Test.YtnamkladeaohoaaGreatK2
import Derived.Lib.SmallJoins
namespace Go.Proofs.YtnamkladeaohoaaGreat.rput
open Go.RowKit Go.Proofs.YtnamkladeaohoaaGreat.kit Go.Proofs.YtnamkladeaohoaaGreat.nspec Go.Proofs.YtnamkladeaohoaaGreat.rsplit

theorem byte_cell (w : World) (c : UInt8) : Bytes (w.alloc (.cells #[.int .u8 (c.toNat : Int)] 5)) w.heap.size [c] := by
  intro j d h
  have hj : j = 0 := by have := (List.getElem?_eq_some_iff.1 h).1; simpa using this
  subst hj
  have hd : d = c := by simpa using h.symm
  subst hd
  exact ⟨by simp [World.cell?_alloc_new], by simp⟩
theorem u8_mod (n : Nat) : ((UInt8.ofNat n).toNat : Int) = (n : Int) % 256 := by
  rw [UInt8.toNat_ofNat']; simp

/-- what stands ahead of the last byte -/
def flat (ls : List Bs) : Bs := ls.flatMap (fun x => UInt8.ofNat x.length :: x)
theorem flat_snoc (ls : List Bs) (x : Bs) : flat (ls ++ [x]) = flat ls ++ (UInt8.ofNat x.length :: x) := by simp [flat]
theorem flat_length (ls : List Bs) : (flat ls).length = room ls := by
  have := put_length ls; rw [put_flat] at this; simpa [flat] using this
theorem room_take (ls : List Bs) (k : Nat) : room (ls.take k) ≤ room ls := by
  have := room_append (ls.take k) (ls.drop k); rw [List.take_append_drop] at this; omega
theorem room_ge {ls : List Bs} {k : Nat} {x : Bs} (h : ls[k]? = some x) : room (ls.take k) + x.length + 1 ≤ room ls := by
  have h1 : ls.take (k + 1) = ls.take k ++ [x] := by
    obtain ⟨hk, rfl⟩ := List.getElem?_eq_some_iff.1 h
    rw [List.take_succ_eq_append_getElem hk]
  have := room_take ls (k + 1)
  rw [h1, room_append] at this
  simp [room] at this ⊢; omega

set_option maxRecDepth 100000 in
set_option maxHeartbeats 1000000 in
theorem put_any (a : Option Addr) (c : Nat) (ls : List Bs) (w : World) (hr : Rd w a 0 ls) (hs : room ls ≤ 1099511627776) (hn : ls.length ≤ 1099511627776) :
    Calls Tryz.prog 142 #[.slice a ls.length c] w fun e w' => e = .returned (strV (put ls)) ∧ Below w.heap.size w w' := by
  have HR := Lib.hid hr; clear hr
  go_enter Tryz.func142, Tryz.ntmps142
  go_wp2
  go_loopg [3, 8] (ls.length) (fun gas sv kv wr => ∃ (k : Nat) (u : ByteArray), kv = .int .i64 k ∧ k + gas = ls.length ∧ sv = .string u ∧ Below w.heap.size w wr ∧ Hid (u.data.toList = flat (ls.take k)))
  case atStart => exact ⟨0, ⟨#[]⟩, rfl, by omega, rfl, Below.refl _ _, Lib.hid (by simp [flat])⟩
  case round =>
    obtain ⟨k, u, rfl, hk, rfl, hB, HU⟩ := hrel
    have hk' : k ≤ ls.length := by omega
    have HK := Lib.hid hk; clear hk
    by_cases hlt : k < ls.length
    · obtain ⟨x, hx⟩ : ∃ x, ls[k]? = some x := ⟨_, List.getElem?_eq_getElem hlt⟩
      obtain ⟨g, o, rfl, _, hg, hcell⟩ := HR.out k x hx
      have hcell2 := (hB.cell (p := ⟨g, o + k, none⟩) hg).trans hcell
      have hrm := room_ge hx
      have HX := Lib.hid hx; clear hx hcell
      unfold strV at hcell2
      obtain ⟨xs, hxs⟩ : ∃ xs : ByteArray, xs = ⟨x.toArray⟩ := ⟨_, rfl⟩
      rw [← hxs] at hcell2
      have hxl : xs.size = x.length := by rw [hxs, mk_size]
      have HXS := Lib.hid hxs; clear hxs
      have hconv := bytes_back (P := Tryz.prog) (byte_cell wr (UInt8.ofNat xs.size)) 61 9 5 1 1 rfl Tryz.underlying61 Tryz.underlying5 Tryz.underlying9
      rw [u8_mod] at hconv
      have hul : u.size = room (ls.take k) := by rw [← size_len, HU.out, flat_length]
      have HXL := Lib.hid hxl; have HUL := Lib.hid hul
      have hb1 : xs.size ≤ 1099511627776 := by omega
      have hb2 : u.size ≤ 1099511627776 := by omega
      clear hxl hul hrm
      go_wp2
      have hk := HK.out
      go_roundg (gk - 1)
      case rel =>
        refine ⟨k + 1, _, by go_num, by omega, rfl, hB.alloc hB.size _, Lib.hid ?_⟩
        obtain ⟨h1, h2⟩ := List.getElem?_eq_some_iff.1 HX.out
        rw [List.take_succ_eq_append_getElem h1, h2, flat_snoc, Joins.data_append, Joins.data_append, HU.out, HXL.out, HXS.out]
        rfl
      case measure => omega
    · have HE : Hid (ls.take k = ls) := Lib.hid (List.take_of_length_le (by omega))
      have HUL : Hid (u.size = room (ls.take k)) := Lib.hid (by rw [← size_len, HU.out, flat_length])
      have hb2 : u.size ≤ 1099511627776 := by have := HUL.out; have := room_take ls k; omega
      go_wp2
      go_ret
      refine ⟨ret_str (ba_ext ?_), hB⟩
      rw [Joins.data_append, HU.out, HE.out, mk_data, put_flat]; rfl
end Go.Proofs.YtnamkladeaohoaaGreat.rput
namespace Go.Proofs.YtnamkladeaohoaaGreat.refA
open Go.RowKit Go.Proofs.YtnamkladeaohoaaGreat.kit Go.Proofs.YtnamkladeaohoaaGreat.nspec Go.Proofs.YtnamkladeaohoaaGreat.rsplit Go.Proofs.YtnamkladeaohoaaGreat.rput Go.Proofs.YtnamkladeaohoaaGreat.low

def foldS (l : Bs) : Bs := match split l with | some ls => put (ls.map lowL) | none => []
def countS (l : Bs) : Int := match split l with | some ls => (ls.length : Int) | none => -1
def tailS (l : Bs) (k : Int) : Bs := match split l with | some ls => if 0 ≤ k ∧ k ≤ (ls.length : Int) then put (ls.drop (ls.length - k.toNat)) else [] | none => []
def parentS (l : Bs) : Bs := match split l with | some (_ :: r) => put r | _ => []
def equalS (a b : Bs) : Bool := match split a, split b with | some x, some y => decide (x.map lowL = y.map lowL) | _, _ => false

theorem split_len {l : Bs} {ls : List Bs} (h : IsN l ls) : ls.length ≤ 254 := by
  have h1 := isN_room h
  have : ∀ ls : List Bs, ls.length ≤ room ls := by
    intro ls; induction ls with
    | nil => simp [room]
    | cons x r ih => simp [room] at ih ⊢; omega
  have := this ls; omega
theorem room_low (ls : List Bs) : room (ls.map lowL) = room ls := by
  simp [room, lowL, List.map_map, Function.comp_def]
theorem okL_low {ls : List Bs} (h : okL ls) : okL (ls.map lowL) := by
  intro x hx
  obtain ⟨y, hy, rfl⟩ := List.mem_map.1 hx
  simpa [lowL] using h y hy

set_option maxRecDepth 100000 in
set_option maxHeartbeats 1000000 in
theorem fold_yes (s : ByteArray) (ls : List Bs) (w : World) (h : IsN s.data.toList ls) :
    Calls Tryz.prog 86 #[.string s] w fun e w' => e = .returned (strV (put (ls.map lowL))) ∧ Below w.heap.size w w' := by
  obtain ⟨i0, hi, hz0, hz1, hz2⟩ := info_parts infoStr
  have hll := split_len h
  have hrm := isN_room h
  have hok := h.2.1
  have HOK := Lib.hid hok; clear hok
  have HH := Lib.hid h; clear h
  go_enter Tryz.func86, Tryz.ntmps86
  go_wp2_with fail
  refine (split_yes s ls _ HH.out).mono ?_
  rintro e w1 ⟨v, rfl, hsv, hB1⟩
  obtain ⟨a, c, rfl, hrd⟩ := hsv.rd
  have HR := Lib.hid hrd; clear hsv hrd
  go_wp2
  go_loopg [5, 17] (ls.length) (fun gas ov kv wr => ∃ (k : Nat), kv = .int .i64 k ∧ k + gas = ls.length ∧ wr.ownsRow w1.heap.size 9 1 ov (ls.take k).length (((ls.take k).map lowL).map strV) ∧ Below w1.heap.size w1 wr)
  case atStart => exact ⟨0, rfl, by omega, World.ownsRow_nil _ _ _ _, Below.refl _ _⟩
  case round =>
    obtain ⟨k, rfl, hk, hown, hB⟩ := hrel
    have hk' : k ≤ ls.length := by omega
    have HK := Lib.hid hk; clear hk
    by_cases hlt : k < ls.length
    · obtain ⟨x, hx⟩ : ∃ x, ls[k]? = some x := ⟨_, List.getElem?_eq_getElem hlt⟩
      obtain ⟨g, o, rfl, _, hg, hcell⟩ := HR.out k x hx
      have hcell2 := (hB.cell (p := ⟨g, o + k, none⟩) hg).trans hcell
      have hxl := (HOK.out x (List.mem_of_getElem? hx)).2
      have HX := Lib.hid hx; clear hx hcell
      unfold strV at hcell2
      obtain ⟨xs, hxs⟩ : ∃ xs : ByteArray, xs = ⟨x.toArray⟩ := ⟨_, rfl⟩
      rw [← hxs] at hcell2
      have hxl : xs.size ≤ maxLen := by rw [hxs, mk_size]; unfold maxLen; omega
      have HXD : Hid (xs.data.toList = x) := Lib.hid (by rw [hxs])
      have HXS := Lib.hid hxs; clear hxs
      go_wp2_with fail
      refine (low_any xs _ hxl).mono ?_
      rintro e w2 ⟨rfl, hB2⟩
      rw [HXD.out]
      have hsz := hB.size
      have hsz2 := hB2.size
      have hown2 := hown.kept (w' := w2) (row := none) ⟨hB2.os, hB2.tape, hB2.output, hB2.size, fun k hk _ => hB2.block k hk⟩ (by cases hv : Value.ownBlock _ <;> simp)
      have hBB := hB.trans (hB2.mono hsz)
      have htk : (ls.take k).length ≤ 254 := by rw [List.length_take]; omega
      clear hown hcell2
      go_wp2_with (at_builtin; refine wpList_append_own _ rfl _ _ 55 rfl w1.heap.size 9 i0 (.string ByteArray.empty) 1 16 Tryz.underlying55 hi hz0 hz1 hz2 rfl (by decide) _ _ _ rfl (hown2.alloc _) ⟨w2.heap.size, 0, none⟩ 1 1 [.string ⟨(lowL x).toArray⟩] rfl rfl ?c1 ?c2 ?c3 ?c4 ?c5 ?_)
      case c1 => exact cell_one_new _ _ _
      case c2 => simp [Value.oneCell']
      case c3 => unfold maxLen; omega
      case c4 => omega
      case c5 => simp; omega
      intro v' w3 hown' hgrow _
      have hB3 := below_append hBB (by omega) hown2 hgrow
      have hsn : Hid (ls.take (k + 1) = ls.take k ++ [x]) := Lib.hid (by
        obtain ⟨h1, h2⟩ := List.getElem?_eq_some_iff.1 HX.out
        rw [List.take_succ_eq_append_getElem h1, h2])
      have HOW : Hid (w3.ownsRow w1.heap.size 9 1 v' (ls.take (k + 1)).length (((ls.take (k + 1)).map lowL).map strV)) := Lib.hid (by
        have hmin : min k ls.length = k := by omega
        rw [hsn.out]; simpa [strV, hmin] using hown')
      clear hown' hgrow hown2
      go_wp2
      have hk := HK.out
      go_roundg (gk - 1)
      case rel => exact ⟨k + 1, by go_num, by omega, HOW.out, hB3⟩
      case measure => omega
    · have HE : Hid (ls.take k = ls) := Lib.hid (List.take_of_length_le (by omega))
      rw [HE.out] at hown
      obtain ⟨a2, c2, rfl, hrd2⟩ := Rd.of_own (ls := ls.map lowL) (by simpa using hown)
      have hlm : (ls.map lowL).length = ls.length := List.length_map _
      have hput := put_any a2 c2 (ls.map lowL) wr (hrd2.mono (Nat.zero_le _)) (by rw [room_low]; omega) (by omega)
      rw [hlm] at hput ⊢
      have HP := Lib.hid hput; clear hput
      have HLM := Lib.hid hlm; clear hlm hown hrd2
      go_wp2_with fail
      refine HP.out.mono ?_
      rintro e w2 ⟨rfl, hB2⟩
      unfold strV
      go_wp2
      go_ret
      exact ⟨rfl, hB1.trans ((hB.trans (hB2.mono hB.size)).mono hB1.size)⟩
set_option maxRecDepth 100000 in
theorem fold_no (s : ByteArray) (w : World) (hs : s.size ≤ 1099511627776) (h : split s.data.toList = none) :
    Calls Tryz.prog 86 #[.string s] w fun e w' => e = .returned (strV []) ∧ Below w.heap.size w w' := by
  have HH := Lib.hid h; clear h
  go_enter Tryz.func86, Tryz.ntmps86
  go_wp2_with fail
  refine (split_no s _ hs HH.out).mono ?_
  rintro e w1 ⟨a, n, c, rfl, hB⟩
  go_wp2
  go_ret
  exact ⟨rfl, hB⟩
theorem foldS_yes {l : Bs} {ls : List Bs} (h : IsN l ls) : foldS l = put (ls.map lowL) := by unfold foldS; rw [split_iff.2 h]
theorem foldS_no {l : Bs} (h : split l = none) : foldS l = [] := by unfold foldS; rw [h]
theorem fold_any (s : ByteArray) (w : World) (hs : s.size ≤ 1099511627776) :
    Calls Tryz.prog 86 #[.string s] w fun e w' => e = .returned (.string ⟨(foldS s.data.toList).toArray⟩) ∧ Below w.heap.size w w' := by
  rcases isB_or s with ⟨ls, h⟩ | h
  · rw [foldS_yes h]; exact fold_yes s ls w h
  · rw [foldS_no h]; exact fold_no s w hs h

theorem equalS_eq (a b : Bs) : equalS a b = ((split a).isSome && (split b).isSome && decide (foldS a = foldS b)) := by
  unfold equalS foldS
  cases ha : split a with
  | none => rfl
  | some x =>
    cases hb : split b with
    | none => rfl
    | some y =>
      simp only [Option.isSome_some, Bool.true_and]
      have h1 := okL_low (split_iff.1 ha).2.1
      have h2 := okL_low (split_iff.1 hb).2.1
      by_cases h : x.map lowL = y.map lowL
      · rw [decide_eq_true h, decide_eq_true (congrArg put h)]
      · rw [decide_eq_false h, decide_eq_false (fun e => h (put_inj h1 h2 e))]
theorem beq_dec (a b : Bs) : ((⟨a.toArray⟩ : ByteArray).toList == (⟨b.toArray⟩ : ByteArray).toList) = decide (a = b) := by
  rw [Lib.toList_data, Lib.toList_data]
  by_cases h : a = b
  · subst h; simp
  · rw [decide_eq_false h]; simpa using h

set_option maxRecDepth 100000 in
set_option maxHeartbeats 1000000 in
theorem equal_any (s t : ByteArray) (w : World) (hs : s.size ≤ 1099511627776) (ht : t.size ≤ 1099511627776) :
    Calls Tryz.prog 104 #[.string s, .string t] w fun e w' => e = .returned (.bool (equalS s.data.toList t.data.toList)) ∧ Below w.heap.size w w' := by
  have HE := Lib.hid (equalS_eq s.data.toList t.data.toList)
  obtain ⟨R, HR⟩ : ∃ R, Hid (R = equalS s.data.toList t.data.toList) := ⟨_, Lib.hid rfl⟩
  go_enter Tryz.func104, Tryz.ntmps104
  go_wp2_with fail
  refine (isName_any s _ hs).mono ?_
  rintro e w1 ⟨rfl, hB1⟩
  obtain ⟨b1, hb1⟩ : ∃ b, isB s = b := ⟨_, rfl⟩
  rw [hb1]
  have H1 := Lib.hid hb1; clear hb1
  cases b1
  · go_wp2
    go_ret
    exact ⟨ret_bool (by rw [HE.out]; have := H1.out; unfold isB at this; rw [this]; rfl), hB1⟩
  go_wp2_with fail
  refine (isName_any t _ ht).mono ?_
  rintro e w2 ⟨rfl, hB2⟩
  obtain ⟨b2, hb2⟩ : ∃ b, isB t = b := ⟨_, rfl⟩
  rw [hb2]
  have H2 := Lib.hid hb2; clear hb2
  have hB12 := hB1.trans (hB2.mono hB1.size)
  cases b2
  · go_wp2
    go_ret
    exact ⟨ret_bool (by rw [HE.out]; have := H1.out; unfold isB at this; rw [this]; have := H2.out; unfold isB at this; rw [this]; rfl), hB12⟩
  go_wp2_with fail
  refine (fold_any s _ hs).mono ?_
  rintro e w3 ⟨rfl, hB3⟩
  have hB13 := hB12.trans (hB3.mono hB12.size)
  go_wp2_with fail
  refine (fold_any t _ ht).mono ?_
  rintro e w4 ⟨rfl, hB4⟩
  have hB14 := hB13.trans (hB4.mono hB13.size)
  have hbd := beq_dec (foldS s.data.toList) (foldS t.data.toList)
  have HBD := Lib.hid hbd; clear hbd
  go_wp2
  go_ret
  refine ⟨ret_bool ?_, hB14⟩
  rw [HE.out]
  have := H1.out; unfold isB at this; rw [this]; have := H2.out; unfold isB at this; rw [this]
  first | exact HBD.out | (rw [← HBD.out]; simp [Lib.toList_data])
theorem countS_yes {l : Bs} {ls : List Bs} (h : IsN l ls) : countS l = ls.length := by unfold countS; rw [split_iff.2 h]
theorem countS_no {l : Bs} (h : split l = none) : countS l = -1 := by unfold countS; rw [h]
set_option maxRecDepth 100000 in
theorem count_any (s : ByteArray) (w : World) (hs : s.size ≤ 1099511627776) :
    Calls Tryz.prog 53 #[.string s] w fun e w' => e = .returned (.int .i64 (countS s.data.toList)) ∧ Below w.heap.size w w' := by
  rcases isB_or s with ⟨ls, h⟩ | h
  · rw [countS_yes h]
    have HH := Lib.hid h; clear h
    go_enter Tryz.func53, Tryz.ntmps53
    go_wp2_with fail
    refine (split_yes s ls _ HH.out).mono ?_
    rintro e w1 ⟨v, rfl, hsv, hB⟩
    obtain ⟨a, c, rfl, _⟩ := hsv.rd
    go_wp2
    go_ret
    exact ⟨rfl, hB⟩
  · rw [countS_no h]
    have HH := Lib.hid h; clear h
    go_enter Tryz.func53, Tryz.ntmps53
    go_wp2_with fail
    refine (split_no s _ hs HH.out).mono ?_
    rintro e w1 ⟨a, n, c, rfl, hB⟩
    go_wp2
    go_ret
    exact ⟨rfl, hB⟩
theorem tailS_yes {l : Bs} {ls : List Bs} (h : IsN l ls) (k : Int) : tailS l k = if 0 ≤ k ∧ k ≤ (ls.length : Int) then put (ls.drop (ls.length - k.toNat)) else [] := by unfold tailS; rw [split_iff.2 h]
theorem tailS_no {l : Bs} (h : split l = none) (k : Int) : tailS l k = [] := by unfold tailS; rw [h]
theorem put_n (a : Option Addr) (n c : Nat) (ls : List Bs) (w : World) (hn : n = ls.length) (hr : Rd w a 0 ls) (hs : room ls ≤ 1099511627776) (hl : ls.length ≤ 1099511627776) :
    Calls Tryz.prog 142 #[.slice a n c] w fun e w' => e = .returned (.string ⟨(put ls).toArray⟩) ∧ Below w.heap.size w w' := by
  subst hn; exact put_any a c ls w hr hs hl
theorem rd_drop {w : World} {g i : Nat} {ls : List Bs} (h : ∀ (j : Nat) (x : Bs), ls[j]? = some x → w.cell? ⟨g, j, none⟩ = some (strV x)) (hg : g < w.heap.size) : Rd w (some ⟨g, i, none⟩) 0 (ls.drop i) := by
  intro j x hx
  rw [List.getElem?_drop] at hx
  exact ⟨g, i, rfl, Nat.zero_le _, hg, h _ x hx⟩
theorem room_drop (ls : List Bs) (k : Nat) : room (ls.drop k) ≤ room ls := by
  have := room_append (ls.take k) (ls.drop k); rw [List.take_append_drop] at this; omega
set_option maxRecDepth 100000 in
set_option maxHeartbeats 1000000 in
theorem tail_any (s : ByteArray) (k : Int) (w : World) (hs : s.size ≤ 1099511627776) :
    Calls Tryz.prog 55 #[.string s, .int .i64 k] w fun e w' => e = .returned (.string ⟨(tailS s.data.toList k).toArray⟩) ∧ Below w.heap.size w w' := by
  rcases isB_or s with ⟨ls, h⟩ | h
  · rw [tailS_yes h]
    have hll := split_len h
    have hrm := isN_room h
    have HH := Lib.hid h; clear h
    by_cases hk : 0 ≤ k ∧ k ≤ (ls.length : Int)
    · rw [if_pos hk]
      obtain ⟨hk0, hk1⟩ := hk
      obtain ⟨m, rfl⟩ := Int.eq_ofNat_of_zero_le hk0
      have hm : m ≤ ls.length := by omega
      obtain ⟨i, hi⟩ : ∃ i, i + m = ls.length := ⟨ls.length - m, by omega⟩
      have hii : ls.length - m = i := by omega
      rw [Int.toNat_natCast, hii]
      have hil : (ls.drop i).length = m := by rw [List.length_drop]; omega
      go_enter Tryz.func55, Tryz.ntmps55
      go_wp2_with fail
      refine (split_yes s ls _ HH.out).mono ?_
      rintro e w1 ⟨v, rfl, hsv, hB1⟩
      have hI : Hid (i + m = ls.length) := Lib.hid hi
      have hIL := Lib.hid hil
      have hi1 : (ls.length : Int) - (m : Int) = (i : Int) := by omega
      clear hii hil
      clear hi
      rcases hsv with ⟨rfl, rfl⟩ | ⟨hne, g, c, rfl, hlc, hcm, hbg, hgz, hcells⟩
      · have hi0 : i = 0 := by have := hI.out; simp at this; omega
        have hm0 : m = 0 := by have := hI.out; simp at this; omega
        subst hi0; subst hm0
        go_wp2_with fail
        refine (put_n none 0 0 [] _ rfl (Rd.nil _ _ _) (by simp [room]) (by simp)).mono ?_
        rintro e w2 ⟨rfl, hB2⟩
        go_wp2
        go_ret
        exact ⟨rfl, hB1.trans (hB2.mono hB1.size)⟩
      · have HRD := Lib.hid (rd_drop (i := i) hcells hgz); clear hcells
        have hrd := room_drop ls i
        unfold maxLen at hcm
        by_cases hci : c = i
        · subst hci
          have hd : ls.drop c = [] := List.drop_eq_nil_iff.2 hlc
          have HD := Lib.hid hd; clear hd
          go_wp2_with fail
          refine (put_n _ _ _ (ls.drop c) _ (by rw [List.length_drop]; omega) (by rw [HD.out]; exact Rd.nil _ _ _) (by omega) (by simp; omega)).mono ?_
          rintro e w2 ⟨rfl, hB2⟩
          go_wp2
          go_ret
          exact ⟨rfl, hB1.trans (hB2.mono hB1.size)⟩
        · have hci' : ¬ c = i := hci
          go_wp2_with fail
          refine (put_n _ _ _ (ls.drop i) _ (by simp) HRD.out (by omega) (by simp; omega)).mono ?_
          rintro e w2 ⟨rfl, hB2⟩
          go_wp2
          go_ret
          exact ⟨rfl, hB1.trans (hB2.mono hB1.size)⟩
    · rw [if_neg hk]
      by_cases hk0 : k < 0
      · go_enter Tryz.func55, Tryz.ntmps55
        go_wp2_with fail
        refine (split_yes s ls _ HH.out).mono ?_
        rintro e w1 ⟨v, rfl, hsv, hB1⟩
        obtain ⟨a, c, rfl, _⟩ := hsv.rd
        go_wp2
        go_ret
        exact ⟨rfl, hB1⟩
      · have hk0' : 0 ≤ k := by omega
        have hk1 : (ls.length : Int) < k := by omega
        clear hk hk0
        go_enter Tryz.func55, Tryz.ntmps55
        go_wp2_with fail
        refine (split_yes s ls _ HH.out).mono ?_
        rintro e w1 ⟨v, rfl, hsv, hB1⟩
        obtain ⟨a, c, rfl, _⟩ := hsv.rd
        go_wp2
        go_ret
        exact ⟨rfl, hB1⟩
  · rw [tailS_no h]
    have HH := Lib.hid h; clear h
    go_enter Tryz.func55, Tryz.ntmps55
    go_wp2_with fail
    refine (split_no s _ hs HH.out).mono ?_
    rintro e w1 ⟨a, n, c, rfl, hB⟩
    go_wp2
    go_ret
    exact ⟨rfl, hB⟩
theorem parentS_no {l : Bs} (h : split l = none) : parentS l = [] := by unfold parentS; rw [h]
theorem parentS_root {l : Bs} (h : IsN l []) : parentS l = [] := by unfold parentS; rw [split_iff.2 h]
theorem parentS_yes {l x : Bs} {r : List Bs} (h : IsN l (x :: r)) : parentS l = put r := by unfold parentS; rw [split_iff.2 h]
set_option maxRecDepth 100000 in
set_option maxHeartbeats 1000000 in
theorem parent_any (s : ByteArray) (w : World) (hs : s.size ≤ 1099511627776) :
    Calls Tryz.prog 196 #[.string s] w fun e w' => e = .returned (.string ⟨(parentS s.data.toList).toArray⟩) ∧ Below w.heap.size w w' := by
  rcases isB_or s with ⟨ls, h⟩ | h
  · have hll := split_len h
    have hrm := isN_room h
    cases ls with
    | nil =>
      rw [parentS_root h]
      have HH := Lib.hid h; clear h
      go_enter Tryz.func196, Tryz.ntmps196
      go_wp2_with fail
      refine (split_yes s [] _ HH.out).mono ?_
      rintro e w1 ⟨v, rfl, hsv, hB1⟩
      obtain ⟨a, c, rfl, _⟩ := hsv.rd
      go_wp2
      go_ret
      exact ⟨rfl, hB1⟩
    | cons x r =>
      rw [parentS_yes h]
      have HH := Lib.hid h; clear h
      go_enter Tryz.func196, Tryz.ntmps196
      go_wp2_with fail
      refine (split_yes s (x :: r) _ HH.out).mono ?_
      rintro e w1 ⟨v, rfl, hsv, hB1⟩
      rcases hsv with ⟨h0, _⟩ | ⟨_, g, c, rfl, hlc, hcm, hbg, hgz, hcells⟩
      · cases h0
      have HRD := Lib.hid (rd_drop (i := 1) hcells hgz); clear hcells
      have hrr : room r ≤ room (x :: r) := by simp [room]
      unfold maxLen at hcm
      simp only [List.length_cons] at hlc hll
      by_cases hci : c = 1
      · subst hci
        have hd : r = [] := List.eq_nil_of_length_eq_zero (by omega)
        subst hd
        go_wp2_with fail
        refine (put_n _ _ _ [] _ (by simp) (Rd.nil _ _ _) (by simp [room]) (by simp)).mono ?_
        rintro e w2 ⟨rfl, hB2⟩
        go_wp2
        go_ret
        exact ⟨rfl, hB1.trans (hB2.mono hB1.size)⟩
      · go_wp2_with fail
        refine (put_n _ _ _ r _ (by simp) HRD.out (by omega) (by omega)).mono ?_
        rintro e w2 ⟨rfl, hB2⟩
        go_wp2
        go_ret
        exact ⟨rfl, hB1.trans (hB2.mono hB1.size)⟩
  · rw [parentS_no h]
    have HH := Lib.hid h; clear h
    go_enter Tryz.func196, Tryz.ntmps196
    go_wp2_with fail
    refine (split_no s _ hs HH.out).mono ?_
    rintro e w1 ⟨a, n, c, rfl, hB⟩
    go_wp2
    go_ret
    exact ⟨rfl, hB⟩
end Go.Proofs.YtnamkladeaohoaaGreat.refA
namespace Go.Proofs.YtnamkladeaohoaaGreat.refB
open Go.RowKit Go.Proofs.YtnamkladeaohoaaGreat.kit Go.Proofs.YtnamkladeaohoaaGreat.nspec Go.Proofs.YtnamkladeaohoaaGreat.rsplit Go.Proofs.YtnamkladeaohoaaGreat.rput Go.Proofs.YtnamkladeaohoaaGreat.low Go.Proofs.YtnamkladeaohoaaGreat.refA

theorem tailS_len (l : Bs) (k : Int) : (tailS l k).length ≤ 255 := by
  unfold tailS
  cases h : split l with
  | none => simp
  | some ls =>
    simp only
    split
    · rw [put_length]; have := isN_room (split_iff.1 h); have := room_drop ls (ls.length - k.toNat); omega
    · simp
theorem countS_bd (l : Bs) : -1 ≤ countS l ∧ countS l ≤ 254 := by
  unfold countS
  cases h : split l with
  | none => simp
  | some ls => have := split_len (split_iff.1 h); simp only; omega

def wF (n z : Bs) : Nat → Nat → Bool
  | 0, _ => false
  | g + 1, k => if equalS (tailS n k) z then true else wF n z g (k + 1)
def withinS (n z : Bs) : Bool := wF n z (countS n + 1).toNat 0
theorem wF_yes {n z : Bs} {g k : Nat} {R : Bool} (h : wF n z g k = R) (hg : 0 < g) (he : equalS (tailS n k) z = true) : true = R := by
  obtain ⟨f, rfl⟩ : ∃ f, g = f + 1 := ⟨g - 1, by omega⟩
  rw [← h]; simp only [wF]; rw [if_pos he]
theorem wF_no {n z : Bs} {g k : Nat} {R : Bool} (h : wF n z g k = R) (hg : 0 < g) (he : equalS (tailS n k) z = false) : wF n z (g - 1) (k + 1) = R := by
  obtain ⟨f, rfl⟩ : ∃ f, g = f + 1 := ⟨g - 1, by omega⟩
  rw [← h]; simp only [wF]; rw [he]; simp

set_option maxRecDepth 100000 in
set_option maxHeartbeats 1000000 in
theorem within_any (s t : ByteArray) (w : World) (hs : s.size ≤ 1099511627776) (ht : t.size ≤ 1099511627776) :
    Calls Tryz.prog 48 #[.string s, .string t] w fun e w' => e = .returned (.bool (withinS s.data.toList t.data.toList)) ∧ Below w.heap.size w w' := by
  obtain ⟨R, HR⟩ : ∃ R, Hid (R = withinS s.data.toList t.data.toList) := ⟨_, Lib.hid rfl⟩
  obtain ⟨hC0, hC1⟩ := countS_bd s.data.toList
  have HC : Hid (wF s.data.toList t.data.toList (countS s.data.toList + 1).toNat 0 = R) := Lib.hid (by rw [HR.out]; rfl)
  obtain ⟨C, hC⟩ : ∃ C, countS s.data.toList = C := ⟨_, rfl⟩
  rw [hC] at hC0 hC1 HC
  have HCC := Lib.hid hC; clear hC
  go_enter Tryz.func48, Tryz.ntmps48
  go_wp2
  go_loopg [5] ((C + 1).toNat) (fun gas kv wr => ∃ (k : Nat), kv = .int .i64 k ∧ (k : Int) + gas = C + 1 ∧ Below w.heap.size w wr ∧ Hid (wF s.data.toList t.data.toList gas k = R))
  case atStart => exact ⟨0, rfl, by omega, Below.refl _ _, HC⟩
  case round =>
    obtain ⟨k, rfl, hk, hB, HW⟩ := hrel
    have hk' : (k : Int) ≤ C + 1 := by omega
    have HK := Lib.hid hk
    by_cases hlt : (k : Int) ≤ C
    · have hg : 0 < gk := by omega
      clear hk
      go_wp2_with fail
      refine (count_any s _ hs).mono ?_
      rintro e w1 ⟨rfl, hB1⟩
      rw [HCC.out]
      have hBB := hB.trans (hB1.mono hB.size)
      go_wp2_with fail
      refine (tail_any s k _ hs).mono ?_
      rintro e w2 ⟨rfl, hB2⟩
      have hBC := hBB.trans (hB2.mono hBB.size)
      have htl := tailS_len s.data.toList k
      go_wp2_with fail
      refine (equal_any _ t _ (by rw [mk_size]; omega) ht).mono ?_
      rintro e w3 ⟨rfl, hB3⟩
      have hBD := hBC.trans (hB3.mono hBC.size)
      rw [mk_data]
      obtain ⟨b, hb⟩ : ∃ b, equalS (tailS s.data.toList k) t.data.toList = b := ⟨_, rfl⟩
      rw [hb]
      have HE := Lib.hid hb; clear hb htl
      cases b
      · go_wp2
        have hk := HK.out
        go_roundg (gk - 1)
        case rel => exact ⟨k + 1, by go_num, by omega, hBD, Lib.hid (wF_no HW.out hg HE.out)⟩
        case measure => omega
      · go_wp2
        go_ret
        exact ⟨ret_bool ((wF_yes HW.out hg HE.out).trans HR.out), hBD⟩
    · have hg : gk = 0 := by omega
      subst hg
      have HF : Hid (false = R) := Lib.hid (by rw [← HW.out]; rfl)
      clear hk
      go_wp2_with fail
      refine (count_any s _ hs).mono ?_
      rintro e w1 ⟨rfl, hB1⟩
      rw [HCC.out]
      have hBB := hB.trans (hB1.mono hB.size)
      go_wp2
      go_ret
      exact ⟨ret_bool (HF.out.trans HR.out), hBB⟩

def cF (a b : Bs) : Nat → Bs
  | 0 => []
  | g + 1 => if withinS b (tailS a g) then tailS a g else cF a b g
def commonS (a b : Bs) : Bs := cF a b (countS a + 1).toNat
theorem cF_yes {a b : Bs} {g : Nat} {R : Bs} (h : cF a b (g + 1) = R) (he : withinS b (tailS a g) = true) : tailS a g = R := by
  rw [← h]; simp only [cF]; rw [if_pos he]
theorem cF_no {a b : Bs} {g : Nat} {R : Bs} (h : cF a b (g + 1) = R) (he : withinS b (tailS a g) = false) : cF a b g = R := by
  rw [← h]; simp only [cF]; rw [he]; simp

set_option maxRecDepth 100000 in
set_option maxHeartbeats 1000000 in
theorem common_any (s t : ByteArray) (w : World) (hs : s.size ≤ 1099511627776) (ht : t.size ≤ 1099511627776) :
    Calls Tryz.prog 52 #[.string s, .string t] w fun e w' => e = .returned (.string ⟨(commonS s.data.toList t.data.toList).toArray⟩) ∧ Below w.heap.size w w' := by
  obtain ⟨R, HR⟩ : ∃ R, Hid (R = commonS s.data.toList t.data.toList) := ⟨_, Lib.hid rfl⟩
  obtain ⟨hC0, hC1⟩ := countS_bd s.data.toList
  have HC : Hid (cF s.data.toList t.data.toList (countS s.data.toList + 1).toNat = R) := Lib.hid (by rw [HR.out]; rfl)
  obtain ⟨C, hC⟩ : ∃ C, countS s.data.toList = C := ⟨_, rfl⟩
  rw [hC] at hC0 hC1 HC
  have HCC := Lib.hid hC; clear hC
  go_enter Tryz.func52, Tryz.ntmps52
  go_wp2_with fail
  refine (count_any s _ hs).mono ?_
  rintro e w1 ⟨rfl, hB1⟩
  rw [HCC.out]
  go_wp2
  go_loopg [5] ((C + 1).toNat) (fun gas kv wr => ∃ (k : Int), kv = .int .i64 k ∧ k + 1 = gas ∧ k ≤ 254 ∧ Below w.heap.size w wr ∧ Hid (cF s.data.toList t.data.toList gas = R))
  case atStart => exact ⟨C, rfl, by omega, by omega, hB1, HC⟩
  case round =>
    obtain ⟨k, rfl, hk, hk254, hB, HW⟩ := hrel
    by_cases hlt : 0 ≤ k
    · obtain ⟨m, rfl⟩ := Int.eq_ofNat_of_zero_le hlt
      obtain rfl : gk = m + 1 := by omega
      clear hk
      go_wp2_with fail
      refine (tail_any s m _ hs).mono ?_
      rintro e w2 ⟨rfl, hB2⟩
      have hBC := hB.trans (hB2.mono hB.size)
      have htl := tailS_len s.data.toList m
      go_wp2_with fail
      refine (within_any t _ _ ht (by rw [mk_size]; omega)).mono ?_
      rintro e w3 ⟨rfl, hB3⟩
      have hBD := hBC.trans (hB3.mono hBC.size)
      rw [mk_data]
      obtain ⟨b, hb⟩ : ∃ b, withinS t.data.toList (tailS s.data.toList m) = b := ⟨_, rfl⟩
      rw [hb]
      have HE := Lib.hid hb; clear hb htl
      cases b
      · have HN := Lib.hid (cF_no HW.out HE.out)
        go_wp2
        go_roundg m
        case rel => exact ⟨_, rfl, by omega, by omega, hBD, HN⟩
        case measure => omega
      · have HY := Lib.hid (cF_yes HW.out HE.out)
        go_wp2_with fail
        refine (tail_any s m _ hs).mono ?_
        rintro e w4 ⟨rfl, hB4⟩
        have hBE := hBD.trans (hB4.mono hBD.size)
        go_wp2
        go_ret
        exact ⟨ret_str (by rw [HY.out, HR.out]), hBE⟩
    · obtain rfl : gk = 0 := by omega
      have HF : Hid ([] = R) := Lib.hid (by rw [← HW.out]; rfl)
      have hlt' : k < 0 := by omega
      clear hk hlt
      go_wp2
      go_ret
      exact ⟨ret_str (by rw [← HR.out, ← HF.out]), hB⟩
end Go.Proofs.YtnamkladeaohoaaGreat.refB
namespace Go.Proofs.YtnamkladeaohoaaGreat.nameA
open Go.RowKit Go.Shelf Go.Proofs.YtnamkladeaohoaaGreat.kit Go.Proofs.YtnamkladeaohoaaGreat.labels Go.Proofs.YtnamkladeaohoaaGreat.check Go.Proofs.YtnamkladeaohoaaGreat.nspec Go.Proofs.YtnamkladeaohoaaGreat.rsplit Go.Proofs.YtnamkladeaohoaaGreat.low Go.Proofs.YtnamkladeaohoaaGreat.refA Go.Proofs.YtnamkladeaohoaaGreat.refB
attribute [local go_sem] Oper.semAt_some

theorem pairsL_length : ∀ (k : Nat) (ls : List Bs), (pairsL k ls).length = ls.length + 1
  | _, [] => rfl
  | k, x :: r => by simp [pairsL, pairsL_length _ r]
theorem raw_length {N : Nat} (l : List (Lab N)) : (raw l).length = l.length := by simp [raw]

set_option maxRecDepth 100000 in
set_option maxHeartbeats 2000000 in
theorem ncount_yes (s : ByteArray) (ls : List Bs) (w : World) (h : IsN s.data.toList ls) :
    CallsIn Fence.wide 3 Tryz.prog 126 #[.string s] w fun e w' => e = .returned (.int .i64 (ls.length : Int)) ∧ Below w.heap.size w w' := by
  have hll := split_len h
  have hs : s.size ≤ 255 := by have := h.2.2; rwa [size_len] at this
  have HP := Lib.hid (pairs_isN h)
  have HK := Lib.hid (chk_yes h)
  clear h
  refine callsIn_of_wp_marks Tryz.func126 rfl trivial ?_ rfl
  simp only [Tryz.ntmps126, List.size_toArray, List.length_cons, List.length_nil, Nat.reduceAdd, Nat.reduceSub, Array.replicate_succ, Array.replicate_zero, List.push_toArray, List.append_toArray, List.nil_append, List.cons_append]
  gi_wp2_with fail
  refine ⟨trivial, ?_⟩
  refine (callsIn_wide.2 (check_any s _ (by omega))).mono ?_
  rintro e w1 ⟨rfl, hB1⟩
  rw [HK.out]
  gi_wp2_with fail
  refine ⟨trivial, ?_⟩
  refine (labels_in Fence.wide _ trivial rfl _ _).mono ?_
  rintro e w' ⟨rfl, rfl⟩
  gi_wp2
  obtain ⟨w2, hw2⟩ : ∃ w2, (w1.alloc (.cells #[.int .i64 (-1)] 3)).alloc (.cells #[.string s] 9) = w2 := ⟨_, rfl⟩
  rw [hw2]
  have hz : w2.heap.size = w1.heap.size + 2 := by rw [← hw2]; simp
  have hB : Below w.heap.size w w2 := by rw [← hw2]; exact (hB1.alloc hB1.size _).alloc (by have := hB1.size; simp; omega) _
  have h1 : Boxed w2 w1.heap.size 3 (.int .i64 (-1)) := by rw [← hw2]; exact (Boxed.new w1 _ _).alloc _
  have h3 : w2.cell? ⟨w1.heap.size + 1, 0, none⟩ = some (.string s) := by
    rw [← hw2]; have := (Boxed.new (w1.alloc (.cells #[.int .i64 (-1)] 3)) 9 (.string s)).cell; rw [World.size_alloc] at this; exact this
  have hz1 := hB1.size
  clear hw2
  refine wpIn_rangeFunc_ownG rfl (by omega) (gf := 175) (lb := #[.pointer (some ⟨w1.heap.size + 1, 0, none⟩)]) rfl trivial (enters_of Tryz.func175 (by kernel_rfl) rfl)
    (labels_stops Fence.wide _ trivial rfl (by omega) (w1.heap.size + 1) s (by omega) w2 (by omega) h3) (keepBox_t _) (fun W l o o' hl _ _ _ => keepBox_b W l o' (by omega)) (Below.refl _ _) (fun _ => rfl)
    (fun pre W => Boxed W w1.heap.size 3 (.int .i64 (-1 + (pre.length : Int))) ∧ Below w.heap.size w W)
    (fun _ _ _ => False)
    (((boxed_own _ _ (fun pre : List (Lab s.size) => .int .i64 (-1 + (pre.length : Int)))).from _).and (ownFrom_below (Nat.le_refl _) (by omega)))
    (fun c => ownFrom_pure _ _)
    ⟨h1, hB⟩
    (fun x => { tmps := #[.string s, undef, .int .i64 0, .pointer (some ⟨w1.heap.size, 0, none⟩), .string s, .int .i64 0, .bool false, .string s, .func (.func 175) #[] #[.pointer (some ⟨w1.heap.size + 1, 0, none⟩)], .int .i64 (x.val.1 : Int), .string x.val.2, undef, undef, undef], defers := [] }) ?assign ?body ?done ?stop
  case assign =>
    intro l x W K hK
    gi_wp2
    simpa using hK
  case body =>
    rintro l pre x W ⟨hb1, hBl⟩ hlen
    have hc1 := hb1.cell
    have hf1 := hb1.frozen
    gi_wp2
    refine ⟨(KeepsOthers.setCell _ _ _).from _, ?_, ?_, hBl.setCell (by simp; omega) _⟩
    · exact World.cell?_of_block (Below.heap_setCell _ _ _ _ (by simp))
    · have := hb1.set (.int .i64 (-1 + ((pre ++ [x]).length : Int)))
      have e : (-1 + ((pre ++ [x]).length : Int)) = -1 + (pre.length : Int) + 1 := by simp; omega
      rw [e] at this ⊢
      exact this
  case done =>
    rintro D ys W hD hS ⟨hb1, hBl⟩ hK
    have hlen : ys.length = ls.length + 1 := by rw [← raw_length, hS, HP.out, pairsL_length]
    clear hS
    have hc1 := hb1.cell
    have HL := Lib.hid hlen
    clear hlen
    gi_wp2
    refine ⟨by simp, .inl ⟨_, _, rfl, run_takeDeferred hK, ?_⟩⟩
    refine ⟨.int .i64 (-1 + (ys.length : Int)), by simp [results, Tryz.results126, go_sem], ret_int ?_, below_putObj hBl (by omega) _⟩
    rw [HL.out]; omega
  case stop =>
    rintro D c pre W hD hS h hK
    exact h.elim
theorem ncount_no (s : ByteArray) (w : World) (hs : s.size ≤ 1099511627776) (h : split s.data.toList = none) :
    Calls Tryz.prog 126 #[.string s] w fun e w' => e = .returned (.int .i64 (-1)) ∧ Below w.heap.size w w' := by
  have HK := Lib.hid (chk_no h)
  clear h
  go_enter Tryz.func126, Tryz.ntmps126
  go_wp2_with fail
  refine (check_any s _ hs).mono ?_
  rintro e w1 ⟨rfl, hB1⟩
  rw [HK.out]
  go_wp2
  go_ret
  exact ⟨rfl, hB1⟩
theorem ncount_any (s : ByteArray) (w : World) (hs : s.size ≤ 1099511627776) :
    Calls Tryz.prog 126 #[.string s] w fun e w' => e = .returned (.int .i64 (countS s.data.toList)) ∧ Below w.heap.size w w' := by
  rcases isB_or s with ⟨ls, h⟩ | h
  · rw [countS_yes h]; exact callsIn_wide.1 (ncount_yes s ls w h)
  · rw [countS_no h]; exact ncount_no s w hs h

theorem pairsL_at : ∀ (k j : Nat) (ls : List Bs) (p : Nat × ByteArray), (pairsL k ls)[j]? = some p → p.1 = k + room (ls.take j) ∧ j ≤ ls.length
  | k, 0, [], p, h => by simp [pairsL] at h; subst h; simp [room]
  | k, j + 1, [], p, h => by simp [pairsL] at h
  | k, 0, x :: r, p, h => by simp [pairsL] at h; subst h; simp [room]
  | k, j + 1, x :: r, p, h => by
    simp only [pairsL, List.getElem?_cons_succ] at h
    obtain ⟨h1, h2⟩ := pairsL_at _ j r p h
    simp only [List.take_succ_cons, List.length_cons]
    refine ⟨?_, by omega⟩
    rw [h1]; simp [room]; omega
theorem put_drop (ls : List Bs) (j : Nat) : (put ls).drop (room (ls.take j)) = put (ls.drop j) := by
  have h : put ls = (ls.take j).flatMap (fun x => UInt8.ofNat x.length :: x) ++ put (ls.drop j) := by
    rw [← put_append, List.take_append_drop]
  have hl : ((ls.take j).flatMap (fun x => UInt8.ofNat x.length :: x)).length = room (ls.take j) := by
    have := put_length (ls.take j); rw [put_flat] at this; simpa using this
  rw [h, ← hl, List.drop_left]
theorem pre_last {N : Nat} {s : ByteArray} {pre : List (Lab N)} {x : Lab N} (h : raw (pre ++ [x]) <+: pairs s) : (pairs s)[pre.length]? = some x.val := by
  obtain ⟨t, ht⟩ := h
  rw [← ht, raw_snoc, ← raw_length pre, List.append_assoc, List.getElem?_append_right (Nat.le_refl _)]
  simp
theorem tail_at {s : ByteArray} {ls : List Bs} {pre : List (Lab s.size)} {x : Lab s.size} {k : Int} (h : IsN s.data.toList ls) (hp : raw (pre ++ [x]) <+: pairs s) (hk : (ls.length : Int) - (pre.length : Int) = k) (hk0 : 0 ≤ k) :
    s.extract x.val.1 s.size = ⟨(tailS s.data.toList k).toArray⟩ := by
  have h1 := pre_last hp
  rw [pairs_isN h] at h1
  obtain ⟨h2, h3⟩ := pairsL_at 0 pre.length ls x.val h1
  refine ba_ext ?_
  rw [tailS_yes h, if_pos ⟨hk0, by omega⟩]
  rw [Lib.extract_data, List.take_of_length_le (by simp), h2, Nat.zero_add, show ls.length - k.toNat = pre.length from by omega]
  rw [h.1, put_drop]

set_option maxRecDepth 100000 in
set_option maxHeartbeats 2000000 in
theorem ntail_yes (s : ByteArray) (k : Int) (ls : List Bs) (w : World) (h : IsN s.data.toList ls) (hk0 : 0 ≤ k) (hk1 : k ≤ (ls.length : Int)) :
    CallsIn Fence.wide 3 Tryz.prog 127 #[.string s, .int .i64 k] w fun e w' => e = .returned (.string ⟨(tailS s.data.toList k).toArray⟩) ∧ Below w.heap.size w w' := by
  have hll := split_len h
  have hs : s.size ≤ 255 := by have := h.2.2; rwa [size_len] at this
  have HP := Lib.hid (pairs_isN h)
  have HN := Lib.hid h
  clear h
  refine callsIn_of_wp_marks Tryz.func127 rfl trivial ?_ rfl
  simp only [Tryz.ntmps127, List.size_toArray, List.length_cons, List.length_nil, Nat.reduceAdd, Nat.reduceSub, Array.replicate_succ, Array.replicate_zero, List.push_toArray, List.append_toArray, List.nil_append, List.cons_append]
  gi_wp2_with fail
  obtain ⟨w0, hw0⟩ : ∃ w0, ((w.alloc (.cells #[.string s] 9)).alloc (.cells #[.int .i64 k] 3)).alloc (.cells #[.string ByteArray.empty] 9) = w0 := ⟨_, rfl⟩
  have hE : (ByteArray.empty : ByteArray) = ⟨#[]⟩ := rfl
  rw [hE] at hw0
  rw [hw0]
  have hz0 : w0.heap.size = w.heap.size + 3 := by rw [← hw0]; simp
  have hB0 : Below w.heap.size w w0 := by rw [← hw0]; exact (((Below.refl _ w).alloc (Nat.le_refl _) _).alloc (by simp) _).alloc (by simp; omega) _
  have g1 : Boxed w0 w.heap.size 9 (.string s) := by rw [← hw0]; exact ((Boxed.new w _ _).alloc _).alloc _
  have g2 : Boxed w0 (w.heap.size + 1) 3 (.int .i64 k) := by
    rw [← hw0]; have := (Boxed.new (w.alloc (.cells #[.string s] 9)) 3 (.int .i64 k)).alloc (.cells #[.string ⟨#[]⟩] 9); rw [World.size_alloc] at this; exact this
  have g3 : Boxed w0 (w.heap.size + 2) 9 (.string ⟨#[]⟩) := by
    rw [← hw0]; have := (Boxed.new ((w.alloc (.cells #[.string s] 9)).alloc (.cells #[.int .i64 k] 3)) 9 (.string ⟨#[]⟩)); rw [World.size_alloc, World.size_alloc] at this; exact this
  clear hw0 hE
  refine ⟨trivial, ?_⟩
  refine (callsIn_wide.2 (callsIn_wide.1 (ncount_yes s ls _ HN.out))).mono ?_
  rintro e w1 ⟨rfl, hB1⟩
  have hBw := hB0.trans (hB1.mono hB0.size)
  have hz1 := hB1.size
  have kb : ∀ {B : Nat} {t : TypeId} {v : Value}, B < w0.heap.size → Boxed w0 B t v → Boxed w1 B t v := fun hb hv => (hB1.block _ hb).trans hv
  have f1 := kb (by omega) g1
  have f2 := kb (by omega) g2
  have f3 := kb (by omega) g3
  clear kb g1 g2 g3
  have c1 := f1.cell
  have c2 := f2.cell
  have hlt1 := f1.lt
  have hlt2 := f2.lt
  have hlt3 : w.heap.size + 1 + 1 < w1.heap.size := f3.lt
  have hk0b : decide (k < 0) = false := by simp; omega
  have hk1b : decide ((ls.length : Int) < k) = false := by simp; omega
  gi_wp2_with fail
  refine ⟨trivial, ?_⟩
  refine (labels_in Fence.wide _ trivial rfl _ _).mono ?_
  rintro e w' ⟨rfl, rfl⟩
  gi_wp2
  obtain ⟨w2, hw2⟩ : ∃ w2, (w1.alloc (.cells #[.int .i64 (ls.length : Int)] 3)).alloc (.cells #[.string s] 9) = w2 := ⟨_, rfl⟩
  rw [hw2]
  have hz : w2.heap.size = w1.heap.size + 2 := by rw [← hw2]; simp
  have hB : Below w.heap.size w w2 := by rw [← hw2]; exact (hBw.alloc hBw.size _).alloc (by have := hBw.size; simp; omega) _
  have h1 : Boxed w2 w1.heap.size 3 (.int .i64 (ls.length : Int)) := by rw [← hw2]; exact (Boxed.new w1 _ _).alloc _
  have h3 : w2.cell? ⟨w1.heap.size + 1, 0, none⟩ = some (.string s) := by
    rw [← hw2]; have := (Boxed.new (w1.alloc (.cells #[.int .i64 (ls.length : Int)] 3)) 9 (.string s)).cell; rw [World.size_alloc] at this; exact this
  have e1 : Boxed w2 w.heap.size 9 (.string s) := by rw [← hw2]; exact (f1.alloc _).alloc _
  have e2 : Boxed w2 (w.heap.size + 1) 3 (.int .i64 k) := by rw [← hw2]; exact (f2.alloc _).alloc _
  have e3 : Boxed w2 (w.heap.size + 1 + 1) 9 (.string ⟨#[]⟩) := by rw [← hw2]; exact (f3.alloc _).alloc _
  clear hw2 c1 c2 f1 f2 f3
  refine wpIn_rangeFunc_ownG rfl (by omega) (gf := 175) (lb := #[.pointer (some ⟨w1.heap.size + 1, 0, none⟩)]) rfl trivial (enters_of Tryz.func175 (by kernel_rfl) rfl)
    (labels_stops Fence.wide _ trivial rfl (by omega) (w1.heap.size + 1) s (by omega) w2 (by omega) h3) (keepBox_t _) (fun W l o o' hl _ _ _ => keepBox_b W l o' (by omega)) (Below.refl _ _) (fun _ => rfl)
    (fun pre W => Boxed W w1.heap.size 3 (.int .i64 ((ls.length : Int) - (pre.length : Int))) ∧ Boxed W w.heap.size 9 (.string s) ∧ Boxed W (w.heap.size + 1) 3 (.int .i64 k) ∧ Boxed W (w.heap.size + 1 + 1) 9 (.string ⟨#[]⟩) ∧ Below w.heap.size w W ∧ k + (pre.length : Int) ≤ (ls.length : Int))
    (fun c pre W => (c = .ret ∧ ∃ p x, pre = p ++ [x] ∧ (ls.length : Int) - (p.length : Int) = k ∧ Boxed W (w.heap.size + 1 + 1) 9 (.string (s.extract x.val.1 s.size))) ∧ Below w.heap.size w W)
    (((boxed_own _ _ (fun pre : List (Lab s.size) => .int .i64 ((ls.length : Int) - (pre.length : Int)))).from _).and (((boxed_own _ _ (fun _ => .string s)).from _).and (((boxed_own _ _ (fun _ => .int .i64 k)).from _).and (((boxed_own _ _ (fun _ => .string ⟨#[]⟩)).from _).and ((ownFrom_below (Nat.le_refl _) (by omega)).and (ownFrom_pure _ _))))))
    (fun c => OwnFrom.and (fun pre X Y row hs hg hr => by
      obtain ⟨h0, p, x, h1, h2, h3⟩ := hs
      exact ⟨h0, p, x, h1, h2, ((boxed_own (w.heap.size + 1 + 1) 9 (fun _ : Unit => .string (s.extract x.val.1 s.size))).from w2.heap.size) () X Y row h3 hg hr⟩) (ownFrom_below (Nat.le_refl _) (by omega)))
    ⟨by simpa using h1, e1, e2, e3, hB, by simpa using hk1⟩
    (fun x => { tmps := #[.string s, .int .i64 k, .pointer (some ⟨w.heap.size, 0, none⟩), .pointer (some ⟨w.heap.size + 1, 0, none⟩), .pointer (some ⟨w.heap.size + 1 + 1, 0, none⟩), .pointer (some ⟨w1.heap.size, 0, none⟩), .int .i64 (x.val.1 : Int), .string s, .int .i64 (ls.length : Int), .int .i64 k, .bool false, .bool false, .int .i64 (ls.length : Int), .int .i64 k, .bool false, .bool false, .string s, .func (.func 175) #[] #[.pointer (some ⟨w1.heap.size + 1, 0, none⟩)], .int .i64 (x.val.1 : Int), .string x.val.2, undef, undef, undef, undef, undef, undef, undef, undef], defers := [] }) ?assign ?body ?done ?stop
  case assign =>
    intro l x W K hK
    gi_wp2
    simpa using hK
  case body =>
    rintro l pre x W ⟨hb1, hb2, hb3, hb4, hBl, hpk⟩ hlen
    have hc1 := hb1.cell
    have hf1 := hb1.frozen
    have hc2 := hb2.cell
    have hc3 := hb3.cell
    have hc4 := hb4.cell
    have hf4 := hb4.frozen
    have hxs := x.property.1
    by_cases he : (ls.length : Int) - (pre.length : Int) = k
    · have he' : ((ls.length : Int) - (pre.length : Int) == k) = true := by simp [he]
      have HEQ := Lib.hid he; clear he
      gi_wp2
      exact ⟨(KeepsOthers.setCell _ _ _).from _, ⟨rfl, pre, x, rfl, HEQ.out, hb4.set _⟩, hBl.setCell (by simp; omega) _⟩
    · have he' : ((ls.length : Int) - (pre.length : Int) == k) = false := by simpa using he
      have hlt : k < (ls.length : Int) - (pre.length : Int) := by omega
      clear he
      gi_wp2
      have hne1 : w.heap.size ≠ w1.heap.size := by omega
      have hne2 : w.heap.size + 1 ≠ w1.heap.size := by omega
      have hne3 : w.heap.size + 1 + 1 ≠ w1.heap.size := by omega
      refine ⟨(KeepsOthers.setCell _ _ _).from _, World.cell?_of_block (Below.heap_setCell _ _ _ _ (by simp)), ?_, hb2.other hne1 _, hb3.other hne2 _, hb4.other hne3 _, hBl.setCell (by simp; omega) _, by simp; omega⟩
      have := hb1.set (.int .i64 ((ls.length : Int) - ((pre ++ [x]).length : Int)))
      have e : ((ls.length : Int) - ((pre ++ [x]).length : Int)) = (ls.length : Int) - (pre.length : Int) - 1 := by simp; omega
      rw [e] at this ⊢
      exact this
  case done =>
    rintro D ys W hD hS ⟨hb1, hb2, hb3, hb4, hBl, hpk⟩ hK
    have hlen : ys.length = ls.length + 1 := by rw [← raw_length, hS, HP.out, pairsL_length]
    exact absurd hpk (by omega)
  case stop =>
    rintro D c pre W hD hS ⟨⟨rfl, p, x, rfl, hpk, hb4⟩, hBl⟩ hK
    have HT := Lib.hid (tail_at HN.out hS hpk hk0)
    clear hpk
    gi_wp2
    refine ⟨by simp, .inl ⟨_, _, rfl, run_takeDeferred hK, ?_⟩⟩
    have hcf := (boxed_putObj hb4 (show w.heap.size + 1 + 1 ≠ D by omega) (.deferred none)).cell
    exact ⟨.string (s.extract x.val.1 s.size), by simp [results, Tryz.results127, go_sem, hcf], ret_str HT.out, below_putObj hBl (by omega) _⟩
theorem ntail_no (s : ByteArray) (k : Int) (w : World) (hs : s.size ≤ 1099511627776) (h : k < 0 ∨ countS s.data.toList < k) :
    Calls Tryz.prog 127 #[.string s, .int .i64 k] w fun e w' => e = .returned (.string ⟨[].toArray⟩) ∧ Below w.heap.size w w' := by
  obtain ⟨C, hC⟩ : ∃ C, countS s.data.toList = C := ⟨_, rfl⟩
  rw [hC] at h
  have HC := Lib.hid hC; clear hC
  go_enter Tryz.func127, Tryz.ntmps127
  go_wp2_with fail
  obtain ⟨w0, hw0⟩ : ∃ w0, ((w.alloc (.cells #[.string s] 9)).alloc (.cells #[.int .i64 k] 3)).alloc (.cells #[.string ByteArray.empty] 9) = w0 := ⟨_, rfl⟩
  have hE : (ByteArray.empty : ByteArray) = ⟨#[]⟩ := rfl
  rw [hE] at hw0
  rw [hw0]
  have hz0 : w0.heap.size = w.heap.size + 3 := by rw [← hw0]; simp
  have hB0 : Below w.heap.size w w0 := by rw [← hw0]; exact (((Below.refl _ w).alloc (Nat.le_refl _) _).alloc (by simp) _).alloc (by simp; omega) _
  have g2 : Boxed w0 (w.heap.size + 1) 3 (.int .i64 k) := by
    rw [← hw0]; have := (Boxed.new (w.alloc (.cells #[.string s] 9)) 3 (.int .i64 k)).alloc (.cells #[.string ⟨#[]⟩] 9); rw [World.size_alloc] at this; exact this
  have g3 : Boxed w0 (w.heap.size + 2) 9 (.string ⟨#[]⟩) := by
    rw [← hw0]; have := (Boxed.new ((w.alloc (.cells #[.string s] 9)).alloc (.cells #[.int .i64 k] 3)) 9 (.string ⟨#[]⟩)); rw [World.size_alloc, World.size_alloc] at this; exact this
  clear hw0 hE
  refine (ncount_any s _ hs).mono ?_
  rintro e w1 ⟨rfl, hB1⟩
  rw [HC.out]
  have hBw := hB0.trans (hB1.mono hB0.size)
  have hz1 := hB1.size
  have f2 : Boxed w1 (w.heap.size + 1) 3 (.int .i64 k) := (hB1.block _ (by omega)).trans g2
  have f3 : Boxed w1 (w.heap.size + 1 + 1) 9 (.string ⟨#[]⟩) := (hB1.block _ (by omega)).trans g3
  clear g2 g3
  have c2 := f2.cell
  have c3 := f3.cell
  have z3 := f3.frozen
  have hlt2 := f2.lt
  have hlt3 := f3.lt
  have e3 := (f3.set (.string ⟨#[]⟩)).alloc (.cells #[.int .i64 C] 3)
  have hBs : Below w.heap.size w (w1.setCell ⟨w.heap.size + 1 + 1, 0, none⟩ (.string ⟨#[]⟩)) := hBw.setCell (by simp; omega) _
  have hcf := e3.cell
  have HF := Lib.hid hcf; clear hcf e3 f2 f3
  by_cases hk : k < 0
  · go_wp2
    have hcf := HF.out
    exact bodyPost_ret (v := .string ⟨#[]⟩) (by simp [results, Tryz.results127, go_sem, hcf]) rfl ⟨rfl, hBs.alloc hBs.size _⟩
  · have hk' : 0 ≤ k := by omega
    have hC : C < k := by omega
    clear h hk
    go_wp2
    have hcf := HF.out
    exact bodyPost_ret (v := .string ⟨#[]⟩) (by simp [results, Tryz.results127, go_sem, hcf]) rfl ⟨rfl, hBs.alloc hBs.size _⟩
theorem ntail_any (s : ByteArray) (k : Int) (w : World) (hs : s.size ≤ 1099511627776) :
    Calls Tryz.prog 127 #[.string s, .int .i64 k] w fun e w' => e = .returned (.string ⟨(tailS s.data.toList k).toArray⟩) ∧ Below w.heap.size w w' := by
  by_cases hk : 0 ≤ k ∧ k ≤ countS s.data.toList
  · rcases isB_or s with ⟨ls, h⟩ | h
    · rw [countS_yes h] at hk
      exact callsIn_wide.1 (ntail_yes s k ls w h hk.1 hk.2)
    · rw [countS_no h] at hk; omega
  · have : tailS s.data.toList k = [] := by
      rcases isB_or s with ⟨ls, h⟩ | h
      · rw [countS_yes h] at hk; rw [tailS_yes h, if_neg hk]
      · rw [tailS_no h]
    rw [this]
    exact ntail_no s k w hs (by omega)
end Go.Proofs.YtnamkladeaohoaaGreat.nameA
namespace Go.Proofs.YtnamkladeaohoaaGreat.hostP
open Go.Proofs.YtnamkladeaohoaaGreat.kit Go.Proofs.YtnamkladeaohoaaGreat.nspec Go.Proofs.YtnamkladeaohoaaGreat.nameA Go.Proofs.YtnamkladeaohoaaGreat.fld
set_option linter.unusedVariables false

theorem put_head (ls : List Bs) (j : Nat) (h : j ≤ ls.length) : (put ls)[room (ls.take j)]? = some (if h2 : j < ls.length then UInt8.ofNat (ls[j]).length else 0) := by
  have e : (put ls)[room (ls.take j)]? = ((put ls).drop (room (ls.take j)))[0]? := by simp
  rw [e, put_drop]
  by_cases h2 : j < ls.length
  · rw [dif_pos h2, List.drop_eq_getElem_cons h2]; rfl
  · rw [dif_neg h2, List.drop_eq_nil_iff.2 (by omega)]; rfl
theorem room_step (ls : List Bs) (j : Nat) (h : j < ls.length) : room (ls.take (j + 1)) = room (ls.take j) + 1 + (ls[j]).length := by
  rw [List.take_succ_eq_append_getElem h, room_append]; simp [room]; omega
theorem room_le (ls : List Bs) (j : Nat) : room (ls.take j) ≤ room ls := by
  have := room_append (ls.take j) (ls.drop j)
  rw [List.take_append_drop] at this; omega
theorem take_at {d : Bs} {k a : Nat} (ha : a < k) : (d.take k)[a]? = d[a]? := by rw [List.getElem?_take]; simp [ha]

/-- how far the scan has come: at the head of a label of each name that stands first -/
def Scan (d : Bs) (a : Nat) : Prop := ∀ (k : Nat) (ls : List Bs), k ≤ d.length → IsN (d.take k) ls → ∃ j, j ≤ ls.length ∧ a = room (ls.take j)
theorem name_len {d : Bs} {k : Nat} {ls : List Bs} (hk : k ≤ d.length) (h : IsN (d.take k) ls) : k = room ls + 1 := by
  have := congrArg List.length h.1
  rw [put_length, List.length_take] at this; omega
theorem Scan.start (d : Bs) : Scan d 0 := fun k ls _ _ => ⟨0, Nat.zero_le _, rfl⟩
theorem Scan.step {d : Bs} {a : Nat} {c : UInt8} (h : Scan d a) (hc : d[a]? = some c) (h0 : c.toNat ≠ 0) : Scan d (a + (1 + c.toNat)) := by
  intro k ls hk hN
  obtain ⟨j, hj, rfl⟩ := h k ls hk hN
  have hl := name_len hk hN
  have hr := room_le ls j
  have hp := put_head ls j hj
  rw [← hN.1, take_at (by omega), hc] at hp
  by_cases h2 : j < ls.length
  · rw [dif_pos h2] at hp
    have he : c = UInt8.ofNat (ls[j]).length := by simpa using hp
    have hx := hN.2.1 _ (List.getElem_mem h2)
    have hn : c.toNat = (ls[j]).length := by rw [he]; exact nat_of (by omega)
    exact ⟨j + 1, by omega, by rw [room_step ls j h2]; omega⟩
  · rw [dif_neg h2] at hp
    have he : c = 0 := by simpa using hp
    rw [he] at h0; exact absurd rfl h0
theorem host_none {d : Bs} (h : ∀ (k : Nat) (ls : List Bs), k ≤ d.length → ¬ IsN (d.take k) ls) : hostS d = -1 := by
  have : (List.range 256).find? (fun k => (split (d.take k)).isSome) = none := by
    rw [List.find?_eq_none]
    intro k _ hs
    obtain ⟨ls, hls⟩ := Option.isSome_iff_exists.1 hs
    have hN := split_iff.1 hls
    rcases Nat.lt_or_ge d.length k with h1 | h1
    · rw [List.take_of_length_le (by omega)] at hN
      exact h d.length ls (Nat.le_refl _) (by rw [List.take_of_length_le (Nat.le_refl _)]; exact hN)
    · exact h k ls h1 hN
  unfold hostS; rw [this]
theorem host_some {d : Bs} {m : Nat} {ls : List Bs} (hm : m ≤ d.length) (hN : IsN (d.take m) ls) (h : ∀ (k : Nat) (ls : List Bs), k < m → ¬ IsN (d.take k) ls) : hostS d = (m : Int) := by
  have hl := hN.2.2
  rw [List.length_take] at hl
  have : (List.range 256).find? (fun k => (split (d.take k)).isSome) = some m := by
    rw [List.find?_range_eq_some]
    refine ⟨?_, by rw [List.mem_range]; omega, ?_⟩
    · rw [split_iff.2 hN]; rfl
    · intro j hj
      cases hs : split (d.take j) with
      | none => rfl
      | some l => exact absurd (split_iff.1 hs) (h j l hj)
  unfold hostS; rw [this]
theorem Scan.far {d : Bs} {a : Nat} (h : Scan d a) (ha : d.length ≤ a) : hostS d = -1 := by
  refine host_none fun k ls hk hN => ?_
  obtain ⟨j, hj, rfl⟩ := h k ls hk hN
  have := name_len hk hN
  have := room_le ls j
  omega
theorem Scan.no {d : Bs} {a : Nat} (h : Scan d a) (hz : d[a]? = some 0) (hs : split (d.take (a + 1)) = none) : hostS d = -1 := by
  have hlt := (List.getElem?_eq_some_iff.1 hz).1
  refine host_none fun k ls hk hN => ?_
  obtain ⟨j, hj, rfl⟩ := h k ls hk hN
  have hl := name_len hk hN
  have hr := room_le ls j
  have hp := put_head ls j hj
  rw [← hN.1, take_at (by omega), hz] at hp
  by_cases h2 : j < ls.length
  · rw [dif_pos h2] at hp
    have he : (0 : UInt8) = UInt8.ofNat (ls[j]).length := by simpa using hp
    have hx := hN.2.1 _ (List.getElem_mem h2)
    have hn : (0 : UInt8).toNat = (ls[j]).length := by rw [he]; exact nat_of (by omega)
    have : (0 : UInt8).toNat = 0 := rfl
    omega
  · have hje : j = ls.length := by omega
    subst hje
    rw [List.take_of_length_le (Nat.le_refl _)] at hs
    rw [← hl] at hs
    rw [split_iff.2 hN] at hs; simp at hs
theorem Scan.yes {d : Bs} {a : Nat} (h : Scan d a) (ha : a + 1 ≤ d.length) {ls : List Bs} (hN : IsN (d.take (a + 1)) ls) : hostS d = ((a + 1 : Nat) : Int) := by
  refine host_some ha hN fun k l hk hN2 => ?_
  obtain ⟨j, hj, rfl⟩ := h k l (by omega) hN2
  have := name_len (by omega) hN2
  have := room_le l j
  omega
end Go.Proofs.YtnamkladeaohoaaGreat.hostP
namespace Go.Proofs.YtnamkladeaohoaaGreat.hostT
open Go.RowKit Go.Proofs.YtnamkladeaohoaaGreat.kit Go.Proofs.YtnamkladeaohoaaGreat.check Go.Proofs.YtnamkladeaohoaaGreat.nspec Go.Proofs.YtnamkladeaohoaaGreat.rsplit Go.Proofs.YtnamkladeaohoaaGreat.fld Go.Proofs.YtnamkladeaohoaaGreat.hostP Go.Proofs.YtnamkladeaohoaaGreat.takes
set_option linter.unusedVariables false

theorem at_some {s : ByteArray} {a : Nat} {c : UInt8} (h : a < s.size) (hc : s[a] = c) : s.data.toList[a]? = some c := by
  have h' : a < s.data.toList.length := by rw [size_len]; exact h
  rw [List.getElem?_eq_getElem h', ← hc]; rfl
theorem ext0 (s : ByteArray) (n : Nat) : (s.extract 0 n).data.toList = s.data.toList.take n := by rw [Lib.extract_data]; simp

set_option maxRecDepth 100000 in
set_option maxHeartbeats 2000000 in
theorem host_any (s : ByteArray) (w : World) (hs : s.size ≤ 1099511627776) :
    Calls Tryz.prog 257 #[.agg #[], .string s] w fun e w' => e = .returned (.int .i64 (takeS .host s.data.toList)) ∧ Below w.heap.size w w' := by
  have hBa := Lib.hid ((Below.refl w.heap.size w).alloc (Nat.le_refl _) (.cells #[] 201))
  have HS0 := Lib.hid (Scan.start s.data.toList)
  obtain ⟨R, HR⟩ : ∃ R, Hid (hostS s.data.toList = R) := ⟨_, Lib.hid rfl⟩
  have HT : Hid (takeS .host s.data.toList = R) := Lib.hid HR.out
  rw [HT.out]
  go_enter Tryz.func257, Tryz.ntmps257
  go_wp2_with fail
  go_loopg [5] (s.size + 300) (fun gas av wr => ∃ a : Nat, av = .int .i64 a ∧ a ≤ s.size + 256 ∧ s.size + 258 ≤ a + gas ∧ Hid (Scan s.data.toList a) ∧ Below w.heap.size w wr)
  case atStart => exact ⟨0, rfl, by omega, by omega, HS0, hBa.out⟩
  case round =>
    obtain ⟨a, rfl, ha, hgas, HS, hB⟩ := hrel
    have HG := Lib.hid hgas; clear hgas
    have HB := Lib.hid hB; clear hB
    by_cases hlt : a < s.size
    · obtain ⟨c, hc⟩ : ∃ c, s[a] = c := ⟨_, rfl⟩
      have hc256 := byte_lt c
      have HC := Lib.hid (at_some hlt hc)
      by_cases h0 : c.toNat = 0
      · have hc0 : c = 0 := UInt8.toNat_inj.1 h0
        have hz : ((c.toNat : Int)) = 0 := by omega
        have hb : decide (0 < c.toNat) = false := by rw [decide_eq_false_iff_not]; omega
        have hes : (s.extract 0 (a + 1)).data.toList = s.data.toList.take (a + 1) := ext0 s (a + 1)
        have CK := Lib.hid (fun w => check_any (s.extract 0 (a + 1)) w (by rw [ByteArray.size_extract]; omega))
        have hle : (a : Int) + 1 ≤ (s.size : Int) := by omega
        have hlt2 : (a : Int) < (s.size : Int) := by omega
        rcases isB_or (s.extract 0 (a + 1)) with ⟨ls, hN⟩ | hN
        · rw [chk_yes hN] at CK
          rw [hes] at hN
          have HY := Lib.hid (HS.out.yes (by rw [size_len]; omega) hN)
          clear h0 hz hc0 hes hN
          go_wp2_with fail
          refine (CK.out _).mono ?_
          rintro e w1 ⟨rfl, hB1⟩
          have HB1 := Lib.hid (HB.out.trans (hB1.mono HB.out.size)); clear hB1
          go_wp2_with fail
          go_ret
          exact ⟨by rw [← HR.out, HY.out]; rfl, HB1.out⟩
        · rw [chk_no hN] at CK
          rw [hes] at hN
          have HY := Lib.hid (HS.out.no (by rw [HC.out, hc0]) hN)
          clear h0 hz hc0 hes hN
          go_wp2_with fail
          refine (CK.out _).mono ?_
          rintro e w1 ⟨rfl, hB1⟩
          have HB1 := Lib.hid (HB.out.trans (hB1.mono HB.out.size)); clear hB1
          go_wp2_with fail
          go_ret
          exact ⟨by rw [← HR.out, HY.out]; rfl, HB1.out⟩
      · have HS2 := Lib.hid (HS.out.step HC.out h0)
        have hb : decide (0 < c.toNat) = true := by rw [decide_eq_true_eq]; omega
        clear h0
        go_wp2_with fail
        have hgas := HG.out
        go_roundg (gk - 1)
        case rel => exact ⟨a + (1 + c.toNat), by go_num, by omega, by omega, HS2, HB.out⟩
        case measure => omega
    · have HY := Lib.hid (HS.out.far (by rw [size_len]; omega))
      have hge : (s.size : Int) ≤ (a : Int) := by omega
      clear hlt
      go_wp2_with fail
      go_ret
      exact ⟨by rw [← HR.out, HY.out]; rfl, HB.out⟩
end Go.Proofs.YtnamkladeaohoaaGreat.hostT
namespace Go.Proofs.YtnamkladeaohoaaGreat.textsT
open Go.RowKit Go.Proofs.YtnamkladeaohoaaGreat.kit Go.Proofs.YtnamkladeaohoaaGreat.nspec Go.Proofs.YtnamkladeaohoaaGreat.fld Go.Proofs.YtnamkladeaohoaaGreat.takes
set_option linter.unusedVariables false

def textsA (at0 : Nat) (d : Bs) : Int := textsF (d.length + 1) at0 d
theorem texts_end (at0 : Nat) : textsA at0 [] = if at0 = 0 then -1 else (at0 : Int) := rfl
theorem texts_go {at0 : Nat} {c : UInt8} {r : Bs} (h : c.toNat ≤ r.length) : textsA at0 (c :: r) = textsA (at0 + (1 + c.toNat)) (r.drop c.toNat) := by
  unfold textsA
  rw [List.length_cons, textsF, if_neg (by omega)]
  exact texts_fuel _ _ _ _ (by rw [List.length_drop]; omega) (by omega)
theorem texts_bad {at0 : Nat} {c : UInt8} {r : Bs} (h : r.length < c.toNat) : textsA at0 (c :: r) = -1 := by
  unfold textsA
  rw [List.length_cons, textsF, if_pos h]
theorem ext_end (s : ByteArray) (a : Nat) : (s.extract a s.size).data.toList = s.data.toList.drop a := by
  rw [Lib.extract_data]; rw [List.take_of_length_le (by rw [List.length_drop, size_len]; exact Nat.le_refl _)]

set_option maxRecDepth 100000 in
set_option maxHeartbeats 2000000 in
theorem texts_any (s : ByteArray) (w : World) (hs : s.size ≤ 1099511627776) :
    Calls Tryz.prog 269 #[.agg #[], .string s] w fun e w' => e = .returned (.int .i64 (takeS .texts s.data.toList)) ∧ Below w.heap.size w w' := by
  have hBa := Lib.hid ((Below.refl w.heap.size w).alloc (Nat.le_refl _) (.cells #[] 213))
  obtain ⟨R, HR⟩ : ∃ R, Hid (textsA 0 (s.data.toList.drop 0) = R) := ⟨_, Lib.hid rfl⟩
  have HT : Hid (takeS .texts s.data.toList = R) := Lib.hid HR.out
  rw [HT.out]
  go_enter Tryz.func269, Tryz.ntmps269
  go_wp2_with fail
  go_loopg [5, 6] (s.size + 1) (fun gas av _ wr => ∃ a : Nat, av = .int .i64 a ∧ a ≤ s.size ∧ s.size + 1 ≤ a + gas ∧ Hid (textsA a (s.data.toList.drop a) = R) ∧ Below w.heap.size w wr)
  case atStart => exact ⟨0, rfl, by omega, by omega, HR, hBa.out⟩
  case round =>
    obtain ⟨a, rfl, ha, hgas, HS, hB⟩ := hrel
    have HG := Lib.hid hgas; clear hgas
    have HB := Lib.hid hB; clear hB
    by_cases hlt : a < s.size
    · obtain ⟨c, hc⟩ : ∃ c, s[a] = c := ⟨_, rfl⟩
      have hd := drop_cons s a hlt
      rw [hc] at hd
      have hl : (s.data.toList.drop (a + 1)).length = s.size - (a + 1) := by rw [List.length_drop, size_len]
      have CT := Lib.hid (fun w => text_any (s.extract a s.size) w (by rw [ByteArray.size_extract]; omega))
      rw [ext_end, hd] at CT
      have h1 : (a : Int) ≤ (s.size : Int) := by omega
      by_cases h2 : (s.data.toList.drop (a + 1)).length < c.toNat
      · have e1 : textS (c :: s.data.toList.drop (a + 1)) = -1 := by simp only [textS]; rw [if_pos h2]
        have HN : Hid (-1 = R) := Lib.hid (by rw [← HS.out, hd, texts_bad h2])
        rw [e1] at CT
        clear e1 h2 hd hl
        go_wp2_with fail
        refine (CT.out _).mono ?_
        rintro e w1 ⟨rfl, hB1⟩
        have HB1 := Lib.hid (HB.out.trans (hB1.mono HB.out.size)); clear hB1
        go_wp2_with fail
        go_ret
        exact ⟨by rw [← HN.out]; rfl, HB1.out⟩
      · have e1 : textS (c :: s.data.toList.drop (a + 1)) = ((1 + c.toNat : Nat) : Int) := by simp only [textS]; rw [if_neg h2]; simp
        obtain ⟨n, hn⟩ : ∃ n, 1 + c.toNat = n := ⟨_, rfl⟩
        have hns : a + n ≤ s.size := by omega
        have HN : Hid (textsA (a + n) (s.data.toList.drop (a + n)) = R) := Lib.hid (by
          rw [← HS.out, hd, texts_go (by omega), List.drop_drop, hn, show a + 1 + c.toNat = a + n by omega])
        rw [e1, hn] at CT
        have hn1 : 1 ≤ n := by omega
        clear e1 h2 hd hl hn
        go_wp2_with fail
        refine (CT.out _).mono ?_
        rintro e w1 ⟨rfl, hB1⟩
        have HB1 := Lib.hid (HB.out.trans (hB1.mono HB.out.size)); clear hB1
        go_wp2_with fail
        have hgas := HG.out
        go_roundg (gk - 1)
        case rel => exact ⟨a + n, by go_num, by omega, by omega, HN, HB1.out⟩
        case measure => omega
    · have hae : a = s.size := by omega
      subst hae
      have HN : Hid ((if s.size = 0 then -1 else (s.size : Int)) = R) := Lib.hid (by rw [← HS.out, drop_end s s.size (Nat.le_refl _), texts_end])
      clear hlt
      by_cases h0 : s.size = 0
      · have hz : ((s.size : Int) == 0) = true := by rw [beq_iff_eq]; omega
        rw [if_pos h0] at HN
        have H0 := Lib.hid h0; clear h0
        go_wp2_with fail
        go_ret
        exact ⟨by rw [← HN.out]; rfl, HB.out⟩
      · have hz : ((s.size : Int) == 0) = false := by rw [beq_eq_false_iff_ne]; omega
        rw [if_neg h0] at HN
        clear h0
        go_wp2_with fail
        go_ret
        exact ⟨by rw [← HN.out]; rfl, HB.out⟩
end Go.Proofs.YtnamkladeaohoaaGreat.textsT

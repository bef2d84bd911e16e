/- The reference's FoldName, EqualName, Count, Tail, Parent: walks. -/
import Derived.Test.YthblaldkpjilhaaPut
namespace Go.Proofs.Ythblaldkpjilhaa.refA
open Go.RowKit Go.Proofs.Ythblaldkpjilhaa.kit Go.Proofs.Ythblaldkpjilhaa.nspec Go.Proofs.Ythblaldkpjilhaa.rsplit Go.Proofs.Ythblaldkpjilhaa.rput Go.Proofs.Ythblaldkpjilhaa.low

def foldS (l : Bs) : Bs := match split l with | some ls => put (ls.map lowL) | none => []
def countS (l : Bs) : Int := match split l with | some ls => (ls.length : Int) | none => -1
def tailS (l : Bs) (k : Int) : Bs := match split l with | some ls => if 0 ≤ k ∧ k ≤ (ls.length : Int) then put (ls.drop (ls.length - k.toNat)) else [] | none => []
def parentS (l : Bs) : Bs := match split l with | some (_ :: r) => put r | _ => []
def equalS (a b : Bs) : Bool := match split a, split b with | some x, some y => decide (x.map lowL = y.map lowL) | _, _ => false

theorem split_len {l : Bs} {ls : List Bs} (h : IsN l ls) : ls.length ≤ 254 := by
  have h1 := isN_room h
  have : ∀ ls : List Bs, ls.length ≤ room ls := by
    intro ls; induction ls with
    | nil => simp [room]
    | cons x r ih => simp [room] at ih ⊢; omega
  have := this ls; omega
theorem room_low (ls : List Bs) : room (ls.map lowL) = room ls := by
  simp [room, lowL, List.map_map, Function.comp_def]
theorem okL_low {ls : List Bs} (h : okL ls) : okL (ls.map lowL) := by
  intro x hx
  obtain ⟨y, hy, rfl⟩ := List.mem_map.1 hx
  simpa [lowL] using h y hy

set_option maxRecDepth 100000 in
set_option maxHeartbeats 1000000 in
theorem fold_yes (s : ByteArray) (ls : List Bs) (w : World) (h : IsN s.data.toList ls) :
    Calls Try.prog 73 #[.string s] w fun e w' => e = .returned (strV (put (ls.map lowL))) ∧ Below w.heap.size w w' := by
  obtain ⟨i0, hi, hz0, hz1, hz2⟩ := info_parts infoStr
  have hll := split_len h
  have hrm := isN_room h
  have hok := h.2.1
  have HOK := Lib.hid hok; clear hok
  have HH := Lib.hid h; clear h
  go_enter Try.func73, Try.ntmps73
  go_wp2_with fail
  refine (split_yes s ls _ HH.out).mono ?_
  rintro e w1 ⟨v, rfl, hsv, hB1⟩
  obtain ⟨a, c, rfl, hrd⟩ := hsv.rd
  have HR := Lib.hid hrd; clear hsv hrd
  go_wp2
  go_loopg [5, 17] (ls.length) (fun gas ov kv wr => ∃ (k : Nat), kv = .int .i64 k ∧ k + gas = ls.length ∧ wr.ownsRow w1.heap.size 9 1 ov (ls.take k).length (((ls.take k).map lowL).map strV) ∧ Below w1.heap.size w1 wr)
  case atStart => exact ⟨0, rfl, by omega, World.ownsRow_nil _ _ _ _, Below.refl _ _⟩
  case round =>
    obtain ⟨k, rfl, hk, hown, hB⟩ := hrel
    have hk' : k ≤ ls.length := by omega
    have HK := Lib.hid hk; clear hk
    by_cases hlt : k < ls.length
    · obtain ⟨x, hx⟩ : ∃ x, ls[k]? = some x := ⟨_, List.getElem?_eq_getElem hlt⟩
      obtain ⟨g, o, rfl, _, hg, hcell⟩ := HR.out k x hx
      have hcell2 := (hB.cell (p := ⟨g, o + k, none⟩) hg).trans hcell
      have hxl := (HOK.out x (List.mem_of_getElem? hx)).2
      have HX := Lib.hid hx; clear hx hcell
      unfold strV at hcell2
      obtain ⟨xs, hxs⟩ : ∃ xs : ByteArray, xs = ⟨x.toArray⟩ := ⟨_, rfl⟩
      rw [← hxs] at hcell2
      have hxl : xs.size ≤ maxLen := by rw [hxs, mk_size]; unfold maxLen; omega
      have HXD : Hid (xs.data.toList = x) := Lib.hid (by rw [hxs])
      have HXS := Lib.hid hxs; clear hxs
      go_wp2_with fail
      refine (low_any xs _ hxl).mono ?_
      rintro e w2 ⟨rfl, hB2⟩
      rw [HXD.out]
      have hsz := hB.size
      have hsz2 := hB2.size
      have hown2 := hown.kept (w' := w2) (row := none) ⟨hB2.os, hB2.tape, hB2.output, hB2.size, fun k hk _ => hB2.block k hk⟩ (by cases hv : Value.ownBlock _ <;> simp)
      have hBB := hB.trans (hB2.mono hsz)
      have htk : (ls.take k).length ≤ 254 := by rw [List.length_take]; omega
      clear hown hcell2
      go_wp2_with (at_builtin; refine wpList_append_own _ rfl _ _ 29 rfl w1.heap.size 9 i0 (.string ByteArray.empty) 1 16 Try.underlying29 hi hz0 hz1 hz2 rfl (by decide) _ _ _ rfl (hown2.alloc _) ⟨w2.heap.size, 0, none⟩ 1 1 [.string ⟨(lowL x).toArray⟩] rfl rfl ?c1 ?c2 ?c3 ?c4 ?c5 ?_)
      case c1 => exact cell_one_new _ _ _
      case c2 => simp [Value.oneCell']
      case c3 => unfold maxLen; omega
      case c4 => omega
      case c5 => simp; omega
      intro v' w3 hown' hgrow _
      have hB3 := below_append hBB (by omega) hown2 hgrow
      have hsn : Hid (ls.take (k + 1) = ls.take k ++ [x]) := Lib.hid (by
        obtain ⟨h1, h2⟩ := List.getElem?_eq_some_iff.1 HX.out
        rw [List.take_succ_eq_append_getElem h1, h2])
      have HOW : Hid (w3.ownsRow w1.heap.size 9 1 v' (ls.take (k + 1)).length (((ls.take (k + 1)).map lowL).map strV)) := Lib.hid (by
        have hmin : min k ls.length = k := by omega
        rw [hsn.out]; simpa [strV, hmin] using hown')
      clear hown' hgrow hown2
      go_wp2
      have hk := HK.out
      go_roundg (gk - 1)
      case rel => exact ⟨k + 1, by go_num, by omega, HOW.out, hB3⟩
      case measure => omega
    · have HE : Hid (ls.take k = ls) := Lib.hid (List.take_of_length_le (by omega))
      rw [HE.out] at hown
      obtain ⟨a2, c2, rfl, hrd2⟩ := Rd.of_own (ls := ls.map lowL) (by simpa using hown)
      have hlm : (ls.map lowL).length = ls.length := List.length_map _
      have hput := put_any a2 c2 (ls.map lowL) wr (hrd2.mono (Nat.zero_le _)) (by rw [room_low]; omega) (by omega)
      rw [hlm] at hput ⊢
      have HP := Lib.hid hput; clear hput
      have HLM := Lib.hid hlm; clear hlm hown hrd2
      go_wp2_with fail
      refine HP.out.mono ?_
      rintro e w2 ⟨rfl, hB2⟩
      unfold strV
      go_wp2
      go_ret
      exact ⟨rfl, hB1.trans ((hB.trans (hB2.mono hB.size)).mono hB1.size)⟩
set_option maxRecDepth 100000 in
theorem fold_no (s : ByteArray) (w : World) (hs : s.size ≤ 1099511627776) (h : split s.data.toList = none) :
    Calls Try.prog 73 #[.string s] w fun e w' => e = .returned (strV []) ∧ Below w.heap.size w w' := by
  have HH := Lib.hid h; clear h
  go_enter Try.func73, Try.ntmps73
  go_wp2_with fail
  refine (split_no s _ hs HH.out).mono ?_
  rintro e w1 ⟨a, n, c, rfl, hB⟩
  go_wp2
  go_ret
  exact ⟨rfl, hB⟩
theorem foldS_yes {l : Bs} {ls : List Bs} (h : IsN l ls) : foldS l = put (ls.map lowL) := by unfold foldS; rw [split_iff.2 h]
theorem foldS_no {l : Bs} (h : split l = none) : foldS l = [] := by unfold foldS; rw [h]
theorem fold_any (s : ByteArray) (w : World) (hs : s.size ≤ 1099511627776) :
    Calls Try.prog 73 #[.string s] w fun e w' => e = .returned (.string ⟨(foldS s.data.toList).toArray⟩) ∧ Below w.heap.size w w' := by
  rcases isB_or s with ⟨ls, h⟩ | h
  · rw [foldS_yes h]; exact fold_yes s ls w h
  · rw [foldS_no h]; exact fold_no s w hs h

theorem equalS_eq (a b : Bs) : equalS a b = ((split a).isSome && (split b).isSome && decide (foldS a = foldS b)) := by
  unfold equalS foldS
  cases ha : split a with
  | none => rfl
  | some x =>
    cases hb : split b with
    | none => rfl
    | some y =>
      simp only [Option.isSome_some, Bool.true_and]
      have h1 := okL_low (split_iff.1 ha).2.1
      have h2 := okL_low (split_iff.1 hb).2.1
      by_cases h : x.map lowL = y.map lowL
      · rw [decide_eq_true h, decide_eq_true (congrArg put h)]
      · rw [decide_eq_false h, decide_eq_false (fun e => h (put_inj h1 h2 e))]
theorem beq_dec (a b : Bs) : ((⟨a.toArray⟩ : ByteArray).toList == (⟨b.toArray⟩ : ByteArray).toList) = decide (a = b) := by
  rw [Lib.toList_data, Lib.toList_data]
  by_cases h : a = b
  · subst h; simp
  · rw [decide_eq_false h]; simpa using h

theorem countS_yes {l : Bs} {ls : List Bs} (h : IsN l ls) : countS l = ls.length := by unfold countS; rw [split_iff.2 h]
theorem countS_no {l : Bs} (h : split l = none) : countS l = -1 := by unfold countS; rw [h]
theorem tailS_yes {l : Bs} {ls : List Bs} (h : IsN l ls) (k : Int) : tailS l k = if 0 ≤ k ∧ k ≤ (ls.length : Int) then put (ls.drop (ls.length - k.toNat)) else [] := by unfold tailS; rw [split_iff.2 h]
theorem tailS_no {l : Bs} (h : split l = none) (k : Int) : tailS l k = [] := by unfold tailS; rw [h]
theorem put_n (a : Option Addr) (n c : Nat) (ls : List Bs) (w : World) (hn : n = ls.length) (hr : Rd w a 0 ls) (hs : room ls ≤ 1099511627776) (hl : ls.length ≤ 1099511627776) :
    Calls Try.prog 127 #[.slice a n c] w fun e w' => e = .returned (.string ⟨(put ls).toArray⟩) ∧ Below w.heap.size w w' := by
  subst hn; exact put_any a c ls w hr hs hl
theorem rd_drop {w : World} {g i : Nat} {ls : List Bs} (h : ∀ (j : Nat) (x : Bs), ls[j]? = some x → w.cell? ⟨g, j, none⟩ = some (strV x)) (hg : g < w.heap.size) : Rd w (some ⟨g, i, none⟩) 0 (ls.drop i) := by
  intro j x hx
  rw [List.getElem?_drop] at hx
  exact ⟨g, i, rfl, Nat.zero_le _, hg, h _ x hx⟩
theorem room_drop (ls : List Bs) (k : Nat) : room (ls.drop k) ≤ room ls := by
  have := room_append (ls.take k) (ls.drop k); rw [List.take_append_drop] at this; omega
theorem parentS_no {l : Bs} (h : split l = none) : parentS l = [] := by unfold parentS; rw [h]
theorem parentS_root {l : Bs} (h : IsN l []) : parentS l = [] := by unfold parentS; rw [split_iff.2 h]
theorem parentS_yes {l x : Bs} {r : List Bs} (h : IsN l (x :: r)) : parentS l = put r := by unfold parentS; rw [split_iff.2 h]
end Go.Proofs.Ythblaldkpjilhaa.refA

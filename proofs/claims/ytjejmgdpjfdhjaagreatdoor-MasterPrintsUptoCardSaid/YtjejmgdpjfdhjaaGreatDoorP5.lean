/- The reference's Put: walk. The reference's FoldName, EqualName, Count, Tail, Parent: walks. The reference's Within, Common: walks. name.Count, Tail, lower, Fold, Equal: walks. name.lower, Fold, Equal, Within, Common, Parent: walks. The reference's Graft: walk. name.Graft: walk; the law NameGrafts: its walk. name.Labels: walk. strings.Builder again, with what a write leaves as it was: for a builder that is written in a round of a range over a function. The reference's among, Escape: walks. -/
import Derived.Test.YtjejmgdpjfdhjaaGreatDoorP4
import Derived.Test.YtjejmgdpjfdhjaaGreatDoorP2
import Derived.Lib.SmallJoins
namespace Go.Proofs.YtjejmgdpjfdhjaaGreatDoor.rput
open Go.RowKit Go.Proofs.YtjejmgdpjfdhjaaGreatDoor.kit Go.Proofs.YtjejmgdpjfdhjaaGreatDoor.nspec Go.Proofs.YtjejmgdpjfdhjaaGreatDoor.rsplit

theorem byte_cell (w : World) (c : UInt8) : Bytes (w.alloc (.cells #[.int .u8 (c.toNat : Int)] 5)) w.heap.size [c] := by
  intro j d h
  have hj : j = 0 := by have := (List.getElem?_eq_some_iff.1 h).1; simpa using this
  subst hj
  have hd : d = c := by simpa using h.symm
  subst hd
  exact ⟨by simp [World.cell?_alloc_new], by simp⟩
theorem u8_mod (n : Nat) : ((UInt8.ofNat n).toNat : Int) = (n : Int) % 256 := by
  rw [UInt8.toNat_ofNat']; simp

/-- what stands ahead of the last byte -/
def flat (ls : List Bs) : Bs := ls.flatMap (fun x => UInt8.ofNat x.length :: x)
theorem flat_snoc (ls : List Bs) (x : Bs) : flat (ls ++ [x]) = flat ls ++ (UInt8.ofNat x.length :: x) := by simp [flat]
theorem flat_length (ls : List Bs) : (flat ls).length = room ls := by
  have := put_length ls; rw [put_flat] at this; simpa [flat] using this
theorem room_take (ls : List Bs) (k : Nat) : room (ls.take k) ≤ room ls := by
  have := room_append (ls.take k) (ls.drop k); rw [List.take_append_drop] at this; omega
theorem room_ge {ls : List Bs} {k : Nat} {x : Bs} (h : ls[k]? = some x) : room (ls.take k) + x.length + 1 ≤ room ls := by
  have h1 : ls.take (k + 1) = ls.take k ++ [x] := by
    obtain ⟨hk, rfl⟩ := List.getElem?_eq_some_iff.1 h
    rw [List.take_succ_eq_append_getElem hk]
  have := room_take ls (k + 1)
  rw [h1, room_append] at this
  simp [room] at this ⊢; omega

set_option maxRecDepth 100000 in
set_option maxHeartbeats 1000000 in
theorem put_any (a : Option Addr) (c : Nat) (ls : List Bs) (w : World) (hr : Rd w a 0 ls) (hs : room ls ≤ 1099511627776) (hn : ls.length ≤ 1099511627776) :
    Calls Tryz.prog 59 #[.slice a ls.length c] w fun e w' => e = .returned (strV (put ls)) ∧ Below w.heap.size w w' := by
  have HR := Lib.hid hr; clear hr
  go_enter Tryz.func59, Tryz.ntmps59
  go_wp2
  go_loopg [3, 8] (ls.length) (fun gas sv kv wr => ∃ (k : Nat) (u : ByteArray), kv = .int .i64 k ∧ k + gas = ls.length ∧ sv = .string u ∧ Below w.heap.size w wr ∧ Hid (u.data.toList = flat (ls.take k)))
  case atStart => exact ⟨0, ⟨#[]⟩, rfl, by omega, rfl, Below.refl _ _, Lib.hid (by simp [flat])⟩
  case round =>
    obtain ⟨k, u, rfl, hk, rfl, hB, HU⟩ := hrel
    have hk' : k ≤ ls.length := by omega
    have HK := Lib.hid hk; clear hk
    by_cases hlt : k < ls.length
    · obtain ⟨x, hx⟩ : ∃ x, ls[k]? = some x := ⟨_, List.getElem?_eq_getElem hlt⟩
      obtain ⟨g, o, rfl, _, hg, hcell⟩ := HR.out k x hx
      have hcell2 := (hB.cell (p := ⟨g, o + k, none⟩) hg).trans hcell
      have hrm := room_ge hx
      have HX := Lib.hid hx; clear hx hcell
      unfold strV at hcell2
      obtain ⟨xs, hxs⟩ : ∃ xs : ByteArray, xs = ⟨x.toArray⟩ := ⟨_, rfl⟩
      rw [← hxs] at hcell2
      have hxl : xs.size = x.length := by rw [hxs, mk_size]
      have HXS := Lib.hid hxs; clear hxs
      have hconv := bytes_back (P := Tryz.prog) (byte_cell wr (UInt8.ofNat xs.size)) 51 9 5 1 1 rfl Tryz.underlying51 Tryz.underlying5 Tryz.underlying9
      rw [u8_mod] at hconv
      have hul : u.size = room (ls.take k) := by rw [← size_len, HU.out, flat_length]
      have HXL := Lib.hid hxl; have HUL := Lib.hid hul
      have hb1 : xs.size ≤ 1099511627776 := by omega
      have hb2 : u.size ≤ 1099511627776 := by omega
      clear hxl hul hrm
      go_wp2
      have hk := HK.out
      go_roundg (gk - 1)
      case rel =>
        refine ⟨k + 1, _, by go_num, by omega, rfl, hB.alloc hB.size _, Lib.hid ?_⟩
        obtain ⟨h1, h2⟩ := List.getElem?_eq_some_iff.1 HX.out
        rw [List.take_succ_eq_append_getElem h1, h2, flat_snoc, Joins.data_append, Joins.data_append, HU.out, HXL.out, HXS.out]
        rfl
      case measure => omega
    · have HE : Hid (ls.take k = ls) := Lib.hid (List.take_of_length_le (by omega))
      have HUL : Hid (u.size = room (ls.take k)) := Lib.hid (by rw [← size_len, HU.out, flat_length])
      have hb2 : u.size ≤ 1099511627776 := by have := HUL.out; have := room_take ls k; omega
      go_wp2
      go_ret
      refine ⟨ret_str (ba_ext ?_), hB⟩
      rw [Joins.data_append, HU.out, HE.out, mk_data, put_flat]; rfl
end Go.Proofs.YtjejmgdpjfdhjaaGreatDoor.rput
namespace Go.Proofs.YtjejmgdpjfdhjaaGreatDoor.refA
open Go.RowKit Go.Proofs.YtjejmgdpjfdhjaaGreatDoor.kit Go.Proofs.YtjejmgdpjfdhjaaGreatDoor.nspec Go.Proofs.YtjejmgdpjfdhjaaGreatDoor.rsplit Go.Proofs.YtjejmgdpjfdhjaaGreatDoor.rput Go.Proofs.YtjejmgdpjfdhjaaGreatDoor.low

def foldS (l : Bs) : Bs := match split l with | some ls => put (ls.map lowL) | none => []
def countS (l : Bs) : Int := match split l with | some ls => (ls.length : Int) | none => -1
def tailS (l : Bs) (k : Int) : Bs := match split l with | some ls => if 0 ≤ k ∧ k ≤ (ls.length : Int) then put (ls.drop (ls.length - k.toNat)) else [] | none => []
def parentS (l : Bs) : Bs := match split l with | some (_ :: r) => put r | _ => []
def equalS (a b : Bs) : Bool := match split a, split b with | some x, some y => decide (x.map lowL = y.map lowL) | _, _ => false

theorem split_len {l : Bs} {ls : List Bs} (h : IsN l ls) : ls.length ≤ 254 := by
  have h1 := isN_room h
  have : ∀ ls : List Bs, ls.length ≤ room ls := by
    intro ls; induction ls with
    | nil => simp [room]
    | cons x r ih => simp [room] at ih ⊢; omega
  have := this ls; omega
theorem room_low (ls : List Bs) : room (ls.map lowL) = room ls := by
  simp [room, lowL, List.map_map, Function.comp_def]
theorem okL_low {ls : List Bs} (h : okL ls) : okL (ls.map lowL) := by
  intro x hx
  obtain ⟨y, hy, rfl⟩ := List.mem_map.1 hx
  simpa [lowL] using h y hy

theorem foldS_yes {l : Bs} {ls : List Bs} (h : IsN l ls) : foldS l = put (ls.map lowL) := by unfold foldS; rw [split_iff.2 h]
theorem foldS_no {l : Bs} (h : split l = none) : foldS l = [] := by unfold foldS; rw [h]
theorem equalS_eq (a b : Bs) : equalS a b = ((split a).isSome && (split b).isSome && decide (foldS a = foldS b)) := by
  unfold equalS foldS
  cases ha : split a with
  | none => rfl
  | some x =>
    cases hb : split b with
    | none => rfl
    | some y =>
      simp only [Option.isSome_some, Bool.true_and]
      have h1 := okL_low (split_iff.1 ha).2.1
      have h2 := okL_low (split_iff.1 hb).2.1
      by_cases h : x.map lowL = y.map lowL
      · rw [decide_eq_true h, decide_eq_true (congrArg put h)]
      · rw [decide_eq_false h, decide_eq_false (fun e => h (put_inj h1 h2 e))]
theorem beq_dec (a b : Bs) : ((⟨a.toArray⟩ : ByteArray).toList == (⟨b.toArray⟩ : ByteArray).toList) = decide (a = b) := by
  rw [Lib.toList_data, Lib.toList_data]
  by_cases h : a = b
  · subst h; simp
  · rw [decide_eq_false h]; simpa using h

theorem countS_yes {l : Bs} {ls : List Bs} (h : IsN l ls) : countS l = ls.length := by unfold countS; rw [split_iff.2 h]
theorem countS_no {l : Bs} (h : split l = none) : countS l = -1 := by unfold countS; rw [h]
theorem tailS_yes {l : Bs} {ls : List Bs} (h : IsN l ls) (k : Int) : tailS l k = if 0 ≤ k ∧ k ≤ (ls.length : Int) then put (ls.drop (ls.length - k.toNat)) else [] := by unfold tailS; rw [split_iff.2 h]
theorem tailS_no {l : Bs} (h : split l = none) (k : Int) : tailS l k = [] := by unfold tailS; rw [h]
theorem put_n (a : Option Addr) (n c : Nat) (ls : List Bs) (w : World) (hn : n = ls.length) (hr : Rd w a 0 ls) (hs : room ls ≤ 1099511627776) (hl : ls.length ≤ 1099511627776) :
    Calls Tryz.prog 59 #[.slice a n c] w fun e w' => e = .returned (.string ⟨(put ls).toArray⟩) ∧ Below w.heap.size w w' := by
  subst hn; exact put_any a c ls w hr hs hl
theorem rd_drop {w : World} {g i : Nat} {ls : List Bs} (h : ∀ (j : Nat) (x : Bs), ls[j]? = some x → w.cell? ⟨g, j, none⟩ = some (strV x)) (hg : g < w.heap.size) : Rd w (some ⟨g, i, none⟩) 0 (ls.drop i) := by
  intro j x hx
  rw [List.getElem?_drop] at hx
  exact ⟨g, i, rfl, Nat.zero_le _, hg, h _ x hx⟩
theorem room_drop (ls : List Bs) (k : Nat) : room (ls.drop k) ≤ room ls := by
  have := room_append (ls.take k) (ls.drop k); rw [List.take_append_drop] at this; omega
theorem parentS_no {l : Bs} (h : split l = none) : parentS l = [] := by unfold parentS; rw [h]
theorem parentS_root {l : Bs} (h : IsN l []) : parentS l = [] := by unfold parentS; rw [split_iff.2 h]
theorem parentS_yes {l x : Bs} {r : List Bs} (h : IsN l (x :: r)) : parentS l = put r := by unfold parentS; rw [split_iff.2 h]
end Go.Proofs.YtjejmgdpjfdhjaaGreatDoor.refA
namespace Go.Proofs.YtjejmgdpjfdhjaaGreatDoor.refB
open Go.RowKit Go.Proofs.YtjejmgdpjfdhjaaGreatDoor.kit Go.Proofs.YtjejmgdpjfdhjaaGreatDoor.nspec Go.Proofs.YtjejmgdpjfdhjaaGreatDoor.rsplit Go.Proofs.YtjejmgdpjfdhjaaGreatDoor.rput Go.Proofs.YtjejmgdpjfdhjaaGreatDoor.low Go.Proofs.YtjejmgdpjfdhjaaGreatDoor.refA

theorem tailS_len (l : Bs) (k : Int) : (tailS l k).length ≤ 255 := by
  unfold tailS
  cases h : split l with
  | none => simp
  | some ls =>
    simp only
    split
    · rw [put_length]; have := isN_room (split_iff.1 h); have := room_drop ls (ls.length - k.toNat); omega
    · simp
theorem countS_bd (l : Bs) : -1 ≤ countS l ∧ countS l ≤ 254 := by
  unfold countS
  cases h : split l with
  | none => simp
  | some ls => have := split_len (split_iff.1 h); simp only; omega

def wF (n z : Bs) : Nat → Nat → Bool
  | 0, _ => false
  | g + 1, k => if equalS (tailS n k) z then true else wF n z g (k + 1)
def withinS (n z : Bs) : Bool := wF n z (countS n + 1).toNat 0
theorem wF_yes {n z : Bs} {g k : Nat} {R : Bool} (h : wF n z g k = R) (hg : 0 < g) (he : equalS (tailS n k) z = true) : true = R := by
  obtain ⟨f, rfl⟩ : ∃ f, g = f + 1 := ⟨g - 1, by omega⟩
  rw [← h]; simp only [wF]; rw [if_pos he]
theorem wF_no {n z : Bs} {g k : Nat} {R : Bool} (h : wF n z g k = R) (hg : 0 < g) (he : equalS (tailS n k) z = false) : wF n z (g - 1) (k + 1) = R := by
  obtain ⟨f, rfl⟩ : ∃ f, g = f + 1 := ⟨g - 1, by omega⟩
  rw [← h]; simp only [wF]; rw [he]; simp

def cF (a b : Bs) : Nat → Bs
  | 0 => []
  | g + 1 => if withinS b (tailS a g) then tailS a g else cF a b g
def commonS (a b : Bs) : Bs := cF a b (countS a + 1).toNat
theorem cF_yes {a b : Bs} {g : Nat} {R : Bs} (h : cF a b (g + 1) = R) (he : withinS b (tailS a g) = true) : tailS a g = R := by
  rw [← h]; simp only [cF]; rw [if_pos he]
theorem cF_no {a b : Bs} {g : Nat} {R : Bs} (h : cF a b (g + 1) = R) (he : withinS b (tailS a g) = false) : cF a b g = R := by
  rw [← h]; simp only [cF]; rw [he]; simp

end Go.Proofs.YtjejmgdpjfdhjaaGreatDoor.refB
namespace Go.Proofs.YtjejmgdpjfdhjaaGreatDoor.nameA
open Go.RowKit Go.Shelf Go.Proofs.YtjejmgdpjfdhjaaGreatDoor.kit Go.Proofs.YtjejmgdpjfdhjaaGreatDoor.labels Go.Proofs.YtjejmgdpjfdhjaaGreatDoor.check Go.Proofs.YtjejmgdpjfdhjaaGreatDoor.nspec Go.Proofs.YtjejmgdpjfdhjaaGreatDoor.rsplit Go.Proofs.YtjejmgdpjfdhjaaGreatDoor.low Go.Proofs.YtjejmgdpjfdhjaaGreatDoor.refA Go.Proofs.YtjejmgdpjfdhjaaGreatDoor.refB
attribute [local go_sem] Oper.semAt_some

theorem pairsL_length : ∀ (k : Nat) (ls : List Bs), (pairsL k ls).length = ls.length + 1
  | _, [] => rfl
  | k, x :: r => by simp [pairsL, pairsL_length _ r]
theorem raw_length {N : Nat} (l : List (Lab N)) : (raw l).length = l.length := by simp [raw]

set_option maxRecDepth 100000 in
set_option maxHeartbeats 2000000 in
theorem ncount_yes (s : ByteArray) (ls : List Bs) (w : World) (h : IsN s.data.toList ls) :
    CallsIn Fence.wide 3 Tryz.prog 52 #[.string s] w fun e w' => e = .returned (.int .i64 (ls.length : Int)) ∧ Below w.heap.size w w' := by
  have hll := split_len h
  have hs : s.size ≤ 255 := by have := h.2.2; rwa [size_len] at this
  have HP := Lib.hid (pairs_isN h)
  have HK := Lib.hid (chk_yes h)
  clear h
  refine callsIn_of_wp_marks Tryz.func52 rfl trivial ?_ rfl
  simp only [Tryz.ntmps52, List.size_toArray, List.length_cons, List.length_nil, Nat.reduceAdd, Nat.reduceSub, Array.replicate_succ, Array.replicate_zero, List.push_toArray, List.append_toArray, List.nil_append, List.cons_append]
  gi_wp2_with fail
  refine ⟨trivial, ?_⟩
  refine (callsIn_wide.2 (check_any s _ (by omega))).mono ?_
  rintro e w1 ⟨rfl, hB1⟩
  rw [HK.out]
  gi_wp2_with fail
  refine ⟨trivial, ?_⟩
  refine (labels_in Fence.wide _ trivial rfl _ _).mono ?_
  rintro e w' ⟨rfl, rfl⟩
  gi_wp2
  obtain ⟨w2, hw2⟩ : ∃ w2, (w1.alloc (.cells #[.int .i64 (-1)] 3)).alloc (.cells #[.string s] 9) = w2 := ⟨_, rfl⟩
  rw [hw2]
  have hz : w2.heap.size = w1.heap.size + 2 := by rw [← hw2]; simp
  have hB : Below w.heap.size w w2 := by rw [← hw2]; exact (hB1.alloc hB1.size _).alloc (by have := hB1.size; simp; omega) _
  have h1 : Boxed w2 w1.heap.size 3 (.int .i64 (-1)) := by rw [← hw2]; exact (Boxed.new w1 _ _).alloc _
  have h3 : w2.cell? ⟨w1.heap.size + 1, 0, none⟩ = some (.string s) := by
    rw [← hw2]; have := (Boxed.new (w1.alloc (.cells #[.int .i64 (-1)] 3)) 9 (.string s)).cell; rw [World.size_alloc] at this; exact this
  have hz1 := hB1.size
  clear hw2
  refine wpIn_rangeFunc_ownG rfl (by omega) (gf := 63) (lb := #[.pointer (some ⟨w1.heap.size + 1, 0, none⟩)]) rfl trivial (enters_of Tryz.func63 (by kernel_rfl) rfl)
    (labels_stops Fence.wide _ trivial rfl (by omega) (w1.heap.size + 1) s (by omega) w2 (by omega) h3) (keepBox_t _) (fun W l o o' hl _ _ _ => keepBox_b W l o' (by omega)) (Below.refl _ _) (fun _ => rfl)
    (fun pre W => Boxed W w1.heap.size 3 (.int .i64 (-1 + (pre.length : Int))) ∧ Below w.heap.size w W)
    (fun _ _ _ => False)
    (((boxed_own _ _ (fun pre : List (Lab s.size) => .int .i64 (-1 + (pre.length : Int)))).from _).and (ownFrom_below (Nat.le_refl _) (by omega)))
    (fun c => ownFrom_pure _ _)
    ⟨h1, hB⟩
    (fun x => { tmps := #[.string s, undef, .int .i64 0, .pointer (some ⟨w1.heap.size, 0, none⟩), .string s, .int .i64 0, .bool false, .string s, .func (.func 63) #[] #[.pointer (some ⟨w1.heap.size + 1, 0, none⟩)], .int .i64 (x.val.1 : Int), .string x.val.2, undef, undef, undef], defers := [] }) ?assign ?body ?done ?stop
  case assign =>
    intro l x W K hK
    gi_wp2
    simpa using hK
  case body =>
    rintro l pre x W ⟨hb1, hBl⟩ hlen
    have hc1 := hb1.cell
    have hf1 := hb1.frozen
    gi_wp2
    refine ⟨(KeepsOthers.setCell _ _ _).from _, ?_, ?_, hBl.setCell (by simp; omega) _⟩
    · exact World.cell?_of_block (Below.heap_setCell _ _ _ _ (by simp))
    · have := hb1.set (.int .i64 (-1 + ((pre ++ [x]).length : Int)))
      have e : (-1 + ((pre ++ [x]).length : Int)) = -1 + (pre.length : Int) + 1 := by simp; omega
      rw [e] at this ⊢
      exact this
  case done =>
    rintro D ys W hD hS ⟨hb1, hBl⟩ hK
    have hlen : ys.length = ls.length + 1 := by rw [← raw_length, hS, HP.out, pairsL_length]
    clear hS
    have hc1 := hb1.cell
    have HL := Lib.hid hlen
    clear hlen
    gi_wp2
    refine ⟨by simp, .inl ⟨_, _, rfl, run_takeDeferred hK, ?_⟩⟩
    refine ⟨.int .i64 (-1 + (ys.length : Int)), by simp [results, Tryz.results52, go_sem], ret_int ?_, below_putObj hBl (by omega) _⟩
    rw [HL.out]; omega
  case stop =>
    rintro D c pre W hD hS h hK
    exact h.elim
theorem ncount_no (s : ByteArray) (w : World) (hs : s.size ≤ 1099511627776) (h : split s.data.toList = none) :
    Calls Tryz.prog 52 #[.string s] w fun e w' => e = .returned (.int .i64 (-1)) ∧ Below w.heap.size w w' := by
  have HK := Lib.hid (chk_no h)
  clear h
  go_enter Tryz.func52, Tryz.ntmps52
  go_wp2_with fail
  refine (check_any s _ hs).mono ?_
  rintro e w1 ⟨rfl, hB1⟩
  rw [HK.out]
  go_wp2
  go_ret
  exact ⟨rfl, hB1⟩
theorem ncount_any (s : ByteArray) (w : World) (hs : s.size ≤ 1099511627776) :
    Calls Tryz.prog 52 #[.string s] w fun e w' => e = .returned (.int .i64 (countS s.data.toList)) ∧ Below w.heap.size w w' := by
  rcases isB_or s with ⟨ls, h⟩ | h
  · rw [countS_yes h]; exact callsIn_wide.1 (ncount_yes s ls w h)
  · rw [countS_no h]; exact ncount_no s w hs h

theorem pairsL_at : ∀ (k j : Nat) (ls : List Bs) (p : Nat × ByteArray), (pairsL k ls)[j]? = some p → p.1 = k + room (ls.take j) ∧ j ≤ ls.length
  | k, 0, [], p, h => by simp [pairsL] at h; subst h; simp [room]
  | k, j + 1, [], p, h => by simp [pairsL] at h
  | k, 0, x :: r, p, h => by simp [pairsL] at h; subst h; simp [room]
  | k, j + 1, x :: r, p, h => by
    simp only [pairsL, List.getElem?_cons_succ] at h
    obtain ⟨h1, h2⟩ := pairsL_at _ j r p h
    simp only [List.take_succ_cons, List.length_cons]
    refine ⟨?_, by omega⟩
    rw [h1]; simp [room]; omega
theorem put_drop (ls : List Bs) (j : Nat) : (put ls).drop (room (ls.take j)) = put (ls.drop j) := by
  have h : put ls = (ls.take j).flatMap (fun x => UInt8.ofNat x.length :: x) ++ put (ls.drop j) := by
    rw [← put_append, List.take_append_drop]
  have hl : ((ls.take j).flatMap (fun x => UInt8.ofNat x.length :: x)).length = room (ls.take j) := by
    have := put_length (ls.take j); rw [put_flat] at this; simpa using this
  rw [h, ← hl, List.drop_left]
theorem pre_last {N : Nat} {s : ByteArray} {pre : List (Lab N)} {x : Lab N} (h : raw (pre ++ [x]) <+: pairs s) : (pairs s)[pre.length]? = some x.val := by
  obtain ⟨t, ht⟩ := h
  rw [← ht, raw_snoc, ← raw_length pre, List.append_assoc, List.getElem?_append_right (Nat.le_refl _)]
  simp
theorem tail_at {s : ByteArray} {ls : List Bs} {pre : List (Lab s.size)} {x : Lab s.size} {k : Int} (h : IsN s.data.toList ls) (hp : raw (pre ++ [x]) <+: pairs s) (hk : (ls.length : Int) - (pre.length : Int) = k) (hk0 : 0 ≤ k) :
    s.extract x.val.1 s.size = ⟨(tailS s.data.toList k).toArray⟩ := by
  have h1 := pre_last hp
  rw [pairs_isN h] at h1
  obtain ⟨h2, h3⟩ := pairsL_at 0 pre.length ls x.val h1
  refine ba_ext ?_
  rw [tailS_yes h, if_pos ⟨hk0, by omega⟩]
  rw [Lib.extract_data, List.take_of_length_le (by simp), h2, Nat.zero_add, show ls.length - k.toNat = pre.length from by omega]
  rw [h.1, put_drop]

set_option maxRecDepth 100000 in
set_option maxHeartbeats 2000000 in
theorem ntail_yes (s : ByteArray) (k : Int) (ls : List Bs) (w : World) (h : IsN s.data.toList ls) (hk0 : 0 ≤ k) (hk1 : k ≤ (ls.length : Int)) :
    CallsIn Fence.wide 3 Tryz.prog 53 #[.string s, .int .i64 k] w fun e w' => e = .returned (.string ⟨(tailS s.data.toList k).toArray⟩) ∧ Below w.heap.size w w' := by
  have hll := split_len h
  have hs : s.size ≤ 255 := by have := h.2.2; rwa [size_len] at this
  have HP := Lib.hid (pairs_isN h)
  have HN := Lib.hid h
  clear h
  refine callsIn_of_wp_marks Tryz.func53 rfl trivial ?_ rfl
  simp only [Tryz.ntmps53, List.size_toArray, List.length_cons, List.length_nil, Nat.reduceAdd, Nat.reduceSub, Array.replicate_succ, Array.replicate_zero, List.push_toArray, List.append_toArray, List.nil_append, List.cons_append]
  gi_wp2_with fail
  obtain ⟨w0, hw0⟩ : ∃ w0, ((w.alloc (.cells #[.string s] 9)).alloc (.cells #[.int .i64 k] 3)).alloc (.cells #[.string ByteArray.empty] 9) = w0 := ⟨_, rfl⟩
  have hE : (ByteArray.empty : ByteArray) = ⟨#[]⟩ := rfl
  rw [hE] at hw0
  rw [hw0]
  have hz0 : w0.heap.size = w.heap.size + 3 := by rw [← hw0]; simp
  have hB0 : Below w.heap.size w w0 := by rw [← hw0]; exact (((Below.refl _ w).alloc (Nat.le_refl _) _).alloc (by simp) _).alloc (by simp; omega) _
  have g1 : Boxed w0 w.heap.size 9 (.string s) := by rw [← hw0]; exact ((Boxed.new w _ _).alloc _).alloc _
  have g2 : Boxed w0 (w.heap.size + 1) 3 (.int .i64 k) := by
    rw [← hw0]; have := (Boxed.new (w.alloc (.cells #[.string s] 9)) 3 (.int .i64 k)).alloc (.cells #[.string ⟨#[]⟩] 9); rw [World.size_alloc] at this; exact this
  have g3 : Boxed w0 (w.heap.size + 2) 9 (.string ⟨#[]⟩) := by
    rw [← hw0]; have := (Boxed.new ((w.alloc (.cells #[.string s] 9)).alloc (.cells #[.int .i64 k] 3)) 9 (.string ⟨#[]⟩)); rw [World.size_alloc, World.size_alloc] at this; exact this
  clear hw0 hE
  refine ⟨trivial, ?_⟩
  refine (callsIn_wide.2 (callsIn_wide.1 (ncount_yes s ls _ HN.out))).mono ?_
  rintro e w1 ⟨rfl, hB1⟩
  have hBw := hB0.trans (hB1.mono hB0.size)
  have hz1 := hB1.size
  have kb : ∀ {B : Nat} {t : TypeId} {v : Value}, B < w0.heap.size → Boxed w0 B t v → Boxed w1 B t v := fun hb hv => (hB1.block _ hb).trans hv
  have f1 := kb (by omega) g1
  have f2 := kb (by omega) g2
  have f3 := kb (by omega) g3
  clear kb g1 g2 g3
  have c1 := f1.cell
  have c2 := f2.cell
  have hlt1 := f1.lt
  have hlt2 := f2.lt
  have hlt3 : w.heap.size + 1 + 1 < w1.heap.size := f3.lt
  have hk0b : decide (k < 0) = false := by simp; omega
  have hk1b : decide ((ls.length : Int) < k) = false := by simp; omega
  gi_wp2_with fail
  refine ⟨trivial, ?_⟩
  refine (labels_in Fence.wide _ trivial rfl _ _).mono ?_
  rintro e w' ⟨rfl, rfl⟩
  gi_wp2
  obtain ⟨w2, hw2⟩ : ∃ w2, (w1.alloc (.cells #[.int .i64 (ls.length : Int)] 3)).alloc (.cells #[.string s] 9) = w2 := ⟨_, rfl⟩
  rw [hw2]
  have hz : w2.heap.size = w1.heap.size + 2 := by rw [← hw2]; simp
  have hB : Below w.heap.size w w2 := by rw [← hw2]; exact (hBw.alloc hBw.size _).alloc (by have := hBw.size; simp; omega) _
  have h1 : Boxed w2 w1.heap.size 3 (.int .i64 (ls.length : Int)) := by rw [← hw2]; exact (Boxed.new w1 _ _).alloc _
  have h3 : w2.cell? ⟨w1.heap.size + 1, 0, none⟩ = some (.string s) := by
    rw [← hw2]; have := (Boxed.new (w1.alloc (.cells #[.int .i64 (ls.length : Int)] 3)) 9 (.string s)).cell; rw [World.size_alloc] at this; exact this
  have e1 : Boxed w2 w.heap.size 9 (.string s) := by rw [← hw2]; exact (f1.alloc _).alloc _
  have e2 : Boxed w2 (w.heap.size + 1) 3 (.int .i64 k) := by rw [← hw2]; exact (f2.alloc _).alloc _
  have e3 : Boxed w2 (w.heap.size + 1 + 1) 9 (.string ⟨#[]⟩) := by rw [← hw2]; exact (f3.alloc _).alloc _
  clear hw2 c1 c2 f1 f2 f3
  refine wpIn_rangeFunc_ownG rfl (by omega) (gf := 63) (lb := #[.pointer (some ⟨w1.heap.size + 1, 0, none⟩)]) rfl trivial (enters_of Tryz.func63 (by kernel_rfl) rfl)
    (labels_stops Fence.wide _ trivial rfl (by omega) (w1.heap.size + 1) s (by omega) w2 (by omega) h3) (keepBox_t _) (fun W l o o' hl _ _ _ => keepBox_b W l o' (by omega)) (Below.refl _ _) (fun _ => rfl)
    (fun pre W => Boxed W w1.heap.size 3 (.int .i64 ((ls.length : Int) - (pre.length : Int))) ∧ Boxed W w.heap.size 9 (.string s) ∧ Boxed W (w.heap.size + 1) 3 (.int .i64 k) ∧ Boxed W (w.heap.size + 1 + 1) 9 (.string ⟨#[]⟩) ∧ Below w.heap.size w W ∧ k + (pre.length : Int) ≤ (ls.length : Int))
    (fun c pre W => (c = .ret ∧ ∃ p x, pre = p ++ [x] ∧ (ls.length : Int) - (p.length : Int) = k ∧ Boxed W (w.heap.size + 1 + 1) 9 (.string (s.extract x.val.1 s.size))) ∧ Below w.heap.size w W)
    (((boxed_own _ _ (fun pre : List (Lab s.size) => .int .i64 ((ls.length : Int) - (pre.length : Int)))).from _).and (((boxed_own _ _ (fun _ => .string s)).from _).and (((boxed_own _ _ (fun _ => .int .i64 k)).from _).and (((boxed_own _ _ (fun _ => .string ⟨#[]⟩)).from _).and ((ownFrom_below (Nat.le_refl _) (by omega)).and (ownFrom_pure _ _))))))
    (fun c => OwnFrom.and (fun pre X Y row hs hg hr => by
      obtain ⟨h0, p, x, h1, h2, h3⟩ := hs
      exact ⟨h0, p, x, h1, h2, ((boxed_own (w.heap.size + 1 + 1) 9 (fun _ : Unit => .string (s.extract x.val.1 s.size))).from w2.heap.size) () X Y row h3 hg hr⟩) (ownFrom_below (Nat.le_refl _) (by omega)))
    ⟨by simpa using h1, e1, e2, e3, hB, by simpa using hk1⟩
    (fun x => { tmps := #[.string s, .int .i64 k, .pointer (some ⟨w.heap.size, 0, none⟩), .pointer (some ⟨w.heap.size + 1, 0, none⟩), .pointer (some ⟨w.heap.size + 1 + 1, 0, none⟩), .pointer (some ⟨w1.heap.size, 0, none⟩), .int .i64 (x.val.1 : Int), .string s, .int .i64 (ls.length : Int), .int .i64 k, .bool false, .bool false, .int .i64 (ls.length : Int), .int .i64 k, .bool false, .bool false, .string s, .func (.func 63) #[] #[.pointer (some ⟨w1.heap.size + 1, 0, none⟩)], .int .i64 (x.val.1 : Int), .string x.val.2, undef, undef, undef, undef, undef, undef, undef, undef], defers := [] }) ?assign ?body ?done ?stop
  case assign =>
    intro l x W K hK
    gi_wp2
    simpa using hK
  case body =>
    rintro l pre x W ⟨hb1, hb2, hb3, hb4, hBl, hpk⟩ hlen
    have hc1 := hb1.cell
    have hf1 := hb1.frozen
    have hc2 := hb2.cell
    have hc3 := hb3.cell
    have hc4 := hb4.cell
    have hf4 := hb4.frozen
    have hxs := x.property.1
    by_cases he : (ls.length : Int) - (pre.length : Int) = k
    · have he' : ((ls.length : Int) - (pre.length : Int) == k) = true := by simp [he]
      have HEQ := Lib.hid he; clear he
      gi_wp2
      exact ⟨(KeepsOthers.setCell _ _ _).from _, ⟨rfl, pre, x, rfl, HEQ.out, hb4.set _⟩, hBl.setCell (by simp; omega) _⟩
    · have he' : ((ls.length : Int) - (pre.length : Int) == k) = false := by simpa using he
      have hlt : k < (ls.length : Int) - (pre.length : Int) := by omega
      clear he
      gi_wp2
      have hne1 : w.heap.size ≠ w1.heap.size := by omega
      have hne2 : w.heap.size + 1 ≠ w1.heap.size := by omega
      have hne3 : w.heap.size + 1 + 1 ≠ w1.heap.size := by omega
      refine ⟨(KeepsOthers.setCell _ _ _).from _, World.cell?_of_block (Below.heap_setCell _ _ _ _ (by simp)), ?_, hb2.other hne1 _, hb3.other hne2 _, hb4.other hne3 _, hBl.setCell (by simp; omega) _, by simp; omega⟩
      have := hb1.set (.int .i64 ((ls.length : Int) - ((pre ++ [x]).length : Int)))
      have e : ((ls.length : Int) - ((pre ++ [x]).length : Int)) = (ls.length : Int) - (pre.length : Int) - 1 := by simp; omega
      rw [e] at this ⊢
      exact this
  case done =>
    rintro D ys W hD hS ⟨hb1, hb2, hb3, hb4, hBl, hpk⟩ hK
    have hlen : ys.length = ls.length + 1 := by rw [← raw_length, hS, HP.out, pairsL_length]
    exact absurd hpk (by omega)
  case stop =>
    rintro D c pre W hD hS ⟨⟨rfl, p, x, rfl, hpk, hb4⟩, hBl⟩ hK
    have HT := Lib.hid (tail_at HN.out hS hpk hk0)
    clear hpk
    gi_wp2
    refine ⟨by simp, .inl ⟨_, _, rfl, run_takeDeferred hK, ?_⟩⟩
    have hcf := (boxed_putObj hb4 (show w.heap.size + 1 + 1 ≠ D by omega) (.deferred none)).cell
    exact ⟨.string (s.extract x.val.1 s.size), by simp [results, Tryz.results53, go_sem, hcf], ret_str HT.out, below_putObj hBl (by omega) _⟩
theorem ntail_no (s : ByteArray) (k : Int) (w : World) (hs : s.size ≤ 1099511627776) (h : k < 0 ∨ countS s.data.toList < k) :
    Calls Tryz.prog 53 #[.string s, .int .i64 k] w fun e w' => e = .returned (.string ⟨[].toArray⟩) ∧ Below w.heap.size w w' := by
  obtain ⟨C, hC⟩ : ∃ C, countS s.data.toList = C := ⟨_, rfl⟩
  rw [hC] at h
  have HC := Lib.hid hC; clear hC
  go_enter Tryz.func53, Tryz.ntmps53
  go_wp2_with fail
  obtain ⟨w0, hw0⟩ : ∃ w0, ((w.alloc (.cells #[.string s] 9)).alloc (.cells #[.int .i64 k] 3)).alloc (.cells #[.string ByteArray.empty] 9) = w0 := ⟨_, rfl⟩
  have hE : (ByteArray.empty : ByteArray) = ⟨#[]⟩ := rfl
  rw [hE] at hw0
  rw [hw0]
  have hz0 : w0.heap.size = w.heap.size + 3 := by rw [← hw0]; simp
  have hB0 : Below w.heap.size w w0 := by rw [← hw0]; exact (((Below.refl _ w).alloc (Nat.le_refl _) _).alloc (by simp) _).alloc (by simp; omega) _
  have g2 : Boxed w0 (w.heap.size + 1) 3 (.int .i64 k) := by
    rw [← hw0]; have := (Boxed.new (w.alloc (.cells #[.string s] 9)) 3 (.int .i64 k)).alloc (.cells #[.string ⟨#[]⟩] 9); rw [World.size_alloc] at this; exact this
  have g3 : Boxed w0 (w.heap.size + 2) 9 (.string ⟨#[]⟩) := by
    rw [← hw0]; have := (Boxed.new ((w.alloc (.cells #[.string s] 9)).alloc (.cells #[.int .i64 k] 3)) 9 (.string ⟨#[]⟩)); rw [World.size_alloc, World.size_alloc] at this; exact this
  clear hw0 hE
  refine (ncount_any s _ hs).mono ?_
  rintro e w1 ⟨rfl, hB1⟩
  rw [HC.out]
  have hBw := hB0.trans (hB1.mono hB0.size)
  have hz1 := hB1.size
  have f2 : Boxed w1 (w.heap.size + 1) 3 (.int .i64 k) := (hB1.block _ (by omega)).trans g2
  have f3 : Boxed w1 (w.heap.size + 1 + 1) 9 (.string ⟨#[]⟩) := (hB1.block _ (by omega)).trans g3
  clear g2 g3
  have c2 := f2.cell
  have c3 := f3.cell
  have z3 := f3.frozen
  have hlt2 := f2.lt
  have hlt3 := f3.lt
  have e3 := (f3.set (.string ⟨#[]⟩)).alloc (.cells #[.int .i64 C] 3)
  have hBs : Below w.heap.size w (w1.setCell ⟨w.heap.size + 1 + 1, 0, none⟩ (.string ⟨#[]⟩)) := hBw.setCell (by simp; omega) _
  have hcf := e3.cell
  have HF := Lib.hid hcf; clear hcf e3 f2 f3
  by_cases hk : k < 0
  · go_wp2
    have hcf := HF.out
    exact bodyPost_ret (v := .string ⟨#[]⟩) (by simp [results, Tryz.results53, go_sem, hcf]) rfl ⟨rfl, hBs.alloc hBs.size _⟩
  · have hk' : 0 ≤ k := by omega
    have hC : C < k := by omega
    clear h hk
    go_wp2
    have hcf := HF.out
    exact bodyPost_ret (v := .string ⟨#[]⟩) (by simp [results, Tryz.results53, go_sem, hcf]) rfl ⟨rfl, hBs.alloc hBs.size _⟩
theorem ntail_any (s : ByteArray) (k : Int) (w : World) (hs : s.size ≤ 1099511627776) :
    Calls Tryz.prog 53 #[.string s, .int .i64 k] w fun e w' => e = .returned (.string ⟨(tailS s.data.toList k).toArray⟩) ∧ Below w.heap.size w w' := by
  by_cases hk : 0 ≤ k ∧ k ≤ countS s.data.toList
  · rcases isB_or s with ⟨ls, h⟩ | h
    · rw [countS_yes h] at hk
      exact callsIn_wide.1 (ntail_yes s k ls w h hk.1 hk.2)
    · rw [countS_no h] at hk; omega
  · have : tailS s.data.toList k = [] := by
      rcases isB_or s with ⟨ls, h⟩ | h
      · rw [countS_yes h] at hk; rw [tailS_yes h, if_neg hk]
      · rw [tailS_no h]
    rw [this]
    exact ntail_no s k w hs (by omega)
end Go.Proofs.YtjejmgdpjfdhjaaGreatDoor.nameA
namespace Go.Proofs.YtjejmgdpjfdhjaaGreatDoor.nameB
open Go.RowKit Go.Proofs.YtjejmgdpjfdhjaaGreatDoor.kit Go.Proofs.YtjejmgdpjfdhjaaGreatDoor.check Go.Proofs.YtjejmgdpjfdhjaaGreatDoor.nspec Go.Proofs.YtjejmgdpjfdhjaaGreatDoor.rsplit Go.Proofs.YtjejmgdpjfdhjaaGreatDoor.low Go.Proofs.YtjejmgdpjfdhjaaGreatDoor.refA Go.Proofs.YtjejmgdpjfdhjaaGreatDoor.refB Go.Proofs.YtjejmgdpjfdhjaaGreatDoor.nameA

theorem low_of_small (c : UInt8) (h : c.toNat ≤ 63) : lowB c = c := lowB_id c (by omega)
theorem low_put {ls : List Bs} (h : okL ls) : lowL (put ls) = put (ls.map lowL) := by
  induction ls with
  | nil => rfl
  | cons x r ih =>
    obtain ⟨⟨h1, h2⟩, h3⟩ := okL_cons.1 h
    have hn : (UInt8.ofNat x.length).toNat = x.length := nat_of (by omega)
    have := ih h3
    simp only [lowL, put, List.map_cons, List.map_append, List.length_map] at this ⊢
    rw [low_of_small _ (by omega), this]
theorem fold_low {l : Bs} {ls : List Bs} (h : IsN l ls) : foldS l = lowL l := by rw [foldS_yes h, h.1, low_put h.2.1]
theorem equal_low {a b : Bs} {x y : List Bs} (ha : IsN a x) (hb : IsN b y) : equalS a b = decide (lowL a = lowL b) := by
  rw [equalS_eq, split_iff.2 ha, split_iff.2 hb, fold_low ha, fold_low hb]; rfl
theorem equal_no1 {a b : Bs} (h : split a = none) : equalS a b = false := by rw [equalS_eq, h]; rfl
theorem equal_no2 {a b : Bs} (h : split b = none) : equalS a b = false := by rw [equalS_eq, h]; simp

def withinP (n z : Bs) : Bool := decide (0 ≤ countS z) && equalS (tailS n (countS z)) z
def comF (a b : Bs) : Nat → Bs
  | 0 => []
  | g + 1 => if equalS (tailS a g) (tailS b g) then tailS a g else comF a b g
def commonP (a b : Bs) : Bs := comF a b (min (countS a) (countS b) + 1).toNat
theorem comF_yes {a b : Bs} {g : Nat} {R : Bs} (h : comF a b (g + 1) = R) (he : equalS (tailS a g) (tailS b g) = true) : tailS a g = R := by
  rw [← h]; simp only [comF]; rw [if_pos he]
theorem comF_no {a b : Bs} {g : Nat} {R : Bs} (h : comF a b (g + 1) = R) (he : equalS (tailS a g) (tailS b g) = false) : comF a b g = R := by
  rw [← h]; simp only [comF]; rw [he]; simp
theorem tailS_neg (l : Bs) (k : Int) (h : k < 0) : tailS l k = [] := by
  unfold tailS
  cases split l with
  | none => rfl
  | some ls => simp only; rw [if_neg (by omega)]

end Go.Proofs.YtjejmgdpjfdhjaaGreatDoor.nameB
namespace Go.Proofs.YtjejmgdpjfdhjaaGreatDoor.refC
open Go.RowKit Go.Proofs.YtjejmgdpjfdhjaaGreatDoor.kit Go.Proofs.YtjejmgdpjfdhjaaGreatDoor.nspec Go.Proofs.YtjejmgdpjfdhjaaGreatDoor.rsplit Go.Proofs.YtjejmgdpjfdhjaaGreatDoor.rput Go.Proofs.YtjejmgdpjfdhjaaGreatDoor.low Go.Proofs.YtjejmgdpjfdhjaaGreatDoor.refA Go.Proofs.YtjejmgdpjfdhjaaGreatDoor.refB Go.Proofs.YtjejmgdpjfdhjaaGreatDoor.nameB

/-- the row of cells that Split has made can be the source of an append -/
theorem SV.src {w : World} {g : Nat} {ls : List Bs} (m : Nat) (hc : ∀ (j : Nat) (x : Bs), ls[j]? = some x → w.cell? ⟨g, j, none⟩ = some (strV x)) :
    ∀ (j : Nat) (u : Value), ((ls.take m).map strV)[j]? = some u → w.cell? ((⟨g, 0, none⟩ : Addr).add j) = some u := by
  intro j u hu
  rw [List.getElem?_map] at hu
  cases hx : (ls.take m)[j]? with
  | none => rw [hx] at hu; simp at hu
  | some x =>
    rw [hx] at hu
    have hx' : ls[j]? = some x := by
      rw [List.getElem?_take] at hx; split at hx
      · exact hx
      · simp at hx
    have : u = strV x := by simpa using hu.symm
    subst this
    rw [addr_add]; exact hc j x hx'
theorem one_str (ls : List Bs) : ∀ u ∈ ls.map strV, u.oneCell' = true := by
  intro u hu; obtain ⟨x, _, rfl⟩ := List.mem_map.1 hu; rfl

def graftS (n f t : Bs) : Bs × Int :=
  match split n, split f, split t with
  | some l, some x, some y => if withinS n f then (if 255 < (put (l.take (l.length - x.length) ++ y)).length then ([], 4) else (put (l.take (l.length - x.length) ++ y), 0)) else ([], 5)
  | _, _, _ => ([], 1)
theorem ret_se {a : Bs} {b : Int} {p : Bs × Int} (h : (a, b) = p) : Ending.returned (.tuple #[.string ⟨a.toArray⟩, .int .i64 b]) = .returned (.tuple #[.string ⟨p.1.toArray⟩, .int .i64 p.2]) := by subst h; rfl

/-- append onto a nil list, then onto that, and Put: the part of Graft behind its tests -/
theorem within_len {n f : Bs} {l x : List Bs} (hn : IsN n l) (hf : IsN f x) (h : withinS n f = true) : x.length ≤ l.length ∧ (l.drop (l.length - x.length)).map lowL = x.map lowL := by
  have key : ∀ (g k : Nat), wF n f g k = true → ∃ j : Nat, equalS (tailS n (j : Int)) f = true := by
    intro g
    induction g with
    | zero => intro k h; simp [wF] at h
    | succ g ih =>
      intro k h
      simp only [wF] at h
      by_cases he : equalS (tailS n (k : Int)) f = true
      · exact ⟨k, he⟩
      · rw [if_neg he] at h; exact ih _ h
  obtain ⟨j, hj⟩ := key _ _ h
  rw [tailS_yes hn] at hj
  by_cases hjl : (0 : Int) ≤ (j : Int) ∧ (j : Int) ≤ (l.length : Int)
  · rw [if_pos hjl, Int.toNat_natCast] at hj
    have hd := isN_put (okL_drop (l.length - j) hn.2.1) (by have := room_drop l (l.length - j); have := isN_room hn; omega)
    have := hj
    unfold equalS at this
    rw [split_iff.2 hd, split_iff.2 hf] at this
    simp only [decide_eq_true_eq] at this
    have hlen := congrArg List.length this
    simp only [List.length_map, List.length_drop] at hlen
    have hjx : j = x.length := by omega
    subst hjx
    exact ⟨by omega, this⟩
  · rw [if_neg hjl] at hj
    have : split [] = none := rfl
    rw [equal_no1 this] at hj; simp at hj

theorem split_gen (s : ByteArray) (w : World) (hs : s.size ≤ 1099511627776) :
    Calls Tryz.prog 56 #[.string s] w fun e w' => ∃ a n c, e = .returned (.tuple #[.slice a n c, .bool (isB s)]) ∧ Below w.heap.size w w' := by
  rcases isB_or s with ⟨ls, h⟩ | h
  · rw [isB_yes h]
    refine (split_yes s ls w h).mono ?_
    rintro e w' ⟨v, rfl, hsv, hB⟩
    obtain ⟨a, c, rfl, _⟩ := hsv.rd
    exact ⟨a, _, c, rfl, hB⟩
  · rw [isB_no h]
    exact split_no s w hs h
theorem graftS_bad {n f t : Bs} (h : ((split n).isSome && (split f).isSome && (split t).isSome) = false) : graftS n f t = ([], 1) := by
  unfold graftS
  cases hn : split n with
  | none => rfl
  | some l => cases hf : split f with
    | none => rfl
    | some x => cases ht : split t with
      | none => rfl
      | some y => rw [hn, hf, ht] at h; simp at h
end Go.Proofs.YtjejmgdpjfdhjaaGreatDoor.refC
namespace Go.Proofs.YtjejmgdpjfdhjaaGreatDoor.nameC
open Go.RowKit Go.Proofs.YtjejmgdpjfdhjaaGreatDoor.kit Go.Proofs.YtjejmgdpjfdhjaaGreatDoor.check Go.Proofs.YtjejmgdpjfdhjaaGreatDoor.nspec Go.Proofs.YtjejmgdpjfdhjaaGreatDoor.rsplit Go.Proofs.YtjejmgdpjfdhjaaGreatDoor.rput Go.Proofs.YtjejmgdpjfdhjaaGreatDoor.low Go.Proofs.YtjejmgdpjfdhjaaGreatDoor.refA Go.Proofs.YtjejmgdpjfdhjaaGreatDoor.refB Go.Proofs.YtjejmgdpjfdhjaaGreatDoor.nameA Go.Proofs.YtjejmgdpjfdhjaaGreatDoor.nameB Go.Proofs.YtjejmgdpjfdhjaaGreatDoor.refC

theorem wF_iff {n z : Bs} : ∀ (g k : Nat), wF n z g k = true ↔ ∃ j, k ≤ j ∧ j < k + g ∧ equalS (tailS n (j : Int)) z = true
  | 0, k => by simp [wF]; intro j h1 h2; omega
  | g + 1, k => by
    simp only [wF]
    by_cases he : equalS (tailS n (k : Int)) z = true
    · rw [if_pos he]; simp only [true_iff]; exact ⟨k, Nat.le_refl _, by omega, he⟩
    · rw [if_neg he, wF_iff g (k + 1)]
      constructor
      · rintro ⟨j, h1, h2, h3⟩; exact ⟨j, by omega, by omega, h3⟩
      · rintro ⟨j, h1, h2, h3⟩
        rcases Nat.lt_or_eq_of_le h1 with h | h
        · exact ⟨j, by omega, by omega, h3⟩
        · subst h; exact absurd h3 he
theorem split_nil : split [] = none := rfl
theorem tail_isN {n : Bs} {l : List Bs} (h : IsN n l) (j : Nat) (hj : j ≤ l.length) : IsN (tailS n (j : Int)) (l.drop (l.length - j)) := by
  rw [tailS_yes h, if_pos ⟨by omega, by omega⟩, Int.toNat_natCast]
  exact isN_put (okL_drop _ h.2.1) (by have := room_drop l (l.length - j); have := isN_room h; omega)
theorem equal_len {a b : Bs} {x y : List Bs} (ha : IsN a x) (hb : IsN b y) (h : equalS a b = true) : x.length = y.length := by
  unfold equalS at h
  rw [split_iff.2 ha, split_iff.2 hb] at h
  simp only [decide_eq_true_eq] at h
  simpa using congrArg List.length h
theorem within_same (n z : Bs) : withinP n z = withinS n z := by
  unfold withinP withinS
  cases hz : split z with
  | none =>
    rw [countS_no hz]
    have : wF n z (countS n + 1).toNat 0 = false := by
      cases h : wF n z (countS n + 1).toNat 0 with
      | false => rfl
      | true =>
        obtain ⟨j, _, _, h3⟩ := (wF_iff _ _).1 h
        rw [equal_no2 hz] at h3; simp at h3
    rw [this]; rfl
  | some zs =>
    have hzs := split_iff.1 hz
    rw [countS_yes hzs]
    rw [decide_eq_true (by omega), Bool.true_and]
    cases hn : split n with
    | none =>
      rw [tailS_no hn, equal_no1 split_nil, countS_no hn]; rfl
    | some l =>
      have hl := split_iff.1 hn
      rw [countS_yes hl]
      rw [Bool.eq_iff_iff, wF_iff]
      constructor
      · intro h
        refine ⟨zs.length, Nat.zero_le _, ?_, h⟩
        by_cases hle : zs.length ≤ l.length
        · omega
        · rw [tailS_yes hl, if_neg (by omega), equal_no1 split_nil] at h; simp at h
      · rintro ⟨j, _, h2, h3⟩
        have hj : j ≤ l.length := by omega
        have := equal_len (tail_isN hl j hj) hzs h3
        rw [List.length_drop] at this
        have e : j = zs.length := by omega
        rw [← e]; exact h3

theorem room_same : ∀ (a b : List Bs), a.map lowL = b.map lowL → room a = room b := by
  intro a b h
  rw [← room_low a, ← room_low b, h]
theorem graft_plain {n f t : Bs} {l x y : List Bs} (hn : IsN n l) (hf : IsN f x) (ht : IsN t y) (hw : withinS n f = true) :
    f.length ≤ n.length ∧ n.take (n.length - f.length) ++ t = put (l.take (l.length - x.length) ++ y) := by
  obtain ⟨h1, h2⟩ := within_len hn hf hw
  have hr := room_same _ _ h2
  have hra : room l = room (l.take (l.length - x.length)) + room (l.drop (l.length - x.length)) := by rw [← room_append, List.take_append_drop]
  have hnl : n.length = room l + 1 := by rw [hn.1, put_length]
  have hfl : f.length = room x + 1 := by rw [hf.1, put_length]
  refine ⟨by omega, ?_⟩
  have hd : n.length - f.length = room (l.take (l.length - x.length)) := by omega
  rw [hd, put_append]
  congr 1
  · rw [hn.1]
    have h : put l = (l.take (l.length - x.length)).flatMap (fun x => UInt8.ofNat x.length :: x) ++ put (l.drop (l.length - x.length)) := by
      rw [← put_append, List.take_append_drop]
    rw [h, ← flat_length]
    exact List.take_left
  · exact ht.1

end Go.Proofs.YtjejmgdpjfdhjaaGreatDoor.nameC
namespace Go.Proofs.YtjejmgdpjfdhjaaGreatDoor.nameL
open Go.RowKit Go.Shelf Go.Proofs.YtjejmgdpjfdhjaaGreatDoor.kit Go.Proofs.YtjejmgdpjfdhjaaGreatDoor.labels Go.Proofs.YtjejmgdpjfdhjaaGreatDoor.check Go.Proofs.YtjejmgdpjfdhjaaGreatDoor.nspec Go.Proofs.YtjejmgdpjfdhjaaGreatDoor.rsplit Go.Proofs.YtjejmgdpjfdhjaaGreatDoor.low Go.Proofs.YtjejmgdpjfdhjaaGreatDoor.refA Go.Proofs.YtjejmgdpjfdhjaaGreatDoor.nameA
attribute [local go_sem] Oper.semAt_some

/-- the labels among the pairs -/
def labsOf (l : List (Nat × ByteArray)) : List Bs := (l.map (fun p => p.2.data.toList)).filter (fun x => !x.isEmpty)
theorem labsOf_pairs : ∀ (k : Nat) (ls : List Bs), okL ls → labsOf (pairsL k ls) = ls
  | k, [], _ => by simp [pairsL, labsOf]
  | k, x :: r, h => by
    obtain ⟨⟨h1, _⟩, h3⟩ := okL_cons.1 h
    have := labsOf_pairs (k + 1 + x.length) r h3
    have hx : x.isEmpty = false := by
      cases x with
      | nil => simp at h1
      | cons a b => rfl
    simp only [labsOf, pairsL, List.map_cons, List.filter_cons, hx] at this ⊢
    rw [this]; rfl
theorem labsOf_yes {N : Nat} {pre : List (Lab N)} {x : Lab N} (h : x.val.2.toList.isEmpty = false) : labsOf (raw (pre ++ [x])) = labsOf (raw pre) ++ [x.val.2.data.toList] := by
  rw [Lib.toList_data] at h
  rw [raw_snoc]; simp [labsOf, h]
theorem labsOf_no {N : Nat} {pre : List (Lab N)} {x : Lab N} (h : x.val.2.toList = []) : labsOf (raw (pre ++ [x])) = labsOf (raw pre) := by
  rw [Lib.toList_data] at h
  rw [raw_snoc]; simp [labsOf, h]
theorem labsOf_len (l : List (Nat × ByteArray)) : (labsOf l).length ≤ l.length := by
  unfold labsOf
  exact Nat.le_trans (List.length_filter_le _ _) (by simp)

/-- an append in a round: the box of the list, the list itself, and all that lay there -/
theorem lab_append {W w3 : World} {n₀ B : Nat} {t e : TypeId} {v v' : Value} {k m : Nat} {xs ys : List Value} {tmp : Obj} (hv : Boxed W B t v) (hrow : W.ownsRow n₀ e 1 v k xs) (hn : n₀ ≤ W.heap.size) (hB : B < n₀)
    (hown' : w3.ownsRow n₀ e 1 v' m ys) (hgrow : (W.alloc tmp).grownBy w3 v.ownBlock) :
    Boxed w3 B t v ∧ Boxed (w3.setCell ⟨B, 0, none⟩ v') B t v' ∧ (w3.setCell ⟨B, 0, none⟩ v').ownsRow n₀ e 1 v' m ys ∧ KeepsOthers W (w3.setCell ⟨B, 0, none⟩ v') ∧ Below B W (w3.setCell ⟨B, 0, none⟩ v') ∧
      (∀ Bs, Bs < n₀ → Bs < W.heap.size → Bs ≠ B → KeepBox Bs W (w3.setCell ⟨B, 0, none⟩ v')) := by
  have hne : ∀ j, j < n₀ → some j ≠ v.ownBlock := fun j hj e => by have := (hrow.lt j e.symm).1; omega
  have hne' : some B ≠ v'.ownBlock := fun e => by have := (hown'.lt B e.symm).1; omega
  have hv1 : Boxed w3 B t v := (hv.alloc tmp).kept hgrow (hne B hB)
  refine ⟨hv1, hv1.set v', hown'.kept (grownBy_setCell' w3 B v') (.inr hne'.symm), ?_, ?_, ?_⟩
  · refine ((KeepsOthers.alloc W tmp).trans (KeepsOthers.of_grownBy hgrow fun j o ej hj => ?_)).trans (KeepsOthers.setCell _ _ _)
    rcases (hrow.alloc tmp).2 with ⟨rfl, _⟩ | ⟨g, cap, cur, rfl, _, hgb, _⟩
    · simp [Value.ownBlock] at ej
    · obtain rfl : g = j := by simpa [Value.ownBlock] using ej
      rw [hgb] at hj; cases hj; rfl
  · refine (((Below.refl B W).alloc (by omega) tmp).grown hgrow (by simp; omega) fun j ej => ?_).setCell (p := ⟨B, 0, none⟩) (Nat.le_refl _) v'
    have := (hrow.lt j ej).1; omega
  · intro Bs h1 h2 h3
    have e1 := Below.heap_alloc W tmp Bs h2
    have e2 := hgrow.block Bs (by simp; omega) (hne Bs h1)
    exact World.cell?_of_block ((Below.heap_setCell w3 ⟨B, 0, none⟩ v' Bs h3).trans (e2.trans e1))

def labS (l : Bs) : List Bs := match split l with | some ls => ls | none => []
theorem lab_low {l : Bs} {ls : List Bs} (h : IsN l ls) : IsN (lowL l) (ls.map lowL) := by
  have := nameB.low_put h.2.1
  refine ⟨by rw [h.1, this], okL_low h.2.1, ?_⟩
  have h3 := h.2.2
  simpa [lowL] using h3
end Go.Proofs.YtjejmgdpjfdhjaaGreatDoor.nameL
namespace Go.Proofs.YtjejmgdpjfdhjaaGreatDoor.bldN
open Go.RowKit Go.Proofs.YtjejmgdpjfdhjaaGreatDoor.kit Go.Proofs.YtjejmgdpjfdhjaaGreatDoor.bld

/-- a builder at b, its buffer from N on -/
def BN (N b : Nat) (p : Value) (l : List UInt8) (w : World) : Prop :=
  b < N ∧ ∃ v, w.heap[b]? = some (.cells #[p, v] 53 (0, 0)) ∧ w.ownsRow N 5 1 v l.length (Lib.byteCells l)
def IsBN (N b : Nat) (l : List UInt8) (w : World) : Prop := BN N b (.pointer none) l w ∨ BN N b (.pointer (some ⟨b, 0, none⟩)) l w
/-- a write turns b and the buffer alone -/
structure Eff (N b : Nat) (w w' : World) : Prop where
  below : Below b w w'
  others : KeepsOthers w w'
  low : ∀ k, k < N → k ≠ b → w'.heap[k]? = w.heap[k]?
theorem Eff.refl (N b : Nat) (w : World) : Eff N b w w := ⟨Below.refl _ _, KeepsOthers.refl _, fun _ _ _ => rfl⟩
theorem Eff.trans {N b : Nat} {x y z : World} (h : Eff N b x y) (k : Eff N b y z) : Eff N b x z :=
  ⟨h.below.trans k.below, h.others.trans k.others, fun i h1 h2 => (k.low i h1 h2).trans (h.low i h1 h2)⟩
theorem Eff.setCell {N b : Nat} {x y : World} (h : Eff N b x y) (j : Nat) (v : Value) : Eff N b x (y.setCell ⟨b, j, none⟩ v) :=
  h.trans ⟨(Below.refl b y).setCell (p := ⟨b, j, none⟩) (Nat.le_refl _) v, KeepsOthers.setCell _ _ _, fun k _ hk => Below.heap_setCell y ⟨b, j, none⟩ v k hk⟩
theorem Eff.append {N b k : Nat} {x y z : World} {v : Value} {xs : List Value} {tmp : Obj} {e : TypeId} {size : Nat} (h : Eff N b x y) (hN : N ≤ y.heap.size) (hb : b < N) (hrow : y.ownsRow N e size v k xs) (hgrow : (y.alloc tmp).grownBy z v.ownBlock) : Eff N b x z := by
  have hlt : ∀ j, some j = v.ownBlock → N ≤ j := fun j e => (hrow.lt j e.symm).1
  refine h.trans ⟨?_, ?_, ?_⟩
  · exact ((Below.refl b y).alloc (by omega) tmp).grown hgrow (by simp; omega) fun j ej => by have := hlt j ej.symm; omega
  · refine (KeepsOthers.alloc y tmp).trans (KeepsOthers.of_grownBy hgrow fun j o ej hj => ?_)
    rcases (hrow.alloc tmp).2 with ⟨rfl, _⟩ | ⟨g, cap, cur, rfl, _, hgb, _⟩
    · simp [Value.ownBlock] at ej
    · obtain rfl : g = j := by simpa [Value.ownBlock] using ej
      rw [hgb] at hj; cases hj; rfl
  · intro k hk _
    rw [hgrow.block k (by simp; omega) (fun e => by have := hlt k e; omega), Lib.alloc_old y _ k (by omega)]
theorem BN.used {N b : Nat} {p : Value} {l : List UInt8} {w : World} (h : BN N b p l w) (q : Value) : BN N b q l (w.setCell ⟨b, 0, none⟩ q) := by
  obtain ⟨h1, v, h2, h3⟩ := h
  refine ⟨h1, v, by simp [World.setCell, Array.getElem?_modify, h2], ?_⟩
  exact h3.kept (grownBy_setCell' w b q) (.inr (fun e => by have := (h3.lt b e).1; omega))
theorem BN.put {N b : Nat} {p v v' : Value} {l : List UInt8} {w : World} (h1 : b < N) (h2 : w.heap[b]? = some (.cells #[p, v] 53 (0, 0))) (h3 : w.ownsRow N 5 1 v' l.length (Lib.byteCells l)) : BN N b p l (w.setCell ⟨b, 1, none⟩ v') := by
  refine ⟨h1, v', by simp [World.setCell, Array.getElem?_modify, h2], ?_⟩
  exact h3.kept ⟨rfl, rfl, rfl, by simp [World.setCell], fun k _ hk => Below.heap_setCell _ _ _ _ (fun e => hk (by simp [e]))⟩ (row := some b) (.inr (fun e => by have := (h3.lt b e).1; omega))
theorem BN.lt {N b : Nat} {p : Value} {l : List UInt8} {w : World} (h : BN N b p l w) : b < w.heap.size := by
  obtain ⟨_, v, h2, _⟩ := h; exact (Array.getElem?_eq_some_iff.1 h2).1
theorem BN.at {N b : Nat} {p : Value} {l : List UInt8} {w : World} (h : BN N b p l w) : Lib.BuilderAt 53 5 b b p (Lib.byteCells l) w := by
  obtain ⟨h1, v, h2, h3⟩ := h
  refine ⟨Nat.le_refl _, v, h2, ?_, fun e => by have := (h3.lt b e).1; omega⟩
  rw [Lib.byteCells_length]
  refine ⟨h3.1, h3.2.imp id ?_⟩
  rintro ⟨g, cap, cur, h4, h5, h6⟩
  exact ⟨g, cap, cur, h4, by omega, h6⟩
theorem IsBN.bld {N b : Nat} {l : List UInt8} {w : World} (h : IsBN N b l w) : Bld b b l w := h.imp BN.at BN.at
theorem IsBN.fresh {b : Nat} {w : World} (N : Nat) (h : w.heap[b]? = some (.cells #[.pointer none, .slice none 0 0] 53 (0, 0))) (hb : b < N) : IsBN N b [] w :=
  .inl ⟨hb, _, h, rfl, .inl ⟨rfl, rfl⟩⟩
theorem own_grow {N b : Nat} {p : Value} {l : List UInt8} {W W' : World} {row : Option Nat} (h : BN N b p l W) (hg : W.grownBy W' row) (hr : ∀ r, row = some r → ∃ o : Obj, W.heap[r]? = some o ∧ o.isCells = false) : BN N b p l W' := by
  obtain ⟨h1, v, h2, h3⟩ := h
  refine ⟨h1, v, (hg.block b (Array.getElem?_eq_some_iff.1 h2).1 (fun e => ?_)).trans h2, h3.kept hg ?_⟩
  · obtain ⟨o, ho, hc⟩ := hr b e.symm
    rw [h2] at ho; cases ho; cases hc
  · rcases h3.2 with ⟨rfl, _⟩ | ⟨g, cap, cur, rfl, _, h5, _⟩
    · exact .inl rfl
    · refine .inr (fun e => ?_)
      obtain ⟨o, ho, hc⟩ := hr g e.symm
      rw [h5] at ho; cases ho; cases hc
theorem bn_own {β : Type} (N b : Nat) (f : β → List UInt8) : Own (fun s W => IsBN N b (f s) W) := fun _ _ _ _ hs hg hr =>
  hs.imp (fun h => own_grow h hg hr) (fun h => own_grow h hg hr)

theorem copyCheckN (N b : Nat) (l : List UInt8) (w : World) (h : IsBN N b l w) :
    Calls Tryz.prog 50 #[.pointer (some ⟨b, 0, none⟩)] w fun e w' => e = .returned (.tuple #[]) ∧ BN N b (.pointer (some ⟨b, 0, none⟩)) l w' ∧ Eff N b w w' := by
  rcases h with h | h
  · refine (copyCheck_fresh b w h.at.cell0 h.at.shape h.at.frozen0).mono ?_
    rintro e w' ⟨rfl, rfl⟩
    exact ⟨rfl, h.used _, (Eff.refl _ _ _).setCell _ _⟩
  · refine (copyCheck_used b w h.at.cell0).mono ?_
    rintro e w' ⟨rfl, rfl⟩
    exact ⟨rfl, h, Eff.refl _ _ _⟩

set_option maxHeartbeats 2000000 in
set_option maxRecDepth 100000 in
theorem wbN (N b : Nat) (l : List UInt8) (c : UInt8) (w : World) (h : IsBN N b l w) (hlen : l.length + 1 ≤ 140737488355328) (hN : N ≤ w.heap.size) :
    Calls Tryz.prog 38 #[.pointer (some ⟨b, 0, none⟩), .int .u8 (c.toNat : Int)] w fun e w' => e = .returned .nilIface ∧ IsBN N b (l ++ [c]) w' ∧ Eff N b w w' := by
  obtain ⟨i0, hi, hz0, hz1, hz2⟩ := info_parts infoByte
  obtain ⟨n, hn⟩ : ∃ n : Int, (c.toNat : Int) = n := ⟨_, rfl⟩
  have hbs : Lib.byteCells (l ++ [c]) = Lib.byteCells l ++ [.int .u8 n] := by rw [bytes_snoc, hn]
  rw [hn]
  have HBS := Lib.hid hbs
  clear hbs hn
  go_enter Tryz.func38, Tryz.ntmps38
  go_wp2_with fail
  refine (copyCheckN N b l _ h).mono ?_
  rintro e w1 ⟨rfl, h1, hE1⟩
  obtain ⟨hbN, v, hbk, hown⟩ := h1
  have c0 : w1.cell? ⟨b, 0, none⟩ = some (.pointer (some ⟨b, 0, none⟩)) := by rw [Lib.cell_of_heap hbk]; rfl
  have c1 : w1.cell? ⟨b, 1, none⟩ = some v := by rw [Lib.cell_of_heap hbk]; rfl
  have hsz := hE1.below.size
  go_wp2_with (at_builtin; refine wpList_append_own _ rfl _ _ 51 rfl N 5 i0 (.int .u8 0) 1 1 Tryz.underlying51 hi hz0 hz1 hz2 rfl (by decide) _ _ _ rfl (hown.alloc _) ⟨w1.heap.size, 0, none⟩ 1 1 [.int .u8 n] rfl rfl ?c1 ?c2 ?c3 ?c4 ?c5 ?_)
  case c1 =>
    intro j u hj
    match j, hj with
    | 0, hj => simp at hj; subst hj; simp [Addr.add]
  case c2 => intro u hu; simp at hu; subst hu; rfl
  case c3 => unfold maxLen; omega
  case c4 => omega
  case c5 => simp; omega
  intro v' w2 hown' hgrow _
  have hE2 := hE1.append (by omega) hbN hown hgrow
  have hlt := (Array.getElem?_eq_some_iff.1 hbk).1
  have hb2 : w2.heap[b]? = some (.cells #[.pointer (some ⟨b, 0, none⟩), v] 53 (0, 0)) := by
    rw [hgrow.block b (by simp; omega) (fun e => by have := (hown.lt b e.symm).1; omega), Lib.alloc_old w1 _ b hlt]
    exact hbk
  have d0 : w2.cell? ⟨b, 0, none⟩ = some (.pointer (some ⟨b, 0, none⟩)) := by rw [Lib.cell_of_heap hb2]; rfl
  have d1 : w2.cell? ⟨b, 1, none⟩ = some v := by rw [Lib.cell_of_heap hb2]; rfl
  have f1 : w2.frozen? ⟨b, 1, none⟩ = false := Lib.frozen_of_heap hb2 1
  obtain ⟨g, cap, rfl⟩ : ∃ g cap, v' = .slice (some ⟨g, 0, none⟩) (l.length + 1) cap := by
    rcases hown'.2 with ⟨_, h0⟩ | ⟨g, cap, cur, hv, _⟩
    · omega
    · exact ⟨g, cap, hv⟩
  go_wp2
  go_ret
  refine ⟨rfl, .inr (BN.put hbN hb2 ?_), hE2.setCell _ _⟩
  rw [HBS.out, List.length_append]
  exact hown'

theorem others_freeze (w : World) (g n : Nat) (c : Array Value) (e : TypeId) (fz : Nat × Nat) (hg : w.heap[g]? = some (.cells c e fz)) : KeepsOthers w (w.freeze ⟨g, 0, none⟩ n) := by
  unfold World.freeze
  split
  · exact KeepsOthers.refl _
  · refine ⟨by simp, ?_⟩
    intro k o hk ho
    by_cases e : k = g
    · subst e; rw [hg] at hk; cases hk; cases ho
    · simp [Array.getElem?_modify, Ne.symm e, hk]
set_option maxHeartbeats 2000000 in
set_option maxRecDepth 100000 in
theorem strN (N b : Nat) (l : List UInt8) (w : World) (h : IsBN N b l w) (h0 : l ≠ []) :
    Calls Tryz.prog 30 #[.pointer (some ⟨b, 0, none⟩)] w fun e w' => e = .returned (.string ⟨l.toArray⟩) ∧ Below b w w' ∧ KeepsOthers w w' := by
  obtain ⟨p, hB, v, hbk, hown⟩ : ∃ p, BN N b p l w := by
    rcases h with h | h
    · exact ⟨_, h⟩
    · exact ⟨_, h⟩
  have hl0 : l.length ≠ 0 := by simpa using h0
  obtain ⟨g, cap, cur, rfl, hbg, hg, hnc, hcm, hcs, htake⟩ : ∃ g cap cur, v = .slice (some ⟨g, 0, none⟩) l.length cap ∧ N ≤ g ∧ w.heap[g]? = some (.cells cur 5 (0, 0)) ∧ l.length ≤ cap ∧ cap ≤ maxLen ∧ cur.size = cap * 1 ∧ cur.toList.take (l.length * 1) = Lib.byteCells l := by
    rcases hown.2 with ⟨_, hz⟩ | ⟨g, cap, cur, hv, r⟩
    · exact absurd hz hl0
    · exact ⟨g, cap, cur, hv, r⟩
  have hko := others_freeze w.drew g l.length cur 5 (0, 0) hg
  have c1 : w.drew.cell? ⟨b, 1, none⟩ = some (.slice (some ⟨g, 0, none⟩) l.length cap) := by
    have : w.drew.heap[b]? = some (.cells #[p, .slice (some ⟨g, 0, none⟩) l.length cap] 53 (0, 0)) := hbk
    rw [Lib.cell_of_heap this]; rfl
  have hSD : (Builtin.unsafeSliceData_ #[51] 93 #[.slice (some ⟨g, 0, none⟩) l.length cap]).run Tryz.prog w.drew = .ok (.pointer (some ⟨g, 0, none⟩)) w.drew :=
    Lib.run_unsafeSliceData_row _ _ _ _ _ _ (by omega)
  have hUS : (Builtin.unsafeString_ #[93, 3] 9 #[.pointer (some ⟨g, 0, none⟩), .int .i64 l.length]).run Tryz.prog w.drew = .ok (.string ⟨l.toArray⟩) (w.drew.freeze ⟨g, 0, none⟩ l.length) := by
    refine Lib.run_unsafeString_row w.drew 93 3 9 5 Tryz.underlying93 (by kernel_rfl) g cur.size (by have hg' : w.drew.heap[g]? = some (.cells cur 5 (0, 0)) := hg; simp [World.shape?, hg']) l h0 (by omega) (by unfold maxLen at hcm; omega) ?_
    intro j x hx
    have := hown.cells (g := g) rfl j (.int .u8 x.toNat) (by simp [Lib.byteCells, hx])
    exact this
  clear hown
  go_enter Tryz.func30, Tryz.ntmps30
  go_wp2
  go_region
  all_goals (go_wp2; go_ret; exact ⟨rfl, Lib.below_freeze (Below.drew (Below.refl b w)) (p := ⟨g, 0, none⟩) (by simp; omega) _, ⟨hko.size, hko.same⟩⟩)
end Go.Proofs.YtjejmgdpjfdhjaaGreatDoor.bldN
namespace Go.Proofs.YtjejmgdpjfdhjaaGreatDoor.showA
open Go.RowKit Go.Proofs.YtjejmgdpjfdhjaaGreatDoor.kit Go.Proofs.YtjejmgdpjfdhjaaGreatDoor.check Go.Proofs.YtjejmgdpjfdhjaaGreatDoor.nspec Go.Proofs.YtjejmgdpjfdhjaaGreatDoor.rsplit Go.Proofs.YtjejmgdpjfdhjaaGreatDoor.low

def escL (c : UInt8) : List UInt8 := [48 + c / 100, 48 + c / 10 % 10, 48 + c % 10]
theorem am_yes {s : ByteArray} {k : Nat} {c : UInt8} {R : Bool} (h : (s.data.toList.drop k).contains c = R) (hk : k < s.size) (hc : s[k] = c) : true = R := by
  rw [drop_cons s k hk] at h; rw [← h, hc]; simp
theorem am_no {s : ByteArray} {k : Nat} {c : UInt8} {R : Bool} (h : (s.data.toList.drop k).contains c = R) (hk : k < s.size) (hc : s[k] ≠ c) : (s.data.toList.drop (k + 1)).contains c = R := by
  rw [drop_cons s k hk] at h; rw [← h]; simp [Ne.symm hc]
theorem am_end {s : ByteArray} {k : Nat} {c : UInt8} {R : Bool} (h : (s.data.toList.drop k).contains c = R) (hk : s.size ≤ k) : false = R := by
  rw [drop_end s k hk] at h; rw [← h]; rfl

set_option maxRecDepth 100000 in
set_option maxHeartbeats 1000000 in
theorem among_any (c : UInt8) (s : ByteArray) (w : World) (hs : s.size ≤ 1099511627776) :
    Calls Tryz.prog 57 #[.int .u8 (c.toNat : Int), .string s] w fun e w' => e = .returned (.bool (s.data.toList.contains c)) ∧ Below w.heap.size w w' := by
  obtain ⟨R, HR⟩ : ∃ R, Hid ((s.data.toList.drop 0).contains c = R) := ⟨_, Lib.hid rfl⟩
  have e : s.data.toList.contains c = R := HR.out
  rw [e]
  clear e
  go_enter Tryz.func57, Tryz.ntmps57
  go_wp2
  go_loopg [5] (s.size + 1) (fun gas kv wr => ∃ (k : Nat), kv = .int .i64 k ∧ k ≤ s.size ∧ k + gas = s.size + 1 ∧ Below w.heap.size w wr ∧ Hid ((s.data.toList.drop k).contains c = R))
  case atStart => exact ⟨0, rfl, by omega, by omega, Below.refl _ _, HR⟩
  case round =>
    obtain ⟨k, rfl, hk, hkg, hB, HW⟩ := hrel
    have HK := Lib.hid hkg; clear hkg
    by_cases hlt : k < s.size
    · by_cases hc : s[k] = c
      · have HY := Lib.hid (am_yes HW.out hlt hc)
        have he : ((s[k].toNat : Int) == (c.toNat : Int)) = true := by rw [hc]; simp
        clear hc
        go_wp2
        go_ret
        exact ⟨ret_bool HY.out, hB⟩
      · have HN := Lib.hid (am_no HW.out hlt hc)
        have he : ((s[k].toNat : Int) == (c.toNat : Int)) = false := by
          simp only [beq_eq_false_iff_ne]
          intro h
          exact hc (UInt8.toNat.inj (by omega))
        clear hc
        go_wp2
        have hkg := HK.out
        go_roundg (gk - 1)
        case rel => exact ⟨k + 1, by go_num, by omega, by omega, hB, HN⟩
        case measure => omega
    · have HN := Lib.hid (am_end HW.out (by omega))
      go_wp2
      go_ret
      exact ⟨ret_bool HN.out, hB⟩

theorem bytes_three (w : World) (e : TypeId) (A B C : UInt8) : Bytes (w.alloc (.cells #[.int .u8 (A.toNat : Int), .int .u8 (B.toNat : Int), .int .u8 (C.toNat : Int)] e)) w.heap.size [A, B, C] := by
  intro j c h
  refine ⟨?_, by simp⟩
  rw [World.cell?_alloc_new]
  match j, h with
  | 0, h => simp at h; subst h; rfl
  | 1, h => simp at h; subst h; rfl
  | 2, h => simp at h; subst h; rfl
theorem dig (c : UInt8) : ((48 + c / 100 : UInt8).toNat : Int) = 48 + (c.toNat : Int) / 100 ∧ ((48 + c / 10 % 10 : UInt8).toNat : Int) = 48 + (c.toNat : Int) / 10 % 10 ∧ ((48 + c % 10 : UInt8).toNat : Int) = 48 + (c.toNat : Int) % 10 := by
  have h := c.toNat_lt
  refine ⟨?_, ?_, ?_⟩
  · rw [UInt8.toNat_add, UInt8.toNat_div]
    have e1 : (48 : UInt8).toNat = 48 := rfl
    have e2 : (100 : UInt8).toNat = 100 := rfl
    rw [e1, e2]; omega
  · rw [UInt8.toNat_add, UInt8.toNat_mod, UInt8.toNat_div]
    have e1 : (48 : UInt8).toNat = 48 := rfl
    have e2 : (10 : UInt8).toNat = 10 := rfl
    rw [e1, e2]; omega
  · rw [UInt8.toNat_add, UInt8.toNat_mod]
    have e1 : (48 : UInt8).toNat = 48 := rfl
    have e2 : (10 : UInt8).toNat = 10 := rfl
    rw [e1, e2]; omega

set_option maxRecDepth 100000 in
set_option maxHeartbeats 1000000 in
theorem escape_any (c : UInt8) (w : World) :
    Calls Tryz.prog 58 #[.int .u8 (c.toNat : Int)] w fun e w' => e = .returned (.string ⟨(92 :: escL c).toArray⟩) ∧ Below w.heap.size w w' := by
  obtain ⟨d1, d2, d3⟩ := dig c
  have h3 := bytes_three w 5 (48 + c / 100) (48 + c / 10 % 10) (48 + c % 10)
  rw [d1, d2, d3] at h3
  have hconv := bytes_back (P := Tryz.prog) h3 51 9 5 3 3 rfl Tryz.underlying51 Tryz.underlying5 Tryz.underlying9
  have hB := (Below.refl w.heap.size w).alloc (Nat.le_refl _) (.cells #[.int .u8 (48 + (c.toNat : Int) / 100), .int .u8 (48 + (c.toNat : Int) / 10 % 10), .int .u8 (48 + (c.toNat : Int) % 10)] 5)
  have hs : (⟨#[92]⟩ : ByteArray) ++ ⟨[48 + c / 100, 48 + c / 10 % 10, 48 + c % 10].toArray⟩ = ⟨(92 :: escL c).toArray⟩ := by
    apply ba_ext; simp [escL]
  have HS := Lib.hid hs
  clear d1 d2 d3 h3 hs
  obtain ⟨T, hT⟩ : ∃ T : ByteArray, ⟨[48 + c / 100, 48 + c / 10 % 10, 48 + c % 10].toArray⟩ = T := ⟨_, rfl⟩
  have hts : T.size ≤ 3 := by rw [← hT]; exact Nat.le_refl _
  rw [hT] at hconv HS
  clear hT
  obtain ⟨n, hn⟩ : ∃ n : Int, (c.toNat : Int) = n := ⟨_, rfl⟩
  have hb := byte_lt c
  rw [hn] at hb hconv hB
  rw [hn]
  have hn0 : 0 ≤ n := by omega
  clear hn
  go_enter Tryz.func58, Tryz.ntmps58
  go_wp2
  go_ret
  exact ⟨ret_str HS.out, hB⟩
end Go.Proofs.YtjejmgdpjfdhjaaGreatDoor.showA

/- The reference's Put: walk. The reference's FoldName, EqualName, Count, Tail, Parent: walks. The reference's Within, Common: walks. name.Count, Tail, lower, Fold, Equal: walks. The name that stands first: plain. How many bytes a name takes: data.host.take: walk. How many bytes a row of texts takes: data.texts.take: walk. -/
import Derived.Test.YtabhiangjomaeaaU6
import Derived.Test.YtabhiangjomaeaaU2
import Derived.Lib.SmallJoins
namespace Go.Proofs.Ytabhiangjomaeaa.rput
open Go.RowKit Go.Proofs.Ytabhiangjomaeaa.kit Go.Proofs.Ytabhiangjomaeaa.nspec Go.Proofs.Ytabhiangjomaeaa.rsplit

theorem byte_cell (w : World) (c : UInt8) : Bytes (w.alloc (.cells #[.int .u8 (c.toNat : Int)] 5)) w.heap.size [c] := by
  intro j d h
  have hj : j = 0 := by have := (List.getElem?_eq_some_iff.1 h).1; simpa using this
  subst hj
  have hd : d = c := by simpa using h.symm
  subst hd
  exact ⟨by simp [World.cell?_alloc_new], by simp⟩
theorem u8_mod (n : Nat) : ((UInt8.ofNat n).toNat : Int) = (n : Int) % 256 := by
  rw [UInt8.toNat_ofNat']; simp

/-- what stands ahead of the last byte -/
def flat (ls : List Bs) : Bs := ls.flatMap (fun x => UInt8.ofNat x.length :: x)
theorem flat_snoc (ls : List Bs) (x : Bs) : flat (ls ++ [x]) = flat ls ++ (UInt8.ofNat x.length :: x) := by simp [flat]
theorem flat_length (ls : List Bs) : (flat ls).length = room ls := by
  have := put_length ls; rw [put_flat] at this; simpa [flat] using this
theorem room_take (ls : List Bs) (k : Nat) : room (ls.take k) ≤ room ls := by
  have := room_append (ls.take k) (ls.drop k); rw [List.take_append_drop] at this; omega
theorem room_ge {ls : List Bs} {k : Nat} {x : Bs} (h : ls[k]? = some x) : room (ls.take k) + x.length + 1 ≤ room ls := by
  have h1 : ls.take (k + 1) = ls.take k ++ [x] := by
    obtain ⟨hk, rfl⟩ := List.getElem?_eq_some_iff.1 h
    rw [List.take_succ_eq_append_getElem hk]
  have := room_take ls (k + 1)
  rw [h1, room_append] at this
  simp [room] at this ⊢; omega

end Go.Proofs.Ytabhiangjomaeaa.rput
namespace Go.Proofs.Ytabhiangjomaeaa.refA
open Go.RowKit Go.Proofs.Ytabhiangjomaeaa.kit Go.Proofs.Ytabhiangjomaeaa.nspec Go.Proofs.Ytabhiangjomaeaa.rsplit Go.Proofs.Ytabhiangjomaeaa.rput Go.Proofs.Ytabhiangjomaeaa.low

def foldS (l : Bs) : Bs := match split l with | some ls => put (ls.map lowL) | none => []
def countS (l : Bs) : Int := match split l with | some ls => (ls.length : Int) | none => -1
def tailS (l : Bs) (k : Int) : Bs := match split l with | some ls => if 0 ≤ k ∧ k ≤ (ls.length : Int) then put (ls.drop (ls.length - k.toNat)) else [] | none => []
def parentS (l : Bs) : Bs := match split l with | some (_ :: r) => put r | _ => []
def equalS (a b : Bs) : Bool := match split a, split b with | some x, some y => decide (x.map lowL = y.map lowL) | _, _ => false

theorem split_len {l : Bs} {ls : List Bs} (h : IsN l ls) : ls.length ≤ 254 := by
  have h1 := isN_room h
  have : ∀ ls : List Bs, ls.length ≤ room ls := by
    intro ls; induction ls with
    | nil => simp [room]
    | cons x r ih => simp [room] at ih ⊢; omega
  have := this ls; omega
theorem room_low (ls : List Bs) : room (ls.map lowL) = room ls := by
  simp [room, lowL, List.map_map, Function.comp_def]
theorem okL_low {ls : List Bs} (h : okL ls) : okL (ls.map lowL) := by
  intro x hx
  obtain ⟨y, hy, rfl⟩ := List.mem_map.1 hx
  simpa [lowL] using h y hy

theorem foldS_yes {l : Bs} {ls : List Bs} (h : IsN l ls) : foldS l = put (ls.map lowL) := by unfold foldS; rw [split_iff.2 h]
theorem foldS_no {l : Bs} (h : split l = none) : foldS l = [] := by unfold foldS; rw [h]
theorem equalS_eq (a b : Bs) : equalS a b = ((split a).isSome && (split b).isSome && decide (foldS a = foldS b)) := by
  unfold equalS foldS
  cases ha : split a with
  | none => rfl
  | some x =>
    cases hb : split b with
    | none => rfl
    | some y =>
      simp only [Option.isSome_some, Bool.true_and]
      have h1 := okL_low (split_iff.1 ha).2.1
      have h2 := okL_low (split_iff.1 hb).2.1
      by_cases h : x.map lowL = y.map lowL
      · rw [decide_eq_true h, decide_eq_true (congrArg put h)]
      · rw [decide_eq_false h, decide_eq_false (fun e => h (put_inj h1 h2 e))]
theorem beq_dec (a b : Bs) : ((⟨a.toArray⟩ : ByteArray).toList == (⟨b.toArray⟩ : ByteArray).toList) = decide (a = b) := by
  rw [Lib.toList_data, Lib.toList_data]
  by_cases h : a = b
  · subst h; simp
  · rw [decide_eq_false h]; simpa using h

theorem countS_yes {l : Bs} {ls : List Bs} (h : IsN l ls) : countS l = ls.length := by unfold countS; rw [split_iff.2 h]
theorem countS_no {l : Bs} (h : split l = none) : countS l = -1 := by unfold countS; rw [h]
theorem tailS_yes {l : Bs} {ls : List Bs} (h : IsN l ls) (k : Int) : tailS l k = if 0 ≤ k ∧ k ≤ (ls.length : Int) then put (ls.drop (ls.length - k.toNat)) else [] := by unfold tailS; rw [split_iff.2 h]
theorem tailS_no {l : Bs} (h : split l = none) (k : Int) : tailS l k = [] := by unfold tailS; rw [h]
theorem rd_drop {w : World} {g i : Nat} {ls : List Bs} (h : ∀ (j : Nat) (x : Bs), ls[j]? = some x → w.cell? ⟨g, j, none⟩ = some (strV x)) (hg : g < w.heap.size) : Rd w (some ⟨g, i, none⟩) 0 (ls.drop i) := by
  intro j x hx
  rw [List.getElem?_drop] at hx
  exact ⟨g, i, rfl, Nat.zero_le _, hg, h _ x hx⟩
theorem room_drop (ls : List Bs) (k : Nat) : room (ls.drop k) ≤ room ls := by
  have := room_append (ls.take k) (ls.drop k); rw [List.take_append_drop] at this; omega
theorem parentS_no {l : Bs} (h : split l = none) : parentS l = [] := by unfold parentS; rw [h]
theorem parentS_root {l : Bs} (h : IsN l []) : parentS l = [] := by unfold parentS; rw [split_iff.2 h]
theorem parentS_yes {l x : Bs} {r : List Bs} (h : IsN l (x :: r)) : parentS l = put r := by unfold parentS; rw [split_iff.2 h]
end Go.Proofs.Ytabhiangjomaeaa.refA
namespace Go.Proofs.Ytabhiangjomaeaa.refB
open Go.RowKit Go.Proofs.Ytabhiangjomaeaa.kit Go.Proofs.Ytabhiangjomaeaa.nspec Go.Proofs.Ytabhiangjomaeaa.rsplit Go.Proofs.Ytabhiangjomaeaa.rput Go.Proofs.Ytabhiangjomaeaa.low Go.Proofs.Ytabhiangjomaeaa.refA

theorem tailS_len (l : Bs) (k : Int) : (tailS l k).length ≤ 255 := by
  unfold tailS
  cases h : split l with
  | none => simp
  | some ls =>
    simp only
    split
    · rw [put_length]; have := isN_room (split_iff.1 h); have := room_drop ls (ls.length - k.toNat); omega
    · simp
theorem countS_bd (l : Bs) : -1 ≤ countS l ∧ countS l ≤ 254 := by
  unfold countS
  cases h : split l with
  | none => simp
  | some ls => have := split_len (split_iff.1 h); simp only; omega

def wF (n z : Bs) : Nat → Nat → Bool
  | 0, _ => false
  | g + 1, k => if equalS (tailS n k) z then true else wF n z g (k + 1)
def withinS (n z : Bs) : Bool := wF n z (countS n + 1).toNat 0
theorem wF_yes {n z : Bs} {g k : Nat} {R : Bool} (h : wF n z g k = R) (hg : 0 < g) (he : equalS (tailS n k) z = true) : true = R := by
  obtain ⟨f, rfl⟩ : ∃ f, g = f + 1 := ⟨g - 1, by omega⟩
  rw [← h]; simp only [wF]; rw [if_pos he]
theorem wF_no {n z : Bs} {g k : Nat} {R : Bool} (h : wF n z g k = R) (hg : 0 < g) (he : equalS (tailS n k) z = false) : wF n z (g - 1) (k + 1) = R := by
  obtain ⟨f, rfl⟩ : ∃ f, g = f + 1 := ⟨g - 1, by omega⟩
  rw [← h]; simp only [wF]; rw [he]; simp

def cF (a b : Bs) : Nat → Bs
  | 0 => []
  | g + 1 => if withinS b (tailS a g) then tailS a g else cF a b g
def commonS (a b : Bs) : Bs := cF a b (countS a + 1).toNat
theorem cF_yes {a b : Bs} {g : Nat} {R : Bs} (h : cF a b (g + 1) = R) (he : withinS b (tailS a g) = true) : tailS a g = R := by
  rw [← h]; simp only [cF]; rw [if_pos he]
theorem cF_no {a b : Bs} {g : Nat} {R : Bs} (h : cF a b (g + 1) = R) (he : withinS b (tailS a g) = false) : cF a b g = R := by
  rw [← h]; simp only [cF]; rw [he]; simp

end Go.Proofs.Ytabhiangjomaeaa.refB
namespace Go.Proofs.Ytabhiangjomaeaa.nameA
open Go.RowKit Go.Shelf Go.Proofs.Ytabhiangjomaeaa.kit Go.Proofs.Ytabhiangjomaeaa.labels Go.Proofs.Ytabhiangjomaeaa.check Go.Proofs.Ytabhiangjomaeaa.nspec Go.Proofs.Ytabhiangjomaeaa.rsplit Go.Proofs.Ytabhiangjomaeaa.low Go.Proofs.Ytabhiangjomaeaa.refA Go.Proofs.Ytabhiangjomaeaa.refB
attribute [local go_sem] Oper.semAt_some

theorem pairsL_length : ∀ (k : Nat) (ls : List Bs), (pairsL k ls).length = ls.length + 1
  | _, [] => rfl
  | k, x :: r => by simp [pairsL, pairsL_length _ r]
theorem raw_length {N : Nat} (l : List (Lab N)) : (raw l).length = l.length := by simp [raw]

theorem pairsL_at : ∀ (k j : Nat) (ls : List Bs) (p : Nat × ByteArray), (pairsL k ls)[j]? = some p → p.1 = k + room (ls.take j) ∧ j ≤ ls.length
  | k, 0, [], p, h => by simp [pairsL] at h; subst h; simp [room]
  | k, j + 1, [], p, h => by simp [pairsL] at h
  | k, 0, x :: r, p, h => by simp [pairsL] at h; subst h; simp [room]
  | k, j + 1, x :: r, p, h => by
    simp only [pairsL, List.getElem?_cons_succ] at h
    obtain ⟨h1, h2⟩ := pairsL_at _ j r p h
    simp only [List.take_succ_cons, List.length_cons]
    refine ⟨?_, by omega⟩
    rw [h1]; simp [room]; omega
theorem put_drop (ls : List Bs) (j : Nat) : (put ls).drop (room (ls.take j)) = put (ls.drop j) := by
  have h : put ls = (ls.take j).flatMap (fun x => UInt8.ofNat x.length :: x) ++ put (ls.drop j) := by
    rw [← put_append, List.take_append_drop]
  have hl : ((ls.take j).flatMap (fun x => UInt8.ofNat x.length :: x)).length = room (ls.take j) := by
    have := put_length (ls.take j); rw [put_flat] at this; simpa using this
  rw [h, ← hl, List.drop_left]
theorem pre_last {N : Nat} {s : ByteArray} {pre : List (Lab N)} {x : Lab N} (h : raw (pre ++ [x]) <+: pairs s) : (pairs s)[pre.length]? = some x.val := by
  obtain ⟨t, ht⟩ := h
  rw [← ht, raw_snoc, ← raw_length pre, List.append_assoc, List.getElem?_append_right (Nat.le_refl _)]
  simp
theorem tail_at {s : ByteArray} {ls : List Bs} {pre : List (Lab s.size)} {x : Lab s.size} {k : Int} (h : IsN s.data.toList ls) (hp : raw (pre ++ [x]) <+: pairs s) (hk : (ls.length : Int) - (pre.length : Int) = k) (hk0 : 0 ≤ k) :
    s.extract x.val.1 s.size = ⟨(tailS s.data.toList k).toArray⟩ := by
  have h1 := pre_last hp
  rw [pairs_isN h] at h1
  obtain ⟨h2, h3⟩ := pairsL_at 0 pre.length ls x.val h1
  refine ba_ext ?_
  rw [tailS_yes h, if_pos ⟨hk0, by omega⟩]
  rw [Lib.extract_data, List.take_of_length_le (by simp), h2, Nat.zero_add, show ls.length - k.toNat = pre.length from by omega]
  rw [h.1, put_drop]

end Go.Proofs.Ytabhiangjomaeaa.nameA
namespace Go.Proofs.Ytabhiangjomaeaa.hostP
open Go.Proofs.Ytabhiangjomaeaa.kit Go.Proofs.Ytabhiangjomaeaa.nspec Go.Proofs.Ytabhiangjomaeaa.nameA Go.Proofs.Ytabhiangjomaeaa.fld
set_option linter.unusedVariables false

theorem put_head (ls : List Bs) (j : Nat) (h : j ≤ ls.length) : (put ls)[room (ls.take j)]? = some (if h2 : j < ls.length then UInt8.ofNat (ls[j]).length else 0) := by
  have e : (put ls)[room (ls.take j)]? = ((put ls).drop (room (ls.take j)))[0]? := by simp
  rw [e, put_drop]
  by_cases h2 : j < ls.length
  · rw [dif_pos h2, List.drop_eq_getElem_cons h2]; rfl
  · rw [dif_neg h2, List.drop_eq_nil_iff.2 (by omega)]; rfl
theorem room_step (ls : List Bs) (j : Nat) (h : j < ls.length) : room (ls.take (j + 1)) = room (ls.take j) + 1 + (ls[j]).length := by
  rw [List.take_succ_eq_append_getElem h, room_append]; simp [room]; omega
theorem room_le (ls : List Bs) (j : Nat) : room (ls.take j) ≤ room ls := by
  have := room_append (ls.take j) (ls.drop j)
  rw [List.take_append_drop] at this; omega
theorem take_at {d : Bs} {k a : Nat} (ha : a < k) : (d.take k)[a]? = d[a]? := by rw [List.getElem?_take]; simp [ha]

/-- how far the scan has come: at the head of a label of each name that stands first -/
def Scan (d : Bs) (a : Nat) : Prop := ∀ (k : Nat) (ls : List Bs), k ≤ d.length → IsN (d.take k) ls → ∃ j, j ≤ ls.length ∧ a = room (ls.take j)
theorem name_len {d : Bs} {k : Nat} {ls : List Bs} (hk : k ≤ d.length) (h : IsN (d.take k) ls) : k = room ls + 1 := by
  have := congrArg List.length h.1
  rw [put_length, List.length_take] at this; omega
theorem Scan.start (d : Bs) : Scan d 0 := fun k ls _ _ => ⟨0, Nat.zero_le _, rfl⟩
theorem Scan.step {d : Bs} {a : Nat} {c : UInt8} (h : Scan d a) (hc : d[a]? = some c) (h0 : c.toNat ≠ 0) : Scan d (a + (1 + c.toNat)) := by
  intro k ls hk hN
  obtain ⟨j, hj, rfl⟩ := h k ls hk hN
  have hl := name_len hk hN
  have hr := room_le ls j
  have hp := put_head ls j hj
  rw [← hN.1, take_at (by omega), hc] at hp
  by_cases h2 : j < ls.length
  · rw [dif_pos h2] at hp
    have he : c = UInt8.ofNat (ls[j]).length := by simpa using hp
    have hx := hN.2.1 _ (List.getElem_mem h2)
    have hn : c.toNat = (ls[j]).length := by rw [he]; exact nat_of (by omega)
    exact ⟨j + 1, by omega, by rw [room_step ls j h2]; omega⟩
  · rw [dif_neg h2] at hp
    have he : c = 0 := by simpa using hp
    rw [he] at h0; exact absurd rfl h0
theorem host_none {d : Bs} (h : ∀ (k : Nat) (ls : List Bs), k ≤ d.length → ¬ IsN (d.take k) ls) : hostS d = -1 := by
  have : (List.range 256).find? (fun k => (split (d.take k)).isSome) = none := by
    rw [List.find?_eq_none]
    intro k _ hs
    obtain ⟨ls, hls⟩ := Option.isSome_iff_exists.1 hs
    have hN := split_iff.1 hls
    rcases Nat.lt_or_ge d.length k with h1 | h1
    · rw [List.take_of_length_le (by omega)] at hN
      exact h d.length ls (Nat.le_refl _) (by rw [List.take_of_length_le (Nat.le_refl _)]; exact hN)
    · exact h k ls h1 hN
  unfold hostS; rw [this]
theorem host_some {d : Bs} {m : Nat} {ls : List Bs} (hm : m ≤ d.length) (hN : IsN (d.take m) ls) (h : ∀ (k : Nat) (ls : List Bs), k < m → ¬ IsN (d.take k) ls) : hostS d = (m : Int) := by
  have hl := hN.2.2
  rw [List.length_take] at hl
  have : (List.range 256).find? (fun k => (split (d.take k)).isSome) = some m := by
    rw [List.find?_range_eq_some]
    refine ⟨?_, by rw [List.mem_range]; omega, ?_⟩
    · rw [split_iff.2 hN]; rfl
    · intro j hj
      cases hs : split (d.take j) with
      | none => rfl
      | some l => exact absurd (split_iff.1 hs) (h j l hj)
  unfold hostS; rw [this]
theorem Scan.far {d : Bs} {a : Nat} (h : Scan d a) (ha : d.length ≤ a) : hostS d = -1 := by
  refine host_none fun k ls hk hN => ?_
  obtain ⟨j, hj, rfl⟩ := h k ls hk hN
  have := name_len hk hN
  have := room_le ls j
  omega
theorem Scan.no {d : Bs} {a : Nat} (h : Scan d a) (hz : d[a]? = some 0) (hs : split (d.take (a + 1)) = none) : hostS d = -1 := by
  have hlt := (List.getElem?_eq_some_iff.1 hz).1
  refine host_none fun k ls hk hN => ?_
  obtain ⟨j, hj, rfl⟩ := h k ls hk hN
  have hl := name_len hk hN
  have hr := room_le ls j
  have hp := put_head ls j hj
  rw [← hN.1, take_at (by omega), hz] at hp
  by_cases h2 : j < ls.length
  · rw [dif_pos h2] at hp
    have he : (0 : UInt8) = UInt8.ofNat (ls[j]).length := by simpa using hp
    have hx := hN.2.1 _ (List.getElem_mem h2)
    have hn : (0 : UInt8).toNat = (ls[j]).length := by rw [he]; exact nat_of (by omega)
    have : (0 : UInt8).toNat = 0 := rfl
    omega
  · have hje : j = ls.length := by omega
    subst hje
    rw [List.take_of_length_le (Nat.le_refl _)] at hs
    rw [← hl] at hs
    rw [split_iff.2 hN] at hs; simp at hs
theorem Scan.yes {d : Bs} {a : Nat} (h : Scan d a) (ha : a + 1 ≤ d.length) {ls : List Bs} (hN : IsN (d.take (a + 1)) ls) : hostS d = ((a + 1 : Nat) : Int) := by
  refine host_some ha hN fun k l hk hN2 => ?_
  obtain ⟨j, hj, rfl⟩ := h k l (by omega) hN2
  have := name_len (by omega) hN2
  have := room_le l j
  omega
end Go.Proofs.Ytabhiangjomaeaa.hostP
namespace Go.Proofs.Ytabhiangjomaeaa.hostT
open Go.RowKit Go.Proofs.Ytabhiangjomaeaa.kit Go.Proofs.Ytabhiangjomaeaa.check Go.Proofs.Ytabhiangjomaeaa.nspec Go.Proofs.Ytabhiangjomaeaa.rsplit Go.Proofs.Ytabhiangjomaeaa.fld Go.Proofs.Ytabhiangjomaeaa.hostP Go.Proofs.Ytabhiangjomaeaa.takes
set_option linter.unusedVariables false

theorem at_some {s : ByteArray} {a : Nat} {c : UInt8} (h : a < s.size) (hc : s[a] = c) : s.data.toList[a]? = some c := by
  have h' : a < s.data.toList.length := by rw [size_len]; exact h
  rw [List.getElem?_eq_getElem h', ← hc]; rfl
theorem ext0 (s : ByteArray) (n : Nat) : (s.extract 0 n).data.toList = s.data.toList.take n := by rw [Lib.extract_data]; simp

set_option maxRecDepth 100000 in
set_option maxHeartbeats 2000000 in
theorem host_any (s : ByteArray) (w : World) (hs : s.size ≤ 1099511627776) :
    Calls Try.prog 158 #[.agg #[], .string s] w fun e w' => e = .returned (.int .i64 (takeS .host s.data.toList)) ∧ Below w.heap.size w w' := by
  have hBa := Lib.hid ((Below.refl w.heap.size w).alloc (Nat.le_refl _) (.cells #[] 175))
  have HS0 := Lib.hid (Scan.start s.data.toList)
  obtain ⟨R, HR⟩ : ∃ R, Hid (hostS s.data.toList = R) := ⟨_, Lib.hid rfl⟩
  have HT : Hid (takeS .host s.data.toList = R) := Lib.hid HR.out
  rw [HT.out]
  go_enter Try.func158, Try.ntmps158
  go_wp2_with fail
  go_loopg [5] (s.size + 300) (fun gas av wr => ∃ a : Nat, av = .int .i64 a ∧ a ≤ s.size + 256 ∧ s.size + 258 ≤ a + gas ∧ Hid (Scan s.data.toList a) ∧ Below w.heap.size w wr)
  case atStart => exact ⟨0, rfl, by omega, by omega, HS0, hBa.out⟩
  case round =>
    obtain ⟨a, rfl, ha, hgas, HS, hB⟩ := hrel
    have HG := Lib.hid hgas; clear hgas
    have HB := Lib.hid hB; clear hB
    by_cases hlt : a < s.size
    · obtain ⟨c, hc⟩ : ∃ c, s[a] = c := ⟨_, rfl⟩
      have hc256 := byte_lt c
      have HC := Lib.hid (at_some hlt hc)
      by_cases h0 : c.toNat = 0
      · have hc0 : c = 0 := UInt8.toNat_inj.1 h0
        have hz : ((c.toNat : Int)) = 0 := by omega
        have hb : decide (0 < c.toNat) = false := by rw [decide_eq_false_iff_not]; omega
        have hes : (s.extract 0 (a + 1)).data.toList = s.data.toList.take (a + 1) := ext0 s (a + 1)
        have CK := Lib.hid (fun w => check_any (s.extract 0 (a + 1)) w (by rw [ByteArray.size_extract]; omega))
        have hle : (a : Int) + 1 ≤ (s.size : Int) := by omega
        have hlt2 : (a : Int) < (s.size : Int) := by omega
        rcases isB_or (s.extract 0 (a + 1)) with ⟨ls, hN⟩ | hN
        · rw [chk_yes hN] at CK
          rw [hes] at hN
          have HY := Lib.hid (HS.out.yes (by rw [size_len]; omega) hN)
          clear h0 hz hc0 hes hN
          go_wp2_with fail
          refine (CK.out _).mono ?_
          rintro e w1 ⟨rfl, hB1⟩
          have HB1 := Lib.hid (HB.out.trans (hB1.mono HB.out.size)); clear hB1
          go_wp2_with fail
          go_ret
          exact ⟨by rw [← HR.out, HY.out]; rfl, HB1.out⟩
        · rw [chk_no hN] at CK
          rw [hes] at hN
          have HY := Lib.hid (HS.out.no (by rw [HC.out, hc0]) hN)
          clear h0 hz hc0 hes hN
          go_wp2_with fail
          refine (CK.out _).mono ?_
          rintro e w1 ⟨rfl, hB1⟩
          have HB1 := Lib.hid (HB.out.trans (hB1.mono HB.out.size)); clear hB1
          go_wp2_with fail
          go_ret
          exact ⟨by rw [← HR.out, HY.out]; rfl, HB1.out⟩
      · have HS2 := Lib.hid (HS.out.step HC.out h0)
        have hb : decide (0 < c.toNat) = true := by rw [decide_eq_true_eq]; omega
        clear h0
        go_wp2_with fail
        have hgas := HG.out
        go_roundg (gk - 1)
        case rel => exact ⟨a + (1 + c.toNat), by go_num, by omega, by omega, HS2, HB.out⟩
        case measure => omega
    · have HY := Lib.hid (HS.out.far (by rw [size_len]; omega))
      have hge : (s.size : Int) ≤ (a : Int) := by omega
      clear hlt
      go_wp2_with fail
      go_ret
      exact ⟨by rw [← HR.out, HY.out]; rfl, HB.out⟩
end Go.Proofs.Ytabhiangjomaeaa.hostT
namespace Go.Proofs.Ytabhiangjomaeaa.textsT
open Go.RowKit Go.Proofs.Ytabhiangjomaeaa.kit Go.Proofs.Ytabhiangjomaeaa.nspec Go.Proofs.Ytabhiangjomaeaa.fld Go.Proofs.Ytabhiangjomaeaa.takes
set_option linter.unusedVariables false

def textsA (at0 : Nat) (d : Bs) : Int := textsF (d.length + 1) at0 d
theorem texts_end (at0 : Nat) : textsA at0 [] = if at0 = 0 then -1 else (at0 : Int) := rfl
theorem texts_go {at0 : Nat} {c : UInt8} {r : Bs} (h : c.toNat ≤ r.length) : textsA at0 (c :: r) = textsA (at0 + (1 + c.toNat)) (r.drop c.toNat) := by
  unfold textsA
  rw [List.length_cons, textsF, if_neg (by omega)]
  exact texts_fuel _ _ _ _ (by rw [List.length_drop]; omega) (by omega)
theorem texts_bad {at0 : Nat} {c : UInt8} {r : Bs} (h : r.length < c.toNat) : textsA at0 (c :: r) = -1 := by
  unfold textsA
  rw [List.length_cons, textsF, if_pos h]
theorem ext_end (s : ByteArray) (a : Nat) : (s.extract a s.size).data.toList = s.data.toList.drop a := by
  rw [Lib.extract_data]; rw [List.take_of_length_le (by rw [List.length_drop, size_len]; exact Nat.le_refl _)]

set_option maxRecDepth 100000 in
set_option maxHeartbeats 2000000 in
theorem texts_any (s : ByteArray) (w : World) (hs : s.size ≤ 1099511627776) :
    Calls Try.prog 160 #[.agg #[], .string s] w fun e w' => e = .returned (.int .i64 (takeS .texts s.data.toList)) ∧ Below w.heap.size w w' := by
  have hBa := Lib.hid ((Below.refl w.heap.size w).alloc (Nat.le_refl _) (.cells #[] 177))
  obtain ⟨R, HR⟩ : ∃ R, Hid (textsA 0 (s.data.toList.drop 0) = R) := ⟨_, Lib.hid rfl⟩
  have HT : Hid (takeS .texts s.data.toList = R) := Lib.hid HR.out
  rw [HT.out]
  go_enter Try.func160, Try.ntmps160
  go_wp2_with fail
  go_loopg [5, 6] (s.size + 1) (fun gas av _ wr => ∃ a : Nat, av = .int .i64 a ∧ a ≤ s.size ∧ s.size + 1 ≤ a + gas ∧ Hid (textsA a (s.data.toList.drop a) = R) ∧ Below w.heap.size w wr)
  case atStart => exact ⟨0, rfl, by omega, by omega, HR, hBa.out⟩
  case round =>
    obtain ⟨a, rfl, ha, hgas, HS, hB⟩ := hrel
    have HG := Lib.hid hgas; clear hgas
    have HB := Lib.hid hB; clear hB
    by_cases hlt : a < s.size
    · obtain ⟨c, hc⟩ : ∃ c, s[a] = c := ⟨_, rfl⟩
      have hd := drop_cons s a hlt
      rw [hc] at hd
      have hl : (s.data.toList.drop (a + 1)).length = s.size - (a + 1) := by rw [List.length_drop, size_len]
      have CT := Lib.hid (fun w => text_any (s.extract a s.size) w (by rw [ByteArray.size_extract]; omega))
      rw [ext_end, hd] at CT
      have h1 : (a : Int) ≤ (s.size : Int) := by omega
      by_cases h2 : (s.data.toList.drop (a + 1)).length < c.toNat
      · have e1 : textS (c :: s.data.toList.drop (a + 1)) = -1 := by simp only [textS]; rw [if_pos h2]
        have HN : Hid (-1 = R) := Lib.hid (by rw [← HS.out, hd, texts_bad h2])
        rw [e1] at CT
        clear e1 h2 hd hl
        go_wp2_with fail
        refine (CT.out _).mono ?_
        rintro e w1 ⟨rfl, hB1⟩
        have HB1 := Lib.hid (HB.out.trans (hB1.mono HB.out.size)); clear hB1
        go_wp2_with fail
        go_ret
        exact ⟨by rw [← HN.out]; rfl, HB1.out⟩
      · have e1 : textS (c :: s.data.toList.drop (a + 1)) = ((1 + c.toNat : Nat) : Int) := by simp only [textS]; rw [if_neg h2]; simp
        obtain ⟨n, hn⟩ : ∃ n, 1 + c.toNat = n := ⟨_, rfl⟩
        have hns : a + n ≤ s.size := by omega
        have HN : Hid (textsA (a + n) (s.data.toList.drop (a + n)) = R) := Lib.hid (by
          rw [← HS.out, hd, texts_go (by omega), List.drop_drop, hn, show a + 1 + c.toNat = a + n by omega])
        rw [e1, hn] at CT
        have hn1 : 1 ≤ n := by omega
        clear e1 h2 hd hl hn
        go_wp2_with fail
        refine (CT.out _).mono ?_
        rintro e w1 ⟨rfl, hB1⟩
        have HB1 := Lib.hid (HB.out.trans (hB1.mono HB.out.size)); clear hB1
        go_wp2_with fail
        have hgas := HG.out
        go_roundg (gk - 1)
        case rel => exact ⟨a + n, by go_num, by omega, by omega, HN, HB1.out⟩
        case measure => omega
    · have hae : a = s.size := by omega
      subst hae
      have HN : Hid ((if s.size = 0 then -1 else (s.size : Int)) = R) := Lib.hid (by rw [← HS.out, drop_end s s.size (Nat.le_refl _), texts_end])
      clear hlt
      by_cases h0 : s.size = 0
      · have hz : ((s.size : Int) == 0) = true := by rw [beq_iff_eq]; omega
        rw [if_pos h0] at HN
        have H0 := Lib.hid h0; clear h0
        go_wp2_with fail
        go_ret
        exact ⟨by rw [← HN.out]; rfl, HB.out⟩
      · have hz : ((s.size : Int) == 0) = false := by rw [beq_eq_false_iff_ne]; omega
        rw [if_neg h0] at HN
        clear h0
        go_wp2_with fail
        go_ret
        exact ⟨by rw [← HN.out]; rfl, HB.out⟩
end Go.Proofs.Ytabhiangjomaeaa.textsT

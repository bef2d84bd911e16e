/- The reference's Put: walk. The reference's FoldName, EqualName, Count, Tail, Parent: walks. The reference's Within, Common: walks. name.Count, Tail, lower, Fold, Equal: walks. name.lower, Fold, Equal, Within, Common, Parent: walks. The reference's Graft: walk. name.Graft: walk; the law NameGrafts: its walk. name.Labels: walk. -/
import Derived.Test.YtnamkladeaohoaaK10
import Derived.Lib.SmallJoins
namespace Go.Proofs.Ytnamkladeaohoaa.rput
open Go.RowKit Go.Proofs.Ytnamkladeaohoaa.kit Go.Proofs.Ytnamkladeaohoaa.nspec Go.Proofs.Ytnamkladeaohoaa.rsplit

theorem byte_cell (w : World) (c : UInt8) : Bytes (w.alloc (.cells #[.int .u8 (c.toNat : Int)] 5)) w.heap.size [c] := by
  intro j d h
  have hj : j = 0 := by have := (List.getElem?_eq_some_iff.1 h).1; simpa using this
  subst hj
  have hd : d = c := by simpa using h.symm
  subst hd
  exact ⟨by simp [World.cell?_alloc_new], by simp⟩
theorem u8_mod (n : Nat) : ((UInt8.ofNat n).toNat : Int) = (n : Int) % 256 := by
  rw [UInt8.toNat_ofNat']; simp

/-- what stands ahead of the last byte -/
def flat (ls : List Bs) : Bs := ls.flatMap (fun x => UInt8.ofNat x.length :: x)
theorem flat_snoc (ls : List Bs) (x : Bs) : flat (ls ++ [x]) = flat ls ++ (UInt8.ofNat x.length :: x) := by simp [flat]
theorem flat_length (ls : List Bs) : (flat ls).length = room ls := by
  have := put_length ls; rw [put_flat] at this; simpa [flat] using this
theorem room_take (ls : List Bs) (k : Nat) : room (ls.take k) ≤ room ls := by
  have := room_append (ls.take k) (ls.drop k); rw [List.take_append_drop] at this; omega
theorem room_ge {ls : List Bs} {k : Nat} {x : Bs} (h : ls[k]? = some x) : room (ls.take k) + x.length + 1 ≤ room ls := by
  have h1 : ls.take (k + 1) = ls.take k ++ [x] := by
    obtain ⟨hk, rfl⟩ := List.getElem?_eq_some_iff.1 h
    rw [List.take_succ_eq_append_getElem hk]
  have := room_take ls (k + 1)
  rw [h1, room_append] at this
  simp [room] at this ⊢; omega

end Go.Proofs.Ytnamkladeaohoaa.rput
namespace Go.Proofs.Ytnamkladeaohoaa.refA
open Go.RowKit Go.Proofs.Ytnamkladeaohoaa.kit Go.Proofs.Ytnamkladeaohoaa.nspec Go.Proofs.Ytnamkladeaohoaa.rsplit Go.Proofs.Ytnamkladeaohoaa.rput Go.Proofs.Ytnamkladeaohoaa.low

def foldS (l : Bs) : Bs := match split l with | some ls => put (ls.map lowL) | none => []
def countS (l : Bs) : Int := match split l with | some ls => (ls.length : Int) | none => -1
def tailS (l : Bs) (k : Int) : Bs := match split l with | some ls => if 0 ≤ k ∧ k ≤ (ls.length : Int) then put (ls.drop (ls.length - k.toNat)) else [] | none => []
def parentS (l : Bs) : Bs := match split l with | some (_ :: r) => put r | _ => []
def equalS (a b : Bs) : Bool := match split a, split b with | some x, some y => decide (x.map lowL = y.map lowL) | _, _ => false

theorem split_len {l : Bs} {ls : List Bs} (h : IsN l ls) : ls.length ≤ 254 := by
  have h1 := isN_room h
  have : ∀ ls : List Bs, ls.length ≤ room ls := by
    intro ls; induction ls with
    | nil => simp [room]
    | cons x r ih => simp [room] at ih ⊢; omega
  have := this ls; omega
theorem room_low (ls : List Bs) : room (ls.map lowL) = room ls := by
  simp [room, lowL, List.map_map, Function.comp_def]
theorem okL_low {ls : List Bs} (h : okL ls) : okL (ls.map lowL) := by
  intro x hx
  obtain ⟨y, hy, rfl⟩ := List.mem_map.1 hx
  simpa [lowL] using h y hy

theorem foldS_yes {l : Bs} {ls : List Bs} (h : IsN l ls) : foldS l = put (ls.map lowL) := by unfold foldS; rw [split_iff.2 h]
theorem foldS_no {l : Bs} (h : split l = none) : foldS l = [] := by unfold foldS; rw [h]
theorem equalS_eq (a b : Bs) : equalS a b = ((split a).isSome && (split b).isSome && decide (foldS a = foldS b)) := by
  unfold equalS foldS
  cases ha : split a with
  | none => rfl
  | some x =>
    cases hb : split b with
    | none => rfl
    | some y =>
      simp only [Option.isSome_some, Bool.true_and]
      have h1 := okL_low (split_iff.1 ha).2.1
      have h2 := okL_low (split_iff.1 hb).2.1
      by_cases h : x.map lowL = y.map lowL
      · rw [decide_eq_true h, decide_eq_true (congrArg put h)]
      · rw [decide_eq_false h, decide_eq_false (fun e => h (put_inj h1 h2 e))]
theorem beq_dec (a b : Bs) : ((⟨a.toArray⟩ : ByteArray).toList == (⟨b.toArray⟩ : ByteArray).toList) = decide (a = b) := by
  rw [Lib.toList_data, Lib.toList_data]
  by_cases h : a = b
  · subst h; simp
  · rw [decide_eq_false h]; simpa using h

theorem countS_yes {l : Bs} {ls : List Bs} (h : IsN l ls) : countS l = ls.length := by unfold countS; rw [split_iff.2 h]
theorem countS_no {l : Bs} (h : split l = none) : countS l = -1 := by unfold countS; rw [h]
theorem tailS_yes {l : Bs} {ls : List Bs} (h : IsN l ls) (k : Int) : tailS l k = if 0 ≤ k ∧ k ≤ (ls.length : Int) then put (ls.drop (ls.length - k.toNat)) else [] := by unfold tailS; rw [split_iff.2 h]
theorem tailS_no {l : Bs} (h : split l = none) (k : Int) : tailS l k = [] := by unfold tailS; rw [h]
theorem rd_drop {w : World} {g i : Nat} {ls : List Bs} (h : ∀ (j : Nat) (x : Bs), ls[j]? = some x → w.cell? ⟨g, j, none⟩ = some (strV x)) (hg : g < w.heap.size) : Rd w (some ⟨g, i, none⟩) 0 (ls.drop i) := by
  intro j x hx
  rw [List.getElem?_drop] at hx
  exact ⟨g, i, rfl, Nat.zero_le _, hg, h _ x hx⟩
theorem room_drop (ls : List Bs) (k : Nat) : room (ls.drop k) ≤ room ls := by
  have := room_append (ls.take k) (ls.drop k); rw [List.take_append_drop] at this; omega
theorem parentS_no {l : Bs} (h : split l = none) : parentS l = [] := by unfold parentS; rw [h]
theorem parentS_root {l : Bs} (h : IsN l []) : parentS l = [] := by unfold parentS; rw [split_iff.2 h]
theorem parentS_yes {l x : Bs} {r : List Bs} (h : IsN l (x :: r)) : parentS l = put r := by unfold parentS; rw [split_iff.2 h]
end Go.Proofs.Ytnamkladeaohoaa.refA
namespace Go.Proofs.Ytnamkladeaohoaa.refB
open Go.RowKit Go.Proofs.Ytnamkladeaohoaa.kit Go.Proofs.Ytnamkladeaohoaa.nspec Go.Proofs.Ytnamkladeaohoaa.rsplit Go.Proofs.Ytnamkladeaohoaa.rput Go.Proofs.Ytnamkladeaohoaa.low Go.Proofs.Ytnamkladeaohoaa.refA

theorem tailS_len (l : Bs) (k : Int) : (tailS l k).length ≤ 255 := by
  unfold tailS
  cases h : split l with
  | none => simp
  | some ls =>
    simp only
    split
    · rw [put_length]; have := isN_room (split_iff.1 h); have := room_drop ls (ls.length - k.toNat); omega
    · simp
theorem countS_bd (l : Bs) : -1 ≤ countS l ∧ countS l ≤ 254 := by
  unfold countS
  cases h : split l with
  | none => simp
  | some ls => have := split_len (split_iff.1 h); simp only; omega

def wF (n z : Bs) : Nat → Nat → Bool
  | 0, _ => false
  | g + 1, k => if equalS (tailS n k) z then true else wF n z g (k + 1)
def withinS (n z : Bs) : Bool := wF n z (countS n + 1).toNat 0
theorem wF_yes {n z : Bs} {g k : Nat} {R : Bool} (h : wF n z g k = R) (hg : 0 < g) (he : equalS (tailS n k) z = true) : true = R := by
  obtain ⟨f, rfl⟩ : ∃ f, g = f + 1 := ⟨g - 1, by omega⟩
  rw [← h]; simp only [wF]; rw [if_pos he]
theorem wF_no {n z : Bs} {g k : Nat} {R : Bool} (h : wF n z g k = R) (hg : 0 < g) (he : equalS (tailS n k) z = false) : wF n z (g - 1) (k + 1) = R := by
  obtain ⟨f, rfl⟩ : ∃ f, g = f + 1 := ⟨g - 1, by omega⟩
  rw [← h]; simp only [wF]; rw [he]; simp

def cF (a b : Bs) : Nat → Bs
  | 0 => []
  | g + 1 => if withinS b (tailS a g) then tailS a g else cF a b g
def commonS (a b : Bs) : Bs := cF a b (countS a + 1).toNat
theorem cF_yes {a b : Bs} {g : Nat} {R : Bs} (h : cF a b (g + 1) = R) (he : withinS b (tailS a g) = true) : tailS a g = R := by
  rw [← h]; simp only [cF]; rw [if_pos he]
theorem cF_no {a b : Bs} {g : Nat} {R : Bs} (h : cF a b (g + 1) = R) (he : withinS b (tailS a g) = false) : cF a b g = R := by
  rw [← h]; simp only [cF]; rw [he]; simp

end Go.Proofs.Ytnamkladeaohoaa.refB
namespace Go.Proofs.Ytnamkladeaohoaa.nameA
open Go.RowKit Go.Shelf Go.Proofs.Ytnamkladeaohoaa.kit Go.Proofs.Ytnamkladeaohoaa.labels Go.Proofs.Ytnamkladeaohoaa.check Go.Proofs.Ytnamkladeaohoaa.nspec Go.Proofs.Ytnamkladeaohoaa.rsplit Go.Proofs.Ytnamkladeaohoaa.low Go.Proofs.Ytnamkladeaohoaa.refA Go.Proofs.Ytnamkladeaohoaa.refB
attribute [local go_sem] Oper.semAt_some

theorem pairsL_length : ∀ (k : Nat) (ls : List Bs), (pairsL k ls).length = ls.length + 1
  | _, [] => rfl
  | k, x :: r => by simp [pairsL, pairsL_length _ r]
theorem raw_length {N : Nat} (l : List (Lab N)) : (raw l).length = l.length := by simp [raw]

theorem pairsL_at : ∀ (k j : Nat) (ls : List Bs) (p : Nat × ByteArray), (pairsL k ls)[j]? = some p → p.1 = k + room (ls.take j) ∧ j ≤ ls.length
  | k, 0, [], p, h => by simp [pairsL] at h; subst h; simp [room]
  | k, j + 1, [], p, h => by simp [pairsL] at h
  | k, 0, x :: r, p, h => by simp [pairsL] at h; subst h; simp [room]
  | k, j + 1, x :: r, p, h => by
    simp only [pairsL, List.getElem?_cons_succ] at h
    obtain ⟨h1, h2⟩ := pairsL_at _ j r p h
    simp only [List.take_succ_cons, List.length_cons]
    refine ⟨?_, by omega⟩
    rw [h1]; simp [room]; omega
theorem put_drop (ls : List Bs) (j : Nat) : (put ls).drop (room (ls.take j)) = put (ls.drop j) := by
  have h : put ls = (ls.take j).flatMap (fun x => UInt8.ofNat x.length :: x) ++ put (ls.drop j) := by
    rw [← put_append, List.take_append_drop]
  have hl : ((ls.take j).flatMap (fun x => UInt8.ofNat x.length :: x)).length = room (ls.take j) := by
    have := put_length (ls.take j); rw [put_flat] at this; simpa using this
  rw [h, ← hl, List.drop_left]
theorem pre_last {N : Nat} {s : ByteArray} {pre : List (Lab N)} {x : Lab N} (h : raw (pre ++ [x]) <+: pairs s) : (pairs s)[pre.length]? = some x.val := by
  obtain ⟨t, ht⟩ := h
  rw [← ht, raw_snoc, ← raw_length pre, List.append_assoc, List.getElem?_append_right (Nat.le_refl _)]
  simp
theorem tail_at {s : ByteArray} {ls : List Bs} {pre : List (Lab s.size)} {x : Lab s.size} {k : Int} (h : IsN s.data.toList ls) (hp : raw (pre ++ [x]) <+: pairs s) (hk : (ls.length : Int) - (pre.length : Int) = k) (hk0 : 0 ≤ k) :
    s.extract x.val.1 s.size = ⟨(tailS s.data.toList k).toArray⟩ := by
  have h1 := pre_last hp
  rw [pairs_isN h] at h1
  obtain ⟨h2, h3⟩ := pairsL_at 0 pre.length ls x.val h1
  refine ba_ext ?_
  rw [tailS_yes h, if_pos ⟨hk0, by omega⟩]
  rw [Lib.extract_data, List.take_of_length_le (by simp), h2, Nat.zero_add, show ls.length - k.toNat = pre.length from by omega]
  rw [h.1, put_drop]

end Go.Proofs.Ytnamkladeaohoaa.nameA
namespace Go.Proofs.Ytnamkladeaohoaa.nameB
open Go.RowKit Go.Proofs.Ytnamkladeaohoaa.kit Go.Proofs.Ytnamkladeaohoaa.check Go.Proofs.Ytnamkladeaohoaa.nspec Go.Proofs.Ytnamkladeaohoaa.rsplit Go.Proofs.Ytnamkladeaohoaa.low Go.Proofs.Ytnamkladeaohoaa.refA Go.Proofs.Ytnamkladeaohoaa.refB Go.Proofs.Ytnamkladeaohoaa.nameA

theorem low_of_small (c : UInt8) (h : c.toNat ≤ 63) : lowB c = c := lowB_id c (by omega)
theorem low_put {ls : List Bs} (h : okL ls) : lowL (put ls) = put (ls.map lowL) := by
  induction ls with
  | nil => rfl
  | cons x r ih =>
    obtain ⟨⟨h1, h2⟩, h3⟩ := okL_cons.1 h
    have hn : (UInt8.ofNat x.length).toNat = x.length := nat_of (by omega)
    have := ih h3
    simp only [lowL, put, List.map_cons, List.map_append, List.length_map] at this ⊢
    rw [low_of_small _ (by omega), this]
theorem fold_low {l : Bs} {ls : List Bs} (h : IsN l ls) : foldS l = lowL l := by rw [foldS_yes h, h.1, low_put h.2.1]
theorem equal_low {a b : Bs} {x y : List Bs} (ha : IsN a x) (hb : IsN b y) : equalS a b = decide (lowL a = lowL b) := by
  rw [equalS_eq, split_iff.2 ha, split_iff.2 hb, fold_low ha, fold_low hb]; rfl
theorem equal_no1 {a b : Bs} (h : split a = none) : equalS a b = false := by rw [equalS_eq, h]; rfl
theorem equal_no2 {a b : Bs} (h : split b = none) : equalS a b = false := by rw [equalS_eq, h]; simp

def withinP (n z : Bs) : Bool := decide (0 ≤ countS z) && equalS (tailS n (countS z)) z
def comF (a b : Bs) : Nat → Bs
  | 0 => []
  | g + 1 => if equalS (tailS a g) (tailS b g) then tailS a g else comF a b g
def commonP (a b : Bs) : Bs := comF a b (min (countS a) (countS b) + 1).toNat
theorem comF_yes {a b : Bs} {g : Nat} {R : Bs} (h : comF a b (g + 1) = R) (he : equalS (tailS a g) (tailS b g) = true) : tailS a g = R := by
  rw [← h]; simp only [comF]; rw [if_pos he]
theorem comF_no {a b : Bs} {g : Nat} {R : Bs} (h : comF a b (g + 1) = R) (he : equalS (tailS a g) (tailS b g) = false) : comF a b g = R := by
  rw [← h]; simp only [comF]; rw [he]; simp
theorem tailS_neg (l : Bs) (k : Int) (h : k < 0) : tailS l k = [] := by
  unfold tailS
  cases split l with
  | none => rfl
  | some ls => simp only; rw [if_neg (by omega)]

end Go.Proofs.Ytnamkladeaohoaa.nameB
namespace Go.Proofs.Ytnamkladeaohoaa.refC
open Go.RowKit Go.Proofs.Ytnamkladeaohoaa.kit Go.Proofs.Ytnamkladeaohoaa.nspec Go.Proofs.Ytnamkladeaohoaa.rsplit Go.Proofs.Ytnamkladeaohoaa.rput Go.Proofs.Ytnamkladeaohoaa.low Go.Proofs.Ytnamkladeaohoaa.refA Go.Proofs.Ytnamkladeaohoaa.refB Go.Proofs.Ytnamkladeaohoaa.nameB

/-- the row of cells that Split has made can be the source of an append -/
theorem SV.src {w : World} {g : Nat} {ls : List Bs} (m : Nat) (hc : ∀ (j : Nat) (x : Bs), ls[j]? = some x → w.cell? ⟨g, j, none⟩ = some (strV x)) :
    ∀ (j : Nat) (u : Value), ((ls.take m).map strV)[j]? = some u → w.cell? ((⟨g, 0, none⟩ : Addr).add j) = some u := by
  intro j u hu
  rw [List.getElem?_map] at hu
  cases hx : (ls.take m)[j]? with
  | none => rw [hx] at hu; simp at hu
  | some x =>
    rw [hx] at hu
    have hx' : ls[j]? = some x := by
      rw [List.getElem?_take] at hx; split at hx
      · exact hx
      · simp at hx
    have : u = strV x := by simpa using hu.symm
    subst this
    rw [addr_add]; exact hc j x hx'
theorem one_str (ls : List Bs) : ∀ u ∈ ls.map strV, u.oneCell' = true := by
  intro u hu; obtain ⟨x, _, rfl⟩ := List.mem_map.1 hu; rfl

def graftS (n f t : Bs) : Bs × Int :=
  match split n, split f, split t with
  | some l, some x, some y => if withinS n f then (if 255 < (put (l.take (l.length - x.length) ++ y)).length then ([], 4) else (put (l.take (l.length - x.length) ++ y), 0)) else ([], 5)
  | _, _, _ => ([], 1)
theorem ret_se {a : Bs} {b : Int} {p : Bs × Int} (h : (a, b) = p) : Ending.returned (.tuple #[.string ⟨a.toArray⟩, .int .i64 b]) = .returned (.tuple #[.string ⟨p.1.toArray⟩, .int .i64 p.2]) := by subst h; rfl

/-- append onto a nil list, then onto that, and Put: the part of Graft behind its tests -/
theorem within_len {n f : Bs} {l x : List Bs} (hn : IsN n l) (hf : IsN f x) (h : withinS n f = true) : x.length ≤ l.length ∧ (l.drop (l.length - x.length)).map lowL = x.map lowL := by
  have key : ∀ (g k : Nat), wF n f g k = true → ∃ j : Nat, equalS (tailS n (j : Int)) f = true := by
    intro g
    induction g with
    | zero => intro k h; simp [wF] at h
    | succ g ih =>
      intro k h
      simp only [wF] at h
      by_cases he : equalS (tailS n (k : Int)) f = true
      · exact ⟨k, he⟩
      · rw [if_neg he] at h; exact ih _ h
  obtain ⟨j, hj⟩ := key _ _ h
  rw [tailS_yes hn] at hj
  by_cases hjl : (0 : Int) ≤ (j : Int) ∧ (j : Int) ≤ (l.length : Int)
  · rw [if_pos hjl, Int.toNat_natCast] at hj
    have hd := isN_put (okL_drop (l.length - j) hn.2.1) (by have := room_drop l (l.length - j); have := isN_room hn; omega)
    have := hj
    unfold equalS at this
    rw [split_iff.2 hd, split_iff.2 hf] at this
    simp only [decide_eq_true_eq] at this
    have hlen := congrArg List.length this
    simp only [List.length_map, List.length_drop] at hlen
    have hjx : j = x.length := by omega
    subst hjx
    exact ⟨by omega, this⟩
  · rw [if_neg hjl] at hj
    have : split [] = none := rfl
    rw [equal_no1 this] at hj; simp at hj

theorem graftS_bad {n f t : Bs} (h : ((split n).isSome && (split f).isSome && (split t).isSome) = false) : graftS n f t = ([], 1) := by
  unfold graftS
  cases hn : split n with
  | none => rfl
  | some l => cases hf : split f with
    | none => rfl
    | some x => cases ht : split t with
      | none => rfl
      | some y => rw [hn, hf, ht] at h; simp at h
end Go.Proofs.Ytnamkladeaohoaa.refC
namespace Go.Proofs.Ytnamkladeaohoaa.nameC
open Go.RowKit Go.Proofs.Ytnamkladeaohoaa.kit Go.Proofs.Ytnamkladeaohoaa.check Go.Proofs.Ytnamkladeaohoaa.nspec Go.Proofs.Ytnamkladeaohoaa.rsplit Go.Proofs.Ytnamkladeaohoaa.rput Go.Proofs.Ytnamkladeaohoaa.low Go.Proofs.Ytnamkladeaohoaa.refA Go.Proofs.Ytnamkladeaohoaa.refB Go.Proofs.Ytnamkladeaohoaa.nameA Go.Proofs.Ytnamkladeaohoaa.nameB Go.Proofs.Ytnamkladeaohoaa.refC

theorem wF_iff {n z : Bs} : ∀ (g k : Nat), wF n z g k = true ↔ ∃ j, k ≤ j ∧ j < k + g ∧ equalS (tailS n (j : Int)) z = true
  | 0, k => by simp [wF]; intro j h1 h2; omega
  | g + 1, k => by
    simp only [wF]
    by_cases he : equalS (tailS n (k : Int)) z = true
    · rw [if_pos he]; simp only [true_iff]; exact ⟨k, Nat.le_refl _, by omega, he⟩
    · rw [if_neg he, wF_iff g (k + 1)]
      constructor
      · rintro ⟨j, h1, h2, h3⟩; exact ⟨j, by omega, by omega, h3⟩
      · rintro ⟨j, h1, h2, h3⟩
        rcases Nat.lt_or_eq_of_le h1 with h | h
        · exact ⟨j, by omega, by omega, h3⟩
        · subst h; exact absurd h3 he
theorem split_nil : split [] = none := rfl
theorem tail_isN {n : Bs} {l : List Bs} (h : IsN n l) (j : Nat) (hj : j ≤ l.length) : IsN (tailS n (j : Int)) (l.drop (l.length - j)) := by
  rw [tailS_yes h, if_pos ⟨by omega, by omega⟩, Int.toNat_natCast]
  exact isN_put (okL_drop _ h.2.1) (by have := room_drop l (l.length - j); have := isN_room h; omega)
theorem equal_len {a b : Bs} {x y : List Bs} (ha : IsN a x) (hb : IsN b y) (h : equalS a b = true) : x.length = y.length := by
  unfold equalS at h
  rw [split_iff.2 ha, split_iff.2 hb] at h
  simp only [decide_eq_true_eq] at h
  simpa using congrArg List.length h
theorem within_same (n z : Bs) : withinP n z = withinS n z := by
  unfold withinP withinS
  cases hz : split z with
  | none =>
    rw [countS_no hz]
    have : wF n z (countS n + 1).toNat 0 = false := by
      cases h : wF n z (countS n + 1).toNat 0 with
      | false => rfl
      | true =>
        obtain ⟨j, _, _, h3⟩ := (wF_iff _ _).1 h
        rw [equal_no2 hz] at h3; simp at h3
    rw [this]; rfl
  | some zs =>
    have hzs := split_iff.1 hz
    rw [countS_yes hzs]
    rw [decide_eq_true (by omega), Bool.true_and]
    cases hn : split n with
    | none =>
      rw [tailS_no hn, equal_no1 split_nil, countS_no hn]; rfl
    | some l =>
      have hl := split_iff.1 hn
      rw [countS_yes hl]
      rw [Bool.eq_iff_iff, wF_iff]
      constructor
      · intro h
        refine ⟨zs.length, Nat.zero_le _, ?_, h⟩
        by_cases hle : zs.length ≤ l.length
        · omega
        · rw [tailS_yes hl, if_neg (by omega), equal_no1 split_nil] at h; simp at h
      · rintro ⟨j, _, h2, h3⟩
        have hj : j ≤ l.length := by omega
        have := equal_len (tail_isN hl j hj) hzs h3
        rw [List.length_drop] at this
        have e : j = zs.length := by omega
        rw [← e]; exact h3

theorem room_same : ∀ (a b : List Bs), a.map lowL = b.map lowL → room a = room b := by
  intro a b h
  rw [← room_low a, ← room_low b, h]
theorem graft_plain {n f t : Bs} {l x y : List Bs} (hn : IsN n l) (hf : IsN f x) (ht : IsN t y) (hw : withinS n f = true) :
    f.length ≤ n.length ∧ n.take (n.length - f.length) ++ t = put (l.take (l.length - x.length) ++ y) := by
  obtain ⟨h1, h2⟩ := within_len hn hf hw
  have hr := room_same _ _ h2
  have hra : room l = room (l.take (l.length - x.length)) + room (l.drop (l.length - x.length)) := by rw [← room_append, List.take_append_drop]
  have hnl : n.length = room l + 1 := by rw [hn.1, put_length]
  have hfl : f.length = room x + 1 := by rw [hf.1, put_length]
  refine ⟨by omega, ?_⟩
  have hd : n.length - f.length = room (l.take (l.length - x.length)) := by omega
  rw [hd, put_append]
  congr 1
  · rw [hn.1]
    have h : put l = (l.take (l.length - x.length)).flatMap (fun x => UInt8.ofNat x.length :: x) ++ put (l.drop (l.length - x.length)) := by
      rw [← put_append, List.take_append_drop]
    rw [h, ← flat_length]
    exact List.take_left
  · exact ht.1

end Go.Proofs.Ytnamkladeaohoaa.nameC
namespace Go.Proofs.Ytnamkladeaohoaa.nameL
open Go.RowKit Go.Shelf Go.Proofs.Ytnamkladeaohoaa.kit Go.Proofs.Ytnamkladeaohoaa.labels Go.Proofs.Ytnamkladeaohoaa.check Go.Proofs.Ytnamkladeaohoaa.nspec Go.Proofs.Ytnamkladeaohoaa.rsplit Go.Proofs.Ytnamkladeaohoaa.low Go.Proofs.Ytnamkladeaohoaa.refA Go.Proofs.Ytnamkladeaohoaa.nameA
attribute [local go_sem] Oper.semAt_some

/-- the labels among the pairs -/
def labsOf (l : List (Nat × ByteArray)) : List Bs := (l.map (fun p => p.2.data.toList)).filter (fun x => !x.isEmpty)
theorem labsOf_pairs : ∀ (k : Nat) (ls : List Bs), okL ls → labsOf (pairsL k ls) = ls
  | k, [], _ => by simp [pairsL, labsOf]
  | k, x :: r, h => by
    obtain ⟨⟨h1, _⟩, h3⟩ := okL_cons.1 h
    have := labsOf_pairs (k + 1 + x.length) r h3
    have hx : x.isEmpty = false := by
      cases x with
      | nil => simp at h1
      | cons a b => rfl
    simp only [labsOf, pairsL, List.map_cons, List.filter_cons, hx] at this ⊢
    rw [this]; rfl
theorem labsOf_yes {N : Nat} {pre : List (Lab N)} {x : Lab N} (h : x.val.2.toList.isEmpty = false) : labsOf (raw (pre ++ [x])) = labsOf (raw pre) ++ [x.val.2.data.toList] := by
  rw [Lib.toList_data] at h
  rw [raw_snoc]; simp [labsOf, h]
theorem labsOf_no {N : Nat} {pre : List (Lab N)} {x : Lab N} (h : x.val.2.toList = []) : labsOf (raw (pre ++ [x])) = labsOf (raw pre) := by
  rw [Lib.toList_data] at h
  rw [raw_snoc]; simp [labsOf, h]
theorem labsOf_len (l : List (Nat × ByteArray)) : (labsOf l).length ≤ l.length := by
  unfold labsOf
  exact Nat.le_trans (List.length_filter_le _ _) (by simp)

/-- an append in a round: the box of the list, the list itself, and all that lay there -/
theorem lab_append {W w3 : World} {n₀ B : Nat} {t e : TypeId} {v v' : Value} {k m : Nat} {xs ys : List Value} {tmp : Obj} (hv : Boxed W B t v) (hrow : W.ownsRow n₀ e 1 v k xs) (hn : n₀ ≤ W.heap.size) (hB : B < n₀)
    (hown' : w3.ownsRow n₀ e 1 v' m ys) (hgrow : (W.alloc tmp).grownBy w3 v.ownBlock) :
    Boxed w3 B t v ∧ Boxed (w3.setCell ⟨B, 0, none⟩ v') B t v' ∧ (w3.setCell ⟨B, 0, none⟩ v').ownsRow n₀ e 1 v' m ys ∧ KeepsOthers W (w3.setCell ⟨B, 0, none⟩ v') ∧ Below B W (w3.setCell ⟨B, 0, none⟩ v') ∧
      (∀ Bs, Bs < n₀ → Bs < W.heap.size → Bs ≠ B → KeepBox Bs W (w3.setCell ⟨B, 0, none⟩ v')) := by
  have hne : ∀ j, j < n₀ → some j ≠ v.ownBlock := fun j hj e => by have := (hrow.lt j e.symm).1; omega
  have hne' : some B ≠ v'.ownBlock := fun e => by have := (hown'.lt B e.symm).1; omega
  have hv1 : Boxed w3 B t v := (hv.alloc tmp).kept hgrow (hne B hB)
  refine ⟨hv1, hv1.set v', hown'.kept (grownBy_setCell' w3 B v') (.inr hne'.symm), ?_, ?_, ?_⟩
  · refine ((KeepsOthers.alloc W tmp).trans (KeepsOthers.of_grownBy hgrow fun j o ej hj => ?_)).trans (KeepsOthers.setCell _ _ _)
    rcases (hrow.alloc tmp).2 with ⟨rfl, _⟩ | ⟨g, cap, cur, rfl, _, hgb, _⟩
    · simp [Value.ownBlock] at ej
    · obtain rfl : g = j := by simpa [Value.ownBlock] using ej
      rw [hgb] at hj; cases hj; rfl
  · refine (((Below.refl B W).alloc (by omega) tmp).grown hgrow (by simp; omega) fun j ej => ?_).setCell (p := ⟨B, 0, none⟩) (Nat.le_refl _) v'
    have := (hrow.lt j ej).1; omega
  · intro Bs h1 h2 h3
    have e1 := Below.heap_alloc W tmp Bs h2
    have e2 := hgrow.block Bs (by simp; omega) (hne Bs h1)
    exact World.cell?_of_block ((Below.heap_setCell w3 ⟨B, 0, none⟩ v' Bs h3).trans (e2.trans e1))

def labS (l : Bs) : List Bs := match split l with | some ls => ls | none => []
theorem lab_low {l : Bs} {ls : List Bs} (h : IsN l ls) : IsN (lowL l) (ls.map lowL) := by
  have := nameB.low_put h.2.1
  refine ⟨by rw [h.1, this], okL_low h.2.1, ?_⟩
  have h3 := h.2.2
  simpa [lowL] using h3
end Go.Proofs.Ytnamkladeaohoaa.nameL

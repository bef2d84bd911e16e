/- Unpacking in plain words. What is packed is unpacked: plain. Rows of so many cells: read, owned, appended. wire.cursor: need, number: walks. -/
import Derived.Test.YtabhiangjomaeaaU10
import Derived.Test.YtabhiangjomaeaaU14
import Derived.Test.YtabhiangjomaeaaU12
import Derived.Deep.QuietTactic
import Derived.BigQuiet
namespace Go.Proofs.Ytabhiangjomaeaa.unpP
open Go.RowKit Go.Proofs.Ytabhiangjomaeaa.kit Go.Proofs.Ytabhiangjomaeaa.nspec Go.Proofs.Ytabhiangjomaeaa.rsplit Go.Proofs.Ytabhiangjomaeaa.check Go.Proofs.Ytabhiangjomaeaa.fld Go.Proofs.Ytabhiangjomaeaa.wireP Go.Proofs.Ytabhiangjomaeaa.wireM Go.Proofs.Ytabhiangjomaeaa.packP
set_option linter.unusedVariables false

def atB (b : Bs) (k : Nat) : Nat := (b.getD k 0).toNat
theorem atB_lt (b : Bs) (k : Nat) : atB b k < 256 := (b.getD k 0).toNat_lt
def cutB (b : Bs) (i j : Nat) : Bs := (b.drop i).take (j - i)
/-- a fault, or what was read and where it goes on -/
inductive Got (α : Type) where
  | bad (e : Int)
  | ok (x : α) (k : Nat)
/-- a name that may be short, from a place on -/
def nameU : Nat → Bs → Nat → Nat → Nat → Int → Nat → Got Bs
  | 0, _, _, _, _, _, _ => .bad 0
  | f + 1, b, at', start, lim, over, had =>
    if lim ≤ at' then .bad over
    else if atB b at' = 0 then .ok [0] (at' + 1)
    else if atB b at' < 64 then
      if lim < at' + 1 + atB b at' then .bad over
      else if 255 < had + 1 + atB b at' + 1 then .bad 4
      else match nameU f b (at' + 1 + atB b at') start lim over (had + 1 + atB b at') with
        | .bad e => .bad e
        | .ok r k => .ok (cutB b at' (at' + 1 + atB b at') ++ r) k
    else if atB b at' < 192 then .bad 9
    else if lim < at' + 2 then .bad over
    else if start ≤ (atB b at' - 192) * 256 + atB b (at' + 1) then .bad 9
    else match nameU f b ((atB b at' - 192) * 256 + atB b (at' + 1)) ((atB b at' - 192) * 256 + atB b (at' + 1)) b.length 10 had with
      | .bad e => .bad e
      | .ok r _ => .ok r (at' + 2)
/-- how much is left to read: labels, and places further ahead -/
def leftU (start had : Nat) : Nat := (256 - had) + start + 1
theorem nameU_fuel : ∀ (f g : Nat) (b : Bs) (k start lim : Nat) (over : Int) (had : Nat), had ≤ 255 → leftU start had < f → leftU start had < g → nameU f b k start lim over had = nameU g b k start lim over had
  | 0, _, _, _, _, _, _, _, _, h, _ => by omega
  | _, 0, _, _, _, _, _, _, _, _, h => by omega
  | f + 1, g + 1, b, k, start, lim, over, had, h0, h1, h2 => by
    simp only [nameU]
    unfold leftU at h1 h2
    by_cases c1 : lim ≤ k
    · rw [if_pos c1, if_pos c1]
    rw [if_neg c1, if_neg c1]
    by_cases c2 : atB b k = 0
    · rw [if_pos c2, if_pos c2]
    rw [if_neg c2, if_neg c2]
    by_cases c3 : atB b k < 64
    · rw [if_pos c3, if_pos c3]
      by_cases c4 : lim < k + 1 + atB b k
      · rw [if_pos c4, if_pos c4]
      rw [if_neg c4, if_neg c4]
      by_cases c5 : 255 < had + 1 + atB b k + 1
      · rw [if_pos c5, if_pos c5]
      rw [if_neg c5, if_neg c5]
      rw [nameU_fuel f g b _ start lim over _ (by omega) (by unfold leftU; omega) (by unfold leftU; omega)]
    rw [if_neg c3, if_neg c3]
    by_cases c6 : atB b k < 192
    · rw [if_pos c6, if_pos c6]
    rw [if_neg c6, if_neg c6]
    by_cases c7 : lim < k + 2
    · rw [if_pos c7, if_pos c7]
    rw [if_neg c7, if_neg c7]
    by_cases c8 : start ≤ (atB b k - 192) * 256 + atB b (k + 1)
    · rw [if_pos c8, if_pos c8]
    rw [if_neg c8, if_neg c8]
    rw [nameU_fuel f g b _ _ b.length 10 had h0 (by unfold leftU; omega) (by unfold leftU; omega)]
def nameR (b : Bs) (k start lim : Nat) (over : Int) (had : Nat) : Got Bs := nameU (leftU start had + 1) b k start lim over had
/-- one step -/
theorem nameR_step (b : Bs) (k start lim : Nat) (over : Int) (had : Nat) (h0 : had ≤ 255) : nameR b k start lim over had =
    if lim ≤ k then .bad over
    else if atB b k = 0 then .ok [0] (k + 1)
    else if atB b k < 64 then
      if lim < k + 1 + atB b k then .bad over
      else if 255 < had + 1 + atB b k + 1 then .bad 4
      else match nameR b (k + 1 + atB b k) start lim over (had + 1 + atB b k) with
        | .bad e => .bad e
        | .ok r j => .ok (cutB b k (k + 1 + atB b k) ++ r) j
    else if atB b k < 192 then .bad 9
    else if lim < k + 2 then .bad over
    else if start ≤ (atB b k - 192) * 256 + atB b (k + 1) then .bad 9
    else match nameR b ((atB b k - 192) * 256 + atB b (k + 1)) ((atB b k - 192) * 256 + atB b (k + 1)) b.length 10 had with
      | .bad e => .bad e
      | .ok r _ => .ok r (k + 2) := by
  unfold nameR
  conv => lhs; simp only [nameU]
  by_cases c1 : lim ≤ k
  · rw [if_pos c1, if_pos c1]
  rw [if_neg c1, if_neg c1]
  by_cases c2 : atB b k = 0
  · rw [if_pos c2, if_pos c2]
  rw [if_neg c2, if_neg c2]
  by_cases c3 : atB b k < 64
  · rw [if_pos c3, if_pos c3]
    by_cases c4 : lim < k + 1 + atB b k
    · rw [if_pos c4, if_pos c4]
    rw [if_neg c4, if_neg c4]
    by_cases c5 : 255 < had + 1 + atB b k + 1
    · rw [if_pos c5, if_pos c5]
    rw [if_neg c5, if_neg c5]
    rw [nameU_fuel (leftU start had) (leftU start (had + 1 + atB b k) + 1) b _ start lim over _ (by omega) (by unfold leftU; omega) (by omega)]
  rw [if_neg c3, if_neg c3]
  by_cases c6 : atB b k < 192
  · rw [if_pos c6, if_pos c6]
  rw [if_neg c6, if_neg c6]
  by_cases c7 : lim < k + 2
  · rw [if_pos c7, if_pos c7]
  rw [if_neg c7, if_neg c7]
  by_cases c8 : start ≤ (atB b k - 192) * 256 + atB b (k + 1)
  · rw [if_pos c8, if_pos c8]
  rw [if_neg c8, if_neg c8]
  rw [nameU_fuel (leftU start had) (leftU ((atB b k - 192) * 256 + atB b (k + 1)) had + 1) b _ _ b.length 10 had h0 (by unfold leftU; omega) (by omega)]
theorem cut_len (b : Bs) (i j : Nat) (h : i ≤ j) (hj : j ≤ b.length) : (cutB b i j).length = j - i := by
  unfold cutB; rw [List.length_take, List.length_drop]; omega
theorem cut_head (b : Bs) (k n : Nat) (hk : k < b.length) : cutB b k (k + 1 + n) = b.getD k 0 :: cutB b (k + 1) (k + 1 + n) := by
  unfold cutB
  rw [List.drop_eq_getElem_cons hk, show k + 1 + n - k = n + 1 by omega, List.take_succ_cons, show k + 1 + n - (k + 1) = n by omega]
  rw [List.getD_eq_getElem?_getD, List.getElem?_eq_getElem hk]; rfl
/-- what is read is a name -/
theorem nameU_is : ∀ (f : Nat) (b : Bs) (k start lim : Nat) (over : Int) (had : Nat) (s : Bs) (j : Nat), had + 1 ≤ 255 → lim ≤ b.length → nameU f b k start lim over had = .ok s j → ∃ ls, s = put ls ∧ okL ls ∧ had + s.length ≤ 255
  | 0, b, k, start, lim, over, had, s, j, _, _, h => by simp [nameU] at h
  | f + 1, b, k, start, lim, over, had, s, j, h0, hl, h => by
    simp only [nameU] at h
    by_cases c1 : lim ≤ k
    · rw [if_pos c1] at h; cases h
    rw [if_neg c1] at h
    by_cases c2 : atB b k = 0
    · rw [if_pos c2] at h; cases h
      exact ⟨[], rfl, by simp [okL], by simpa using h0⟩
    rw [if_neg c2] at h
    by_cases c3 : atB b k < 64
    · rw [if_pos c3] at h
      by_cases c4 : lim < k + 1 + atB b k
      · rw [if_pos c4] at h; cases h
      rw [if_neg c4] at h
      by_cases c5 : 255 < had + 1 + atB b k + 1
      · rw [if_pos c5] at h; cases h
      rw [if_neg c5] at h
      cases hr : nameU f b (k + 1 + atB b k) start lim over (had + 1 + atB b k) with
      | bad e => rw [hr] at h; cases h
      | ok r j' =>
        rw [hr] at h; cases h
        obtain ⟨ls, h1, h2, h3⟩ := nameU_is f b _ start lim over _ r j (by omega) hl hr
        have hlen : (cutB b (k + 1) (k + 1 + atB b k)).length = atB b k := by rw [cut_len b _ _ (by omega) (by omega)]; omega
        refine ⟨cutB b (k + 1) (k + 1 + atB b k) :: ls, ?_, okL_cons.2 ⟨by rw [hlen]; omega, h2⟩, ?_⟩
        · rw [cut_head b k _ (by omega), h1]
          simp only [put, hlen, List.cons_append]
          congr 1
          show b.getD k 0 = UInt8.ofNat (atB b k)
          unfold atB; simp
        · rw [List.length_append, cut_len b _ _ (by omega) (by omega)]; omega
    rw [if_neg c3] at h
    by_cases c6 : atB b k < 192
    · rw [if_pos c6] at h; cases h
    rw [if_neg c6] at h
    by_cases c7 : lim < k + 2
    · rw [if_pos c7] at h; cases h
    rw [if_neg c7] at h
    by_cases c8 : start ≤ (atB b k - 192) * 256 + atB b (k + 1)
    · rw [if_pos c8] at h; cases h
    rw [if_neg c8] at h
    cases hr : nameU f b ((atB b k - 192) * 256 + atB b (k + 1)) ((atB b k - 192) * 256 + atB b (k + 1)) b.length 10 had with
    | bad e => rw [hr] at h; cases h
    | ok r j' =>
      rw [hr] at h; cases h
      exact nameU_is f b _ _ b.length 10 had s j' h0 (Nat.le_refl _) hr
/-- where it goes on -/
theorem nameU_next : ∀ (f : Nat) (b : Bs) (k start lim : Nat) (over : Int) (had : Nat) (s : Bs) (j : Nat), nameU f b k start lim over had = .ok s j → k < j ∧ j ≤ lim
  | 0, b, k, start, lim, over, had, s, j, h => by simp [nameU] at h
  | f + 1, b, k, start, lim, over, had, s, j, h => by
    simp only [nameU] at h
    by_cases c1 : lim ≤ k
    · rw [if_pos c1] at h; cases h
    rw [if_neg c1] at h
    by_cases c2 : atB b k = 0
    · rw [if_pos c2] at h; cases h; omega
    rw [if_neg c2] at h
    by_cases c3 : atB b k < 64
    · rw [if_pos c3] at h
      by_cases c4 : lim < k + 1 + atB b k
      · rw [if_pos c4] at h; cases h
      rw [if_neg c4] at h
      by_cases c5 : 255 < had + 1 + atB b k + 1
      · rw [if_pos c5] at h; cases h
      rw [if_neg c5] at h
      cases hr : nameU f b (k + 1 + atB b k) start lim over (had + 1 + atB b k) with
      | bad e => rw [hr] at h; cases h
      | ok r j' =>
        rw [hr] at h; cases h
        have := nameU_next f b _ start lim over _ r j hr
        omega
    rw [if_neg c3] at h
    by_cases c6 : atB b k < 192
    · rw [if_pos c6] at h; cases h
    rw [if_neg c6] at h
    by_cases c7 : lim < k + 2
    · rw [if_pos c7] at h; cases h
    rw [if_neg c7] at h
    by_cases c8 : start ≤ (atB b k - 192) * 256 + atB b (k + 1)
    · rw [if_pos c8] at h; cases h
    rw [if_neg c8] at h
    cases hr : nameU f b ((atB b k - 192) * 256 + atB b (k + 1)) ((atB b k - 192) * 256 + atB b (k + 1)) b.length 10 had with
    | bad e => rw [hr] at h; cases h
    | ok r j' => rw [hr] at h; cases h; omega
/-- a name from a place on -/
def nameAt (b : Bs) (k lim : Nat) (over : Int) : Got Bs := nameR b k k lim over 0
def num2 (b : Bs) (k : Nat) : Nat := atB b k * 256 + atB b (k + 1)
def num4 (b : Bs) (k : Nat) : Nat := num2 b k * 65536 + num2 b (k + 2)
/-- data field by field: names made whole -/
def dataU : List (Option Nat) → Bs → Nat → Nat → Bs → Got Bs
  | [], b, k, lim, acc => if k = lim then .ok acc lim else .bad 7
  | none :: fs, b, k, lim, acc => match nameAt b k lim 7 with
    | .bad e => .bad e
    | .ok s j => dataU fs b j lim (acc ++ s)
  | some n :: fs, b, k, lim, acc => if lim < k + n then .bad 7 else dataU fs b (k + n) lim (acc ++ cutB b k (k + n))
def mkB (l : Bs) : ByteArray := ⟨l.toArray⟩
/-- a record from a place on -/
def recU (b : Bs) (k : Nat) : Got Rc :=
  match nameAt b k b.length 10 with
  | .bad e => .bad e
  | .ok o j =>
    if b.length < j + 10 then .bad 10
    else if b.length < j + 10 + num2 b (j + 8) then .bad 10
    else match (if num2 b (j + 8) = 0 ∨ shortL (num2 b j) = [] then Got.ok (cutB b (j + 10) (j + 10 + num2 b (j + 8))) 0 else dataU (shortL (num2 b j)) b (j + 10) (j + 10 + num2 b (j + 8)) []) with
      | .bad e => .bad e
      | .ok d _ =>
        if rightB ⟨mkB o, num2 b j, num2 b (j + 2), num4 b (j + 4), mkB d⟩ = true then .ok ⟨mkB o, num2 b j, num2 b (j + 2), num4 b (j + 4), mkB d⟩ (j + 10 + num2 b (j + 8)) else .bad 7
/-- a question from a place on -/
def quesU (b : Bs) (k : Nat) : Got Qn :=
  match nameAt b k b.length 10 with
  | .bad e => .bad e
  | .ok o j => if b.length < j + 4 then .bad 10 else .ok ⟨mkB o, num2 b j, num2 b (j + 2)⟩ (j + 4)
/-- so many things from a place on: the fault, and where it stands -/
inductive Many (α : Type) where
  | bad (e : Int) (k : Nat)
  | ok (l : List α) (k : Nat)
def manyU {α : Type} (f : Nat → Got α) : Nat → Nat → Many α
  | 0, k => .ok [] k
  | n + 1, k => match f k with
    | .bad e => .bad e k
    | .ok x j => match manyU f n j with
      | .bad e i => .bad e i
      | .ok l i => .ok (x :: l) i
def noM : Mg := ⟨0, false, 0, false, false, false, false, false, false, 0, [], [], [], []⟩
def signB (v k : Nat) : Bool := decide (v / 2 ^ k % 2 = 1)
/-- a message out of bytes, where its fault stands, and the fault -/
def unpackS (b : Bs) : Mg × Nat × Int :=
  if 65535 < b.length then (noM, 0, 12)
  else if b.length < 12 then (noM, b.length, 10)
  else if atB b 3 / 64 % 2 = 1 then (noM, 2, 8)
  else match manyU (quesU b) (num2 b 4) 12 with
    | .bad e k => (noM, k, e)
    | .ok qs k0 => match manyU (recU b) (num2 b 6) k0 with
      | .bad e k => (noM, k, e)
      | .ok an k1 => match manyU (recU b) (num2 b 8) k1 with
        | .bad e k => (noM, k, e)
        | .ok au k2 => match manyU (recU b) (num2 b 10) k2 with
          | .bad e k => (noM, k, e)
          | .ok ar k3 =>
            if k3 < b.length then (noM, k3, 11)
            else (⟨num2 b 0, signB (num2 b 2) 15, num2 b 2 / 2048 % 16, signB (num2 b 2) 10, signB (num2 b 2) 9, signB (num2 b 2) 8, signB (num2 b 2) 7, signB (num2 b 2) 5, signB (num2 b 2) 4, num2 b 2 % 16, qs, an, au, ar⟩, 0, 0)
end Go.Proofs.Ytabhiangjomaeaa.unpP
namespace Go.Proofs.Ytabhiangjomaeaa.roundU
open Go.Proofs.Ytabhiangjomaeaa.kit Go.Proofs.Ytabhiangjomaeaa.nspec Go.Proofs.Ytabhiangjomaeaa.rsplit Go.Proofs.Ytabhiangjomaeaa.check Go.Proofs.Ytabhiangjomaeaa.fld Go.Proofs.Ytabhiangjomaeaa.wireP Go.Proofs.Ytabhiangjomaeaa.wireM Go.Proofs.Ytabhiangjomaeaa.packP Go.Proofs.Ytabhiangjomaeaa.psmall Go.Proofs.Ytabhiangjomaeaa.fits Go.Proofs.Ytabhiangjomaeaa.pdata Go.Proofs.Ytabhiangjomaeaa.wpack Go.Proofs.Ytabhiangjomaeaa.unpP Go.Proofs.Ytabhiangjomaeaa.shortP
set_option linter.unusedVariables false

theorem atB_app {b : Bs} (t : Bs) {k : Nat} (h : k < b.length) : atB (b ++ t) k = atB b k := by
  unfold atB; rw [List.getD_eq_getElem?_getD, List.getD_eq_getElem?_getD, List.getElem?_append_left h]
theorem atB_more (b t : Bs) (i : Nat) : atB (b ++ t) (b.length + i) = atB t i := by
  unfold atB; rw [List.getD_eq_getElem?_getD, List.getD_eq_getElem?_getD, List.getElem?_append_right (by omega), show b.length + i - b.length = i by omega]
theorem cutB_app {b : Bs} (t : Bs) {i j : Nat} (h : j ≤ b.length) : cutB (b ++ t) i j = cutB b i j := by
  unfold cutB
  by_cases hi : i ≤ b.length
  · rw [List.drop_append_of_le_length hi, List.take_append_of_le_length (by rw [List.length_drop]; omega)]
  · rw [show j - i = 0 by omega]; simp
theorem cutB_more (b t : Bs) (i j : Nat) : cutB (b ++ t) (b.length + i) (b.length + j) = cutB t i j := by
  unfold cutB
  rw [show b.length + j - (b.length + i) = j - i by omega, show b.length + i = b.length + i from rfl, List.drop_append, List.drop_eq_nil_of_le (by omega), show b.length + i - b.length = i by omega, List.nil_append]
/-- labels that stand in bytes from a place on: the part that is read first began at s and ends ahead of j -/
inductive Stands (b : Bs) : Nat → Nat → List Bs → Nat → Prop
  | done (k s : Nat) : k < b.length → atB b k = 0 → Stands b k s [] (k + 1)
  | more (k s : Nat) (x : Bs) (r : List Bs) (j : Nat) : 1 ≤ x.length → x.length ≤ 63 → k + 1 + x.length ≤ b.length → atB b k = x.length → cutB b k (k + 1 + x.length) = UInt8.ofNat x.length :: x → Stands b (k + 1 + x.length) s r j → Stands b k s (x :: r) j
  | point (k s : Nat) (ls : List Bs) (T j : Nat) : k + 2 ≤ b.length → 192 ≤ atB b k → T = (atB b k - 192) * 256 + atB b (k + 1) → T < s → Stands b T T ls j → Stands b k s ls (k + 2)
theorem Stands.le {b : Bs} {k s : Nat} {ls : List Bs} {j : Nat} (h : Stands b k s ls j) : k < j ∧ j ≤ b.length := by
  induction h with
  | done k s h0 h1 => omega
  | more k s x r j h0 h1 h2 h3 h4 h5 ih => omega
  | point k s ls T j h0 h1 h2 h3 h4 ih => omega
theorem Stands.app {b : Bs} {k s : Nat} {ls : List Bs} {j : Nat} (h : Stands b k s ls j) (t : Bs) : Stands (b ++ t) k s ls j := by
  induction h with
  | done k s h0 h1 => exact .done k s (by rw [List.length_append]; omega) (by rw [atB_app t h0]; exact h1)
  | more k s x r j h0 h1 h2 h3 h4 h5 ih => exact .more k s x r j h0 h1 (by rw [List.length_append]; omega) (by rw [atB_app t (by omega)]; exact h3) (by rw [cutB_app t h2]; exact h4) ih
  | point k s ls T j h0 h1 h2 h3 h4 ih => exact .point k s ls T j (by rw [List.length_append]; omega) (by rw [atB_app t (by omega)]; exact h1) (by rw [atB_app t (by omega), atB_app t (by omega)]; exact h2) h3 ih
theorem Stands.start {b : Bs} {k s : Nat} {ls : List Bs} {j : Nat} (h : Stands b k s ls j) : ∀ s', s ≤ s' → Stands b k s' ls j := by
  induction h with
  | done k s h0 h1 => exact fun s' hs => .done k s' h0 h1
  | more k s x r j h0 h1 h2 h3 h4 h5 ih => exact fun s' hs => .more k s' x r j h0 h1 h2 h3 h4 (ih s' hs)
  | point k s ls T j h0 h1 h2 h3 h4 ih => exact fun s' hs => .point k s' ls T j h0 h1 h2 (by omega) h4
/-- it is read -/
theorem Stands.read {b : Bs} {k s : Nat} {ls : List Bs} {j : Nat} (h : Stands b k s ls j) : ∀ (lim : Nat) (over : Int) (had : Nat), j ≤ lim → lim ≤ b.length → had + (put ls).length ≤ 255 → nameR b k s lim over had = .ok (put ls) j := by
  induction h with
  | done k s h0 h1 =>
    intro lim over had hj hl hh
    rw [nameR_step b k s lim over had (by omega), if_neg (by omega), if_pos h1]; rfl
  | more k s x r j h0 h1 h2 h3 h4 h5 ih =>
    intro lim over had hj hl hh
    have h6 := h5.le
    have h7 := put_cons_len x r
    have h8 := put_len_pos r
    rw [nameR_step b k s lim over had (by omega), if_neg (by omega), h3, if_neg (by omega), if_pos (by omega), if_neg (by omega), if_neg (by omega), ih lim over (had + 1 + x.length) hj hl (by omega), h4]
    rfl
  | point k s ls T j h0 h1 h2 h3 h4 ih =>
    intro lim over had hj hl hh
    have h6 := h4.le
    rw [nameR_step b k s lim over had (by omega), if_neg (by omega), if_neg (by omega), if_neg (by omega), if_neg (by omega), if_neg (by omega), ← h2, if_neg (by omega), ih b.length 10 had h6.2 (Nat.le_refl _) hh]
theorem take_len {b : Bs} {c : Nat} (h : c ≤ b.length) : (b.take c).length = c := by rw [List.length_take]; omega
theorem atB_take {b : Bs} {c k : Nat} (h : k < c) : atB (b.take c) k = atB b k := by
  unfold atB; rw [List.getD_eq_getElem?_getD, List.getD_eq_getElem?_getD, List.getElem?_take, if_pos h]
/-- cut within it: the bytes end -/
theorem Stands.cut {b : Bs} {k s : Nat} {ls : List Bs} {j : Nat} (h : Stands b k s ls j) : ∀ (c had : Nat), k ≤ c → c < j → had + (put ls).length ≤ 255 → nameR (b.take c) k s c 10 had = .bad 10 := by
  induction h with
  | done k s h0 h1 =>
    intro c had hk hj hh
    rw [nameR_step _ k s c 10 had (by omega), if_pos (by omega)]
  | more k s x r j h0 h1 h2 h3 h4 h5 ih =>
    intro c had hk hj hh
    have h7 := put_cons_len x r
    have h8 := put_len_pos r
    rw [nameR_step _ k s c 10 had (by omega)]
    by_cases e1 : c ≤ k
    · rw [if_pos e1]
    rw [if_neg e1, atB_take (by omega), h3, if_neg (by omega), if_pos (by omega)]
    by_cases e2 : c < k + 1 + x.length
    · rw [if_pos e2]
    rw [if_neg e2, if_neg (by omega), ih c (had + 1 + x.length) (by omega) hj (by omega)]
  | point k s ls T j h0 h1 h2 h3 h4 ih =>
    intro c had hk hj hh
    rw [nameR_step _ k s c 10 had (by omega)]
    by_cases e1 : c ≤ k
    · rw [if_pos e1]
    rw [if_neg e1, atB_take (by omega), if_neg (by omega), if_neg (by omega), if_neg (by omega), if_pos (by omega)]

theorem byte_two (v : Nat) (t : Bs) : atB (byte (v : Int) :: t) 0 = v % 256 := by
  simp only [atB, byte, List.getD_cons_zero]
  rw [show ((v : Int) % 256).toNat = v % 256 by omega, UInt8.toNat_ofNat_of_lt' (by show v % 256 < 256; omega)]
theorem atB_zero (c : UInt8) (t : Bs) : atB (c :: t) 0 = c.toNat := rfl
theorem atB_succ (c : UInt8) (t : Bs) (i : Nat) : atB (c :: t) (i + 1) = atB t i := by simp [atB]
theorem byte_nat {v : Int} (h0 : 0 ≤ v) : (byte v).toNat = v.toNat % 256 := by
  unfold byte
  rw [UInt8.toNat_ofNat_of_lt' (by show (v % 256).toNat < 256; omega)]; omega
theorem be2_len (v : Int) : (be2 v).length = 2 := rfl
theorem be4_len (v : Int) : (be4 v).length = 4 := rfl
/-- two bytes back -/
theorem num2_be2 {v : Int} (h0 : 0 ≤ v) (h1 : v ≤ 65535) (t : Bs) : num2 (be2 v ++ t) 0 = v.toNat := by
  simp only [num2, be2, List.cons_append, List.nil_append, atB_zero, atB_succ]
  rw [byte_nat (by omega), byte_nat h0]; omega
theorem num2_more (b t : Bs) (i : Nat) : num2 (b ++ t) (b.length + i) = num2 t i := by
  unfold num2; rw [atB_more, Nat.add_assoc, atB_more]
theorem num4_more (b t : Bs) (i : Nat) : num4 (b ++ t) (b.length + i) = num4 t i := by
  unfold num4; rw [num2_more, Nat.add_assoc, num2_more]
theorem num4_be4 {v : Int} (h0 : 0 ≤ v) (h1 : v ≤ 4294967295) (t : Bs) : num4 (be4 v ++ t) 0 = v.toNat := by
  unfold num4 be4
  rw [List.append_assoc, num2_be2 (by omega) (by omega)]
  have e := num2_more (be2 (v / 65536)) (be2 v ++ t) 0
  rw [be2_len] at e
  rw [e]
  have e2 : num2 (be2 v ++ t) 0 = (v % 65536).toNat := by
    simp only [num2, be2, List.cons_append, List.nil_append, atB_zero, atB_succ]
    rw [byte_nat (by omega), byte_nat h0]; omega
  rw [e2]; omega

/-- what is noted stands there -/
def Inv (p : Pp) : Prop := ∀ r k, (r, k) ∈ p.N → k ≤ 16383 ∧ k < p.out.length ∧ ∃ ls j, r = put ls ∧ okL ls ∧ Stands p.out k k ls j
theorem Inv.app {p : Pp} (h : Inv p) (t : Bs) : Inv ⟨p.out ++ t, p.N⟩ := by
  intro r k hm
  obtain ⟨h1, h2, ls, j, h3, h4, h5⟩ := h r k hm
  exact ⟨h1, by rw [List.length_append]; omega, ls, j, h3, h4, h5.app t⟩
theorem take_put {x : Bs} {r : List Bs} (h : x.length ≤ 63) : (put (x :: r)).take (1 + x.length) = UInt8.ofNat x.length :: x := by
  rw [Nat.add_comm]; simp only [put, List.take_succ_cons, List.take_left]
theorem cut_all (a b : Bs) {n : Nat} (h : b.length = n) (t : Bs) : cutB (a ++ b ++ t) a.length (a.length + n) = b := by
  have e := cutB_more a (b ++ t) 0 n
  rw [Nat.add_zero, ← List.append_assoc] at e
  rw [e]; unfold cutB
  rw [Nat.sub_zero, List.drop_zero, ← h, List.take_left]
theorem name_reads : ∀ (ls : List Bs) (p : Pp) (s : Nat), okL ls → s ≤ p.out.length →
    (∀ r k, (r, k) ∈ p.N → k ≤ 16383 ∧ ((k < s ∧ ∃ ls' j, r = put ls' ∧ okL ls' ∧ Stands p.out k k ls' j) ∨ (put ls).length < r.length)) →
    (∃ t, (nameP (put ls) p).out = p.out ++ t) ∧ Stands (nameP (put ls) p).out p.out.length s ls (nameP (put ls) p).out.length ∧
      (∀ r k, (r, k) ∈ (nameP (put ls) p).N → (r, k) ∈ p.N ∨ (k ≤ 16383 ∧ k < (nameP (put ls) p).out.length ∧ ∃ ls', r = put ls' ∧ okL ls' ∧ Stands (nameP (put ls) p).out k k ls' (nameP (put ls) p).out.length))
  | [], p, s, ho, hs, hN => by
    have e : nameP (put []) p = ⟨p.out ++ [0], p.N⟩ := nameP_end
    rw [e]
    refine ⟨⟨_, rfl⟩, ?_, fun r k h => .inl h⟩
    have h := atB_more p.out [0] 0
    rw [List.length_append, List.length_cons, List.length_nil]
    exact .done _ _ (by rw [List.length_append]; simp) (by rw [Nat.add_zero] at h; rw [h]; rfl)
  | x :: r, p, s, ho, hs, hN => by
    have hx := (okL_cons.1 ho).1
    have hl := put_cons_len x r
    cases hf : findN p.N (put (x :: r)) with
    | some k =>
      rw [nameP_found ho hf]
      refine ⟨⟨_, rfl⟩, ?_, fun r k h => .inl h⟩
      obtain ⟨hk, h⟩ := hN _ _ (findN_mem hf)
      rcases h with ⟨hks, ls', j, h1, h2, h3⟩ | h
      · have hls : ls' = x :: r := put_inj h2 ho h1.symm
        subst hls
        have e0 : atB (p.out ++ be2 (49152 + (k : Int))) p.out.length = 192 + k / 256 := by
          have h := atB_more p.out (be2 (49152 + (k : Int))) 0
          rw [Nat.add_zero] at h
          rw [h]; simp only [be2, atB_zero]; rw [byte_nat (by omega)]; omega
        have e1 : atB (p.out ++ be2 (49152 + (k : Int))) (p.out.length + 1) = k % 256 := by
          rw [atB_more]; simp only [be2, atB_succ, atB_zero]; rw [byte_nat (by omega)]; omega
        have hlen : (p.out ++ be2 (49152 + (k : Int))).length = p.out.length + 2 := by rw [List.length_append, be2_len]
        rw [hlen]
        exact .point _ _ _ k j (by rw [hlen]; exact Nat.le_refl _) (by rw [e0]; omega) (by rw [e0, e1]; omega) hks (h3.app _)
      · omega
    | none =>
      rw [nameP_next ho hf, take_put hx.2]
      obtain ⟨N2, hN2⟩ : ∃ N2, (if p.out.length ≤ 16383 then p.N ++ [(put (x :: r), p.out.length)] else p.N) = N2 := ⟨_, rfl⟩
      rw [hN2]
      have hmem : ∀ r' k', (r', k') ∈ N2 → (r', k') ∈ p.N ∨ (r' = put (x :: r) ∧ k' = p.out.length ∧ k' ≤ 16383) := by
        intro r' k' hm
        rw [← hN2] at hm
        split at hm
        · rcases List.mem_append.1 hm with h | h
          · exact .inl h
          · simp only [List.mem_singleton, Prod.mk.injEq] at h
            exact .inr ⟨h.1, h.2, by omega⟩
        · exact .inl hm
      have hlen : (p.out ++ UInt8.ofNat x.length :: x).length = p.out.length + 1 + x.length := by rw [List.length_append, List.length_cons]; omega
      obtain ⟨⟨t, ht⟩, h2, h3⟩ := name_reads r ⟨p.out ++ UInt8.ofNat x.length :: x, N2⟩ s (okL_cons.1 ho).2 (by rw [hlen]; omega) (by
        intro r' k' hm
        rcases hmem r' k' hm with h | ⟨h, h', h''⟩
        · obtain ⟨g1, g2⟩ := hN r' k' h
          refine ⟨g1, ?_⟩
          rcases g2 with ⟨g3, ls', j, g4, g5, g6⟩ | g2
          · exact .inl ⟨g3, ls', j, g4, g5, g6.app _⟩
          · exact .inr (by omega)
        · exact ⟨h'', .inr (by rw [h]; omega)⟩)
      obtain ⟨q, hq⟩ : ∃ q, nameP (put r) ⟨p.out ++ UInt8.ofNat x.length :: x, N2⟩ = q := ⟨_, rfl⟩
      rw [hq] at ht h2 h3 ⊢
      simp only at ht h2 h3
      rw [hlen] at h2
      have hS : Stands q.out p.out.length s (x :: r) q.out.length := by
        have h4 := h2.le
        have ea : atB q.out p.out.length = x.length := by
          have h := atB_more p.out ((UInt8.ofNat x.length :: x) ++ t) 0
          rw [Nat.add_zero, ← List.append_assoc, ← ht] at h
          rw [h, List.cons_append, atB_zero]
          exact nat_of (by omega)
        refine .more _ _ x r _ hx.1 hx.2 (by omega) ea ?_ h2
        have h := cut_all p.out (UInt8.ofNat x.length :: x) (n := 1 + x.length) (by rw [List.length_cons]; omega) t
        rw [← ht, ← Nat.add_assoc] at h
        exact h
      refine ⟨⟨(UInt8.ofNat x.length :: x) ++ t, by rw [ht, List.append_assoc]⟩, hS, fun r' k' hm => ?_⟩
      rcases h3 r' k' hm with h | h
      · rcases hmem r' k' h with g | ⟨g, g', g''⟩
        · exact .inl g
        · subst g'
          exact .inr ⟨g'', by have := hS.le; omega, x :: r, g, ho, hS.start _ hs⟩
      · exact .inr h
/-- a name is written: it stands there, and what is noted stands -/
theorem name_inv {ls : List Bs} {p : Pp} (ho : okL ls) (h : Inv p) : (∃ t, (nameP (put ls) p).out = p.out ++ t) ∧ Stands (nameP (put ls) p).out p.out.length p.out.length ls (nameP (put ls) p).out.length ∧ Inv (nameP (put ls) p) := by
  obtain ⟨⟨t, ht⟩, h2, h3⟩ := name_reads ls p p.out.length ho (Nat.le_refl _) (fun r k hm => by
    obtain ⟨g1, g2, ls', j, g3, g4, g5⟩ := h r k hm
    exact ⟨g1, .inl ⟨g2, ls', j, g3, g4, g5⟩⟩)
  refine ⟨⟨t, ht⟩, h2, fun r k hm => ?_⟩
  rcases h3 r k hm with g | ⟨g1, g2, ls', g3, g4, g5⟩
  · obtain ⟨g1, g2, ls', j, g3, g4, g5⟩ := h r k g
    exact ⟨g1, by rw [ht, List.length_append]; omega, ls', j, g3, g4, by rw [ht]; exact g5.app t⟩
  · exact ⟨g1, g2, ls', _, g3, g4, g5⟩
/-- what is read there: with whatever behind it, and cut -/
theorem name_at {ls : List Bs} {p : Pp} (ho : okL ls) (h : Inv p) (hl : (put ls).length ≤ 255) (t : Bs) (lim : Nat) (over : Int) (h1 : (nameP (put ls) p).out.length ≤ lim) (h2 : lim ≤ ((nameP (put ls) p).out ++ t).length) :
    nameAt ((nameP (put ls) p).out ++ t) p.out.length lim over = .ok (put ls) (nameP (put ls) p).out.length :=
  ((name_inv ho h).2.1.app t).read lim over 0 h1 h2 (by omega)
theorem name_cut {ls : List Bs} {p : Pp} (ho : okL ls) (h : Inv p) (hl : (put ls).length ≤ 255) {c : Nat} (h1 : p.out.length ≤ c) (h2 : c < (nameP (put ls) p).out.length) : nameAt ((nameP (put ls) p).out.take c) p.out.length ((nameP (put ls) p).out.take c).length 10 = .bad 10 := by
  rw [take_len (by omega)]
  exact (name_inv ho h).2.1.cut c 0 h1 h2 (by omega)

/-- data of such parts, and no more -/
def FitsE : List (Option Nat) → Bs → Prop
  | [], d => d = []
  | none :: fs, d => ∃ ls d', okL ls ∧ (put ls).length ≤ 255 ∧ d = put ls ++ d' ∧ FitsE fs d'
  | some k :: fs, d => k ≤ d.length ∧ FitsE fs (d.drop k)
theorem one_hostE {d : Bs} {p : List Bs} (h : splitS [.host] d = some (p, [])) : FitsE [none] d := by
  obtain ⟨h0, r', h1, h2⟩ := split_step h
  obtain ⟨ls, g1, g2, g3⟩ := host_split h0
  refine ⟨ls, _, g1, g2, g3, ?_⟩
  simp only [splitS] at h1
  cases h1
  exact h2.symm
theorem fitsE_w {t : Int} {d : Bs} (h : checkS t d = 0) (hn : fieldsW t ≠ []) : FitsE (fieldsW t) d := by
  by_cases h2 : t = 2 ∨ t = 5 ∨ t = 12
  · have e : fieldsW t = [none] := by simp only [fieldsW, shortB, if_pos h2]; rfl
    rw [e]
    have hf : formS t = some [.host] := by rcases h2 with rfl | rfl | rfl <;> rfl
    obtain ⟨p, hp⟩ := parts_split h hf
    exact one_hostE hp
  by_cases h15 : t = 15
  · subst h15
    have e : fieldsW 15 = [some 2, none] := rfl
    rw [e]
    obtain ⟨p, hp⟩ := parts_split h (show formS 15 = some [.num 2, .host] from rfl)
    obtain ⟨h0, r', h1, h2'⟩ := split_step hp
    obtain ⟨g1, g2⟩ := num_split h0
    rw [g2] at h1
    obtain ⟨p', e'⟩ := r'
    simp only at h2'
    subst h2'
    exact ⟨g1, one_hostE h1⟩
  by_cases h6 : t = 6
  · subst h6
    have e : fieldsW 6 = [none, none, some 10, some 10] := rfl
    rw [e]
    obtain ⟨p, hp⟩ := parts_split h (show formS 6 = some [.host, .host, .num 4, .num 4, .num 4, .num 4, .num 4] from rfl)
    obtain ⟨a0, r1, a1, q1⟩ := split_step hp
    obtain ⟨ls, g1, g2, g3⟩ := host_split a0
    obtain ⟨b0, r2, b1, q2⟩ := split_step a1
    obtain ⟨ms, k1, k2, k3⟩ := host_split b0
    refine ⟨ls, _, g1, g2, g3, ms, _, k1, k2, k3, ?_⟩
    obtain ⟨c0, r3, c1, q3⟩ := split_step b1
    obtain ⟨n1, m1⟩ := num_split c0
    rw [m1] at c1
    obtain ⟨d0, r4, d1, q4⟩ := split_step c1
    obtain ⟨n2, m2⟩ := num_split d0
    rw [m2] at d1
    obtain ⟨e0, r5, e1, q5⟩ := split_step d1
    obtain ⟨n3, m3⟩ := num_split e0
    rw [m3] at e1
    obtain ⟨f0, r6, f1, q6⟩ := split_step e1
    obtain ⟨n4, m4⟩ := num_split f0
    rw [m4] at f1
    obtain ⟨i0, r7, i1, q7⟩ := split_step f1
    obtain ⟨n5, m5⟩ := num_split i0
    rw [m5] at i1
    simp only [splitS] at i1
    cases i1
    simp only [List.length_drop] at n1 n2 n3 n4 n5
    have hE := q1.trans (q2.trans (q3.trans (q4.trans (q5.trans (q6.trans q7)))))
    simp only [List.drop_drop] at hE
    refine ⟨by simp only [List.length_drop]; omega, by simp only [List.length_drop]; omega, ?_⟩
    show _ = []
    simp only [List.drop_drop]
    exact hE.symm
  · exact absurd (by simp only [fieldsW, shortB, if_neg h2, if_neg h15, if_neg h6]; rfl) hn
theorem data_reads : ∀ (fs : List (Option Nat)) (d : Bs) (p : Pp), FitsE fs d → Inv p →
    (∃ t, (dataP fs d p).out = p.out ++ t) ∧ Inv (dataP fs d p) ∧ ∀ (t acc : Bs), dataU fs ((dataP fs d p).out ++ t) p.out.length (dataP fs d p).out.length acc = .ok (acc ++ d) (dataP fs d p).out.length
  | [], d, p, hf, hi => by
    have hf : d = [] := hf
    subst hf
    simp only [dataP, dataU, List.append_nil]
    exact ⟨⟨[], by simp⟩, hi, fun t acc => by simp⟩
  | none :: fs, d, p, hf, hi => by
    obtain ⟨ls, d', h1, h2, h3, h4⟩ := hf
    simp only [dataP]
    have e1 : d.take (nameSz d) = put ls := by rw [h3, nameSz_put ls d' h1, List.take_left]
    have e2 : d.drop (nameSz d) = d' := by rw [h3, nameSz_put ls d' h1, List.drop_left]
    rw [e1, e2]
    obtain ⟨⟨t1, ht1⟩, g2, g3⟩ := name_inv h1 hi
    obtain ⟨⟨t2, ht2⟩, g4, g5⟩ := data_reads fs d' _ h4 g3
    obtain ⟨Q, hQ⟩ : ∃ Q, dataP fs d' (nameP (put ls) p) = Q := ⟨_, rfl⟩
    rw [hQ] at ht2 g4 g5 ⊢
    refine ⟨⟨t1 ++ t2, by rw [ht2, ht1, List.append_assoc]⟩, g4, fun t acc => ?_⟩
    simp only [dataU]
    have hn := name_at h1 hi h2 (t2 ++ t) Q.out.length 7 (by rw [ht2, List.length_append]; omega) (by rw [ht2]; simp only [List.length_append]; omega)
    rw [← List.append_assoc, ← ht2] at hn
    rw [hn]
    simp only
    rw [g5 t (acc ++ put ls), h3, List.append_assoc]
  | some k :: fs, d, p, hf, hi => by
    simp only [dataP]
    have hk := hf.1
    obtain ⟨⟨t2, ht2⟩, g4, g5⟩ := data_reads fs (d.drop k) ⟨p.out ++ d.take k, p.N⟩ hf.2 (hi.app _)
    obtain ⟨Q, hQ⟩ : ∃ Q, dataP fs (d.drop k) ⟨p.out ++ d.take k, p.N⟩ = Q := ⟨_, rfl⟩
    rw [hQ] at ht2 g4 g5 ⊢
    simp only at ht2 g5
    have hlt : (d.take k).length = k := by rw [List.length_take]; omega
    refine ⟨⟨d.take k ++ t2, by rw [ht2, List.append_assoc]⟩, g4, fun t acc => ?_⟩
    simp only [dataU]
    have hlen : Q.out.length = p.out.length + k + t2.length := by rw [ht2]; simp only [List.length_append, hlt]
    rw [if_neg (by omega)]
    have hc := cut_all p.out (d.take k) hlt (t2 ++ t)
    rw [← List.append_assoc, ← ht2] at hc
    rw [hc]
    have e := g5 t (acc ++ d.take k)
    rw [List.length_append, hlt] at e
    rw [e, List.append_assoc, List.take_append_drop]
end Go.Proofs.Ytabhiangjomaeaa.roundU
namespace Go.Proofs.Ytabhiangjomaeaa.rows
open Go.RowKit Go.Proofs.Ytabhiangjomaeaa.kit Go.Proofs.Ytabhiangjomaeaa.timed Go.Proofs.Ytabhiangjomaeaa.nspec Go.Proofs.Ytabhiangjomaeaa.wireP Go.Proofs.Ytabhiangjomaeaa.wireM
set_option linter.unusedVariables false

theorem addr_at (g o k : Nat) : (⟨g, o, none⟩ : Addr).add k = ⟨g, o + k, none⟩ := by unfold Addr.add; split <;> simp_all
theorem flat_len {α : Type} (f : α → List Value) (n : Nat) (hf : ∀ x, (f x).length = n) : ∀ L : List α, (L.flatMap f).length = L.length * n
  | [] => by simp
  | x :: L => by rw [List.flatMap_cons, List.length_append, flat_len f n hf L, hf, List.length_cons, Nat.succ_mul]; omega
theorem flat_at {α : Type} (f : α → List Value) (n : Nat) (hf : ∀ x, (f x).length = n) : ∀ (L : List α) (j : Nat) (x : α) (i : Nat) (u : Value), L[j]? = some x → (f x)[i]? = some u → (L.flatMap f)[j * n + i]? = some u
  | [], j, x, i, u, h, _ => by simp at h
  | y :: L, 0, x, i, u, h, hu => by
    simp at h; subst h
    rw [List.flatMap_cons, Nat.zero_mul, Nat.zero_add, List.getElem?_append_left (List.getElem?_eq_some_iff.1 hu).1]; exact hu
  | y :: L, j + 1, x, i, u, h, hu => by
    rw [List.flatMap_cons, List.getElem?_append_right (by rw [hf, Nat.succ_mul]; omega), hf, show (j + 1) * n + i - n = j * n + i by rw [Nat.succ_mul]; omega]
    exact flat_at f n hf L j x i u (by simpa using h) hu
/-- a row of one's own reads as its rows -/
theorem rdc_own {α : Type} (f : α → List Value) (m : Nat) (hf : ∀ x, (f x).length = m) {w : World} {base : Nat} {e : TypeId} {v : Value} {L : List α} {n : Nat} (hn : n = L.length) (h : w.ownsRow base e m v n (L.flatMap f)) :
    ∃ a c, v = .slice a n c ∧ n ≤ c ∧ c ≤ maxLen ∧ (a = none → n = 0 ∧ c = 0) ∧ RdC w a m (L.map f) := by
  subst hn
  rcases h.2 with ⟨rfl, h0⟩ | ⟨g, cap, cur, rfl, hb, hg, h1, h2, _, htake⟩
  · have : L = [] := List.eq_nil_of_length_eq_zero h0
    subst this
    exact ⟨none, 0, rfl, Nat.le_refl _, Nat.zero_le _, fun _ => ⟨rfl, rfl⟩, RdC.nil _ _ _⟩
  · refine ⟨_, cap, rfl, h1, h2, (fun h => by cases h), ?_⟩
    intro j x hx
    rw [List.getElem?_map] at hx
    obtain ⟨y, hy, rfl⟩ := Option.map_eq_some_iff.1 hx
    refine ⟨hf y, g, 0, rfl, (Array.getElem?_eq_some_iff.1 hg).1, fun i u hu => ?_⟩
    have := h.cells (g := g) rfl (j * m + i) u (flat_at f m hf L j y i u hy hu)
    rw [addr_at] at this
    rw [Nat.add_assoc]
    exact this
/-- rows that can be read, as the cells that an append takes -/
theorem cells_rd {α : Type} (f : α → List Value) (m : Nat) (hm : 0 < m) (hf : ∀ x, (f x).length = m) {w : World} {a : Option Addr} {L : List α} (h : RdC w a m (L.map f)) (c : Nat) (hc : a = none → L.length = 0 ∧ c = 0) : (a = none ∧ L.length = 0 ∧ c = 0) ∨ ∃ ad, a = some ad ∧ ∀ (j : Nat) (u : Value), (L.flatMap f)[j]? = some u → w.cell? (ad.add j) = some u := by
  cases a with
  | none => exact .inl ⟨rfl, hc rfl⟩
  | some ad =>
    right
    refine ⟨ad, rfl, fun j u hj => ?_⟩
    have hl : j < L.length * m := by rw [← flat_len f m hf]; exact (List.getElem?_eq_some_iff.1 hj).1
    have hdiv : j / m < L.length := (Nat.div_lt_iff_lt_mul hm).2 hl
    have hmod : j % m < m := Nat.mod_lt _ hm
    have hjm : j / m * m + j % m = j := by rw [Nat.mul_comm]; exact Nat.div_add_mod j m
    obtain ⟨x, hx⟩ : ∃ x, L[j / m]? = some x := ⟨_, List.getElem?_eq_getElem hdiv⟩
    obtain ⟨_, g, o, h1, _, h3⟩ := h (j / m) (f x) (by rw [List.getElem?_map, hx]; rfl)
    cases h1
    obtain ⟨u', hu'⟩ : ∃ u', (f x)[j % m]? = some u' := ⟨_, List.getElem?_eq_getElem (by rw [hf]; exact hmod)⟩
    have h4 := flat_at f m hf L (j / m) x (j % m) u' hx hu'
    rw [hjm] at h4
    rw [h4] at hj; cases hj
    have h5 := h3 _ _ hu'
    rw [Nat.add_assoc, hjm] at h5
    rw [addr_at]; exact h5
theorem one_cells {α : Type} {f : α → List Value} {L : List α} (h : ∀ x u, u ∈ f x → u.oneCell' = true) : ∀ u ∈ L.flatMap f, u.oneCell' = true := by
  intro u hu
  obtain ⟨x, _, hx⟩ := List.mem_flatMap.1 hu
  exact h x u hx
theorem rec_one (x : Rc) (u : Value) (h : u ∈ x.cells) : u.oneCell' = true := by
  simp only [Rc.cells, List.mem_cons, List.not_mem_nil, or_false] at h
  rcases h with rfl | rfl | rfl | rfl | rfl <;> rfl
theorem qn_one (x : Qn) (u : Value) (h : u ∈ x.cells) : u.oneCell' = true := by
  simp only [Qn.cells, List.mem_cons, List.not_mem_nil, or_false] at h
  rcases h with rfl | rfl | rfl <;> rfl
theorem infoRec : (Try.prog.info? 52).map (fun i => (i.zero, i.size, i.bytes)) = some (some (.agg #[.string ByteArray.empty, .int .i64 0, .int .i64 0, .int .i64 0, .string ByteArray.empty]), 5, 56) := by kernel_rfl
theorem infoQn : (Try.prog.info? 50).map (fun i => (i.zero, i.size, i.bytes)) = some (some (.agg #[.string ByteArray.empty, .int .i64 0, .int .i64 0]), 3, 32) := by kernel_rfl
theorem row_neG {w : World} {b0 : Nat} {e : TypeId} {size : Nat} {v : Value} {n : Nat} {xs : List Value} (h : w.ownsRow b0 e size v n xs) {k : Nat} {o : Obj} (hk : w.heap[k]? = some o) (hn : ∀ cur f, o ≠ .cells cur e f) : some k ≠ v.ownBlock := by
  intro e
  rcases h.2 with ⟨rfl, _⟩ | ⟨g, cap, cur, rfl, hb, hg, _⟩
  · cases e
  · simp only [Value.ownBlock, Option.some.injEq] at e
    subst e
    rw [hg] at hk; cases hk
    exact hn _ _ rfl
theorem row_lowG {w : World} {b0 : Nat} {e : TypeId} {size : Nat} {v : Value} {n : Nat} {xs : List Value} (h : w.ownsRow b0 e size v n xs) {k : Nat} (hk : k < b0) : some k ≠ v.ownBlock := by
  intro e
  rcases h.2 with ⟨rfl, _⟩ | ⟨g, cap, cur, rfl, hb, hg, _⟩
  · cases e
  · simp only [Value.ownBlock, Option.some.injEq] at e; omega
theorem own_keptG {w w1 : World} {b0 : Nat} {e : TypeId} {size : Nat} {v : Value} {n : Nat} {xs : List Value} (h : w.ownsRow b0 e size v n xs) (hk : ∀ (k : Nat) (cur : Array Value), w.heap[k]? = some (Obj.cells cur e (0, 0)) → w1.heap[k]? = some (Obj.cells cur e (0, 0))) : w1.ownsRow b0 e size v n xs := by
  refine ⟨h.1, ?_⟩
  rcases h.2 with h1 | ⟨g, cap, cur, h1, h2, h3, h4⟩
  · exact .inl h1
  · exact .inr ⟨g, cap, cur, h1, h2, hk _ _ h3, h4⟩
theorem own_at {w : World} {base : Nat} {e : TypeId} {v : Value} {n size : Nat} {xs : List Value} (h : w.ownsRow base e size v n xs) (hn : 1 ≤ n) : ∃ g cap, v = .slice (some ⟨g, 0, none⟩) n cap ∧ base ≤ g ∧ g < w.heap.size ∧ (∀ j, j < n * size → ∃ u, w.cell? ⟨g, j, none⟩ = some u) ∧ (∀ j, w.frozen? ⟨g, j, none⟩ = false) ∧ ∃ cur, w.heap[g]? = some (.cells cur e (0, 0)) := by
  rcases h.2 with ⟨_, h0⟩ | ⟨g, cap, cur, rfl, hb, hg, h1, h2, _, _⟩
  · omega
  · refine ⟨g, cap, rfl, hb, (Array.getElem?_eq_some_iff.1 hg).1, fun j hj => ?_, fun j => by simp [World.frozen?, hg], cur, hg⟩
    have hl : j < xs.length := by rw [h.1]; exact hj
    refine ⟨xs[j], ?_⟩
    have := h.cells (g := g) rfl j xs[j] (List.getElem?_eq_getElem hl)
    rw [addr_at, Nat.zero_add] at this; exact this
end Go.Proofs.Ytabhiangjomaeaa.rows
namespace Go.Proofs.Ytabhiangjomaeaa.cur
open Go.RowKit Go.Proofs.Ytabhiangjomaeaa.kit Go.Proofs.Ytabhiangjomaeaa.nspec Go.Proofs.Ytabhiangjomaeaa.rsplit Go.Proofs.Ytabhiangjomaeaa.check Go.Proofs.Ytabhiangjomaeaa.fld Go.Proofs.Ytabhiangjomaeaa.wireP Go.Proofs.Ytabhiangjomaeaa.wireM Go.Proofs.Ytabhiangjomaeaa.packP Go.Proofs.Ytabhiangjomaeaa.unpP Go.Proofs.Ytabhiangjomaeaa.rows
set_option linter.unusedVariables false

/-- bytes that can be read -/
def RdB (w : World) (a : Option Addr) (b : Bs) : Prop := ∀ (j : Nat) (c : UInt8), b[j]? = some c → ∃ g o, a = some ⟨g, o, none⟩ ∧ g < w.heap.size ∧ w.cell? ⟨g, o + j, none⟩ = some (.int .u8 (c.toNat : Int))
/-- what a cursor's walk may touch: its own block, new blocks -/
structure EffC (C : Nat) (w w' : World) : Prop where
  os : w'.os = w.os
  tape : w'.tape = w.tape
  output : w'.output = w.output
  size : w.heap.size ≤ w'.heap.size
  kept : ∀ k, k < w.heap.size → k ≠ C → w'.heap[k]? = w.heap[k]?
theorem EffC.refl (C : Nat) (w : World) : EffC C w w := ⟨rfl, rfl, rfl, Nat.le_refl _, fun _ _ _ => rfl⟩
theorem EffC.trans {C : Nat} {w w1 w2 : World} (h : EffC C w w1) (g : EffC C w1 w2) : EffC C w w2 :=
  ⟨g.os.trans h.os, g.tape.trans h.tape, g.output.trans h.output, Nat.le_trans h.size g.size, fun k hk hn => (g.kept k (Nat.lt_of_lt_of_le hk h.size) hn).trans (h.kept k hk hn)⟩
theorem EffC.of_below {C : Nat} {w w1 : World} (h : Below w.heap.size w w1) : EffC C w w1 := ⟨h.os, h.tape, h.output, h.size, fun k hk _ => h.block k hk⟩
theorem EffC.drewN (C : Nat) (w : World) (n : Nat) : EffC C w (w.drewN n) := ⟨rfl, rfl, rfl, Nat.le_refl _, fun _ _ _ => rfl⟩
theorem EffC.to_below {C B : Nat} {w w1 : World} (h : EffC C w w1) (hB : B ≤ C) (hs : B ≤ w.heap.size) : Below B w w1 := ⟨h.os, h.tape, h.output, h.size, fun k hk => h.kept k (by omega) (by omega)⟩
/-- a cursor in memory -/
structure Cur (w : World) (C : Nat) (a : Option Addr) (b : Bs) (cap k : Nat) : Prop where
  blk : w.heap[C]? = some (.cells #[.slice a b.length cap, .int .i64 (k : Int)] 107 (0, 0))
  rd : RdB w a b
  le : b.length ≤ cap
  cm : cap ≤ maxLen
theorem Cur.lt {w : World} {C : Nat} {a : Option Addr} {b : Bs} {cap k : Nat} (h : Cur w C a b cap k) : C < w.heap.size := (Array.getElem?_eq_some_iff.1 h.blk).1
theorem Cur.c0 {w : World} {C : Nat} {a : Option Addr} {b : Bs} {cap k : Nat} (h : Cur w C a b cap k) : w.cell? ⟨C, 0, none⟩ = some (.slice a b.length cap) := by simp only [World.cell?, h.blk]; rfl
theorem Cur.c1 {w : World} {C : Nat} {a : Option Addr} {b : Bs} {cap k : Nat} (h : Cur w C a b cap k) : w.cell? ⟨C, 1, none⟩ = some (.int .i64 (k : Int)) := by simp only [World.cell?, h.blk]; rfl
theorem Cur.z {w : World} {C : Nat} {a : Option Addr} {b : Bs} {cap k : Nat} (h : Cur w C a b cap k) (j : Nat) : w.frozen? ⟨C, j, none⟩ = false := by simp only [World.frozen?, h.blk]; simp
theorem atB_some {b : Bs} {k : Nat} (h : k < b.length) : ∃ c, b[k]? = some c ∧ atB b k = c.toNat := ⟨b[k], List.getElem?_eq_getElem h, by unfold atB; rw [List.getD_eq_getElem?_getD, List.getElem?_eq_getElem h]; rfl⟩
theorem Cur.at_ {w : World} {C : Nat} {a : Option Addr} {b : Bs} {cap k : Nat} (h : Cur w C a b cap k) {j : Nat} (hj : j < b.length) : ∃ g o, a = some ⟨g, o, none⟩ ∧ g < w.heap.size ∧ g ≠ C ∧ w.cell? ⟨g, o + j, none⟩ = some (.int .u8 (atB b j : Int)) := by
  obtain ⟨c, hc, hcn⟩ := atB_some hj
  obtain ⟨g, o, h1, h2, h3⟩ := h.rd j c hc
  refine ⟨g, o, h1, h2, ?_, by rw [hcn]; exact h3⟩
  intro e; subst e
  simp only [World.cell?, h.blk] at h3
  match hh : o + j with
  | 0 => rw [hh] at h3; simp at h3
  | 1 => rw [hh] at h3; simp at h3
  | n + 2 => rw [hh] at h3; simp at h3
theorem rdB_eff {w w1 : World} {C : Nat} {a : Option Addr} {b : Bs} {cap k : Nat} (h : Cur w C a b cap k) (he : EffC C w w1) : RdB w1 a b := by
  intro j c hc
  have hj := (List.getElem?_eq_some_iff.1 hc).1
  obtain ⟨g, o, h1, h2, h3⟩ := h.rd j c hc
  obtain ⟨g', o', h1', _, hne, _⟩ := h.at_ hj
  rw [h1] at h1'; cases h1'
  refine ⟨g, o, h1, Nat.lt_of_lt_of_le h2 he.size, ?_⟩
  rw [← h3]
  exact World.cell?_of_block (he.kept g h2 hne)
theorem Cur.below {w w1 : World} {C : Nat} {a : Option Addr} {b : Bs} {cap k : Nat} (h : Cur w C a b cap k) (hB : Below w.heap.size w w1) : Cur w1 C a b cap k :=
  ⟨(hB.block C h.lt).trans h.blk, rdB_eff h (EffC.of_below hB), h.le, h.cm⟩
theorem Cur.drewN {w : World} {C : Nat} {a : Option Addr} {b : Bs} {cap k : Nat} (h : Cur w C a b cap k) (n : Nat) : Cur (w.drewN n) C a b cap k := ⟨h.blk, h.rd, h.le, h.cm⟩
/-- the place moved on -/
theorem Cur.move {w : World} {C : Nat} {a : Option Addr} {b : Bs} {cap k : Nat} (h : Cur w C a b cap k) (j : Nat) : Cur (w.setCell ⟨C, 1, none⟩ (.int .i64 (j : Int))) C a b cap j ∧ EffC C w (w.setCell ⟨C, 1, none⟩ (.int .i64 (j : Int))) := by
  have he : EffC C w (w.setCell ⟨C, 1, none⟩ (.int .i64 (j : Int))) := ⟨rfl, rfl, rfl, by simp, fun i hi hn => Below.heap_setCell _ ⟨C, 1, none⟩ _ i hn⟩
  refine ⟨⟨?_, rdB_eff h he, h.le, h.cm⟩, he⟩
  rw [heap_setCell_same w C 1 _ _ (.int .i64 (j : Int)) h.blk]; rfl
def stopE (c : Int) : Ending := .panicked [{ v := .iface 109 (.agg #[.int .i64 c]), recovered := false }]

set_option maxRecDepth 100000 in
set_option maxHeartbeats 2000000 in
theorem need_ok (C : Nat) (a : Option Addr) (b : Bs) (cap k n : Nat) (w : World) (h : Cur w C a b cap k) (hl : b.length ≤ 65535) (hk : k + n ≤ b.length) :
    Calls Try.prog 103 #[.pointer (some ⟨C, 0, none⟩), .int .i64 (n : Int)] w fun e w' => e = .returned (.tuple #[]) ∧ Cur w' C a b cap k ∧ EffC C w w' := by
  have k0 := h.c0; have k1 := h.c1; have hlt := h.lt
  have HC := Lib.hid h
  obtain ⟨L, hL⟩ : ∃ L, b.length = L := ⟨_, rfl⟩
  rw [hL] at k0 hl hk
  have z1 : IntKind.i64.wrap ((k : Int) + (n : Int)) = (k : Int) + (n : Int) := IntWalk.i64_in _ (by omega)
  have z2 : (k : Int) + (n : Int) ≤ (L : Int) := by omega
  clear h hL
  go_enter Try.func103, Try.ntmps103
  go_wp2_with fail
  go_quiet (fail)
  go_wp2_with fail
  go_end0
  exact ⟨rfl, HC.out.drewN _, EffC.drewN _ _ _⟩
set_option maxRecDepth 100000 in
set_option maxHeartbeats 2000000 in
theorem need_no (C : Nat) (a : Option Addr) (b : Bs) (cap k n : Nat) (w : World) (h : Cur w C a b cap k) (hl : b.length ≤ 65535) (hk0 : k ≤ b.length) (hn : n ≤ 65535) (hk : b.length < k + n) :
    Calls Try.prog 103 #[.pointer (some ⟨C, 0, none⟩), .int .i64 (n : Int)] w fun e w' => e = stopE 10 ∧ Cur w' C a b cap k ∧ EffC C w w' := by
  have k0 := h.c0; have k1 := h.c1; have hlt := h.lt
  have HC := Lib.hid h
  obtain ⟨L, hL⟩ : ∃ L, b.length = L := ⟨_, rfl⟩
  rw [hL] at k0 hl hk hk0
  have z1 : IntKind.i64.wrap ((k : Int) + (n : Int)) = (k : Int) + (n : Int) := IntWalk.i64_in _ (by omega)
  have z2 : (L : Int) < (k : Int) + (n : Int) := by omega
  clear h hL
  go_enter Try.func103, Try.ntmps103
  go_wp2_with fail
  go_quiet (fail)
  go_wp2_with fail
  exact ⟨rfl, rfl, HC.out.drewN _, EffC.drewN _ _ _⟩

/-- so many bytes as a number, the highest first -/
def numB (b : Bs) (k : Nat) : Nat → Nat
  | 0 => 0
  | n + 1 => numB b k n * 256 + atB b (k + n)
theorem numB_two (b : Bs) (k : Nat) : numB b k 2 = num2 b k := by simp [numB, num2]
theorem numB_four (b : Bs) (k : Nat) : numB b k 4 = num4 b k := by
  simp only [numB, num4, num2, Nat.zero_mul, Nat.zero_add, Nat.add_zero]
  have e : k + 2 + 1 = k + 3 := rfl
  rw [e]; omega
theorem numB_lt (b : Bs) (k : Nat) : ∀ n, n ≤ 4 → numB b k n < 256 ^ n
  | 0, _ => by simp [numB]
  | n + 1, h => by
    have h1 := numB_lt b k n (by omega)
    have h2 := atB_lt b (k + n)
    simp only [numB, Nat.pow_succ]; omega
theorem or_byte {v c : Nat} (hv : v < 4294967296) (hc : c < 256) : bits .or .i64 ((v : Int) * 256) (c : Int) = ((v * 256 + c : Nat) : Int) := by
  have h := bits_join .i64 40 (by decide) psmall.wraps40 8 ((v : Int) * 256) (c : Int) (by omega) (by omega) (by omega) (by omega) (by omega) (by omega)
  rw [h]; omega
set_option maxRecDepth 100000 in
set_option maxHeartbeats 2000000 in
theorem number_ok (C : Nat) (a : Option Addr) (b : Bs) (cap k n : Nat) (w : World) (h : Cur w C a b cap k) (hl : b.length ≤ 65535) (hn : n ≤ 4) (hk : k + n ≤ b.length) :
    Calls Try.prog 62 #[.pointer (some ⟨C, 0, none⟩), .int .i64 (n : Int)] w fun e w' => e = .returned (.int .i64 (numB b k n : Int)) ∧ Cur w' C a b cap (k + n) ∧ EffC C w w' := by
  have CN := Lib.hid (need_ok C a b cap k n w h hl hk)
  obtain ⟨R, hR⟩ : ∃ R, numB b k n = R := ⟨_, rfl⟩
  rw [hR]
  have HR := Lib.hid hR
  have HL := Lib.hid hl; have HK := Lib.hid hk
  clear h hR
  go_enter Try.func62, Try.ntmps62
  go_wp2_with fail
  refine CN.out.mono ?_
  rintro e w1 ⟨rfl, hc1, he1⟩
  have HC1 := Lib.hid hc1; have HE1 := Lib.hid he1
  clear hc1 he1
  go_wp2_with fail
  go_loopg [5, 10] (n + 1) (fun gas vv iv wr => ∃ (i v : Nat), iv = .int .i64 (i : Int) ∧ vv = .int .i64 (v : Int) ∧ i ≤ n ∧ i + gas = n + 1 ∧ Hid (v = numB b k i) ∧ Hid (Cur wr C a b cap (k + i)) ∧ Hid (EffC C w wr))
  case atStart => exact ⟨0, 0, rfl, rfl, by omega, by omega, Lib.hid rfl, HC1, HE1⟩
  case round =>
    clear HC1 HE1
    obtain ⟨i, v, rfl, rfl, hi, hig, HV, HC, HE⟩ := hrel
    have HG := Lib.hid hig; clear hig
    by_cases hlt : i < n
    · obtain ⟨j, hj⟩ : ∃ j, k + i = j := ⟨_, rfl⟩
      have HJ := Lib.hid hj
      rw [hj] at HC
      have hjl : j < b.length := by omega
      obtain ⟨g, o, rfl, hg, hgC, hcb⟩ := HC.out.at_ hjl
      have k0 := HC.out.c0; have k1 := HC.out.c1; have hltC := HC.out.lt; have z1 := HC.out.z 1
      obtain ⟨L, hL⟩ : ∃ L, b.length = L := ⟨_, rfl⟩
      rw [hL] at k0 hjl
      have hLb : L ≤ 65535 := by rw [← hL]; exact HL.out
      have HJL : Hid (j < b.length) := Lib.hid (by rw [hL]; exact hjl)
      obtain ⟨c, hc⟩ : ∃ c, atB b j = c := ⟨_, rfl⟩
      rw [hc] at hcb
      have hc255 : c < 256 := by rw [← hc]; exact atB_lt _ _
      have hvb : v < 4294967296 := by
        have h1 := numB_lt b k i (by omega)
        have h2 : 256 ^ i ≤ 256 ^ 4 := Nat.pow_le_pow_right (by omega) (by omega)
        have h3 : (256 : Nat) ^ 4 = 4294967296 := by decide
        rw [HV.out]; omega
      have HN : Hid (v * 256 + c = numB b k (i + 1)) := Lib.hid (by rw [numB, ← HV.out, HJ.out, hc])
      obtain ⟨V, hV⟩ : ∃ V : Nat, v * 256 + c = V := ⟨_, rfl⟩
      have HOR : Hid (Value.int .i64 (bits .or .i64 ((v : Int) * 256) (c : Int)) = Value.int .i64 (V : Int)) := Lib.hid (by rw [or_byte hvb hc255, hV])
      rw [hV] at HN
      have hj0 : (0 : Int) ≤ (j : Int) := by omega
      have hjL : (j : Int) < (L : Int) := by omega
      clear hL hc hj hV
      go_wp2_with fail
      go_quiet (fail)
      rw [HOR.out]
      have HCq := Lib.hid (HC.out.drewN nq)
      have hm := HCq.out.move (j + 1)
      have HM1 := Lib.hid hm.1
      have HM2 := Lib.hid ((HE.out.trans (EffC.drewN C wr nq)).trans hm.2)
      have hjv : Value.int .i64 ((j : Int) + 1) = Value.int .i64 ((j + 1 : Nat) : Int) := by congr 1
      have HJV := Lib.hid hjv
      clear hm hjv
      go_wp2_with fail
      have hig := HG.out
      have hjj := HJ.out
      go_roundg (gk - 1)
      case rel => exact ⟨i + 1, V, by go_num, rfl, by omega, by omega, HN, by rw [show k + (i + 1) = j + 1 by omega]; exact HM1, HM2⟩
      case measure => omega
    · have hin : i = n := by omega
      subst hin
      have hv : v = R := by rw [HV.out, HR.out]
      subst hv
      go_wp2_with fail
      go_ret
      exact ⟨rfl, HC.out, HE.out⟩
set_option maxRecDepth 100000 in
set_option maxHeartbeats 2000000 in
theorem number_no (C : Nat) (a : Option Addr) (b : Bs) (cap k n : Nat) (w : World) (h : Cur w C a b cap k) (hl : b.length ≤ 65535) (hk0 : k ≤ b.length) (hn : n ≤ 4) (hk : b.length < k + n) :
    Calls Try.prog 62 #[.pointer (some ⟨C, 0, none⟩), .int .i64 (n : Int)] w fun e w' => e = stopE 10 ∧ Cur w' C a b cap k ∧ EffC C w w' := by
  have CN := Lib.hid (need_no C a b cap k n w h hl hk0 (by omega) hk)
  clear h
  go_enter Try.func62, Try.ntmps62
  go_wp2_with fail
  refine CN.out.mono ?_
  rintro e w1 ⟨rfl, hc1, he1⟩
  unfold stopE
  go_wp2_with fail
  exact ⟨rfl, rfl, hc1, he1⟩
end Go.Proofs.Ytabhiangjomaeaa.cur

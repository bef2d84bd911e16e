/- The reference's Compare: walk. How a text tells a name: plain. PLAIN: how words are read as data, field by field (both Read): the specification of DataReads. Sets of types: plain. data.Set in plain words. Lists of ints in memory; gazetteerref1.bits: walk. -/
import Derived.Test.YtkcpbjoolfojjaaGreatDoorP5
import Derived.Test.YtkcpbjoolfojjaaGreatDoorP4
import Derived.Test.YtkcpbjoolfojjaaGreatDoorP2
import Derived.Deep.DeepCutAuto
import Derived.Maps.AppendAt
namespace Go.Proofs.YtkcpbjoolfojjaaGreatDoor.rcmp
open Go.RowKit Go.Proofs.YtkcpbjoolfojjaaGreatDoor.kit Go.Proofs.YtkcpbjoolfojjaaGreatDoor.check Go.Proofs.YtkcpbjoolfojjaaGreatDoor.nspec Go.Proofs.YtkcpbjoolfojjaaGreatDoor.rsplit Go.Proofs.YtkcpbjoolfojjaaGreatDoor.low Go.Proofs.YtkcpbjoolfojjaaGreatDoor.refA Go.Proofs.YtkcpbjoolfojjaaGreatDoor.nameL Go.Proofs.YtkcpbjoolfojjaaGreatDoor.ncmp Go.Proofs.YtkcpbjoolfojjaaGreatDoor.refC

end Go.Proofs.YtkcpbjoolfojjaaGreatDoor.rcmp
namespace Go.Proofs.YtkcpbjoolfojjaaGreatDoor.readS
open Go.Proofs.YtkcpbjoolfojjaaGreatDoor.kit Go.Proofs.YtkcpbjoolfojjaaGreatDoor.nspec Go.Proofs.YtkcpbjoolfojjaaGreatDoor.rput Go.Proofs.YtkcpbjoolfojjaaGreatDoor.rsplit

def digB (c : UInt8) : Bool := decide (48 ≤ c.toNat) && decide (c.toNat ≤ 57)
theorem digB_yes {c : UInt8} (h : 48 ≤ c.toNat ∧ c.toNat ≤ 57) : digB c = true := by unfold digB; simp [h.1, h.2]
theorem digB_no {c : UInt8} (h : c.toNat < 48 ∨ 57 < c.toNat) : digB c = false := by
  unfold digB; rw [Bool.and_eq_false_iff, decide_eq_false_iff_not, decide_eq_false_iff_not]; omega
/-- what stands behind a backslash: the byte, and how many bytes it takes with it -/
def escS : Bs → Option (UInt8 × Nat)
  | [] => none
  | d :: r => if digB d = false then some (d, 2) else match r with
    | a :: b :: _ => if digB a && digB b then (if 255 < (d.toNat - 48) * 100 + (a.toNat - 48) * 10 + (b.toNat - 48) then none else some (UInt8.ofNat ((d.toNat - 48) * 100 + (a.toNat - 48) * 10 + (b.toNat - 48)), 4)) else none
    | _ => none
def pieceS : Bs → Option (UInt8 × Nat)
  | [] => none
  | c :: r => if c.toNat = 92 then escS r else some (c, 1)
theorem piece_len {l : Bs} {b : UInt8} {n : Nat} (h : pieceS l = some (b, n)) : 1 ≤ n ∧ n ≤ l.length := by
  unfold pieceS at h
  split at h
  · simp at h
  · rename_i c r
    split at h
    · unfold escS at h
      split at h
      · simp at h
      · rename_i d t
        split at h
        · injection h with h; injection h with h1 h2; subst h2; simp
        · split at h
          · split at h
            · split at h
              · simp at h
              · injection h with h; injection h with h1 h2; subst h2; simp
            · simp at h
          · simp at h
    · injection h with h; injection h with h1 h2; subst h2; simp

/-- the labels that are told, and the bytes of the last one; or the place and what is wrong -/
def rdF : Nat → List Bs → Bs → Nat → Nat → Bs → Except (Nat × Int) (List Bs × Bs)
  | 0, l, now, _, _, _ => .ok (l, now)
  | _ + 1, l, now, _, _, [] => .ok (l, now)
  | f + 1, l, now, first, k, c :: r =>
    if c.toNat = 46 then (if now = [] then .error (k, 2) else rdF f (l ++ [now]) [] (k + 1) (k + 1) r)
    else match pieceS (c :: r) with
      | none => .error (k, 2)
      | some (b, n) => if 63 ≤ now.length then .error (first, 3) else rdF f l (now ++ [b]) first (k + n) ((c :: r).drop n)
theorem rd_fuel : ∀ (f g : Nat) (l : List Bs) (now : Bs) (first k : Nat) (t : Bs), t.length ≤ f → t.length ≤ g → rdF f l now first k t = rdF g l now first k t
  | 0, 0, _, _, _, _, _, _, _ => rfl
  | 0, g + 1, l, now, first, k, t, h, _ => by
    have : t = [] := List.eq_nil_of_length_eq_zero (by omega)
    subst this; rfl
  | f + 1, 0, l, now, first, k, t, _, h => by
    have : t = [] := List.eq_nil_of_length_eq_zero (by omega)
    subst this; rfl
  | f + 1, g + 1, l, now, first, k, [], _, _ => rfl
  | f + 1, g + 1, l, now, first, k, c :: r, h1, h2 => by
    simp only [List.length_cons] at h1 h2
    simp only [rdF]
    by_cases hc : c.toNat = 46
    · rw [if_pos hc, if_pos hc, rd_fuel f g _ _ _ _ r (by omega) (by omega)]
    · rw [if_neg hc, if_neg hc]
      cases hp : pieceS (c :: r) with
      | none => rfl
      | some p =>
        obtain ⟨b, n⟩ := p
        have := piece_len hp
        simp only
        rw [rd_fuel f g _ _ _ _ _ (by rw [List.length_drop, List.length_cons]; omega) (by rw [List.length_drop, List.length_cons]; omega)]
def rd (l : List Bs) (now : Bs) (first k : Nat) (t : Bs) : Except (Nat × Int) (List Bs × Bs) := rdF t.length l now first k t
theorem rd_nil (l : List Bs) (now : Bs) (first k : Nat) : rd l now first k [] = .ok (l, now) := rfl
theorem rd_dot {l : List Bs} {now : Bs} {first k : Nat} {c : UInt8} {r : Bs} (hc : c.toNat = 46) (hn : now ≠ []) : rd l now first k (c :: r) = rd (l ++ [now]) [] (k + 1) (k + 1) r := by
  unfold rd; rw [List.length_cons, rdF, if_pos hc, if_neg hn]
theorem rd_dot_no {l : List Bs} {now : Bs} {first k : Nat} {c : UInt8} {r : Bs} (hc : c.toNat = 46) (hn : now = []) : rd l now first k (c :: r) = .error (k, 2) := by
  unfold rd; rw [List.length_cons, rdF, if_pos hc, if_pos hn]
theorem rd_bad {l : List Bs} {now : Bs} {first k : Nat} {c : UInt8} {r : Bs} (hc : c.toNat ≠ 46) (hp : pieceS (c :: r) = none) : rd l now first k (c :: r) = .error (k, 2) := by
  unfold rd; rw [List.length_cons, rdF, if_neg hc, hp]
theorem rd_full {l : List Bs} {now : Bs} {first k : Nat} {c : UInt8} {r : Bs} {b : UInt8} {n : Nat} (hc : c.toNat ≠ 46) (hp : pieceS (c :: r) = some (b, n)) (hn : 63 ≤ now.length) : rd l now first k (c :: r) = .error (first, 3) := by
  unfold rd; rw [List.length_cons, rdF, if_neg hc, hp]; simp only; rw [if_pos hn]
theorem rd_go {l : List Bs} {now : Bs} {first k : Nat} {c : UInt8} {r : Bs} {b : UInt8} {n : Nat} (hc : c.toNat ≠ 46) (hp : pieceS (c :: r) = some (b, n)) (hn : now.length < 63) : rd l now first k (c :: r) = rd l (now ++ [b]) first (k + n) ((c :: r).drop n) := by
  have hl := piece_len hp
  unfold rd; rw [List.length_cons, rdF, if_neg hc, hp]; simp only
  rw [if_neg (by omega)]
  exact rd_fuel _ _ _ _ _ _ _ (by rw [List.length_drop, List.length_cons]; omega) (Nat.le_refl _)

def endL (base : List Bs) (l : List Bs) (now : Bs) : List Bs := if now = [] then l else l ++ [now] ++ base
def finS (base : List Bs) (l : List Bs) (now : Bs) : Bs × Int × Int := if 254 < room (endL base l now) then ([], 0, 4) else (put (endL base l now), 0, 0)
def resS (base : List Bs) : Except (Nat × Int) (List Bs × Bs) → Bs × Int × Int
  | .error (k, e) => ([], (k : Int), e)
  | .ok (l, now) => finS base l now
def readS (text origin : Bs) : Bs × Int × Int := match split origin with
  | none => ([], 0, 1)
  | some base => if text = [] then ([], 0, 2) else if text = [64] then (origin, 0, 0) else if text = [46] then ([0], 0, 0) else resS base (rd [] [] 0 0 text)
def Ret3 (r : Bs × Int × Int) : Ending := .returned (.tuple #[.string ⟨r.1.toArray⟩, .int .i64 r.2.1, .int .i64 r.2.2])
end Go.Proofs.YtkcpbjoolfojjaaGreatDoor.readS
namespace Go.Proofs.YtkcpbjoolfojjaaGreatDoor.rdP
open Go.RowKit Go.Proofs.YtkcpbjoolfojjaaGreatDoor.kit Go.Proofs.YtkcpbjoolfojjaaGreatDoor.nspec Go.Proofs.YtkcpbjoolfojjaaGreatDoor.fld
set_option linter.unusedVariables false

/-- a written word -/
structure Wo where
  s : ByteArray
  q : Bool
def Wo.cells (w : Wo) : List Value := [.string w.s, .bool w.q]
/-- what goes wrong: at which word, with which code; or what is told, and how many words have been taken -/
inductive Got where
  | bad (at_ : Int) (code : Int)
  | ok (d : Bs) (k : Nat)
/-- all further words put together -/
def restW : List Wo → Nat → Except Int Bs
  | [], _ => .ok []
  | w :: r, k => if w.q then .error (k : Int) else match restW r (k + 1) with
    | .error e => .error e
    | .ok d => .ok (w.s.data.toList ++ d)
def val16 (c : UInt8) : Option Nat := if 48 ≤ c.toNat ∧ c.toNat ≤ 57 then some (c.toNat - 48) else if 97 ≤ c.toNat ∧ c.toNat ≤ 102 then some (c.toNat - 87) else if 65 ≤ c.toNat ∧ c.toNat ≤ 70 then some (c.toNat - 55) else none
def val64 (c : UInt8) : Option Nat := if 65 ≤ c.toNat ∧ c.toNat ≤ 90 then some (c.toNat - 65) else if 97 ≤ c.toNat ∧ c.toNat ≤ 122 then some (c.toNat - 71) else if 48 ≤ c.toNat ∧ c.toNat ≤ 57 then some (c.toNat + 4) else if c = 43 then some 62 else if c = 47 then some 63 else none
def unhexS (s : Bs) : Option Bs := if s.length % 2 ≠ 0 then none else (back.spreadS 4 val16 s).bind (back.whole 1)
def padN (s : Bs) : Nat := if s.getLast? = some 61 then (if s.dropLast.getLast? = some 61 then 2 else 1) else 0
def unb64S (s : Bs) : Option Bs := if s = [] ∨ s.length % 4 ≠ 0 then none else (back.spreadS 6 val64 (s.take (s.length - padN s))).bind (back.whole 6)
/-- the bytes that a written word tells -/
def looseF : Nat → Bs → Option Bs
  | 0, _ => none
  | _ + 1, [] => some []
  | f + 1, s => match readS.pieceS s with
    | some (c, n) => (looseF f (s.drop n)).map (c :: ·)
    | none => none
def looseS (s : Bs) : Option Bs := looseF (s.length + 1) s
/-- digits in pairs -/
def pairsS : Bs → Option Bs
  | [] => some []
  | [_] => none
  | a :: b :: r => match val16 a, val16 b with
    | some x, some y => (pairsS r).map (UInt8.ofNat (x * 16 + y) :: ·)
    | _, _ => none
theorem val16_lt {c : UInt8} {x : Nat} (h : val16 c = some x) : x < 16 := by
  unfold val16 at h
  split at h
  · cases h; omega
  · split at h
    · cases h; omega
    · split at h
      · cases h; omega
      · cases h
theorem unhex_pairs : ∀ s : Bs, unhexS s = pairsS s
  | [] => by
    unfold unhexS pairsS
    rw [if_neg (by simp)]
    rfl
  | [a] => by
    unfold unhexS pairsS
    rw [if_pos (by simp)]
  | a :: b :: r => by
    have ih := unhex_pairs r
    unfold unhexS at ih ⊢
    rw [pairsS, ← ih]
    simp only [List.length_cons]
    by_cases hr : r.length % 2 = 0
    · rw [if_neg (by omega), if_neg (by omega)]
      cases ha : val16 a with
      | none => rw [back.spread_cons_none ha]; rfl
      | some x =>
        rw [back.spread_cons_some ha]
        cases hb : val16 b with
        | none => rw [back.spread_cons_none hb]; rfl
        | some y =>
          rw [back.spread_cons_some hb]
          cases hs : back.spreadS 4 val16 r with
          | none => rfl
          | some l =>
            simp only [Option.map_some, Option.bind_some]
            rw [← List.append_assoc, ← bits.tob_append x y 4 4 (by have := val16_lt hb; omega), back.whole_byte]
    · rw [if_pos (by omega), if_pos (by omega)]
      cases val16 a <;> cases val16 b <;> rfl
/-- a loop over pairs: what has been written, and what is left -/
theorem pairs_end {A : Bs} {R : Option Bs} (h : (pairsS []).map (A ++ ·) = R) : R = some A := by rw [← h]; simp [pairsS]
theorem pairs_one {A : Bs} {a : UInt8} {R : Option Bs} (h : (pairsS [a]).map (A ++ ·) = R) : R = none := by rw [← h]; rfl
theorem pairs_bad {A r : Bs} {a b : UInt8} {R : Option Bs} (h : (pairsS (a :: b :: r)).map (A ++ ·) = R) (hv : val16 a = none ∨ val16 b = none) : R = none := by
  rw [← h, pairsS]
  rcases hv with hv | hv
  · rw [hv]; rfl
  · rw [hv]; cases val16 a <;> rfl
theorem pairs_go {A r : Bs} {a b : UInt8} {x y : Nat} {R : Option Bs} (h : (pairsS (a :: b :: r)).map (A ++ ·) = R) (ha : val16 a = some x) (hb : val16 b = some y) : (pairsS r).map ((A ++ [UInt8.ofNat (x * 16 + y)]) ++ ·) = R := by
  rw [← h, pairsS, ha, hb]
  cases pairsS r <;> simp
theorem loose_fuel : ∀ (f g : Nat) (s : Bs), s.length < f → s.length < g → looseF f s = looseF g s
  | 0, _, _, h, _ => by omega
  | _ + 1, 0, _, _, h => by omega
  | f + 1, g + 1, [], _, _ => rfl
  | f + 1, g + 1, c :: r, h1, h2 => by
    simp only [looseF]
    cases hp : readS.pieceS (c :: r) with
    | none => rfl
    | some q =>
      obtain ⟨b, n⟩ := q
      have hn := readS.piece_len hp
      simp only
      rw [loose_fuel f g _ (by rw [List.length_drop]; omega) (by rw [List.length_drop]; omega)]
/-- a loop over a word: what has been told, and what is left -/
theorem loose_end {A : Bs} {R : Option Bs} (h : (looseS []).map (A ++ ·) = R) : R = some A := by rw [← h]; simp [looseS, looseF]
theorem loose_bad {A s : Bs} {R : Option Bs} (h : (looseS s).map (A ++ ·) = R) (hs : s ≠ []) (hp : readS.pieceS s = none) : R = none := by
  rw [← h]
  cases s with
  | nil => exact absurd rfl hs
  | cons c r => unfold looseS; simp only [looseF, hp]; rfl
theorem loose_go {A s : Bs} {c : UInt8} {n : Nat} {R : Option Bs} (h : (looseS s).map (A ++ ·) = R) (hp : readS.pieceS s = some (c, n)) : (looseS (s.drop n)).map ((A ++ [c]) ++ ·) = R := by
  rw [← h]
  have hn := readS.piece_len hp
  cases s with
  | nil => simp [readS.pieceS] at hp
  | cons d r =>
    unfold looseS
    rw [loose_fuel ((List.drop n (d :: r)).length + 1) (d :: r).length _ (by omega) (by rw [List.length_drop]; omega)]
    simp only [looseF, hp]
    cases looseF (d :: r).length ((d :: r).drop n) <;> simp
theorem loose_len {s d : Bs} (h : looseS s = some d) : d.length ≤ s.length := by
  have : ∀ (f : Nat) (s d : Bs), looseF f s = some d → d.length ≤ s.length := by
    intro f
    induction f with
    | zero => intro s d h; simp [looseF] at h
    | succ f ih =>
      intro s d h
      cases s with
      | nil => simp [looseF] at h; subst h; simp
      | cons c r =>
        simp only [looseF] at h
        cases hp : readS.pieceS (c :: r) with
        | none => rw [hp] at h; simp at h
        | some q =>
          obtain ⟨b, n⟩ := q
          have hn := readS.piece_len hp
          rw [hp] at h
          simp only at h
          obtain ⟨u, hu, rfl⟩ := Option.map_eq_some_iff.1 h
          have h1 := ih _ _ hu
          rw [List.length_drop] at h1
          simp only [List.length_cons] at hn h1 ⊢
          omega
  exact this _ _ _ h
/-- words that are put together: the loop's steps -/
theorem rest_nil {W : List Wo} {k : Nat} (h : W.length ≤ k) : restW (W.drop k) k = .ok [] := by rw [List.drop_eq_nil_of_le h]; rfl
theorem rest_cons {W : List Wo} {k : Nat} {w : Wo} (h : W[k]? = some w) : restW (W.drop k) k = if w.q then .error (k : Int) else match restW (W.drop (k + 1)) (k + 1) with
    | .error e => .error e
    | .ok d => .ok (w.s.data.toList ++ d) := by
  obtain ⟨hk, rfl⟩ := List.getElem?_eq_some_iff.1 h
  rw [List.drop_eq_getElem_cons hk]
  rfl
/-- what has been put together, and what the rest will give -/
def addR (A : Bs) (x : Except Int Bs) : Except Int Bs := match x with
  | .error e => .error e
  | .ok d => .ok (A ++ d)
theorem addR_nil (x : Except Int Bs) : addR [] x = x := by cases x <;> rfl
theorem rest_bad {W : List Wo} {k : Nat} {w : Wo} {A : Bs} {R : Except Int Bs} (h : addR A (restW (W.drop k) k) = R) (hw : W[k]? = some w) (hq : w.q = true) : R = .error (k : Int) := by
  rw [← h, rest_cons hw, if_pos hq]; rfl
theorem rest_go {W : List Wo} {k : Nat} {w : Wo} {A : Bs} {R : Except Int Bs} (h : addR A (restW (W.drop k) k) = R) (hw : W[k]? = some w) (hq : w.q = false) : addR (A ++ w.s.data.toList) (restW (W.drop (k + 1)) (k + 1)) = R := by
  rw [← h, rest_cons hw, if_neg (by rw [hq]; simp)]
  cases restW (W.drop (k + 1)) (k + 1) <;> simp [addR]
theorem rest_end {W : List Wo} {k : Nat} {A : Bs} {R : Except Int Bs} (h : addR A (restW (W.drop k) k) = R) (hk : W.length ≤ k) : R = .ok A := by
  rw [← h, rest_nil hk]; simp [addR]
theorem val64_lt {c : UInt8} {x : Nat} (h : val64 c = some x) : x < 64 := by
  unfold val64 at h
  split at h
  · cases h; omega
  · split at h
    · cases h; omega
    · split at h
      · cases h; omega
      · split at h
        · cases h; omega
        · split at h
          · cases h; omega
          · cases h
theorem val64_pad : val64 61 = none := by decide
/-- four characters as three bytes -/
def three (v : Nat) : Bs := [UInt8.ofNat (v / 65536), UInt8.ofNat (v / 256 % 256), UInt8.ofNat (v % 256)]
/-- the last four, of which so many are '=' -/
def lastQ (pad : Nat) (a b c d : UInt8) : Option Bs :=
  match val64 a, val64 b with
  | some x, some y => if pad = 2 then (if (x * 64 + y) % 16 = 0 then some [UInt8.ofNat ((x * 64 + y) / 16)] else none) else match val64 c with
    | some z => if pad = 1 then (if ((x * 64 + y) * 64 + z) % 4 = 0 then some [UInt8.ofNat (((x * 64 + y) * 64 + z) / 1024), UInt8.ofNat (((x * 64 + y) * 64 + z) / 4 % 256)] else none) else match val64 d with
      | some u => some (three (((x * 64 + y) * 64 + z) * 64 + u))
      | none => none
    | none => none
  | _, _ => none
/-- groups of four -/
def quadS (pad : Nat) : Bs → Option Bs
  | a :: b :: c :: d :: [] => lastQ pad a b c d
  | a :: b :: c :: d :: r => match val64 a, val64 b, val64 c, val64 d with
    | some x, some y, some z, some u => (quadS pad r).map (three (((x * 64 + y) * 64 + z) * 64 + u) ++ ·)
    | _, _, _, _ => none
  | _ => none
abbrev tob6 (x : Nat) : List Nat := bits.tob x 6
theorem tob12 {x y : Nat} (hy : y < 64) : tob6 x ++ tob6 y = bits.tob (x * 64 + y) 12 := (bits.tob_append x y 6 6 (by omega)).symm
theorem tob18 {x y z : Nat} (hy : y < 64) (hz : z < 64) : tob6 x ++ (tob6 y ++ tob6 z) = bits.tob ((x * 64 + y) * 64 + z) 18 := by
  rw [← List.append_assoc, tob12 hy]; exact (bits.tob_append (x * 64 + y) z 12 6 (by omega)).symm
theorem tob24 {x y z u : Nat} (hy : y < 64) (hz : z < 64) (hu : u < 64) : tob6 x ++ (tob6 y ++ (tob6 z ++ tob6 u)) = bits.tob (((x * 64 + y) * 64 + z) * 64 + u) 24 := by
  rw [← List.append_assoc, ← List.append_assoc, List.append_assoc (tob6 x), tob18 hy hz]; exact (bits.tob_append ((x * 64 + y) * 64 + z) u 18 6 (by omega)).symm
theorem bytes24 (v : Nat) : bits.tob v 24 = bits.tob (v / 65536) 8 ++ (bits.tob (v / 256 % 256) 8 ++ bits.tob (v % 256) 8) := by
  rw [← bits.tob_append (v / 256 % 256) (v % 256) 8 8 (by omega), ← bits.tob_append (v / 65536) (v / 256 % 256 * 2 ^ 8 + v % 256) 8 16 (by omega)]
  congr 1; omega
theorem bytes18 (v : Nat) : bits.tob v 18 = bits.tob (v / 1024) 8 ++ (bits.tob (v / 4 % 256) 8 ++ bits.tob (v % 4) 2) := by
  rw [← bits.tob_append (v / 4 % 256) (v % 4) 8 2 (by omega), ← bits.tob_append (v / 1024) (v / 4 % 256 * 2 ^ 2 + v % 4) 8 10 (by omega)]
  congr 1; omega
theorem bytes12 (v : Nat) : bits.tob v 12 = bits.tob (v / 16) 8 ++ bits.tob (v % 16) 4 := by
  rw [← bits.tob_append (v / 16) (v % 16) 8 4 (by omega)]
  congr 1; omega
theorem whole_three (v : Nat) (l : List Nat) : back.whole 6 (bits.tob v 24 ++ l) = (back.whole 6 l).map (three v ++ ·) := by
  rw [bytes24, List.append_assoc, List.append_assoc, back.whole_byte, back.whole_byte, back.whole_byte]
  cases back.whole 6 l <;> simp [three]
theorem whole_18 (v : Nat) : back.whole 6 (bits.tob v 18) = if v % 4 = 0 then some [UInt8.ofNat (v / 1024), UInt8.ofNat (v / 4 % 256)] else none := by
  rw [bytes18, back.whole_byte, back.whole_byte, back.whole_end (by rw [bits.tob_length]; omega), back.zeros_tob, bits.tob_length]
  by_cases h : v % 4 = 0
  · simp [h]
  · rw [decide_eq_false (by omega), if_neg h]; rfl
theorem whole_12 (v : Nat) : back.whole 6 (bits.tob v 12) = if v % 16 = 0 then some [UInt8.ofNat (v / 16)] else none := by
  rw [bytes12, back.whole_byte, back.whole_end (by rw [bits.tob_length]; omega), back.zeros_tob, bits.tob_length]
  by_cases h : v % 16 = 0
  · simp [h]
  · rw [decide_eq_false (by omega), if_neg h]; rfl
theorem sp_none {c : UInt8} {r : Bs} (h : val64 c = none) : back.spreadS 6 val64 (c :: r) = none := back.spread_cons_none h
theorem sp_some {c : UInt8} {r : Bs} {v : Nat} (h : val64 c = some v) : back.spreadS 6 val64 (c :: r) = (back.spreadS 6 val64 r).map (tob6 v ++ ·) := back.spread_cons_some h
theorem quad_last (p : Nat) (hp : p ≤ 2) (a b c d : UInt8) : (back.spreadS 6 val64 ([a, b, c, d].take (4 - p))).bind (back.whole 6) = lastQ p a b c d := by
  unfold lastQ
  cases ha : val64 a with
  | none =>
    have : back.spreadS 6 val64 ([a, b, c, d].take (4 - p)) = none := by
      obtain ⟨k, hk⟩ : ∃ k, 4 - p = k + 1 := ⟨3 - p, by omega⟩
      rw [hk, List.take_succ_cons]; exact sp_none ha
    rw [this]; rfl
  | some x =>
    cases hb : val64 b with
    | none =>
      have : back.spreadS 6 val64 ([a, b, c, d].take (4 - p)) = none := by
        obtain ⟨k, hk⟩ : ∃ k, 4 - p = k + 2 := ⟨2 - p, by omega⟩
        rw [hk, List.take_succ_cons, List.take_succ_cons, sp_some ha, sp_none hb]; rfl
      rw [this]; rfl
    | some y =>
      have hy := val64_lt hb
      simp only
      by_cases h2 : p = 2
      · subst h2
        rw [if_pos rfl]
        show (back.spreadS 6 val64 [a, b]).bind _ = _
        rw [sp_some ha, sp_some hb]
        show back.whole 6 (tob6 x ++ (tob6 y ++ [])) = _
        rw [List.append_nil, tob12 hy, whole_12]
      · rw [if_neg h2]
        cases hc : val64 c with
        | none =>
          have : back.spreadS 6 val64 ([a, b, c, d].take (4 - p)) = none := by
            obtain ⟨k, hk⟩ : ∃ k, 4 - p = k + 3 := ⟨1 - p, by omega⟩
            rw [hk, List.take_succ_cons, List.take_succ_cons, List.take_succ_cons, sp_some ha, sp_some hb, sp_none hc]; rfl
          rw [this]; rfl
        | some z =>
          have hz := val64_lt hc
          simp only
          by_cases h1 : p = 1
          · subst h1
            rw [if_pos rfl]
            show (back.spreadS 6 val64 [a, b, c]).bind _ = _
            rw [sp_some ha, sp_some hb, sp_some hc]
            show back.whole 6 (tob6 x ++ (tob6 y ++ (tob6 z ++ []))) = _
            rw [List.append_nil, tob18 hy hz, whole_18]
          · rw [if_neg h1]
            obtain rfl : p = 0 := by omega
            show (back.spreadS 6 val64 [a, b, c, d]).bind _ = _
            rw [sp_some ha, sp_some hb, sp_some hc]
            cases hd : val64 d with
            | none => rw [sp_none hd]; rfl
            | some u =>
              have hu := val64_lt hd
              rw [sp_some hd]
              show back.whole 6 (tob6 x ++ (tob6 y ++ (tob6 z ++ (tob6 u ++ [])))) = _
              rw [List.append_nil, tob24 hy hz hu]
              have := whole_three (((x * 64 + y) * 64 + z) * 64 + u) []
              rw [List.append_nil] at this
              rw [this]
              rfl
theorem quad_all (p : Nat) (hp : p ≤ 2) : ∀ s : Bs, s ≠ [] → s.length % 4 = 0 → (back.spreadS 6 val64 (s.take (s.length - p))).bind (back.whole 6) = quadS p s
  | [], h, _ => absurd rfl h
  | [_], _, h => by simp at h
  | [_, _], _, h => by simp at h
  | [_, _, _], _, h => by simp at h
  | [a, b, c, d], _, _ => by
    rw [quadS]
    exact quad_last p hp a b c d
  | a :: b :: c :: d :: e :: r, _, h => by
    have ih := quad_all p hp (e :: r) (by simp) (by simp only [List.length_cons] at h ⊢; omega)
    have hk : (a :: b :: c :: d :: e :: r).length - p = ((e :: r).length - p) + 4 := by simp only [List.length_cons] at h ⊢; omega
    rw [hk]
    simp only [List.take_succ_cons]
    have e4 : quadS p (a :: b :: c :: d :: e :: r) = match val64 a, val64 b, val64 c, val64 d with
      | some x, some y, some z, some u => (quadS p (e :: r)).map (three (((x * 64 + y) * 64 + z) * 64 + u) ++ ·)
      | _, _, _, _ => none := by rw [quadS]; simp
    rw [e4, ← ih]
    cases ha : val64 a with
    | none => rw [sp_none ha]; rfl
    | some x =>
      rw [sp_some ha]
      cases hb : val64 b with
      | none => rw [sp_none hb]; rfl
      | some y =>
        rw [sp_some hb]
        cases hc : val64 c with
        | none => rw [sp_none hc]; rfl
        | some z =>
          rw [sp_some hc]
          cases hd : val64 d with
          | none => rw [sp_none hd]; rfl
          | some u =>
            rw [sp_some hd]
            cases hs : back.spreadS 6 val64 ((e :: r).take ((e :: r).length - p)) with
            | none => rfl
            | some l =>
              simp only [Option.map_some, Option.bind_some]
              rw [show tob6 x ++ (tob6 y ++ (tob6 z ++ (tob6 u ++ l))) = (tob6 x ++ (tob6 y ++ (tob6 z ++ tob6 u))) ++ l by simp only [List.append_assoc], tob24 (val64_lt hb) (val64_lt hc) (val64_lt hd), whole_three]
theorem pad_le (s : Bs) : padN s ≤ 2 := by unfold padN; split <;> (try split) <;> omega
theorem unb64_quads {s : Bs} (h : s ≠ []) (h4 : s.length % 4 = 0) : unb64S s = quadS (padN s) s := by
  unfold unb64S
  rw [if_neg (by rintro (e | e); exact h e; exact e h4)]
  exact quad_all _ (pad_le s) s h h4
/-- a number of hexadecimal digits -/
def hexV : Nat → Bs → Option Nat
  | v, [] => some v
  | v, c :: r => match val16 c with
    | some x => hexV (v * 16 + x) r
    | none => none
/-- one group of an address: two bytes -/
def groupS (g : Bs) : Option Bs := if g.length < 1 ∨ 4 < g.length then none else pairsS (List.replicate (4 - g.length) 48 ++ g)
theorem val16_0 : val16 48 = some 0 := by decide
theorem hexV_go {c : UInt8} {x v : Nat} {r : Bs} {R : Option Nat} (h : hexV v (c :: r) = R) (hc : val16 c = some x) : hexV (v * 16 + x) r = R := by rw [← h, hexV, hc]
theorem hexV_bad {c : UInt8} {v : Nat} {r : Bs} {R : Option Nat} (h : hexV v (c :: r) = R) (hc : val16 c = none) : R = none := by rw [← h, hexV, hc]
theorem hexV_zero (g : Bs) : ∀ k : Nat, hexV 0 (List.replicate k 48 ++ g) = hexV 0 g
  | 0 => rfl
  | k + 1 => by
    rw [List.replicate_succ, List.cons_append, hexV, val16_0]
    exact hexV_zero g k
theorem four_val (a b c d : UInt8) : pairsS [a, b, c, d] = (hexV 0 [a, b, c, d]).map (fun v => [UInt8.ofNat (v / 256), UInt8.ofNat (v % 256)]) := by
  rw [pairsS]
  cases ha : val16 a with
  | none => rw [hexV, ha]; rfl
  | some x =>
    rw [hexV, ha]
    cases hb : val16 b with
    | none => simp only [hexV, hb]; rfl
    | some y =>
      have hy := val16_lt hb
      simp only [hexV, hb]
      rw [pairsS]
      cases hc : val16 c with
      | none => rfl
      | some z =>
        have hz := val16_lt hc
        cases hd : val16 d with
        | none => rfl
        | some u =>
          have hu := val16_lt hd
          have e1 : ((((0 * 16 + x) * 16 + y) * 16 + z) * 16 + u) / 256 = x * 16 + y := by omega
          have e2 : ((((0 * 16 + x) * 16 + y) * 16 + z) * 16 + u) % 256 = z * 16 + u := by omega
          simp only [Option.map_some, pairsS, e1, e2]
theorem group_val {g : Bs} (h : 1 ≤ g.length ∧ g.length ≤ 4) : groupS g = (hexV 0 g).map (fun v => [UInt8.ofNat (v / 256), UInt8.ofNat (v % 256)]) := by
  unfold groupS
  rw [if_neg (by omega), ← hexV_zero g (4 - g.length)]
  obtain ⟨l, hl⟩ : ∃ l, List.replicate (4 - g.length) 48 ++ g = l := ⟨_, rfl⟩
  have h4 : l.length = 4 := by rw [← hl, List.length_append, List.length_replicate]; omega
  rw [hl]
  match l, h4 with
  | [a, b, c, d], _ => exact four_val a b c d
end Go.Proofs.YtkcpbjoolfojjaaGreatDoor.rdP
namespace Go.Proofs.YtkcpbjoolfojjaaGreatDoor.typesP
open Go.Proofs.YtkcpbjoolfojjaaGreatDoor.nspec Go.Proofs.YtkcpbjoolfojjaaGreatDoor.bits Go.Proofs.YtkcpbjoolfojjaaGreatDoor.fld
set_option linter.unusedVariables false

theorem tob_get : ∀ (v n j : Nat), j < n → (tob v n)[j]? = some (v / 2 ^ (n - 1 - j) % 2)
  | v, 0, j, h => by omega
  | v, n + 1, 0, h => by simp [tob]
  | v, n + 1, j + 1, h => by
    rw [tob, List.getElem?_cons_succ, tob_get v n j (by omega)]
    congr 4; omega
theorem bitsL_get : ∀ (m : Bs) (k : Nat), k < 8 * m.length → (bitsL m)[k]? = some ((m.getD (k / 8) 0).toNat / 2 ^ (7 - k % 8) % 2)
  | [], k, h => by simp at h
  | c :: r, k, h => by
    rw [bits_cons]
    have hl : (tob c.toNat 8).length = 8 := tob_length _ _
    rcases Nat.lt_or_ge k 8 with h8 | h8
    · rw [List.getElem?_append_left (by omega), tob_get _ _ _ h8]
      have e1 : k / 8 = 0 := by omega
      have e2 : k % 8 = k := by omega
      rw [e1, e2]; simp
    · rw [List.getElem?_append_right (by omega), hl, bitsL_get r (k - 8) (by simp only [List.length_cons] at h; omega)]
      have e1 : k / 8 = (k - 8) / 8 + 1 := by omega
      have e2 : k % 8 = (k - 8) % 8 := by omega
      rw [e1, e2]; simp

def typesA (last : Int) (out : List Nat) (d : Bs) : Option (List Nat) := typesF (d.length + 1) last out d
theorem types_end (last : Int) (out : List Nat) : typesA last out [] = some out := rfl
theorem types_one (last : Int) (out : List Nat) (b : UInt8) : typesA last out [b] = none := rfl
theorem types_bad {last : Int} {out : List Nat} {b n : UInt8} {m : Bs} (h : (b.toNat : Int) ≤ last ∨ n.toNat < 1 ∨ 32 < n.toNat ∨ m.length < n.toNat ∨ m.getD (n.toNat - 1) 0 = 0) : typesA last out (b :: n :: m) = none := by
  unfold typesA; rw [List.length_cons, typesF, if_pos h]
theorem types_go {last : Int} {out : List Nat} {b n : UInt8} {m : Bs} (h : ¬ ((b.toNat : Int) ≤ last ∨ n.toNat < 1 ∨ 32 < n.toNat ∨ m.length < n.toNat ∨ m.getD (n.toNat - 1) 0 = 0)) :
    typesA last out (b :: n :: m) = typesA (b.toNat : Int) (out ++ blockL b.toNat (m.take n.toNat)) (m.drop n.toNat) := by
  unfold typesA; rw [List.length_cons, typesF, if_neg h]
  exact types_fuel _ _ _ _ _ (by simp only [List.length_cons, List.length_drop]; omega) (by omega)
theorem typesS_eq (d : Bs) : typesS d = match typesA (-1) [] d with | none => none | some l => if 0 ∈ l then none else some l := rfl

theorem pick_bd : ∀ (l : List Nat) (b k : Nat), (∀ x ∈ pickL b k l, b * 256 + k ≤ x ∧ x < b * 256 + k + l.length) ∧ (pickL b k l).Pairwise (· < ·)
  | [], b, k => by simp [pickL]
  | x :: l, b, k => by
    have ⟨h1, h2⟩ := pick_bd l b (k + 1)
    simp only [pickL, List.length_cons]
    split
    · refine ⟨fun y hy => ?_, ?_⟩
      · rcases List.mem_cons.1 hy with rfl | hy
        · omega
        · have := h1 y hy; omega
      · rw [List.pairwise_cons]
        exact ⟨fun y hy => by have := h1 y hy; omega, h2⟩
    · exact ⟨fun y hy => by have := h1 y hy; omega, h2⟩
theorem pick_len : ∀ (l : List Nat) (b k : Nat), (pickL b k l).length ≤ l.length
  | [], b, k => by simp [pickL]
  | x :: l, b, k => by
    have := pick_len l b (k + 1)
    simp only [pickL, List.length_cons]
    split
    · rw [List.length_cons]; omega
    · omega
theorem pick_snoc {b k : Nat} {l : List Nat} {x : Nat} {A R : List Nat} (h : A ++ pickL b k (l.drop k) = R) (hx : l[k]? = some x) : (A ++ (if x = 1 then [b * 256 + k] else [])) ++ pickL b (k + 1) (l.drop (k + 1)) = R := by
  obtain ⟨h1, h2⟩ := List.getElem?_eq_some_iff.1 hx
  rw [List.drop_eq_getElem_cons h1, h2, pickL] at h
  rw [← h]
  split <;> simp
theorem pick_end {b k : Nat} {l : List Nat} {A R : List Nat} (h : A ++ pickL b k (l.drop k) = R) (hk : l.length ≤ k) : A = R := by
  rw [List.drop_eq_nil_iff.2 hk] at h; simpa [pickL] using h

theorem types_sorted : ∀ (f : Nat) (last : Int) (out : List Nat) (d : Bs) (l : List Nat), typesF f last out d = some l → out.Pairwise (· < ·) → (∀ x ∈ out, (x : Int) < 256 * (last + 1)) → -1 ≤ last → last ≤ 255 → l.Pairwise (· < ·) ∧ (∀ x ∈ l, x < 65536)
  | 0, last, out, d, l, h, _, _, _, _ => by simp [typesF] at h
  | f + 1, last, out, [], l, h, h1, h2, h3, h4 => by
    simp only [typesF, Option.some.injEq] at h
    subst h
    exact ⟨h1, fun x hx => by have := h2 x hx; omega⟩
  | f + 1, last, out, [b], l, h, _, _, _, _ => by simp [typesF] at h
  | f + 1, last, out, b :: n :: m, l, h, h1, h2, h3, h4 => by
    simp only [typesF] at h
    split at h
    · simp at h
    · rename_i hn
      have hb := b.toNat_lt
      have hbl : last < (b.toNat : Int) := by omega
      have hn32 : n.toNat ≤ 32 := by omega
      obtain ⟨p1, p2⟩ := pick_bd (bitsL (m.take n.toNat)) b.toNat 0
      have hlen : (bitsL (m.take n.toNat)).length ≤ 256 := by rw [bitsL_len, List.length_take]; omega
      refine types_sorted f _ _ _ l h ?_ ?_ (by omega) (by omega)
      · rw [List.pairwise_append]
        refine ⟨h1, p2, fun x hx y hy => ?_⟩
        have := h2 x hx
        have := p1 y hy
        omega
      · intro x hx
        rcases List.mem_append.1 hx with hx | hx
        · have := h2 x hx; omega
        · have := p1 x hx; omega
theorem sorted_of {d : Bs} {l : List Nat} (h : typesA (-1) [] d = some l) : l.Pairwise (· < ·) ∧ (∀ x ∈ l, x < 65536) :=
  types_sorted _ _ _ _ _ h (by simp) (by simp) (by omega) (by omega)
theorem zero_head {l : List Nat} (h : l.Pairwise (· < ·)) : 0 ∈ l ↔ l.head? = some 0 := by
  cases l with
  | nil => simp
  | cons x r =>
    rw [List.pairwise_cons] at h
    simp only [List.mem_cons, List.head?_cons, Option.some.injEq]
    constructor
    · rintro (h0 | h0)
      · exact h0.symm
      · have := h.1 0 h0; omega
    · intro h0; exact .inl h0.symm
theorem types_len : ∀ (f : Nat) (last : Int) (out : List Nat) (d : Bs) (l : List Nat), typesF f last out d = some l → l.length ≤ out.length + 8 * d.length
  | 0, last, out, d, l, h => by simp [typesF] at h
  | f + 1, last, out, [], l, h => by simp only [typesF, Option.some.injEq] at h; subst h; simp
  | f + 1, last, out, [b], l, h => by simp [typesF] at h
  | f + 1, last, out, b :: n :: m, l, h => by
    simp only [typesF] at h
    split at h
    · simp at h
    · rename_i hn
      have := types_len f _ _ _ l h
      have hp := pick_len (bitsL (m.take n.toNat)) b.toNat 0
      rw [bitsL_len, List.length_take] at hp
      simp only [blockL, List.length_append, List.length_drop, List.length_cons] at *
      omega
end Go.Proofs.YtkcpbjoolfojjaaGreatDoor.typesP
namespace Go.Proofs.YtkcpbjoolfojjaaGreatDoor.setP
open Go.Proofs.YtkcpbjoolfojjaaGreatDoor.nspec Go.Proofs.YtkcpbjoolfojjaaGreatDoor.bits Go.Proofs.YtkcpbjoolfojjaaGreatDoor.fld Go.Proofs.YtkcpbjoolfojjaaGreatDoor.typesP
set_option linter.unusedVariables false

/-- a number of a type -/
def isT (t : Int) : Prop := 1 ≤ t ∧ t ≤ 65535
instance (t : Int) : Decidable (isT t) := inferInstanceAs (Decidable (_ ∧ _))
def markT (t : Nat) : UInt8 := UInt8.ofNat (2 ^ (7 - t % 8))
/-- the block with one more of its bits -/
def putT (B : Bs) (t : Nat) : Bs :=
  let q := t % 256 / 8
  let B1 := B ++ List.replicate (q + 3 - B.length) 0
  let B2 := B1.set (q + 2) (B1.getD (q + 2) 0 ||| markT t)
  B2.set 1 (UInt8.ofNat (B2.length - 2))
structure St where
  A : Bs
  b : Int
  B : Bs
def setStep (s : St) (t : Int) : St :=
  if isT t then
    if t / 256 = s.b then ⟨s.A, s.b, putT s.B t.toNat⟩
    else ⟨s.A ++ s.B, t / 256, putT [UInt8.ofNat (t.toNat / 256), 0] t.toNat⟩
  else s
def set0 : St := ⟨[], -1, []⟩
def setL (L : List Int) : Bs := let s := L.foldl setStep set0; s.A ++ s.B

theorem putT_len (B : Bs) (t : Nat) : (putT B t).length = max B.length (t % 256 / 8 + 3) := by
  simp only [putT, List.length_set, List.length_append, List.length_replicate]; omega
theorem step_no (s : St) {t : Int} (h : ¬ isT t) : setStep s t = s := by simp only [setStep, if_neg h]

theorem mark_bit (c : UInt8) (i j : Nat) (hi : i < 8) (hj : j < 8) : ((c ||| UInt8.ofNat (2 ^ (7 - j))).toNat / 2 ^ (7 - i) % 2 = 1) ↔ (i = j ∨ c.toNat / 2 ^ (7 - i) % 2 = 1) := by
  have hp : 2 ^ (7 - j) < 256 := Nat.lt_of_le_of_lt (Nat.pow_le_pow_right (n := 2) (by omega) (show 7 - j ≤ 7 by omega)) (by decide)
  have h1 : (c ||| UInt8.ofNat (2 ^ (7 - j))).toNat = c.toNat ||| 2 ^ (7 - j) := by
    rw [UInt8.toNat_or, UInt8.toNat_ofNat_of_lt' hp]
  have hd : ∀ x k : Nat, (x / 2 ^ k % 2 = 1) ↔ x.testBit k = true := by
    intro x k
    rw [Nat.testBit_eq_decide_div_mod_eq, decide_eq_true_eq]
  rw [hd, hd, h1, Nat.testBit_or, Bool.or_eq_true, Nat.testBit_two_pow, decide_eq_true_eq]
  constructor
  · rintro (h | h)
    · exact .inr h
    · left; omega
  · rintro (h | h)
    · right; omega
    · exact .inl h

theorem mem_pick : ∀ (l : List Nat) (b k x : Nat), x ∈ pickL b k l ↔ ∃ j, l[j]? = some 1 ∧ x = b * 256 + (k + j)
  | [], b, k, x => by simp [pickL]
  | y :: l, b, k, x => by
    have ih := mem_pick l b (k + 1) x
    have hs : (∃ j, (y :: l)[j]? = some 1 ∧ x = b * 256 + (k + j)) ↔ ((y = 1 ∧ x = b * 256 + k) ∨ ∃ j, l[j]? = some 1 ∧ x = b * 256 + (k + 1 + j)) := by
      constructor
      · rintro ⟨j, h1, h2⟩
        cases j with
        | zero => left; simp at h1; exact ⟨h1, by simpa using h2⟩
        | succ j => right; exact ⟨j, by simpa using h1, by omega⟩
      · rintro (⟨h1, h2⟩ | ⟨j, h1, h2⟩)
        · exact ⟨0, by simp [h1], by simpa using h2⟩
        · exact ⟨j + 1, by simpa using h1, by omega⟩
    rw [hs, ← ih]
    simp only [pickL]
    split
    · rename_i h
      simp [h]
    · rename_i h
      simp [h]
def bitOf (r : Bs) (k : Nat) : Nat := (r.getD (k / 8) 0).toNat / 2 ^ (7 - k % 8) % 2
theorem bitOf_out {r : Bs} {k : Nat} (h : 8 * r.length ≤ k) : bitOf r k = 0 := by
  unfold bitOf
  rw [List.getD_eq_getElem?_getD, List.getElem?_eq_none (by omega)]
  simp
theorem mem_block (b : Nat) (r : Bs) (x : Nat) : x ∈ blockL b r ↔ ∃ k, bitOf r k = 1 ∧ x = b * 256 + k := by
  show x ∈ pickL b 0 (bitsL r) ↔ _
  rw [mem_pick]
  constructor
  · rintro ⟨j, h1, h2⟩
    have hj : j < 8 * r.length := by rw [← bitsL_len]; exact (List.getElem?_eq_some_iff.1 h1).1
    rw [bitsL_get r j hj] at h1
    exact ⟨j, by simpa [bitOf] using h1, by omega⟩
  · rintro ⟨j, h1, h2⟩
    have hj : j < 8 * r.length := by
      rcases Nat.lt_or_ge j (8 * r.length) with h | h
      · exact h
      · rw [bitOf_out h] at h1; omega
    exact ⟨j, by rw [bitsL_get r j hj]; simpa [bitOf] using h1, by omega⟩
theorem bit_or (c : UInt8) (t k : Nat) : ((c ||| markT t).toNat / 2 ^ (7 - k % 8) % 2 = 1) ↔ (k % 8 = t % 8 ∨ c.toNat / 2 ^ (7 - k % 8) % 2 = 1) :=
  mark_bit c (k % 8) (t % 8) (by omega) (by omega)
theorem getD_pad (r : Bs) (n j : Nat) : (r ++ List.replicate n 0).getD j 0 = r.getD j 0 := by
  rw [List.getD_eq_getElem?_getD, List.getD_eq_getElem?_getD]
  by_cases h : j < r.length
  · rw [List.getElem?_append_left h]
  · rw [List.getElem?_append_right (by omega), List.getElem?_eq_none (l := r) (by omega), List.getElem?_replicate]
    split <;> rfl
/-- the row of bits with one more -/
def putR (r : Bs) (t : Nat) : Bs :=
  let q := t % 256 / 8
  (r ++ List.replicate (q + 1 - r.length) 0).set q (r.getD q 0 ||| markT t)
theorem putR_len (r : Bs) (t : Nat) : (putR r t).length = max r.length (t % 256 / 8 + 1) := by
  simp only [putR, List.length_set, List.length_append, List.length_replicate]; omega
theorem putR_at (r : Bs) (t : Nat) : (putR r t).getD (t % 256 / 8) 0 = r.getD (t % 256 / 8) 0 ||| markT t := by
  simp only [putR]
  rw [List.getD_eq_getElem?_getD, List.getElem?_set_self (by rw [List.length_append, List.length_replicate]; omega)]; rfl
theorem putR_ne (r : Bs) (t j : Nat) (h : j ≠ t % 256 / 8) : (putR r t).getD j 0 = r.getD j 0 := by
  simp only [putR]
  rw [List.getD_eq_getElem?_getD, List.getElem?_set_ne (by omega), ← List.getD_eq_getElem?_getD, getD_pad]
theorem putR_bit (r : Bs) (t k : Nat) : bitOf (putR r t) k = 1 ↔ (k = t % 256 ∨ bitOf r k = 1) := by
  unfold bitOf
  by_cases h : k / 8 = t % 256 / 8
  · rw [h, putR_at, bit_or]
    constructor
    · rintro (h1 | h1)
      · left; omega
      · exact .inr h1
    · rintro (h1 | h1)
      · left; omega
      · exact .inr h1
  · rw [putR_ne _ _ _ h]
    constructor
    · exact .inr
    · rintro (h1 | h1)
      · exact absurd (by rw [h1]) h
      · exact h1
theorem mark_ne (c : UInt8) (t : Nat) : (c ||| markT t) ≠ 0 := by
  intro h
  have h1 := (bit_or c t t).2 (.inl rfl)
  rw [h] at h1
  simp at h1
theorem putT_row (b n : UInt8) (r : Bs) (t : Nat) : putT (b :: n :: r) t = b :: UInt8.ofNat (putR r t).length :: putR r t := by
  simp only [putT, putR]
  have e1 : t % 256 / 8 + 3 - (b :: n :: r).length = t % 256 / 8 + 1 - r.length := by simp only [List.length_cons]; omega
  rw [e1]
  have e2 : ((b :: n :: r) ++ List.replicate (t % 256 / 8 + 1 - r.length) (0 : UInt8)).getD (t % 256 / 8 + 2) 0 = r.getD (t % 256 / 8) 0 := by
    rw [getD_pad]; rfl
  rw [e2]
  simp only [List.cons_append, List.set_cons_succ, List.set_cons_zero, List.length_cons, List.length_set]
  rfl

/-- what the bytes so far say -/
def Inv (s : St) (t0 : Int) (M : Int → Prop) : Prop :=
  (s = set0 ∧ (∀ x, ¬ M x) ∧ t0 < 1) ∨
  ∃ (r : Bs) (lA : List Nat) (last : Int), isT t0 ∧ s.b = t0 / 256 ∧ s.B = UInt8.ofNat (t0.toNat / 256) :: UInt8.ofNat r.length :: r ∧ r.length = t0.toNat % 256 / 8 + 1 ∧ r.getD (r.length - 1) 0 ≠ 0 ∧
    last < t0 / 256 ∧ (s.A.length : Int) ≤ 34 * (t0 / 256) ∧ (∀ rest, typesA (-1) [] (s.A ++ rest) = typesA last lA rest) ∧ (∀ x : Nat, x ∈ lA ++ blockL (t0.toNat / 256) r ↔ M (x : Int))
theorem types_row {last : Int} {out : List Nat} {b : Nat} {r : Bs} (hb : b < 256) (hl : last < b) (h1 : 1 ≤ r.length) (h2 : r.length ≤ 32) (h3 : r.getD (r.length - 1) 0 ≠ 0) (rest : Bs) :
    typesA last out ((UInt8.ofNat b :: UInt8.ofNat r.length :: r) ++ rest) = typesA (b : Int) (out ++ blockL b r) rest := by
  have e1 : (UInt8.ofNat b).toNat = b := UInt8.toNat_ofNat_of_lt' hb
  have e2 : (UInt8.ofNat r.length).toNat = r.length := UInt8.toNat_ofNat_of_lt' (Nat.lt_of_le_of_lt h2 (by decide))
  rw [List.cons_append, List.cons_append, types_go]
  · rw [e1, e2, List.take_left, List.drop_left]
  · rw [e1, e2]
    rintro (h | h | h | h | h)
    · omega
    · omega
    · omega
    · rw [List.length_append] at h; omega
    · rw [List.getD_eq_getElem?_getD, List.getElem?_append_left (by omega), ← List.getD_eq_getElem?_getD] at h
      exact h3 h
theorem inv_step {s : St} {t0 t : Int} {M : Int → Prop} (h : Inv s t0 M) (ht : t0 ≤ t) : Inv (setStep s t) (if isT t then t else t0) (fun x => M x ∨ (x = t ∧ isT t)) := by
  by_cases hv : isT t
  · rw [if_pos hv]
    obtain ⟨T, hT⟩ : ∃ T : Nat, t = (T : Int) := ⟨t.toNat, by unfold isT at hv; omega⟩
    have hT2 : t.toNat = T := by omega
    have hTv : 1 ≤ T ∧ T ≤ 65535 := by unfold isT at hv; omega
    right
    rcases h with ⟨rfl, hM, h0⟩ | ⟨r, lA, last, g1, g2, g3, g4, g5, g6, gl, g7, g8⟩
    · refine ⟨putR [] T, [], -1, hv, ?_, ?_, ?_, ?_, by omega, ?_, fun rest => ?_, fun x => ?_⟩
      · simp only [setStep, if_pos hv]
        rw [if_neg (show ¬ (t / 256 = set0.b) by show ¬ (t / 256 = -1); omega)]
      · simp only [setStep, if_pos hv]
        rw [if_neg (show ¬ (t / 256 = set0.b) by show ¬ (t / 256 = -1); omega), hT2]
        exact putT_row _ _ _ _
      · rw [putR_len, hT2]; simp
      · rw [putR_len]; simp only [List.length_nil, Nat.zero_max, Nat.add_sub_cancel]
        rw [putR_at]; exact mark_ne _ _
      · simp only [setStep, if_pos hv]
        rw [if_neg (show ¬ (t / 256 = set0.b) by show ¬ (t / 256 = -1); omega)]
        simp [set0]; omega
      · simp only [setStep, if_pos hv]
        rw [if_neg (show ¬ (t / 256 = set0.b) by show ¬ (t / 256 = -1); omega)]
        rfl
      · rw [List.nil_append, mem_block, hT2]
        constructor
        · rintro ⟨k, h1, h2⟩
          right
          rcases (putR_bit _ _ _).1 h1 with e | e
          · exact ⟨by omega, hv⟩
          · simp [bitOf] at e
        · rintro (h1 | ⟨h1, _⟩)
          · exact absurd h1 (hM _)
          · exact ⟨T % 256, (putR_bit _ _ _).2 (.inl rfl), by omega⟩
    · obtain ⟨T0, hT0⟩ : ∃ T0 : Nat, t0 = (T0 : Int) := ⟨t0.toNat, by unfold isT at g1; omega⟩
      have hT02 : t0.toNat = T0 := by omega
      have hT0v : 1 ≤ T0 ∧ T0 ≤ 65535 := by unfold isT at g1; omega
      rw [hT02] at g3 g4 g8
      by_cases hb : t / 256 = s.b
      · have hbe : T / 256 = T0 / 256 := by omega
        have hq : T0 % 256 / 8 ≤ T % 256 / 8 := by omega
        have hrl : (putR r T).length = T % 256 / 8 + 1 := by rw [putR_len]; omega
        refine ⟨putR r T, lA, last, hv, ?_, ?_, ?_, ?_, by omega, ?_, fun rest => ?_, fun x => ?_⟩
        · simp only [setStep, if_pos hv, if_pos hb]; exact hb.symm
        · simp only [setStep, if_pos hv, if_pos hb]
          rw [g3, putT_row, hT2, hbe]
        · rw [hrl, hT2]
        · rw [hrl, Nat.add_sub_cancel, putR_at]; exact mark_ne _ _
        · simp only [setStep, if_pos hv, if_pos hb]; omega
        · simp only [setStep, if_pos hv, if_pos hb]; exact g7 rest
        · rw [hT2, hbe]
          have hx := g8 x
          rw [List.mem_append, mem_block] at hx ⊢
          constructor
          · rintro (h1 | ⟨k, h1, h2⟩)
            · exact .inl (hx.1 (.inl h1))
            · rcases (putR_bit _ _ _).1 h1 with e | e
              · exact .inr ⟨by omega, hv⟩
              · exact .inl (hx.1 (.inr ⟨k, e, h2⟩))
          · rintro (h1 | ⟨h1, _⟩)
            · rcases hx.2 h1 with h2 | ⟨k, h2, h3⟩
              · exact .inl h2
              · exact .inr ⟨k, (putR_bit _ _ _).2 (.inr h2), h3⟩
            · exact .inr ⟨T % 256, (putR_bit _ _ _).2 (.inl rfl), by omega⟩
      · have hbe : T0 / 256 < T / 256 := by omega
        have hrl : (putR [] T).length = T % 256 / 8 + 1 := by rw [putR_len]; simp
        refine ⟨putR [] T, lA ++ blockL (T0 / 256) r, (T0 / 256 : Nat), hv, ?_, ?_, ?_, ?_, by omega, ?_, fun rest => ?_, fun x => ?_⟩
        · simp only [setStep, if_pos hv, if_neg hb]
        · simp only [setStep, if_pos hv, if_neg hb]
          rw [hT2]; exact putT_row _ _ _ _
        · rw [hrl, hT2]
        · rw [hrl, Nat.add_sub_cancel, putR_at]; exact mark_ne _ _
        · simp only [setStep, if_pos hv, if_neg hb]
          rw [g3]; simp only [List.length_append, List.length_cons]; omega
        · simp only [setStep, if_pos hv, if_neg hb]
          rw [List.append_assoc, g7, g3]
          exact types_row (by omega) (by omega) (by omega) (by omega) g5 rest
        · rw [hT2]
          have hx := g8 x
          rw [List.mem_append, hx, mem_block]
          constructor
          · rintro (h1 | ⟨k, h1, h2⟩)
            · exact .inl h1
            · rcases (putR_bit _ _ _).1 h1 with e | e
              · exact .inr ⟨by omega, hv⟩
              · simp [bitOf] at e
          · rintro (h1 | ⟨h1, _⟩)
            · exact .inl h1
            · exact .inr ⟨T % 256, (putR_bit _ _ _).2 (.inl rfl), by omega⟩
  · rw [if_neg hv, step_no s hv]
    have e : (fun x => M x ∨ (x = t ∧ isT t)) = M := by
      funext x; apply propext; constructor
      · rintro (h1 | h1)
        · exact h1
        · exact absurd h1.2 hv
      · exact .inl
    rw [e]; exact h
theorem inv_fold : ∀ (L : List Int) (s : St) (t0 : Int) (M : Int → Prop), Inv s t0 M → (∀ x ∈ L, t0 ≤ x) → L.Pairwise (· ≤ ·) → ∃ t1, Inv (L.foldl setStep s) t1 (fun x => M x ∨ (x ∈ L ∧ isT x))
  | [], s, t0, M, h, _, _ => ⟨t0, by simpa using h⟩
  | t :: L, s, t0, M, h, h1, h2 => by
    rw [List.pairwise_cons] at h2
    obtain ⟨t1, h3⟩ := inv_fold L (setStep s t) _ _ (inv_step h (h1 t List.mem_cons_self)) (fun x hx => by
      split
      · exact h2.1 x hx
      · exact h1 x (List.mem_cons_of_mem _ hx)) h2.2
    refine ⟨t1, ?_⟩
    have e : (fun x => M x ∨ (x ∈ t :: L ∧ isT x)) = (fun x => (M x ∨ (x = t ∧ isT t)) ∨ (x ∈ L ∧ isT x)) := by
      funext x; apply propext
      rw [List.mem_cons]
      constructor
      · rintro (h | ⟨h | h, g⟩)
        · exact .inl (.inl h)
        · rw [h] at g ⊢; exact .inl (.inr ⟨rfl, g⟩)
        · exact .inr ⟨h, g⟩
      · rintro ((h | ⟨h, g⟩) | ⟨h, g⟩)
        · exact .inl h
        · rw [h]; exact .inr ⟨.inl rfl, g⟩
        · exact .inr ⟨.inr h, g⟩
    rw [e]; exact h3
theorem inv0 (B : Int) (h : B < 1) : Inv set0 B (fun _ => False) := .inl ⟨rfl, fun _ h => h, h⟩
theorem inv_end {s : St} {t0 : Int} {M : Int → Prop} (h : Inv s t0 M) (hM : ∀ x, M x → isT x) : ∃ l : List Nat, typesS (s.A ++ s.B) = some l ∧ (∀ x : Nat, x ∈ l ↔ M (x : Int)) ∧ l.Pairwise (· < ·) ∧ (s.A ++ s.B).length ≤ 8704 := by
  rcases h with ⟨rfl, h, _⟩ | ⟨r, lA, last, g1, g2, g3, g4, g5, g6, gl, g7, g8⟩
  · exact ⟨[], rfl, fun x => by simpa using h x, List.Pairwise.nil, by simp [set0]⟩
  · have hT0v : 1 ≤ t0.toNat ∧ t0.toNat ≤ 65535 ∧ t0 = t0.toNat := by unfold isT at g1; omega
    have e : typesA (-1) [] (s.A ++ s.B) = some (lA ++ blockL (t0.toNat / 256) r) := by
      have h1 := types_row (last := last) (out := lA) (b := t0.toNat / 256) (r := r) (by omega) (by omega) (by omega) (by omega) g5 []
      rw [List.append_nil] at h1
      rw [g7, g3, h1, types_end]
    refine ⟨_, ?_, g8, (sorted_of e).1, by rw [List.length_append, g3]; simp only [List.length_cons]; omega⟩
    have h0 : 0 ∉ lA ++ blockL (t0.toNat / 256) r := fun h => by
      have := hM _ ((g8 0).1 h); unfold isT at this; omega
    rw [typesS_eq, e]; simp [h0]
def sortL (L : List Int) : List Int := L.mergeSort fun x y => decide (x ≤ y)
theorem sortL_sorted (L : List Int) : (sortL L).Pairwise (· ≤ ·) := by
  have h := List.pairwise_mergeSort (le := fun x y : Int => decide (x ≤ y)) (fun a b c h1 h2 => by simp at *; omega) (fun a b => by simp; omega) L
  exact h.imp fun h => by simpa using h
theorem sortL_mem (L : List Int) (x : Int) : x ∈ sortL L ↔ x ∈ L := by unfold sortL; exact List.mem_mergeSort
theorem sortL_len (L : List Int) : (sortL L).length = L.length := by unfold sortL; exact List.length_mergeSort _
/-- what data.Types says of data.Set -/
theorem set_types (L : List Int) : ∃ l : List Nat, typesS (setL (sortL L)) = some l ∧ (∀ x : Nat, x ∈ l ↔ ((x : Int) ∈ L ∧ isT (x : Int))) ∧ l.Pairwise (· < ·) ∧ (setL (sortL L)).length ≤ 8704 := by
  obtain ⟨B, hB⟩ : ∃ B : Int, B < 1 ∧ ∀ x ∈ sortL L, B ≤ x := by
    have h := sortL_sorted L
    cases hs : sortL L with
    | nil => exact ⟨0, by omega, by simp⟩
    | cons y r =>
      rw [hs, List.pairwise_cons] at h
      refine ⟨min y 0, by omega, fun x hx => ?_⟩
      rcases List.mem_cons.1 hx with e | e
      · omega
      · have := h.1 x e; omega
  obtain ⟨t1, h⟩ := inv_fold (sortL L) set0 B _ (inv0 B hB.1) hB.2 (sortL_sorted L)
  obtain ⟨l, h1, h2, h3, h4⟩ := inv_end h (by rintro x (h | h); exact h.elim; exact h.2)
  refine ⟨l, h1, fun x => ?_, h3, h4⟩
  rw [h2 x, sortL_mem]; simp
end Go.Proofs.YtkcpbjoolfojjaaGreatDoor.setP
namespace Go.Proofs.YtkcpbjoolfojjaaGreatDoor.ints
open Go.RowKit Go.Proofs.YtkcpbjoolfojjaaGreatDoor.kit Go.Proofs.YtkcpbjoolfojjaaGreatDoor.bits

theorem infoInt : (Tryz.prog.info? 3).map (fun i => (i.zero, i.size, i.bytes)) = some (some (.int .i64 0), 1, 8) := by kernel_rfl
def bitV (x : Nat) : Value := .int .i64 (x : Int)

/-- a list of numbers can be read from address a on -/
def RdN (w : World) (a : Option Addr) (ls : List Nat) : Prop :=
  ∀ (j : Nat) (x : Nat), ls[j]? = some x → ∃ g o, a = some ⟨g, o, none⟩ ∧ g < w.heap.size ∧ w.cell? ⟨g, o + j, none⟩ = some (bitV x)
theorem RdN.nil (w : World) (a : Option Addr) : RdN w a [] := by intro j x h; simp at h
theorem RdN.below {w w' : World} {a : Option Addr} {B : Nat} {ls : List Nat} (h : RdN w a ls) (hB : Below B w w') (hz : B = w.heap.size) : RdN w' a ls := by
  intro j x hx
  obtain ⟨g, o, h1, h3, h4⟩ := h j x hx
  exact ⟨g, o, h1, Nat.lt_of_lt_of_le h3 hB.size, (hB.cell (p := ⟨g, o + j, none⟩) (by rw [hz]; exact h3)).trans h4⟩
theorem RdN.of_own {w : World} {base : Nat} {v : Value} {ls : List Nat} (h : w.ownsRow base 3 1 v ls.length (ls.map bitV)) : ∃ a c, v = .slice a ls.length c ∧ ls.length ≤ c ∧ c ≤ maxLen ∧ RdN w a ls := by
  rcases h.2 with ⟨rfl, h0⟩ | ⟨g, cap, cur, rfl, hb, hg, h1, h2, _, htake⟩
  · have : ls = [] := List.eq_nil_of_length_eq_zero h0
    subst this
    exact ⟨none, 0, rfl, Nat.le_refl _, Nat.zero_le _, RdN.nil _ _⟩
  · refine ⟨_, cap, rfl, h1, h2, ?_⟩
    intro j x hx
    refine ⟨g, 0, rfl, (Array.getElem?_eq_some_iff.1 hg).1, ?_⟩
    have := h.cells (g := g) rfl j (bitV x) (by rw [List.getElem?_map, hx]; rfl)
    have hadd : (⟨g, 0, none⟩ : Addr).add j = ⟨g, 0 + j, none⟩ := by unfold Addr.add; split <;> simp_all
    rw [hadd] at this
    exact this
theorem RdN.drop {w : World} {g o : Nat} {ls : List Nat} (h : RdN w (some ⟨g, o, none⟩) ls) (k : Nat) : RdN w (some ⟨g, o + k, none⟩) (ls.drop k) := by
  intro j x hx
  rw [List.getElem?_drop] at hx
  obtain ⟨g', o', h1, h2, h3⟩ := h _ x hx
  cases h1
  exact ⟨g, o + k, rfl, h2, by rw [Nat.add_assoc]; exact h3⟩
theorem own_snocN {w1 : World} {base : Nat} {v' : Value} {acc : List Nat} {d : Nat} (h : w1.ownsRow base 3 1 v' (acc.length + 1) (acc.map bitV ++ [.int .i64 (d : Int)])) : w1.ownsRow base 3 1 v' (acc ++ [d]).length ((acc ++ [d]).map bitV) := by
  simpa [bitV] using h

end Go.Proofs.YtkcpbjoolfojjaaGreatDoor.ints

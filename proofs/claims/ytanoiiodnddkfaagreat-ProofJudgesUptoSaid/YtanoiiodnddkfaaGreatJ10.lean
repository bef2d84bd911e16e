/- gazetteerref1.coded, To32: walks. How a text tells a name: plain. -/
import Derived.Test.YtanoiiodnddkfaaGreatJ8
import Derived.Test.YtanoiiodnddkfaaGreatJ9
import Derived.Test.YtanoiiodnddkfaaGreatJ7
import Derived.Laws.BytesArg
namespace Go.Proofs.YtanoiiodnddkfaaGreat.coded
open Go.RowKit Go.Proofs.YtanoiiodnddkfaaGreat.kit Go.Proofs.YtanoiiodnddkfaaGreat.bits Go.Proofs.YtanoiiodnddkfaaGreat.ints Go.Proofs.YtanoiiodnddkfaaGreat.bld Go.Proofs.YtanoiiodnddkfaaGreat.to32

theorem own_string {P : Program} {w : World} {base : Nat} {e : TypeId} {v : Value} {l : List UInt8} (h : w.ownsRow base e 1 v l.length (Lib.byteCells l)) (src dst e' : TypeId) (hs : P.underlying src = some (.slice e')) (he : P.underlying e' = some (.int .u8)) (hd : P.underlying dst = some .string) :
    (convert src dst v).run P w = .ok (.string ⟨l.toArray⟩) w := by
  rcases h.2 with ⟨rfl, h0⟩ | ⟨g, cap, cur, rfl, hb, hg, h1, h2, _, htake⟩
  · have : l = [] := List.eq_nil_of_length_eq_zero h0
    subst this
    exact run_convert_bytes_nil w src e' hs he _ _ dst hd
  · refine run_convert_bytes_back w src dst e' ⟨g, 0, none⟩ cap l hs he hd (fun j hj => ?_)
    exact h.cells (g := g) rfl j _ (by simp [Lib.byteCells, hj])

theorem own_snocB {w1 : World} {base : Nat} {e : TypeId} {v' : Value} {acc : List UInt8} {d : UInt8} (h : w1.ownsRow base e 1 v' (acc.length + 1) (Lib.byteCells acc ++ [.int .u8 (d.toNat : Int)])) : w1.ownsRow base e 1 v' (acc ++ [d]).length (Lib.byteCells (acc ++ [d])) := by
  rw [bytes_snoc]; simpa using h

def codeTo (l : List Nat) (n k : Nat) : Nat := ofb ((l ++ List.replicate n 0).take k)
theorem codeTo_succ (l : List Nat) (n k : Nat) (h : k < n) : codeTo l n (k + 1) = 2 * codeTo l n k + l.getD k 0 := by
  have hx : (l ++ List.replicate n 0)[k]? = some (l.getD k 0) := by
    rw [List.getElem?_append]
    by_cases hk : k < l.length
    · simp [hk]
    · rw [if_neg hk, List.getElem?_replicate, if_pos (by omega)]; simp [List.getD, List.getElem?_eq_none (by omega : l.length ≤ k)]
  unfold codeTo
  rw [List.take_add_one, hx, ofb_append]
  simp [ofb]; omega
theorem codeTo_lt (l : List Nat) (n : Nat) (hl : ∀ x ∈ l, x ≤ 1) : ∀ k, k ≤ n → codeTo l n k < 2 ^ k
  | 0, _ => by simp [codeTo, ofb]
  | k + 1, h => by
    have ih := codeTo_lt l n hl k (by omega)
    have hx : l.getD k 0 ≤ 1 := by
      rw [List.getD]
      cases hh : l[k]? with
      | none => simp
      | some x => simpa using hl x (List.mem_of_getElem? hh)
    rw [codeTo_succ l n k (by omega), Nat.pow_succ]; omega
theorem enc_code {n : Nat} {al A R : List UInt8} {l : List Nat} (h : A ++ enc n al l = R) (hn : 1 ≤ n) (hl : 0 < l.length) : (A ++ [al.getD (codeTo l n n) 0]) ++ enc n al (l.drop n) = R := by
  rw [enc_step al hn (List.length_pos_iff.1 hl)] at h
  rw [← h]; simp [codeTo]
theorem pow6 {n : Nat} (h : n ≤ 6) : 2 ^ n ≤ 64 := Nat.pow_le_pow_right (n := 2) (by omega) (show n ≤ 6 from h)

theorem bitsL_01 (d : List UInt8) : ∀ x ∈ bitsL d, x ≤ 1 := by
  have ht : ∀ n v : Nat, ∀ x ∈ tob v n, x ≤ 1 := by
    intro n v
    induction n with
    | zero => intro x hx; simp [tob] at hx
    | succ n ih =>
      intro x hx
      rw [tob, List.mem_cons] at hx
      rcases hx with rfl | hx
      · omega
      · exact ih x hx
  intro x hx
  obtain ⟨c, _, hc⟩ := List.mem_flatMap.1 hx
  exact ht _ _ x hc

end Go.Proofs.YtanoiiodnddkfaaGreat.coded
namespace Go.Proofs.YtanoiiodnddkfaaGreat.readS
open Go.Proofs.YtanoiiodnddkfaaGreat.kit Go.Proofs.YtanoiiodnddkfaaGreat.nspec Go.Proofs.YtanoiiodnddkfaaGreat.rput Go.Proofs.YtanoiiodnddkfaaGreat.rsplit

def digB (c : UInt8) : Bool := decide (48 ≤ c.toNat) && decide (c.toNat ≤ 57)
theorem digB_yes {c : UInt8} (h : 48 ≤ c.toNat ∧ c.toNat ≤ 57) : digB c = true := by unfold digB; simp [h.1, h.2]
theorem digB_no {c : UInt8} (h : c.toNat < 48 ∨ 57 < c.toNat) : digB c = false := by
  unfold digB; rw [Bool.and_eq_false_iff, decide_eq_false_iff_not, decide_eq_false_iff_not]; omega
/-- what stands behind a backslash: the byte, and how many bytes it takes with it -/
def escS : Bs → Option (UInt8 × Nat)
  | [] => none
  | d :: r => if digB d = false then some (d, 2) else match r with
    | a :: b :: _ => if digB a && digB b then (if 255 < (d.toNat - 48) * 100 + (a.toNat - 48) * 10 + (b.toNat - 48) then none else some (UInt8.ofNat ((d.toNat - 48) * 100 + (a.toNat - 48) * 10 + (b.toNat - 48)), 4)) else none
    | _ => none
def pieceS : Bs → Option (UInt8 × Nat)
  | [] => none
  | c :: r => if c.toNat = 92 then escS r else some (c, 1)
theorem piece_len {l : Bs} {b : UInt8} {n : Nat} (h : pieceS l = some (b, n)) : 1 ≤ n ∧ n ≤ l.length := by
  unfold pieceS at h
  split at h
  · simp at h
  · rename_i c r
    split at h
    · unfold escS at h
      split at h
      · simp at h
      · rename_i d t
        split at h
        · injection h with h; injection h with h1 h2; subst h2; simp
        · split at h
          · split at h
            · split at h
              · simp at h
              · injection h with h; injection h with h1 h2; subst h2; simp
            · simp at h
          · simp at h
    · injection h with h; injection h with h1 h2; subst h2; simp

/-- the labels that are told, and the bytes of the last one; or the place and what is wrong -/
def rdF : Nat → List Bs → Bs → Nat → Nat → Bs → Except (Nat × Int) (List Bs × Bs)
  | 0, l, now, _, _, _ => .ok (l, now)
  | _ + 1, l, now, _, _, [] => .ok (l, now)
  | f + 1, l, now, first, k, c :: r =>
    if c.toNat = 46 then (if now = [] then .error (k, 2) else rdF f (l ++ [now]) [] (k + 1) (k + 1) r)
    else match pieceS (c :: r) with
      | none => .error (k, 2)
      | some (b, n) => if 63 ≤ now.length then .error (first, 3) else rdF f l (now ++ [b]) first (k + n) ((c :: r).drop n)
theorem rd_fuel : ∀ (f g : Nat) (l : List Bs) (now : Bs) (first k : Nat) (t : Bs), t.length ≤ f → t.length ≤ g → rdF f l now first k t = rdF g l now first k t
  | 0, 0, _, _, _, _, _, _, _ => rfl
  | 0, g + 1, l, now, first, k, t, h, _ => by
    have : t = [] := List.eq_nil_of_length_eq_zero (by omega)
    subst this; rfl
  | f + 1, 0, l, now, first, k, t, _, h => by
    have : t = [] := List.eq_nil_of_length_eq_zero (by omega)
    subst this; rfl
  | f + 1, g + 1, l, now, first, k, [], _, _ => rfl
  | f + 1, g + 1, l, now, first, k, c :: r, h1, h2 => by
    simp only [List.length_cons] at h1 h2
    simp only [rdF]
    by_cases hc : c.toNat = 46
    · rw [if_pos hc, if_pos hc, rd_fuel f g _ _ _ _ r (by omega) (by omega)]
    · rw [if_neg hc, if_neg hc]
      cases hp : pieceS (c :: r) with
      | none => rfl
      | some p =>
        obtain ⟨b, n⟩ := p
        have := piece_len hp
        simp only
        rw [rd_fuel f g _ _ _ _ _ (by rw [List.length_drop, List.length_cons]; omega) (by rw [List.length_drop, List.length_cons]; omega)]
def rd (l : List Bs) (now : Bs) (first k : Nat) (t : Bs) : Except (Nat × Int) (List Bs × Bs) := rdF t.length l now first k t
theorem rd_nil (l : List Bs) (now : Bs) (first k : Nat) : rd l now first k [] = .ok (l, now) := rfl
theorem rd_dot {l : List Bs} {now : Bs} {first k : Nat} {c : UInt8} {r : Bs} (hc : c.toNat = 46) (hn : now ≠ []) : rd l now first k (c :: r) = rd (l ++ [now]) [] (k + 1) (k + 1) r := by
  unfold rd; rw [List.length_cons, rdF, if_pos hc, if_neg hn]
theorem rd_dot_no {l : List Bs} {now : Bs} {first k : Nat} {c : UInt8} {r : Bs} (hc : c.toNat = 46) (hn : now = []) : rd l now first k (c :: r) = .error (k, 2) := by
  unfold rd; rw [List.length_cons, rdF, if_pos hc, if_pos hn]
theorem rd_bad {l : List Bs} {now : Bs} {first k : Nat} {c : UInt8} {r : Bs} (hc : c.toNat ≠ 46) (hp : pieceS (c :: r) = none) : rd l now first k (c :: r) = .error (k, 2) := by
  unfold rd; rw [List.length_cons, rdF, if_neg hc, hp]
theorem rd_full {l : List Bs} {now : Bs} {first k : Nat} {c : UInt8} {r : Bs} {b : UInt8} {n : Nat} (hc : c.toNat ≠ 46) (hp : pieceS (c :: r) = some (b, n)) (hn : 63 ≤ now.length) : rd l now first k (c :: r) = .error (first, 3) := by
  unfold rd; rw [List.length_cons, rdF, if_neg hc, hp]; simp only; rw [if_pos hn]
theorem rd_go {l : List Bs} {now : Bs} {first k : Nat} {c : UInt8} {r : Bs} {b : UInt8} {n : Nat} (hc : c.toNat ≠ 46) (hp : pieceS (c :: r) = some (b, n)) (hn : now.length < 63) : rd l now first k (c :: r) = rd l (now ++ [b]) first (k + n) ((c :: r).drop n) := by
  have hl := piece_len hp
  unfold rd; rw [List.length_cons, rdF, if_neg hc, hp]; simp only
  rw [if_neg (by omega)]
  exact rd_fuel _ _ _ _ _ _ _ (by rw [List.length_drop, List.length_cons]; omega) (Nat.le_refl _)

def endL (base : List Bs) (l : List Bs) (now : Bs) : List Bs := if now = [] then l else l ++ [now] ++ base
def finS (base : List Bs) (l : List Bs) (now : Bs) : Bs × Int × Int := if 254 < room (endL base l now) then ([], 0, 4) else (put (endL base l now), 0, 0)
def resS (base : List Bs) : Except (Nat × Int) (List Bs × Bs) → Bs × Int × Int
  | .error (k, e) => ([], (k : Int), e)
  | .ok (l, now) => finS base l now
def readS (text origin : Bs) : Bs × Int × Int := match split origin with
  | none => ([], 0, 1)
  | some base => if text = [] then ([], 0, 2) else if text = [64] then (origin, 0, 0) else if text = [46] then ([0], 0, 0) else resS base (rd [] [] 0 0 text)
def Ret3 (r : Bs × Int × Int) : Ending := .returned (.tuple #[.string ⟨r.1.toArray⟩, .int .i64 r.2.1, .int .i64 r.2.2])
end Go.Proofs.YtanoiiodnddkfaaGreat.readS

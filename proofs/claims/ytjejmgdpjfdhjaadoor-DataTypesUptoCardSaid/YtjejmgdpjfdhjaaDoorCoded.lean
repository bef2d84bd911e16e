/- gazetteerref1.coded, To32: walks. -/
import Derived.Test.YtjejmgdpjfdhjaaDoorInts
import Derived.Test.YtjejmgdpjfdhjaaDoorTo32
import Derived.Laws.BytesArg
namespace Go.Proofs.YtjejmgdpjfdhjaaDoor.coded
open Go.RowKit Go.Proofs.YtjejmgdpjfdhjaaDoor.kit Go.Proofs.YtjejmgdpjfdhjaaDoor.bits Go.Proofs.YtjejmgdpjfdhjaaDoor.ints Go.Proofs.YtjejmgdpjfdhjaaDoor.bld Go.Proofs.YtjejmgdpjfdhjaaDoor.to32

theorem own_string {P : Program} {w : World} {base : Nat} {e : TypeId} {v : Value} {l : List UInt8} (h : w.ownsRow base e 1 v l.length (Lib.byteCells l)) (src dst e' : TypeId) (hs : P.underlying src = some (.slice e')) (he : P.underlying e' = some (.int .u8)) (hd : P.underlying dst = some .string) :
    (convert src dst v).run P w = .ok (.string ⟨l.toArray⟩) w := by
  rcases h.2 with ⟨rfl, h0⟩ | ⟨g, cap, cur, rfl, hb, hg, h1, h2, _, htake⟩
  · have : l = [] := List.eq_nil_of_length_eq_zero h0
    subst this
    exact run_convert_bytes_nil w src e' hs he _ _ dst hd
  · refine run_convert_bytes_back w src dst e' ⟨g, 0, none⟩ cap l hs he hd (fun j hj => ?_)
    exact h.cells (g := g) rfl j _ (by simp [Lib.byteCells, hj])

theorem own_snocB {w1 : World} {base : Nat} {e : TypeId} {v' : Value} {acc : List UInt8} {d : UInt8} (h : w1.ownsRow base e 1 v' (acc.length + 1) (Lib.byteCells acc ++ [.int .u8 (d.toNat : Int)])) : w1.ownsRow base e 1 v' (acc ++ [d]).length (Lib.byteCells (acc ++ [d])) := by
  rw [bytes_snoc]; simpa using h

def codeTo (l : List Nat) (n k : Nat) : Nat := ofb ((l ++ List.replicate n 0).take k)
theorem codeTo_succ (l : List Nat) (n k : Nat) (h : k < n) : codeTo l n (k + 1) = 2 * codeTo l n k + l.getD k 0 := by
  have hx : (l ++ List.replicate n 0)[k]? = some (l.getD k 0) := by
    rw [List.getElem?_append]
    by_cases hk : k < l.length
    · simp [hk]
    · rw [if_neg hk, List.getElem?_replicate, if_pos (by omega)]; simp [List.getD, List.getElem?_eq_none (by omega : l.length ≤ k)]
  unfold codeTo
  rw [List.take_add_one, hx, ofb_append]
  simp [ofb]; omega
theorem codeTo_lt (l : List Nat) (n : Nat) (hl : ∀ x ∈ l, x ≤ 1) : ∀ k, k ≤ n → codeTo l n k < 2 ^ k
  | 0, _ => by simp [codeTo, ofb]
  | k + 1, h => by
    have ih := codeTo_lt l n hl k (by omega)
    have hx : l.getD k 0 ≤ 1 := by
      rw [List.getD]
      cases hh : l[k]? with
      | none => simp
      | some x => simpa using hl x (List.mem_of_getElem? hh)
    rw [codeTo_succ l n k (by omega), Nat.pow_succ]; omega
theorem enc_code {n : Nat} {al A R : List UInt8} {l : List Nat} (h : A ++ enc n al l = R) (hn : 1 ≤ n) (hl : 0 < l.length) : (A ++ [al.getD (codeTo l n n) 0]) ++ enc n al (l.drop n) = R := by
  rw [enc_step al hn (List.length_pos_iff.1 hl)] at h
  rw [← h]; simp [codeTo]
theorem pow6 {n : Nat} (h : n ≤ 6) : 2 ^ n ≤ 64 := Nat.pow_le_pow_right (n := 2) (by omega) (show n ≤ 6 from h)

theorem bitsL_01 (d : List UInt8) : ∀ x ∈ bitsL d, x ≤ 1 := by
  have ht : ∀ n v : Nat, ∀ x ∈ tob v n, x ≤ 1 := by
    intro n v
    induction n with
    | zero => intro x hx; simp [tob] at hx
    | succ n ih =>
      intro x hx
      rw [tob, List.mem_cons] at hx
      rcases hx with rfl | hx
      · omega
      · exact ih x hx
  intro x hx
  obtain ⟨c, _, hc⟩ := List.mem_flatMap.1 hx
  exact ht _ _ x hc

end Go.Proofs.YtjejmgdpjfdhjaaDoor.coded

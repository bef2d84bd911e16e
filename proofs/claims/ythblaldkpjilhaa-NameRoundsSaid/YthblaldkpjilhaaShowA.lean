/- The reference's among, Escape: walks. -/
import Derived.Test.YthblaldkpjilhaaRefC
namespace Go.Proofs.Ythblaldkpjilhaa.showA
open Go.RowKit Go.Proofs.Ythblaldkpjilhaa.kit Go.Proofs.Ythblaldkpjilhaa.check Go.Proofs.Ythblaldkpjilhaa.nspec Go.Proofs.Ythblaldkpjilhaa.rsplit Go.Proofs.Ythblaldkpjilhaa.low

def escL (c : UInt8) : List UInt8 := [48 + c / 100, 48 + c / 10 % 10, 48 + c % 10]
theorem am_yes {s : ByteArray} {k : Nat} {c : UInt8} {R : Bool} (h : (s.data.toList.drop k).contains c = R) (hk : k < s.size) (hc : s[k] = c) : true = R := by
  rw [drop_cons s k hk] at h; rw [← h, hc]; simp
theorem am_no {s : ByteArray} {k : Nat} {c : UInt8} {R : Bool} (h : (s.data.toList.drop k).contains c = R) (hk : k < s.size) (hc : s[k] ≠ c) : (s.data.toList.drop (k + 1)).contains c = R := by
  rw [drop_cons s k hk] at h; rw [← h]; simp [Ne.symm hc]
theorem am_end {s : ByteArray} {k : Nat} {c : UInt8} {R : Bool} (h : (s.data.toList.drop k).contains c = R) (hk : s.size ≤ k) : false = R := by
  rw [drop_end s k hk] at h; rw [← h]; rfl

theorem bytes_three (w : World) (e : TypeId) (A B C : UInt8) : Bytes (w.alloc (.cells #[.int .u8 (A.toNat : Int), .int .u8 (B.toNat : Int), .int .u8 (C.toNat : Int)] e)) w.heap.size [A, B, C] := by
  intro j c h
  refine ⟨?_, by simp⟩
  rw [World.cell?_alloc_new]
  match j, h with
  | 0, h => simp at h; subst h; rfl
  | 1, h => simp at h; subst h; rfl
  | 2, h => simp at h; subst h; rfl
theorem dig (c : UInt8) : ((48 + c / 100 : UInt8).toNat : Int) = 48 + (c.toNat : Int) / 100 ∧ ((48 + c / 10 % 10 : UInt8).toNat : Int) = 48 + (c.toNat : Int) / 10 % 10 ∧ ((48 + c % 10 : UInt8).toNat : Int) = 48 + (c.toNat : Int) % 10 := by
  have h := c.toNat_lt
  refine ⟨?_, ?_, ?_⟩
  · rw [UInt8.toNat_add, UInt8.toNat_div]
    have e1 : (48 : UInt8).toNat = 48 := rfl
    have e2 : (100 : UInt8).toNat = 100 := rfl
    rw [e1, e2]; omega
  · rw [UInt8.toNat_add, UInt8.toNat_mod, UInt8.toNat_div]
    have e1 : (48 : UInt8).toNat = 48 := rfl
    have e2 : (10 : UInt8).toNat = 10 := rfl
    rw [e1, e2]; omega
  · rw [UInt8.toNat_add, UInt8.toNat_mod]
    have e1 : (48 : UInt8).toNat = 48 := rfl
    have e2 : (10 : UInt8).toNat = 10 := rfl
    rw [e1, e2]; omega

end Go.Proofs.Ythblaldkpjilhaa.showA

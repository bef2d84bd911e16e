/- Plain lemmas and small laws used by all walks of this seat. -/
import Derived.Test.YtjflojefpaffeaaRows
import Derived.WalkKit
import Derived.WalkLawsBesides
import Derived.WalkSpells
import Derived.Lib.Hide
import Derived.Lib.ConvBytes
import Derived.Lib.Strings
import Derived.Deep.LoopGhost
namespace Go.Proofs.Ytjflojefpaffeaa.kit
open Go.RowKit

theorem drop_cons (s : ByteArray) (k : Nat) (h : k < s.size) : s.data.toList.drop k = s[k] :: s.data.toList.drop (k + 1) := by
  rw [List.drop_eq_getElem_cons (by simpa using h)]; rfl
theorem drop_end (s : ByteArray) (k : Nat) (h : s.size ≤ k) : s.data.toList.drop k = [] := by
  rw [List.drop_eq_nil_iff]; simpa using h
theorem getD_at (s : ByteArray) (k : Nat) (h : k < s.size) : s.data.toList.getD k 0 = s[k] := by
  have h' : k < s.data.toList.length := by simpa using h
  rw [List.getD, List.getElem?_eq_getElem h']; rfl
theorem ret_int {k : IntKind} {a b : Int} (h : a = b) : Ending.returned (.int k a) = .returned (.int k b) := by rw [h]
theorem ret_bool {a b : Bool} (h : a = b) : Ending.returned (.bool a) = .returned (.bool b) := by rw [h]
theorem ret_str {a b : ByteArray} (h : a = b) : Ending.returned (.string a) = .returned (.string b) := by rw [h]
theorem ret_ib {a b : Int} {c d : Bool} (h : (a, c) = (b, d)) : Ending.returned (.tuple #[.int .i64 a, .bool c]) = .returned (.tuple #[.int .i64 b, .bool d]) := by cases h; rfl
theorem ba_ext {a b : ByteArray} (h : a.data.toList = b.data.toList) : a = b := by
  cases a; cases b; simp at h; simp [h]
theorem mk_data (l : List UInt8) : (⟨l.toArray⟩ : ByteArray).data.toList = l := rfl
theorem mk_size (l : List UInt8) : (⟨l.toArray⟩ : ByteArray).size = l.length := by simp [ByteArray.size]
theorem size_len (s : ByteArray) : s.data.toList.length = s.size := by simp
theorem empty_iff (s : ByteArray) : s.toList = [] ↔ s.data.toList = [] := by rw [Lib.toList_data]
theorem str_eq {s t : ByteArray} (h : (s.toList == t.toList) = true) : s.data.toList = t.data.toList := by
  rw [Lib.toList_data, Lib.toList_data] at h; simpa using h
theorem byte_lt (c : UInt8) : (c.toNat : Int) < 256 := by have := c.toNat_lt; omega

/-- a world that only has more in it than the one at the start -/
theorem bytesWorld_below (w : World) (e : TypeId) (s : ByteArray) : Below w.heap.size w (Lib.bytesWorld w e s) := by
  refine ⟨?_, ?_, ?_, ?_, fun k hk => Lib.bytesWorld_at_old w e s k hk⟩
  · simp [Lib.bytesWorld, World.freeze, World.alloc, World.drew, -World.alloc_eq, -World.drew_eq]
  · simp [Lib.bytesWorld, World.freeze, World.alloc, World.drew, -World.alloc_eq, -World.drew_eq]
  · simp [Lib.bytesWorld, World.freeze, World.alloc, World.drew, -World.alloc_eq, -World.drew_eq]
  · rw [Lib.bytesWorld_size]; omega
theorem bytesWorld_frozen (w : World) (e : TypeId) (s : ByteArray) (j : Nat) (hj : j < s.size) : (Lib.bytesWorld w e s).frozen? ⟨w.heap.size, j, none⟩ = false := by
  unfold World.frozen?
  rw [Lib.bytesWorld_at_new]
  have : s.size ≤ (Lib.bytesCells w e s).size := by simp [Lib.bytesCells]
  simp; omega

/-- the cells of a row of bytes: read as far as l goes -/
def Bytes (w : World) (g : Nat) (l : List UInt8) : Prop := ∀ (j : Nat) (c : UInt8), l[j]? = some c → w.cell? ⟨g, j, none⟩ = some (.int .u8 (c.toNat : Int)) ∧ w.frozen? ⟨g, j, none⟩ = false
theorem bytes_new (w : World) (e : TypeId) (s : ByteArray) : Bytes (Lib.bytesWorld w e s) w.heap.size s.data.toList := by
  intro j c h
  obtain ⟨h1, h2⟩ := List.getElem?_eq_some_iff.1 h
  have h' : j < s.size := by simpa using h1
  refine ⟨?_, bytesWorld_frozen w e s j h'⟩
  rw [Lib.bytesWorld_cell w e s j h']
  rw [List.getD, h]; rfl
theorem bytes_set {w : World} {g : Nat} {l : List UInt8} (h : Bytes w g l) (k : Nat) (c : UInt8) : Bytes (w.setCell ⟨g, k, none⟩ (.int .u8 (c.toNat : Int))) g (l.set k c) := by
  intro j d hj
  by_cases e : j = k
  · subst e
    have hl : j < l.length := by have := (List.getElem?_eq_some_iff.1 hj).1; simpa using this
    have hl' : l[j]? = some l[j] := List.getElem?_eq_getElem hl
    have hd : d = c := by simpa [hl] using hj.symm
    subst hd
    refine ⟨?_, by rw [World.frozen?_setCell]; exact (h j _ hl').2⟩
    rw [World.cell?_setCell_same' _ _ _ (by rw [(h j _ hl').1]; rfl)]
  · rw [List.getElem?_set_ne (by omega)] at hj
    refine ⟨?_, by rw [World.frozen?_setCell]; exact (h j _ hj).2⟩
    rw [World.cell?_setCell_other _ _ _ _ (by intro e'; injection e' with _ e2; exact e e2.symm), (h j _ hj).1]
theorem bytes_back {P : Program} {w : World} {g : Nat} {l : List UInt8} (h : Bytes w g l) (src dst e : TypeId) (cap n : Nat) (hn : n = l.length) (hs : P.underlying src = some (.slice e)) (he : P.underlying e = some (.int .u8)) (hd : P.underlying dst = some .string) :
    (convert src dst (.slice (some ⟨g, 0, none⟩) n cap)).run P w = .ok (.string ⟨l.toArray⟩) w := by
  subst hn
  exact run_convert_bytes_back w src dst e _ cap l hs he hd (fun j hj => by
    have : (⟨g, 0, none⟩ : Addr).add j = ⟨g, j, none⟩ := by unfold Addr.add; split <;> simp_all
    rw [this]; exact (h j _ (List.getElem?_eq_getElem hj)).1)

end Go.Proofs.Ytjflojefpaffeaa.kit

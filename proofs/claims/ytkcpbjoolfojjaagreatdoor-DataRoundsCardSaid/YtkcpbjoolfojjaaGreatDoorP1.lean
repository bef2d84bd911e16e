/- Plain lemmas and small laws used by all walks of this seat. -/
import Derived.Test.YtkcpbjoolfojjaaGreatDoorRows
import Derived.WalkKit
import Derived.WalkLawsBesides
import Derived.WalkSpells
import Derived.Lib.Hide
import Derived.Lib.ConvBytes
import Derived.Lib.Strings
import Derived.Deep.LoopGhost
import Derived.Laws.AppendOwnNone
namespace Go.Proofs.YtkcpbjoolfojjaaGreatDoor.kit
open Go.RowKit

theorem drop_cons (s : ByteArray) (k : Nat) (h : k < s.size) : s.data.toList.drop k = s[k] :: s.data.toList.drop (k + 1) := by
  rw [List.drop_eq_getElem_cons (by simpa using h)]; rfl
theorem drop_end (s : ByteArray) (k : Nat) (h : s.size ≤ k) : s.data.toList.drop k = [] := by
  rw [List.drop_eq_nil_iff]; simpa using h
theorem getD_at (s : ByteArray) (k : Nat) (h : k < s.size) : s.data.toList.getD k 0 = s[k] := by
  have h' : k < s.data.toList.length := by simpa using h
  rw [List.getD, List.getElem?_eq_getElem h']; rfl
theorem ba_ext {a b : ByteArray} (h : a.data.toList = b.data.toList) : a = b := by
  cases a; cases b; simp at h; simp [h]
theorem mk_size (l : List UInt8) : (⟨l.toArray⟩ : ByteArray).size = l.length := by simp [ByteArray.size]
theorem size_len (s : ByteArray) : s.data.toList.length = s.size := by simp
theorem empty_iff (s : ByteArray) : s.toList = [] ↔ s.data.toList = [] := by rw [Lib.toList_data]
theorem byte_lt (c : UInt8) : (c.toNat : Int) < 256 := by have := c.toNat_lt; omega

/-- the cells of a row of bytes: read as far as l goes -/
def Bytes (w : World) (g : Nat) (l : List UInt8) : Prop := ∀ (j : Nat) (c : UInt8), l[j]? = some c → w.cell? ⟨g, j, none⟩ = some (.int .u8 (c.toNat : Int)) ∧ w.frozen? ⟨g, j, none⟩ = false
theorem bytes_set {w : World} {g : Nat} {l : List UInt8} (h : Bytes w g l) (k : Nat) (c : UInt8) : Bytes (w.setCell ⟨g, k, none⟩ (.int .u8 (c.toNat : Int))) g (l.set k c) := by
  intro j d hj
  by_cases e : j = k
  · subst e
    have hl : j < l.length := by have := (List.getElem?_eq_some_iff.1 hj).1; simpa using this
    have hl' : l[j]? = some l[j] := List.getElem?_eq_getElem hl
    have hd : d = c := by simpa [hl] using hj.symm
    subst hd
    refine ⟨?_, by rw [World.frozen?_setCell]; exact (h j _ hl').2⟩
    rw [World.cell?_setCell_same' _ _ _ (by rw [(h j _ hl').1]; rfl)]
  · rw [List.getElem?_set_ne (by omega)] at hj
    refine ⟨?_, by rw [World.frozen?_setCell]; exact (h j _ hj).2⟩
    rw [World.cell?_setCell_other _ _ _ _ (by intro e'; injection e' with _ e2; exact e e2.symm), (h j _ hj).1]
/-- behind an append to a slice of the call's own -/
theorem below_append {B : Nat} {w wr w1 : World} {e : TypeId} {size n : Nat} {v : Value} {xs : List Value} {o : Obj} (hB : Below B w wr) (hz : B ≤ wr.heap.size) (hown : wr.ownsRow B e size v n xs) (hgrow : (wr.alloc o).grownBy w1 v.ownBlock) : Below B w w1 :=
  (hB.alloc hz o).grown hgrow (by simp; omega) (fun k hk => (hown.lt k hk).1)
/-- an append of a whole slice, nil or not, to a slice of the call's own -/
theorem wpList_append_src {P : Program} {w : World} {ops : Array Oper} {rest : List Oper} {o : Oper} {a : Act} {Q : Exit → Act → World → Prop} (hgd : o.guard = none) (s x : Operand) (t : TypeId)
    (ho : o.op = .call { callee := .builtin .append, args := #[s, x], argTypes := #[t, t] })
    (base : Nat) (e : TypeId) (i : TypeInfo) (z : Value) (size bytes : Nat) (ht : P.underlying t = some (.slice e)) (hi : P.info? e = some i) (hz : i.zero = some z)
    (hsize : i.size = size) (hby : i.bytes = bytes) (hzs : z.cells.size = size) (hsz : 0 < size)
    (v : Value) (n : Nat) (xs : List Value) (hs : a.eval s = v) (hown : w.ownsRow base e size v n xs)
    (A : Option Addr) (m c : Nat) (news : List Value) (hx : a.eval x = .slice A m c) (hl : news.length = m * size)
    (hsrc : (A = none ∧ m = 0 ∧ c = 0) ∨ ∃ ad, A = some ad ∧ ∀ (j : Nat) (u : Value), news[j]? = some u → w.cell? (ad.add j) = some u) (h1 : ∀ u ∈ news, u.oneCell' = true)
    (h63 : n + m ≤ maxLen) (hbytes : (n + m) * bytes ≤ 140737488355328) (hbase : base ≤ w.heap.size)
    (h : ∀ v' w', w'.ownsRow base e size v' (n + m) (xs ++ news) → w.grownBy w' v.ownBlock → wpList P ops Q rest (a.put o.dst v') w') : wpList P ops Q (o :: rest) a w := by
  rcases hsrc with ⟨rfl, rfl, rfl⟩ | ⟨ad, rfl, hc⟩
  · have hn : news = [] := List.eq_nil_of_length_eq_zero (by simpa using hl)
    subst hn
    refine wpList_append_own_none hgd s x t ho base e i size ht hi v n xs hs hown hx (h v w (by simpa using hown) ⟨rfl, rfl, rfl, Nat.le_refl _, fun _ _ _ => rfl⟩)
  · exact wpList_append_own w hgd s x t ho base e i z size bytes ht hi hz hsize hby hzs hsz v n xs hs hown ad m c news hx hl hc h1 h63 hbytes hbase fun v' w' h2 h3 _ => h v' w' h2 h3
theorem below_append' {B : Nat} {w wr w1 : World} {e : TypeId} {size n : Nat} {v : Value} {xs : List Value} (hB : Below B w wr) (hz : B ≤ wr.heap.size) (hown : wr.ownsRow B e size v n xs) (hgrow : wr.grownBy w1 v.ownBlock) : Below B w w1 :=
  hB.grown hgrow hz (fun k hk => (hown.lt k hk).1)
theorem addr_add (g j : Nat) : (⟨g, 0, none⟩ : Addr).add j = ⟨g, j, none⟩ := by unfold Addr.add; split <;> simp_all
end Go.Proofs.YtkcpbjoolfojjaaGreatDoor.kit

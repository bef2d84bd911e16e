/- name.reader: add, end: walks. name.escaped and its closure: walks. name.Read: walk. -/
import Derived.Test.YtjejmgdpjfdhjaaGreatDoorP16
import Derived.Deep.QuietTactic
import Derived.BigQuiet
import Derived.RegionTactic
import Derived.ChangeAlike
import Derived.Laws.BitsLemmas
namespace Go.Proofs.YtjejmgdpjfdhjaaGreatDoor.reader
open Go.RowKit Go.Proofs.YtjejmgdpjfdhjaaGreatDoor.kit Go.Proofs.YtjejmgdpjfdhjaaGreatDoor.bld Go.Proofs.YtjejmgdpjfdhjaaGreatDoor.coded
set_option linter.unusedVariables false

theorem heap_set {w : World} {b : Nat} {cs : Array Value} {t : TypeId} (h : w.heap[b]? = some (.cells cs t (0, 0))) (i : Nat) (u : Value) : (w.setCell ⟨b, i, none⟩ u).heap[b]? = some (.cells (cs.setIfInBounds i u) t (0, 0)) := by
  simp [World.setCell, Array.getElem?_modify, h]
theorem own_set {w : World} {B e size n b i : Nat} {v u : Value} {xs : List Value} {cs : Array Value} {t : TypeId} (h : w.ownsRow B e size v n xs) (hb : w.heap[b]? = some (.cells cs t (0, 0))) (hne : e ≠ t) : (w.setCell ⟨b, i, none⟩ u).ownsRow B e size v n xs := by
  refine ⟨h.1, h.2.imp id ?_⟩
  rintro ⟨g, cap, cur, h1, h2, h3, h4⟩
  refine ⟨g, cap, cur, h1, h2, ?_, h4⟩
  rw [Below.heap_setCell w ⟨b, i, none⟩ u g (fun e' => ?_)]
  · exact h3
  · subst e'
    rw [hb] at h3
    injection h3 with h3
    injection h3 with _ h5
    exact hne h5.symm
theorem own_block {w : World} {B e size n g cap b : Nat} {xs : List Value} {cs : Array Value} {t : TypeId} (h : w.ownsRow B e size (.slice (some ⟨g, 0, none⟩) n cap) n xs) (hb : w.heap[b]? = some (.cells cs t (0, 0))) (hne : e ≠ t) : g ≠ b := by
  rcases h.2 with ⟨h0, _⟩ | ⟨g', cap', cur, h1, h2, h3, h4⟩
  · cases h0
  · cases h1
    rintro rfl
    rw [hb] at h3
    injection h3 with h3
    injection h3 with _ h5
    exact hne h5.symm
theorem below_drewN (B : Nat) (w : World) (n : Nat) : Below B w (w.drewN n) := ⟨rfl, rfl, rfl, Nat.le_refl _, fun _ _ => rfl⟩

theorem set_mid (x y : List UInt8) (a c : UInt8) : (x ++ a :: y).set x.length c = x ++ c :: y := by
  induction x with
  | nil => rfl
  | cons d r ih => simp [ih]
theorem byteCells_set (l : List UInt8) (i : Nat) (c : UInt8) : (Lib.byteCells l).set i (.int .u8 (c.toNat : Int)) = Lib.byteCells (l.set i c) := by
  simp [Lib.byteCells, List.map_set]

theorem own_cut {w : World} {B : Nat} {e : TypeId} {g cap n : Nat} {x y : List UInt8} (h : w.ownsRow B e 1 (.slice (some ⟨g, 0, none⟩) n cap) n (Lib.byteCells (x ++ y))) : w.ownsRow B e 1 (.slice (some ⟨g, 0, none⟩) x.length cap) x.length (Lib.byteCells x) := by
  have hl := h.1
  rw [Lib.byteCells_length, List.length_append] at hl
  refine ⟨by rw [Lib.byteCells_length, Nat.mul_one], .inr ?_⟩
  rcases h.2 with ⟨h0, _⟩ | ⟨g', cap', cur, h1, h2, h3, h4, h5, h6, h7⟩
  · cases h0
  · cases h1
    have hn : n = x.length + y.length := by omega
    refine ⟨g, cap, cur, rfl, h2, h3, by omega, h5, h6, ?_⟩
    have h8 : Lib.byteCells (x ++ y) = Lib.byteCells x ++ Lib.byteCells y := by simp [Lib.byteCells]
    rw [h8] at h7
    have h9 := congrArg (List.take x.length) h7
    rw [List.take_take, List.take_left' (Lib.byteCells_length x), Nat.mul_one, Nat.min_eq_left (by omega)] at h9
    rw [Nat.mul_one]; exact h9
end Go.Proofs.YtjejmgdpjfdhjaaGreatDoor.reader
namespace Go.Proofs.YtjejmgdpjfdhjaaGreatDoor.escaped
open Go.RowKit Go.Proofs.YtjejmgdpjfdhjaaGreatDoor.kit Go.Proofs.YtjejmgdpjfdhjaaGreatDoor.nspec Go.Proofs.YtjejmgdpjfdhjaaGreatDoor.readS
set_option linter.unusedVariables false

theorem below_drewN (B : Nat) (w : World) (n : Nat) : Below B w (w.drewN n) := ⟨rfl, rfl, rfl, Nat.le_refl _, fun _ _ => rfl⟩
def digAt (l : Bs) (j : Nat) : Bool := match l[j]? with | none => false | some c => digB c
theorem digAt_out {s : ByteArray} {j : Nat} (h : s.size ≤ j) : digAt s.data.toList j = false := by
  unfold digAt; rw [List.getElem?_eq_none (by rw [size_len]; exact h)]
theorem digAt_in {s : ByteArray} {j : Nat} (h : j < s.size) : digAt s.data.toList j = digB s[j] := by
  unfold digAt
  have : s.data.toList[j]? = some s[j] := List.getElem?_eq_getElem (by rw [size_len]; exact h)
  rw [this]

def retE : Option (UInt8 × Nat) → Ending
  | none => .returned (.tuple #[.int .u8 0, .int .i64 0])
  | some (b, n) => .returned (.tuple #[.int .u8 (b.toNat : Int), .int .i64 (n : Int)])
theorem esc_none {l : Bs} (h : l = []) : escS l = none := by subst h; rfl
theorem esc_plain {l r : Bs} {d : UInt8} (h : l = d :: r) (hd : digB d = false) : escS l = some (d, 2) := by
  subst h; simp [escS, hd]
theorem esc_bad {l r : Bs} {d : UInt8} (h : l = d :: r) (hd : digB d = true) (h2 : digAt r 0 = false ∨ digAt r 1 = false) : escS l = none := by
  subst h
  match r, h2 with
  | [], _ => simp [escS, hd]
  | [a], _ => simp [escS, hd]
  | a :: b :: t, h2 =>
    have h3 : (digB a && digB b) = false := by
      rw [Bool.and_eq_false_iff]
      simpa [digAt] using h2
    simp [escS, hd, h3]
theorem esc_num {l t : Bs} {d a b : UInt8} (h : l = d :: a :: b :: t) (hd : digB d = true) (ha : digB a = true) (hb : digB b = true) :
    escS l = if 255 < (d.toNat - 48) * 100 + (a.toNat - 48) * 10 + (b.toNat - 48) then none else some (UInt8.ofNat ((d.toNat - 48) * 100 + (a.toNat - 48) * 10 + (b.toNat - 48)), 4) := by
  subst h; simp [escS, hd, ha, hb]
theorem digB_cases (c : UInt8) : (digB c = true ∧ 48 ≤ c.toNat ∧ c.toNat ≤ 57) ∨ digB c = false := by
  cases h : digB c
  · exact .inr rfl
  · left
    unfold digB at h
    rw [Bool.and_eq_true, decide_eq_true_eq, decide_eq_true_eq] at h
    exact ⟨rfl, h.1, h.2⟩
theorem digAt_drop (l : Bs) (k j : Nat) : digAt (l.drop k) j = digAt l (k + j) := by unfold digAt; rw [List.getElem?_drop]

end Go.Proofs.YtjejmgdpjfdhjaaGreatDoor.escaped
namespace Go.Proofs.YtjejmgdpjfdhjaaGreatDoor.nread
open Go.RowKit Go.Proofs.YtjejmgdpjfdhjaaGreatDoor.kit Go.Proofs.YtjejmgdpjfdhjaaGreatDoor.check Go.Proofs.YtjejmgdpjfdhjaaGreatDoor.nspec Go.Proofs.YtjejmgdpjfdhjaaGreatDoor.rsplit Go.Proofs.YtjejmgdpjfdhjaaGreatDoor.rput Go.Proofs.YtjejmgdpjfdhjaaGreatDoor.bld Go.Proofs.YtjejmgdpjfdhjaaGreatDoor.coded Go.Proofs.YtjejmgdpjfdhjaaGreatDoor.readS Go.Proofs.YtjejmgdpjfdhjaaGreatDoor.escaped Go.Proofs.YtjejmgdpjfdhjaaGreatDoor.reader
set_option linter.unusedVariables false

theorem flat_pos (l : List Bs) (now : Bs) : flat (l ++ [now]) = flat l ++ (UInt8.ofNat now.length :: now) := flat_snoc l now
theorem room_snoc (l : List Bs) (x : Bs) : room (l ++ [x]) = room l + (x.length + 1) := by rw [room_append]; simp [room]

end Go.Proofs.YtjejmgdpjfdhjaaGreatDoor.nread

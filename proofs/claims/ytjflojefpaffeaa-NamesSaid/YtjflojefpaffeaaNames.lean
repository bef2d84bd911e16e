/- The law Names: its walk. -/
import Derived.Test.YtjflojefpaffeaaKit
namespace Go.Proofs.Ytjflojefpaffeaa.names
open Go.RowKit Go.Proofs.Ytjflojefpaffeaa.kit

def upTo (n : Nat) : Array Value := ((List.range n).map fun k : Nat => Value.int .i64 (k : Int)).toArray
theorem upTo_at (w : World) (n k : Nat) (t : TypeId) (h : k < n) : (w.alloc (.cells (upTo n) t)).cell? ⟨w.heap.size, k, none⟩ = some (.int .i64 (k : Int)) := by
  have := World.cell?_alloc_mark w (upTo n) t (0, 0) k
  rw [this]; simp [upTo, h]

set_option maxHeartbeats 1000000 in
theorem walk (w : World) :
    Calls Try.prog 3 #[] w fun e w' => e = .returned (.bool true) ∧ Below w.heap.size w w' := by
  go_enter Try.func3, Try.ntmps3
  go_wp2
  generalize hC : (#[Value.int IntKind.i64 0, _, _, _, _, _, _, _, _, _, _, _, _, _, _, _, _, _, _, _, _, _, _, _, _, _, _, _, _, _, _, _] : Array Value) = C
  have hB : Below w.heap.size w (w.alloc (.cells C 22)) := (Below.refl _ _).alloc (Nat.le_refl _) _
  have hcells : ∀ k, k < 32 → (w.alloc (.cells C 22)).cell? ⟨w.heap.size, k, none⟩ = some (.int .i64 (k : Int)) := by
    have : C = upTo 32 := by rw [← hC]; rfl
    rw [this]; exact fun k hk => upTo_at w 32 k _ hk
  generalize w.alloc (.cells C 22) = w1 at hB hcells ⊢
  clear hC
  have HC := Lib.hid hcells; clear hcells
  go_loopg [10] 32 (fun gas kk wr => ∃ k : Nat, kk = .int .i64 k ∧ k + gas = 32 ∧ w1 = wr)
  case atStart => exact ⟨0, rfl, rfl, rfl⟩
  case round =>
    obtain ⟨k, rfl, hk, rfl⟩ := hrel
    have hk' : k ≤ 32 := by omega
    have HK := Lib.hid hk; clear hk
    by_cases hlt : k < 32
    · have hc := HC.out k hlt
      go_wp2
      have hk := HK.out
      go_roundg (gk - 1)
      case rel => exact ⟨k + 1, by go_num, by omega, rfl⟩
      case measure => omega
    · go_wp2
      generalize hC : (#[Value.int IntKind.i64 0, _, _, _, _, _, _] : Array Value) = C
      have hB2 : Below w.heap.size w (w1.alloc (.cells C 3)) := hB.alloc hB.size _
      have hcells : ∀ k, k < 7 → (w1.alloc (.cells C 3)).cell? ⟨w1.heap.size, k, none⟩ = some (.int .i64 (k : Int)) := by
        have : C = upTo 7 := by rw [← hC]; rfl
        rw [this]; exact fun k hk => upTo_at w1 7 k _ hk
      generalize w1.alloc (.cells C 3) = w2 at hB2 hcells ⊢
      clear hC
      have HC2 := Lib.hid hcells; clear hcells
      go_loopg [22] 7 (fun gas kk wr => ∃ k : Nat, kk = .int .i64 k ∧ k + gas = 7 ∧ w2 = wr)
      case atStart => exact ⟨0, rfl, rfl, rfl⟩
      case round =>
        obtain ⟨j, rfl, hj, rfl⟩ := hrel
        have hj' : j ≤ 7 := by omega
        have HJ := Lib.hid hj; clear hj
        by_cases hlt : j < 7
        · have hc := HC2.out j hlt
          go_wp2
          have hj := HJ.out
          go_roundg (gk - 1)
          case rel => exact ⟨j + 1, by go_num, by omega, rfl⟩
          case measure => omega
        · go_wp2
          go_ret
          exact ⟨rfl, hB2⟩
end Go.Proofs.Ytjflojefpaffeaa.names

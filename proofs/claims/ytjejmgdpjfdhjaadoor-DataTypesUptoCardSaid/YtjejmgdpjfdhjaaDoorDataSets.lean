/- The law DataSets: walk. -/
import Derived.Test.YtjejmgdpjfdhjaaDoorSetW
import Derived.Test.YtjejmgdpjfdhjaaDoorTypesW
namespace Go.Proofs.YtjejmgdpjfdhjaaDoor.dataSets
open Go.RowKit Go.Proofs.YtjejmgdpjfdhjaaDoor.kit Go.Proofs.YtjejmgdpjfdhjaaDoor.nspec Go.Proofs.YtjejmgdpjfdhjaaDoor.bits Go.Proofs.YtjejmgdpjfdhjaaDoor.ints Go.Proofs.YtjejmgdpjfdhjaaDoor.fld Go.Proofs.YtjejmgdpjfdhjaaDoor.typesP Go.Proofs.YtjejmgdpjfdhjaaDoor.typesW Go.Proofs.YtjejmgdpjfdhjaaDoor.setP Go.Proofs.YtjejmgdpjfdhjaaDoor.setW
set_option linter.unusedVariables false

set_option maxRecDepth 100000 in
theorem same_ints (a b : Option Addr) (n c d : Nat) (L : List Int) (w : World) (hn : n = L.length) (hx : RdI w a L) (hy : RdI w b L) (hl : n ≤ 1073741824) :
    Calls Tryd.prog 10 #[.slice a n c, .slice b n d] w fun e w' => e = .returned (.bool true) ∧ Below w.heap.size w w' := by
  have HN := Lib.hid hn; have HX := Lib.hid hx; have HY := Lib.hid hy
  clear hn hx hy
  go_enter Tryd.func10, Tryd.ntmps10
  go_wp2
  go_loopg [5, 13] (n + 1) (fun gas _ kv wr => ∃ (k : Nat), kv = .int .i64 k ∧ k ≤ n ∧ k + gas = n + 1 ∧ Hid (Below w.heap.size w wr))
  case atStart => exact ⟨0, rfl, by omega, by omega, Lib.hid (Below.refl _ _)⟩
  case round =>
    obtain ⟨k, rfl, hk, hkg, hB⟩ := hrel
    have HK := Lib.hid hkg; clear hkg
    by_cases hlt : k < n
    · obtain ⟨p, hp⟩ : ∃ p, L[k]? = some p := ⟨_, List.getElem?_eq_getElem (by have := HN.out; omega)⟩
      obtain ⟨g1, o1, rfl, hg1, hcl1⟩ := HX.out _ p hp
      obtain ⟨g2, o2, rfl, hg2, hcl2⟩ := HY.out _ p hp
      have hcx := (hB.out.cell (p := ⟨g1, o1 + k, none⟩) hg1).trans hcl1
      have hcy := (hB.out.cell (p := ⟨g2, o2 + k, none⟩) hg2).trans hcl2
      clear hp hcl1 hcl2
      have zk : (0 : Int) ≤ (k : Int) := by omega
      have zl : (k : Int) < (n : Int) := by omega
      go_wp2_with fail
      go_quiet (fail)
      have hBn : Hid (Below w.heap.size w (wr.drewN nq)) := Lib.hid (below_drewN hB.out nq)
      go_wp2
      have hkg := HK.out
      go_roundg (gk - 1)
      case rel => exact ⟨k + 1, by go_num, by omega, by omega, hBn⟩
      case measure => omega
    · go_wp2_with fail
      go_ret
      exact ⟨rfl, hB.out⟩

theorem rdI_new (w : World) (e : TypeId) (L : List Int) : RdI (w.alloc (.cells (L.map (Value.int .i64)).toArray e)) (some ⟨w.heap.size, 0, none⟩) L := by
  intro j x h
  refine ⟨_, _, rfl, by simp, ?_⟩
  have hb : (w.alloc (.cells (L.map (Value.int .i64)).toArray e)).heap[w.heap.size]? = some (.cells (L.map (Value.int .i64)).toArray e (0, 0)) := heap_alloc_new _ _
  simp only [World.cell?, hb, Nat.zero_add]
  simp [h]
theorem rdI_four (w : World) (e : TypeId) : RdI (w.alloc (.cells #[.int .i64 46, .int .i64 1, .int .i64 15, .int .i64 1] e)) (some ⟨w.heap.size, 0, none⟩) [46, 1, 15, 1] := rdI_new w e [46, 1, 15, 1]
theorem rdI_three (w : World) (e : TypeId) : RdI (w.alloc (.cells #[.int .i64 1, .int .i64 15, .int .i64 46] e)) (some ⟨w.heap.size, 0, none⟩) [1, 15, 46] := rdI_new w e [1, 15, 46]
theorem typesS_len {d : Bs} {l : List Nat} (h : typesS d = some l) : l.length ≤ 8 * d.length := by
  rw [typesS_eq] at h
  cases hA : typesA (-1) [] d with
  | none => rw [hA] at h; simp at h
  | some m =>
    rw [hA] at h
    have := types_len _ _ _ _ _ hA
    simp only at h
    split at h
    · simp at h
    · cases h; simpa using this
def okT (t : Int) : Bool := decide (1 ≤ t) && decide (t ≤ 65535)
theorem okT_iff (t : Int) : okT t = true ↔ isT t := by simp [okT, isT]

end Go.Proofs.YtjejmgdpjfdhjaaDoor.dataSets

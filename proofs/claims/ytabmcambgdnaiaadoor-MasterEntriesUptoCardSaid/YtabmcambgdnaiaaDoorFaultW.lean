/- master.fault: walk. -/
import Derived.Test.YtabmcambgdnaiaaDoorAsW
import Derived.Test.YtabmcambgdnaiaaDoorFlushW
namespace Go.Proofs.YtabmcambgdnaiaaDoor.faultW
open Go.RowKit Go.Proofs.YtabmcambgdnaiaaDoor.kit Go.Proofs.YtabmcambgdnaiaaDoor.entP Go.Proofs.YtabmcambgdnaiaaDoor.entR Go.Proofs.YtabmcambgdnaiaaDoor.wordW
set_option linter.unusedVariables false

/-- what errors.As leaves -/
theorem as_any (Y t : Nat) (w : World) (hg : w.cell? ⟨0, 0, none⟩ = some (.iface 121 (.agg #[.pointer (some ⟨8, 46, none⟩)]))) (ht : w.heap[t]? = some (.cells #[.pointer none] 69)) :
    Calls Tryd.prog 39 #[.iface 69 (.pointer (some ⟨Y, 0, none⟩)), .iface 71 (.pointer (some ⟨t, 0, none⟩))] w fun e w' => e = .returned (.bool true) ∧ EffX t w w' ∧ w'.heap[t]? = some (.cells #[.pointer (some ⟨Y, 0, none⟩)] 69) := by
  have h0 : w.cell? ⟨t, 0, none⟩ = some (.pointer none) := by simp only [World.cell?, ht]; rfl
  have h1 : w.frozen? ⟨t, 0, none⟩ = false := by simp [World.frozen?, ht]
  have hl := blk_lt ht
  refine (asW.as_hit ⟨Y, 0, none⟩ ⟨t, 0, none⟩ (.pointer none) w hg h0 h1).mono ?_
  rintro e w' ⟨rfl, rfl⟩
  have hB : ∀ (a b c d : Obj), Below w.heap.size w ((((w.alloc a).alloc b).alloc c).alloc d) := fun a b c d =>
    ((((Below.refl _ _).alloc (Nat.le_refl _) a).alloc (by simp) b).alloc (by simp; omega) c).alloc (by simp; omega) d
  refine ⟨rfl, (EffX.of_below (hB _ _ _ _)).trans (EffX.set t 0 _ _), ?_⟩
  exact set_same (bx := #[.pointer none]) (((hB _ _ _ _).block t hl).trans ht)
set_option maxRecDepth 100000 in
set_option maxHeartbeats 2400000 in
theorem fault_any (Y : Nat) (cd ln : Int) (w : World) (hg : w.cell? ⟨0, 0, none⟩ = some (.iface 121 (.agg #[.pointer (some ⟨8, 46, none⟩)]))) (hY : w.heap[Y]? = some (.cells #[.int .i64 cd, .string ⟨#[]⟩, .int .i64 ln] 73)) :
    Calls Tryd.prog 18 #[.iface 69 (.pointer (some ⟨Y, 0, none⟩))] w fun e w' => e = .returned (.agg #[.int .i64 cd, .string ⟨#[]⟩, .int .i64 ln]) ∧ Below w.heap.size w w' := by
  have hYl := blk_lt hY
  have h0l : 0 < w.heap.size := by omega
  obtain ⟨w1, hw1⟩ : ∃ w1, (w.alloc flO).alloc (.cells #[.pointer none] 69) = w1 := ⟨_, rfl⟩
  have hB1 : Below w.heap.size w w1 := by rw [← hw1]; exact ((Below.refl _ _).alloc (Nat.le_refl _) _).alloc (by simp) _
  have hF1 : w1.heap[w.heap.size]? = some flO := by rw [← hw1, Below.heap_alloc _ _ _ (by simp)]; exact heap_alloc_new _ _
  have hT1 : w1.heap[w.heap.size + 1]? = some (.cells #[.pointer none] 69) := by
    rw [← hw1]
    have h := heap_alloc_new (w.alloc flO) (.cells #[.pointer none] 69)
    rw [World.size_alloc] at h; exact h
  have CA := Lib.hid (as_any Y (w.heap.size + 1) w1 ((hB1.cell (p := ⟨0, 0, none⟩) h0l).trans hg) hT1)
  have HB1 := Lib.hid hB1; have HF1 := Lib.hid hF1; have HW1 := Lib.hid hw1
  have HYY : Hid (w1.heap[Y]? = some (.cells #[.int .i64 cd, .string ⟨#[]⟩, .int .i64 ln] 73)) := Lib.hid ((hB1.block Y hYl).trans hY)
  have HL1 : Hid (w.heap.size + 1 < w1.heap.size) := Lib.hid (blk_lt hT1)
  clear hB1 hF1 hT1 hw1 hg hY
  go_enter Tryd.func18, Tryd.ntmps18
  go_upto_region 2 with fail
  rw [HW1.out]
  go_wp2_with (go_at_call 39; refine CA.out.mono ?_; rintro e w2 ⟨rfl, hE, hT⟩)
  have HF2 : Hid (w2.heap[w.heap.size]? = some flO) := Lib.hid ((hE.kept _ (by have := HL1.out; omega) (by omega)).trans HF1.out)
  have HY2 : Hid (w2.heap[Y]? = some (.cells #[.int .i64 cd, .string ⟨#[]⟩, .int .i64 ln] 73)) := Lib.hid ((hE.kept _ (by have := HL1.out; omega) (by omega)).trans HYY.out)
  have HB2 : Hid (Below w.heap.size w w2) := Lib.hid ⟨hE.os.trans HB1.out.os, hE.tape.trans HB1.out.tape, hE.output.trans HB1.out.output, Nat.le_trans HB1.out.size hE.size, fun k hk => (hE.kept k (by have := HL1.out; omega) (by omega)).trans (HB1.out.block k hk)⟩
  obtain ⟨f0, f1, f2, fz, fl⟩ := box_cells HF2.out
  obtain ⟨y0, y1, y2, yz, yl⟩ := box_cells HY2.out
  have t0 : w2.cell? ⟨w.heap.size + 1, 0, none⟩ = some (.pointer (some ⟨Y, 0, none⟩)) := by simp only [World.cell?, hT]; rfl
  clear hE hT CA
  go_still_tail 13, (by kernel_rfl)
  change wpList _ _ _ _ _ w2.drew
  generalize hqw : World.drew w2 = w3
  have HF3 : Hid (w3.heap[w.heap.size]? = some flO) := Lib.hid (by rw [← hqw]; exact HF2.out)
  have HB3 : Hid (Below w.heap.size w w3) := Lib.hid (by rw [← hqw]; exact HB2.out.drew)
  clear hqw f0 f1 f2 fz fl y0 y1 y2 yz yl t0 HF2 HY2 HB2
  obtain ⟨f0, f1, f2, fz, fl⟩ := box_cells HF3.out
  have z0 := fz 0; have z1 := fz 1; have z2 := fz 2
  have hfl : Hid ((((w3.setCell ⟨w.heap.size, 0, none⟩ (.int .i64 cd)).setCell ⟨w.heap.size, 1, none⟩ (.string ⟨#[]⟩)).setCell ⟨w.heap.size, 2, none⟩ (.int .i64 ln)).heap[w.heap.size]? = some (.cells #[.int .i64 cd, .string ⟨#[]⟩, .int .i64 ln] 25) ∧ Below w.heap.size w (((w3.setCell ⟨w.heap.size, 0, none⟩ (.int .i64 cd)).setCell ⟨w.heap.size, 1, none⟩ (.string ⟨#[]⟩)).setCell ⟨w.heap.size, 2, none⟩ (.int .i64 ln))) := Lib.hid ⟨set_same (set_same (set_same HF3.out)), ((HB3.out.setCell (p := ⟨w.heap.size, 0, none⟩) (Nat.le_refl _) _).setCell (p := ⟨w.heap.size, 1, none⟩) (Nat.le_refl _) _).setCell (p := ⟨w.heap.size, 2, none⟩) (Nat.le_refl _) _⟩
  go_wp2_with fail
  obtain ⟨WF, hWF⟩ : ∃ WF, (((w3.setCell ⟨w.heap.size, 0, none⟩ (.int .i64 cd)).setCell ⟨w.heap.size, 1, none⟩ (.string ⟨#[]⟩)).setCell ⟨w.heap.size, 2, none⟩ (.int .i64 ln)) = WF := ⟨_, rfl⟩
  rw [hWF] at hfl ⊢
  obtain ⟨k0, k1, k2, _, _⟩ := box_cells hfl.out.1
  exact bodyPost_ret (v := .agg #[.int .i64 cd, .string ⟨#[]⟩, .int .i64 ln]) (by simp [results, Tryd.results18, go_sem, k0, k1, k2]) rfl ⟨rfl, hfl.out.2⟩
end Go.Proofs.YtabmcambgdnaiaaDoor.faultW

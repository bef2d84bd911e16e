/- master.Entries: walk. -/
import Derived.Test.YtabmcambgdnaiaaDoorRunW
import Derived.Test.YtabmcambgdnaiaaDoorFaultW
namespace Go.Proofs.YtabmcambgdnaiaaDoor.mentW
open Go.RowKit Go.Proofs.YtabmcambgdnaiaaDoor.kit Go.Proofs.YtabmcambgdnaiaaDoor.timed Go.Proofs.YtabmcambgdnaiaaDoor.entP Go.Proofs.YtabmcambgdnaiaaDoor.wordsS Go.Proofs.YtabmcambgdnaiaaDoor.entsS Go.Proofs.YtabmcambgdnaiaaDoor.entM Go.Proofs.YtabmcambgdnaiaaDoor.entG Go.Proofs.YtabmcambgdnaiaaDoor.entR Go.Proofs.YtabmcambgdnaiaaDoor.wordW Go.Proofs.YtabmcambgdnaiaaDoor.flushW Go.Proofs.YtabmcambgdnaiaaDoor.runW
set_option linter.unusedVariables false

/-- the handle that errors.As reads -/
abbrev HandW (w : World) : Prop := w.cell? ⟨0, 0, none⟩ = some (.iface 121 (.agg #[.pointer (some ⟨8, 46, none⟩)]))
theorem HandW.lt {w : World} (h : HandW w) : 0 < w.heap.size := by
  rcases Nat.eq_zero_or_pos w.heap.size with h0 | h1
  · simp [HandW, World.cell?, h0] at h
  · exact h1
theorem HandW.below {w w' : World} (h : HandW w) (hB : Below w.heap.size w w') : HandW w' := (hB.cell (p := ⟨0, 0, none⟩) h.lt).trans h
/-- three cells laid in the fault's box -/
theorem lay3 {w : World} {N : Nat} {B : Nat} (hN : w.heap[N]? = some flO) (cd l : Int) :
    ((((w.setCell ⟨N, 0, none⟩ (.int .i64 cd)).setCell ⟨N, 1, none⟩ (.string ⟨#[]⟩)).setCell ⟨N, 2, none⟩ (.int .i64 l)).heap[N]? = some (.cells #[.int .i64 cd, .string ⟨#[]⟩, .int .i64 l] 25)) ∧ ∀ j, j ≠ N → ((((w.setCell ⟨N, 0, none⟩ (.int .i64 cd)).setCell ⟨N, 1, none⟩ (.string ⟨#[]⟩)).setCell ⟨N, 2, none⟩ (.int .i64 l)).heap[j]? = w.heap[j]?) :=
  ⟨set_same (set_same (set_same hN)), fun j hj => (set_far hj).trans ((set_far hj).trans (set_far hj))⟩
set_option maxRecDepth 100000 in
set_option maxHeartbeats 2400000 in
theorem mentries_any (s : ByteArray) (w : World) (hs : s.size ≤ 1099511627776) (hh : HandW w) : Calls Tryd.prog 5 #[.string s] w fun e w' => EntA s.data.toList w e w' := by
  have h0l := hh.lt
  obtain ⟨w1, hw1⟩ : ∃ w1, (w.alloc flO).alloc (scO s 0 0 0 0 false (.slice none 0 0) (.slice none 0 0)) = w1 := ⟨_, rfl⟩
  have hB1 : Below w.heap.size w w1 := by rw [← hw1]; exact ((Below.refl _ _).alloc (Nat.le_refl _) _).alloc (by simp) _
  have hF1 : w1.heap[w.heap.size]? = some flO := by rw [← hw1, Below.heap_alloc _ _ _ (by simp)]; exact heap_alloc_new _ _
  have hX1 : w1.heap[w.heap.size + 1]? = some (scO s 0 0 0 0 false (.slice none 0 0) (.slice none 0 0)) := by
    rw [← hw1]
    have h := heap_alloc_new (w.alloc flO) (scO s 0 0 0 0 false (.slice none 0 0) (.slice none 0 0))
    rw [World.size_alloc] at h; exact h
  have hz : w.heap.size + 2 ≤ w1.heap.size := by have := blk_lt hX1; omega
  have CR := Lib.hid (run_any (w.heap.size + 1) (w.heap.size + 2) s w1 hX1 (by omega) hz hs)
  have HB1 := Lib.hid hB1; have HF1 := Lib.hid hF1; have HW1 := Lib.hid hw1; have HZ := Lib.hid hz; have HH := Lib.hid hh
  clear hB1 hF1 hX1 hw1 hz hh
  go_enter Tryd.func5, Tryd.ntmps5
  go_upto_region 2 with fail
  rw [HW1.out]
  go_wp2_with fail
  refine CR.out.mono ?_
  rintro e w2 ⟨hE, hR⟩
  have HF2 : Hid (w2.heap[w.heap.size]? = some flO) := Lib.hid ((hE.kept _ (by omega) (by omega)).trans HF1.out)
  have HB2 : Hid (Below w.heap.size w w2) := Lib.hid ⟨hE.os.trans HB1.out.os, hE.tape.trans HB1.out.tape, hE.output.trans HB1.out.output, Nat.le_trans HB1.out.size hE.size, fun k hk => (hE.kept k (by omega) (by omega)).trans (HB1.out.block k hk)⟩
  have HZ2 : Hid (w.heap.size + 2 ≤ w2.heap.size) := Lib.hid (Nat.le_trans HZ.out hE.size)
  clear hE CR
  rcases hR with ⟨k, ln, op, now, ws, ov, P, rfl, hS, hR⟩ | ⟨Y, cd, l, hY, rfl, hb, hR⟩
  · have HS := Lib.hid hS; have HR := Lib.hid hR
    clear hS hR
    obtain ⟨c0, c1, c2, c3, c4, c5, c6, c7, cz⟩ := sc_cells HS.out.box
    obtain ⟨f0, f1, f2, fz, fl⟩ := box_cells HF2.out
    have z0 := fz 0; have z1 := fz 1; have z2 := fz 2
    have hfl := Lib.hid (lay3 (B := 0) HF2.out 0 0)
    have HB3 : Hid (Below w.heap.size w (((w2.setCell ⟨w.heap.size, 0, none⟩ (.int .i64 0)).setCell ⟨w.heap.size, 1, none⟩ (.string ⟨#[]⟩)).setCell ⟨w.heap.size, 2, none⟩ (.int .i64 0))) := Lib.hid (((HB2.out.setCell (p := ⟨w.heap.size, 0, none⟩) (Nat.le_refl _) _).setCell (p := ⟨w.heap.size, 1, none⟩) (Nat.le_refl _) _).setCell (p := ⟨w.heap.size, 2, none⟩) (Nat.le_refl _) _)
    go_wp2_with fail
    obtain ⟨WF, hWF⟩ : ∃ WF, (((w2.setCell ⟨w.heap.size, 0, none⟩ (.int .i64 0)).setCell ⟨w.heap.size, 1, none⟩ (.string ⟨#[]⟩)).setCell ⟨w.heap.size, 2, none⟩ (.int .i64 0)) = WF := ⟨_, rfl⟩
    rw [hWF] at hfl HB3 ⊢
    obtain ⟨k0, k1, k2, _, _⟩ := box_cells hfl.out.1
    refine bodyPost_ret (v := .tuple #[ov, .agg #[.int .i64 0, .string ⟨#[]⟩, .int .i64 0]]) (by simp [results, Tryd.results5, go_sem, k0, k1, k2]) rfl ⟨ov, P, 0, 0, rfl, HR.out, ?_, HS.out.st.pair, HB3.out⟩
    have hst := HS.out.st.keptB (w1 := WF) (fun i hi _ => hfl.out.2 i (by omega))
    exact ⟨own_base (by omega) hst.out.row, fun p hp => own_base (by omega) (hst.out.each p hp)⟩
  · have HR := Lib.hid hR
    have CF := Lib.hid (faultW.fault_any Y cd l w2 ((HB2.out.cell (p := ⟨0, 0, none⟩) h0l).trans HH.out) hb)
    clear hR hb
    go_upto_region 4 with fail
    go_wp2_with fail
    refine CF.out.mono ?_
    rintro e w3 ⟨rfl, hB3⟩
    have HF3 : Hid (w3.heap[w.heap.size]? = some flO) := Lib.hid ((hB3.block _ (by have := HZ2.out; omega)).trans HF2.out)
    have HB3 : Hid (Below w.heap.size w w3) := Lib.hid (HB2.out.trans (hB3.mono (by have := HZ2.out; omega)))
    clear hB3 CF
    obtain ⟨f0, f1, f2, fz, fl⟩ := box_cells HF3.out
    have z0 := fz 0; have z1 := fz 1; have z2 := fz 2
    have hfl := Lib.hid (lay3 (B := 0) HF3.out cd l)
    have HB4 : Hid (Below w.heap.size w (((w3.setCell ⟨w.heap.size, 0, none⟩ (.int .i64 cd)).setCell ⟨w.heap.size, 1, none⟩ (.string ⟨#[]⟩)).setCell ⟨w.heap.size, 2, none⟩ (.int .i64 l))) := Lib.hid (((HB3.out.setCell (p := ⟨w.heap.size, 0, none⟩) (Nat.le_refl _) _).setCell (p := ⟨w.heap.size, 1, none⟩) (Nat.le_refl _) _).setCell (p := ⟨w.heap.size, 2, none⟩) (Nat.le_refl _) _)
    go_wp2_with fail
    obtain ⟨WF, hWF⟩ : ∃ WF, (((w3.setCell ⟨w.heap.size, 0, none⟩ (.int .i64 cd)).setCell ⟨w.heap.size, 1, none⟩ (.string ⟨#[]⟩)).setCell ⟨w.heap.size, 2, none⟩ (.int .i64 l)) = WF := ⟨_, rfl⟩
    rw [hWF] at hfl HB4 ⊢
    obtain ⟨k0, k1, k2, _, _⟩ := box_cells hfl.out.1
    exact bodyPost_ret (v := .tuple #[.slice none 0 0, .agg #[.int .i64 cd, .string ⟨#[]⟩, .int .i64 l]]) (by simp [results, Tryd.results5, go_sem, k0, k1, k2]) rfl ⟨_, [], cd, l, rfl, HR.out, OutM.nil _ _, List.Pairwise.nil, HB4.out⟩
end Go.Proofs.YtabmcambgdnaiaaDoor.mentW

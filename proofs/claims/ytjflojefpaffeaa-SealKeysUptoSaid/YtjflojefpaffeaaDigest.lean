/- seal.Digest: walk. -/
import Derived.Test.YtjflojefpaffeaaHalf
import Derived.Test.YtjflojefpaffeaaBuilder
namespace Go.Proofs.Ytjflojefpaffeaa.digest
open Go.RowKit Go.Proofs.Ytjflojefpaffeaa.kit Go.Proofs.Ytjflojefpaffeaa.bld Go.Proofs.Ytjflojefpaffeaa.big Go.Proofs.Ytjflojefpaffeaa.half Go.Proofs.Ytjflojefpaffeaa.reader
set_option linter.unusedVariables false

theorem bld_setlow {B b g i : Nat} {u : Value} {l : List UInt8} {w : World} (h : Bld B b l w) (hg : g < B) : Bld B b l (w.setCell ⟨g, i, none⟩ u) := by
  have key : ∀ p, Lib.BuilderAt 75 5 B b p (Lib.byteCells l) w → Lib.BuilderAt 75 5 B b p (Lib.byteCells l) (w.setCell ⟨g, i, none⟩ u) := by
    intro p h
    obtain ⟨h1, v, h2, h3, h4⟩ := h
    refine ⟨h1, v, (Below.heap_setCell w ⟨g, i, none⟩ u b (by show b ≠ g; omega)).trans h2, ⟨h3.1, h3.2.imp id ?_⟩, h4⟩
    rintro ⟨g', cap, cur, a1, a2, a3, a4⟩
    exact ⟨g', cap, cur, a1, a2, (Below.heap_setCell w ⟨g, i, none⟩ u g' (by show g' ≠ g; omega)).trans a3, a4⟩
  rcases h with h | h
  · exact .inl (key _ h)
  · exact .inr (key _ h)
theorem bld_lt {B b : Nat} {l : List UInt8} {w : World} (h : Bld B b l w) : b < w.heap.size := by
  rcases h with h | h
  · exact h.lt
  · exact h.lt
theorem bld_drew {B b : Nat} {l : List UInt8} {w : World} (h : Bld B b l w) : Bld B b l w.drew := h
def Hv (w : World) (g x0 x1 : Nat) : Prop := w.heap[g]? = some (.cells #[.int .i64 (x0 : Int), .int .i64 1000003, .int .i64 1099511627689, .int .i64 (x1 : Int), .int .i64 999983, .int .i64 1099511627563] 91 (0, 0))
theorem Hv.c (w : World) (g x0 x1 : Nat) (h : Hv w g x0 x1) : w.cell? ⟨g, 0, none⟩ = some (.int .i64 (x0 : Int)) ∧ w.cell? ⟨g, 1, none⟩ = some (.int .i64 1000003) ∧ w.cell? ⟨g, 2, none⟩ = some (.int .i64 1099511627689) ∧ w.cell? ⟨g, 3, none⟩ = some (.int .i64 (x1 : Int)) ∧ w.cell? ⟨g, 4, none⟩ = some (.int .i64 999983) ∧ w.cell? ⟨g, 5, none⟩ = some (.int .i64 1099511627563) ∧ w.frozen? ⟨g, 0, none⟩ = false ∧ w.frozen? ⟨g, 3, none⟩ = false :=
  ⟨by rw [Lib.cell_of_heap h]; rfl, by rw [Lib.cell_of_heap h]; rfl, by rw [Lib.cell_of_heap h]; rfl, by rw [Lib.cell_of_heap h]; rfl, by rw [Lib.cell_of_heap h]; rfl, by rw [Lib.cell_of_heap h]; rfl, Lib.frozen_of_heap h 0, Lib.frozen_of_heap h 3⟩
theorem Hv.set0 {w : World} {g x0 x1 : Nat} (h : Hv w g x0 x1) (y : Nat) : Hv (w.setCell ⟨g, 0, none⟩ (.int .i64 (y : Int))).drew g y x1 := heap_set h 0 _
theorem Hv.set3 {w : World} {g x0 x1 : Nat} (h : Hv w g x0 x1) (y : Nat) : Hv (w.setCell ⟨g, 3, none⟩ (.int .i64 (y : Int))).drew g x0 y := heap_set h 3 _
theorem Hv.below {w w' : World} {g x0 x1 B : Nat} (h : Hv w g x0 x1) (hB : Below B w w') (hg : g < B) : Hv w' g x0 x1 := (hB.block g hg).trans h

def outK (l : List UInt8) : Nat → List UInt8
  | 0 => []
  | 1 => bigS (halfL 1000003 p1 l 1) 5
  | _ => digestS l

set_option maxRecDepth 100000 in
set_option maxHeartbeats 4000000 in
theorem ndigest_any (s : ByteArray) (w : World) (hs : s.size ≤ 1099511627776) :
    Calls Try.prog 33 #[.string s] w fun e w' => e = .returned (.string ⟨(digestS s.data.toList).toArray⟩) ∧ Below w.heap.size w w' := by
  have hfb := Lib.fresh_isBuilder 75 5 (w.alloc (.cells #[.int .i64 1, .int .i64 1000003, .int .i64 1099511627689, .int .i64 1, .int .i64 999983, .int .i64 1099511627563] 91))
  have hBa := ((Below.refl w.heap.size w).alloc (Nat.le_refl _) (.cells #[.int .i64 1, .int .i64 1000003, .int .i64 1099511627689, .int .i64 1, .int .i64 999983, .int .i64 1099511627563] 91)).alloc (by rw [World.size_alloc]; omega) (.cells #[.pointer none, .slice none 0 0] 75)
  have HFB := Lib.hid hfb; clear hfb
  have HBA := Lib.hid hBa; clear hBa
  go_enter Try.func33, Try.ntmps33
  go_wp2
  obtain ⟨w2, hw2⟩ : ∃ w2, (w.alloc (.cells #[.int .i64 1, .int .i64 1000003, .int .i64 1099511627689, .int .i64 1, .int .i64 999983, .int .i64 1099511627563] 91)).alloc (.cells #[.pointer none, .slice none 0 0] 75) = w2 := ⟨_, rfl⟩
  have hv0 : Hv w2 w.heap.size 1 1 := by
    rw [← hw2]
    have h1 : ((w.alloc (.cells #[.int .i64 1, .int .i64 1000003, .int .i64 1099511627689, .int .i64 1, .int .i64 999983, .int .i64 1099511627563] 91)).alloc (.cells #[.pointer none, .slice none 0 0] 75)).heap[w.heap.size]? = (w.alloc (.cells #[.int .i64 1, .int .i64 1000003, .int .i64 1099511627689, .int .i64 1, .int .i64 999983, .int .i64 1099511627563] 91)).heap[w.heap.size]? := Lib.alloc_old _ _ _ (by rw [World.size_alloc]; omega)
    exact h1.trans (heap_alloc_new w _)
  have hbl0 : Bld (w.heap.size + 1) (w.heap.size + 1) [] w2 := by
    rw [← hw2]
    have h1 := HFB.out
    rw [World.size_alloc] at h1
    exact h1
  have hB0 : Below w.heap.size w w2 := by rw [← hw2]; exact HBA.out
  rw [hw2]
  clear hw2 HFB HBA
  go_loopg [5, 6, 7, 11] 3 (fun gas _ _ _ kv wr => ∃ (k x0 x1 : Nat), kv = .int .i64 k ∧ k ≤ 2 ∧ k + gas = 3 ∧ (k = 0 → x0 = 1) ∧ (k ≤ 1 → x1 = 1) ∧ Hv wr w.heap.size x0 x1 ∧ Bld (w.heap.size + 1) (w.heap.size + 1) (outK s.data.toList k) wr ∧ Below w.heap.size w wr)
  case atStart => exact ⟨0, 1, 1, rfl, by omega, by omega, fun _ => rfl, fun _ => rfl, hv0, hbl0, hB0⟩
  case round =>
    clear hv0 hbl0 hB0
    obtain ⟨k, x0, x1, rfl, hk, hkg, q0, q1, hv, hbl, hB⟩ := hrel
    obtain ⟨gk', hgk'⟩ : ∃ g, g = gk := ⟨_, rfl⟩
    rw [← hgk'] at hkg
    have HK := Lib.hid hkg; clear hkg
    match k, hk, HK, q0, q1, hbl with
    | 0, hk, HK, q0, q1, hbl =>
      obtain rfl := q0 rfl
      obtain rfl := q1 (by omega)
      clear q0 q1
      obtain ⟨F, hF⟩ : ∃ F, halfL 1000003 p1 s.data.toList 1 = F := ⟨_, rfl⟩
      have hFp : F < p1 := by rw [← hF]; exact halfL_lt 1000003 p1 (by decide) _ 1 (by decide)
      have HF := Lib.hid hF; clear hF
      have HF0 : Hid (halfL 1000003 p1 (s.data.toList.drop 0) 1 = F) := HF
      have hF4 : F ≤ 4611686018427387904 := Nat.le_trans (Nat.le_of_lt hFp) (by decide)
      obtain ⟨c0, c1, c2, c3, c4, c5, f0, f3⟩ := Hv.c _ _ _ _ hv
      clear c0 c1 c2 c3 c4 c5 f0 f3
      go_wp2
      go_loopg [7, 19] (s.size + 1) (fun gas _ jv wq => ∃ (j h : Nat), jv = .int .i64 j ∧ j ≤ s.size ∧ j + gas = s.size + 1 ∧ h < p1 ∧ Hid (halfL 1000003 p1 (s.data.toList.drop j) h = F) ∧ Hid (Hv wq w.heap.size h 1) ∧ Hid (Bld (w.heap.size + 1) (w.heap.size + 1) (outK s.data.toList 0) wq) ∧ Below w.heap.size w wq)
      case atStart => exact ⟨0, 1, rfl, by omega, by omega, by decide, HF0, Lib.hid hv, Lib.hid hbl, hB⟩
      case round =>
        clear hv hbl hB
        obtain ⟨j, h, rfl, hj, hjg, hhp, HW, HV, HB, hB⟩ := hrel
        have HJ := Lib.hid hjg; clear hjg
        by_cases hlt : j < s.size
        · obtain ⟨c, hc⟩ : ∃ c, s[j] = c := ⟨_, rfl⟩
          have hc256 := byte_lt c
          obtain ⟨c0, c1, c2, c3, c4, c5, f0, f3⟩ := Hv.c _ _ _ _ HV.out
          have HADD := Lib.hid (add_any w.heap.size 0 h 1000003 p1 c wr c0 c1 c2 f0 hhp (by decide) (by decide) (by decide))
          obtain ⟨h', hh'⟩ : ∃ h', (h * 1000003 + c.toNat + 1) % p1 = h' := ⟨_, rfl⟩
          rw [hh'] at HADD
          have hhp' : h' < p1 := by rw [← hh']; exact Nat.mod_lt _ (by decide)
          have HW2 : Hid (halfL 1000003 p1 (s.data.toList.drop (j + 1)) h' = F) := Lib.hid (by rw [← HW.out, drop_cons s j hlt, hc, halfL, hh'])
          have HV2 := Lib.hid (HV.out.set0 h')
          have HB2 : Hid (Bld (w.heap.size + 1) (w.heap.size + 1) (outK s.data.toList 0) (wr.setCell ⟨w.heap.size, 0, none⟩ (.int .i64 (h' : Int))).drew) := Lib.hid (bld_drew (bld_setlow HB.out (by omega)))
          have hB2 := (hB.setCell (p := ⟨w.heap.size, 0, none⟩) (Nat.le_refl _) (.int .i64 (h' : Int))).drew
          clear c0 c1 c2 c3 c4 c5 f0 f3 hh'
          go_wp2_with fail
          refine HADD.out.mono ?_
          rintro e wz ⟨rfl, rfl⟩
          go_wp2
          have hjg := HJ.out
          go_roundg (gk - 1)
          case rel => exact ⟨j + 1, h', by go_num, by omega, by omega, hhp', HW2, HV2, HB2, hB2⟩
          case measure => omega
        · have HN := HW.out
          rw [drop_end s j (by omega)] at HN
          have hhF : h = F := HN
          subst hhF
          obtain ⟨c0, c1, c2, c3, c4, c5, f0, f3⟩ := Hv.c _ _ _ _ HV.out
          have hsz := hB.size
          have HBY := Lib.hid (bytes_any h 5 wr hF4 (by decide))
          obtain ⟨D, hD⟩ : ∃ D : ByteArray, (⟨(bigS h 5).toArray⟩ : ByteArray) = D := ⟨_, rfl⟩
          have hDd : D.data.toList = bigS h 5 := by rw [← hD]
          have hDs : D.size ≤ 5 := by rw [← size_len, hDd, bigS_len]; exact Nat.le_refl 5
          rw [hD] at HBY
          have HDD : Hid (outK s.data.toList 0 ++ D.data.toList = outK s.data.toList 1) := Lib.hid (by rw [hDd, ← HF.out]; rfl)
          have hlt2 := bld_lt HB.out
          clear HN hD hDd c1 c2 c4 c5 f0 f3 c3
          go_wp2_with fail
          refine HBY.out.mono ?_
          rintro e w3 ⟨rfl, hB3⟩
          have hb3 := bld_below HB.out hB3
          have hv3 := HV.out.below hB3 (by omega)
          have hBx := hB.trans (hB3.mono hsz)
          have hz3 := hB3.size
          go_wp2_with fail
          refine (ws _ _ _ D _ hb3 (by show 0 + D.size ≤ _; omega) (by omega)).mono ?_
          rintro e w4 ⟨rfl, hb4, hB4⟩
          rw [HDD.out] at hb4
          have hv4 := hv3.below hB4 (by omega)
          have hBy := hBx.trans (hB4.mono (by omega))
          go_wp2
          have hkg := HK.out
          go_roundg (gk' - 1)
          case rel => exact ⟨1, _, _, by go_num, by omega, by omega, by omega, fun _ => rfl, hv4, hb4, hBy⟩
          case measure => omega
    | 1, hk, HK, q0, q1, hbl =>
      obtain rfl := q1 (by omega)
      clear q0 q1
      obtain ⟨F, hF⟩ : ∃ F, halfL 999983 p2 s.data.toList 1 = F := ⟨_, rfl⟩
      have hFp : F < p2 := by rw [← hF]; exact halfL_lt 999983 p2 (by decide) _ 1 (by decide)
      have HF := Lib.hid hF; clear hF
      have HF0 : Hid (halfL 999983 p2 (s.data.toList.drop 0) 1 = F) := HF
      have hF4 : F ≤ 4611686018427387904 := Nat.le_trans (Nat.le_of_lt hFp) (by decide)
      obtain ⟨c0, c1, c2, c3, c4, c5, f0, f3⟩ := Hv.c _ _ _ _ hv
      clear c0 c1 c2 c3 c4 c5 f0 f3
      go_wp2
      go_loopg [7, 19] (s.size + 1) (fun gas _ jv wq => ∃ (j h : Nat), jv = .int .i64 j ∧ j ≤ s.size ∧ j + gas = s.size + 1 ∧ h < p2 ∧ Hid (halfL 999983 p2 (s.data.toList.drop j) h = F) ∧ Hid (Hv wq w.heap.size x0 h) ∧ Hid (Bld (w.heap.size + 1) (w.heap.size + 1) (outK s.data.toList 1) wq) ∧ Below w.heap.size w wq)
      case atStart => exact ⟨0, 1, rfl, by omega, by omega, by decide, HF0, Lib.hid hv, Lib.hid hbl, hB⟩
      case round =>
        clear hv hbl hB
        obtain ⟨j, h, rfl, hj, hjg, hhp, HW, HV, HB, hB⟩ := hrel
        have HJ := Lib.hid hjg; clear hjg
        by_cases hlt : j < s.size
        · obtain ⟨c, hc⟩ : ∃ c, s[j] = c := ⟨_, rfl⟩
          have hc256 := byte_lt c
          obtain ⟨c0, c1, c2, c3, c4, c5, f0, f3⟩ := Hv.c _ _ _ _ HV.out
          have HADD := Lib.hid (add_any w.heap.size 3 h 999983 p2 c wr c3 c4 c5 f3 hhp (by decide) (by decide) (by decide))
          obtain ⟨h', hh'⟩ : ∃ h', (h * 999983 + c.toNat + 1) % p2 = h' := ⟨_, rfl⟩
          rw [hh'] at HADD
          have hhp' : h' < p2 := by rw [← hh']; exact Nat.mod_lt _ (by decide)
          have HW2 : Hid (halfL 999983 p2 (s.data.toList.drop (j + 1)) h' = F) := Lib.hid (by rw [← HW.out, drop_cons s j hlt, hc, halfL, hh'])
          have HV2 := Lib.hid (HV.out.set3 h')
          have HB2 : Hid (Bld (w.heap.size + 1) (w.heap.size + 1) (outK s.data.toList 1) (wr.setCell ⟨w.heap.size, 3, none⟩ (.int .i64 (h' : Int))).drew) := Lib.hid (bld_drew (bld_setlow HB.out (by omega)))
          have hB2 := (hB.setCell (p := ⟨w.heap.size, 3, none⟩) (Nat.le_refl _) (.int .i64 (h' : Int))).drew
          clear c0 c1 c2 c3 c4 c5 f0 f3 hh'
          go_wp2_with fail
          refine HADD.out.mono ?_
          rintro e wz ⟨rfl, rfl⟩
          go_wp2
          have hjg := HJ.out
          go_roundg (gk - 1)
          case rel => exact ⟨j + 1, h', by go_num, by omega, by omega, hhp', HW2, HV2, HB2, hB2⟩
          case measure => omega
        · have HN := HW.out
          rw [drop_end s j (by omega)] at HN
          have hhF : h = F := HN
          subst hhF
          obtain ⟨c0, c1, c2, c3, c4, c5, f0, f3⟩ := Hv.c _ _ _ _ HV.out
          have hsz := hB.size
          have HBY := Lib.hid (bytes_any h 5 wr hF4 (by decide))
          obtain ⟨D, hD⟩ : ∃ D : ByteArray, (⟨(bigS h 5).toArray⟩ : ByteArray) = D := ⟨_, rfl⟩
          have hDd : D.data.toList = bigS h 5 := by rw [← hD]
          have hDs : D.size ≤ 5 := by rw [← size_len, hDd, bigS_len]; exact Nat.le_refl 5
          rw [hD] at HBY
          have HDD : Hid (outK s.data.toList 1 ++ D.data.toList = outK s.data.toList 2) := Lib.hid (by rw [hDd, ← HF.out]; rfl)
          have hlt2 := bld_lt HB.out
          clear HN hD hDd c1 c2 c4 c5 f0 f3 c0
          go_wp2_with fail
          refine HBY.out.mono ?_
          rintro e w3 ⟨rfl, hB3⟩
          have hb3 := bld_below HB.out hB3
          have hv3 := HV.out.below hB3 (by omega)
          have hBx := hB.trans (hB3.mono hsz)
          have hz3 := hB3.size
          go_wp2_with fail
          refine (ws _ _ _ D _ hb3 (by show (bigS _ 5).length + D.size ≤ _; rw [bigS_len]; omega) (by omega)).mono ?_
          rintro e w4 ⟨rfl, hb4, hB4⟩
          rw [HDD.out] at hb4
          have hv4 := hv3.below hB4 (by omega)
          have hBy := hBx.trans (hB4.mono (by omega))
          go_wp2
          have hkg := HK.out
          go_roundg (gk' - 1)
          case rel => exact ⟨2, _, _, by go_num, by omega, by omega, by omega, by omega, hv4, hb4, hBy⟩
          case measure => omega
    | 2, hk, HK, q0, q1, hbl =>
      clear q0 q1
      have hsz := hB.size
      have hlt2 := bld_lt hbl
      go_wp2_with fail
      refine (Try.Builder_String_any _ _ (digestS s.data.toList) _ hbl (by omega)).mono ?_
      rintro e w3 ⟨rfl, hE3⟩
      go_wp2
      go_ret
      exact ⟨rfl, hB.trans (hE3.mono (by omega))⟩
end Go.Proofs.Ytjflojefpaffeaa.digest

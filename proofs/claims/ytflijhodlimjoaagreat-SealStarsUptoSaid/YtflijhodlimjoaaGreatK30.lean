/- seal.Digest: walk. seal.mod, gazetteerref4.Figure: walks. seal.Sign: walk. -/
import Derived.Test.YtflijhodlimjoaaGreatK19
import Derived.Test.YtflijhodlimjoaaGreatK2
import Derived.Test.YtflijhodlimjoaaGreatK18
import Derived.Test.YtflijhodlimjoaaGreatK11
import Derived.Test.YtflijhodlimjoaaGreatK20
import Derived.Test.YtflijhodlimjoaaGreatK26
import Derived.Test.YtflijhodlimjoaaGreatK29
import Derived.Test.YtflijhodlimjoaaGreatK6
import Derived.Deep.RegionHeld3
namespace Go.Proofs.YtflijhodlimjoaaGreat.digest
open Go.RowKit Go.Proofs.YtflijhodlimjoaaGreat.kit Go.Proofs.YtflijhodlimjoaaGreat.bld Go.Proofs.YtflijhodlimjoaaGreat.big Go.Proofs.YtflijhodlimjoaaGreat.half Go.Proofs.YtflijhodlimjoaaGreat.reader
set_option linter.unusedVariables false

theorem bld_setlow {B b g i : Nat} {u : Value} {l : List UInt8} {w : World} (h : Bld B b l w) (hg : g < B) : Bld B b l (w.setCell ⟨g, i, none⟩ u) := by
  have key : ∀ p, Lib.BuilderAt 111 5 B b p (Lib.byteCells l) w → Lib.BuilderAt 111 5 B b p (Lib.byteCells l) (w.setCell ⟨g, i, none⟩ u) := by
    intro p h
    obtain ⟨h1, v, h2, h3, h4⟩ := h
    refine ⟨h1, v, (Below.heap_setCell w ⟨g, i, none⟩ u b (by show b ≠ g; omega)).trans h2, ⟨h3.1, h3.2.imp id ?_⟩, h4⟩
    rintro ⟨g', cap, cur, a1, a2, a3, a4⟩
    exact ⟨g', cap, cur, a1, a2, (Below.heap_setCell w ⟨g, i, none⟩ u g' (by show g' ≠ g; omega)).trans a3, a4⟩
  rcases h with h | h
  · exact .inl (key _ h)
  · exact .inr (key _ h)
theorem bld_lt {B b : Nat} {l : List UInt8} {w : World} (h : Bld B b l w) : b < w.heap.size := by
  rcases h with h | h
  · exact h.lt
  · exact h.lt
theorem bld_drew {B b : Nat} {l : List UInt8} {w : World} (h : Bld B b l w) : Bld B b l w.drew := h
def Hv (w : World) (g x0 x1 : Nat) : Prop := w.heap[g]? = some (.cells #[.int .i64 (x0 : Int), .int .i64 1000003, .int .i64 1099511627689, .int .i64 (x1 : Int), .int .i64 999983, .int .i64 1099511627563] 170 (0, 0))
theorem Hv.c (w : World) (g x0 x1 : Nat) (h : Hv w g x0 x1) : w.cell? ⟨g, 0, none⟩ = some (.int .i64 (x0 : Int)) ∧ w.cell? ⟨g, 1, none⟩ = some (.int .i64 1000003) ∧ w.cell? ⟨g, 2, none⟩ = some (.int .i64 1099511627689) ∧ w.cell? ⟨g, 3, none⟩ = some (.int .i64 (x1 : Int)) ∧ w.cell? ⟨g, 4, none⟩ = some (.int .i64 999983) ∧ w.cell? ⟨g, 5, none⟩ = some (.int .i64 1099511627563) ∧ w.frozen? ⟨g, 0, none⟩ = false ∧ w.frozen? ⟨g, 3, none⟩ = false :=
  ⟨by rw [Lib.cell_of_heap h]; rfl, by rw [Lib.cell_of_heap h]; rfl, by rw [Lib.cell_of_heap h]; rfl, by rw [Lib.cell_of_heap h]; rfl, by rw [Lib.cell_of_heap h]; rfl, by rw [Lib.cell_of_heap h]; rfl, Lib.frozen_of_heap h 0, Lib.frozen_of_heap h 3⟩
theorem Hv.set0 {w : World} {g x0 x1 : Nat} (h : Hv w g x0 x1) (y : Nat) : Hv (w.setCell ⟨g, 0, none⟩ (.int .i64 (y : Int))).drew g y x1 := heap_set h 0 _
theorem Hv.set3 {w : World} {g x0 x1 : Nat} (h : Hv w g x0 x1) (y : Nat) : Hv (w.setCell ⟨g, 3, none⟩ (.int .i64 (y : Int))).drew g x0 y := heap_set h 3 _
theorem Hv.below {w w' : World} {g x0 x1 B : Nat} (h : Hv w g x0 x1) (hB : Below B w w') (hg : g < B) : Hv w' g x0 x1 := (hB.block g hg).trans h

def outK (l : List UInt8) : Nat → List UInt8
  | 0 => []
  | 1 => bigS (halfL 1000003 p1 l 1) 5
  | _ => digestS l

set_option maxRecDepth 100000 in
set_option maxHeartbeats 4000000 in
theorem ndigest_any (s : ByteArray) (w : World) (hs : s.size ≤ 1099511627776) :
    Calls Tryz.prog 129 #[.string s] w fun e w' => e = .returned (.string ⟨(digestS s.data.toList).toArray⟩) ∧ Below w.heap.size w w' := by
  have hfb := Lib.fresh_isBuilder 111 5 (w.alloc (.cells #[.int .i64 1, .int .i64 1000003, .int .i64 1099511627689, .int .i64 1, .int .i64 999983, .int .i64 1099511627563] 170))
  have hBa := ((Below.refl w.heap.size w).alloc (Nat.le_refl _) (.cells #[.int .i64 1, .int .i64 1000003, .int .i64 1099511627689, .int .i64 1, .int .i64 999983, .int .i64 1099511627563] 170)).alloc (by rw [World.size_alloc]; omega) (.cells #[.pointer none, .slice none 0 0] 111)
  have HFB := Lib.hid hfb; clear hfb
  have HBA := Lib.hid hBa; clear hBa
  go_enter Tryz.func129, Tryz.ntmps129
  go_wp2
  obtain ⟨w2, hw2⟩ : ∃ w2, (w.alloc (.cells #[.int .i64 1, .int .i64 1000003, .int .i64 1099511627689, .int .i64 1, .int .i64 999983, .int .i64 1099511627563] 170)).alloc (.cells #[.pointer none, .slice none 0 0] 111) = w2 := ⟨_, rfl⟩
  have hv0 : Hv w2 w.heap.size 1 1 := by
    rw [← hw2]
    have h1 : ((w.alloc (.cells #[.int .i64 1, .int .i64 1000003, .int .i64 1099511627689, .int .i64 1, .int .i64 999983, .int .i64 1099511627563] 170)).alloc (.cells #[.pointer none, .slice none 0 0] 111)).heap[w.heap.size]? = (w.alloc (.cells #[.int .i64 1, .int .i64 1000003, .int .i64 1099511627689, .int .i64 1, .int .i64 999983, .int .i64 1099511627563] 170)).heap[w.heap.size]? := Lib.alloc_old _ _ _ (by rw [World.size_alloc]; omega)
    exact h1.trans (heap_alloc_new w _)
  have hbl0 : Bld (w.heap.size + 1) (w.heap.size + 1) [] w2 := by
    rw [← hw2]
    have h1 := HFB.out
    rw [World.size_alloc] at h1
    exact h1
  have hB0 : Below w.heap.size w w2 := by rw [← hw2]; exact HBA.out
  rw [hw2]
  clear hw2 HFB HBA
  go_loopg [5, 6, 7, 11] 3 (fun gas _ _ _ kv wr => ∃ (k x0 x1 : Nat), kv = .int .i64 k ∧ k ≤ 2 ∧ k + gas = 3 ∧ (k = 0 → x0 = 1) ∧ (k ≤ 1 → x1 = 1) ∧ Hv wr w.heap.size x0 x1 ∧ Bld (w.heap.size + 1) (w.heap.size + 1) (outK s.data.toList k) wr ∧ Below w.heap.size w wr)
  case atStart => exact ⟨0, 1, 1, rfl, by omega, by omega, fun _ => rfl, fun _ => rfl, hv0, hbl0, hB0⟩
  case round =>
    clear hv0 hbl0 hB0
    obtain ⟨k, x0, x1, rfl, hk, hkg, q0, q1, hv, hbl, hB⟩ := hrel
    obtain ⟨gk', hgk'⟩ : ∃ g, g = gk := ⟨_, rfl⟩
    rw [← hgk'] at hkg
    have HK := Lib.hid hkg; clear hkg
    match k, hk, HK, q0, q1, hbl with
    | 0, hk, HK, q0, q1, hbl =>
      obtain rfl := q0 rfl
      obtain rfl := q1 (by omega)
      clear q0 q1
      obtain ⟨F, hF⟩ : ∃ F, halfL 1000003 p1 s.data.toList 1 = F := ⟨_, rfl⟩
      have hFp : F < p1 := by rw [← hF]; exact halfL_lt 1000003 p1 (by decide) _ 1 (by decide)
      have HF := Lib.hid hF; clear hF
      have HF0 : Hid (halfL 1000003 p1 (s.data.toList.drop 0) 1 = F) := HF
      have hF4 : F ≤ 4611686018427387904 := Nat.le_trans (Nat.le_of_lt hFp) (by decide)
      obtain ⟨c0, c1, c2, c3, c4, c5, f0, f3⟩ := Hv.c _ _ _ _ hv
      clear c0 c1 c2 c3 c4 c5 f0 f3
      go_wp2
      go_loopg [7, 19] (s.size + 1) (fun gas _ jv wq => ∃ (j h : Nat), jv = .int .i64 j ∧ j ≤ s.size ∧ j + gas = s.size + 1 ∧ h < p1 ∧ Hid (halfL 1000003 p1 (s.data.toList.drop j) h = F) ∧ Hid (Hv wq w.heap.size h 1) ∧ Hid (Bld (w.heap.size + 1) (w.heap.size + 1) (outK s.data.toList 0) wq) ∧ Below w.heap.size w wq)
      case atStart => exact ⟨0, 1, rfl, by omega, by omega, by decide, HF0, Lib.hid hv, Lib.hid hbl, hB⟩
      case round =>
        clear hv hbl hB
        obtain ⟨j, h, rfl, hj, hjg, hhp, HW, HV, HB, hB⟩ := hrel
        have HJ := Lib.hid hjg; clear hjg
        by_cases hlt : j < s.size
        · obtain ⟨c, hc⟩ : ∃ c, s[j] = c := ⟨_, rfl⟩
          have hc256 := byte_lt c
          obtain ⟨c0, c1, c2, c3, c4, c5, f0, f3⟩ := Hv.c _ _ _ _ HV.out
          have HADD := Lib.hid (add_any w.heap.size 0 h 1000003 p1 c wr c0 c1 c2 f0 hhp (by decide) (by decide) (by decide))
          obtain ⟨h', hh'⟩ : ∃ h', (h * 1000003 + c.toNat + 1) % p1 = h' := ⟨_, rfl⟩
          rw [hh'] at HADD
          have hhp' : h' < p1 := by rw [← hh']; exact Nat.mod_lt _ (by decide)
          have HW2 : Hid (halfL 1000003 p1 (s.data.toList.drop (j + 1)) h' = F) := Lib.hid (by rw [← HW.out, drop_cons s j hlt, hc, halfL, hh'])
          have HV2 := Lib.hid (HV.out.set0 h')
          have HB2 : Hid (Bld (w.heap.size + 1) (w.heap.size + 1) (outK s.data.toList 0) (wr.setCell ⟨w.heap.size, 0, none⟩ (.int .i64 (h' : Int))).drew) := Lib.hid (bld_drew (bld_setlow HB.out (by omega)))
          have hB2 := (hB.setCell (p := ⟨w.heap.size, 0, none⟩) (Nat.le_refl _) (.int .i64 (h' : Int))).drew
          clear c0 c1 c2 c3 c4 c5 f0 f3 hh'
          go_wp2_with fail
          refine HADD.out.mono ?_
          rintro e wz ⟨rfl, rfl⟩
          go_wp2
          have hjg := HJ.out
          go_roundg (gk - 1)
          case rel => exact ⟨j + 1, h', by go_num, by omega, by omega, hhp', HW2, HV2, HB2, hB2⟩
          case measure => omega
        · have HN := HW.out
          rw [drop_end s j (by omega)] at HN
          have hhF : h = F := HN
          subst hhF
          obtain ⟨c0, c1, c2, c3, c4, c5, f0, f3⟩ := Hv.c _ _ _ _ HV.out
          have hsz := hB.size
          have HBY := Lib.hid (bytes_any h 5 wr hF4 (by decide))
          obtain ⟨D, hD⟩ : ∃ D : ByteArray, (⟨(bigS h 5).toArray⟩ : ByteArray) = D := ⟨_, rfl⟩
          have hDd : D.data.toList = bigS h 5 := by rw [← hD]
          have hDs : D.size ≤ 5 := by rw [← size_len, hDd, bigS_len]; exact Nat.le_refl 5
          rw [hD] at HBY
          have HDD : Hid (outK s.data.toList 0 ++ D.data.toList = outK s.data.toList 1) := Lib.hid (by rw [hDd, ← HF.out]; rfl)
          have hlt2 := bld_lt HB.out
          clear HN hD hDd c1 c2 c4 c5 f0 f3 c3
          go_wp2_with fail
          refine HBY.out.mono ?_
          rintro e w3 ⟨rfl, hB3⟩
          have hb3 := bld_below HB.out hB3
          have hv3 := HV.out.below hB3 (by omega)
          have hBx := hB.trans (hB3.mono hsz)
          have hz3 := hB3.size
          go_wp2_with fail
          refine (ws _ _ _ D _ hb3 (by show 0 + D.size ≤ _; omega) (by omega)).mono ?_
          rintro e w4 ⟨rfl, hb4, hB4⟩
          rw [HDD.out] at hb4
          have hv4 := hv3.below hB4 (by omega)
          have hBy := hBx.trans (hB4.mono (by omega))
          go_wp2
          have hkg := HK.out
          go_roundg (gk' - 1)
          case rel => exact ⟨1, _, _, by go_num, by omega, by omega, by omega, fun _ => rfl, hv4, hb4, hBy⟩
          case measure => omega
    | 1, hk, HK, q0, q1, hbl =>
      obtain rfl := q1 (by omega)
      clear q0 q1
      obtain ⟨F, hF⟩ : ∃ F, halfL 999983 p2 s.data.toList 1 = F := ⟨_, rfl⟩
      have hFp : F < p2 := by rw [← hF]; exact halfL_lt 999983 p2 (by decide) _ 1 (by decide)
      have HF := Lib.hid hF; clear hF
      have HF0 : Hid (halfL 999983 p2 (s.data.toList.drop 0) 1 = F) := HF
      have hF4 : F ≤ 4611686018427387904 := Nat.le_trans (Nat.le_of_lt hFp) (by decide)
      obtain ⟨c0, c1, c2, c3, c4, c5, f0, f3⟩ := Hv.c _ _ _ _ hv
      clear c0 c1 c2 c3 c4 c5 f0 f3
      go_wp2
      go_loopg [7, 19] (s.size + 1) (fun gas _ jv wq => ∃ (j h : Nat), jv = .int .i64 j ∧ j ≤ s.size ∧ j + gas = s.size + 1 ∧ h < p2 ∧ Hid (halfL 999983 p2 (s.data.toList.drop j) h = F) ∧ Hid (Hv wq w.heap.size x0 h) ∧ Hid (Bld (w.heap.size + 1) (w.heap.size + 1) (outK s.data.toList 1) wq) ∧ Below w.heap.size w wq)
      case atStart => exact ⟨0, 1, rfl, by omega, by omega, by decide, HF0, Lib.hid hv, Lib.hid hbl, hB⟩
      case round =>
        clear hv hbl hB
        obtain ⟨j, h, rfl, hj, hjg, hhp, HW, HV, HB, hB⟩ := hrel
        have HJ := Lib.hid hjg; clear hjg
        by_cases hlt : j < s.size
        · obtain ⟨c, hc⟩ : ∃ c, s[j] = c := ⟨_, rfl⟩
          have hc256 := byte_lt c
          obtain ⟨c0, c1, c2, c3, c4, c5, f0, f3⟩ := Hv.c _ _ _ _ HV.out
          have HADD := Lib.hid (add_any w.heap.size 3 h 999983 p2 c wr c3 c4 c5 f3 hhp (by decide) (by decide) (by decide))
          obtain ⟨h', hh'⟩ : ∃ h', (h * 999983 + c.toNat + 1) % p2 = h' := ⟨_, rfl⟩
          rw [hh'] at HADD
          have hhp' : h' < p2 := by rw [← hh']; exact Nat.mod_lt _ (by decide)
          have HW2 : Hid (halfL 999983 p2 (s.data.toList.drop (j + 1)) h' = F) := Lib.hid (by rw [← HW.out, drop_cons s j hlt, hc, halfL, hh'])
          have HV2 := Lib.hid (HV.out.set3 h')
          have HB2 : Hid (Bld (w.heap.size + 1) (w.heap.size + 1) (outK s.data.toList 1) (wr.setCell ⟨w.heap.size, 3, none⟩ (.int .i64 (h' : Int))).drew) := Lib.hid (bld_drew (bld_setlow HB.out (by omega)))
          have hB2 := (hB.setCell (p := ⟨w.heap.size, 3, none⟩) (Nat.le_refl _) (.int .i64 (h' : Int))).drew
          clear c0 c1 c2 c3 c4 c5 f0 f3 hh'
          go_wp2_with fail
          refine HADD.out.mono ?_
          rintro e wz ⟨rfl, rfl⟩
          go_wp2
          have hjg := HJ.out
          go_roundg (gk - 1)
          case rel => exact ⟨j + 1, h', by go_num, by omega, by omega, hhp', HW2, HV2, HB2, hB2⟩
          case measure => omega
        · have HN := HW.out
          rw [drop_end s j (by omega)] at HN
          have hhF : h = F := HN
          subst hhF
          obtain ⟨c0, c1, c2, c3, c4, c5, f0, f3⟩ := Hv.c _ _ _ _ HV.out
          have hsz := hB.size
          have HBY := Lib.hid (bytes_any h 5 wr hF4 (by decide))
          obtain ⟨D, hD⟩ : ∃ D : ByteArray, (⟨(bigS h 5).toArray⟩ : ByteArray) = D := ⟨_, rfl⟩
          have hDd : D.data.toList = bigS h 5 := by rw [← hD]
          have hDs : D.size ≤ 5 := by rw [← size_len, hDd, bigS_len]; exact Nat.le_refl 5
          rw [hD] at HBY
          have HDD : Hid (outK s.data.toList 1 ++ D.data.toList = outK s.data.toList 2) := Lib.hid (by rw [hDd, ← HF.out]; rfl)
          have hlt2 := bld_lt HB.out
          clear HN hD hDd c1 c2 c4 c5 f0 f3 c0
          go_wp2_with fail
          refine HBY.out.mono ?_
          rintro e w3 ⟨rfl, hB3⟩
          have hb3 := bld_below HB.out hB3
          have hv3 := HV.out.below hB3 (by omega)
          have hBx := hB.trans (hB3.mono hsz)
          have hz3 := hB3.size
          go_wp2_with fail
          refine (ws _ _ _ D _ hb3 (by show (bigS _ 5).length + D.size ≤ _; rw [bigS_len]; omega) (by omega)).mono ?_
          rintro e w4 ⟨rfl, hb4, hB4⟩
          rw [HDD.out] at hb4
          have hv4 := hv3.below hB4 (by omega)
          have hBy := hBx.trans (hB4.mono (by omega))
          go_wp2
          have hkg := HK.out
          go_roundg (gk' - 1)
          case rel => exact ⟨2, _, _, by go_num, by omega, by omega, by omega, by omega, hv4, hb4, hBy⟩
          case measure => omega
    | 2, hk, HK, q0, q1, hbl =>
      clear q0 q1
      have hsz := hB.size
      have hlt2 := bld_lt hbl
      go_wp2_with fail
      refine (Tryz.Builder_String_any _ _ (digestS s.data.toList) _ hbl (by omega)).mono ?_
      rintro e w3 ⟨rfl, hE3⟩
      go_wp2
      go_ret
      exact ⟨rfl, hB.trans (hE3.mono (by omega))⟩
end Go.Proofs.YtflijhodlimjoaaGreat.digest
namespace Go.Proofs.YtflijhodlimjoaaGreat.fig
open Go.RowKit Go.Proofs.YtflijhodlimjoaaGreat.kit Go.Proofs.YtflijhodlimjoaaGreat.bld Go.Proofs.YtflijhodlimjoaaGreat.big Go.Proofs.YtflijhodlimjoaaGreat.half Go.Proofs.YtflijhodlimjoaaGreat.digest Go.Proofs.YtflijhodlimjoaaGreat.sealP
set_option linter.unusedVariables false

set_option maxRecDepth 100000 in
set_option maxHeartbeats 2000000 in
theorem mod_any (s : ByteArray) (m : Nat) (w : World) (hs : s.size ≤ 1099511627776) (hm0 : 0 < m) (hm : m ≤ 2147483647) :
    Calls Tryz.prog 59 #[.string s, .int .i64 (m : Int)] w fun en w' => en = .returned (.int .i64 ((figL m (digestS s.data.toList) 0 : Nat) : Int)) ∧ Below w.heap.size w w' := by
  obtain ⟨D, hD⟩ : ∃ D : ByteArray, (⟨(digestS s.data.toList).toArray⟩ : ByteArray) = D := ⟨_, rfl⟩
  have hDl : digestS s.data.toList = D.data.toList := by rw [← hD]
  have CD := Lib.hid (ndigest_any s w hs)
  rw [hD] at CD
  rw [hDl]
  obtain ⟨R, hR⟩ : ∃ R, figL m D.data.toList 0 = R := ⟨_, rfl⟩
  rw [hR]
  have hDs : D.size = 10 := by rw [← size_len, ← hDl]; exact digest_len _
  have HR := Lib.hid hR
  have hmz : ¬ (m : Int) = 0 := by omega
  have hmb : ((m : Int) == 0) = false := by rw [beq_eq_false_iff_ne]; exact hmz
  clear hR hD hDl
  go_enter Tryz.func59, Tryz.ntmps59
  go_wp2_with fail
  refine CD.out.mono ?_
  rintro en w1 ⟨rfl, hB1⟩
  have hconv := Lib.run_convert_string_bytes (P := Tryz.prog) w1 9 108 5 D Tryz.underlying9 Tryz.underlying108 Tryz.underlying5
  have hB := bytesWorld_below w1 5 D
  have hb0 := bytes_new w1 5 D
  obtain ⟨cap, hcap⟩ : ∃ cap, grownCap w1 D.size 0 5 = cap := ⟨_, rfl⟩
  rw [hcap] at hconv
  obtain ⟨w2, hw2⟩ : ∃ w2, Lib.bytesWorld w1 5 D = w2 := ⟨_, rfl⟩
  rw [hw2] at hconv hB hb0
  have H0 := Lib.hid hb0; have HB2 := Lib.hid (hB1.trans (hB.mono hB1.size))
  clear hb0 hB hB1 hcap hw2 CD
  go_wp2_with fail
  clear hconv
  go_loopg [5, 12] 11 (fun gas vv kv wr => ∃ (k v : Nat), vv = .int .i64 (v : Int) ∧ kv = .int .i64 (k : Int) ∧ k ≤ 10 ∧ k + gas = 11 ∧ v < 2147483648 ∧ Hid (figL m (D.data.toList.drop k) v = R) ∧ w2 = wr)
  case atStart => exact ⟨0, 0, rfl, rfl, by omega, by omega, by omega, Lib.hid (by rw [List.drop_zero]; exact HR.out), rfl⟩
  case round =>
    clear HR
    obtain ⟨k, v, rfl, rfl, hk, hkg, hv, HW, rfl⟩ := hrel
    have HK := Lib.hid hkg; clear hkg
    by_cases hlt : k < 10
    · have hks : k < D.size := by omega
      obtain ⟨c, hc⟩ : ∃ c, D[k] = c := ⟨_, rfl⟩
      have hc256 := byte_lt c
      have hcell := (H0.out k c (by rw [← hc]; exact List.getElem?_eq_getElem (by simpa using hks))).1
      have zk : (0 : Int) ≤ (k : Int) := by omega
      have zl : (k : Int) < 10 := by omega
      obtain ⟨v2, hv2⟩ : ∃ v2, (v * 256 + c.toNat) % m = v2 := ⟨_, rfl⟩
      have hv3 : v2 < m := by rw [← hv2]; exact Nat.mod_lt _ hm0
      have HW2 : Hid (figL m (D.data.toList.drop (k + 1)) v2 = R) := Lib.hid (by rw [← HW.out, drop_cons D k hks, hc, figL, hv2])
      have x1 := congrArg (Value.int .i64) (val.or8b (x := (v : Int) * 256) (y := (c.toNat : Int)) (by omega) (by omega) (by omega) (by omega) hc256)
      have x2 : Value.int .i64 (((v : Int) * 256 + (c.toNat : Int)) % (m : Int)) = Value.int .i64 (v2 : Int) := by congr 1; rw [← hv2]; simp
      clear hv2 hc hlt
      go_wp2_with fail
      have hkg := HK.out
      go_roundg (gk - 1)
      case rel => exact ⟨k + 1, v2, by first | rfl | exact x2, by go_num, by omega, by omega, by omega, HW2, rfl⟩
      case measure => omega
    · have hke : k = 10 := by omega
      subst hke
      have HE : Hid (v = R) := Lib.hid (by rw [← HW.out, drop_end D 10 (by omega)]; rfl)
      go_wp2_with fail
      go_ret
      exact ⟨by rw [HE.out]; rfl, HB2.out⟩
set_option maxRecDepth 100000 in
set_option maxHeartbeats 2000000 in
theorem figure_any (s : ByteArray) (m : Nat) (w : World) (hs : s.size ≤ 1099511627776) (hm0 : 0 < m) (hm : m ≤ 2147483647) :
    Calls Tryz.prog 70 #[.string s, .int .i64 (m : Int)] w fun en w' => en = .returned (.int .i64 ((figL m (digestS s.data.toList) 0 : Nat) : Int)) ∧ Below w.heap.size w w' := by
  obtain ⟨D, hD⟩ : ∃ D : ByteArray, (⟨(digestS s.data.toList).toArray⟩ : ByteArray) = D := ⟨_, rfl⟩
  have hDl : digestS s.data.toList = D.data.toList := by rw [← hD]
  have CD := Lib.hid (rdigest_any s w hs)
  rw [hD] at CD
  rw [hDl]
  obtain ⟨R, hR⟩ : ∃ R, figL m D.data.toList 0 = R := ⟨_, rfl⟩
  rw [hR]
  have hDs : D.size = 10 := by rw [← size_len, ← hDl]; exact digest_len _
  have HR := Lib.hid hR
  have hmz : ¬ (m : Int) = 0 := by omega
  have hmb : ((m : Int) == 0) = false := by rw [beq_eq_false_iff_ne]; exact hmz
  clear hR hD hDl
  go_enter Tryz.func70, Tryz.ntmps70
  go_wp2_with fail
  refine CD.out.mono ?_
  rintro en w1 ⟨rfl, hB1⟩
  have HB1 := Lib.hid hB1
  clear hB1 CD
  go_wp2_with fail
  go_loopg [5, 7] 11 (fun gas vv kv wr => ∃ (k v : Nat), vv = .int .i64 (v : Int) ∧ kv = .int .i64 (k : Int) ∧ k ≤ 10 ∧ k + gas = 11 ∧ v < 2147483648 ∧ Hid (figL m (D.data.toList.drop k) v = R) ∧ w1 = wr)
  case atStart => exact ⟨0, 0, rfl, rfl, by omega, by omega, by omega, Lib.hid (by rw [List.drop_zero]; exact HR.out), rfl⟩
  case round =>
    clear HR
    obtain ⟨k, v, rfl, rfl, hk, hkg, hv, HW, rfl⟩ := hrel
    have HK := Lib.hid hkg; clear hkg
    by_cases hlt : k < 10
    · have hks : k < D.size := by omega
      obtain ⟨c, hc⟩ : ∃ c, D[k] = c := ⟨_, rfl⟩
      have hc256 := byte_lt c
      have zk : (0 : Int) ≤ (k : Int) := by omega
      have zl : (k : Int) < 10 := by omega
      obtain ⟨v2, hv2⟩ : ∃ v2, (v * 256 + c.toNat) % m = v2 := ⟨_, rfl⟩
      have hv3 : v2 < m := by rw [← hv2]; exact Nat.mod_lt _ hm0
      have HW2 : Hid (figL m (D.data.toList.drop (k + 1)) v2 = R) := Lib.hid (by rw [← HW.out, drop_cons D k hks, hc, figL, hv2])
      have x2 : Value.int .i64 (((v : Int) * 256 + (c.toNat : Int)) % (m : Int)) = Value.int .i64 (v2 : Int) := by congr 1; rw [← hv2]; simp
      have X2 := Lib.hid x2
      clear hv2 x2
      go_wp2_with fail
      have hkg := HK.out
      go_roundg (gk - 1)
      case rel => exact ⟨k + 1, v2, by first | exact X2.out | (rw [← X2.out]; congr 1; simp), by go_num, by omega, by omega, by omega, HW2, rfl⟩
      case measure => omega
    · have hke : k = 10 := by omega
      subst hke
      have HE : Hid (v = R) := Lib.hid (by rw [← HW.out, drop_end D 10 (by omega)]; rfl)
      have hz : ¬ (10 : Int) < 10 := by omega
      go_wp2_with fail
      go_ret
      exact ⟨by rw [HE.out]; rfl, HB1.out⟩
end Go.Proofs.YtflijhodlimjoaaGreat.fig
namespace Go.Proofs.YtflijhodlimjoaaGreat.sign
open Go.RowKit Go.Proofs.YtflijhodlimjoaaGreat.kit Go.Proofs.YtflijhodlimjoaaGreat.timed Go.Proofs.YtflijhodlimjoaaGreat.nspec Go.Proofs.YtflijhodlimjoaaGreat.rsplit Go.Proofs.YtflijhodlimjoaaGreat.refA Go.Proofs.YtflijhodlimjoaaGreat.refB Go.Proofs.YtflijhodlimjoaaGreat.right Go.Proofs.YtflijhodlimjoaaGreat.check Go.Proofs.YtflijhodlimjoaaGreat.nameB Go.Proofs.YtflijhodlimjoaaGreat.wireP Go.Proofs.YtflijhodlimjoaaGreat.wireM Go.Proofs.YtflijhodlimjoaaGreat.rows Go.Proofs.YtflijhodlimjoaaGreat.sealA Go.Proofs.YtflijhodlimjoaaGreat.sealS Go.Proofs.YtflijhodlimjoaaGreat.sealP Go.Proofs.YtflijhodlimjoaaGreat.big Go.Proofs.YtflijhodlimjoaaGreat.pub Go.Proofs.YtflijhodlimjoaaGreat.half Go.Proofs.YtflijhodlimjoaaGreat.tag Go.Proofs.YtflijhodlimjoaaGreat.signP Go.Proofs.YtflijhodlimjoaaGreat.keepN Go.Proofs.YtflijhodlimjoaaGreat.sortT Go.Proofs.YtflijhodlimjoaaGreat.lnP
set_option linter.unusedVariables false

/-- the boxes: the key, the set, the answer -/
structure Bx (kf km ke ks : Int) (sv : Value) (X : Nat) (w : World) : Prop where
  k : w.heap[X]? = some (.cells #[.int .i64 kf, .int .i64 km, .int .i64 ke, .int .i64 ks] 32)
  s : w.heap[X + 1]? = some (.cells #[sv] 22)
  z : w.heap[X + 2]? = some (.cells #[.string ⟨#[]⟩, .int .i64 0, .int .i64 0, .int .i64 0, .string ⟨#[]⟩] 34)
section
variable {kf km ke ks : Int} {sv : Value} {X : Nat} {w : World}
theorem Bx.step (h : Bx kf km ke ks sv X w) {w' : World} (hB : Below w.heap.size w w') : Bx kf km ke ks sv X w' :=
  ⟨(hB.block _ (Array.getElem?_eq_some_iff.1 h.k).1).trans h.k, (hB.block _ (Array.getElem?_eq_some_iff.1 h.s).1).trans h.s, (hB.block _ (Array.getElem?_eq_some_iff.1 h.z).1).trans h.z⟩
theorem Bx.key (h : Bx kf km ke ks sv X w) : w.cell? ⟨X, 0, none⟩ = some (.int .i64 kf) ∧ w.cell? ⟨X, 1, none⟩ = some (.int .i64 km) ∧ w.cell? ⟨X, 2, none⟩ = some (.int .i64 ke) ∧ w.cell? ⟨X, 3, none⟩ = some (.int .i64 ks) := by
  have e := h.k
  exact ⟨by simp only [World.cell?, e]; rfl, by simp only [World.cell?, e]; rfl, by simp only [World.cell?, e]; rfl, by simp only [World.cell?, e]; rfl⟩
theorem Bx.set (h : Bx kf km ke ks sv X w) : w.cell? ⟨X + 1, 0, none⟩ = some sv := by
  have e := h.s
  simp only [World.cell?, e]; rfl
theorem Bx.zero (h : Bx kf km ke ks sv X w) : w.cell? ⟨X + 2, 0, none⟩ = some (.string ⟨#[]⟩) ∧ w.cell? ⟨X + 2, 1, none⟩ = some (.int .i64 0) ∧ w.cell? ⟨X + 2, 2, none⟩ = some (.int .i64 0) ∧ w.cell? ⟨X + 2, 3, none⟩ = some (.int .i64 0) ∧ w.cell? ⟨X + 2, 4, none⟩ = some (.string ⟨#[]⟩) ∧ w.frozen? ⟨X + 2, 0, none⟩ = false ∧ w.frozen? ⟨X + 2, 1, none⟩ = false ∧ w.frozen? ⟨X + 2, 2, none⟩ = false ∧ w.frozen? ⟨X + 2, 3, none⟩ = false ∧ w.frozen? ⟨X + 2, 4, none⟩ = false := by
  have e := h.z
  refine ⟨?_, ?_, ?_, ?_, ?_, ?_, ?_, ?_, ?_, ?_⟩
  · simp only [World.cell?, e]; rfl
  · simp only [World.cell?, e]; rfl
  · simp only [World.cell?, e]; rfl
  · simp only [World.cell?, e]; rfl
  · simp only [World.cell?, e]; rfl
  · simp [World.frozen?, e]
  · simp [World.frozen?, e]
  · simp [World.frozen?, e]
  · simp [World.frozen?, e]
  · simp [World.frozen?, e]
end
/-- a record laid over five cells -/
def over (w : World) (Y : Nat) (v0 v1 v2 v3 v4 : Value) : World := ((((w.setCell ⟨Y, 0, none⟩ v0).setCell ⟨Y, 1, none⟩ v1).setCell ⟨Y, 2, none⟩ v2).setCell ⟨Y, 3, none⟩ v3).setCell ⟨Y, 4, none⟩ v4
theorem over_heap {w : World} {Y : Nat} {t : TypeId} {a0 a1 a2 a3 a4 : Value} (h : w.heap[Y]? = some (.cells #[a0, a1, a2, a3, a4] t)) (v0 v1 v2 v3 v4 : Value) : (over w Y v0 v1 v2 v3 v4).heap[Y]? = some (.cells #[v0, v1, v2, v3, v4] t) := by
  simp [over, World.setCell, Array.getElem?_modify, h]
theorem over_below {w : World} {Y B : Nat} (h : B ≤ Y) (v0 v1 v2 v3 v4 : Value) : Below B w (over w Y v0 v1 v2 v3 v4) :=
  (((((Below.refl B w).setCell (p := ⟨Y, 0, none⟩) h v0).setCell (p := ⟨Y, 1, none⟩) h v1).setCell (p := ⟨Y, 2, none⟩) h v2).setCell (p := ⟨Y, 3, none⟩) h v3).setCell (p := ⟨Y, 4, none⟩) h v4
theorem over_cells {w : World} {Y : Nat} {t : TypeId} {a0 a1 a2 a3 a4 : Value} (h : w.heap[Y]? = some (.cells #[a0, a1, a2, a3, a4] t)) (v0 v1 v2 v3 v4 : Value) :
    (over w Y v0 v1 v2 v3 v4).cell? ⟨Y, 0, none⟩ = some v0 ∧ (over w Y v0 v1 v2 v3 v4).cell? ⟨Y, 1, none⟩ = some v1 ∧ (over w Y v0 v1 v2 v3 v4).cell? ⟨Y, 2, none⟩ = some v2 ∧ (over w Y v0 v1 v2 v3 v4).cell? ⟨Y, 3, none⟩ = some v3 ∧ (over w Y v0 v1 v2 v3 v4).cell? ⟨Y, 4, none⟩ = some v4 := by
  have e := over_heap h v0 v1 v2 v3 v4
  exact ⟨by simp only [World.cell?, e]; rfl, by simp only [World.cell?, e]; rfl, by simp only [World.cell?, e]; rfl, by simp only [World.cell?, e]; rfl, by simp only [World.cell?, e]; rfl⟩
set_option maxRecDepth 100000 in
set_option maxHeartbeats 16000000 in
theorem sign_any (kf km ke ks : Int) (sn : ByteArray) (a : Option Addr) (n c : Nat) (L : List Rc) (fr un : Int) (w : World) (hn : n = L.length) (hr : RdC w a 5 (L.map Rc.cells)) (ho : ∀ x ∈ L, OkR x) (hbig : n ≤ 16777216) (hbk : bulk (L.map foldX) ≤ 68719476736) (hsn : sn.size ≤ 1099511627776) :
    Calls Tryz.prog 14 #[.agg #[.int .i64 kf, .int .i64 km, .int .i64 ke, .int .i64 ks], .string sn, .slice a n c, .int .i64 fr, .int .i64 un] w fun e w' => e = SignR kf km ke ks sn L fr un ∧ Below w.heap.size w w' := by
  obtain ⟨RR, hRR⟩ : ∃ RR, SignR kf km ke ks sn L fr un = RR := ⟨_, rfl⟩
  rw [hRR]
  have HRR := Lib.hid hRR
  have HN := Lib.hid hn; have HRD := Lib.hid hr; have HO := Lib.hid ho; have HBK := Lib.hid hbk
  have CR := Lib.hid (fun wx => rightA.right_any kf km ke ks wx)
  have CN := Lib.hid (fun wx => check_any sn wx hsn)
  have hb1 := (Below.refl w.heap.size w).alloc (Nat.le_refl _) (.cells #[.int .i64 kf, .int .i64 km, .int .i64 ke, .int .i64 ks] 32)
  have hk1 := heap_alloc_new w (.cells #[.int .i64 kf, .int .i64 km, .int .i64 ke, .int .i64 ks] 32)
  obtain ⟨X, hX⟩ : ∃ X, w.heap.size = X := ⟨_, rfl⟩
  obtain ⟨W1, hW1⟩ : ∃ W1, w.alloc (.cells #[.int .i64 kf, .int .i64 km, .int .i64 ke, .int .i64 ks] 32) = W1 := ⟨_, rfl⟩
  have hz1 : W1.heap.size = X + 1 := by rw [← hW1, World.size_alloc, hX]
  rw [hW1] at hk1 hb1
  rw [hX] at hk1
  have hb2 := (Below.refl W1.heap.size W1).alloc (Nat.le_refl _) (.cells #[.slice a n c] 22)
  have hs2 := heap_alloc_new W1 (.cells #[.slice a n c] 22)
  obtain ⟨W2, hW2⟩ : ∃ W2, W1.alloc (.cells #[.slice a n c] 22) = W2 := ⟨_, rfl⟩
  have hz2 : W2.heap.size = X + 2 := by rw [← hW2, World.size_alloc, hz1]
  rw [hW2] at hs2 hb2
  rw [hz1] at hs2
  have hb3 := (Below.refl W2.heap.size W2).alloc (Nat.le_refl _) (.cells #[.string ⟨#[]⟩, .int .i64 0, .int .i64 0, .int .i64 0, .string ⟨#[]⟩] 34)
  have hr3 := heap_alloc_new W2 (.cells #[.string ⟨#[]⟩, .int .i64 0, .int .i64 0, .int .i64 0, .string ⟨#[]⟩] 34)
  obtain ⟨W3, hW3⟩ : ∃ W3, W2.alloc (.cells #[.string ⟨#[]⟩, .int .i64 0, .int .i64 0, .int .i64 0, .string ⟨#[]⟩] 34) = W3 := ⟨_, rfl⟩
  have hz3 : W3.heap.size = X + 3 := by rw [← hW3, World.size_alloc, hz2]
  rw [hW3] at hr3 hb3
  rw [hz2] at hr3
  have hk2 := (hb2.block X (Array.getElem?_eq_some_iff.1 hk1).1).trans hk1
  have HBX : Hid (Bx kf km ke ks (.slice a n c) X W3) := Lib.hid ⟨(hb3.block X (Array.getElem?_eq_some_iff.1 hk2).1).trans hk2, (hb3.block (X + 1) (Array.getElem?_eq_some_iff.1 hs2).1).trans hs2, hr3⟩
  have HB3 : Hid (Below w.heap.size w W3) := Lib.hid ((hb1.trans (hb2.mono hb1.size)).trans (hb3.mono (by omega)))
  have HX := Lib.hid hX; have HW1 := Lib.hid hW1; have HW2 := Lib.hid hW2; have HW3 := Lib.hid hW3; have HZ3 := Lib.hid hz3
  clear hRR hn hr ho hbk hb1 hk1 hX hW1 hz1 hb2 hs2 hW2 hz2 hb3 hr3 hW3 hz3 hk2
  go_enter Tryz.func14, Tryz.ntmps14
  trace "1"
  go_upto_region 1 with fail
  rw [HW1.out, HW2.out, HW3.out]
  try rw [HX.out]
  obtain ⟨k0, k1, k2, k3⟩ := HBX.out.key
  trace "2"
  cases hri : rightB kf km ke ks with
  | false =>
    have HR1 := Lib.hid (HRR.out.symm.trans (sr_key hri))
    rw [hri] at CR
    clear hri
    go_wp2_with fail
    refine (CR.out _).mono ?_
    rintro e w4 ⟨rfl, hB4⟩
    have HBX4 := Lib.hid (HBX.out.step hB4)
    have HB4 := Lib.hid (HB3.out.trans (hB4.mono HB3.out.size))
    clear hB4 k0 k1 k2 k3
    trace "no 24"
    obtain ⟨z0, z1, z2, z3, z4, f0, f1, f2, f3, f4⟩ := HBX4.out.zero
    go_wp2_with fail
    have hOV := over_cells (w := w4) (Y := X + 1 + 1) HBX4.out.z (.string ⟨#[]⟩) (.int .i64 0) (.int .i64 0) (.int .i64 0) (.string ⟨#[]⟩)
    have hOB := over_below (w := w4) (Y := X + 1 + 1) (B := w.heap.size) (by rw [HX.out]; omega) (.string ⟨#[]⟩) (.int .i64 0) (.int .i64 0) (.int .i64 0) (.string ⟨#[]⟩)
    obtain ⟨wf, hwf⟩ : ∃ wf, over w4 (X + 1 + 1) (.string ⟨#[]⟩) (.int .i64 0) (.int .i64 0) (.int .i64 0) (.string ⟨#[]⟩) = wf := ⟨_, rfl⟩
    have hwf' := hwf
    unfold over at hwf'
    rw [hwf'] 
    rw [hwf] at hOV hOB
    obtain ⟨q0, q1, q2, q3, q4⟩ := hOV
    clear hwf hwf'
    refine bodyPost_ret (v := .tuple #[.agg #[.string ⟨#[]⟩, .int .i64 0, .int .i64 0, .int .i64 0, .string ⟨#[]⟩], .int .i64 24]) (by simp [results, Tryz.results14, go_sem, q0, q1, q2, q3, q4]) rfl ⟨by rw [HR1.out]; rfl, HB4.out.trans hOB⟩
  | true =>
  have HRI := Lib.hid hri
  rw [hri] at CR
  clear hri
  go_wp2_with fail
  refine (CR.out _).mono ?_
  rintro e w4 ⟨rfl, hB4⟩
  have HBX4 := Lib.hid (HBX.out.step hB4)
  have HB4 := Lib.hid (HB3.out.trans (hB4.mono HB3.out.size))
  clear hB4 k0 k1 k2 k3
  rw [lines.chk_isB] at CN
  cases hni : isB sn with
  | false =>
    have HR1 := Lib.hid (HRR.out.symm.trans (sr_name HRI.out hni))
    rw [hni] at CN
    clear hni
    go_wp2_with fail
    refine (CN.out _).mono ?_
    rintro e w5 ⟨rfl, hB5⟩
    have HBX5 := Lib.hid (HBX4.out.step hB5)
    have HB5 := Lib.hid (HB4.out.trans (hB5.mono HB4.out.size))
    clear hB5
    trace "no 1"
    obtain ⟨z0, z1, z2, z3, z4, f0, f1, f2, f3, f4⟩ := HBX5.out.zero
    go_wp2_with fail
    have hOV := over_cells (w := w5) (Y := X + 1 + 1) HBX5.out.z (.string ⟨#[]⟩) (.int .i64 0) (.int .i64 0) (.int .i64 0) (.string ⟨#[]⟩)
    have hOB := over_below (w := w5) (Y := X + 1 + 1) (B := w.heap.size) (by rw [HX.out]; omega) (.string ⟨#[]⟩) (.int .i64 0) (.int .i64 0) (.int .i64 0) (.string ⟨#[]⟩)
    obtain ⟨wf, hwf⟩ : ∃ wf, over w5 (X + 1 + 1) (.string ⟨#[]⟩) (.int .i64 0) (.int .i64 0) (.int .i64 0) (.string ⟨#[]⟩) = wf := ⟨_, rfl⟩
    have hwf' := hwf
    unfold over at hwf'
    rw [hwf'] 
    rw [hwf] at hOV hOB
    obtain ⟨q0, q1, q2, q3, q4⟩ := hOV
    clear hwf hwf'
    refine bodyPost_ret (v := .tuple #[.agg #[.string ⟨#[]⟩, .int .i64 0, .int .i64 0, .int .i64 0, .string ⟨#[]⟩], .int .i64 1]) (by simp [results, Tryz.results14, go_sem, q0, q1, q2, q3, q4]) rfl ⟨by rw [HR1.out]; rfl, HB5.out.trans hOB⟩
  | true =>
  have HNI := Lib.hid hni
  rw [hni] at CN
  clear hni
  go_wp2_with fail
  refine (CN.out _).mono ?_
  rintro e w5 ⟨rfl, hB5⟩
  have HBX5 := Lib.hid (HBX4.out.step hB5)
  have HB5 := Lib.hid (HB4.out.trans (hB5.mono HB4.out.size))
  clear hB5
  by_cases h1 : fr < 0
  · have HR1 := Lib.hid (HRR.out.symm.trans (sr_time HRI.out HNI.out (.inl h1)))
    have b1 : decide (fr < 0) = true := decide_eq_true h1
    trace "no 25"
    obtain ⟨z0, z1, z2, z3, z4, f0, f1, f2, f3, f4⟩ := HBX5.out.zero
    go_wp2_with fail
    have hOV := over_cells (w := w5) (Y := X + 1 + 1) HBX5.out.z (.string ⟨#[]⟩) (.int .i64 0) (.int .i64 0) (.int .i64 0) (.string ⟨#[]⟩)
    have hOB := over_below (w := w5) (Y := X + 1 + 1) (B := w.heap.size) (by rw [HX.out]; omega) (.string ⟨#[]⟩) (.int .i64 0) (.int .i64 0) (.int .i64 0) (.string ⟨#[]⟩)
    obtain ⟨wf, hwf⟩ : ∃ wf, over w5 (X + 1 + 1) (.string ⟨#[]⟩) (.int .i64 0) (.int .i64 0) (.int .i64 0) (.string ⟨#[]⟩) = wf := ⟨_, rfl⟩
    have hwf' := hwf
    unfold over at hwf'
    rw [hwf'] 
    rw [hwf] at hOV hOB
    obtain ⟨q0, q1, q2, q3, q4⟩ := hOV
    clear hwf hwf'
    refine bodyPost_ret (v := .tuple #[.agg #[.string ⟨#[]⟩, .int .i64 0, .int .i64 0, .int .i64 0, .string ⟨#[]⟩], .int .i64 25]) (by simp [results, Tryz.results14, go_sem, q0, q1, q2, q3, q4]) rfl ⟨by rw [HR1.out]; rfl, HB5.out.trans hOB⟩
  have b1 : decide (fr < 0) = false := decide_eq_false h1
  by_cases h2 : un < fr
  · have HR1 := Lib.hid (HRR.out.symm.trans (sr_time HRI.out HNI.out (.inr (.inl h2))))
    have b2 : decide (un < fr) = true := decide_eq_true h2
    trace "no 25"
    obtain ⟨z0, z1, z2, z3, z4, f0, f1, f2, f3, f4⟩ := HBX5.out.zero
    go_wp2_with fail
    have hOV := over_cells (w := w5) (Y := X + 1 + 1) HBX5.out.z (.string ⟨#[]⟩) (.int .i64 0) (.int .i64 0) (.int .i64 0) (.string ⟨#[]⟩)
    have hOB := over_below (w := w5) (Y := X + 1 + 1) (B := w.heap.size) (by rw [HX.out]; omega) (.string ⟨#[]⟩) (.int .i64 0) (.int .i64 0) (.int .i64 0) (.string ⟨#[]⟩)
    obtain ⟨wf, hwf⟩ : ∃ wf, over w5 (X + 1 + 1) (.string ⟨#[]⟩) (.int .i64 0) (.int .i64 0) (.int .i64 0) (.string ⟨#[]⟩) = wf := ⟨_, rfl⟩
    have hwf' := hwf
    unfold over at hwf'
    rw [hwf'] 
    rw [hwf] at hOV hOB
    obtain ⟨q0, q1, q2, q3, q4⟩ := hOV
    clear hwf hwf'
    refine bodyPost_ret (v := .tuple #[.agg #[.string ⟨#[]⟩, .int .i64 0, .int .i64 0, .int .i64 0, .string ⟨#[]⟩], .int .i64 25]) (by simp [results, Tryz.results14, go_sem, q0, q1, q2, q3, q4]) rfl ⟨by rw [HR1.out]; rfl, HB5.out.trans hOB⟩
  have b2 : decide (un < fr) = false := decide_eq_false h2
  by_cases h3 : 4294967295 < un
  · have HR1 := Lib.hid (HRR.out.symm.trans (sr_time HRI.out HNI.out (.inr (.inr h3))))
    have b3 : decide (4294967295 < un) = true := decide_eq_true h3
    trace "no 25"
    obtain ⟨z0, z1, z2, z3, z4, f0, f1, f2, f3, f4⟩ := HBX5.out.zero
    go_wp2_with fail
    have hOV := over_cells (w := w5) (Y := X + 1 + 1) HBX5.out.z (.string ⟨#[]⟩) (.int .i64 0) (.int .i64 0) (.int .i64 0) (.string ⟨#[]⟩)
    have hOB := over_below (w := w5) (Y := X + 1 + 1) (B := w.heap.size) (by rw [HX.out]; omega) (.string ⟨#[]⟩) (.int .i64 0) (.int .i64 0) (.int .i64 0) (.string ⟨#[]⟩)
    obtain ⟨wf, hwf⟩ : ∃ wf, over w5 (X + 1 + 1) (.string ⟨#[]⟩) (.int .i64 0) (.int .i64 0) (.int .i64 0) (.string ⟨#[]⟩) = wf := ⟨_, rfl⟩
    have hwf' := hwf
    unfold over at hwf'
    rw [hwf'] 
    rw [hwf] at hOV hOB
    obtain ⟨q0, q1, q2, q3, q4⟩ := hOV
    clear hwf hwf'
    refine bodyPost_ret (v := .tuple #[.agg #[.string ⟨#[]⟩, .int .i64 0, .int .i64 0, .int .i64 0, .string ⟨#[]⟩], .int .i64 25]) (by simp [results, Tryz.results14, go_sem, q0, q1, q2, q3, q4]) rfl ⟨by rw [HR1.out]; rfl, HB5.out.trans hOB⟩
  have b3 : decide (4294967295 < un) = false := decide_eq_false h3
  have HTM : Hid (¬ (fr < 0 ∨ un < fr ∨ 4294967295 < un)) := Lib.hid (by rintro (h | h | h) <;> omega)
  have q1 := HBX5.out.set
  have CL := Lib.hid (lines.lines_any a n c L w5 HN.out (HRD.out.below HB5.out rfl) HO.out hbig)
  trace "3"
  go_wp2_with fail
  refine CL.out.mono ?_
  rintro e w6 ⟨v, rfl, hrow, hB6⟩
  have HBX6 := Lib.hid (HBX5.out.step hB6)
  have HB6 := Lib.hid (HB5.out.trans (hB6.mono HB5.out.size))
  have HB56 := Lib.hid hB6
  clear hB6 q1 CL h1 h2 h3 b1 b2 b3
  cases hs : setB L with
  | false =>
    have HR1 := Lib.hid (HRR.out.symm.trans (sr_set HRI.out HNI.out HTM.out hs))
    clear hrow
    clear hs
    trace "no 8"
    obtain ⟨z0, z1, z2, z3, z4, f0, f1, f2, f3, f4⟩ := HBX6.out.zero
    go_wp2_with fail
    have hOV := over_cells (w := w6) (Y := X + 1 + 1) HBX6.out.z (.string ⟨#[]⟩) (.int .i64 0) (.int .i64 0) (.int .i64 0) (.string ⟨#[]⟩)
    have hOB := over_below (w := w6) (Y := X + 1 + 1) (B := w.heap.size) (by rw [HX.out]; omega) (.string ⟨#[]⟩) (.int .i64 0) (.int .i64 0) (.int .i64 0) (.string ⟨#[]⟩)
    obtain ⟨wf, hwf⟩ : ∃ wf, over w6 (X + 1 + 1) (.string ⟨#[]⟩) (.int .i64 0) (.int .i64 0) (.int .i64 0) (.string ⟨#[]⟩) = wf := ⟨_, rfl⟩
    have hwf' := hwf
    unfold over at hwf'
    rw [hwf'] 
    rw [hwf] at hOV hOB
    obtain ⟨q0, q1, q2, q3, q4⟩ := hOV
    clear hwf hwf'
    refine bodyPost_ret (v := .tuple #[.agg #[.string ⟨#[]⟩, .int .i64 0, .int .i64 0, .int .i64 0, .string ⟨#[]⟩], .int .i64 8]) (by simp [results, Tryz.results14, go_sem, q0, q1, q2, q3, q4]) rfl ⟨by rw [HR1.out]; rfl, HB6.out.trans hOB⟩
  | true =>
  have HS := Lib.hid hs
  have hrow := hrow hs
  have hnl := HN.out
  obtain ⟨h, h0⟩ : ∃ h, L[0]? = some h := by
    cases L with
    | nil => cases hs
    | cons x r => exact ⟨x, rfl⟩
  have H0 := Lib.hid h0
  have hpos : 0 < n := by rw [hnl]; exact (List.getElem?_eq_some_iff.1 h0).1
  rw [← hnl] at hrow
  have hlen : n = (sortedT (L.map foldX)).length := by rw [sortedT_len, List.length_map, hnl]
  obtain ⟨DS, hDS⟩ : ∃ DS, sortedT (L.map foldX) = DS := ⟨_, rfl⟩
  have HDS := Lib.hid hDS
  have HBD : Hid (bulk DS ≤ 68719476736) := Lib.hid (by
    have h1 := (fold_sorted (L.map foldX) [] List.Pairwise.nil).2
    rw [List.append_nil] at h1
    rw [← hDS, show bulk (sortedT (L.map foldX)) = bulk (L.map foldX) from bulk_perm h1]
    exact HBK.out)
  rw [hDS] at hrow hlen
  obtain ⟨a6, c6, hv6, _, _, _, hrd6⟩ := rdc_own lnC 1 (fun _ => rfl) hlen hrow
  subst hv6
  have HLEN := Lib.hid hlen; have HRD6 := Lib.hid hrd6
  obtain ⟨g1, o1, ha1, hg1, hcl⟩ := at_r HRD.out h0
  subst ha1
  rw [Nat.zero_mul, Nat.add_zero] at hcl
  have HCL := Lib.hid hcl; have HG1 := Lib.hid hg1
  have eg : ∀ args w, (callFunc 53 args).run Tryz.prog w = .ok (.enter 53 args) w := enters_of Tryz.func53 (by kernel_rfl) rfl
  have CC := Lib.hid (containsR.contains_any 53 #[.pointer (some ⟨X + 1, 0, none⟩)] (fun x => x.l != h.l) (some ⟨g1, o1, none⟩) n c L w6 eg HN.out (HRD.out.below HB6.out rfl) (by omega) (fun t ht wx hx => signF.ttl_any t h (X + 1) g1 o1 n c wx (ck hx HBX6.out.set) hpos (ck hx (HCL.out.below HB6.out HG1.out).2.2.2.1)))
  have q1 := HBX6.out.set
  obtain ⟨OT, hOT⟩ : ∃ OT, otherTtl h L = OT := ⟨_, rfl⟩
  rw [show L.any (fun x => x.l != h.l) = OT from hOT] at CC
  have HOT := Lib.hid hOT
  clear hs hrow hnl h0 hlen hrd6 hcl hg1 eg hOT hDS
  trace "4"
  go_wp2_with fail
  refine CC.out.mono ?_
  rintro e w7 ⟨rfl, hB7⟩
  have HBX7 := Lib.hid (HBX6.out.step hB7)
  have HB7 := Lib.hid (HB6.out.trans (hB7.mono HB6.out.size))
  have HB67 := Lib.hid hB7
  clear hB7 q1 CC
  cases hot : OT with
  | true =>
    have HR1 := Lib.hid (HRR.out.symm.trans (sr_ttl HRI.out HNI.out HTM.out HS.out H0.out (by rw [HOT.out, hot])))
    subst hot
    trace "no 8"
    obtain ⟨z0, z1, z2, z3, z4, f0, f1, f2, f3, f4⟩ := HBX7.out.zero
    go_wp2_with fail
    have hOV := over_cells (w := w7) (Y := X + 1 + 1) HBX7.out.z (.string ⟨#[]⟩) (.int .i64 0) (.int .i64 0) (.int .i64 0) (.string ⟨#[]⟩)
    have hOB := over_below (w := w7) (Y := X + 1 + 1) (B := w.heap.size) (by rw [HX.out]; omega) (.string ⟨#[]⟩) (.int .i64 0) (.int .i64 0) (.int .i64 0) (.string ⟨#[]⟩)
    obtain ⟨wf, hwf⟩ : ∃ wf, over w7 (X + 1 + 1) (.string ⟨#[]⟩) (.int .i64 0) (.int .i64 0) (.int .i64 0) (.string ⟨#[]⟩) = wf := ⟨_, rfl⟩
    have hwf' := hwf
    unfold over at hwf'
    rw [hwf'] 
    rw [hwf] at hOV hOB
    obtain ⟨q0, q1, q2, q3, q4⟩ := hOV
    clear hwf hwf'
    refine bodyPost_ret (v := .tuple #[.agg #[.string ⟨#[]⟩, .int .i64 0, .int .i64 0, .int .i64 0, .string ⟨#[]⟩], .int .i64 8]) (by simp [results, Tryz.results14, go_sem, q0, q1, q2, q3, q4]) rfl ⟨by rw [HR1.out]; rfl, HB7.out.trans hOB⟩
  | false =>
  subst hot
  have hoh := HO.out h (List.mem_of_getElem? H0.out)
  obtain ⟨⟨ls, hls⟩, ⟨ht1, ht2⟩, ⟨hl1, hl2⟩, hc1, ⟨hk1, hk2⟩, hzon⟩ := set_first HS.out H0.out
  have CW := Lib.hid (fun wx => nwithin_any h.o sn wx hoh.o hsn)
  rw [nameC.within_same] at CW
  obtain ⟨WI, hWI⟩ : ∃ WI, withinS h.o.data.toList sn.data.toList = WI := ⟨_, rfl⟩
  rw [hWI] at CW
  have HWI := Lib.hid hWI
  have q1 := HBX7.out.set
  obtain ⟨r0, r1, r2, r3, r4⟩ := HCL.out.below HB7.out HG1.out
  have hb8 := (Below.refl w7.heap.size w7).alloc (Nat.le_refl _) (.cells #[.string h.o, .int .i64 h.t, .int .i64 h.c, .int .i64 h.l, .string h.d] 34)
  have hy8 := heap_alloc_new w7 (.cells #[.string h.o, .int .i64 h.t, .int .i64 h.c, .int .i64 h.l, .string h.d] 34)
  obtain ⟨Y, hY⟩ : ∃ Y, w7.heap.size = Y := ⟨_, rfl⟩
  obtain ⟨w8, hw8⟩ : ∃ w8, w7.alloc (.cells #[.string h.o, .int .i64 h.t, .int .i64 h.c, .int .i64 h.l, .string h.d] 34) = w8 := ⟨_, rfl⟩
  rw [hw8] at hb8 hy8
  rw [hY] at hy8
  have HBX8 := Lib.hid (HBX7.out.step hb8)
  have HB8 := Lib.hid (HB7.out.trans (hb8.mono HB7.out.size))
  have HB68 := Lib.hid (HB67.out.trans (hb8.mono HB67.out.size))
  have HY := Lib.hid hY; have HW8 := Lib.hid hw8; have HY8 := Lib.hid hy8
  have y0 : w8.cell? ⟨Y, 0, none⟩ = some (.string h.o) := by simp only [World.cell?, hy8]; rfl
  have zn : (0 : Int) < (n : Int) := by omega
  have zn0 : ¬ n = 0 := by omega
  clear hls hWI hb8 hy8 hY hw8 hc1 hzon
  trace "5"
  go_upto_region 11 with fail
  rw [HW8.out]
  try rw [HY.out]
  clear r0 r1 r2 r3 r4 q1
  go_wp2_with fail
  refine (CW.out _).mono ?_
  rintro e w9 ⟨rfl, hB9⟩
  have HBX9 := Lib.hid (HBX8.out.step hB9)
  have HB9 := Lib.hid (HB8.out.trans (hB9.mono HB8.out.size))
  have HB69 := Lib.hid (HB68.out.trans (hB9.mono HB68.out.size))
  have HY9 := Lib.hid ((hB9.block Y (Array.getElem?_eq_some_iff.1 HY8.out).1).trans HY8.out)
  clear hB9 y0
  cases hwi : WI with
  | false =>
    have HR1 := Lib.hid (HRR.out.symm.trans (sr_out HRI.out HNI.out HTM.out HS.out H0.out HOT.out (by rw [HWI.out, hwi])))
    subst hwi
    trace "no 5"
    obtain ⟨z0, z1, z2, z3, z4, f0, f1, f2, f3, f4⟩ := HBX9.out.zero
    go_wp2_with fail
    have hOV := over_cells (w := w9) (Y := X + 1 + 1) HBX9.out.z (.string ⟨#[]⟩) (.int .i64 0) (.int .i64 0) (.int .i64 0) (.string ⟨#[]⟩)
    have hOB := over_below (w := w9) (Y := X + 1 + 1) (B := w.heap.size) (by rw [HX.out]; omega) (.string ⟨#[]⟩) (.int .i64 0) (.int .i64 0) (.int .i64 0) (.string ⟨#[]⟩)
    obtain ⟨wf, hwf⟩ : ∃ wf, over w9 (X + 1 + 1) (.string ⟨#[]⟩) (.int .i64 0) (.int .i64 0) (.int .i64 0) (.string ⟨#[]⟩) = wf := ⟨_, rfl⟩
    have hwf' := hwf
    unfold over at hwf'
    rw [hwf'] 
    rw [hwf] at hOV hOB
    obtain ⟨q0, q1, q2, q3, q4⟩ := hOV
    clear hwf hwf'
    refine bodyPost_ret (v := .tuple #[.agg #[.string ⟨#[]⟩, .int .i64 0, .int .i64 0, .int .i64 0, .string ⟨#[]⟩], .int .i64 5]) (by simp [results, Tryz.results14, go_sem, q0, q1, q2, q3, q4]) rfl ⟨by rw [HR1.out]; rfl, HB9.out.trans hOB⟩
  | true =>
  have HRY := Lib.hid (HRR.out.symm.trans (sr_yes HRI.out HNI.out HTM.out HS.out H0.out HOT.out (by rw [HWI.out, hwi])))
  subst hwi
  trace "6"
  obtain ⟨hf, hm, he, hsx⟩ := right_facts HRI.out
  have hTM := HTM.out
  obtain ⟨M, rfl⟩ : ∃ M : Nat, km = M := ⟨km.toNat, by omega⟩
  obtain ⟨S, rfl⟩ : ∃ S : Nat, ks = S := ⟨ks.toNat, by omega⟩
  obtain ⟨FR, rfl⟩ : ∃ z : Nat, fr = z := ⟨fr.toNat, by omega⟩
  obtain ⟨UN, rfl⟩ : ∃ z : Nat, un = z := ⟨un.toNat, by omega⟩
  obtain ⟨T, hT⟩ : ∃ z : Nat, h.t = z := ⟨h.t.toNat, by omega⟩
  obtain ⟨TL, hTL⟩ : ∃ z : Nat, h.l = z := ⟨h.l.toNat, by omega⟩
  obtain ⟨CC, hCC⟩ : ∃ z : Nat, lessS h.o.data.toList = z := ⟨(lessS h.o.data.toList).toNat, by omega⟩
  have HT := Lib.hid hT; have HTL := Lib.hid hTL; have HCC := Lib.hid hCC
  have bT : T ≤ 65535 := by omega
  have bTL : TL ≤ 2147483647 := by omega
  have bCC : CC ≤ 254 := by omega
  have bFR : FR ≤ 4294967295 := by omega
  have bUN : UN ≤ 4294967295 := by omega
  have bM1 : 0 < M := by omega
  have bM2 : M ≤ 2147483647 := by omega
  have bS : S < 2147483648 := by omega
  have CCN := Lib.hid (fun wx => sealA.count_any h.o wx hoh.o)
  rw [hCC] at CCN
  have CPU := Lib.hid (fun wx => pub.pub_any kf M ke S wx)
  have hpl := pub_len kf M ke S
  obtain ⟨PB, hPB⟩ : ∃ PB : ByteArray, (⟨(pubS kf M ke S).toArray⟩ : ByteArray) = PB := ⟨_, rfl⟩
  have hPBd : pubS kf M ke S = PB.data.toList := by rw [← hPB]
  rw [hPB] at CPU
  rw [hPBd, size_len] at hpl
  have CTG := Lib.hid (fun wx => tag.ntag_any PB wx (by omega))
  have bTG := tag_lt PB.data.toList
  obtain ⟨TG, hTG⟩ : ∃ TG, tagS PB.data.toList = TG := ⟨_, rfl⟩
  rw [hTG] at CTG bTG
  have CB1 := Lib.hid (fun wx => bytes_any T 2 wx (by omega) (by decide))
  obtain ⟨B1, hB1⟩ : ∃ B : ByteArray, (⟨(bigS T 2).toArray⟩ : ByteArray) = B := ⟨_, rfl⟩
  have sB1 : B1.size ≤ 2 := by rw [← hB1, mk_size, bigS_len]; exact Nat.le_refl _
  rw [hB1] at CB1
  have CB2 := Lib.hid (fun wx => bytes_any CC 1 wx (by omega) (by decide))
  obtain ⟨B2, hB2⟩ : ∃ B : ByteArray, (⟨(bigS CC 1).toArray⟩ : ByteArray) = B := ⟨_, rfl⟩
  have sB2 : B2.size ≤ 1 := by rw [← hB2, mk_size, bigS_len]; exact Nat.le_refl _
  rw [hB2] at CB2
  have CB3 := Lib.hid (fun wx => bytes_any TL 4 wx (by omega) (by decide))
  obtain ⟨B3, hB3⟩ : ∃ B : ByteArray, (⟨(bigS TL 4).toArray⟩ : ByteArray) = B := ⟨_, rfl⟩
  have sB3 : B3.size ≤ 4 := by rw [← hB3, mk_size, bigS_len]; exact Nat.le_refl _
  rw [hB3] at CB3
  have CB4 := Lib.hid (fun wx => bytes_any UN 4 wx (by omega) (by decide))
  obtain ⟨B4, hB4⟩ : ∃ B : ByteArray, (⟨(bigS UN 4).toArray⟩ : ByteArray) = B := ⟨_, rfl⟩
  have sB4 : B4.size ≤ 4 := by rw [← hB4, mk_size, bigS_len]; exact Nat.le_refl _
  rw [hB4] at CB4
  have CB5 := Lib.hid (fun wx => bytes_any FR 4 wx (by omega) (by decide))
  obtain ⟨B5, hB5⟩ : ∃ B : ByteArray, (⟨(bigS FR 4).toArray⟩ : ByteArray) = B := ⟨_, rfl⟩
  have sB5 : B5.size ≤ 4 := by rw [← hB5, mk_size, bigS_len]; exact Nat.le_refl _
  rw [hB5] at CB5
  have CB6 := Lib.hid (fun wx => bytes_any TG 2 wx (by omega) (by decide))
  obtain ⟨B6, hB6⟩ : ∃ B : ByteArray, (⟨(bigS TG 2).toArray⟩ : ByteArray) = B := ⟨_, rfl⟩
  have sB6 : B6.size ≤ 2 := by rw [← hB6, mk_size, bigS_len]; exact Nat.le_refl _
  rw [hB6] at CB6
  obtain ⟨HDB, hHDB⟩ : ∃ HDB : ByteArray, B1 ++ ⟨#[253]⟩ ++ B2 ++ B3 ++ B4 ++ B5 ++ B6 = HDB := ⟨_, rfl⟩
  have HHDB := Lib.hid hHDB
  have HHD : Hid (HDB.data.toList = headS T CC TL UN FR TG) := Lib.hid (by
    rw [← hHDB]
    unfold headS
    rw [← hB1, ← hB2, ← hB3, ← hB4, ← hB5, ← hB6]
    simp only [ByteArray.data_append, Array.toList_append])
  have HSH : Hid (sigHead kf M ke S h FR UN = headS T CC TL UN FR TG) := Lib.hid (by
    unfold sigHead
    rw [HT.out, HTL.out, HCC.out, hPBd, hTG]
    simp only [Int.toNat_natCast])
  have hHs : HDB.size = 18 := by rw [← size_len, HHD.out, head_len]
  have hlab : HDB.data.toList[3]? = some (UInt8.ofNat (CC % 256)) := by rw [HHD.out]; exact head_lab _ _ _ _ _ _
  obtain ⟨k0, k1, k2, k3⟩ := HBX9.out.key
  have y0 : w9.cell? ⟨Y, 0, none⟩ = some (.string h.o) := by simp only [World.cell?, HY9.out]; rfl
  have y1 : w9.cell? ⟨Y, 1, none⟩ = some (.int .i64 (T : Int)) := by rw [← hT]; simp only [World.cell?, HY9.out]; rfl
  have y3 : w9.cell? ⟨Y, 3, none⟩ = some (.int .i64 (TL : Int)) := by rw [← hTL]; simp only [World.cell?, HY9.out]; rfl
  have hS0 : w9.drew.cell? ⟨Y, 0, none⟩ = some (.string h.o) ∧ w9.drew.cell? ⟨Y, 1, none⟩ = some (.int .i64 (T : Int)) ∧ w9.drew.cell? ⟨Y, 3, none⟩ = some (.int .i64 (TL : Int)) ∧ w9.drew.cell? ⟨X, 0, none⟩ = some (.int .i64 kf) ∧ w9.drew.cell? ⟨X, 1, none⟩ = some (.int .i64 (M : Int)) ∧ w9.drew.cell? ⟨X, 2, none⟩ = some (.int .i64 ke) ∧ w9.drew.cell? ⟨X, 3, none⟩ = some (.int .i64 (S : Int)) ∧ Below w9.heap.size w9 w9.drew := ⟨y0, y1, y3, k0, k1, k2, k3, (Below.refl _ _).drew⟩
  have n1 : ¬ 9223372036854775807 < B1.size + 1 := by omega
  have n2 : ¬ 9223372036854775807 < B1.size + 1 + B2.size := by omega
  have n3 : ¬ 9223372036854775807 < B1.size + 1 + B2.size + B3.size := by omega
  have n4 : ¬ 9223372036854775807 < B1.size + 1 + B2.size + B3.size + B4.size := by omega
  have n5 : ¬ 9223372036854775807 < B1.size + 1 + B2.size + B3.size + B4.size + B5.size := by omega
  have n6 : ¬ 9223372036854775807 < B1.size + 1 + B2.size + B3.size + B4.size + B5.size + B6.size := by omega
  clear hT hTL hCC hPB hPBd hTG hB1 hB2 hB3 hB4 hB5 hB6 hHDB y0 y1 y3 k0 k1 k2 k3 hf hm he hsx hTM ht1 ht2 hl1 hl2 hk1 hk2
  trace "7"
  go_upto_region 13 with fail
  go_region_held3 (fun w' => w'.cell? ⟨Y, 0, none⟩ = some (.string h.o) ∧ w'.cell? ⟨Y, 1, none⟩ = some (.int .i64 (T : Int)) ∧ w'.cell? ⟨Y, 3, none⟩ = some (.int .i64 (TL : Int)) ∧ w'.cell? ⟨X, 0, none⟩ = some (.int .i64 kf) ∧ w'.cell? ⟨X, 1, none⟩ = some (.int .i64 (M : Int)) ∧ w'.cell? ⟨X, 2, none⟩ = some (.int .i64 ke) ∧ w'.cell? ⟨X, 3, none⟩ = some (.int .i64 (S : Int)) ∧ Below w9.heap.size w9 w') (first | assumption | (refine ⟨?_, ?_, ?_, ?_, ?_, ?_, ?_, ?_⟩ <;> assumption))
    (first
      | (go_at_call_of 54 (Value.int .i64 (T : Int)); refine (CB1.out _).mono ?_; rintro e w' ⟨rfl, hBz⟩; have hSz := k7 (by assumption) hBz; clear hBz)
      | (go_at_call_of 54 (Value.int .i64 (CC : Int)); refine (CB2.out _).mono ?_; rintro e w' ⟨rfl, hBz⟩; have hSz := k7 (by assumption) hBz; clear hBz)
      | (go_at_call_of 54 (Value.int .i64 (TL : Int)); refine (CB3.out _).mono ?_; rintro e w' ⟨rfl, hBz⟩; have hSz := k7 (by assumption) hBz; clear hBz)
      | (go_at_call_of 54 (Value.int .i64 (UN : Int)); refine (CB4.out _).mono ?_; rintro e w' ⟨rfl, hBz⟩; have hSz := k7 (by assumption) hBz; clear hBz)
      | (go_at_call_of 54 (Value.int .i64 (FR : Int)); refine (CB5.out _).mono ?_; rintro e w' ⟨rfl, hBz⟩; have hSz := k7 (by assumption) hBz; clear hBz)
      | (go_at_call_of 54 (Value.int .i64 (TG : Int)); refine (CB6.out _).mono ?_; rintro e w' ⟨rfl, hBz⟩; have hSz := k7 (by assumption) hBz; clear hBz)
      | (go_at_call 55; refine (CCN.out _).mono ?_; rintro e w' ⟨rfl, hBz⟩; have hSz := k7 (by assumption) hBz; clear hBz)
      | (go_at_call 20; refine (CPU.out _).mono ?_; rintro e w' ⟨rfl, hBz⟩; have hSz := k7 (by assumption) hBz; clear hBz)
      | (go_at_call 56; refine (CTG.out _).mono ?_; rintro e w' ⟨rfl, rfl⟩))
  trace "8"
  rw [HHDB.out]
  obtain ⟨w10, hw10⟩ : ∃ w10, w' = w10 := ⟨_, rfl⟩
  rw [hw10] at hSz ⊢
  have hB10 := hSz.2.2.2.2.2.2.2
  have HBX10 := Lib.hid (HBX9.out.step hB10)
  have HB10 := Lib.hid (HB9.out.trans (hB10.mono HB9.out.size))
  have HB610 := Lib.hid (HB69.out.trans (hB10.mono HB69.out.size))
  have HY10 := Lib.hid ((hB10.block Y (Array.getElem?_eq_some_iff.1 HY9.out).1).trans HY9.out)
  have CFS := Lib.hid (fun wx => nfold_any sn wx hsn)
  have hfs := dfold.fold_short sn.data.toList
  obtain ⟨FS, hFS⟩ : ∃ FS : ByteArray, (⟨(foldS sn.data.toList).toArray⟩ : ByteArray) = FS := ⟨_, rfl⟩
  have hFSd : foldS sn.data.toList = FS.data.toList := by rw [← hFS]
  rw [hFS] at CFS
  rw [hFSd, size_len] at hfs
  have HFS := Lib.hid hFSd
  clear hSz hS0 hB10 hw10 n1 n2 n3 n4 n5 n6 CB1 CB2 CB3 CB4 CB5 CB6 CCN CPU CTG hFS hFSd
  trace "9"
  go_wp2_with fail
  refine (CFS.out _).mono ?_
  rintro e w11 ⟨rfl, hB11⟩
  have HBX11 := Lib.hid (HBX10.out.step hB11)
  have HB11 := Lib.hid (HB10.out.trans (hB11.mono HB10.out.size))
  have HB611 := Lib.hid (HB610.out.trans (hB11.mono HB610.out.size))
  have HY11 := Lib.hid ((hB11.block Y (Array.getElem?_eq_some_iff.1 HY10.out).1).trans HY10.out)
  have hb12 := (Below.refl w11.heap.size w11).alloc (Nat.le_refl _) (.cells #[.string HDB, .string FS, .string ⟨#[]⟩] 93)
  have hz12 := heap_alloc_new w11 (.cells #[.string HDB, .string FS, .string ⟨#[]⟩] 93)
  obtain ⟨Z, hZ⟩ : ∃ Z, w11.heap.size = Z := ⟨_, rfl⟩
  obtain ⟨w12, hw12⟩ : ∃ w12, w11.alloc (.cells #[.string HDB, .string FS, .string ⟨#[]⟩] 93) = w12 := ⟨_, rfl⟩
  rw [hw12] at hb12 hz12
  rw [hZ] at hz12
  have HBX12 := Lib.hid (HBX11.out.step hb12)
  have HB12 := Lib.hid (HB11.out.trans (hb12.mono HB11.out.size))
  have HB612 := Lib.hid (HB611.out.trans (hb12.mono HB611.out.size))
  have HY12 := Lib.hid ((hb12.block Y (Array.getElem?_eq_some_iff.1 HY11.out).1).trans HY11.out)
  have HZ := Lib.hid hZ; have HW12 := Lib.hid hw12; have HZ12 := Lib.hid hz12
  clear hB11 hb12 hz12 hZ hw12 CFS
  trace "10"
  go_upto_region 15 with fail
  rw [HW12.out]
  try rw [HZ.out]
  have bTX : (textS HDB.data.toList FS.data.toList ((UInt8.ofNat (CC % 256)).toNat : Int) h.o.data.toList DS).length ≤ 1099511627776 := by
    unfold textS
    have hbe := body_len (own := ownS ((UInt8.ofNat (CC % 256)).toNat : Int) h.o.data.toList) (t2 := HDB.data.toList.take 2) (ttl := (HDB.data.toList.drop 4).take 4) (own_len _ _) (by rw [List.length_take]; omega) (by rw [List.length_take]; omega) DS
    have h1 := dfold.fold_short FS.data.toList
    have h2 := HBD.out
    have h3 := HLEN.out
    simp only [List.length_append, size_len]
    omega
  have CT := Lib.hid (fun (wx : World) (hB : Below w12.heap.size w12 wx) => sigText.text_any HDB FS ⟨#[]⟩ h.o (UInt8.ofNat (CC % 256)) a6 n c6 DS wx hHs hlab (by omega) hoh.o HLEN.out ((HRD6.out.below HB612.out rfl).below hB rfl) HBD.out hbig)
  obtain ⟨TX, hTX⟩ : ∃ TX : ByteArray, (⟨(textS HDB.data.toList FS.data.toList ((UInt8.ofNat (CC % 256)).toNat : Int) h.o.data.toList DS).toArray⟩ : ByteArray) = TX := ⟨_, rfl⟩
  rw [hTX] at CT
  have hTXd : TX.data.toList = textS HDB.data.toList FS.data.toList ((UInt8.ofNat (CC % 256)).toNat : Int) h.o.data.toList DS := by rw [← hTX]
  have hTXs : TX.size ≤ 1099511627776 := by rw [← size_len, hTXd]; exact bTX
  have CM := Lib.hid (fun wx => fig.mod_any TX M wx hTXs bM1 bM2)
  have hfl := fig_lt bM1 (digestS TX.data.toList) 0 bM1
  obtain ⟨FG, hFG⟩ : ∃ FG, figL M (digestS TX.data.toList) 0 = FG := ⟨_, rfl⟩
  rw [hFG] at CM hfl
  have CPW := Lib.hid (fun wx => pow.power_any FG S M wx bM1 bM2 (by omega) bS)
  have hpw := pow_lt (v := FG) (e := S) bM1
  obtain ⟨PW, hPW⟩ : ∃ PW, powS FG S M = PW := ⟨_, rfl⟩
  rw [hPW] at CPW hpw
  have HPW : Hid (sigNum (headS T CC TL UN FR TG) sn.data.toList h L M S = PW) := Lib.hid (by
    unfold sigNum sigText
    rw [HDS.out, HCC.out, ← hPW, ← hFG, hTXd, HHD.out, HFS.out, lab_one (by omega)])
  clear bTX hTX hTXd hTXs hFG hPW hlab
  have k1 := HBX12.out.key.2.1
  have k3 := HBX12.out.key.2.2.2
  have y0 : w12.cell? ⟨Y, 0, none⟩ = some (.string h.o) := by simp only [World.cell?, HY12.out]; rfl
  have z0 : w12.cell? ⟨Z, 0, none⟩ = some (.string HDB) := by simp only [World.cell?, HZ12.out]; rfl
  have z1 : w12.cell? ⟨Z, 1, none⟩ = some (.string FS) := by simp only [World.cell?, HZ12.out]; rfl
  have z2 : w12.cell? ⟨Z, 2, none⟩ = some (.string ⟨#[]⟩) := by simp only [World.cell?, HZ12.out]; rfl
  have hS0 : w12.drew.cell? ⟨Z, 0, none⟩ = some (.string HDB) ∧ w12.drew.cell? ⟨Z, 1, none⟩ = some (.string FS) ∧ w12.drew.cell? ⟨Z, 2, none⟩ = some (.string ⟨#[]⟩) ∧ w12.drew.cell? ⟨Y, 0, none⟩ = some (.string h.o) ∧ w12.drew.cell? ⟨X, 1, none⟩ = some (.int .i64 (M : Int)) ∧ w12.drew.cell? ⟨X, 3, none⟩ = some (.int .i64 (S : Int)) ∧ Below w12.heap.size w12 w12.drew := ⟨z0, z1, z2, y0, k1, k3, (Below.refl _ _).drew⟩
  clear z0 z1 z2 y0 k1 k3
  trace "11"
  go_region_held3 (fun w' => w'.cell? ⟨Z, 0, none⟩ = some (.string HDB) ∧ w'.cell? ⟨Z, 1, none⟩ = some (.string FS) ∧ w'.cell? ⟨Z, 2, none⟩ = some (.string ⟨#[]⟩) ∧ w'.cell? ⟨Y, 0, none⟩ = some (.string h.o) ∧ w'.cell? ⟨X, 1, none⟩ = some (.int .i64 (M : Int)) ∧ w'.cell? ⟨X, 3, none⟩ = some (.int .i64 (S : Int)) ∧ Below w12.heap.size w12 w') (first | assumption | (refine ⟨?_, ?_, ?_, ?_, ?_, ?_, ?_⟩ <;> assumption))
    (first
      | (go_at_call 60; refine (CT.out _ (‹_ ∧ _ ∧ _ ∧ _ ∧ _ ∧ _ ∧ Below _ _ _›).2.2.2.2.2.2).mono ?_; rintro e w' ⟨rfl, hBz⟩; have hSz := k6 (by assumption) hBz; clear hBz)
      | (go_at_call 59; refine (CM.out _).mono ?_; rintro e w' ⟨rfl, hBz⟩; have hSz := k6 (by assumption) hBz; clear hBz)
      | (go_at_call 58; refine (CPW.out _).mono ?_; rintro e w' ⟨rfl, rfl⟩))
  trace "12"
  obtain ⟨w13, hw13⟩ : ∃ w13, w' = w13 := ⟨_, rfl⟩
  rw [hw13] at hSz ⊢
  have hB13 := hSz.2.2.2.2.2.2
  have HBX13 := Lib.hid (HBX12.out.step hB13)
  have HB13 := Lib.hid (HB12.out.trans (hB13.mono HB12.out.size))
  have HY13 := Lib.hid ((hB13.block Y (Array.getElem?_eq_some_iff.1 HY12.out).1).trans HY12.out)
  have HZ13 := Lib.hid ((hB13.block Z (Array.getElem?_eq_some_iff.1 HZ12.out).1).trans HZ12.out)
  clear hSz hS0 hB13 hw13 CT CM CPW
  have CB4 := Lib.hid (fun wx => bytes_any PW 4 wx (by omega) (by decide))
  obtain ⟨D4, hD4⟩ : ∃ D4 : ByteArray, (⟨(bigS PW 4).toArray⟩ : ByteArray) = D4 := ⟨_, rfl⟩
  have hD4s : D4.size ≤ 4 := by rw [← hD4, mk_size, bigS_len]; exact Nat.le_refl _
  rw [hD4] at CB4
  have HFIN : Hid (RR = yesR h.o (HDB ++ FS ++ D4) (TL : Int)) := Lib.hid (by
    have e1 : (⟨(sigD kf (M : Int) ke (S : Int) sn.data.toList h L (FR : Int) (UN : Int)).toArray⟩ : ByteArray) = HDB ++ FS ++ D4 := by
      apply ba_ext
      rw [mk_data]
      unfold sigD
      simp only [Int.toNat_natCast]
      rw [HSH.out, HPW.out, HFS.out, ← HHD.out, ← hD4]
      simp only [ByteArray.data_append, Array.toList_append]
    rw [HRY.out, HTL.out, e1])
  have hHs2 : HDB.size ≤ 18 := by omega
  have y0 : w13.cell? ⟨Y, 0, none⟩ = some (.string h.o) := by simp only [World.cell?, HY13.out]; rfl
  have y3 : w13.cell? ⟨Y, 3, none⟩ = some (.int .i64 (TL : Int)) := by rw [← HTL.out]; simp only [World.cell?, HY13.out]; rfl
  have z1 : w13.cell? ⟨Z, 1, none⟩ = some (.string FS) := by simp only [World.cell?, HZ13.out]; rfl
  have n1 : ¬ 9223372036854775807 < HDB.size + FS.size := by omega
  have n2 : ¬ 9223372036854775807 < HDB.size + FS.size + D4.size := by omega
  clear hHs hD4
  go_upto_region 16 with fail
  trace "13"
  refine heldG.regionG (fun w' => w'.cell? ⟨Y, 0, none⟩ = some (.string h.o) ∧ w'.cell? ⟨Y, 3, none⟩ = some (.int .i64 (TL : Int)) ∧ w'.cell? ⟨Z, 1, none⟩ = some (.string FS) ∧ Below w13.heap.size w13 w') (fun i => i == 12 || i == 13) (by kernel_rfl) ?_
  have hS0 := k3 (W := w13) ⟨y0, y3, z1, Below.refl _ _⟩ (Below.refl _ _).drew
  clear y0 y3 z1
  refine isSet.takeD (i := 0) (d := 101) (v := .pointer (some ⟨Y, 0, none⟩)) rfl rfl (by kernel_rfl) (by kernel_rfl) (by kernel_rfl) (fun _ _ _ h => h) (by kernel_rfl) rfl (Or.inl ⟨by kernel_rfl, ?_⟩) hS0 ?_
  · intro wz hSw
    obtain ⟨s0, s1, s2, s3⟩ := hSw
    go_simp
  try simp only [Act.put, List.setIfInBounds_toArray, List.set_cons_zero, List.set_cons_succ]
  refine isSet.takeD (i := 1) (d := 102) (v := .string h.o) rfl rfl (by kernel_rfl) (by kernel_rfl) (by kernel_rfl) (fun _ _ _ h => h) (by kernel_rfl) rfl (Or.inl ⟨by kernel_rfl, ?_⟩) hS0 ?_
  · intro wz hSw
    obtain ⟨s0, s1, s2, s3⟩ := hSw
    go_simp
  try simp only [Act.put, List.setIfInBounds_toArray, List.set_cons_zero, List.set_cons_succ]
  refine isSet.takeD (i := 2) (d := 103) (v := .pointer (some ⟨Y, 3, none⟩)) rfl rfl (by kernel_rfl) (by kernel_rfl) (by kernel_rfl) (fun _ _ _ h => h) (by kernel_rfl) rfl (Or.inl ⟨by kernel_rfl, ?_⟩) hS0 ?_
  · intro wz hSw
    obtain ⟨s0, s1, s2, s3⟩ := hSw
    go_simp
  try simp only [Act.put, List.setIfInBounds_toArray, List.set_cons_zero, List.set_cons_succ]
  refine isSet.takeD (i := 3) (d := 104) (v := .int .i64 (TL : Int)) rfl rfl (by kernel_rfl) (by kernel_rfl) (by kernel_rfl) (fun _ _ _ h => h) (by kernel_rfl) rfl (Or.inl ⟨by kernel_rfl, ?_⟩) hS0 ?_
  · intro wz hSw
    obtain ⟨s0, s1, s2, s3⟩ := hSw
    go_simp
  try simp only [Act.put, List.setIfInBounds_toArray, List.set_cons_zero, List.set_cons_succ]
  refine isSet.takeD (i := 4) (d := 105) (v := .string HDB) rfl rfl (by kernel_rfl) (by kernel_rfl) (by kernel_rfl) (fun _ _ _ h => h) (by kernel_rfl) rfl (Or.inl ⟨by kernel_rfl, ?_⟩) hS0 ?_
  · intro wz hSw
    obtain ⟨s0, s1, s2, s3⟩ := hSw
    go_simp
  try simp only [Act.put, List.setIfInBounds_toArray, List.set_cons_zero, List.set_cons_succ]
  refine isSet.takeD (i := 5) (d := 106) (v := .pointer (some ⟨Z, 1, none⟩)) rfl rfl (by kernel_rfl) (by kernel_rfl) (by kernel_rfl) (fun _ _ _ h => h) (by kernel_rfl) rfl (Or.inl ⟨by kernel_rfl, ?_⟩) hS0 ?_
  · intro wz hSw
    obtain ⟨s0, s1, s2, s3⟩ := hSw
    go_simp
  try simp only [Act.put, List.setIfInBounds_toArray, List.set_cons_zero, List.set_cons_succ]
  refine isSet.takeD (i := 6) (d := 107) (v := .string FS) rfl rfl (by kernel_rfl) (by kernel_rfl) (by kernel_rfl) (fun _ _ _ h => h) (by kernel_rfl) rfl (Or.inl ⟨by kernel_rfl, ?_⟩) hS0 ?_
  · intro wz hSw
    obtain ⟨s0, s1, s2, s3⟩ := hSw
    go_simp
  try simp only [Act.put, List.setIfInBounds_toArray, List.set_cons_zero, List.set_cons_succ]
  refine isSet.takeD (i := 7) (d := 108) (v := .string (HDB ++ FS)) rfl rfl (by kernel_rfl) (by kernel_rfl) (by kernel_rfl) (fun _ _ _ h => h) (by kernel_rfl) rfl (Or.inl ⟨by kernel_rfl, ?_⟩) hS0 ?_
  · intro wz hSw
    obtain ⟨s0, s1, s2, s3⟩ := hSw
    go_simp
  try simp only [Act.put, List.setIfInBounds_toArray, List.set_cons_zero, List.set_cons_succ]
  refine isSet.takeD (i := 8) (d := 109) (v := .int .i64 (PW : Int)) rfl rfl (by kernel_rfl) (by kernel_rfl) (by kernel_rfl) (fun _ _ _ h => h) (by kernel_rfl) rfl (Or.inl ⟨by kernel_rfl, ?_⟩) hS0 ?_
  · intro wz hSw
    obtain ⟨s0, s1, s2, s3⟩ := hSw
    go_simp
  try simp only [Act.put, List.setIfInBounds_toArray, List.set_cons_zero, List.set_cons_succ]
  refine heldG.readyG (rs := [9]) (by kernel_rfl) (by simp) ?_
  refine heldG.AllG.cons rfl (fun KK hKK => ?_) heldG.AllG.nil
  go_simp
  refine (CB4.out _).mono ?_
  rintro en w14 ⟨rfl, hBz⟩
  have hS1 := k3 hS0 hBz
  dsimp only
  refine hKK.out _ _ (fun _ => hS1) ?_; clear hKK KK hBz
  try simp only [Act.put, List.setIfInBounds_toArray, List.set_cons_zero, List.set_cons_succ]
  refine isSet.takeD (i := 10) (d := 111) (v := .string (HDB ++ FS ++ D4)) rfl rfl (by kernel_rfl) (by kernel_rfl) (by kernel_rfl) (fun _ _ _ h => h) (by kernel_rfl) rfl (Or.inl ⟨by kernel_rfl, ?_⟩) hS1 ?_
  · intro wz hSw
    obtain ⟨s0, s1, s2, s3⟩ := hSw
    go_simp
  try simp only [Act.put, List.setIfInBounds_toArray, List.set_cons_zero, List.set_cons_succ]
  refine isSet.takeD (i := 11) (d := 112) (v := .agg #[.string h.o, .int .i64 46, .int .i64 1, .int .i64 (TL : Int), .string (HDB ++ FS ++ D4)]) rfl rfl (by kernel_rfl) (by kernel_rfl) (by kernel_rfl) (fun _ _ _ h => h) (by kernel_rfl) rfl (Or.inl ⟨by kernel_rfl, ?_⟩) hS1 ?_
  · intro wz hSw
    obtain ⟨s0, s1, s2, s3⟩ := hSw
    go_simp
  try simp only [Act.put, List.setIfInBounds_toArray, List.set_cons_zero, List.set_cons_succ]
  have HBX14 := Lib.hid (HBX13.out.step hS1.2.2.2)
  have HB14 := Lib.hid (HB13.out.trans (hS1.2.2.2.mono HB13.out.size))
  obtain ⟨z0, z1, z2, z3, z4, f0, f1, f2, f3, f4⟩ := HBX14.out.zero
  clear hS0 hS1
  trace "14"
  refine heldG.readyG (rs := [12]) (by kernel_rfl) (by simp) ?_
  refine heldG.AllG.cons rfl (fun KK hKK => ?_) heldG.AllG.nil
  go_simp
  refine hKK.out _ _ (fun h => by cases h) ?_; clear hKK KK
  try simp only [Act.put, List.setIfInBounds_toArray, List.set_cons_zero, List.set_cons_succ]
  refine heldG.readyG (rs := [13]) (by kernel_rfl) (by simp) ?_
  refine heldG.AllG.cons rfl (fun KK hKK => ?_) heldG.AllG.nil
  go_simp
  refine hKK.out _ _ (fun h => by cases h) ?_; clear hKK KK
  try simp only [Act.put, List.setIfInBounds_toArray, List.set_cons_zero, List.set_cons_succ]
  refine heldG.doneG (by kernel_rfl) ?_ _
  trace "15"
  go_wp2_with fail
  have hOV := over_cells (w := w14) (Y := X + 1 + 1) HBX14.out.z (.string h.o) (.int .i64 46) (.int .i64 1) (.int .i64 (TL : Int)) (.string (HDB ++ FS ++ D4))
  have hOB := over_below (w := w14) (Y := X + 1 + 1) (B := w.heap.size) (by rw [HX.out]; omega) (.string h.o) (.int .i64 46) (.int .i64 1) (.int .i64 (TL : Int)) (.string (HDB ++ FS ++ D4))
  obtain ⟨wf, hwf⟩ : ∃ wf, over w14 (X + 1 + 1) (.string h.o) (.int .i64 46) (.int .i64 1) (.int .i64 (TL : Int)) (.string (HDB ++ FS ++ D4)) = wf := ⟨_, rfl⟩
  have hwf' := hwf
  unfold over at hwf'
  rw [hwf'] 
  rw [hwf] at hOV hOB
  obtain ⟨q0, q1, q2, q3, q4⟩ := hOV
  clear hwf hwf'
  refine bodyPost_ret (v := .tuple #[.agg #[.string h.o, .int .i64 46, .int .i64 1, .int .i64 (TL : Int), .string (HDB ++ FS ++ D4)], .int .i64 0]) (by simp [results, Tryz.results14, go_sem, q0, q1, q2, q3, q4]) rfl ⟨by rw [HFIN.out]; rfl, HB14.out.trans hOB⟩
end Go.Proofs.YtflijhodlimjoaaGreat.sign

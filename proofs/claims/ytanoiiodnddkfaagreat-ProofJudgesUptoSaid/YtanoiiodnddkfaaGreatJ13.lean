/- Digests: gazetteerref4.half, Digest; seal's sum.add: walks. seal.Digest: walk. seal.Hash, gazetteerref4.Hash, the law SealDigests: walks. The fields of data: plain. Bytes as a number: seal.number, gazetteerref1.Value: walks. Base 2^n back: plain. name.Check of a text of any size: walk. -/
import Derived.Test.YtanoiiodnddkfaaGreatJ12
import Derived.Test.YtanoiiodnddkfaaGreatJ8
import Derived.Test.YtanoiiodnddkfaaGreatJ4
import Derived.Test.YtanoiiodnddkfaaGreatJ2
import Derived.Test.YtanoiiodnddkfaaGreatJ9
import Derived.Test.YtanoiiodnddkfaaGreatJ3
import Derived.BigRegion
namespace Go.Proofs.YtanoiiodnddkfaaGreat.half
open Go.RowKit Go.Proofs.YtanoiiodnddkfaaGreat.kit Go.Proofs.YtanoiiodnddkfaaGreat.bld Go.Proofs.YtanoiiodnddkfaaGreat.big
set_option linter.unusedVariables false

def halfL (t p : Nat) : List UInt8 → Nat → Nat
  | [], h => h
  | c :: r, h => halfL t p r ((h * t + c.toNat + 1) % p)
theorem halfL_lt (t p : Nat) (hp : 1 ≤ p) : ∀ (l : List UInt8) (h : Nat), h < p → halfL t p l h < p
  | [], h, hh => hh
  | c :: r, h, hh => halfL_lt t p hp r _ (Nat.mod_lt _ hp)
def p1 : Nat := 1099511627689
def p2 : Nat := 1099511627563
def digestS (l : List UInt8) : List UInt8 := bigS (halfL 1000003 p1 l 1) 5 ++ bigS (halfL 999983 p2 l 1) 5
theorem digest_len (l : List UInt8) : (digestS l).length = 10 := by unfold digestS; rw [List.length_append, bigS_len, bigS_len]
theorem mul_le {h t p : Nat} (hh : h < p) (hp : p ≤ 1099511627776) (ht : t ≤ 1048576) : h * t ≤ 1152921504606846976 := by
  have h1 := Nat.mul_le_mul (show h ≤ 1099511627776 by omega) ht
  exact Nat.le_trans h1 (by decide)

set_option maxRecDepth 100000 in
set_option maxHeartbeats 1000000 in
theorem half_any (s : ByteArray) (t p : Nat) (w : World) (hs : s.size ≤ 1099511627776) (ht : t ≤ 1048576) (hp2 : 2 ≤ p) (hp : p ≤ 1099511627776) :
    Calls Tryz.prog 108 #[.string s, .int .i64 (t : Int), .int .i64 (p : Int)] w fun e w' => e = .returned (.int .i64 ((halfL t p s.data.toList 1 : Nat) : Int)) ∧ w = w' := by
  obtain ⟨R, HR⟩ : ∃ R, Hid (halfL t p (s.data.toList.drop 0) 1 = R) := ⟨_, Lib.hid rfl⟩
  rw [show s.data.toList = s.data.toList.drop 0 from rfl, HR.out]
  go_enter Tryz.func108, Tryz.ntmps108
  go_wp2
  go_loopg [7, 8] (s.size + 1) (fun gas hv kv wr => ∃ (k h : Nat), kv = .int .i64 k ∧ hv = .int .i64 h ∧ k ≤ s.size ∧ k + gas = s.size + 1 ∧ h < p ∧ Hid (halfL t p (s.data.toList.drop k) h = R) ∧ w = wr)
  case atStart => exact ⟨0, 1, rfl, rfl, by omega, by omega, by omega, HR, rfl⟩
  case round =>
    obtain ⟨k, h, rfl, rfl, hk, hkg, hh, HW, rfl⟩ := hrel
    have HK := Lib.hid hkg; clear hkg
    by_cases hlt : k < s.size
    · obtain ⟨c, hc⟩ : ∃ c, s[k] = c := ⟨_, rfl⟩
      have hc256 := byte_lt c
      obtain ⟨M, hM⟩ : ∃ M, h * t = M := ⟨_, rfl⟩
      have hM2 : M ≤ 1152921504606846976 := by rw [← hM]; exact mul_le hh hp ht
      obtain ⟨S, hS⟩ : ∃ S, M + c.toNat + 1 = S := ⟨_, rfl⟩
      obtain ⟨H, hH⟩ : ∃ H, S % p = H := ⟨_, rfl⟩
      have hHp : H < p := by rw [← hH]; exact Nat.mod_lt _ (by omega)
      have HW2 : Hid (halfL t p (s.data.toList.drop (k + 1)) H = R) := Lib.hid (by
        rw [← HW.out, drop_cons s k hlt, hc, halfL, hM, hS, hH])
      have e1 : Value.int .i64 (wrap64 ((h : Int) * (t : Int))) = Value.int .i64 (M : Int) := by
        have e : (h : Int) * (t : Int) = (M : Int) := by rw [← hM]; simp
        rw [e, IntWalk.wrap64_in _ (by omega)]
      have e2 : Value.int .i64 ((M : Int) + (c.toNat : Int) + 1) = Value.int .i64 (S : Int) := by congr 1; omega
      have e3 : Value.int .i64 ((S : Int) % (p : Int)) = Value.int .i64 (H : Int) := by congr 1; rw [← hH]; simp
      clear hM hS hH
      go_wp2
      have hkg := HK.out
      go_roundg (gk - 1)
      case rel => exact ⟨k + 1, _, by go_num, (by first | exact e3 | rfl), by omega, by omega, hHp, HW2, rfl⟩
      case measure => omega
    · have HN := HW.out
      rw [drop_end s k (by omega)] at HN
      have HE : Hid (h = R) := Lib.hid HN
      clear HN
      go_wp2
      go_ret
      exact ⟨by rw [HE.out]; rfl, rfl⟩

set_option maxRecDepth 100000 in
set_option maxHeartbeats 1000000 in
theorem rdigest_any (s : ByteArray) (w : World) (hs : s.size ≤ 1099511627776) :
    Calls Tryz.prog 87 #[.string s] w fun e w' => e = .returned (.string ⟨(digestS s.data.toList).toArray⟩) ∧ Below w.heap.size w w' := by
  obtain ⟨D1, hD1⟩ : ∃ D : ByteArray, (⟨(bigS (halfL 1000003 p1 s.data.toList 1) 5).toArray⟩ : ByteArray) = D := ⟨_, rfl⟩
  obtain ⟨D2, hD2⟩ : ∃ D : ByteArray, (⟨(bigS (halfL 999983 p2 s.data.toList 1) 5).toArray⟩ : ByteArray) = D := ⟨_, rfl⟩
  have hs1 : D1.size ≤ 5 := by rw [← hD1, mk_size, bigS_len]; exact Nat.le_refl 5
  have hs2 : D2.size ≤ 5 := by rw [← hD2, mk_size, bigS_len]; exact Nat.le_refl 5
  have HE : Hid ((⟨(digestS s.data.toList).toArray⟩ : ByteArray) = D1 ++ D2) := Lib.hid (by rw [← hD1, ← hD2]; exact ba_ext (by simp [digestS]))
  rw [HE.out]
  have h1 := halfL_lt 1000003 p1 (by decide) s.data.toList 1 (by decide)
  have h2 := halfL_lt 999983 p2 (by decide) s.data.toList 1 (by decide)
  have hb1 : halfL 1000003 p1 s.data.toList 1 ≤ 4611686018427387904 := Nat.le_trans (Nat.le_of_lt h1) (by decide)
  have hb2 : halfL 999983 p2 s.data.toList 1 ≤ 4611686018427387904 := Nat.le_trans (Nat.le_of_lt h2) (by decide)
  clear h1 h2
  have C1 := Lib.hid (fun w => half_any s 1000003 p1 w hs (by decide) (by decide) (by decide))
  have C2 := Lib.hid (fun w => half_any s 999983 p2 w hs (by decide) (by decide) (by decide))
  have B1 := Lib.hid (fun w => rbytes_any 5 (halfL 1000003 p1 s.data.toList 1) w hb1 (by decide))
  have B2 := Lib.hid (fun w => rbytes_any 5 (halfL 999983 p2 s.data.toList 1) w hb2 (by decide))
  rw [hD1] at B1
  rw [hD2] at B2
  clear hD1 hD2 hb1 hb2
  go_enter Tryz.func87, Tryz.ntmps87
  go_wp2_with fail
  refine (C1.out _).mono ?_
  rintro e w1 ⟨rfl, rfl⟩
  go_wp2_with fail
  refine (B1.out _).mono ?_
  rintro e w1 ⟨rfl, hB1⟩
  go_wp2_with fail
  refine (C2.out _).mono ?_
  rintro e w2 ⟨rfl, rfl⟩
  go_wp2_with fail
  refine (B2.out _).mono ?_
  rintro e w2 ⟨rfl, hB2⟩
  go_wp2
  go_ret
  exact ⟨rfl, hB1.trans (hB2.mono hB1.size)⟩

set_option maxRecDepth 100000 in
set_option maxHeartbeats 1000000 in
theorem add_any (g o : Nat) (h t p : Nat) (c : UInt8) (w : World) (c0 : w.cell? ⟨g, o, none⟩ = some (.int .i64 (h : Int))) (c1 : w.cell? ⟨g, o + 1, none⟩ = some (.int .i64 (t : Int))) (c2 : w.cell? ⟨g, o + 2, none⟩ = some (.int .i64 (p : Int)))
    (f0 : w.frozen? ⟨g, o, none⟩ = false) (hh : h < p) (ht : t ≤ 1048576) (hp2 : 2 ≤ p) (hp : p ≤ 1099511627776) :
    Calls Tryz.prog 118 #[.pointer (some ⟨g, o, none⟩), .int .u8 (c.toNat : Int)] w fun e w' => e = .returned (.tuple #[]) ∧ w' = (w.setCell ⟨g, o, none⟩ (.int .i64 (((h * t + c.toNat + 1) % p : Nat) : Int))).drew := by
  have hc256 := byte_lt c
  obtain ⟨M, hM⟩ : ∃ M, h * t = M := ⟨_, rfl⟩
  have hM2 : M ≤ 1152921504606846976 := by rw [← hM]; exact mul_le hh hp ht
  obtain ⟨S, hS⟩ : ∃ S, M + c.toNat + 1 = S := ⟨_, rfl⟩
  obtain ⟨H, hH⟩ : ∃ H, S % p = H := ⟨_, rfl⟩
  rw [hM, hS, hH]
  have HX : Hid ((wrap64 (wrap64 (wrap64 ((h : Int) * (t : Int)) + (c.toNat : Int)) + 1)).tmod (p : Int) = (H : Int)) := Lib.hid (by
    have e : (h : Int) * (t : Int) = (M : Int) := by rw [← hM]; simp
    rw [e, IntWalk.wrap64_in (M : Int) (by omega), IntWalk.wrap64_in ((M : Int) + (c.toNat : Int)) (by omega), IntWalk.wrap64_in ((M : Int) + (c.toNat : Int) + 1) (by omega), Int.tmod_eq_emod_of_nonneg (by omega)]
    rw [show (M : Int) + (c.toNat : Int) + 1 = (S : Int) by omega, ← hH]; simp)
  have hp1i : (1 : Int) ≤ (p : Int) := by omega
  clear hM hS hH
  go_enter Tryz.func118, Tryz.ntmps118
  go_wp2_with fail
  go_region
  go_end0
  refine ⟨rfl, ?_⟩
  rw [HX.out]
end Go.Proofs.YtanoiiodnddkfaaGreat.half
namespace Go.Proofs.YtanoiiodnddkfaaGreat.digest
open Go.RowKit Go.Proofs.YtanoiiodnddkfaaGreat.kit Go.Proofs.YtanoiiodnddkfaaGreat.bld Go.Proofs.YtanoiiodnddkfaaGreat.big Go.Proofs.YtanoiiodnddkfaaGreat.half Go.Proofs.YtanoiiodnddkfaaGreat.reader
set_option linter.unusedVariables false

theorem bld_setlow {B b g i : Nat} {u : Value} {l : List UInt8} {w : World} (h : Bld B b l w) (hg : g < B) : Bld B b l (w.setCell ⟨g, i, none⟩ u) := by
  have key : ∀ p, Lib.BuilderAt 116 5 B b p (Lib.byteCells l) w → Lib.BuilderAt 116 5 B b p (Lib.byteCells l) (w.setCell ⟨g, i, none⟩ u) := by
    intro p h
    obtain ⟨h1, v, h2, h3, h4⟩ := h
    refine ⟨h1, v, (Below.heap_setCell w ⟨g, i, none⟩ u b (by show b ≠ g; omega)).trans h2, ⟨h3.1, h3.2.imp id ?_⟩, h4⟩
    rintro ⟨g', cap, cur, a1, a2, a3, a4⟩
    exact ⟨g', cap, cur, a1, a2, (Below.heap_setCell w ⟨g, i, none⟩ u g' (by show g' ≠ g; omega)).trans a3, a4⟩
  rcases h with h | h
  · exact .inl (key _ h)
  · exact .inr (key _ h)
theorem bld_lt {B b : Nat} {l : List UInt8} {w : World} (h : Bld B b l w) : b < w.heap.size := by
  rcases h with h | h
  · exact h.lt
  · exact h.lt
theorem bld_drew {B b : Nat} {l : List UInt8} {w : World} (h : Bld B b l w) : Bld B b l w.drew := h
def Hv (w : World) (g x0 x1 : Nat) : Prop := w.heap[g]? = some (.cells #[.int .i64 (x0 : Int), .int .i64 1000003, .int .i64 1099511627689, .int .i64 (x1 : Int), .int .i64 999983, .int .i64 1099511627563] 147 (0, 0))
theorem Hv.c (w : World) (g x0 x1 : Nat) (h : Hv w g x0 x1) : w.cell? ⟨g, 0, none⟩ = some (.int .i64 (x0 : Int)) ∧ w.cell? ⟨g, 1, none⟩ = some (.int .i64 1000003) ∧ w.cell? ⟨g, 2, none⟩ = some (.int .i64 1099511627689) ∧ w.cell? ⟨g, 3, none⟩ = some (.int .i64 (x1 : Int)) ∧ w.cell? ⟨g, 4, none⟩ = some (.int .i64 999983) ∧ w.cell? ⟨g, 5, none⟩ = some (.int .i64 1099511627563) ∧ w.frozen? ⟨g, 0, none⟩ = false ∧ w.frozen? ⟨g, 3, none⟩ = false :=
  ⟨by rw [Lib.cell_of_heap h]; rfl, by rw [Lib.cell_of_heap h]; rfl, by rw [Lib.cell_of_heap h]; rfl, by rw [Lib.cell_of_heap h]; rfl, by rw [Lib.cell_of_heap h]; rfl, by rw [Lib.cell_of_heap h]; rfl, Lib.frozen_of_heap h 0, Lib.frozen_of_heap h 3⟩
theorem Hv.set0 {w : World} {g x0 x1 : Nat} (h : Hv w g x0 x1) (y : Nat) : Hv (w.setCell ⟨g, 0, none⟩ (.int .i64 (y : Int))).drew g y x1 := heap_set h 0 _
theorem Hv.set3 {w : World} {g x0 x1 : Nat} (h : Hv w g x0 x1) (y : Nat) : Hv (w.setCell ⟨g, 3, none⟩ (.int .i64 (y : Int))).drew g x0 y := heap_set h 3 _
theorem Hv.below {w w' : World} {g x0 x1 B : Nat} (h : Hv w g x0 x1) (hB : Below B w w') (hg : g < B) : Hv w' g x0 x1 := (hB.block g hg).trans h

def outK (l : List UInt8) : Nat → List UInt8
  | 0 => []
  | 1 => bigS (halfL 1000003 p1 l 1) 5
  | _ => digestS l

set_option maxRecDepth 100000 in
set_option maxHeartbeats 4000000 in
theorem ndigest_any (s : ByteArray) (w : World) (hs : s.size ≤ 1099511627776) :
    Calls Tryz.prog 110 #[.string s] w fun e w' => e = .returned (.string ⟨(digestS s.data.toList).toArray⟩) ∧ Below w.heap.size w w' := by
  have hfb := Lib.fresh_isBuilder 116 5 (w.alloc (.cells #[.int .i64 1, .int .i64 1000003, .int .i64 1099511627689, .int .i64 1, .int .i64 999983, .int .i64 1099511627563] 147))
  have hBa := ((Below.refl w.heap.size w).alloc (Nat.le_refl _) (.cells #[.int .i64 1, .int .i64 1000003, .int .i64 1099511627689, .int .i64 1, .int .i64 999983, .int .i64 1099511627563] 147)).alloc (by rw [World.size_alloc]; omega) (.cells #[.pointer none, .slice none 0 0] 116)
  have HFB := Lib.hid hfb; clear hfb
  have HBA := Lib.hid hBa; clear hBa
  go_enter Tryz.func110, Tryz.ntmps110
  go_wp2
  obtain ⟨w2, hw2⟩ : ∃ w2, (w.alloc (.cells #[.int .i64 1, .int .i64 1000003, .int .i64 1099511627689, .int .i64 1, .int .i64 999983, .int .i64 1099511627563] 147)).alloc (.cells #[.pointer none, .slice none 0 0] 116) = w2 := ⟨_, rfl⟩
  have hv0 : Hv w2 w.heap.size 1 1 := by
    rw [← hw2]
    have h1 : ((w.alloc (.cells #[.int .i64 1, .int .i64 1000003, .int .i64 1099511627689, .int .i64 1, .int .i64 999983, .int .i64 1099511627563] 147)).alloc (.cells #[.pointer none, .slice none 0 0] 116)).heap[w.heap.size]? = (w.alloc (.cells #[.int .i64 1, .int .i64 1000003, .int .i64 1099511627689, .int .i64 1, .int .i64 999983, .int .i64 1099511627563] 147)).heap[w.heap.size]? := Lib.alloc_old _ _ _ (by rw [World.size_alloc]; omega)
    exact h1.trans (heap_alloc_new w _)
  have hbl0 : Bld (w.heap.size + 1) (w.heap.size + 1) [] w2 := by
    rw [← hw2]
    have h1 := HFB.out
    rw [World.size_alloc] at h1
    exact h1
  have hB0 : Below w.heap.size w w2 := by rw [← hw2]; exact HBA.out
  rw [hw2]
  clear hw2 HFB HBA
  go_loopg [5, 6, 7, 11] 3 (fun gas _ _ _ kv wr => ∃ (k x0 x1 : Nat), kv = .int .i64 k ∧ k ≤ 2 ∧ k + gas = 3 ∧ (k = 0 → x0 = 1) ∧ (k ≤ 1 → x1 = 1) ∧ Hv wr w.heap.size x0 x1 ∧ Bld (w.heap.size + 1) (w.heap.size + 1) (outK s.data.toList k) wr ∧ Below w.heap.size w wr)
  case atStart => exact ⟨0, 1, 1, rfl, by omega, by omega, fun _ => rfl, fun _ => rfl, hv0, hbl0, hB0⟩
  case round =>
    clear hv0 hbl0 hB0
    obtain ⟨k, x0, x1, rfl, hk, hkg, q0, q1, hv, hbl, hB⟩ := hrel
    obtain ⟨gk', hgk'⟩ : ∃ g, g = gk := ⟨_, rfl⟩
    rw [← hgk'] at hkg
    have HK := Lib.hid hkg; clear hkg
    match k, hk, HK, q0, q1, hbl with
    | 0, hk, HK, q0, q1, hbl =>
      obtain rfl := q0 rfl
      obtain rfl := q1 (by omega)
      clear q0 q1
      obtain ⟨F, hF⟩ : ∃ F, halfL 1000003 p1 s.data.toList 1 = F := ⟨_, rfl⟩
      have hFp : F < p1 := by rw [← hF]; exact halfL_lt 1000003 p1 (by decide) _ 1 (by decide)
      have HF := Lib.hid hF; clear hF
      have HF0 : Hid (halfL 1000003 p1 (s.data.toList.drop 0) 1 = F) := HF
      have hF4 : F ≤ 4611686018427387904 := Nat.le_trans (Nat.le_of_lt hFp) (by decide)
      obtain ⟨c0, c1, c2, c3, c4, c5, f0, f3⟩ := Hv.c _ _ _ _ hv
      clear c0 c1 c2 c3 c4 c5 f0 f3
      go_wp2
      go_loopg [7, 19] (s.size + 1) (fun gas _ jv wq => ∃ (j h : Nat), jv = .int .i64 j ∧ j ≤ s.size ∧ j + gas = s.size + 1 ∧ h < p1 ∧ Hid (halfL 1000003 p1 (s.data.toList.drop j) h = F) ∧ Hid (Hv wq w.heap.size h 1) ∧ Hid (Bld (w.heap.size + 1) (w.heap.size + 1) (outK s.data.toList 0) wq) ∧ Below w.heap.size w wq)
      case atStart => exact ⟨0, 1, rfl, by omega, by omega, by decide, HF0, Lib.hid hv, Lib.hid hbl, hB⟩
      case round =>
        clear hv hbl hB
        obtain ⟨j, h, rfl, hj, hjg, hhp, HW, HV, HB, hB⟩ := hrel
        have HJ := Lib.hid hjg; clear hjg
        by_cases hlt : j < s.size
        · obtain ⟨c, hc⟩ : ∃ c, s[j] = c := ⟨_, rfl⟩
          have hc256 := byte_lt c
          obtain ⟨c0, c1, c2, c3, c4, c5, f0, f3⟩ := Hv.c _ _ _ _ HV.out
          have HADD := Lib.hid (add_any w.heap.size 0 h 1000003 p1 c wr c0 c1 c2 f0 hhp (by decide) (by decide) (by decide))
          obtain ⟨h', hh'⟩ : ∃ h', (h * 1000003 + c.toNat + 1) % p1 = h' := ⟨_, rfl⟩
          rw [hh'] at HADD
          have hhp' : h' < p1 := by rw [← hh']; exact Nat.mod_lt _ (by decide)
          have HW2 : Hid (halfL 1000003 p1 (s.data.toList.drop (j + 1)) h' = F) := Lib.hid (by rw [← HW.out, drop_cons s j hlt, hc, halfL, hh'])
          have HV2 := Lib.hid (HV.out.set0 h')
          have HB2 : Hid (Bld (w.heap.size + 1) (w.heap.size + 1) (outK s.data.toList 0) (wr.setCell ⟨w.heap.size, 0, none⟩ (.int .i64 (h' : Int))).drew) := Lib.hid (bld_drew (bld_setlow HB.out (by omega)))
          have hB2 := (hB.setCell (p := ⟨w.heap.size, 0, none⟩) (Nat.le_refl _) (.int .i64 (h' : Int))).drew
          clear c0 c1 c2 c3 c4 c5 f0 f3 hh'
          go_wp2_with fail
          refine HADD.out.mono ?_
          rintro e wz ⟨rfl, rfl⟩
          go_wp2
          have hjg := HJ.out
          go_roundg (gk - 1)
          case rel => exact ⟨j + 1, h', by go_num, by omega, by omega, hhp', HW2, HV2, HB2, hB2⟩
          case measure => omega
        · have HN := HW.out
          rw [drop_end s j (by omega)] at HN
          have hhF : h = F := HN
          subst hhF
          obtain ⟨c0, c1, c2, c3, c4, c5, f0, f3⟩ := Hv.c _ _ _ _ HV.out
          have hsz := hB.size
          have HBY := Lib.hid (bytes_any h 5 wr hF4 (by decide))
          obtain ⟨D, hD⟩ : ∃ D : ByteArray, (⟨(bigS h 5).toArray⟩ : ByteArray) = D := ⟨_, rfl⟩
          have hDd : D.data.toList = bigS h 5 := by rw [← hD]
          have hDs : D.size ≤ 5 := by rw [← size_len, hDd, bigS_len]; exact Nat.le_refl 5
          rw [hD] at HBY
          have HDD : Hid (outK s.data.toList 0 ++ D.data.toList = outK s.data.toList 1) := Lib.hid (by rw [hDd, ← HF.out]; rfl)
          have hlt2 := bld_lt HB.out
          clear HN hD hDd c1 c2 c4 c5 f0 f3 c3
          go_wp2_with fail
          refine HBY.out.mono ?_
          rintro e w3 ⟨rfl, hB3⟩
          have hb3 := bld_below HB.out hB3
          have hv3 := HV.out.below hB3 (by omega)
          have hBx := hB.trans (hB3.mono hsz)
          have hz3 := hB3.size
          go_wp2_with fail
          refine (ws _ _ _ D _ hb3 (by show 0 + D.size ≤ _; omega) (by omega)).mono ?_
          rintro e w4 ⟨rfl, hb4, hB4⟩
          rw [HDD.out] at hb4
          have hv4 := hv3.below hB4 (by omega)
          have hBy := hBx.trans (hB4.mono (by omega))
          go_wp2
          have hkg := HK.out
          go_roundg (gk' - 1)
          case rel => exact ⟨1, _, _, by go_num, by omega, by omega, by omega, fun _ => rfl, hv4, hb4, hBy⟩
          case measure => omega
    | 1, hk, HK, q0, q1, hbl =>
      obtain rfl := q1 (by omega)
      clear q0 q1
      obtain ⟨F, hF⟩ : ∃ F, halfL 999983 p2 s.data.toList 1 = F := ⟨_, rfl⟩
      have hFp : F < p2 := by rw [← hF]; exact halfL_lt 999983 p2 (by decide) _ 1 (by decide)
      have HF := Lib.hid hF; clear hF
      have HF0 : Hid (halfL 999983 p2 (s.data.toList.drop 0) 1 = F) := HF
      have hF4 : F ≤ 4611686018427387904 := Nat.le_trans (Nat.le_of_lt hFp) (by decide)
      obtain ⟨c0, c1, c2, c3, c4, c5, f0, f3⟩ := Hv.c _ _ _ _ hv
      clear c0 c1 c2 c3 c4 c5 f0 f3
      go_wp2
      go_loopg [7, 19] (s.size + 1) (fun gas _ jv wq => ∃ (j h : Nat), jv = .int .i64 j ∧ j ≤ s.size ∧ j + gas = s.size + 1 ∧ h < p2 ∧ Hid (halfL 999983 p2 (s.data.toList.drop j) h = F) ∧ Hid (Hv wq w.heap.size x0 h) ∧ Hid (Bld (w.heap.size + 1) (w.heap.size + 1) (outK s.data.toList 1) wq) ∧ Below w.heap.size w wq)
      case atStart => exact ⟨0, 1, rfl, by omega, by omega, by decide, HF0, Lib.hid hv, Lib.hid hbl, hB⟩
      case round =>
        clear hv hbl hB
        obtain ⟨j, h, rfl, hj, hjg, hhp, HW, HV, HB, hB⟩ := hrel
        have HJ := Lib.hid hjg; clear hjg
        by_cases hlt : j < s.size
        · obtain ⟨c, hc⟩ : ∃ c, s[j] = c := ⟨_, rfl⟩
          have hc256 := byte_lt c
          obtain ⟨c0, c1, c2, c3, c4, c5, f0, f3⟩ := Hv.c _ _ _ _ HV.out
          have HADD := Lib.hid (add_any w.heap.size 3 h 999983 p2 c wr c3 c4 c5 f3 hhp (by decide) (by decide) (by decide))
          obtain ⟨h', hh'⟩ : ∃ h', (h * 999983 + c.toNat + 1) % p2 = h' := ⟨_, rfl⟩
          rw [hh'] at HADD
          have hhp' : h' < p2 := by rw [← hh']; exact Nat.mod_lt _ (by decide)
          have HW2 : Hid (halfL 999983 p2 (s.data.toList.drop (j + 1)) h' = F) := Lib.hid (by rw [← HW.out, drop_cons s j hlt, hc, halfL, hh'])
          have HV2 := Lib.hid (HV.out.set3 h')
          have HB2 : Hid (Bld (w.heap.size + 1) (w.heap.size + 1) (outK s.data.toList 1) (wr.setCell ⟨w.heap.size, 3, none⟩ (.int .i64 (h' : Int))).drew) := Lib.hid (bld_drew (bld_setlow HB.out (by omega)))
          have hB2 := (hB.setCell (p := ⟨w.heap.size, 3, none⟩) (Nat.le_refl _) (.int .i64 (h' : Int))).drew
          clear c0 c1 c2 c3 c4 c5 f0 f3 hh'
          go_wp2_with fail
          refine HADD.out.mono ?_
          rintro e wz ⟨rfl, rfl⟩
          go_wp2
          have hjg := HJ.out
          go_roundg (gk - 1)
          case rel => exact ⟨j + 1, h', by go_num, by omega, by omega, hhp', HW2, HV2, HB2, hB2⟩
          case measure => omega
        · have HN := HW.out
          rw [drop_end s j (by omega)] at HN
          have hhF : h = F := HN
          subst hhF
          obtain ⟨c0, c1, c2, c3, c4, c5, f0, f3⟩ := Hv.c _ _ _ _ HV.out
          have hsz := hB.size
          have HBY := Lib.hid (bytes_any h 5 wr hF4 (by decide))
          obtain ⟨D, hD⟩ : ∃ D : ByteArray, (⟨(bigS h 5).toArray⟩ : ByteArray) = D := ⟨_, rfl⟩
          have hDd : D.data.toList = bigS h 5 := by rw [← hD]
          have hDs : D.size ≤ 5 := by rw [← size_len, hDd, bigS_len]; exact Nat.le_refl 5
          rw [hD] at HBY
          have HDD : Hid (outK s.data.toList 1 ++ D.data.toList = outK s.data.toList 2) := Lib.hid (by rw [hDd, ← HF.out]; rfl)
          have hlt2 := bld_lt HB.out
          clear HN hD hDd c1 c2 c4 c5 f0 f3 c0
          go_wp2_with fail
          refine HBY.out.mono ?_
          rintro e w3 ⟨rfl, hB3⟩
          have hb3 := bld_below HB.out hB3
          have hv3 := HV.out.below hB3 (by omega)
          have hBx := hB.trans (hB3.mono hsz)
          have hz3 := hB3.size
          go_wp2_with fail
          refine (ws _ _ _ D _ hb3 (by show (bigS _ 5).length + D.size ≤ _; rw [bigS_len]; omega) (by omega)).mono ?_
          rintro e w4 ⟨rfl, hb4, hB4⟩
          rw [HDD.out] at hb4
          have hv4 := hv3.below hB4 (by omega)
          have hBy := hBx.trans (hB4.mono (by omega))
          go_wp2
          have hkg := HK.out
          go_roundg (gk' - 1)
          case rel => exact ⟨2, _, _, by go_num, by omega, by omega, by omega, by omega, hv4, hb4, hBy⟩
          case measure => omega
    | 2, hk, HK, q0, q1, hbl =>
      clear q0 q1
      have hsz := hB.size
      have hlt2 := bld_lt hbl
      go_wp2_with fail
      refine (Tryz.Builder_String_any _ _ (digestS s.data.toList) _ hbl (by omega)).mono ?_
      rintro e w3 ⟨rfl, hE3⟩
      go_wp2
      go_ret
      exact ⟨rfl, hB.trans (hE3.mono (by omega))⟩
end Go.Proofs.YtanoiiodnddkfaaGreat.digest
namespace Go.Proofs.YtanoiiodnddkfaaGreat.hash
open Go.RowKit Go.Proofs.YtanoiiodnddkfaaGreat.kit Go.Proofs.YtanoiiodnddkfaaGreat.check Go.Proofs.YtanoiiodnddkfaaGreat.nspec Go.Proofs.YtanoiiodnddkfaaGreat.rsplit Go.Proofs.YtanoiiodnddkfaaGreat.refA Go.Proofs.YtanoiiodnddkfaaGreat.nameB Go.Proofs.YtanoiiodnddkfaaGreat.half Go.Proofs.YtanoiiodnddkfaaGreat.digest
set_option linter.unusedVariables false

def hI (n salt : Bs) : Nat → Bs
  | 0 => digestS (foldS n ++ salt)
  | k + 1 => digestS (hI n salt k ++ salt)
theorem hI_len (n salt : Bs) (k : Nat) : (hI n salt k).length = 10 := by cases k <;> exact digest_len _
def hashS (n salt : Bs) (rounds : Int) : Bs × Int := if split n = none then ([], 1) else if 255 < salt.length ∨ rounds < 0 ∨ 50 < rounds then ([], 23) else (hI n salt rounds.toNat, 0)
def Ret2 (r : Bs × Int) : Ending := .returned (.tuple #[.string ⟨r.1.toArray⟩, .int .i64 r.2])
theorem fold_size {n : ByteArray} {ls : List Bs} (h : IsN n.data.toList ls) : (foldS n.data.toList).length ≤ 255 := by
  rw [foldS_yes h, put_length, room_low]
  have := isN_room h; omega
theorem arr_app (a b : ByteArray) : (a ++ b).data.toList = a.data.toList ++ b.data.toList := by simp

set_option maxRecDepth 100000 in
set_option maxHeartbeats 2000000 in
theorem nhash_any (n salt : ByteArray) (rounds : Int) (w : World) (hn : n.size ≤ 1099511627776) (hs : salt.size ≤ 1099511627776) :
    Calls Tryz.prog 89 #[.string n, .string salt, .int .i64 rounds] w fun e w' => e = Ret2 (hashS n.data.toList salt.data.toList rounds) ∧ Below w.heap.size w w' := by
  obtain ⟨R, HR⟩ : ∃ R, Hid (hashS n.data.toList salt.data.toList rounds = R) := ⟨_, Lib.hid rfl⟩
  rw [HR.out]
  rcases isB_or n with ⟨ls, hN⟩ | hN
  · have HK := Lib.hid (chk_yes hN)
    have hfs := fold_size hN
    have hsp : split n.data.toList ≠ none := by rw [split_iff.2 hN]; simp
    clear hN
    by_cases hbad : 255 < (salt.size : Int) ∨ rounds < 0 ∨ 50 < rounds
    · have HN : Hid (R = ([], 23)) := Lib.hid (by rw [← HR.out, hashS, if_neg hsp, if_pos (by rw [size_len]; omega)])
      clear hsp
      by_cases h1 : 255 < (salt.size : Int)
      · clear hbad
        go_enter Tryz.func89, Tryz.ntmps89
        go_wp2_with fail
        refine (check_any n _ hn).mono ?_
        rintro e w1 ⟨rfl, hB1⟩
        rw [HK.out]
        go_wp2
        go_ret2
        exact ⟨by rw [HN.out]; rfl, hB1⟩
      · have h1' : (salt.size : Int) ≤ 255 := by omega
        by_cases h2 : rounds < 0
        · clear hbad h1
          go_enter Tryz.func89, Tryz.ntmps89
          go_wp2_with fail
          refine (check_any n _ hn).mono ?_
          rintro e w1 ⟨rfl, hB1⟩
          rw [HK.out]
          go_wp2
          go_ret2
          exact ⟨by rw [HN.out]; rfl, hB1⟩
        · have h2' : 0 ≤ rounds := by omega
          have h3 : 50 < rounds := by omega
          clear hbad h1 h2
          go_enter Tryz.func89, Tryz.ntmps89
          go_wp2_with fail
          refine (check_any n _ hn).mono ?_
          rintro e w1 ⟨rfl, hB1⟩
          rw [HK.out]
          go_wp2
          go_ret2
          exact ⟨by rw [HN.out]; rfl, hB1⟩
    · have hs2 : (salt.size : Int) ≤ 255 := by omega
      obtain ⟨r, rfl⟩ := Int.eq_ofNat_of_zero_le (show 0 ≤ rounds by omega)
      have hr50 : (r : Int) ≤ 50 := by omega
      have HN : Hid (R = (hI n.data.toList salt.data.toList r, 0)) := Lib.hid (by rw [← HR.out, hashS, if_neg hsp, if_neg (by rw [size_len]; omega), Int.toNat_natCast])
      clear hsp hbad
      obtain ⟨F, hF⟩ : ∃ F : ByteArray, (⟨(foldS n.data.toList).toArray⟩ : ByteArray) = F := ⟨_, rfl⟩
      have hFd : F.data.toList = foldS n.data.toList := by rw [← hF]
      have hFs : F.size ≤ 255 := by rw [← size_len, hFd]; exact hfs
      have HF := Lib.hid hF
      obtain ⟨H0, hH0⟩ : ∃ H : ByteArray, (⟨(digestS (F ++ salt).data.toList).toArray⟩ : ByteArray) = H := ⟨_, rfl⟩
      have HH0 := Lib.hid hH0
      have hH0d : H0.data.toList = hI n.data.toList salt.data.toList 0 := by rw [← hH0, hI, ← hFd, ← arr_app]
      have HH0D := Lib.hid hH0d
      have hH0s : H0.size ≤ 10 := by rw [← size_len, hH0d, hI_len]; exact Nat.le_refl 10
      clear hF hFd hfs hH0 hH0d
      go_enter Tryz.func89, Tryz.ntmps89
      go_wp2_with fail
      refine (check_any n _ hn).mono ?_
      rintro e w1 ⟨rfl, hB1⟩
      rw [HK.out]
      go_wp2_with fail
      refine (nfold_any n _ hn).mono ?_
      rintro e w2 ⟨rfl, hB2⟩
      rw [HF.out]
      have hBB := hB1.trans (hB2.mono hB1.size)
      go_wp2_with fail
      refine (ndigest_any (F ++ salt) _ (by rw [ByteArray.size_append]; omega)).mono ?_
      rintro e w3 ⟨rfl, hB3⟩
      rw [HH0.out]
      have hBC := hBB.trans (hB3.mono hBB.size)
      go_wp2
      go_loopg [8, 29] (r + 1) (fun gas hv kv wr => ∃ (k : Nat) (H : ByteArray), kv = .int .i64 k ∧ hv = .string H ∧ k ≤ r ∧ k + gas = r + 1 ∧ H.size ≤ 10 ∧ Hid (H.data.toList = hI n.data.toList salt.data.toList k) ∧ Below w.heap.size w wr)
      case atStart => exact ⟨0, H0, rfl, rfl, by omega, by omega, hH0s, HH0D, hBC⟩
      case round =>
        clear hB1 hB2 hBB hB3 hBC
        obtain ⟨k, H, rfl, rfl, hk, hkg, hHs, HH, hB⟩ := hrel
        have HKK := Lib.hid hkg; clear hkg
        by_cases hlt : k < r
        · obtain ⟨H1, hH1⟩ : ∃ H1 : ByteArray, (⟨(digestS (H ++ salt).data.toList).toArray⟩ : ByteArray) = H1 := ⟨_, rfl⟩
          have hH1d : H1.data.toList = hI n.data.toList salt.data.toList (k + 1) := by rw [← hH1, hI, ← HH.out, ← arr_app]
          have HH1D := Lib.hid hH1d
          have hH1s : H1.size ≤ 10 := by rw [← size_len, hH1d, hI_len]; exact Nat.le_refl 10
          have HH1 := Lib.hid hH1
          clear hH1 hH1d
          go_wp2_with fail
          refine (ndigest_any (H ++ salt) _ (by rw [ByteArray.size_append]; omega)).mono ?_
          rintro e w4 ⟨rfl, hB4⟩
          rw [HH1.out]
          go_wp2
          have hkg := HKK.out
          go_roundg (gk - 1)
          case rel => exact ⟨k + 1, H1, by go_num, rfl, by omega, by omega, hH1s, HH1D, hB.trans (hB4.mono hB.size)⟩
          case measure => omega
        · have hkr : k = r := by omega
          subst hkr
          have HE : Hid ((⟨(hI n.data.toList salt.data.toList k).toArray⟩ : ByteArray) = H) := Lib.hid (ba_ext HH.out.symm)
          go_wp2
          go_ret2
          exact ⟨by rw [HN.out]; unfold Ret2; rw [HE.out]; rfl, hB⟩
  · have HK := Lib.hid (chk_no hN)
    have HN : Hid (R = ([], 1)) := Lib.hid (by rw [← HR.out, hashS, if_pos hN])
    clear hN
    go_enter Tryz.func89, Tryz.ntmps89
    go_wp2_with fail
    refine (check_any n _ hn).mono ?_
    rintro e w1 ⟨rfl, hB1⟩
    rw [HK.out]
    go_wp2
    go_ret2
    exact ⟨by rw [HN.out]; rfl, hB1⟩

set_option maxRecDepth 100000 in
set_option maxHeartbeats 2000000 in
theorem rhash_ok (n salt : ByteArray) (ls : List Bs) (hN0 : IsN n.data.toList ls) (hs2 : (salt.size : Int) ≤ 255) (k : Nat) : ∀ (w : World), k ≤ 50 →
    Calls Tryz.prog 55 #[.string n, .string salt, .int .i64 (k : Int)] w fun e w' => e = Ret2 (hI n.data.toList salt.data.toList k, 0) ∧ Below w.heap.size w w' := by
  have hn : n.size ≤ 1099511627776 := by have := hN0.2.2; rw [size_len] at this; omega
  have HI := Lib.hid (isB_yes hN0)
  have hfs := fold_size hN0
  obtain ⟨F, hF⟩ : ∃ F : ByteArray, (⟨(foldS n.data.toList).toArray⟩ : ByteArray) = F := ⟨_, rfl⟩
  have hFd : F.data.toList = foldS n.data.toList := by rw [← hF]
  have hFs : F.size ≤ 255 := by rw [← size_len, hFd]; exact hfs
  have HF := Lib.hid hF
  have HFD := Lib.hid hFd
  clear hF hFd hfs hN0
  induction k with
  | zero =>
    intro w _
    obtain ⟨H0, hH0⟩ : ∃ H : ByteArray, (⟨(digestS (F ++ salt).data.toList).toArray⟩ : ByteArray) = H := ⟨_, rfl⟩
    have HH0 := Lib.hid hH0
    have HE : Hid ((⟨(hI n.data.toList salt.data.toList 0).toArray⟩ : ByteArray) = H0) := Lib.hid (by rw [← hH0, hI, ← HFD.out, ← arr_app])
    clear hH0
    go_enter Tryz.func55, Tryz.ntmps55
    go_wp2_with fail
    refine (isName_any n _ hn).mono ?_
    rintro e w1 ⟨rfl, hB1⟩
    rw [HI.out]
    go_wp2_with fail
    refine (fold_any n _ hn).mono ?_
    rintro e w2 ⟨rfl, hB2⟩
    rw [HF.out]
    go_wp2_with fail
    refine (rdigest_any (F ++ salt) _ (by rw [ByteArray.size_append]; omega)).mono ?_
    rintro e w3 ⟨rfl, hB3⟩
    rw [HH0.out]
    go_wp2
    go_ret2
    have hBB := hB1.trans (hB2.mono hB1.size)
    exact ⟨by unfold Ret2; rw [HE.out]; rfl, hBB.trans (hB3.mono hBB.size)⟩
  | succ k ih =>
    intro w hk
    have IH := Lib.hid (fun w => ih w (by omega))
    clear ih
    obtain ⟨m, hm⟩ : ∃ m, k + 1 = m := ⟨_, rfl⟩
    obtain ⟨P, hP⟩ : ∃ P : ByteArray, (⟨(hI n.data.toList salt.data.toList k).toArray⟩ : ByteArray) = P := ⟨_, rfl⟩
    have hPd : P.data.toList = hI n.data.toList salt.data.toList k := by rw [← hP]
    have hPs : P.size ≤ 10 := by rw [← size_len, hPd, hI_len]; exact Nat.le_refl 10
    have HP := Lib.hid hP
    obtain ⟨H0, hH0⟩ : ∃ H : ByteArray, (⟨(digestS (P ++ salt).data.toList).toArray⟩ : ByteArray) = H := ⟨_, rfl⟩
    have HH0 := Lib.hid hH0
    have HE : Hid ((⟨(hI n.data.toList salt.data.toList m).toArray⟩ : ByteArray) = H0) := Lib.hid (by rw [← hm, ← hH0, hI, ← hPd, ← arr_app])
    have hm1 : (1 : Int) ≤ (m : Int) := by omega
    have hm50 : (m : Int) ≤ 50 := by omega
    have hm0 : ((m : Int) == 0) = false := by rw [beq_eq_false_iff_ne]; omega
    have hsub : Value.int .i64 ((m : Int) - 1) = Value.int .i64 (k : Int) := by congr 1; omega
    rw [hm]
    clear hm hP hPd hH0
    go_enter Tryz.func55, Tryz.ntmps55
    go_wp2_with fail
    refine (isName_any n _ hn).mono ?_
    rintro e w1 ⟨rfl, hB1⟩
    rw [HI.out]
    go_wp2_with fail
    refine (IH.out _).mono ?_
    rintro e w2 ⟨rfl, hB2⟩
    unfold Ret2
    simp only [HP.out]
    go_wp2_with fail
    refine (rdigest_any (P ++ salt) _ (by rw [ByteArray.size_append]; omega)).mono ?_
    rintro e w3 ⟨rfl, hB3⟩
    rw [HH0.out]
    go_wp2
    go_ret2
    have hBB := hB1.trans (hB2.mono hB1.size)
    refine ⟨?_, hBB.trans (hB3.mono hBB.size)⟩
    have hfin : Ret2 (hI n.data.toList salt.data.toList m, 0) = .returned (.tuple #[.string H0, .int .i64 0]) := by unfold Ret2; rw [HE.out]
    exact hfin.symm

set_option maxRecDepth 100000 in
set_option maxHeartbeats 2000000 in
theorem rhash_any (n salt : ByteArray) (rounds : Int) (w : World) (hn : n.size ≤ 1099511627776) (hs : salt.size ≤ 1099511627776) :
    Calls Tryz.prog 55 #[.string n, .string salt, .int .i64 rounds] w fun e w' => e = Ret2 (hashS n.data.toList salt.data.toList rounds) ∧ Below w.heap.size w w' := by
  obtain ⟨R, HR⟩ : ∃ R, Hid (hashS n.data.toList salt.data.toList rounds = R) := ⟨_, Lib.hid rfl⟩
  rw [HR.out]
  rcases isB_or n with ⟨ls, hN⟩ | hN
  · have HI := Lib.hid (isB_yes hN)
    have hsp : split n.data.toList ≠ none := by rw [split_iff.2 hN]; simp
    by_cases hbad : 255 < (salt.size : Int) ∨ rounds < 0 ∨ 50 < rounds
    · have HN : Hid (R = ([], 23)) := Lib.hid (by rw [← HR.out, hashS, if_neg hsp, if_pos (by rw [size_len]; omega)])
      clear hsp hN
      by_cases h1 : 255 < (salt.size : Int)
      · clear hbad
        go_enter Tryz.func55, Tryz.ntmps55
        go_wp2_with fail
        refine (isName_any n _ hn).mono ?_
        rintro e w1 ⟨rfl, hB1⟩
        rw [HI.out]
        go_wp2
        go_ret2
        exact ⟨by rw [HN.out]; rfl, hB1⟩
      · have h1' : (salt.size : Int) ≤ 255 := by omega
        by_cases h2 : rounds < 0
        · clear hbad h1
          go_enter Tryz.func55, Tryz.ntmps55
          go_wp2_with fail
          refine (isName_any n _ hn).mono ?_
          rintro e w1 ⟨rfl, hB1⟩
          rw [HI.out]
          go_wp2
          go_ret2
          exact ⟨by rw [HN.out]; rfl, hB1⟩
        · have h2' : 0 ≤ rounds := by omega
          have h3 : 50 < rounds := by omega
          clear hbad h1 h2
          go_enter Tryz.func55, Tryz.ntmps55
          go_wp2_with fail
          refine (isName_any n _ hn).mono ?_
          rintro e w1 ⟨rfl, hB1⟩
          rw [HI.out]
          go_wp2
          go_ret2
          exact ⟨by rw [HN.out]; rfl, hB1⟩
    · have hs2 : (salt.size : Int) ≤ 255 := by omega
      obtain ⟨r, rfl⟩ := Int.eq_ofNat_of_zero_le (show 0 ≤ rounds by omega)
      rw [← HR.out, hashS, if_neg hsp, if_neg (by rw [size_len]; omega), Int.toNat_natCast]
      exact rhash_ok n salt ls hN hs2 r w (by omega)
  · have HI := Lib.hid (isB_no hN)
    have HN : Hid (R = ([], 1)) := Lib.hid (by rw [← HR.out, hashS, if_pos hN])
    clear hN
    go_enter Tryz.func55, Tryz.ntmps55
    go_wp2_with fail
    refine (isName_any n _ hn).mono ?_
    rintro e w1 ⟨rfl, hB1⟩
    rw [HI.out]
    go_wp2
    go_ret2
    exact ⟨by rw [HN.out]; rfl, hB1⟩

end Go.Proofs.YtanoiiodnddkfaaGreat.hash
namespace Go.Proofs.YtanoiiodnddkfaaGreat.fld
open Go.Proofs.YtanoiiodnddkfaaGreat.nspec Go.Proofs.YtanoiiodnddkfaaGreat.bits

inductive Fld where
  | num (k : Nat) | ip4 | ip6 | host | text | texts | tail | hexes | b64 | kind | kinds | salt | hash

def hostS (d : Bs) : Int := match (List.range 256).find? (fun k => (split (d.take k)).isSome) with | some k => (k : Int) | none => -1
def textS : Bs → Int
  | [] => -1
  | c :: r => if r.length < c.toNat then -1 else 1 + (c.toNat : Int)
def textsF : Nat → Nat → Bs → Int
  | 0, _, _ => -1
  | _ + 1, at0, [] => if at0 = 0 then -1 else (at0 : Int)
  | f + 1, at0, c :: r => if r.length < c.toNat then -1 else textsF f (at0 + (1 + c.toNat)) (r.drop c.toNat)
def textsS (d : Bs) : Int := textsF (d.length + 1) 0 d
theorem texts_fuel : ∀ (f g at0 : Nat) (d : Bs), d.length < f → d.length < g → textsF f at0 d = textsF g at0 d
  | 0, _, _, _, h, _ => by omega
  | _ + 1, 0, _, _, _, h => by omega
  | f + 1, g + 1, at0, [], _, _ => rfl
  | f + 1, g + 1, at0, c :: r, h1, h2 => by
    simp only [List.length_cons] at h1 h2
    simp only [textsF]
    by_cases h : r.length < c.toNat
    · rw [if_pos h, if_pos h]
    · rw [if_neg h, if_neg h]; exact texts_fuel f g _ _ (by rw [List.length_drop]; omega) (by rw [List.length_drop]; omega)

/-- the types of one block's bits -/
def pickL (b : Nat) : Nat → List Nat → List Nat
  | _, [] => []
  | k, x :: l => if x = 1 then (b * 256 + k) :: pickL b (k + 1) l else pickL b (k + 1) l
def blockL (b : Nat) (m : Bs) : List Nat := pickL b 0 (bitsL m)
/-- a set's types: what comes behind the blocks up to 'last' -/
def typesF : Nat → Int → List Nat → Bs → Option (List Nat)
  | 0, _, _, _ => none
  | _ + 1, _, out, [] => some out
  | f + 1, last, out, b :: r => match r with
    | [] => none
    | n :: m => if (b.toNat : Int) ≤ last ∨ n.toNat < 1 ∨ 32 < n.toNat ∨ m.length < n.toNat ∨ m.getD (n.toNat - 1) 0 = 0 then none
      else typesF f (b.toNat : Int) (out ++ blockL b.toNat (m.take n.toNat)) (m.drop n.toNat)
def typesS (d : Bs) : Option (List Nat) := match typesF (d.length + 1) (-1) [] d with
  | none => none
  | some l => if 0 ∈ l then none else some l
theorem types_fuel : ∀ (f g : Nat) (last : Int) (out : List Nat) (d : Bs), d.length < f → d.length < g → typesF f last out d = typesF g last out d
  | 0, _, _, _, _, h, _ => by omega
  | _ + 1, 0, _, _, _, _, h => by omega
  | f + 1, g + 1, last, out, [], _, _ => rfl
  | f + 1, g + 1, last, out, [b], _, _ => rfl
  | f + 1, g + 1, last, out, b :: n :: m, h1, h2 => by
    simp only [List.length_cons] at h1 h2
    simp only [typesF]
    split
    · rfl
    · exact types_fuel f g _ _ _ (by rw [List.length_drop]; omega) (by rw [List.length_drop]; omega)

def someS (d : Bs) : Int := if d = [] then -1 else (d.length : Int)
def takeS : Fld → Bs → Int
  | .num k, d => if d.length < k then -1 else (k : Int)
  | .ip4, d => if d.length < 4 then -1 else 4
  | .ip6, d => if d.length < 16 then -1 else 16
  | .host, d => hostS d
  | .text, d => textS d
  | .texts, d => textsS d
  | .tail, d => (d.length : Int)
  | .hexes, d => someS d
  | .b64, d => someS d
  | .kind, d => if d.length < 2 ∨ (d.getD 0 0 = 0 ∧ d.getD 1 0 = 0) then -1 else 2
  | .kinds, d => if typesS d = none then -1 else (d.length : Int)
  | .salt, d => textS d
  | .hash, d => if d = [] ∨ d.getD 0 0 = 0 then -1 else textS d
theorem textS_le (d : Bs) : textS d ≤ d.length ∧ -1 ≤ textS d := by
  cases d with
  | nil => simp [textS]
  | cons c r =>
    simp only [textS, List.length_cons]; split
    · omega
    · omega
theorem textsF_le : ∀ (f at0 : Nat) (d : Bs), textsF f at0 d ≤ at0 + d.length ∧ -1 ≤ textsF f at0 d
  | 0, at0, d => by simp only [textsF]; omega
  | f + 1, at0, [] => by simp only [textsF, List.length_nil]; split <;> omega
  | f + 1, at0, c :: r => by
    simp only [textsF]
    split
    · simp only [List.length_cons]; omega
    · have := textsF_le f (at0 + (1 + c.toNat)) (r.drop c.toNat)
      rw [List.length_drop] at this
      simp only [List.length_cons]; omega
theorem hostS_le (d : Bs) : hostS d ≤ d.length ∧ -1 ≤ hostS d := by
  unfold hostS
  cases h : (List.range 256).find? (fun k => (split (d.take k)).isSome) with
  | none => simp
  | some k =>
    refine ⟨?_, by simp only; omega⟩
    rcases Nat.lt_or_ge d.length k with hk | hk
    · have h1 := List.find?_some h
      have hm := List.mem_of_find?_eq_some h
      rw [List.mem_range] at hm
      have e : d.take k = d.take d.length := by rw [List.take_of_length_le (by omega), List.take_of_length_le (Nat.le_refl _)]
      rw [e] at h1
      have h2 := (List.find?_range_eq_some.1 h).2.2 d.length hk
      simp only [Bool.not_eq_true', h1] at h2
      exact absurd h2 (by simp)
    · simp only; omega
theorem takeS_le (f : Fld) (d : Bs) : takeS f d ≤ d.length ∧ -1 ≤ takeS f d := by
  cases f <;> simp only [takeS, someS]
  case host => exact hostS_le d
  case text => exact textS_le d
  case salt => exact textS_le d
  case texts => exact (by have := textsF_le (d.length + 1) 0 d; unfold textsS; omega)
  case hash =>
    split
    · omega
    · exact textS_le d
  all_goals first | omega | (split <;> omega)

def formS (t : Int) : Option (List Fld) :=
  if t = 1 then some [.ip4] else if t = 2 then some [.host] else if t = 5 then some [.host] else if t = 12 then some [.host] else if t = 39 then some [.host]
  else if t = 6 then some [.host, .host, .num 4, .num 4, .num 4, .num 4, .num 4] else if t = 13 then some [.text, .text] else if t = 15 then some [.num 2, .host]
  else if t = 16 then some [.texts] else if t = 28 then some [.ip6] else if t = 33 then some [.num 2, .num 2, .num 2, .host]
  else if t = 35 then some [.num 2, .num 2, .text, .text, .text, .host] else if t = 43 then some [.num 2, .num 1, .num 1, .hexes]
  else if t = 46 then some [.kind, .num 1, .num 1, .num 4, .num 4, .num 4, .num 2, .host, .b64] else if t = 47 then some [.host, .kinds]
  else if t = 48 then some [.num 2, .num 1, .num 1, .b64] else if t = 50 then some [.num 1, .num 1, .num 2, .salt, .hash, .kinds]
  else if t = 51 then some [.num 1, .num 1, .num 2, .salt] else if t = 257 then some [.num 1, .text, .tail] else none
def holdsB (t : Int) : Bool := decide (1 ≤ t) && decide (t ≤ 65535) && (t != 41) && (decide (t < 128) || decide (255 < t))
/-- the parts of the fields, and what stands behind them; none: a field's bytes are not right -/
def splitS : List Fld → Bs → Option (List Bs × Bs)
  | [], d => some ([], d)
  | x :: f, d => if takeS x d < 0 then none else (splitS f (d.drop (takeS x d).toNat)).map (fun p => (d.take (takeS x d).toNat :: p.1, p.2))
/-- what Check says: of the fields, and the parts where all is right -/
def partsS (t : Int) (d : Bs) : Option (List Bs) := match formS t with
  | none => some []
  | some f => match splitS f d with
    | some (p, []) => some p
    | _ => none
def checkS (t : Int) (d : Bs) : Int := if holdsB t = false then 6 else if 65535 < d.length then 7 else if partsS t d = none then 7 else 0
def isHost : Fld → Bool
  | .host => true
  | _ => false
def namesL : List Fld → List Bs → List Bs
  | x :: f, p :: l => if isHost x then p :: namesL f l else namesL f l
  | _, _ => []
end Go.Proofs.YtanoiiodnddkfaaGreat.fld
namespace Go.Proofs.YtanoiiodnddkfaaGreat.val
open Go.RowKit Go.Proofs.YtanoiiodnddkfaaGreat.kit
set_option linter.unusedVariables false

def valL : List UInt8 → Nat → Nat
  | [], v => v
  | c :: r, v => valL r (v * 256 + c.toNat)
theorem wraps62 (n : Int) (h₀ : 0 ≤ n) (h₁ : n < 2 ^ 62) : IntKind.i64.wrap n = n := by rw [IntKind.wrap_i64]; omega
theorem or8b {x y : Int} (hx₀ : 0 ≤ x) (hx : x % 256 = 0) (hx₁ : x < 4611686018427387904) (h₀ : 0 ≤ y) (h₁ : y < 256) : bits .or .i64 x y = x + y :=
  bits_join .i64 62 (by decide) wraps62 8 x y hx₀ hx hx₁ h₀ h₁ (by omega)

set_option maxRecDepth 100000 in
set_option maxHeartbeats 1000000 in
theorem rvalue_any (s : ByteArray) (w : World) (hs : s.size ≤ 4) :
    Calls Tryz.prog 84 #[.string s] w fun e w' => e = .returned (.int .i64 ((valL s.data.toList 0 : Nat) : Int)) ∧ w = w' := by
  obtain ⟨F, HF⟩ : ∃ F, Hid (valL (s.data.toList.drop 0) 0 = F) := ⟨_, Lib.hid rfl⟩
  rw [show s.data.toList = s.data.toList.drop 0 from rfl, HF.out]
  go_enter Tryz.func84, Tryz.ntmps84
  go_wp2
  go_loopg [3, 4] (s.size + 1) (fun gas sv kv wr => ∃ (k S : Nat), kv = .int .i64 k ∧ sv = .int .i64 S ∧ k ≤ s.size ∧ k + gas = s.size + 1 ∧ S < 1099511627776 ∧ Hid (S < 256 ^ k) ∧ Hid (valL (s.data.toList.drop k) S = F) ∧ w = wr)
  case atStart => exact ⟨0, 0, rfl, rfl, by omega, by omega, by omega, Lib.hid (by decide), HF, rfl⟩
  case round =>
    obtain ⟨k, S, rfl, rfl, hk, hkg, hS, HP, HW, rfl⟩ := hrel
    have HK := Lib.hid hkg; clear hkg
    by_cases hlt : k < s.size
    · obtain ⟨c, hc⟩ : ∃ c, s[k] = c := ⟨_, rfl⟩
      have hc256 := byte_lt c
      have HW2 : Hid (valL (s.data.toList.drop (k + 1)) (S * 256 + c.toNat) = F) := Lib.hid (by rw [← HW.out, drop_cons s k hlt, hc, valL])
      have HP2 : Hid (S * 256 + c.toNat < 256 ^ (k + 1)) := Lib.hid (by have := HP.out; rw [Nat.pow_succ]; omega)
      have hb : S * 256 + c.toNat < 1099511627776 := by
        have h1 := HP2.out
        have h2 : 256 ^ (k + 1) ≤ 256 ^ 4 := Nat.pow_le_pow_right (n := 256) (by omega) (show k + 1 ≤ 4 by omega)
        omega
      go_wp2
      have hkg := HK.out
      go_roundg (gk - 1)
      case rel => exact ⟨k + 1, S * 256 + c.toNat, by go_num, (by first | rfl | go_num | (congr 1; omega)), by omega, by omega, hb, HP2, HW2, rfl⟩
      case measure => omega
    · have HN := HW.out
      rw [drop_end s k (by omega)] at HN
      have hSF : S = F := HN
      subst hSF
      clear HN
      go_wp2
      go_ret
      exact ⟨rfl, rfl⟩

end Go.Proofs.YtanoiiodnddkfaaGreat.val
namespace Go.Proofs.YtanoiiodnddkfaaGreat.back
open Go.Proofs.YtanoiiodnddkfaaGreat.kit Go.Proofs.YtanoiiodnddkfaaGreat.bits Go.Proofs.YtanoiiodnddkfaaGreat.low

def zeros (l : List Nat) : Bool := l.all (· == 0)
def wholeF (most : Nat) : Nat → List Nat → Option (List UInt8)
  | 0, l => if zeros l && decide (l.length < most) then some [] else none
  | f + 1, l => if 8 ≤ l.length then (wholeF most f (l.drop 8)).map (UInt8.ofNat (ofb (l.take 8)) :: ·) else if zeros l && decide (l.length < most) then some [] else none
/-- bits as bytes; what is left over is nought and shorter than most -/
def whole (most : Nat) (l : List Nat) : Option (List UInt8) := wholeF most l.length l
theorem wholeF_fuel (most : Nat) : ∀ (f g : Nat) (l : List Nat), l.length ≤ f → l.length ≤ g → wholeF most f l = wholeF most g l
  | 0, 0, _, _, _ => rfl
  | 0, g + 1, l, h, _ => by
    have : l = [] := List.eq_nil_of_length_eq_zero (by omega)
    subst this; simp [wholeF]
  | f + 1, 0, l, _, h => by
    have : l = [] := List.eq_nil_of_length_eq_zero (by omega)
    subst this; simp [wholeF]
  | f + 1, g + 1, l, h1, h2 => by
    simp only [wholeF]
    by_cases hl : 8 ≤ l.length
    · rw [if_pos hl, if_pos hl, wholeF_fuel most f g (l.drop 8) (by rw [List.length_drop]; omega) (by rw [List.length_drop]; omega)]
    · rw [if_neg hl, if_neg hl]
theorem whole_step {most : Nat} {l : List Nat} (h : 8 ≤ l.length) : whole most l = (whole most (l.drop 8)).map (UInt8.ofNat (ofb (l.take 8)) :: ·) := by
  unfold whole
  obtain ⟨f, hf⟩ : ∃ f, l.length = f + 1 := ⟨l.length - 1, by omega⟩
  rw [hf, wholeF, if_pos h, wholeF_fuel most f (l.drop 8).length (l.drop 8) (by rw [List.length_drop]; omega) (Nat.le_refl _)]
theorem whole_end {most : Nat} {l : List Nat} (h : l.length < 8) : whole most l = if zeros l && decide (l.length < most) then some [] else none := by
  unfold whole
  cases hf : l.length with
  | zero => rw [wholeF, hf]
  | succ f => rw [wholeF, if_neg (by omega), hf]
theorem whole_byte {most : Nat} (v : Nat) (l : List Nat) : whole most (tob v 8 ++ l) = (whole most l).map (UInt8.ofNat v :: ·) := by
  rw [whole_step (by rw [List.length_append, tob_length]; omega), List.drop_left' (tob_length _ _), List.take_left' (tob_length _ _), ofb_tob]
  have : UInt8.ofNat (v % 2 ^ 8) = UInt8.ofNat v := by
    apply UInt8.toNat_inj.1
    simp [UInt8.toNat_ofNat']
  rw [this]
theorem whole_len (most : Nat) : ∀ (f : Nat) (l : List Nat) (r : List UInt8), wholeF most f l = some r → r.length ≤ l.length
  | 0, l, r, h => by
    simp only [wholeF] at h
    split at h
    · have : r = [] := by simpa using h.symm
      subst this; simp
    · simp at h
  | f + 1, l, r, h => by
    simp only [wholeF] at h
    by_cases hl : 8 ≤ l.length
    · rw [if_pos hl] at h
      cases hw : wholeF most f (l.drop 8) with
      | none => rw [hw] at h; simp at h
      | some t =>
        rw [hw] at h
        have e : r = UInt8.ofNat (ofb (l.take 8)) :: t := by simpa using h.symm
        subst e
        have := whole_len most f _ _ hw
        rw [List.length_drop] at this
        rw [List.length_cons]; omega
    · rw [if_neg hl] at h
      split at h
      · have : r = [] := by simpa using h.symm
        subst this; simp
      · simp at h
theorem ofb_zeros : ∀ (l : List Nat), zeros l = decide (ofb l = 0)
  | [] => by simp [zeros, ofb]
  | b :: r => by
    have ih := ofb_zeros r
    have e : zeros (b :: r) = ((b == 0) && zeros r) := by simp [zeros]
    rw [e, ih, ofb_cons, Bool.eq_iff_iff]
    have hp := Nat.two_pow_pos r.length
    simp only [Bool.and_eq_true, beq_iff_eq, decide_eq_true_eq]
    constructor
    · rintro ⟨h1, h2⟩; rw [h1, h2]; simp
    · intro h
      have h1 : b * 2 ^ r.length = 0 := by omega
      have h2 : ofb r = 0 := by omega
      rcases Nat.mul_eq_zero.1 h1 with h3 | h3
      · exact ⟨h3, h2⟩
      · omega
theorem zeros_tob (h b : Nat) : zeros (tob h b) = decide (h % 2 ^ b = 0) := by rw [ofb_zeros, ofb_tob]

/-- letters as bits -/
def spreadS (n : Nat) (val : UInt8 → Option Nat) : List UInt8 → Option (List Nat)
  | [] => some []
  | c :: r => match val c with
    | none => none
    | some v => (spreadS n val r).map (tob v n ++ ·)
theorem spread_cons_some {n : Nat} {val : UInt8 → Option Nat} {c : UInt8} {r : List UInt8} {v : Nat} (h : val c = some v) : spreadS n val (c :: r) = (spreadS n val r).map (tob v n ++ ·) := by
  simp only [spreadS, h]
theorem spread_cons_none {n : Nat} {val : UInt8 → Option Nat} {c : UInt8} {r : List UInt8} (h : val c = none) : spreadS n val (c :: r) = none := by
  simp only [spreadS, h]
theorem spread_len (n : Nat) (val : UInt8 → Option Nat) : ∀ (l : List UInt8) (r : List Nat), spreadS n val l = some r → r.length = n * l.length
  | [], r, h => by
    have : r = [] := by simpa [spreadS] using h.symm
    subst this; rfl
  | c :: t, r, h => by
    cases hv : val c with
    | none => rw [spread_cons_none hv] at h; simp at h
    | some v =>
      rw [spread_cons_some hv] at h
      cases hs : spreadS n val t with
      | none => rw [hs] at h; simp at h
      | some u =>
        rw [hs] at h
        have e : r = tob v n ++ u := by simpa using h.symm
        subst e
        rw [List.length_append, tob_length, spread_len n val t u hs, List.length_cons, Nat.mul_add]; omega
theorem spread_01 (n : Nat) (val : UInt8 → Option Nat) : ∀ (l : List UInt8) (r : List Nat), spreadS n val l = some r → ∀ x ∈ r, x ≤ 1
  | [], r, h => by
    have : r = [] := by simpa [spreadS] using h.symm
    subst this; intro x hx; simp at hx
  | c :: t, r, h => by
    cases hv : val c with
    | none => rw [spread_cons_none hv] at h; simp at h
    | some v =>
      rw [spread_cons_some hv] at h
      cases hs : spreadS n val t with
      | none => rw [hs] at h; simp at h
      | some u =>
        rw [hs] at h
        have e : r = tob v n ++ u := by simpa using h.symm
        subst e
        intro x hx
        rcases List.mem_append.1 hx with hx | hx
        · have ht : ∀ n : Nat, ∀ x ∈ tob v n, x ≤ 1 := by
            intro n
            induction n with
            | zero => intro x hx; simp [tob] at hx
            | succ n ih =>
              intro x hx
              rw [tob, List.mem_cons] at hx
              rcases hx with rfl | hx
              · omega
              · exact ih x hx
          exact ht n x hx
        · exact spread_01 n val t u hs x hx

/-- what is still to come behind A and the bits P -/
def backS (most n : Nat) (val : UInt8 → Option Nat) (A : List UInt8) (P : List Nat) (l : List UInt8) : Option (List UInt8) := (spreadS n val l).bind fun b => (whole most (P ++ b)).map (A ++ ·)
theorem back_none {most n : Nat} {val : UInt8 → Option Nat} {A : List UInt8} {P : List Nat} {l r : List UInt8} {c : UInt8} {R : Option (List UInt8)} (h : backS most n val A P l = R) (hl : l = c :: r) (hv : val c = none) : R = none := by
  subst hl; rw [← h, backS, spread_cons_none hv]; rfl
theorem back_some {most n h0 b : Nat} {val : UInt8 → Option Nat} {A : List UInt8} {l r : List UInt8} {c : UInt8} {v H : Nat} {R : Option (List UInt8)} (h : backS most n val A (tob h0 b) l = R) (hl : l = c :: r) (hv : val c = some v) (hvn : v < 2 ^ n) (hb : b + n ≤ 12) (hH : (h0 * 2 ^ n + v) % 4096 = H) :
    backS most n val A (tob H (b + n)) r = R := by
  subst hl
  have e1 : tob H (b + n) = tob h0 b ++ tob v n := by
    rw [← hH, show (4096 : Nat) = 2 ^ 12 from rfl, tob_mod _ _ _ hb, tob_append _ _ _ _ hvn]
  rw [← h, e1]
  simp only [backS, spread_cons_some hv]
  cases spreadS n val r with
  | none => rfl
  | some u => simp
theorem back_byte {most n : Nat} {val : UInt8 → Option Nat} {A : List UInt8} {H q : Nat} {l : List UInt8} {R : Option (List UInt8)} (h : backS most n val A (tob H (q + 8)) l = R) :
    backS most n val (A ++ [UInt8.ofNat (H / 2 ^ q)]) (tob H q) l = R := by
  have e : tob H (q + 8) = tob (H / 2 ^ q) 8 ++ tob H q := by
    have h2 := tob_append (H / 2 ^ q) (H % 2 ^ q) 8 q (Nat.mod_lt _ (Nat.two_pow_pos q))
    rw [Nat.div_add_mod', tob_mod H q q (Nat.le_refl _), Nat.add_comm 8 q] at h2
    exact h2
  rw [← h]
  simp only [backS]
  cases spreadS n val l with
  | none => rfl
  | some u =>
    simp only [Option.bind_some, e, List.append_assoc, whole_byte]
    cases whole most (tob H q ++ u) with
    | none => rfl
    | some t => simp
theorem back_end {most n : Nat} {val : UInt8 → Option Nat} {A : List UInt8} {h0 b : Nat} {R : Option (List UInt8)} (h : backS most n val A (tob h0 b) [] = R) (hb : b < 8) : R = if h0 % 2 ^ b = 0 ∧ b < most then some A else none := by
  rw [← h]
  simp only [backS, spreadS, Option.bind_some, List.append_nil]
  rw [whole_end (by rw [tob_length]; exact hb), zeros_tob, tob_length]
  by_cases h1 : h0 % 2 ^ b = 0 <;> by_cases h2 : b < most <;> simp [h1, h2]

def val32 (c : UInt8) : Option Nat := if 48 ≤ c.toNat ∧ c.toNat ≤ 57 then some (c.toNat - 48) else if 97 ≤ c.toNat ∧ c.toNat ≤ 118 then some (c.toNat - 87) else if 65 ≤ c.toNat ∧ c.toNat ≤ 86 then some (c.toNat - 55) else none
def from32S (s : List UInt8) : Option (List UInt8) := backS 5 5 val32 [] [] s
theorem val32_lt {c : UInt8} {v : Nat} (h : val32 c = some v) : v < 32 := by
  unfold val32 at h
  split at h
  · injection h with h; omega
  · split at h
    · injection h with h; omega
    · split at h
      · injection h with h; omega
      · simp at h
/-- the bytes and whether they are any -/
def two (o : Option (List UInt8)) : Ending := match o with
  | none => .returned (.tuple #[.string ⟨#[]⟩, .bool false])
  | some d => .returned (.tuple #[.string ⟨d.toArray⟩, .bool true])
end Go.Proofs.YtanoiiodnddkfaaGreat.back
namespace Go.Proofs.YtanoiiodnddkfaaGreat.checkAll
open Go.RowKit Go.Proofs.YtanoiiodnddkfaaGreat.kit Go.Proofs.YtanoiiodnddkfaaGreat.check
theorem check_all (n : ByteArray) (w : World) :
    Calls Tryz.prog 63 #[.string n] w fun e w' => e = .returned (.int .i64 (chkE n)) ∧ Below w.heap.size w w' := by
  by_cases h1 : 255 < (n.size : Int)
  · exact check_long n w h1
  · exact check_any n w (by omega)
end Go.Proofs.YtanoiiodnddkfaaGreat.checkAll

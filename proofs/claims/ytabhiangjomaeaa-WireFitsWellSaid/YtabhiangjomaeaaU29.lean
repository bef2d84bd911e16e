/- gazetteersame: Spare, Twin, Bytes, Records, Questions, Head on equal things: walks. -/
import Derived.Test.YtabhiangjomaeaaU15
import Derived.Test.YtabhiangjomaeaaU11
import Derived.Deep.QuietTactic
import Derived.BigQuiet
import Derived.Deep.AppendLies
namespace Go.Proofs.Ytabhiangjomaeaa.same
open Go.RowKit Go.Proofs.Ytabhiangjomaeaa.kit Go.Proofs.Ytabhiangjomaeaa.timed Go.Proofs.Ytabhiangjomaeaa.nspec Go.Proofs.Ytabhiangjomaeaa.coded Go.Proofs.Ytabhiangjomaeaa.wireP Go.Proofs.Ytabhiangjomaeaa.wireM Go.Proofs.Ytabhiangjomaeaa.rows
set_option linter.unusedVariables false

def spareR : Rc := ⟨⟨#[115, 112, 97, 114, 101]⟩, -77, -77, -77, ⟨#[115, 112, 97, 114, 101]⟩⟩
set_option maxRecDepth 100000 in
theorem spare_any (w : World) : Calls Try.prog 88 #[] w fun e w' => e = .returned (.agg #[.string ⟨#[115, 112, 97, 114, 101]⟩, .int .i64 (-77), .int .i64 (-77), .int .i64 (-77), .string ⟨#[115, 112, 97, 114, 101]⟩]) ∧ Below w.heap.size w w' := by
  go_enter Try.func88, Try.ntmps88
  go_wp2_with fail
  refine bodyPost_ret (v := .agg #[.string ⟨#[115, 112, 97, 114, 101]⟩, .int .i64 (-77), .int .i64 (-77), .int .i64 (-77), .string ⟨#[115, 112, 97, 114, 101]⟩]) (by simp [results, Try.results88, go_sem]) rfl ⟨rfl, ?_⟩
  exact (Below.refl _ _).alloc (Nat.le_refl _) _

set_option maxRecDepth 100000 in
set_option maxHeartbeats 2000000 in
theorem bytes_same (base1 base2 : Nat) (u v : Value) (l : List UInt8) (w : World) (hu : w.ownsRow base1 5 1 u l.length (Lib.byteCells l)) (hv : w.ownsRow base2 5 1 v l.length (Lib.byteCells l)) :
    Calls Try.prog 21 #[u, v] w fun e w' => e = .returned (.bool true) ∧ w' = w := by
  have h1 := own_string (P := Try.prog) hu 39 9 5 Try.underlying39 Try.underlying5 Try.underlying9
  have h2 := own_string (P := Try.prog) hv 39 9 5 Try.underlying39 Try.underlying5 Try.underlying9
  obtain ⟨S, hS⟩ : ∃ S : ByteArray, (⟨l.toArray⟩ : ByteArray) = S := ⟨_, rfl⟩
  rw [hS] at h1 h2
  have hss : (S.toList == S.toList) = true := by simp
  clear hu hv hS
  go_enter Try.func21, Try.ntmps21
  go_wp2_with fail
  go_ret
  exact ⟨rfl, rfl⟩

set_option maxRecDepth 100000 in
set_option maxHeartbeats 2000000 in
theorem records_same (a b : Option Addr) (n c d : Nat) (L : List Rc) (w : World) (hn : n = L.length) (hx : RdC w a 5 (L.map Rc.cells)) (hy : RdC w b 5 (L.map Rc.cells)) (hl : n ≤ 1099511627776) :
    Calls Try.prog 32 #[.slice a n c, .slice b n d] w fun e w' => e = .returned (.bool true) ∧ Below w.heap.size w w' := by
  have HN := Lib.hid hn; have HX := Lib.hid hx; have HY := Lib.hid hy
  clear hn hx hy
  go_enter Try.func32, Try.ntmps32
  go_wp2
  go_loopg [5, 13] (n + 1) (fun gas _ kv wr => ∃ (k : Nat), kv = .int .i64 k ∧ k ≤ n ∧ k + gas = n + 1 ∧ Hid (Below w.heap.size w wr))
  case atStart => exact ⟨0, rfl, by omega, by omega, Lib.hid (Below.refl _ _)⟩
  case round =>
    obtain ⟨k, rfl, hk, hkg, hB⟩ := hrel
    have HK := Lib.hid hkg; clear hkg
    by_cases hlt : k < n
    · obtain ⟨x, hp⟩ : ∃ x, L[k]? = some x := ⟨_, List.getElem?_eq_getElem (by have := HN.out; omega)⟩
      obtain ⟨g1, o1, rfl, hg1, hcl1⟩ := at_r HX.out hp
      obtain ⟨g2, o2, rfl, hg2, hcl2⟩ := at_r HY.out hp
      obtain ⟨x0, x1, x2, x3, x4⟩ := hcl1.below hB.out hg1
      obtain ⟨y0, y1, y2, y3, y4⟩ := hcl2.below hB.out hg2
      clear hp hcl1 hcl2
      have zk : (0 : Int) ≤ (k : Int) := by omega
      have zl : (k : Int) < (n : Int) := by omega
      go_wp2_with fail
      go_quiet (fail)
      have hBn : Hid (Below w.heap.size w (wr.drewN nq)) := Lib.hid (bel_drewN hB.out nq)
      go_wp2
      have hkg := HK.out
      go_roundg (gk - 1)
      case rel => exact ⟨k + 1, by go_num, by omega, by omega, hBn⟩
      case measure => omega
    · go_wp2_with fail
      go_ret
      exact ⟨rfl, hB.out⟩
set_option maxRecDepth 100000 in
set_option maxHeartbeats 2000000 in
theorem questions_same (a b : Option Addr) (n c d : Nat) (L : List Qn) (w : World) (hn : n = L.length) (hx : RdC w a 3 (L.map Qn.cells)) (hy : RdC w b 3 (L.map Qn.cells)) (hl : n ≤ 1099511627776) :
    Calls Try.prog 31 #[.slice a n c, .slice b n d] w fun e w' => e = .returned (.bool true) ∧ Below w.heap.size w w' := by
  have HN := Lib.hid hn; have HX := Lib.hid hx; have HY := Lib.hid hy
  clear hn hx hy
  go_enter Try.func31, Try.ntmps31
  go_wp2
  go_loopg [5, 13] (n + 1) (fun gas _ kv wr => ∃ (k : Nat), kv = .int .i64 k ∧ k ≤ n ∧ k + gas = n + 1 ∧ Hid (Below w.heap.size w wr))
  case atStart => exact ⟨0, rfl, by omega, by omega, Lib.hid (Below.refl _ _)⟩
  case round =>
    obtain ⟨k, rfl, hk, hkg, hB⟩ := hrel
    have HK := Lib.hid hkg; clear hkg
    by_cases hlt : k < n
    · obtain ⟨x, hp⟩ : ∃ x, L[k]? = some x := ⟨_, List.getElem?_eq_getElem (by have := HN.out; omega)⟩
      obtain ⟨g1, o1, rfl, hg1, hcl1⟩ := at_q HX.out hp
      obtain ⟨g2, o2, rfl, hg2, hcl2⟩ := at_q HY.out hp
      obtain ⟨x0, x1, x2⟩ := hcl1.below hB.out hg1
      obtain ⟨y0, y1, y2⟩ := hcl2.below hB.out hg2
      clear hp hcl1 hcl2
      have zk : (0 : Int) ≤ (k : Int) := by omega
      have zl : (k : Int) < (n : Int) := by omega
      go_wp2_with fail
      go_quiet (fail)
      have hBn : Hid (Below w.heap.size w (wr.drewN nq)) := Lib.hid (bel_drewN hB.out nq)
      go_wp2
      have hkg := HK.out
      go_roundg (gk - 1)
      case rel => exact ⟨k + 1, by go_num, by omega, by omega, hBn⟩
      case measure => omega
    · go_wp2_with fail
      go_ret
      exact ⟨rfl, hB.out⟩

theorem flat_snoc2 (L : List Rc) : L.flatMap Rc.cells ++ (spareR.cells ++ spareR.cells) = (L ++ [spareR, spareR]).flatMap Rc.cells := by simp
/-- a part of the rows -/
theorem rdc_part {w : World} {a : Option Addr} {n : Nat} {L M : List (List Value)} (h : RdC w a n (L ++ M)) : RdC w a n L := by
  intro j x hx
  exact h j x (by rw [List.getElem?_append_left (List.getElem?_eq_some_iff.1 hx).1]; exact hx)
set_option maxRecDepth 100000 in
set_option maxHeartbeats 4000000 in
theorem twin_any (a : Option Addr) (n c : Nat) (L : List Rc) (w : World) (hn : n = L.length) (hr : RdC w a 5 (L.map Rc.cells)) (ha : a = none → L.length = 0 ∧ c = 0) (hl : n ≤ 1099511627776) :
    Calls Try.prog 42 #[.slice a n c] w fun e w' => ∃ g cap, e = .returned (.slice (some ⟨g, 0, none⟩) n cap) ∧ n + 2 ≤ cap ∧ cap ≤ maxLen ∧ w'.ownsRow w.heap.size 52 5 (.slice (some ⟨g, 0, none⟩) (n + 2) cap) (n + 2) ((L ++ [spareR, spareR]).flatMap Rc.cells) ∧ Below w.heap.size w w' := by
  obtain ⟨i0, hi, hz0, hz1, hz2⟩ := info_parts infoRec
  have S1 := Lib.hid (cells_rd Rc.cells 5 (by decide) (fun _ => rfl) hr c ha)
  rw [← hn] at S1
  have HN := Lib.hid hn
  clear hr ha hn
  go_enter Try.func42, Try.ntmps42
  go_wp2_with (at_builtin; refine wpList_append_src rfl (.const (.slice none 0 0)) (.tmp 4) 35 rfl w.heap.size 52 i0 _ 5 56 Try.underlying35 hi hz0 hz1 hz2 rfl (by decide) _ 0 [] rfl (World.ownsRow_nil _ _ _ _) a n c (L.flatMap Rc.cells) rfl (by rw [flat_len Rc.cells 5 (fun _ => rfl), HN.out]) S1.out (one_cells rec_one) (by unfold maxLen; omega) (by omega) (Nat.le_refl _) ?_)
  intro v1 w1 hown1 hgr1
  have hB1 : Below w.heap.size w w1 := below_append' (Below.refl _ _) (Nat.le_refl _) (World.ownsRow_nil _ w.heap.size 52 5) hgr1
  have HOW1 : Hid (w1.ownsRow w.heap.size 52 5 v1 n (L.flatMap Rc.cells)) := Lib.hid (by first | exact hown1 | simpa using hown1)
  have HB1 := Lib.hid hB1
  clear hown1 hgr1 hB1
  go_wp2_with fail
  refine (spare_any _).mono ?_
  rintro e w2 ⟨rfl, hB2⟩
  go_wp2_with fail
  refine (spare_any _).mono ?_
  rintro e w3 ⟨rfl, hB3⟩
  have HB3 := Lib.hid (hB2.trans (hB3.mono hB2.size))
  have HOW3 : Hid (w3.ownsRow w.heap.size 52 5 v1 n (L.flatMap Rc.cells)) := Lib.hid (own_keptG HOW1.out (fun k cu hk => (HB3.out.block k (Array.getElem?_eq_some_iff.1 hk).1).trans hk))
  have HB1' := Lib.hid (HB1.out.trans (HB3.out.mono HB1.out.size))
  clear hB2 hB3
  have hz3 : w.heap.size ≤ w3.heap.size := HB1'.out.size
  go_wp2_with (at_builtin; refine wpList_append_own _ rfl _ _ 35 rfl w.heap.size 52 i0 _ 5 56 Try.underlying35 hi hz0 hz1 hz2 rfl (by decide) _ n (L.flatMap Rc.cells) rfl (HOW3.out.alloc _) ⟨w3.heap.size, 0, none⟩ 2 2 (spareR.cells ++ spareR.cells) rfl rfl ?c1 ?c2 ?c3 ?c4 ?c5 ?_)
  case c1 => exact World.news_of_block (heap_alloc_new _ _)
  case c2 => intro u hu; rcases List.mem_append.1 hu with h | h <;> exact rec_one _ _ h
  case c3 => unfold maxLen; omega
  case c4 => omega
  case c5 => simp; omega
  intro v4 w4 hown4 hgr4 _
  have hB4 : Below w.heap.size w w4 := ((HB1'.out.alloc hz3 _).grown hgr4 (by simp; omega) (fun k hk => (HOW3.out.lt k hk).1))
  rw [flat_snoc2] at hown4
  obtain ⟨g, cap, rfl, hg1, hg2, _, _, cur, hgh⟩ := rows.own_at hown4 (by omega)
  have hcap : n + 2 ≤ cap ∧ cap ≤ maxLen := by
    rcases hown4.2 with ⟨h0, _⟩ | ⟨g', cap', cur', hv, _, _, h1, h2, _⟩
    · cases h0
    · cases hv; exact ⟨h1, h2⟩
  have HOW4 := Lib.hid hown4; have HB4 := Lib.hid hB4; have HCAP := Lib.hid hcap
  have hcn : (n : Int) ≤ (cap : Int) := by omega
  have hcm : (cap : Int) ≤ 9223372036854775807 := by have := hcap.2; unfold maxLen at this; omega
  clear hown4 hgr4 hB4 hcap hgh
  go_wp2_with fail
  go_ret
  exact ⟨g, cap, rfl, HCAP.out.1, HCAP.out.2, HOW4.out, HB4.out⟩
end Go.Proofs.Ytabhiangjomaeaa.same

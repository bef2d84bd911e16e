/- signer.Roll: walk. gazetteerref4.RightLine: walk. gazetteerref4.Roll: walk. -/
import Derived.Test.YtnamkladeaohoaaR27
import Derived.Test.YtnamkladeaohoaaK3
import Derived.Test.YtnamkladeaohoaaK16
import Derived.Deep.AppendLies
namespace Go.Proofs.Ytnamkladeaohoaa.roll
open Go.RowKit Go.Proofs.Ytnamkladeaohoaa.kit Go.Proofs.Ytnamkladeaohoaa.timed Go.Proofs.Ytnamkladeaohoaa.rows Go.Proofs.Ytnamkladeaohoaa.safeP Go.Proofs.Ytnamkladeaohoaa.right Go.Proofs.Ytnamkladeaohoaa.pub Go.Proofs.Ytnamkladeaohoaa.age Go.Proofs.Ytnamkladeaohoaa.line Go.Proofs.Ytnamkladeaohoaa.contains Go.Proofs.Ytnamkladeaohoaa.rollP Go.Proofs.Ytnamkladeaohoaa.rollA Go.Proofs.Ytnamkladeaohoaa.cloneT
set_option linter.unusedVariables false

theorem flat_set {α : Type} (f : α → List Value) (m : Nat) (hf : ∀ x, (f x).length = m) : ∀ (L : List α) (i j : Nat) (x y : α) (u : Value), L[i]? = some x → j < m → (f x).set j u = f y → (L.flatMap f).set (i * m + j) u = (L.set i y).flatMap f
  | [], i, j, x, y, u, h, _, _ => by simp at h
  | z :: L, 0, j, x, y, u, h, hj, hs => by
    simp at h; subst h
    rw [List.flatMap_cons, Nat.zero_mul, Nat.zero_add, List.set_cons_zero, List.flatMap_cons, List.set_append_left _ _ (by rw [hf]; exact hj), hs]
  | z :: L, i + 1, j, x, y, u, h, hj, hs => by
    rw [List.flatMap_cons, List.set_append_right _ _ (by rw [hf, Nat.succ_mul]; omega), hf, show (i + 1) * m + j - m = i * m + j by rw [Nat.succ_mul]; omega, List.set_cons_succ, List.flatMap_cons, flat_set f m hf L i j x y u (by simpa using h) hj hs]
theorem own_put {w : World} {base : Nat} {e : TypeId} {g n cap size : Nat} {xs : List Value} (h : w.ownsRow base e size (.slice (some ⟨g, 0, none⟩) n cap) n xs) (k : Nat) (hk : k < n * size) (u : Value) :
    (w.setCell ⟨g, k, none⟩ u).ownsRow base e size (.slice (some ⟨g, 0, none⟩) n cap) n (xs.set k u) := by
  obtain ⟨h1, h2⟩ := h
  rcases h2 with ⟨h2, _⟩ | ⟨g', cap', cur, hv, hg, hh, r1, r2, r3, r4⟩
  · cases h2
  · cases hv
    refine ⟨by rw [List.length_set]; exact h1, .inr ⟨g, cap, _, rfl, hg, heap_setCell_same w g k cur e u hh, r1, r2, by simpa using r3, ?_⟩⟩
    rw [← r4, Array.toList_setIfInBounds, List.take_set]
theorem own_at8 {w : World} {base g n cap : Nat} {L : List Tm} (h : w.ownsRow base 36 8 (.slice (some ⟨g, 0, none⟩) n cap) n (L.flatMap Tm.cells)) {i : Nat} {x : Tm} (hx : L[i]? = some x) (j : Nat) (u : Value) (hu : x.cells[j]? = some u) : w.cell? ⟨g, i * 8 + j, none⟩ = some u := by
  have := h.cells (g := g) rfl (i * 8 + j) u (flat_at Tm.cells 8 (fun _ => rfl) L i x j u hx hu)
  rw [addr_add] at this; exact this
theorem own_fz {w : World} {base g n cap : Nat} {xs : List Value} {size : Nat} {e : TypeId} (h : w.ownsRow base e size (.slice (some ⟨g, 0, none⟩) n cap) n xs) (j : Nat) : w.frozen? ⟨g, j, none⟩ = false := by
  rcases h.2 with ⟨h2, _⟩ | ⟨g', cap', cur, hv, hg, hh, _⟩
  · cases h2
  · cases hv; simp [World.frozen?, hh]
theorem own_one {w : World} {base n : Nat} {a : Option Addr} {c : Nat} {xs : List Value} {size : Nat} {e : TypeId} (h : w.ownsRow base e size (.slice a n c) n xs) (hn : 1 ≤ n) : ∃ g, a = some ⟨g, 0, none⟩ ∧ base ≤ g ∧ n ≤ c ∧ c ≤ maxLen := by
  rcases h.2 with ⟨_, h2⟩ | ⟨g, cap, cur, hv, hg, hh, h3, h4, _⟩
  · omega
  · injection hv with e1 e2 e3
    subst e3
    exact ⟨g, e1, hg, h3, h4⟩
def RollE (b0 : Nat) (w0 : World) (R : List Tm × Int) (en : Ending) (w' : World) : Prop :=
  ∃ a' c', en = .returned (.tuple #[.slice a' R.1.length c', .int .i64 R.2]) ∧ w'.ownsRow b0 36 8 (.slice a' R.1.length c') R.1.length (R.1.flatMap Tm.cells) ∧ Below b0 w0 w'
theorem rollE_no {b0 : Nat} {w0 w' : World} {R : List Tm × Int} {x : Int} (h : R = ([], x)) (hB : Below b0 w0 w') : RollE b0 w0 R (.returned (.tuple #[.slice none 0 0, .int .i64 x])) w' := by
  subst h
  exact ⟨none, 0, rfl, World.ownsRow_nil _ _ _ _, hB⟩
theorem loop_end {L : List Tm} {k : Nat} {at' : Int} {n : Nat} (h : L.length ≤ k) : loopN (L.drop k) k at' n = (at', n) := by
  rw [List.drop_of_length_le h]; rfl
theorem loop_yes {L : List Tm} {k : Nat} {t : Tm} {at' : Int} {n : Nat} (h : L[k]? = some t) (ht : t.r = 4294967296) : loopN (L.drop k) k at' n = loopN (L.drop (k + 1)) (k + 1) (k : Int) (n + 1) := by
  obtain ⟨hk, he⟩ := List.getElem?_eq_some_iff.1 h
  rw [List.drop_eq_getElem_cons hk, he]
  conv => lhs; unfold loopN
  rw [if_pos ht]
theorem loop_no {L : List Tm} {k : Nat} {t : Tm} {at' : Int} {n : Nat} (h : L[k]? = some t) (ht : t.r ≠ 4294967296) : loopN (L.drop k) k at' n = loopN (L.drop (k + 1)) (k + 1) at' n := by
  obtain ⟨hk, he⟩ := List.getElem?_eq_some_iff.1 h
  rw [List.drop_eq_getElem_cons hk, he]
  conv => lhs; unfold loopN
  rw [if_neg ht]
/-- the answer, once the ages are right -/
theorem roll_age {L : List Tm} {f m e s now ka sa : Int} (h : (ageB' ka && ageB' sa) = false) : rollS L f m e s now ka sa = ([], 23) := by unfold rollS; rw [if_pos h]
theorem roll_form {L : List Tm} {f m e s now ka sa : Int} (h : (ageB' ka && ageB' sa) = true) (h1 : (loopN L 0 (-1) 0).2 ≠ 1 ∨ lineB L = false) : rollS L f m e s now ka sa = ([], 8) := by unfold rollS; rw [if_neg (by rw [h]; decide), if_pos h1]
theorem roll_key {L : List Tm} {f m e s now ka sa : Int} (h : (ageB' ka && ageB' sa) = true) (h1 : ¬ ((loopN L 0 (-1) 0).2 ≠ 1 ∨ lineB L = false)) (h2 : rightB f m e s = false) : rollS L f m e s now ka sa = ([], 24) := by unfold rollS; rw [if_neg (by rw [h]; decide), if_neg h1, if_pos h2]
theorem roll_twice {L : List Tm} {f m e s now ka sa : Int} (h : (ageB' ka && ageB' sa) = true) (h1 : ¬ ((loopN L 0 (-1) 0).2 ≠ 1 ∨ lineB L = false)) (h2 : rightB f m e s = true) (h3 : L.any (sameP f m e s) = true) : rollS L f m e s now ka sa = ([], 19) := by unfold rollS; rw [if_neg (by rw [h]; decide), if_neg h1, if_neg (by rw [h2]; decide), if_pos h3]
theorem roll_t {L : List Tm} {f m e s now ka sa : Int} (h : (ageB' ka && ageB' sa) = true) (h1 : ¬ ((loopN L 0 (-1) 0).2 ≠ 1 ∨ lineB L = false)) (h2 : rightB f m e s = true) (h3 : L.any (sameP f m e s) = false) {i : Nat} {x : Tm} (hi : (loopN L 0 (-1) 0).1 = (i : Int)) (hx : L[i]? = some x) : rollS L f m e s now ka sa = rollT L i x f m e s now ka sa := by
  unfold rollS
  rw [if_neg (by rw [h]; decide), if_neg h1, if_neg (by rw [h2]; decide), if_neg (by rw [h3]; decide), hi]
  simp only [Int.toNat_natCast, hx]
theorem rolled_flat {L : List Tm} {i : Nat} {x : Tm} (f m e s now ka sa : Int) (hx : L[i]? = some x) : (rolled L i x f m e s now ka sa).flatMap Tm.cells = (((L.flatMap Tm.cells).set (i * 8 + 6) (.int .i64 (now + ka))).set (i * 8 + 7) (.int .i64 (now + ka + sa))) ++ (newT f m e s now ka).cells := by
  have hil : i < L.length := (List.getElem?_eq_some_iff.1 hx).1
  rw [flat_set Tm.cells 8 (fun _ => rfl) L i 6 x { x with r := now + ka } _ hx (by decide) rfl, flat_set Tm.cells 8 (fun _ => rfl) (L.set i { x with r := now + ka }) i 7 { x with r := now + ka } { x with r := now + ka, v := now + ka + sa } _ (by rw [List.getElem?_set_self hil]) (by decide) rfl, List.set_set]
  unfold rolled
  rw [List.flatMap_append]
  simp
theorem below_row {b0 g : Nat} {w0 w : World} (h : Below b0 w0 w) (hg : b0 ≤ g) (k : Nat) (u : Value) : Below b0 w0 (w.setCell ⟨g, k, none⟩ u) := h.setCell (p := ⟨g, k, none⟩) hg u
theorem key_new (w : World) (f m e s : Int) : KeyAt (w.alloc (.cells #[.int .i64 f, .int .i64 m, .int .i64 e, .int .i64 s] 32)) w.heap.size f m e s := by
  have hx := heap_alloc_new w (.cells #[.int .i64 f, .int .i64 m, .int .i64 e, .int .i64 s] 32)
  exact ⟨by simp only [World.cell?, hx]; rfl, by simp only [World.cell?, hx]; rfl, by simp only [World.cell?, hx]; rfl, by simp only [World.cell?, hx]; rfl⟩

set_option maxRecDepth 100000 in
set_option maxHeartbeats 8000000 in
theorem roll_any (a : Option Addr) (n c : Nat) (L : List Tm) (f m e s now ka sa : Int) (w : World) (hn : n = L.length) (hr : RdC w a 8 (L.map Tm.cells)) (ha : a = none → L.length = 0 ∧ c = 0) (hbig : n ≤ 1099511627776) (hw1 : -9223372036854775808 ≤ now) (hw2 : now ≤ 9223372036854775807) :
    Calls Try.prog 10 #[.slice a n c, .agg #[.int .i64 f, .int .i64 m, .int .i64 e, .int .i64 s], .int .i64 now, .int .i64 ka, .int .i64 sa] w (RollE w.heap.size w (rollS L f m e s now ka sa)) := by
  obtain ⟨R, hR⟩ : ∃ R, rollS L f m e s now ka sa = R := ⟨_, rfl⟩
  rw [hR]
  have hB0 := (Below.refl w.heap.size w).alloc (Nat.le_refl _) (.cells #[.int .i64 f, .int .i64 m, .int .i64 e, .int .i64 s] 32)
  have hk0 := key_new w f m e s
  obtain ⟨b0, hb⟩ : ∃ b0, w.heap.size = b0 := ⟨_, rfl⟩
  obtain ⟨W, hW⟩ : ∃ W, w.alloc (.cells #[.int .i64 f, .int .i64 m, .int .i64 e, .int .i64 s] 32) = W := ⟨_, rfl⟩
  rw [hW] at hB0 hk0
  rw [hb] at hk0 hB0
  have HBB := Lib.hid hb; have HW := Lib.hid hW; have HR := Lib.hid hR; have HN := Lib.hid hn; have HRD := Lib.hid hr; have HAN := Lib.hid ha; have HB0 := Lib.hid hB0; have HK0 := Lib.hid hk0
  have HRW := Lib.hid (fun (wx : World) (hB : Below b0 w wx) => hr.below hB hb.symm)
  have CK := Lib.hid (fun w => age_any ka w)
  have CS := Lib.hid (fun w => age_any sa w)
  rw [hb]
  clear hR hW hn hr ha hB0 hk0 hb
  go_enter Try.func10, Try.ntmps10
  go_upto_region 1 with fail
  rw [HW.out]
  try rw [HBB.out]
  cases hka : ageB ka with
  | false =>
    have HRR : Hid (R = ([], 23)) := Lib.hid (by rw [← HR.out]; exact roll_age (by show (ageB ka && _) = false; rw [hka]; rfl))
    rw [hka] at CK
    trace "1"
    go_wp2_with fail
    refine (CK.out _).mono ?_
    rintro en w1 ⟨rfl, rfl⟩
    go_wp2_with fail
    go_ret2
    exact rollE_no HRR.out HB0.out
  | true =>
  rw [hka] at CK
  cases hsa : ageB sa with
  | false =>
    have HRR : Hid (R = ([], 23)) := Lib.hid (by rw [← HR.out]; exact roll_age (by show (_ && ageB sa) = false; rw [hsa]; exact Bool.and_false _))
    rw [hsa] at CS
    trace "2"
    go_wp2_with fail
    refine (CK.out _).mono ?_
    rintro en w1 ⟨rfl, rfl⟩
    go_wp2_with fail
    refine (CS.out _).mono ?_
    rintro en w1 ⟨rfl, rfl⟩
    go_wp2_with fail
    go_ret2
    exact rollE_no HRR.out HB0.out
  | true =>
  rw [hsa] at CS
  have HAG : Hid ((ageB' ka && ageB' sa) = true) := Lib.hid (by show (ageB ka && ageB sa) = true; rw [hka, hsa]; rfl)
  have hkb := age_in (v := ka) hka; have hsb := age_in (v := sa) hsa
  have HLP : Hid (loopN (L.drop 0) 0 (-1) 0 = loopN L 0 (-1) 0) := Lib.hid (by rw [List.drop_zero])
  obtain ⟨LR, hLR⟩ : ∃ LR, loopN L 0 (-1) 0 = LR := ⟨_, rfl⟩
  rw [hLR] at HLP
  have HLR := Lib.hid hLR
  clear hka hsa hLR
  trace "3"
  go_wp2_with fail
  refine (CK.out _).mono ?_
  rintro en w1 ⟨rfl, hq⟩
  rw [hq]
  clear hq w1
  go_wp2_with fail
  refine (CS.out _).mono ?_
  rintro en w1 ⟨rfl, hq⟩
  rw [hq]
  clear hq w1 CK CS
  trace "4"
  go_wp2_with fail
  go_loopg [12, 13, 28] (n + 1) (fun gas av nv kv wr => ∃ (k q : Nat) (at' : Int), av = .int .i64 at' ∧ nv = .int .i64 (q : Int) ∧ kv = .int .i64 (k : Int) ∧ k ≤ n ∧ k + gas = n + 1 ∧ q ≤ k ∧ Hid (loopN (L.drop k) k at' q = LR) ∧ Hid (KeyAt wr b0 f m e s) ∧ Hid (Below b0 w wr))
  case atStart => exact ⟨0, 0, -1, rfl, rfl, rfl, by omega, by omega, by omega, HLP, HK0, HB0⟩
  case round =>
    clear HLP HK0 HB0
    obtain ⟨k, q, at', rfl, rfl, rfl, hk, hkg, hq, HL, HKA, HB⟩ := hrel
    have HK := Lib.hid hkg; clear hkg
    by_cases hlt : k < n
    · obtain ⟨t, hx⟩ : ∃ t, L[k]? = some t := ⟨_, List.getElem?_eq_getElem (by have := HN.out; omega)⟩
      obtain ⟨g1, o1, rfl, hg1, hcl1⟩ := HRD.out.at_t hx
      obtain ⟨x0, x1, x2, x3, x4, x5, x6, x7⟩ := hcl1.below HB.out (by rw [← HBB.out]; exact hg1)
      have zk : (0 : Int) ≤ (k : Int) := by omega
      have zl : (k : Int) < (n : Int) := by omega
      have hbz : b0 ≤ wr.heap.size := by have h := HB.out.size; rw [HBB.out] at h; exact h
      have hBn := (Below.refl wr.heap.size wr).alloc (Nat.le_refl _) (.cells #[.int .i64 t.f, .int .i64 t.m, .int .i64 t.e, .int .i64 t.s, .int .i64 t.p, .int .i64 t.a, .int .i64 t.r, .int .i64 t.v] 36)
      have HKN := Lib.hid (HKA.out.below hBn)
      have HBN := Lib.hid (HB.out.trans (hBn.mono hbz))
      clear hcl1 hlt hBn hbz
      by_cases ht : t.r = 4294967296
      · have HLN := Lib.hid ((loop_yes hx ht).symm.trans HL.out)
        obtain ⟨tf, tm, te, ts, tp, ta, tr, tv⟩ := t
        dsimp only at ht x0 x1 x2 x3 x4 x5 x6 x7 HKN HBN
        subst ht
        clear hx HL
        trace "5"
        go_wp2_with fail
        have hkg := HK.out
        go_roundg (gk - 1)
        case rel => exact ⟨k + 1, q + 1, (k : Int), by go_num, by go_num, by go_num, by omega, by omega, by omega, HLN, HKN, HBN⟩
        case measure => omega
      · have HLN := Lib.hid ((loop_no hx ht).symm.trans HL.out)
        have hte : (t.r == 4294967296) = false := by rw [beq_eq_false_iff_ne]; exact ht
        clear hx HL
        trace "6"
        go_wp2_with fail
        have hkg := HK.out
        go_roundg (gk - 1)
        case rel => exact ⟨k + 1, q, at', by go_num, by go_num, by go_num, by omega, by omega, by omega, HLN, HKN, HBN⟩
        case measure => omega
    · have hke : k = n := by omega
      subst hke
      have hz : ¬ (k : Int) < (k : Int) := by omega
      have hLE : LR = (at', q) := by rw [← HL.out]; exact loop_end (by rw [HN.out]; exact Nat.le_refl _)
      subst hLE
      have hbz : b0 ≤ wr.heap.size := by have h := HB.out.size; rw [HBB.out] at h; exact h
      clear HL HK hk
      by_cases hq1 : ¬ q = 1
      · have HRR : Hid (R = ([], 8)) := Lib.hid (by rw [← HR.out]; exact roll_form HAG.out (.inl (by rw [HLR.out]; exact hq1)))
        have hqe : ((q : Int) == 1) = false := by rw [beq_eq_false_iff_ne]; omega
        have hqn : ¬ (q : Int) = 1 := by omega
        trace "7"
        go_wp2_with fail
        go_ret2
        exact rollE_no HRR.out HB.out
      obtain rfl : q = 1 := by omega
      obtain ⟨i, x, hi1, hi2, hi3, hi4⟩ := loopN_one L 0 (-1) 0 (by rw [HLR.out])
      rw [HLR.out] at hi1
      simp only [Nat.zero_add] at hi1
      subst hi1
      have HI := Lib.hid hi2
      have hil : i < k := by rw [HN.out]; exact (List.getElem?_eq_some_iff.1 hi2).1
      have CL := Lib.hid (line_any a k c L wr HN.out (HRW.out wr HB.out) hbig)
      clear hi2 hi3 hi4
      cases hl : lineB L with
      | false =>
        have HRR : Hid (R = ([], 8)) := Lib.hid (by rw [← HR.out]; exact roll_form HAG.out (.inr hl))
        rw [hl] at CL
        trace "8"
        go_wp2_with fail
        refine CL.out.mono ?_
        rintro en w2 ⟨rfl, hB2⟩
        have HB2 := Lib.hid (HB.out.trans (hB2.mono hbz))
        clear hB2
        go_wp2_with fail
        go_ret2
        exact rollE_no HRR.out HB2.out
      | true =>
      rw [hl] at CL
      have HNF : Hid (¬ ((loopN L 0 (-1) 0).2 ≠ 1 ∨ lineB L = false)) := Lib.hid (by rw [HLR.out, hl]; simp)
      have hk50 : k ≤ 50 := by rw [HN.out]; exact (line_in hl).2
      clear hl
      trace "9"
      go_wp2_with fail
      refine CL.out.mono ?_
      rintro en w2 ⟨rfl, hB2⟩
      have HB2 := Lib.hid (HB.out.trans (hB2.mono hbz))
      have HKA2 := Lib.hid (HKA.out.below hB2)
      have hbz2 : b0 ≤ w2.heap.size := Nat.le_trans hbz hB2.size
      have CP := Lib.hid (pub_any f m e s w2)
      have hpe := pub_empty f m e s
      obtain ⟨S, hS⟩ : ∃ S : ByteArray, (⟨(pubS f m e s).toArray⟩ : ByteArray) = S := ⟨_, rfl⟩
      rw [hS] at CP hpe
      have k0 := HKA2.out.c0; have k1 := HKA2.out.c1; have k2 := HKA2.out.c2; have k3 := HKA2.out.c3
      clear hB2 CL HB HKA hbz hS
      trace "10"
      go_wp2_with fail
      refine CP.out.mono ?_
      rintro en w3 ⟨rfl, hB3⟩
      have HB3 := Lib.hid (HB2.out.trans (hB3.mono hbz2))
      have HKA3 := Lib.hid (HKA2.out.below hB3)
      have hbz3 : b0 ≤ w3.heap.size := Nat.le_trans hbz2 hB3.size
      clear hB3 CP HB2 HKA2 hbz2 k0 k1 k2 k3
      cases hrt : rightB f m e s with
      | false =>
        have HRR : Hid (R = ([], 24)) := Lib.hid (by rw [← HR.out]; exact roll_key HAG.out HNF.out hrt)
        rw [hrt] at hpe
        simp only [Bool.not_false] at hpe
        clear hrt
        trace "11"
        go_wp2_with fail
        go_ret2
        exact rollE_no HRR.out HB3.out
      | true =>
      have HRT := Lib.hid hrt
      rw [hrt] at hpe
      simp only [Bool.not_true] at hpe
      have CC := Lib.hid (contains_any 21 #[.pointer (some ⟨b0, 0, none⟩)] (sameP f m e s) a k c L w3 (fun _ _ => rfl) HN.out (HRW.out w3 HB3.out) hbig (fun t _ wx hB => same_any t b0 f m e s wx (HKA3.out.below hB)))
      clear hrt
      cases hany : L.any (sameP f m e s) with
      | true =>
        have HRR : Hid (R = ([], 19)) := Lib.hid (by rw [← HR.out]; exact roll_twice HAG.out HNF.out HRT.out hany)
        rw [hany] at CC
        clear hany
        trace "12"
        go_wp2_with fail
        refine CC.out.mono ?_
        rintro en w4 ⟨rfl, hB4⟩
        have HB4 := Lib.hid (HB3.out.trans (hB4.mono hbz3))
        clear hB4
        go_wp2_with fail
        go_ret2
        exact rollE_no HRR.out HB4.out
      | false =>
      have HRO : Hid (rollT L i x f m e s now ka sa = R) := Lib.hid (by rw [← HR.out]; exact (roll_t HAG.out HNF.out HRT.out hany (by rw [HLR.out]) HI.out).symm)
      rw [hany] at CC
      clear hany
      trace "13"
      go_wp2_with fail
      refine CC.out.mono ?_
      rintro en w4 ⟨rfl, hB4⟩
      have HB4 := Lib.hid (HB3.out.trans (hB4.mono hbz3))
      have HKA4 := Lib.hid (HKA3.out.below hB4)
      have hbz4 : b0 ≤ w4.heap.size := Nat.le_trans hbz3 hB4.size
      obtain ⟨g1, o1, rfl, hg1, hcl1⟩ := HRD.out.at_t HI.out
      obtain ⟨x0, x1, x2, x3, x4, x5, x6, x7⟩ := hcl1.below HB4.out (by rw [← HBB.out]; exact hg1)
      have zk : (0 : Int) ≤ (i : Int) := by omega
      have zl : (i : Int) < (k : Int) := by omega
      clear hB4 CC HB3 HKA3 hbz3 hcl1 hpe x0 x1 x2 x3 x4 x6 x7
      by_cases hbusy : now < x.a
      · have HRR : Hid (R = ([], 29)) := Lib.hid (by rw [← HRO.out]; unfold rollT; rw [if_pos hbusy])
        have e1 : decide (now < x.a) = true := decide_eq_true hbusy
        trace "14"
        go_wp2_with fail
        go_ret2
        exact rollE_no HRR.out HB4.out
      have e1 : decide (now < x.a) = false := decide_eq_false hbusy
      by_cases htime : 4294967295 < now + ka + sa
      · have HRR : Hid (R = ([], 25)) := Lib.hid (by rw [← HRO.out]; unfold rollT; rw [if_neg hbusy, if_pos htime])
        have e2 : decide (4294967295 - ka - sa < now) = true := decide_eq_true (by omega)
        have e3 : 4294967295 - ka - sa < now := by omega
        clear htime
        trace "15"
        go_wp2_with fail
        go_ret2
        exact rollE_no HRR.out HB4.out
      have e2 : decide (4294967295 - ka - sa < now) = false := decide_eq_false (by omega)
      have e3 : ¬ 4294967295 - ka - sa < now := by omega
      by_cases hmany : L.length = 50
      · have HRR : Hid (R = ([], 20)) := Lib.hid (by rw [← HRO.out]; unfold rollT; rw [if_neg hbusy, if_neg htime, if_pos hmany])
        have hk5 : k = 50 := by rw [HN.out]; exact hmany
        subst hk5
        trace "16"
        go_wp2_with fail
        go_ret2
        exact rollE_no HRR.out HB4.out
      have HRR : Hid (R = (rolled L i x f m e s now ka sa, 0)) := Lib.hid (by rw [← HRO.out]; unfold rollT; rw [if_neg hbusy, if_neg htime, if_neg hmany])
      have hk5 : ¬ k = 50 := by rw [HN.out]; exact hmany
      have hke5 : ((k : Int) == 50) = false := by rw [beq_eq_false_iff_ne]; omega
      have hki5 : ¬ (k : Int) = 50 := by omega
      have hxa := (ok_in ((line_in (show lineB L = true from by cases h : lineB L with | true => rfl | false => exact absurd (.inr h) HNF.out)).1 x (List.mem_of_getElem? HI.out)))
      have hnow0 : 0 ≤ now := by omega
      have CLO := Lib.hid (clone_tm (some ⟨g1, o1, none⟩) k c L w4 HN.out (HRW.out w4 HB4.out) (fun h => by cases h) hbig)
      clear hmany HRO hxa
      trace "17"
      go_wp2_with fail
      refine CLO.out.mono ?_
      rintro en w5 ⟨a5, c5, rfl, ho5, hB5⟩
      obtain ⟨g5, rfl, hg5, hc5, hcm5⟩ := own_one ho5 (by omega)
      have ho5' : w5.ownsRow b0 36 8 (.slice (some ⟨g5, 0, none⟩) k c5) k (L.flatMap Tm.cells) := by
        refine ⟨ho5.1, ?_⟩
        rcases ho5.2 with h1 | ⟨g, cap, cur, h1, h2, h3⟩
        · exact .inl h1
        · exact .inr ⟨g, cap, cur, h1, Nat.le_trans hbz4 h2, h3⟩
      have y6 := own_at8 ho5' HI.out 6 _ rfl
      have y7 := own_at8 ho5' HI.out 7 _ rfl
      have z6 := own_fz ho5' (i * 8 + 6)
      have z7 := own_fz ho5' (i * 8 + 7)
      have HB5 := Lib.hid (HB4.out.trans (hB5.mono hbz4))
      have HKA5 := Lib.hid (HKA4.out.below hB5)
      have HO5 := Lib.hid ho5'
      have hgb : b0 < g5 := Nat.lt_of_lt_of_le (World.block_lt_of_cell? w4 _ HKA4.out.c0) hg5
      clear ho5 ho5' hB5 CLO HB4 HKA4 hc5 hg5
      trace "18"
      go_upto_region 26 with fail
      have ho6 := own_put (own_put HO5.out (i * 8 + 6) (by omega) (.int .i64 (now + ka))) (i * 8 + 7) (by omega) (.int .i64 (now + ka + sa))
      have hB6 := below_row (below_row HB5.out (Nat.le_of_lt hgb) (i * 8 + 6) (.int .i64 (now + ka))) (Nat.le_of_lt hgb) (i * 8 + 7) (.int .i64 (now + ka + sa))
      have hk6 : KeyAt ((w5.setCell ⟨g5, i * 8 + 6, none⟩ (.int .i64 (now + ka))).setCell ⟨g5, i * 8 + 7, none⟩ (.int .i64 (now + ka + sa))) b0 f m e s := by
        have h := HKA5.out
        have far : ∀ j, ((w5.setCell ⟨g5, i * 8 + 6, none⟩ (.int .i64 (now + ka))).setCell ⟨g5, i * 8 + 7, none⟩ (.int .i64 (now + ka + sa))).cell? ⟨b0, j, none⟩ = w5.cell? ⟨b0, j, none⟩ := fun j => by
          rw [World.cell?_setCell_other _ _ _ _ (by intro h; injection h with h1 _; omega), World.cell?_setCell_other _ _ _ _ (by intro h; injection h with h1 _; omega)]
        exact ⟨(far 0).trans h.c0, (far 1).trans h.c1, (far 2).trans h.c2, (far 3).trans h.c3⟩
      obtain ⟨w6, hw6⟩ : ∃ w6, (w5.setCell ⟨g5, i * 8 + 6, none⟩ (.int .i64 (now + ka))).setCell ⟨g5, i * 8 + 7, none⟩ (.int .i64 (now + ka + sa)) = w6 := ⟨_, rfl⟩
      rw [hw6] at ho6 hB6 hk6 ⊢
      obtain ⟨XS, hXS⟩ : ∃ XS, ((L.flatMap Tm.cells).set (i * 8 + 6) (.int .i64 (now + ka))).set (i * 8 + 7) (.int .i64 (now + ka + sa)) = XS := ⟨_, rfl⟩
      rw [hXS] at ho6
      have HXS := Lib.hid hXS; have HO6 := Lib.hid ho6; have HB6 := Lib.hid hB6
      have k0 := hk6.c0; have k1 := hk6.c1; have k2 := hk6.c2; have k3 := hk6.c3
      have hbz6 : b0 ≤ w6.heap.size := by have h := hB6.size; rw [HBB.out] at h; exact h
      obtain ⟨i0, hif, hz0, hz1, hz2⟩ := info_parts infoTm
      clear hw6 hXS ho6 hB6 hk6 y6 y7 z6 z7 HB5 HKA5 HO5 x5
      trace "19"
      go_wp2_with (at_builtin; refine wpList_append_lies _ rfl _ _ 22 rfl b0 36 i0 _ 8 64 Try.underlying22 hif hz0 hz1 hz2 rfl (by decide) (.slice (some ⟨g5, 0, none⟩) k c5) k XS rfl (HO6.out.alloc _) ⟨w6.heap.size, 0, none⟩ 1 1 (newT f m e s now ka).cells rfl rfl ?d1 ?d2 (by decide) ?d3 ?d4 ?d5 _ rfl ?_)
      case d1 => exact World.news_of_block (heap_alloc_new _ _)
      case d2 => exact fun u hu => tm_one _ u hu
      case d3 => unfold maxLen; omega
      case d4 => omega
      case d5 => simp; omega
      intro g7 cp w7 hown7 hgr hat hlt7
      have HB7 := Lib.hid (below_append' (HB6.out.alloc hbz6 (.cells #[.int .i64 f, .int .i64 m, .int .i64 e, .int .i64 s, .int .i64 now, .int .i64 (now + ka), .int .i64 4294967296, .int .i64 4294967296] 36)) (by simp; omega) (HO6.out.alloc _) hgr)
      have HO7 : Hid (w7.ownsRow b0 36 8 (.slice (some ⟨g7, 0, none⟩) (k + 1) cp) (k + 1) ((rolled L i x f m e s now ka sa).flatMap Tm.cells)) := Lib.hid (by rw [rolled_flat f m e s now ka sa HI.out, HXS.out]; exact hown7)
      have HRL : Hid ((rolled L i x f m e s now ka sa).length = k + 1) := Lib.hid (by unfold rolled; rw [List.length_append, List.length_set, List.length_singleton, HN.out])
      clear hown7 hgr hat hlt7 hif hz0 hz1 hz2
      trace "20"
      go_wp2_with fail
      go_ret2
      rw [HRR.out]
      refine ⟨some ⟨g7, 0, none⟩, cp, ?_, ?_, HB7.out⟩
      · dsimp only
        rw [HRL.out]
        rfl
      · dsimp only
        rw [HRL.out]
        exact HO7.out
end Go.Proofs.Ytnamkladeaohoaa.roll
namespace Go.Proofs.Ytnamkladeaohoaa.rline
open Go.RowKit Go.Proofs.Ytnamkladeaohoaa.kit Go.Proofs.Ytnamkladeaohoaa.timed Go.Proofs.Ytnamkladeaohoaa.safeP Go.Proofs.Ytnamkladeaohoaa.right Go.Proofs.Ytnamkladeaohoaa.rightBB Go.Proofs.Ytnamkladeaohoaa.line
set_option linter.unusedVariables false

theorem cell_of {w : World} {X i : Nat} {cs : Array Value} {t : TypeId} {v : Value} (h : w.heap[X]? = some (.cells cs t (0, 0))) (hv : cs[i]? = some v) : w.cell? ⟨X, i, none⟩ = some v := by
  simp only [World.cell?, h]; exact hv
set_option maxRecDepth 100000 in
set_option maxHeartbeats 8000000 in
theorem rline_any (a : Option Addr) (n c : Nat) (L : List Tm) (w : World) (hn : n = L.length) (hr : RdC w a 8 (L.map Tm.cells)) (hbig : n ≤ 1099511627776) :
    Calls Try.prog 7 #[.slice a n c] w fun e w' => e = .returned (.bool (lineB L)) ∧ Below w.heap.size w w' := by
  obtain ⟨R, hR⟩ : ∃ R, L.all okT = R := ⟨_, rfl⟩
  have hl : lineB L = (R && decide (n ≤ 50)) := by unfold lineB; rw [hR, hn]
  rw [hl]
  have HR := Lib.hid hR
  have HN := Lib.hid hn; have HRD := Lib.hid hr
  clear hn hr hR hl
  go_enter Try.func7, Try.ntmps7
  go_wp2_with fail
  go_loopg [7] (n + 1) (fun gas kv wr => ∃ (k : Nat), kv = .int .i64 k ∧ k ≤ n ∧ k + gas = n + 1 ∧ Hid ((L.drop k).all okT = R) ∧ Hid (Below w.heap.size w wr))
  case atStart => exact ⟨0, rfl, by omega, by omega, Lib.hid (by rw [List.drop_zero]; exact HR.out), Lib.hid (Below.refl _ _)⟩
  case round =>
    obtain ⟨k, rfl, hk, hkg, HW, HB⟩ := hrel
    have HK := Lib.hid hkg; clear hkg
    by_cases hlt : k < n
    · obtain ⟨t, hx⟩ : ∃ t, L[k]? = some t := ⟨_, List.getElem?_eq_getElem (by have := HN.out; omega)⟩
      obtain ⟨g1, o1, rfl, hg1, hcl1⟩ := HRD.out.at_t hx
      obtain ⟨z0, z1, z2, z3, z4, z5, z6, z7⟩ := hcl1.below HB.out hg1
      have HST := Lib.hid ((all_step hx).symm.trans HW.out)
      have zk : (0 : Int) ≤ (k : Int) := by omega
      have zl : (k : Int) < (n : Int) := by omega
      have hBn := HB.out.alloc HB.out.size (.cells #[.int .i64 t.f, .int .i64 t.m, .int .i64 t.e, .int .i64 t.s, .int .i64 t.p, .int .i64 t.a, .int .i64 t.r, .int .i64 t.v] 36)
      have hX0 := heap_alloc_new wr (.cells #[.int .i64 t.f, .int .i64 t.m, .int .i64 t.e, .int .i64 t.s, .int .i64 t.p, .int .i64 t.a, .int .i64 t.r, .int .i64 t.v] 36)
      have HBN := Lib.hid hBn; have HX0 := Lib.hid hX0
      have CK := Lib.hid (rright_any t.f t.m t.e t.s (wr.alloc (.cells #[.int .i64 t.f, .int .i64 t.m, .int .i64 t.e, .int .i64 t.s, .int .i64 t.p, .int .i64 t.a, .int .i64 t.r, .int .i64 t.v] 36)))
      clear hx hcl1 hlt hBn hX0
      go_wp2_with fail
      refine CK.out.mono ?_
      rintro e w1 ⟨rfl, hB1⟩
      have hx := (hB1.block wr.heap.size (Array.getElem?_eq_some_iff.1 HX0.out).1).trans HX0.out
      have y4 : w1.cell? ⟨wr.heap.size, 4, none⟩ = some (.int .i64 t.p) := cell_of hx rfl
      have y5 : w1.cell? ⟨wr.heap.size, 5, none⟩ = some (.int .i64 t.a) := cell_of hx rfl
      have y6 : w1.cell? ⟨wr.heap.size, 6, none⟩ = some (.int .i64 t.r) := cell_of hx rfl
      have y7 : w1.cell? ⟨wr.heap.size, 7, none⟩ = some (.int .i64 t.v) := cell_of hx rfl
      have HB1 := Lib.hid (HBN.out.trans (hB1.mono HBN.out.size))
      clear hB1 hx CK HBN HX0 HB HW z0 z1 z2 z3 z4 z5 z6 z7
      cases hr : rightB t.f t.m t.e t.s with
      | false =>
        have hok : okT t = false := by simp [okT, hr]
        have HRF : Hid (R = false) := Lib.hid (by rw [← HST.out, hok]; rfl)
        clear hr hok
        go_wp2_with fail
        go_ret
        exact ⟨by rw [HRF.out]; rfl, HB1.out⟩
      | true =>
        have HRR := Lib.hid hr
        clear hr
        by_cases ha : t.p < 0
        · have ea : decide (t.p < 0) = true := decide_eq_true ha
          have hok : Hid (okT t = false) := Lib.hid (by simp only [okT, HRR.out, decide_eq_false (show ¬ 0 ≤ t.p by omega)]; rfl)
          have HRF : Hid (R = false) := Lib.hid (by rw [← HST.out, hok.out]; rfl)
          go_wp2_with fail
          go_ret
          exact ⟨by rw [HRF.out]; rfl, HB1.out⟩
        have ea : decide (t.p < 0) = false := decide_eq_false ha
        have na : decide (0 ≤ t.p) = true := decide_eq_true (show 0 ≤ t.p by omega)
        by_cases hb : t.a < t.p
        · have eb : decide (t.a < t.p) = true := decide_eq_true hb
          have hok : Hid (okT t = false) := Lib.hid (by simp only [okT, HRR.out, na, decide_eq_false (show ¬ t.p ≤ t.a by omega)]; rfl)
          have HRF : Hid (R = false) := Lib.hid (by rw [← HST.out, hok.out]; rfl)
          go_wp2_with fail
          go_ret
          exact ⟨by rw [HRF.out]; rfl, HB1.out⟩
        have eb : decide (t.a < t.p) = false := decide_eq_false hb
        have nb : decide (t.p ≤ t.a) = true := decide_eq_true (show t.p ≤ t.a by omega)
        by_cases hc : t.r < t.a
        · have ec : decide (t.r < t.a) = true := decide_eq_true hc
          have hok : Hid (okT t = false) := Lib.hid (by simp only [okT, HRR.out, na, nb, decide_eq_false (show ¬ t.a ≤ t.r by omega)]; rfl)
          have HRF : Hid (R = false) := Lib.hid (by rw [← HST.out, hok.out]; rfl)
          go_wp2_with fail
          go_ret
          exact ⟨by rw [HRF.out]; rfl, HB1.out⟩
        have ec : decide (t.r < t.a) = false := decide_eq_false hc
        have nc : decide (t.a ≤ t.r) = true := decide_eq_true (show t.a ≤ t.r by omega)
        by_cases hd : t.v < t.r
        · have ed : decide (t.v < t.r) = true := decide_eq_true hd
          have hok : Hid (okT t = false) := Lib.hid (by simp only [okT, HRR.out, na, nb, nc, decide_eq_false (show ¬ t.r ≤ t.v by omega)]; rfl)
          have HRF : Hid (R = false) := Lib.hid (by rw [← HST.out, hok.out]; rfl)
          go_wp2_with fail
          go_ret
          exact ⟨by rw [HRF.out]; rfl, HB1.out⟩
        have ed : decide (t.v < t.r) = false := decide_eq_false hd
        have nd : decide (t.r ≤ t.v) = true := decide_eq_true (show t.r ≤ t.v by omega)
        by_cases he : 4294967296 < t.v
        · have ee : decide (4294967296 < t.v) = true := decide_eq_true he
          have hok : Hid (okT t = false) := Lib.hid (by simp only [okT, HRR.out, na, nb, nc, nd, decide_eq_false (show ¬ t.v ≤ 4294967296 by omega)]; rfl)
          have HRF : Hid (R = false) := Lib.hid (by rw [← HST.out, hok.out]; rfl)
          go_wp2_with fail
          go_ret
          exact ⟨by rw [HRF.out]; rfl, HB1.out⟩
        have ee : decide (4294967296 < t.v) = false := decide_eq_false he
        have ne : decide (t.v ≤ 4294967296) = true := decide_eq_true (show t.v ≤ 4294967296 by omega)
        have hok : Hid (okT t = true) := Lib.hid (by simp only [okT, HRR.out, na, nb, nc, nd, ne]; rfl)
        have HRN : Hid ((L.drop (k + 1)).all okT = R) := Lib.hid (by rw [← HST.out, hok.out]; rfl)
        go_wp2_with fail
        have hkg := HK.out
        go_roundg (gk - 1)
        case rel => exact ⟨k + 1, by go_num, by omega, by omega, HRN, HB1⟩
        case measure => omega
    · have hke : k = n := by omega
      subst hke
      have HRT : Hid (R = true) := Lib.hid (by rw [← HW.out, List.drop_of_length_le (by rw [← HN.out]; exact Nat.le_refl _)]; rfl)
      have hz : ¬ (k : Int) < (k : Int) := by omega
      by_cases h5 : k ≤ 50
      · have h5i : (k : Int) ≤ 50 := by omega
        have hd : Hid (decide (k ≤ 50) = true) := Lib.hid (decide_eq_true h5)
        go_wp2_with fail
        go_ret
        exact ⟨by rw [HRT.out]; rfl, HB.out⟩
      · have h5i : ¬ (k : Int) ≤ 50 := by omega
        have hd : Hid (decide (k ≤ 50) = false) := Lib.hid (decide_eq_false h5)
        go_wp2_with fail
        go_ret
        exact ⟨rfl, HB.out⟩
end Go.Proofs.Ytnamkladeaohoaa.rline
namespace Go.Proofs.Ytnamkladeaohoaa.rroll
open Go.RowKit Go.Proofs.Ytnamkladeaohoaa.kit Go.Proofs.Ytnamkladeaohoaa.timed Go.Proofs.Ytnamkladeaohoaa.rows Go.Proofs.Ytnamkladeaohoaa.safeP Go.Proofs.Ytnamkladeaohoaa.right Go.Proofs.Ytnamkladeaohoaa.pub Go.Proofs.Ytnamkladeaohoaa.age Go.Proofs.Ytnamkladeaohoaa.line Go.Proofs.Ytnamkladeaohoaa.contains Go.Proofs.Ytnamkladeaohoaa.rollP Go.Proofs.Ytnamkladeaohoaa.rollA Go.Proofs.Ytnamkladeaohoaa.cloneT Go.Proofs.Ytnamkladeaohoaa.roll Go.Proofs.Ytnamkladeaohoaa.rline Go.Proofs.Ytnamkladeaohoaa.rightBB
set_option linter.unusedVariables false

theorem own_bel {w1 w2 : World} {b z n : Nat} {t : TypeId} {v : Value} {xs : List Value} (h : w1.ownsRow b t z v n xs) (hB : Below w1.heap.size w1 w2) : w2.ownsRow b t z v n xs := by
  refine ⟨h.1, ?_⟩
  rcases h.2 with h1 | ⟨g, cap, cur, h1, h2, h3, h4⟩
  · exact .inl h1
  · exact .inr ⟨g, cap, cur, h1, h2, (hB.block g (Array.getElem?_eq_some_iff.1 h3).1).trans h3, h4⟩
theorem age_no {v : Int} (h : ageB' v = false) : v < 0 ∨ 2147483647 < v := by
  unfold ageB' at h; simp at h; omega
theorem any_drop {L : List Tm} {k : Nat} {t : Tm} (h : L[k]? = some t) (pr : Tm → Bool) : (L.drop k).any pr = (pr t || (L.drop (k + 1)).any pr) := any_step h pr
theorem take_row {M : List Tm} {k : Nat} {y : Tm} (h : M[k]? = some y) : (M.take (k + 1)).flatMap Tm.cells = (M.take k).flatMap Tm.cells ++ y.cells := by
  rw [List.take_add_one, h, List.flatMap_append]; simp
def KB (w : World) (P : Nat) (f m e s : Int) : Prop := w.heap[P]? = some (.cells #[.int .i64 f, .int .i64 m, .int .i64 e, .int .i64 s] 32)
theorem kb_new (w : World) (f m e s : Int) : KB (w.alloc (.cells #[.int .i64 f, .int .i64 m, .int .i64 e, .int .i64 s] 32)) w.heap.size f m e s := heap_alloc_new _ _
theorem KB.at {w : World} {P : Nat} {f m e s : Int} (h : KB w P f m e s) : KeyAt w P f m e s := by
  unfold KB at h
  exact ⟨by simp only [World.cell?, h]; rfl, by simp only [World.cell?, h]; rfl, by simp only [World.cell?, h]; rfl, by simp only [World.cell?, h]; rfl⟩
theorem KB.below {w w' : World} {P : Nat} {f m e s : Int} (h : KB w P f m e s) (hB : Below w.heap.size w w') : KB w' P f m e s := (hB.block P (Array.getElem?_eq_some_iff.1 h).1).trans h
theorem key_grown {w w1 : World} {P b n : Nat} {f m e s : Int} {v : Value} {xs : List Value} (h : KB w P f m e s) (ho : w.ownsRow b 36 8 v n xs) (hgr : w.grownBy w1 v.ownBlock) : KB w1 P f m e s :=
  (hgr.block P (Array.getElem?_eq_some_iff.1 h).1 (row_neG ho h (fun c' f e => by injection e with _ e2 _; exact absurd e2 (by decide)))).trans h
theorem loop_two {L : List Tm} {k : Nat} {at' : Int} {q : Nat} {LR : Int × Nat} (h : loopN (L.drop (k + 1)) (k + 1) at' (q + 1) = LR) (hq : 1 ≤ q) : LR.2 ≠ 1 := by
  have := loopN_ge (L.drop (k + 1)) (k + 1) at' (q + 1)
  rw [h] at this; omega
set_option maxRecDepth 100000 in
set_option maxHeartbeats 8000000 in
theorem rroll_any (a : Option Addr) (n c : Nat) (L : List Tm) (f m e s now ka sa : Int) (w : World) (hn : n = L.length) (hr : RdC w a 8 (L.map Tm.cells)) (hbig : n ≤ 1099511627776) (hw1 : -9223372036854775808 ≤ now) (hw2 : now ≤ 9223372036854775807) :
    Calls Try.prog 11 #[.slice a n c, .agg #[.int .i64 f, .int .i64 m, .int .i64 e, .int .i64 s], .int .i64 now, .int .i64 ka, .int .i64 sa] w (RollE w.heap.size w (rollS L f m e s now ka sa)) := by
  obtain ⟨R, hR⟩ : ∃ R, rollS L f m e s now ka sa = R := ⟨_, rfl⟩
  rw [hR]
  have hB0 := (Below.refl w.heap.size w).alloc (Nat.le_refl _) (.cells #[.int .i64 f, .int .i64 m, .int .i64 e, .int .i64 s] 32)
  have hk0 := kb_new w f m e s
  obtain ⟨b0, hb⟩ : ∃ b0, w.heap.size = b0 := ⟨_, rfl⟩
  obtain ⟨W, hW⟩ : ∃ W, w.alloc (.cells #[.int .i64 f, .int .i64 m, .int .i64 e, .int .i64 s] 32) = W := ⟨_, rfl⟩
  rw [hW] at hB0 hk0
  rw [hb] at hk0 hB0
  have HBB := Lib.hid hb; have HW := Lib.hid hW; have HR := Lib.hid hR; have HN := Lib.hid hn; have HRD := Lib.hid hr; have HB0 := Lib.hid hB0; have HK0 := Lib.hid hk0
  have HRW := Lib.hid (fun (wx : World) (hB : Below b0 w wx) => hr.below hB hb.symm)
  rw [hb]
  clear hR hW hn hr hB0 hk0 hb
  go_enter Try.func11, Try.ntmps11
  go_upto_region 1 with fail
  rw [HW.out]
  try rw [HBB.out]
  cases hage : (ageB' ka && ageB' sa) with
  | false =>
    have HRR : Hid (R = ([], 23)) := Lib.hid (by rw [← HR.out]; exact roll_age hage)
    have hd : ka < 0 ∨ 2147483647 < ka ∨ sa < 0 ∨ 2147483647 < sa := by
      rcases Bool.and_eq_false_iff.1 hage with h | h
      · rcases age_no h with h | h
        · exact .inl h
        · exact .inr (.inl h)
      · rcases age_no h with h | h
        · exact .inr (.inr (.inl h))
        · exact .inr (.inr (.inr h))
    clear hage
    by_cases h0 : ka < 0
    · have e0 : decide (ka < 0) = true := decide_eq_true h0
      clear hd
      go_wp2_with fail
      go_ret2
      exact rollE_no HRR.out HB0.out
    have e0 : decide (ka < 0) = false := decide_eq_false h0
    by_cases h1 : 2147483647 < ka
    · have e1 : decide (2147483647 < ka) = true := decide_eq_true h1
      clear hd
      go_wp2_with fail
      go_ret2
      exact rollE_no HRR.out HB0.out
    have e1 : decide (2147483647 < ka) = false := decide_eq_false h1
    by_cases h2 : sa < 0
    · have e2 : decide (sa < 0) = true := decide_eq_true h2
      clear hd
      go_wp2_with fail
      go_ret2
      exact rollE_no HRR.out HB0.out
    have e2 : decide (sa < 0) = false := decide_eq_false h2
    have h3 : 2147483647 < sa := by omega
    have e3 : decide (2147483647 < sa) = true := decide_eq_true h3
    clear hd
    go_wp2_with fail
    go_ret2
    exact rollE_no HRR.out HB0.out
  | true =>
  have HAG := Lib.hid hage
  simp only [Bool.and_eq_true] at hage
  have hkb := age_in hage.1; have hsb := age_in hage.2
  have HLP : Hid (loopN (L.drop 0) 0 (-1) 0 = loopN L 0 (-1) 0) := Lib.hid (by rw [List.drop_zero])
  obtain ⟨LR, hLR⟩ : ∃ LR, loopN L 0 (-1) 0 = LR := ⟨_, rfl⟩
  rw [hLR] at HLP
  have HLR := Lib.hid hLR
  have e0 : decide (ka < 0) = false := decide_eq_false (by omega)
  have e1 : decide (2147483647 < ka) = false := decide_eq_false (by omega)
  have e2 : decide (sa < 0) = false := decide_eq_false (by omega)
  have e3 : decide (2147483647 < sa) = false := decide_eq_false (by omega)
  clear hage hLR
  trace "3"
  go_wp2_with fail
  clear e0 e1 e2 e3
  go_loopg [12, 13, 35] (n + 1) (fun gas av _ kv wr => ∃ (k q : Nat) (at' : Int), av = .int .i64 at' ∧ kv = .int .i64 (k : Int) ∧ k ≤ n ∧ k + gas = n + 1 ∧ ((q = 0 ∧ at' = -1) ∨ (q = 1 ∧ 0 ≤ at' ∧ at' ≤ (k : Int))) ∧ Hid (loopN (L.drop k) k at' q = LR) ∧ Hid (KB wr b0 f m e s) ∧ Hid (Below b0 w wr))
  case atStart => exact ⟨0, 0, -1, rfl, rfl, by omega, by omega, .inl ⟨rfl, rfl⟩, HLP, HK0, HB0⟩
  case round =>
    clear HLP HK0 HB0
    obtain ⟨k, q, at', rfl, rfl, hk, hkg, hq, HL, HKA, HB⟩ := hrel
    have HK := Lib.hid hkg; clear hkg
    by_cases hlt : k < n
    · obtain ⟨t, hx⟩ : ∃ t, L[k]? = some t := ⟨_, List.getElem?_eq_getElem (by have := HN.out; omega)⟩
      obtain ⟨g1, o1, rfl, hg1, hcl1⟩ := HRD.out.at_t hx
      obtain ⟨x0, x1, x2, x3, x4, x5, x6, x7⟩ := hcl1.below HB.out (by rw [← HBB.out]; exact hg1)
      have zk : (0 : Int) ≤ (k : Int) := by omega
      have zl : (k : Int) < (n : Int) := by omega
      have HQ := Lib.hid hq
      clear hcl1 hlt x0 x1 x2 x3 x4 x5 x7
      by_cases ht : t.r = 4294967296
      · have HLN := Lib.hid ((loop_yes hx ht).symm.trans HL.out)
        obtain ⟨tf, tm, te, ts, tp, ta, tr, tv⟩ := t
        dsimp only at ht x6
        subst ht
        clear hx HL
        by_cases hq1 : q = 0
        · have ha1 : at' = -1 := by omega
          subst hq1; subst ha1
          clear hq
          trace "5"
          go_wp2_with fail
          have hkg := HK.out
          go_roundg (gk - 1)
          case rel => exact ⟨k + 1, 1, (k : Int), by go_num, by go_num, by omega, by omega, .inr ⟨rfl, by omega, by omega⟩, HLN, HKA, HB⟩
          case measure => omega
        · have HRR : Hid (R = ([], 8)) := Lib.hid (by rw [← HR.out]; exact roll_form HAG.out (.inl (by rw [HLR.out]; exact loop_two HLN.out (by omega))))
          have ha0 : (0 : Int) ≤ at' := by omega
          have hae : decide ((0 : Int) ≤ at') = true := decide_eq_true ha0
          clear hq
          trace "5b"
          go_wp2_with fail
          go_ret2
          exact rollE_no HRR.out HB.out
      · have HLN := Lib.hid ((loop_no hx ht).symm.trans HL.out)
        have hte : (t.r == 4294967296) = false := by rw [beq_eq_false_iff_ne]; exact ht
        clear hx HL hq
        trace "6"
        go_wp2_with fail
        have hkg := HK.out; have hq := HQ.out
        go_roundg (gk - 1)
        case rel => exact ⟨k + 1, q, at', by go_num, by go_num, by omega, by omega, by omega, HLN, HKA, HB⟩
        case measure => omega
    · have hke : k = n := by omega
      subst hke
      have hz : ¬ (k : Int) < (k : Int) := by omega
      have hLE : LR = (at', q) := by rw [← HL.out]; exact loop_end (by rw [HN.out]; exact Nat.le_refl _)
      subst hLE
      have hbz : b0 ≤ wr.heap.size := by have h := HB.out.size; rw [HBB.out] at h; exact h
      clear HL HK hk
      by_cases hq1 : q = 0
      · have HRR : Hid (R = ([], 8)) := Lib.hid (by rw [← HR.out]; exact roll_form HAG.out (.inl (by rw [HLR.out]; show q ≠ 1; omega)))
        have ha1 : at' = -1 := by omega
        subst ha1
        clear hq
        trace "7"
        go_wp2_with fail
        go_ret2
        exact rollE_no HRR.out HB.out
      obtain rfl : q = 1 := by omega
      obtain ⟨i, x, hi1, hi2, hi3, hi4⟩ := loopN_one L 0 (-1) 0 (by rw [HLR.out])
      rw [HLR.out] at hi1
      simp only [Nat.zero_add] at hi1
      subst hi1
      have HI := Lib.hid hi2
      have hil : i < k := by rw [HN.out]; exact (List.getElem?_eq_some_iff.1 hi2).1
      have CL := Lib.hid (rline_any a k c L wr HN.out (HRW.out wr HB.out) hbig)
      have zi : (0 : Int) ≤ (i : Int) := by omega
      have zin : decide ((i : Int) < 0) = false := decide_eq_false (by omega)
      clear hi2 hi3 hi4 hq hq1
      cases hl : lineB L with
      | false =>
        have HRR : Hid (R = ([], 8)) := Lib.hid (by rw [← HR.out]; exact roll_form HAG.out (.inr hl))
        rw [hl] at CL
        trace "8"
        go_wp2_with fail
        refine CL.out.mono ?_
        rintro en w2 ⟨rfl, hB2⟩
        have HB2 := Lib.hid (HB.out.trans (hB2.mono hbz))
        clear hB2
        go_wp2_with fail
        go_ret2
        exact rollE_no HRR.out HB2.out
      | true =>
      rw [hl] at CL
      have HNF : Hid (¬ ((loopN L 0 (-1) 0).2 ≠ 1 ∨ lineB L = false)) := Lib.hid (by rw [HLR.out, hl]; simp)
      have hk50 : k ≤ 50 := by rw [HN.out]; exact (line_in hl).2
      clear hl
      trace "9"
      go_wp2_with fail
      refine CL.out.mono ?_
      rintro en w2 ⟨rfl, hB2⟩
      have HB2 := Lib.hid (HB.out.trans (hB2.mono hbz))
      have HKA2 := Lib.hid (HKA.out.below hB2)
      have hbz2 : b0 ≤ w2.heap.size := Nat.le_trans hbz hB2.size
      have CP := Lib.hid (rright_any f m e s w2)
      have k0 := HKA2.out.at.c0; have k1 := HKA2.out.at.c1; have k2 := HKA2.out.at.c2; have k3 := HKA2.out.at.c3
      clear hB2 CL HB HKA hbz zin
      cases hrt : rightB f m e s with
      | false =>
        have HRR : Hid (R = ([], 24)) := Lib.hid (by rw [← HR.out]; exact roll_key HAG.out HNF.out hrt)
        rw [hrt] at CP
        clear hrt
        trace "11"
        go_wp2_with fail
        refine CP.out.mono ?_
        rintro en w3 ⟨rfl, hB3⟩
        have HB3 := Lib.hid (HB2.out.trans (hB3.mono hbz2))
        clear hB3
        go_wp2_with fail
        go_ret2
        exact rollE_no HRR.out HB3.out
      | true =>
      have HRT := Lib.hid hrt
      rw [hrt] at CP
      clear hrt
      trace "12"
      go_wp2_with fail
      refine CP.out.mono ?_
      rintro en w3 ⟨rfl, hB3⟩
      have HB3 := Lib.hid (HB2.out.trans (hB3.mono hbz2))
      have HKA3 := Lib.hid (HKA2.out.below hB3)
      clear hB3 CP HB2 HKA2 hbz2 k0 k1 k2 k3
      obtain ⟨AN, hAN⟩ : ∃ AN, L.any (sameP f m e s) = AN := ⟨_, rfl⟩
      have HAN := Lib.hid hAN
      have HAP : Hid ((L.drop 0).any (sameP f m e s) = AN) := Lib.hid (by rw [List.drop_zero]; exact hAN)
      clear hAN
      trace "13"
      go_wp2_with fail
      go_loopg [60] (k + 1) (fun gas jv wr => ∃ (j : Nat), jv = .int .i64 (j : Int) ∧ j ≤ k ∧ j + gas = k + 1 ∧ Hid ((L.drop j).any (sameP f m e s) = AN) ∧ Hid (KB wr b0 f m e s) ∧ Hid (Below b0 w wr))
      case atStart => exact ⟨0, rfl, by omega, by omega, HAP, HKA3, HB3⟩
      case round =>
        clear HAP HKA3 HB3
        obtain ⟨j, rfl, hj, hjg, HJ, HKA, HB⟩ := hrel
        have HJG := Lib.hid hjg; clear hjg
        have hbz : b0 ≤ wr.heap.size := by have h := HB.out.size; rw [HBB.out] at h; exact h
        by_cases hlt : j < k
        · obtain ⟨t, hx⟩ : ∃ t, L[j]? = some t := ⟨_, List.getElem?_eq_getElem (by have := HN.out; omega)⟩
          obtain ⟨g1, o1, rfl, hg1, hcl1⟩ := HRD.out.at_t hx
          obtain ⟨x0, x1, x2, x3, x4, x5, x6, x7⟩ := hcl1.below HB.out (by rw [← HBB.out]; exact hg1)
          have zk : (0 : Int) ≤ (j : Int) := by omega
          have zl : (j : Int) < (k : Int) := by omega
          have HSTP := Lib.hid ((any_drop hx (sameP f m e s)).symm.trans HJ.out)
          obtain ⟨tf, tm, te, ts, tp, ta, tr, tv⟩ := t
          dsimp only at x0 x1 x2 x3 x4 x5 x6 x7
          have hB4 := (Below.refl wr.heap.size wr).alloc (Nat.le_refl _) (.cells #[.int .i64 tf, .int .i64 tm, .int .i64 te, .int .i64 ts, .int .i64 tp, .int .i64 ta, .int .i64 tr, .int .i64 tv] 36)
          have hx4 := heap_alloc_new wr (.cells #[.int .i64 tf, .int .i64 tm, .int .i64 te, .int .i64 ts, .int .i64 tp, .int .i64 ta, .int .i64 tr, .int .i64 tv] 36)
          have hka4 := HKA.out.below hB4
          obtain ⟨X, hX⟩ : ∃ X, wr.heap.size = X := ⟨_, rfl⟩
          obtain ⟨w4, hw4⟩ : ∃ w4, wr.alloc (.cells #[.int .i64 tf, .int .i64 tm, .int .i64 te, .int .i64 ts, .int .i64 tp, .int .i64 ta, .int .i64 tr, .int .i64 tv] 36) = w4 := ⟨_, rfl⟩
          rw [hw4] at hB4 hx4 hka4
          rw [hX] at hx4
          have hxk : KeyAt w4 X tf tm te ts := ⟨by simp only [World.cell?, hx4]; rfl, by simp only [World.cell?, hx4]; rfl, by simp only [World.cell?, hx4]; rfl, by simp only [World.cell?, hx4]; rfl⟩
          have HB4 := Lib.hid (HB.out.trans (hB4.mono hbz))
          have HW4 := Lib.hid hw4; have HX := Lib.hid hX; have HKA4 := Lib.hid hka4
          have hbz4 : b0 ≤ w4.heap.size := Nat.le_trans hbz hB4.size
          have hss := same_str (pubS tf tm te ts) (pubS f m e s)
          have CP := Lib.hid (fun wx => rpub_any tf tm te ts wx)
          have CQ := Lib.hid (fun wx => rpub_any f m e s wx)
          obtain ⟨S, hS⟩ : ∃ S : ByteArray, (⟨(pubS tf tm te ts).toArray⟩ : ByteArray) = S := ⟨_, rfl⟩
          obtain ⟨T, hT⟩ : ∃ T : ByteArray, (⟨(pubS f m e s).toArray⟩ : ByteArray) = T := ⟨_, rfl⟩
          rw [hS] at CP hss; rw [hT] at CQ hss
          have hpr : sameP f m e s ⟨tf, tm, te, ts, tp, ta, tr, tv⟩ = (S.toList == T.toList) := by rw [hss]; rfl
          rw [hpr] at HSTP
          clear hcl1 hlt hx HJ hB4 hx4 hw4 hX hss hS hT hpr hbz
          trace "14"
          go_upto_region 19 with fail
          rw [HW4.out]
          try rw [HX.out]
          clear x0 x1 x2 x3 x4 x5 x6 x7
          obtain ⟨a0, a1, a2, a3, b0', b1, b2, b3, hBd⟩ := s8_of hxk hka4.at (Below.refl w4.heap.size w4).drew
          clear hxk hka4
          cases hst : (S.toList == T.toList) with
          | true =>
            rw [hst] at HSTP
            have HRR : Hid (R = ([], 19)) := Lib.hid (by rw [← HR.out]; exact roll_twice HAG.out HNF.out HRT.out (by rw [HAN.out, ← HSTP.out]; rfl))
            go_region_held3 (fun w' => w'.cell? ⟨X, 0, none⟩ = some (.int .i64 tf) ∧ w'.cell? ⟨X, 1, none⟩ = some (.int .i64 tm) ∧ w'.cell? ⟨X, 2, none⟩ = some (.int .i64 te) ∧ w'.cell? ⟨X, 3, none⟩ = some (.int .i64 ts) ∧ w'.cell? ⟨b0, 0, none⟩ = some (.int .i64 f) ∧ w'.cell? ⟨b0, 1, none⟩ = some (.int .i64 m) ∧ w'.cell? ⟨b0, 2, none⟩ = some (.int .i64 e) ∧ w'.cell? ⟨b0, 3, none⟩ = some (.int .i64 s) ∧ Below w4.heap.size w4 w') (first | assumption | (refine ⟨?_, ?_, ?_, ?_, ?_, ?_, ?_, ?_, ?_⟩ <;> assumption))
              (first
                | (go_at_call_of 24 (Value.agg #[.int .i64 tf, .int .i64 tm, .int .i64 te, .int .i64 ts]); refine (CP.out _).mono ?_; rintro en w' ⟨rfl, hBz⟩; have hBz2 := keep8 (by assumption) hBz; clear hBz)
                | (go_at_call_of 24 (Value.agg #[.int .i64 f, .int .i64 m, .int .i64 e, .int .i64 s]); refine (CQ.out _).mono ?_; rintro en w' ⟨rfl, hBz⟩; have hBz2 := keep8 (by assumption) hBz; clear hBz))
            all_goals (have hbb := Lib.hid (HB4.out.trans ((‹_ ∧ _ ∧ _ ∧ _ ∧ _ ∧ _ ∧ _ ∧ _ ∧ Below _ _ _›).2.2.2.2.2.2.2.2.mono hbz4)); go_wp2_with fail; go_ret2; exact rollE_no HRR.out hbb.out)
          | false =>
            rw [hst] at HSTP
            have HJN : Hid ((L.drop (j + 1)).any (sameP f m e s) = AN) := Lib.hid (by rw [← HSTP.out]; rfl)
            go_region_held3 (fun w' => w'.cell? ⟨X, 0, none⟩ = some (.int .i64 tf) ∧ w'.cell? ⟨X, 1, none⟩ = some (.int .i64 tm) ∧ w'.cell? ⟨X, 2, none⟩ = some (.int .i64 te) ∧ w'.cell? ⟨X, 3, none⟩ = some (.int .i64 ts) ∧ w'.cell? ⟨b0, 0, none⟩ = some (.int .i64 f) ∧ w'.cell? ⟨b0, 1, none⟩ = some (.int .i64 m) ∧ w'.cell? ⟨b0, 2, none⟩ = some (.int .i64 e) ∧ w'.cell? ⟨b0, 3, none⟩ = some (.int .i64 s) ∧ Below w4.heap.size w4 w') (first | assumption | (refine ⟨?_, ?_, ?_, ?_, ?_, ?_, ?_, ?_, ?_⟩ <;> assumption))
              (first
                | (go_at_call_of 24 (Value.agg #[.int .i64 tf, .int .i64 tm, .int .i64 te, .int .i64 ts]); refine (CP.out _).mono ?_; rintro en w' ⟨rfl, hBz⟩; have hBz2 := keep8 (by assumption) hBz; clear hBz)
                | (go_at_call_of 24 (Value.agg #[.int .i64 f, .int .i64 m, .int .i64 e, .int .i64 s]); refine (CQ.out _).mono ?_; rintro en w' ⟨rfl, hBz⟩; have hBz2 := keep8 (by assumption) hBz; clear hBz))
            all_goals (have hbb := Lib.hid (HB4.out.trans ((‹_ ∧ _ ∧ _ ∧ _ ∧ _ ∧ _ ∧ _ ∧ _ ∧ Below _ _ _›).2.2.2.2.2.2.2.2.mono hbz4)); have hkk := Lib.hid (HKA4.out.below (‹_ ∧ _ ∧ _ ∧ _ ∧ _ ∧ _ ∧ _ ∧ _ ∧ Below _ _ _›).2.2.2.2.2.2.2.2); go_wp2_with fail; have hjg := HJG.out; go_roundg (gk - 1); (first | exact ⟨j + 1, by go_num, by omega, by omega, HJN, hkk, hbb⟩ | omega); (first | exact ⟨j + 1, by go_num, by omega, by omega, HJN, hkk, hbb⟩ | omega))
        · have hje : j = k := by omega
          subst hje
          have hAF : AN = false := by rw [← HJ.out, List.drop_of_length_le (by rw [HN.out]; exact Nat.le_refl _)]; rfl
          subst hAF
          have HRO : Hid (rollT L i x f m e s now ka sa = R) := Lib.hid (by rw [← HR.out]; exact (roll_t HAG.out HNF.out HRT.out HAN.out (by rw [HLR.out]) HI.out).symm)
          obtain ⟨g1, o1, rfl, hg1, hcl1⟩ := HRD.out.at_t HI.out
          obtain ⟨x0, x1, x2, x3, x4, x5, x6, x7⟩ := hcl1.below HB.out (by rw [← HBB.out]; exact hg1)
          have zl : (i : Int) < (j : Int) := by omega
          clear hcl1 x0 x1 x2 x3 x4 x6 x7 HJ HJG hj
          by_cases hbusy : now < x.a
          · have HRR : Hid (R = ([], 29)) := Lib.hid (by rw [← HRO.out]; unfold rollT; rw [if_pos hbusy])
            have e1 : decide (now < x.a) = true := decide_eq_true hbusy
            trace "15"
            go_wp2_with fail
            go_ret2
            exact rollE_no HRR.out HB.out
          have e1 : decide (now < x.a) = false := decide_eq_false hbusy
          by_cases hfar : 4294967295 < now
          · have HRR : Hid (R = ([], 25)) := Lib.hid (by rw [← HRO.out]; unfold rollT; rw [if_neg hbusy, if_pos (by omega)])
            have e2 : decide (4294967295 < now) = true := decide_eq_true hfar
            trace "16"
            go_wp2_with fail
            go_ret2
            exact rollE_no HRR.out HB.out
          have e2 : decide (4294967295 < now) = false := decide_eq_false hfar
          have hxa := (ok_in ((line_in (show lineB L = true from by cases h : lineB L with | true => rfl | false => exact absurd (.inr h) HNF.out)).1 x (List.mem_of_getElem? HI.out)))
          have hnow0 : 0 ≤ now := by omega
          clear hxa
          by_cases htime : 4294967295 < now + ka + sa
          · have HRR : Hid (R = ([], 25)) := Lib.hid (by rw [← HRO.out]; unfold rollT; rw [if_neg hbusy, if_pos htime])
            have e3 : decide (4294967295 < now + ka + sa) = true := decide_eq_true htime
            trace "17"
            go_wp2_with fail
            go_ret2
            exact rollE_no HRR.out HB.out
          have e3 : decide (4294967295 < now + ka + sa) = false := decide_eq_false htime
          by_cases hmany : L.length = 50
          · have HRR : Hid (R = ([], 20)) := Lib.hid (by rw [← HRO.out]; unfold rollT; rw [if_neg hbusy, if_neg htime, if_pos hmany])
            have hk5 : j = 50 := by rw [HN.out]; exact hmany
            subst hk5
            trace "18"
            go_wp2_with fail
            go_ret2
            exact rollE_no HRR.out HB.out
          have HRR : Hid (R = (rolled L i x f m e s now ka sa, 0)) := Lib.hid (by rw [← HRO.out]; unfold rollT; rw [if_neg hbusy, if_neg htime, if_neg hmany])
          have hk5 : j < 50 := by have h1 : ¬ j = 50 := by rw [HN.out]; exact hmany
                                  omega
          have hke5 : decide ((50 : Int) ≤ (j : Int)) = false := decide_eq_false (by omega)
          clear hmany HRO
          obtain ⟨i0, hif, hz0, hz1, hz2⟩ := info_parts infoTm
          obtain ⟨M, hM⟩ : ∃ M, L.set i { x with r := now + ka, v := now + ka + sa } = M := ⟨_, rfl⟩
          have HML : Hid (M.length = j) := Lib.hid (by rw [← hM, List.length_set, HN.out])
          have HM1 : Hid (M[i]? = some { x with r := now + ka, v := now + ka + sa }) := Lib.hid (by rw [← hM, List.getElem?_set_self (by rw [← HN.out]; omega)])
          have HM2 : Hid (∀ (q : Nat) (t : Tm), q ≠ i → L[q]? = some t → M[q]? = some t) := Lib.hid (fun q t hq ht => by rw [← hM, List.getElem?_set_ne (by omega)]; exact ht)
          have HMR : Hid (rolled L i x f m e s now ka sa = M ++ [newT f m e s now ka]) := Lib.hid (by unfold rolled; rw [hM])
          clear hM
          trace "19"
          go_wp2_with fail
          go_loopg [16, 93] (j + 1) (fun gas ov kv wr => ∃ (q : Nat) (ao : Option Addr) (co : Nat), ov = .slice ao q co ∧ kv = .int .i64 (q : Int) ∧ q ≤ j ∧ q + gas = j + 1 ∧ Hid (wr.ownsRow b0 36 8 (.slice ao q co) q ((M.take q).flatMap Tm.cells)) ∧ Hid (KB wr b0 f m e s) ∧ Hid (Below b0 w wr))
          case atStart => exact ⟨0, none, 0, rfl, rfl, by omega, by omega, Lib.hid (World.ownsRow_nil _ _ _ _), HKA, HB⟩
          case round =>
            clear HKA HB
            obtain ⟨q, ao, co, rfl, rfl, hq, hqg, HO, HKA, HB⟩ := hrel
            have HQG := Lib.hid hqg; clear hqg
            have hbz : b0 ≤ wr.heap.size := by have h := HB.out.size; rw [HBB.out] at h; exact h
            by_cases hlt2 : q < j
            · obtain ⟨t, hx⟩ : ∃ t, L[q]? = some t := ⟨_, List.getElem?_eq_getElem (by have := HN.out; omega)⟩
              obtain ⟨g2, o2, ha2, hg2, hcl2⟩ := HRD.out.at_t hx
              cases ha2
              obtain ⟨x0, x1, x2, x3, x4, x5, x6, x7⟩ := hcl2.below HB.out (by rw [← HBB.out]; exact hg2)
              have zq : (0 : Int) ≤ (q : Int) := by omega
              have zq2 : (q : Int) < (j : Int) := by omega
              have hB4 := (Below.refl wr.heap.size wr).alloc (Nat.le_refl _) (.cells #[.int .i64 t.f, .int .i64 t.m, .int .i64 t.e, .int .i64 t.s, .int .i64 t.p, .int .i64 t.a, .int .i64 t.r, .int .i64 t.v] 36)
              have hx4 := heap_alloc_new wr (.cells #[.int .i64 t.f, .int .i64 t.m, .int .i64 t.e, .int .i64 t.s, .int .i64 t.p, .int .i64 t.a, .int .i64 t.r, .int .i64 t.v] 36)
              obtain ⟨X, hX⟩ : ∃ X, wr.heap.size = X := ⟨_, rfl⟩
              have HX := Lib.hid hX
              clear hcl2
              by_cases hqi : q = i
              · subst hqi
                have htx : t = x := by have h := HI.out; rw [hx] at h; cases h; rfl
                subst htx
                have HTK : Hid ((M.take (q + 1)).flatMap Tm.cells = (M.take q).flatMap Tm.cells ++ ({ t with r := now + ka, v := now + ka + sa } : Tm).cells) := Lib.hid (take_row HM1.out)
                have s2 := heap_alloc_new wr (.cells #[.int .i64 t.f, .int .i64 t.m, .int .i64 t.e, .int .i64 t.s, .int .i64 t.p, .int .i64 t.a, .int .i64 (now + ka), .int .i64 (now + ka + sa)] 36)
                have hB5 := (Below.refl wr.heap.size wr).alloc (Nat.le_refl _) (.cells #[.int .i64 t.f, .int .i64 t.m, .int .i64 t.e, .int .i64 t.s, .int .i64 t.p, .int .i64 t.a, .int .i64 (now + ka), .int .i64 (now + ka + sa)] 36)
                trace "20"
                go_upto_region 35 with fail
                rw [hX] at s2 hB5
                try rw [hX]
                obtain ⟨w5, hw5⟩ : ∃ w5, wr.alloc (.cells #[.int .i64 t.f, .int .i64 t.m, .int .i64 t.e, .int .i64 t.s, .int .i64 t.p, .int .i64 t.a, .int .i64 (now + ka), .int .i64 (now + ka + sa)] 36) = w5 := ⟨_, rfl⟩
                rw [hw5] at s2 hB5 ⊢
                have y0 : w5.cell? ⟨X, 0, none⟩ = some (.int .i64 t.f) := by simp only [World.cell?, s2]; rfl
                have y1 : w5.cell? ⟨X, 1, none⟩ = some (.int .i64 t.m) := by simp only [World.cell?, s2]; rfl
                have y2 : w5.cell? ⟨X, 2, none⟩ = some (.int .i64 t.e) := by simp only [World.cell?, s2]; rfl
                have y3 : w5.cell? ⟨X, 3, none⟩ = some (.int .i64 t.s) := by simp only [World.cell?, s2]; rfl
                have y4 : w5.cell? ⟨X, 4, none⟩ = some (.int .i64 t.p) := by simp only [World.cell?, s2]; rfl
                have y5 : w5.cell? ⟨X, 5, none⟩ = some (.int .i64 t.a) := by simp only [World.cell?, s2]; rfl
                have y6 : w5.cell? ⟨X, 6, none⟩ = some (.int .i64 (now + ka)) := by simp only [World.cell?, s2]; rfl
                have y7 : w5.cell? ⟨X, 7, none⟩ = some (.int .i64 (now + ka + sa)) := by simp only [World.cell?, s2]; rfl
                have HO5 := Lib.hid (own_bel HO.out (by rw [hX]; exact hB5))
                have HKA5 := Lib.hid (HKA.out.below (by rw [hX]; exact hB5))
                have HB5 := Lib.hid (HB.out.trans ((show Below wr.heap.size wr w5 from by rw [hX]; exact hB5).mono hbz))
                have hbz5 : b0 ≤ w5.heap.size := by have h := HB5.out.size; rw [HBB.out] at h; exact h
                clear x0 x1 x2 x3 x4 x5 x6 x7 hx4 hB4 hX hw5 s2 hB5 HO HKA HB hx
                trace "22"
                go_wp2_with (at_builtin; refine wpList_append_lies _ rfl _ _ 22 rfl b0 36 i0 _ 8 64 Try.underlying22 hif hz0 hz1 hz2 rfl (by decide) (.slice ao q co) q ((M.take q).flatMap Tm.cells) rfl (HO5.out.alloc _) ⟨w5.heap.size, 0, none⟩ 1 1 ({ t with r := now + ka, v := now + ka + sa } : Tm).cells rfl rfl ?d1 ?d2 (by decide) ?d3 ?d4 ?d5 _ rfl ?_)
                case d1 => exact World.news_of_block (heap_alloc_new _ _)
                case d2 => exact fun u hu => tm_one _ u hu
                case d3 => unfold maxLen; omega
                case d4 => omega
                case d5 => simp; omega
                intro g7 cp w7 hown7 hgr hat hlt7
                have hBa := (Below.refl w5.heap.size w5).alloc (Nat.le_refl _) (.cells #[.int .i64 t.f, .int .i64 t.m, .int .i64 t.e, .int .i64 t.s, .int .i64 t.p, .int .i64 t.a, .int .i64 (now + ka), .int .i64 (now + ka + sa)] 36)
                have HB7 := Lib.hid (below_append' (HB5.out.trans (hBa.mono hbz5)) (by simp; omega) (HO5.out.alloc _) hgr)
                have HO7 : Hid (w7.ownsRow b0 36 8 (.slice (some ⟨g7, 0, none⟩) (q + 1) cp) (q + 1) ((M.take (q + 1)).flatMap Tm.cells)) := Lib.hid (by rw [HTK.out]; exact hown7)
                have HK7 : Hid (KB w7 b0 f m e s) := Lib.hid (key_grown (HKA5.out.below hBa) (HO5.out.alloc _) hgr)
                clear hown7 hgr hat hlt7 hBa
                go_wp2_with fail
                have hqg := HQG.out
                go_roundg (gk - 1)
                case rel => exact ⟨q + 1, some ⟨g7, 0, none⟩, cp, rfl, by go_num, by omega, by omega, HO7, HK7, HB7⟩
                case measure => omega
              · have HTK : Hid ((M.take (q + 1)).flatMap Tm.cells = (M.take q).flatMap Tm.cells ++ t.cells) := Lib.hid (take_row (HM2.out q t hqi hx))
                have s2 := hx4
                have hB5 := hB4
                have hqe : ((q : Int) == (i : Int)) = false := by rw [beq_eq_false_iff_ne]; omega
                have hqn : ¬ (q : Int) = (i : Int) := by omega
                trace "21"
                go_upto_region 35 with fail
                rw [hX] at s2 hB5
                try rw [hX]
                obtain ⟨w5, hw5⟩ : ∃ w5, wr.alloc (.cells #[.int .i64 t.f, .int .i64 t.m, .int .i64 t.e, .int .i64 t.s, .int .i64 t.p, .int .i64 t.a, .int .i64 t.r, .int .i64 t.v] 36) = w5 := ⟨_, rfl⟩
                rw [hw5] at s2 hB5 ⊢
                have y0 : w5.cell? ⟨X, 0, none⟩ = some (.int .i64 t.f) := by simp only [World.cell?, s2]; rfl
                have y1 : w5.cell? ⟨X, 1, none⟩ = some (.int .i64 t.m) := by simp only [World.cell?, s2]; rfl
                have y2 : w5.cell? ⟨X, 2, none⟩ = some (.int .i64 t.e) := by simp only [World.cell?, s2]; rfl
                have y3 : w5.cell? ⟨X, 3, none⟩ = some (.int .i64 t.s) := by simp only [World.cell?, s2]; rfl
                have y4 : w5.cell? ⟨X, 4, none⟩ = some (.int .i64 t.p) := by simp only [World.cell?, s2]; rfl
                have y5 : w5.cell? ⟨X, 5, none⟩ = some (.int .i64 t.a) := by simp only [World.cell?, s2]; rfl
                have y6 : w5.cell? ⟨X, 6, none⟩ = some (.int .i64 t.r) := by simp only [World.cell?, s2]; rfl
                have y7 : w5.cell? ⟨X, 7, none⟩ = some (.int .i64 t.v) := by simp only [World.cell?, s2]; rfl
                have HO5 := Lib.hid (own_bel HO.out (by rw [hX]; exact hB5))
                have HKA5 := Lib.hid (HKA.out.below (by rw [hX]; exact hB5))
                have HB5 := Lib.hid (HB.out.trans ((show Below wr.heap.size wr w5 from by rw [hX]; exact hB5).mono hbz))
                have hbz5 : b0 ≤ w5.heap.size := by have h := HB5.out.size; rw [HBB.out] at h; exact h
                clear x0 x1 x2 x3 x4 x5 x6 x7 hx4 hB4 hX hw5 s2 hB5 HO HKA HB hx
                trace "22"
                go_wp2_with (at_builtin; refine wpList_append_lies _ rfl _ _ 22 rfl b0 36 i0 _ 8 64 Try.underlying22 hif hz0 hz1 hz2 rfl (by decide) (.slice ao q co) q ((M.take q).flatMap Tm.cells) rfl (HO5.out.alloc _) ⟨w5.heap.size, 0, none⟩ 1 1 (t : Tm).cells rfl rfl ?d1 ?d2 (by decide) ?d3 ?d4 ?d5 _ rfl ?_)
                case d1 => exact World.news_of_block (heap_alloc_new _ _)
                case d2 => exact fun u hu => tm_one _ u hu
                case d3 => unfold maxLen; omega
                case d4 => omega
                case d5 => simp; omega
                intro g7 cp w7 hown7 hgr hat hlt7
                have hBa := (Below.refl w5.heap.size w5).alloc (Nat.le_refl _) (.cells #[.int .i64 t.f, .int .i64 t.m, .int .i64 t.e, .int .i64 t.s, .int .i64 t.p, .int .i64 t.a, .int .i64 t.r, .int .i64 t.v] 36)
                have HB7 := Lib.hid (below_append' (HB5.out.trans (hBa.mono hbz5)) (by simp; omega) (HO5.out.alloc _) hgr)
                have HO7 : Hid (w7.ownsRow b0 36 8 (.slice (some ⟨g7, 0, none⟩) (q + 1) cp) (q + 1) ((M.take (q + 1)).flatMap Tm.cells)) := Lib.hid (by rw [HTK.out]; exact hown7)
                have HK7 : Hid (KB w7 b0 f m e s) := Lib.hid (key_grown (HKA5.out.below hBa) (HO5.out.alloc _) hgr)
                clear hown7 hgr hat hlt7 hBa
                go_wp2_with fail
                have hqg := HQG.out
                go_roundg (gk - 1)
                case rel => exact ⟨q + 1, some ⟨g7, 0, none⟩, cp, rfl, by go_num, by omega, by omega, HO7, HK7, HB7⟩
                case measure => omega
            · have hqe : q = j := by omega
              subst hqe
              have hzq : ¬ (q : Int) < (q : Int) := by omega
              have ho := HO.out
              rw [List.take_of_length_le (by rw [HML.out]; exact Nat.le_refl _)] at ho
              have HO1 := Lib.hid ho
              have k0 := HKA.out.at.c0; have k1 := HKA.out.at.c1; have k2 := HKA.out.at.c2; have k3 := HKA.out.at.c3
              clear ho HO
              trace "23"
              go_wp2_with (at_builtin; refine wpList_append_lies _ rfl _ _ 22 rfl b0 36 i0 _ 8 64 Try.underlying22 hif hz0 hz1 hz2 rfl (by decide) (.slice ao q co) q (M.flatMap Tm.cells) rfl (HO1.out.alloc _) ⟨wr.heap.size, 0, none⟩ 1 1 (newT f m e s now ka).cells rfl rfl ?d1 ?d2 (by decide) ?d3 ?d4 ?d5 _ rfl ?_)
              case d1 => first | exact World.news_of_block (heap_alloc_new _ _) | exact fun j u hu => hu
              case d2 => exact fun u hu => tm_one _ u hu
              case d3 => unfold maxLen; omega
              case d4 => omega
              case d5 => first | omega | (simp; omega)
              intro g7 cp w7 hown7 hgr hat hlt7
              have HB7 := Lib.hid (below_append' (HB.out.alloc hbz (.cells #[.int .i64 f, .int .i64 m, .int .i64 e, .int .i64 s, .int .i64 now, .int .i64 (now + ka), .int .i64 4294967296, .int .i64 4294967296] 36)) (by simp; omega) (HO1.out.alloc _) hgr)
              have HO7 : Hid (w7.ownsRow b0 36 8 (.slice (some ⟨g7, 0, none⟩) (q + 1) cp) (q + 1) ((rolled L i x f m e s now ka sa).flatMap Tm.cells)) := Lib.hid (by rw [HMR.out, List.flatMap_append]; simpa using hown7)
              have HRL : Hid ((rolled L i x f m e s now ka sa).length = q + 1) := Lib.hid (by unfold rolled; rw [List.length_append, List.length_set, List.length_singleton, HN.out])
              clear hown7 hgr hat hlt7 hif hz0 hz1 hz2
              trace "24"
              go_wp2_with fail
              go_ret2
              rw [HRR.out]
              refine ⟨some ⟨g7, 0, none⟩, cp, ?_, ?_, HB7.out⟩
              · dsimp only
                rw [HRL.out]
                rfl
              · dsimp only
                rw [HRL.out]
                exact HO7.out
end Go.Proofs.Ytnamkladeaohoaa.rroll

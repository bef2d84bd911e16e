/- The law gazetteerlaw4.SignerRolls: walk. -/
import Derived.Test.YtnamkladeaohoaaR27
import Derived.Test.YtnamkladeaohoaaK23
import Derived.Test.YtnamkladeaohoaaR28
import Derived.Test.YtnamkladeaohoaaR30
import Derived.Test.YtnamkladeaohoaaR31
import Derived.Deep.DeepCutAuto
import Derived.Laws.OwnMore
namespace Go.Proofs.Ytnamkladeaohoaa.signerRolls
open Go.RowKit Go.Proofs.Ytnamkladeaohoaa.kit Go.Proofs.Ytnamkladeaohoaa.timed Go.Proofs.Ytnamkladeaohoaa.rows Go.Proofs.Ytnamkladeaohoaa.safeP Go.Proofs.Ytnamkladeaohoaa.safeA Go.Proofs.Ytnamkladeaohoaa.right Go.Proofs.Ytnamkladeaohoaa.age Go.Proofs.Ytnamkladeaohoaa.line Go.Proofs.Ytnamkladeaohoaa.safeW Go.Proofs.Ytnamkladeaohoaa.safeL Go.Proofs.Ytnamkladeaohoaa.safeAll Go.Proofs.Ytnamkladeaohoaa.rollP Go.Proofs.Ytnamkladeaohoaa.rollA Go.Proofs.Ytnamkladeaohoaa.cloneT Go.Proofs.Ytnamkladeaohoaa.roll Go.Proofs.Ytnamkladeaohoaa.rroll Go.Proofs.Ytnamkladeaohoaa.turnArg Go.Proofs.Ytnamkladeaohoaa.keysP Go.Proofs.Ytnamkladeaohoaa.newKey
set_option linter.unusedVariables false

theorem int_bd {x : Int} (h : (Lit.int .i64 x).wf = true) : -9223372036854775808 ≤ x ∧ x ≤ 9223372036854775807 := by
  simp only [Lit.wf, Bool.and_eq_true, decide_eq_true_eq] at h
  exact h
theorem small_prime (n : Nat) (h2 : 2 ≤ n) (hn : n < 324) (h : ∀ j, j < 18 → 2 ≤ j → n % j ≠ 0) : PrimeP n := by
  refine ⟨h2, fun j hj hjj => h j ?_ hj⟩
  rcases Nat.lt_or_ge j 18 with e | e
  · exact e
  · have := Nat.mul_le_mul e e; omega
theorem good_first : GoodK 251 263 3 256 := by
  refine ⟨by decide, by decide, by decide, by decide, by decide, by decide, by decide, by decide, .inl rfl, ?_, ?_, by decide⟩
  · exact small_prime 251 (by decide) (by decide) (by decide)
  · exact small_prime 263 (by decide) (by decide) (by decide)
theorem first_key (w : World) : Calls Try.prog 9 #[.int .i64 251, .int .i64 263, .int .i64 3, .int .i64 256] w fun en w' => ∃ d : Int, en = .returned (.tuple #[.agg #[.int .i64 256, .int .i64 66013, .int .i64 3, .int .i64 d], .int .i64 0]) ∧ rightB 256 66013 3 d = true ∧ Below w.heap.size w w' :=
  (nkey_any 251 263 3 256 w).mono fun en w' ⟨hB, h⟩ => by
    rcases h with ⟨h, _⟩ | ⟨_, d, hi, rfl⟩
    · exact absurd good_first h
    · obtain ⟨h1, h2⟩ := hi
      have e : ((3 : Int).toNat) = 3 := rfl
      have e2 : (((251 : Int).toNat - 1) * ((263 : Int).toNat - 1)) = 65500 := by decide
      rw [e, e2] at h2
      rw [e2] at h1
      refine ⟨(d : Int), rfl, ?_, hB⟩
      have hd : 1 ≤ d := by
        rcases Nat.eq_zero_or_pos d with h | h
        · subst h; simp at h2
        · exact h
      have hs : someB (d : Int) 1 = true := some_yes (by omega) (by omega)
      have h6 : someB 66013 6 = true := some_yes (by decide) (by decide)
      have h3 : someB 3 1 = true := some_yes (by decide) (by decide)
      unfold rightB
      rw [hs, h6, h3]; rfl
theorem key_any (p q e f : Int) (w : World) : Calls Try.prog 9 #[.int .i64 p, .int .i64 q, .int .i64 e, .int .i64 f] w fun en w' => ∃ f' m' e' s' x : Int, en = .returned (.tuple #[.agg #[.int .i64 f', .int .i64 m', .int .i64 e', .int .i64 s'], .int .i64 x]) ∧ Below w.heap.size w w' :=
  (nkey_any p q e f w).mono fun en w' ⟨hB, h⟩ => by
    rcases h with ⟨_, rfl⟩ | ⟨_, d, _, rfl⟩
    · exact ⟨_, _, _, _, _, rfl, hB⟩
    · exact ⟨_, _, _, _, _, rfl, hB⟩
/-- the line under way -/
structure LineAt (wr : World) (a : Option Addr) (c : Nat) (L : List Tm) (ka sa lo : Int) : Prop where
  rd : RdC wr a 8 (L.map Tm.cells)
  nil : a = none → L.length = 0 ∧ c = 0
  chain : Chain ka sa lo L
theorem LineAt.below {wr w1 : World} {a : Option Addr} {c : Nat} {L : List Tm} {ka sa lo : Int} (h : LineAt wr a c L ka sa lo) (hB : Below wr.heap.size wr w1) : LineAt w1 a c L ka sa lo := ⟨h.rd.below hB rfl, h.nil, h.chain⟩
theorem line_first (w : World) (b : Nat) (hb : b ≤ w.heap.size) (d lo ka sa : Int) (hr : rightB 256 66013 3 d = true) (h0 : 0 ≤ lo) (h1 : lo ≤ 4294967295) : LineAt (w.alloc (.cells #[.int .i64 256, .int .i64 66013, .int .i64 3, .int .i64 d, .int .i64 lo, .int .i64 lo, .int .i64 4294967296, .int .i64 4294967296] 36)) (some ⟨w.heap.size, 0, none⟩) 1 [⟨256, 66013, 3, d, lo, lo, 4294967296, 4294967296⟩] ka sa lo := by
  have ho := World.ownsRow_lit (base := b) (e := 36) (size := 8) w #[.int .i64 256, .int .i64 66013, .int .i64 3, .int .i64 d, .int .i64 lo, .int .i64 lo, .int .i64 4294967296, .int .i64 4294967296] 1 hb (by decide) rfl
  obtain ⟨_, _, e1, _, _, _, hrd⟩ := rdc_own Tm.cells 8 (fun _ => rfl) (L := [⟨256, 66013, 3, d, lo, lo, 4294967296, 4294967296⟩]) rfl ho
  cases e1
  exact ⟨hrd, (fun h => by cases h), Chain.first hr h0 h1⟩
theorem safe_of {L : List Tm} {ka sa lo hi x y e : Int} (hC : Chain ka sa lo L) (hS : SafeP L ka sa lo hi x y e) (ha : argsB ka sa lo hi = true) (hlo : lo ≤ hi) (hhi : hi ≤ 4294967295) : e = 0 := by
  obtain ⟨A, B, hA, hB, h | ⟨ho, _⟩⟩ := hS.all ha hC.line
  · exact h.2.2.2
  · obtain ⟨s1, s2, s3, s4, s5, s6, s7⟩ := safe_no hA hB hlo ho
    rw [hC.serves s1 (by omega) s3 (by omega) s5 s6] at s7
    cases s7
theorem roll_rd {b0 : Nat} {w w' : World} {R : List Tm × Int} {en : Ending} (h : RollE b0 w R en w') : ∃ a c, en = .returned (.tuple #[.slice a R.1.length c, .int .i64 R.2]) ∧ RdC w' a 8 (R.1.map Tm.cells) ∧ (a = none → R.1.length = 0 ∧ c = 0) ∧ Below b0 w w' := by
  obtain ⟨a, c, h1, h2, h3⟩ := h
  obtain ⟨_, _, e1, _, _, hn, hrd⟩ := rdc_own Tm.cells 8 (fun _ => rfl) rfl h2
  cases e1
  exact ⟨a, c, h1, hrd, hn, h3⟩
theorem roll_len {L : List Tm} {f m e s now ka sa : Int} {R : List Tm × Int} (h : rollS L f m e s now ka sa = R) (hL : L.length ≤ 50) : R.1.length ≤ 1099511627776 := by
  subst h
  unfold rollS rollT
  repeat' split
  all_goals first | (simp; done) | (unfold rolled; rw [List.length_append, List.length_set, List.length_singleton]; omega)

set_option maxRecDepth 100000 in
set_option maxHeartbeats 8000000 in
theorem law (bg : Int) (aT : Option Addr) (nT cT : Nat) (TS : List Tn) (ka sa hi x y : Int) (w : World) (w0 : (Lit.int .i64 bg).wf = true) (hn : nT = TS.length) (hr : RdC w aT 4 (TS.map Tn.cells)) (ha : aT = none → nT = 0 ∧ cT = 0) (hbig : nT ≤ 1048576) (hwn : ∀ t ∈ TS, (Lit.int .i64 t.n).wf = true) (w2 : (Lit.int .i64 ka).wf = true) (w3 : (Lit.int .i64 sa).wf = true) (w4 : (Lit.int .i64 hi).wf = true) (w5 : (Lit.int .i64 x).wf = true) (w6 : (Lit.int .i64 y).wf = true) :
    Calls Try.prog 4 #[.int .i64 bg, .slice aT nT cT, .int .i64 ka, .int .i64 sa, .int .i64 hi, .int .i64 x, .int .i64 y] w fun e w' => e = .returned (.bool true) ∧ Below w.heap.size w w' := by
  obtain ⟨i0, hif, hz0, hz1, hz2⟩ := info_parts infoTm
  have hx2 := (int_bd w5).2; have hy2 := (int_bd w6).2
  have HRT := Lib.hid (fun (wx : World) (hB : Below w.heap.size w wx) => hr.below hB rfl); have HN := Lib.hid hn; have HWN := Lib.hid hwn
  clear hr hn ha w0 w2 w3 w4 w5 w6 hwn
  go_enter Try.func4, Try.ntmps4
  trace "1"
  go_wp2_with fail
  refine (first_key w).mono ?_
  rintro en w1 ⟨d, rfl, hrt, hB1⟩
  have HRT0 := Lib.hid hrt
  have HB1 := Lib.hid (hB1.alloc hB1.size (.cells #[.int .i64 256, .int .i64 66013, .int .i64 3, .int .i64 d] 32))
  have hk1 := key_new w1 256 66013 3 d
  obtain ⟨P, hP⟩ : ∃ P, w1.heap.size = P := ⟨_, rfl⟩
  obtain ⟨wa, hwa⟩ : ∃ wa, w1.alloc (.cells #[.int .i64 256, .int .i64 66013, .int .i64 3, .int .i64 d] 32) = wa := ⟨_, rfl⟩
  rw [hwa] at HB1 hk1
  rw [hP] at hk1
  have HK1 := Lib.hid hk1; have HWA := Lib.hid hwa; have HP := Lib.hid hP
  clear hB1 hrt hk1 hwa hP
  trace "2"
  by_cases g1 : bg < 0
  · have f1 : decide (bg < 0) = true := decide_eq_true g1
    have hlo0 : (0 : Int) ≤ (0 : Int) := by omega
    have hlo1 : (0 : Int) ≤ (4294967295 : Int) := by omega
    have k0 := HK1.out.c0; have k1 := HK1.out.c1; have k2 := HK1.out.c2; have k3 := HK1.out.c3
    have hl2 := line_first wa w.heap.size HB1.out.size d (0 : Int) ka sa HRT0.out hlo0 hlo1
    have hB2 := HB1.out.alloc HB1.out.size (.cells #[.int .i64 256, .int .i64 66013, .int .i64 3, .int .i64 d, .int .i64 (0 : Int), .int .i64 (0 : Int), .int .i64 4294967296, .int .i64 4294967296] 36)
    obtain ⟨wb, hwb⟩ : ∃ wb, wa.alloc (.cells #[.int .i64 256, .int .i64 66013, .int .i64 3, .int .i64 d, .int .i64 (0 : Int), .int .i64 (0 : Int), .int .i64 4294967296, .int .i64 4294967296] 36) = wb := ⟨_, rfl⟩
    rw [hwb] at hl2 hB2
    have HL2 := Lib.hid hl2; have HB2 := Lib.hid hB2; have HWB := Lib.hid hwb
    clear hl2 hB2 hwb
    go_upto_region 6 with fail
    rw [HWA.out]
    try rw [HP.out]
    go_upto_region 7 with fail
    rw [HWB.out]
    clear k0 k1 k2 k3
    trace "3"
    go_wp2_with fail
    go_loopg [17, 49] (nT + 1) (fun gas lv kv wr => ∃ (k m : Nat) (aL : Option Addr) (cL : Nat) (L : List Tm), lv = .slice aL m cL ∧ kv = .int .i64 (k : Int) ∧ k ≤ nT ∧ k + gas = nT + 1 ∧ Hid (L.length = m) ∧ Hid (LineAt wr aL cL L ka sa (0 : Int)) ∧ Hid (Below w.heap.size w wr))
    case atStart => exact ⟨0, 1, _, 1, _, rfl, rfl, by omega, by omega, Lib.hid rfl, HL2, HB2⟩
    case round =>
      clear HL2 HB2
      obtain ⟨k, m, aL, cL, L, rfl, rfl, hk, hkg, HM, HL, HB⟩ := hrel
      have HK := Lib.hid hkg; clear hkg
      have hm50 : m ≤ 50 := by rw [← HM.out]; exact (line_in HL.out.chain.line).2
      have hbz : w.heap.size ≤ wr.heap.size := HB.out.size
      by_cases hlt : k < nT
      · obtain ⟨t, hx⟩ : ∃ t, TS[k]? = some t := ⟨_, List.getElem?_eq_getElem (by have := HN.out; omega)⟩
        have hnw := int_bd (HWN.out t (List.mem_of_getElem? hx))
        obtain ⟨g1, o1, rfl, hg1, x0, x1, x2, x3⟩ := RdC.at_n (HRT.out wr HB.out) hx
        obtain ⟨tp, tq, te, tn⟩ := t
        dsimp only at x0 x1 x2 x3 hnw
        have zk : (0 : Int) ≤ (k : Int) := by omega
        have zl : (k : Int) < (nT : Int) := by omega
        have hB1 := (Below.refl wr.heap.size wr).alloc (Nat.le_refl _) (.cells #[.int .i64 tp, .int .i64 tq, .int .i64 te, .int .i64 tn] 38)
        have ht1 := heap_alloc_new wr (.cells #[.int .i64 tp, .int .i64 tq, .int .i64 te, .int .i64 tn] 38)
        obtain ⟨X, hX⟩ : ∃ X, wr.heap.size = X := ⟨_, rfl⟩
        obtain ⟨w2, hw2⟩ : ∃ w2, wr.alloc (.cells #[.int .i64 tp, .int .i64 tq, .int .i64 te, .int .i64 tn] 38) = w2 := ⟨_, rfl⟩
        rw [hw2] at hB1 ht1
        rw [hX] at ht1
        have hn3 : w2.cell? ⟨X, 3, none⟩ = some (.int .i64 tn) := by simp only [World.cell?, ht1]; rfl
        have y0 : w2.cell? ⟨X, 0, none⟩ = some (.int .i64 tp) := by simp only [World.cell?, ht1]; rfl
        have y1 : w2.cell? ⟨X, 1, none⟩ = some (.int .i64 tq) := by simp only [World.cell?, ht1]; rfl
        have y2 : w2.cell? ⟨X, 2, none⟩ = some (.int .i64 te) := by simp only [World.cell?, ht1]; rfl
        have HW2 := Lib.hid hw2; have HX := Lib.hid hX
        have HB2 := Lib.hid (HB.out.trans (hB1.mono hbz)); have HL2 := Lib.hid (HL.out.below hB1); have HN2 := Lib.hid hn3
        have hbz2 : w.heap.size ≤ w2.heap.size := Nat.le_trans hbz hB1.size
        clear hB1 ht1 hw2 hX hn3 hx hlt HB HL hbz
        trace "4"
        go_upto_region 10 with fail
        rw [HW2.out]
        try rw [HX.out]
        clear x0 x1 x2 x3
        go_wp2_with fail
        refine (key_any tp tq te 256 w2).mono ?_
        rintro en w3 ⟨f, mm, e, s, xk, rfl, hB3⟩
        have hB4 := hB3.alloc hB3.size (.cells #[.int .i64 f, .int .i64 mm, .int .i64 e, .int .i64 s] 32)
        have hk4 := key_new w3 f mm e s
        obtain ⟨Q, hQ⟩ : ∃ Q, w3.heap.size = Q := ⟨_, rfl⟩
        obtain ⟨w4, hw4⟩ : ∃ w4, w3.alloc (.cells #[.int .i64 f, .int .i64 mm, .int .i64 e, .int .i64 s] 32) = w4 := ⟨_, rfl⟩
        rw [hw4] at hB4 hk4
        rw [hQ] at hk4
        have HB4 := Lib.hid (HB2.out.trans (hB4.mono hbz2)); have HL4 := Lib.hid (HL2.out.below hB4); have HN4 := Lib.hid (rollA.cell_kept hB4 HN2.out); have HK4 := Lib.hid hk4
        have HW4 := Lib.hid hw4; have HQ := Lib.hid hQ
        have hbz4 : w.heap.size ≤ w4.heap.size := Nat.le_trans hbz2 hB4.size
        have HSRC := Lib.hid (cells_rd Tm.cells 8 (by decide) (fun _ => rfl) HL4.out.rd cL HL4.out.nil)
        clear hB3 hB4 hk4 hw4 hQ y0 y1 y2 HB2 HL2 HN2 hbz2
        trace "5"
        go_upto_region 11 with fail
        rw [HW4.out]
        try rw [HQ.out]
        go_wp2_with (at_builtin; refine wpList_append_src rfl (.const (.slice none 0 0)) (.tmp 63) 22 rfl w4.heap.size 36 i0 _ 8 64 Try.underlying22 hif hz0 hz1 hz2 rfl (by decide) _ 0 [] rfl (World.ownsRow_nil _ _ _ _) aL m cL (L.flatMap Tm.cells) rfl (by rw [flat_len Tm.cells 8 (fun _ => rfl), HM.out]) (by rw [← HM.out]; exact HSRC.out) (one_cells tm_one) (by unfold maxLen; omega) (by omega) (Nat.le_refl _) ?_)
        intro v5 w5 hown5 hgr5
        have hB5 : Below w4.heap.size w4 w5 := below_append' (Below.refl _ _) (Nat.le_refl _) (World.ownsRow_nil _ w4.heap.size 36 8) hgr5
        have ho5 : w5.ownsRow w4.heap.size 36 8 v5 m (L.flatMap Tm.cells) := by first | exact hown5 | simpa using hown5
        obtain ⟨a5, c5, rfl, _, _, hn5, hr5⟩ := rdc_own Tm.cells 8 (fun _ => rfl) HM.out.symm ho5
        have HB5 := Lib.hid (HB4.out.trans (hB5.mono hbz4)); have HL5 := Lib.hid (HL4.out.below hB5); have HN5 := Lib.hid (rollA.cell_kept hB5 HN4.out); have HK5 := Lib.hid (HK4.out.below hB5)
        have HR5 := Lib.hid hr5; have HNL5 := Lib.hid hn5
        have hbz5 : w.heap.size ≤ w5.heap.size := Nat.le_trans hbz4 hB5.size
        obtain ⟨RR, hRR⟩ : ∃ RR, rollS L f mm e s tn ka sa = RR := ⟨_, rfl⟩
        have HRR := Lib.hid hRR
        have CR := Lib.hid (roll_any a5 m c5 L f mm e s tn ka sa w5 HM.out.symm hr5 (fun h => by have := hn5 h; rw [HM.out]; exact this) (by omega) hnw.1 hnw.2)
        have CQ := Lib.hid (fun (wx : World) (hB : Below w5.heap.size w5 wx) => rroll_any aL m cL L f mm e s tn ka sa wx HM.out.symm (HL5.out.below hB).rd (by omega) hnw.1 hnw.2)
        rw [hRR] at CR CQ
        have hrl := roll_len hRR (by rw [HM.out]; exact hm50)
        obtain ⟨mr, hmr⟩ : ∃ mr, RR.1.length = mr := ⟨_, rfl⟩
        rw [hmr] at hrl
        have HMR := Lib.hid hmr
        have n3 := HN5.out
        have k0 := HK5.out.c0; have k1 := HK5.out.c1; have k2 := HK5.out.c2; have k3 := HK5.out.c3
        clear hown5 hgr5 hB5 ho5 hr5 hn5 hRR hmr HB4 HL4 HN4 HK4 HSRC hbz4
        trace "6"
        go_wp2_with fail
        refine CR.out.mono ?_
        intro en w6 hE6
        obtain ⟨a6, c6, rfl, hr6, hn6, hB6⟩ := roll_rd hE6
        rw [HMR.out] at hn6
        rw [HMR.out]
        have HB6 := Lib.hid (HB5.out.trans (hB6.mono hbz5)); have HL6 := Lib.hid (HL5.out.below hB6); have HN6 := Lib.hid (rollA.cell_kept hB6 HN5.out); have HK6 := Lib.hid (HK5.out.below hB6); have HR6 := Lib.hid hr6; have HO6 := Lib.hid (HR5.out.below hB6 rfl)
        have hbz6 : w.heap.size ≤ w6.heap.size := Nat.le_trans hbz5 hB6.size
        have CQ6 := Lib.hid (CQ.out w6 hB6)
        clear k0 k1 k2 k3 n3 hE6 hr6 hB6 CR CQ HB5 HL5 HN5 HK5 HR5 hbz5
        have n3 := HN6.out
        have k0 := HK6.out.c0; have k1 := HK6.out.c1; have k2 := HK6.out.c2; have k3 := HK6.out.c3
        trace "7"
        go_wp2_with fail
        refine CQ6.out.mono ?_
        intro en w7 hE7
        obtain ⟨a7, c7, rfl, hr7, hn7, hB7⟩ := roll_rd hE7
        rw [HMR.out] at hn7
        rw [HMR.out]
        have HB7 := Lib.hid (HB6.out.trans (hB7.mono hbz6)); have HL7 := Lib.hid (HL6.out.below hB7); have HR6' := Lib.hid (HR6.out.below hB7 rfl); have HO7 := Lib.hid (HO6.out.below hB7 rfl); have HR7 := Lib.hid hr7; have HN7 := Lib.hid hn7
        have hbz7 : w.heap.size ≤ w7.heap.size := Nat.le_trans hbz6 hB7.size
        obtain ⟨xe, hxe⟩ : ∃ xe, RR.2 = xe := ⟨_, rfl⟩
        rw [hxe]
        have HXE := Lib.hid hxe
        have C1 := Lib.hid (same_line a6 a7 mr c6 c7 RR.1 w7 HMR.out.symm HR6'.out hr7 hrl)
        clear k0 k1 k2 k3 n3 hE7 hr7 hn7 hB7 CQ6 HB6 HL6 HN6 HK6 HR6 HO6 hbz6 hxe hn6
        trace "8"
        go_wp2_with fail
        refine C1.out.mono ?_
        rintro en w8 ⟨rfl, hB8⟩
        have HB8 := Lib.hid (HB7.out.trans (hB8.mono hbz7)); have HL8 := Lib.hid (HL7.out.below hB8); have HO8 := Lib.hid (HO7.out.below hB8 rfl); have HR8 := Lib.hid (HR7.out.below hB8 rfl)
        have hbz8 : w.heap.size ≤ w8.heap.size := Nat.le_trans hbz7 hB8.size
        have C2 := Lib.hid (same_line a5 aL m c5 cL L w8 HM.out.symm HO8.out HL8.out.rd (by omega))
        clear hB8 C1 HB7 HL7 HO7 HR6' HR7 hbz7
        trace "9"
        go_wp2_with fail
        refine C2.out.mono ?_
        rintro en w9 ⟨rfl, hB9⟩
        have HB9 := Lib.hid (HB8.out.trans (hB9.mono hbz8)); have HL9 := Lib.hid (HL8.out.below hB9); have HR9 := Lib.hid (HR8.out.below hB9 rfl)
        clear hB9 C2 HB8 HL8 HO8 HR8 hbz8
        by_cases hxe : xe = 0
        · subst hxe
          have HLN : Hid (LineAt w9 a7 c7 RR.1 ka sa (0 : Int)) := Lib.hid ⟨HR9.out, fun h => by rw [HMR.out]; exact HN7.out h, HL9.out.chain.roll (by rw [HRR.out]; exact Prod.ext rfl HXE.out)⟩
          trace "10"
          go_wp2_with fail
          have hkg := HK.out
          go_roundg (gk - 1)
          case rel => exact ⟨k + 1, mr, a7, c7, RR.1, rfl, by go_num, by omega, by omega, HMR, HLN, HB9⟩
          case measure => omega
        · have hxb : (xe == 0) = false := by rw [beq_eq_false_iff_ne]; exact hxe
          trace "11"
          go_wp2_with fail
          have hkg := HK.out
          go_roundg (gk - 1)
          case rel => exact ⟨k + 1, m, aL, cL, L, rfl, by go_num, by omega, by omega, HM, HL9, HB9⟩
          case measure => omega
      · have hke : k = nT := by omega
        subst hke
        have hz : ¬ (k : Int) < (k : Int) := by omega
        have HAB : Hid (∀ (_ : 0 ≤ ka) (_ : ka ≤ 2147483647) (_ : 0 ≤ sa) (_ : sa ≤ 2147483647) (_ : (0 : Int) ≤ hi) (_ : hi ≤ 4294967295), argsB ka sa (0 : Int) hi = true) := Lib.hid (fun h1 h2 h3 h4 h5 h6 => by unfold argsB ageB; simp only [Bool.and_eq_true, decide_eq_true_eq]; exact ⟨⟨h1, h2⟩, ⟨h3, h4⟩, hlo0, h5, h6⟩)
        clear hk HK
        trace "12"
        by_cases c0 : ka < 0
        · have ec0 : decide (ka < 0) = true := decide_eq_true c0
          go_wp2_with fail
          go_ret
          exact ⟨rfl, HB.out⟩
        have ec0 : decide (ka < 0) = false := decide_eq_false c0
        by_cases c1 : 2147483647 < ka
        · have ec1 : decide (2147483647 < ka) = true := decide_eq_true c1
          go_wp2_with fail
          go_ret
          exact ⟨rfl, HB.out⟩
        have ec1 : decide (2147483647 < ka) = false := decide_eq_false c1
        by_cases c2 : sa < 0
        · have ec2 : decide (sa < 0) = true := decide_eq_true c2
          go_wp2_with fail
          go_ret
          exact ⟨rfl, HB.out⟩
        have ec2 : decide (sa < 0) = false := decide_eq_false c2
        by_cases c3 : 2147483647 < sa
        · have ec3 : decide (2147483647 < sa) = true := decide_eq_true c3
          go_wp2_with fail
          go_ret
          exact ⟨rfl, HB.out⟩
        have ec3 : decide (2147483647 < sa) = false := decide_eq_false c3
        by_cases c4 : hi < (0 : Int)
        · have ec4 : decide (hi < (0 : Int)) = true := decide_eq_true c4
          go_wp2_with fail
          go_ret
          exact ⟨rfl, HB.out⟩
        have ec4 : decide (hi < (0 : Int)) = false := decide_eq_false c4
        by_cases c5 : 4294967295 < hi
        · have ec5 : decide (4294967295 < hi) = true := decide_eq_true c5
          go_wp2_with fail
          go_ret
          exact ⟨rfl, HB.out⟩
        have ec5 : decide (4294967295 < hi) = false := decide_eq_false c5
        have CSF := Lib.hid (safe_any aL m cL L ka sa (0 : Int) hi wr HM.out.symm HL.out.rd (by omega))
        trace "13"
        go_wp2_with fail
        refine CSF.out.mono ?_
        rintro en w2 ⟨sx, sy, se, rfl, hS, hB2⟩
        obtain rfl : se = 0 := safe_of HL.out.chain hS (HAB.out (by omega) (by omega) (by omega) (by omega) (by omega) (by omega)) (by omega) (by omega)
        have HB2 := Lib.hid (HB.out.trans (hB2.mono hbz)); have HL2 := Lib.hid (HL.out.below hB2)
        have hbz2 : w.heap.size ≤ w2.heap.size := Nat.le_trans hbz hB2.size
        clear hS hB2 CSF HB HL hbz HAB
        by_cases q0 : x < (0 : Int)
        · have eq0 : decide (x < (0 : Int)) = true := decide_eq_true q0
          go_wp2_with fail
          go_ret
          exact ⟨rfl, HB2.out⟩
        have eq0 : decide (x < (0 : Int)) = false := decide_eq_false q0
        by_cases q1 : y < (0 : Int)
        · have eq1 : decide (y < (0 : Int)) = true := decide_eq_true q1
          go_wp2_with fail
          go_ret
          exact ⟨rfl, HB2.out⟩
        have eq1 : decide (y < (0 : Int)) = false := decide_eq_false q1
        by_cases q2 : ka < y - x
        · have eq2 : decide (ka < y - x) = true := decide_eq_true q2
          go_wp2_with fail
          go_ret
          exact ⟨rfl, HB2.out⟩
        have eq2 : decide (ka < y - x) = false := decide_eq_false q2
        by_cases q3 : sa < x - y
        · have eq3 : decide (sa < x - y) = true := decide_eq_true q3
          go_wp2_with fail
          go_ret
          exact ⟨rfl, HB2.out⟩
        have eq3 : decide (sa < x - y) = false := decide_eq_false q3
        by_cases q4 : 4294967295 < x
        · have eq4 : decide (4294967295 < x) = true := decide_eq_true q4
          go_wp2_with fail
          go_ret
          exact ⟨rfl, HB2.out⟩
        have eq4 : decide (4294967295 < x) = false := decide_eq_false q4
        by_cases q5 : 4294967295 < y
        · have eq5 : decide (4294967295 < y) = true := decide_eq_true q5
          go_wp2_with fail
          go_ret
          exact ⟨rfl, HB2.out⟩
        have eq5 : decide (4294967295 < y) = false := decide_eq_false q5
        have CSV := Lib.hid (served_any aL m cL L x y w2 HM.out.symm HL2.out.rd (by omega))
        have hsv := HL2.out.chain.serves (a := x) (b := y) (by omega) (by omega) (by omega) (by omega) (by omega) (by omega)
        rw [hsv] at CSV
        clear hsv
        trace "15"
        go_wp2_with fail
        refine CSV.out.mono ?_
        rintro en w3 ⟨rfl, hB3⟩
        have HB3 := Lib.hid (HB2.out.trans (hB3.mono hbz2))
        clear hB3
        go_wp2_with fail
        go_ret
        exact ⟨rfl, HB3.out⟩
  have f1 : decide (bg < 0) = false := decide_eq_false g1
  by_cases g2 : 4294967295 < bg
  · have f2 : decide (4294967295 < bg) = true := decide_eq_true g2
    have hlo0 : (0 : Int) ≤ (0 : Int) := by omega
    have hlo1 : (0 : Int) ≤ (4294967295 : Int) := by omega
    have k0 := HK1.out.c0; have k1 := HK1.out.c1; have k2 := HK1.out.c2; have k3 := HK1.out.c3
    have hl2 := line_first wa w.heap.size HB1.out.size d (0 : Int) ka sa HRT0.out hlo0 hlo1
    have hB2 := HB1.out.alloc HB1.out.size (.cells #[.int .i64 256, .int .i64 66013, .int .i64 3, .int .i64 d, .int .i64 (0 : Int), .int .i64 (0 : Int), .int .i64 4294967296, .int .i64 4294967296] 36)
    obtain ⟨wb, hwb⟩ : ∃ wb, wa.alloc (.cells #[.int .i64 256, .int .i64 66013, .int .i64 3, .int .i64 d, .int .i64 (0 : Int), .int .i64 (0 : Int), .int .i64 4294967296, .int .i64 4294967296] 36) = wb := ⟨_, rfl⟩
    rw [hwb] at hl2 hB2
    have HL2 := Lib.hid hl2; have HB2 := Lib.hid hB2; have HWB := Lib.hid hwb
    clear hl2 hB2 hwb
    go_upto_region 6 with fail
    rw [HWA.out]
    try rw [HP.out]
    go_upto_region 7 with fail
    rw [HWB.out]
    clear k0 k1 k2 k3
    trace "3"
    go_wp2_with fail
    go_loopg [17, 49] (nT + 1) (fun gas lv kv wr => ∃ (k m : Nat) (aL : Option Addr) (cL : Nat) (L : List Tm), lv = .slice aL m cL ∧ kv = .int .i64 (k : Int) ∧ k ≤ nT ∧ k + gas = nT + 1 ∧ Hid (L.length = m) ∧ Hid (LineAt wr aL cL L ka sa (0 : Int)) ∧ Hid (Below w.heap.size w wr))
    case atStart => exact ⟨0, 1, _, 1, _, rfl, rfl, by omega, by omega, Lib.hid rfl, HL2, HB2⟩
    case round =>
      clear HL2 HB2
      obtain ⟨k, m, aL, cL, L, rfl, rfl, hk, hkg, HM, HL, HB⟩ := hrel
      have HK := Lib.hid hkg; clear hkg
      have hm50 : m ≤ 50 := by rw [← HM.out]; exact (line_in HL.out.chain.line).2
      have hbz : w.heap.size ≤ wr.heap.size := HB.out.size
      by_cases hlt : k < nT
      · obtain ⟨t, hx⟩ : ∃ t, TS[k]? = some t := ⟨_, List.getElem?_eq_getElem (by have := HN.out; omega)⟩
        have hnw := int_bd (HWN.out t (List.mem_of_getElem? hx))
        obtain ⟨g1, o1, rfl, hg1, x0, x1, x2, x3⟩ := RdC.at_n (HRT.out wr HB.out) hx
        obtain ⟨tp, tq, te, tn⟩ := t
        dsimp only at x0 x1 x2 x3 hnw
        have zk : (0 : Int) ≤ (k : Int) := by omega
        have zl : (k : Int) < (nT : Int) := by omega
        have hB1 := (Below.refl wr.heap.size wr).alloc (Nat.le_refl _) (.cells #[.int .i64 tp, .int .i64 tq, .int .i64 te, .int .i64 tn] 38)
        have ht1 := heap_alloc_new wr (.cells #[.int .i64 tp, .int .i64 tq, .int .i64 te, .int .i64 tn] 38)
        obtain ⟨X, hX⟩ : ∃ X, wr.heap.size = X := ⟨_, rfl⟩
        obtain ⟨w2, hw2⟩ : ∃ w2, wr.alloc (.cells #[.int .i64 tp, .int .i64 tq, .int .i64 te, .int .i64 tn] 38) = w2 := ⟨_, rfl⟩
        rw [hw2] at hB1 ht1
        rw [hX] at ht1
        have hn3 : w2.cell? ⟨X, 3, none⟩ = some (.int .i64 tn) := by simp only [World.cell?, ht1]; rfl
        have y0 : w2.cell? ⟨X, 0, none⟩ = some (.int .i64 tp) := by simp only [World.cell?, ht1]; rfl
        have y1 : w2.cell? ⟨X, 1, none⟩ = some (.int .i64 tq) := by simp only [World.cell?, ht1]; rfl
        have y2 : w2.cell? ⟨X, 2, none⟩ = some (.int .i64 te) := by simp only [World.cell?, ht1]; rfl
        have HW2 := Lib.hid hw2; have HX := Lib.hid hX
        have HB2 := Lib.hid (HB.out.trans (hB1.mono hbz)); have HL2 := Lib.hid (HL.out.below hB1); have HN2 := Lib.hid hn3
        have hbz2 : w.heap.size ≤ w2.heap.size := Nat.le_trans hbz hB1.size
        clear hB1 ht1 hw2 hX hn3 hx hlt HB HL hbz
        trace "4"
        go_upto_region 10 with fail
        rw [HW2.out]
        try rw [HX.out]
        clear x0 x1 x2 x3
        go_wp2_with fail
        refine (key_any tp tq te 256 w2).mono ?_
        rintro en w3 ⟨f, mm, e, s, xk, rfl, hB3⟩
        have hB4 := hB3.alloc hB3.size (.cells #[.int .i64 f, .int .i64 mm, .int .i64 e, .int .i64 s] 32)
        have hk4 := key_new w3 f mm e s
        obtain ⟨Q, hQ⟩ : ∃ Q, w3.heap.size = Q := ⟨_, rfl⟩
        obtain ⟨w4, hw4⟩ : ∃ w4, w3.alloc (.cells #[.int .i64 f, .int .i64 mm, .int .i64 e, .int .i64 s] 32) = w4 := ⟨_, rfl⟩
        rw [hw4] at hB4 hk4
        rw [hQ] at hk4
        have HB4 := Lib.hid (HB2.out.trans (hB4.mono hbz2)); have HL4 := Lib.hid (HL2.out.below hB4); have HN4 := Lib.hid (rollA.cell_kept hB4 HN2.out); have HK4 := Lib.hid hk4
        have HW4 := Lib.hid hw4; have HQ := Lib.hid hQ
        have hbz4 : w.heap.size ≤ w4.heap.size := Nat.le_trans hbz2 hB4.size
        have HSRC := Lib.hid (cells_rd Tm.cells 8 (by decide) (fun _ => rfl) HL4.out.rd cL HL4.out.nil)
        clear hB3 hB4 hk4 hw4 hQ y0 y1 y2 HB2 HL2 HN2 hbz2
        trace "5"
        go_upto_region 11 with fail
        rw [HW4.out]
        try rw [HQ.out]
        go_wp2_with (at_builtin; refine wpList_append_src rfl (.const (.slice none 0 0)) (.tmp 63) 22 rfl w4.heap.size 36 i0 _ 8 64 Try.underlying22 hif hz0 hz1 hz2 rfl (by decide) _ 0 [] rfl (World.ownsRow_nil _ _ _ _) aL m cL (L.flatMap Tm.cells) rfl (by rw [flat_len Tm.cells 8 (fun _ => rfl), HM.out]) (by rw [← HM.out]; exact HSRC.out) (one_cells tm_one) (by unfold maxLen; omega) (by omega) (Nat.le_refl _) ?_)
        intro v5 w5 hown5 hgr5
        have hB5 : Below w4.heap.size w4 w5 := below_append' (Below.refl _ _) (Nat.le_refl _) (World.ownsRow_nil _ w4.heap.size 36 8) hgr5
        have ho5 : w5.ownsRow w4.heap.size 36 8 v5 m (L.flatMap Tm.cells) := by first | exact hown5 | simpa using hown5
        obtain ⟨a5, c5, rfl, _, _, hn5, hr5⟩ := rdc_own Tm.cells 8 (fun _ => rfl) HM.out.symm ho5
        have HB5 := Lib.hid (HB4.out.trans (hB5.mono hbz4)); have HL5 := Lib.hid (HL4.out.below hB5); have HN5 := Lib.hid (rollA.cell_kept hB5 HN4.out); have HK5 := Lib.hid (HK4.out.below hB5)
        have HR5 := Lib.hid hr5; have HNL5 := Lib.hid hn5
        have hbz5 : w.heap.size ≤ w5.heap.size := Nat.le_trans hbz4 hB5.size
        obtain ⟨RR, hRR⟩ : ∃ RR, rollS L f mm e s tn ka sa = RR := ⟨_, rfl⟩
        have HRR := Lib.hid hRR
        have CR := Lib.hid (roll_any a5 m c5 L f mm e s tn ka sa w5 HM.out.symm hr5 (fun h => by have := hn5 h; rw [HM.out]; exact this) (by omega) hnw.1 hnw.2)
        have CQ := Lib.hid (fun (wx : World) (hB : Below w5.heap.size w5 wx) => rroll_any aL m cL L f mm e s tn ka sa wx HM.out.symm (HL5.out.below hB).rd (by omega) hnw.1 hnw.2)
        rw [hRR] at CR CQ
        have hrl := roll_len hRR (by rw [HM.out]; exact hm50)
        obtain ⟨mr, hmr⟩ : ∃ mr, RR.1.length = mr := ⟨_, rfl⟩
        rw [hmr] at hrl
        have HMR := Lib.hid hmr
        have n3 := HN5.out
        have k0 := HK5.out.c0; have k1 := HK5.out.c1; have k2 := HK5.out.c2; have k3 := HK5.out.c3
        clear hown5 hgr5 hB5 ho5 hr5 hn5 hRR hmr HB4 HL4 HN4 HK4 HSRC hbz4
        trace "6"
        go_wp2_with fail
        refine CR.out.mono ?_
        intro en w6 hE6
        obtain ⟨a6, c6, rfl, hr6, hn6, hB6⟩ := roll_rd hE6
        rw [HMR.out] at hn6
        rw [HMR.out]
        have HB6 := Lib.hid (HB5.out.trans (hB6.mono hbz5)); have HL6 := Lib.hid (HL5.out.below hB6); have HN6 := Lib.hid (rollA.cell_kept hB6 HN5.out); have HK6 := Lib.hid (HK5.out.below hB6); have HR6 := Lib.hid hr6; have HO6 := Lib.hid (HR5.out.below hB6 rfl)
        have hbz6 : w.heap.size ≤ w6.heap.size := Nat.le_trans hbz5 hB6.size
        have CQ6 := Lib.hid (CQ.out w6 hB6)
        clear k0 k1 k2 k3 n3 hE6 hr6 hB6 CR CQ HB5 HL5 HN5 HK5 HR5 hbz5
        have n3 := HN6.out
        have k0 := HK6.out.c0; have k1 := HK6.out.c1; have k2 := HK6.out.c2; have k3 := HK6.out.c3
        trace "7"
        go_wp2_with fail
        refine CQ6.out.mono ?_
        intro en w7 hE7
        obtain ⟨a7, c7, rfl, hr7, hn7, hB7⟩ := roll_rd hE7
        rw [HMR.out] at hn7
        rw [HMR.out]
        have HB7 := Lib.hid (HB6.out.trans (hB7.mono hbz6)); have HL7 := Lib.hid (HL6.out.below hB7); have HR6' := Lib.hid (HR6.out.below hB7 rfl); have HO7 := Lib.hid (HO6.out.below hB7 rfl); have HR7 := Lib.hid hr7; have HN7 := Lib.hid hn7
        have hbz7 : w.heap.size ≤ w7.heap.size := Nat.le_trans hbz6 hB7.size
        obtain ⟨xe, hxe⟩ : ∃ xe, RR.2 = xe := ⟨_, rfl⟩
        rw [hxe]
        have HXE := Lib.hid hxe
        have C1 := Lib.hid (same_line a6 a7 mr c6 c7 RR.1 w7 HMR.out.symm HR6'.out hr7 hrl)
        clear k0 k1 k2 k3 n3 hE7 hr7 hn7 hB7 CQ6 HB6 HL6 HN6 HK6 HR6 HO6 hbz6 hxe hn6
        trace "8"
        go_wp2_with fail
        refine C1.out.mono ?_
        rintro en w8 ⟨rfl, hB8⟩
        have HB8 := Lib.hid (HB7.out.trans (hB8.mono hbz7)); have HL8 := Lib.hid (HL7.out.below hB8); have HO8 := Lib.hid (HO7.out.below hB8 rfl); have HR8 := Lib.hid (HR7.out.below hB8 rfl)
        have hbz8 : w.heap.size ≤ w8.heap.size := Nat.le_trans hbz7 hB8.size
        have C2 := Lib.hid (same_line a5 aL m c5 cL L w8 HM.out.symm HO8.out HL8.out.rd (by omega))
        clear hB8 C1 HB7 HL7 HO7 HR6' HR7 hbz7
        trace "9"
        go_wp2_with fail
        refine C2.out.mono ?_
        rintro en w9 ⟨rfl, hB9⟩
        have HB9 := Lib.hid (HB8.out.trans (hB9.mono hbz8)); have HL9 := Lib.hid (HL8.out.below hB9); have HR9 := Lib.hid (HR8.out.below hB9 rfl)
        clear hB9 C2 HB8 HL8 HO8 HR8 hbz8
        by_cases hxe : xe = 0
        · subst hxe
          have HLN : Hid (LineAt w9 a7 c7 RR.1 ka sa (0 : Int)) := Lib.hid ⟨HR9.out, fun h => by rw [HMR.out]; exact HN7.out h, HL9.out.chain.roll (by rw [HRR.out]; exact Prod.ext rfl HXE.out)⟩
          trace "10"
          go_wp2_with fail
          have hkg := HK.out
          go_roundg (gk - 1)
          case rel => exact ⟨k + 1, mr, a7, c7, RR.1, rfl, by go_num, by omega, by omega, HMR, HLN, HB9⟩
          case measure => omega
        · have hxb : (xe == 0) = false := by rw [beq_eq_false_iff_ne]; exact hxe
          trace "11"
          go_wp2_with fail
          have hkg := HK.out
          go_roundg (gk - 1)
          case rel => exact ⟨k + 1, m, aL, cL, L, rfl, by go_num, by omega, by omega, HM, HL9, HB9⟩
          case measure => omega
      · have hke : k = nT := by omega
        subst hke
        have hz : ¬ (k : Int) < (k : Int) := by omega
        have HAB : Hid (∀ (_ : 0 ≤ ka) (_ : ka ≤ 2147483647) (_ : 0 ≤ sa) (_ : sa ≤ 2147483647) (_ : (0 : Int) ≤ hi) (_ : hi ≤ 4294967295), argsB ka sa (0 : Int) hi = true) := Lib.hid (fun h1 h2 h3 h4 h5 h6 => by unfold argsB ageB; simp only [Bool.and_eq_true, decide_eq_true_eq]; exact ⟨⟨h1, h2⟩, ⟨h3, h4⟩, hlo0, h5, h6⟩)
        clear hk HK
        trace "12"
        by_cases c0 : ka < 0
        · have ec0 : decide (ka < 0) = true := decide_eq_true c0
          go_wp2_with fail
          go_ret
          exact ⟨rfl, HB.out⟩
        have ec0 : decide (ka < 0) = false := decide_eq_false c0
        by_cases c1 : 2147483647 < ka
        · have ec1 : decide (2147483647 < ka) = true := decide_eq_true c1
          go_wp2_with fail
          go_ret
          exact ⟨rfl, HB.out⟩
        have ec1 : decide (2147483647 < ka) = false := decide_eq_false c1
        by_cases c2 : sa < 0
        · have ec2 : decide (sa < 0) = true := decide_eq_true c2
          go_wp2_with fail
          go_ret
          exact ⟨rfl, HB.out⟩
        have ec2 : decide (sa < 0) = false := decide_eq_false c2
        by_cases c3 : 2147483647 < sa
        · have ec3 : decide (2147483647 < sa) = true := decide_eq_true c3
          go_wp2_with fail
          go_ret
          exact ⟨rfl, HB.out⟩
        have ec3 : decide (2147483647 < sa) = false := decide_eq_false c3
        by_cases c4 : hi < (0 : Int)
        · have ec4 : decide (hi < (0 : Int)) = true := decide_eq_true c4
          go_wp2_with fail
          go_ret
          exact ⟨rfl, HB.out⟩
        have ec4 : decide (hi < (0 : Int)) = false := decide_eq_false c4
        by_cases c5 : 4294967295 < hi
        · have ec5 : decide (4294967295 < hi) = true := decide_eq_true c5
          go_wp2_with fail
          go_ret
          exact ⟨rfl, HB.out⟩
        have ec5 : decide (4294967295 < hi) = false := decide_eq_false c5
        have CSF := Lib.hid (safe_any aL m cL L ka sa (0 : Int) hi wr HM.out.symm HL.out.rd (by omega))
        trace "13"
        go_wp2_with fail
        refine CSF.out.mono ?_
        rintro en w2 ⟨sx, sy, se, rfl, hS, hB2⟩
        obtain rfl : se = 0 := safe_of HL.out.chain hS (HAB.out (by omega) (by omega) (by omega) (by omega) (by omega) (by omega)) (by omega) (by omega)
        have HB2 := Lib.hid (HB.out.trans (hB2.mono hbz)); have HL2 := Lib.hid (HL.out.below hB2)
        have hbz2 : w.heap.size ≤ w2.heap.size := Nat.le_trans hbz hB2.size
        clear hS hB2 CSF HB HL hbz HAB
        by_cases q0 : x < (0 : Int)
        · have eq0 : decide (x < (0 : Int)) = true := decide_eq_true q0
          go_wp2_with fail
          go_ret
          exact ⟨rfl, HB2.out⟩
        have eq0 : decide (x < (0 : Int)) = false := decide_eq_false q0
        by_cases q1 : y < (0 : Int)
        · have eq1 : decide (y < (0 : Int)) = true := decide_eq_true q1
          go_wp2_with fail
          go_ret
          exact ⟨rfl, HB2.out⟩
        have eq1 : decide (y < (0 : Int)) = false := decide_eq_false q1
        by_cases q2 : ka < y - x
        · have eq2 : decide (ka < y - x) = true := decide_eq_true q2
          go_wp2_with fail
          go_ret
          exact ⟨rfl, HB2.out⟩
        have eq2 : decide (ka < y - x) = false := decide_eq_false q2
        by_cases q3 : sa < x - y
        · have eq3 : decide (sa < x - y) = true := decide_eq_true q3
          go_wp2_with fail
          go_ret
          exact ⟨rfl, HB2.out⟩
        have eq3 : decide (sa < x - y) = false := decide_eq_false q3
        by_cases q4 : 4294967295 < x
        · have eq4 : decide (4294967295 < x) = true := decide_eq_true q4
          go_wp2_with fail
          go_ret
          exact ⟨rfl, HB2.out⟩
        have eq4 : decide (4294967295 < x) = false := decide_eq_false q4
        by_cases q5 : 4294967295 < y
        · have eq5 : decide (4294967295 < y) = true := decide_eq_true q5
          go_wp2_with fail
          go_ret
          exact ⟨rfl, HB2.out⟩
        have eq5 : decide (4294967295 < y) = false := decide_eq_false q5
        have CSV := Lib.hid (served_any aL m cL L x y w2 HM.out.symm HL2.out.rd (by omega))
        have hsv := HL2.out.chain.serves (a := x) (b := y) (by omega) (by omega) (by omega) (by omega) (by omega) (by omega)
        rw [hsv] at CSV
        clear hsv
        trace "15"
        go_wp2_with fail
        refine CSV.out.mono ?_
        rintro en w3 ⟨rfl, hB3⟩
        have HB3 := Lib.hid (HB2.out.trans (hB3.mono hbz2))
        clear hB3
        go_wp2_with fail
        go_ret
        exact ⟨rfl, HB3.out⟩
  have f2 : decide (4294967295 < bg) = false := decide_eq_false g2
  · skip
    have hlo0 : (0 : Int) ≤ bg := by omega
    have hlo1 : bg ≤ (4294967295 : Int) := by omega
    have k0 := HK1.out.c0; have k1 := HK1.out.c1; have k2 := HK1.out.c2; have k3 := HK1.out.c3
    have hl2 := line_first wa w.heap.size HB1.out.size d bg ka sa HRT0.out hlo0 hlo1
    have hB2 := HB1.out.alloc HB1.out.size (.cells #[.int .i64 256, .int .i64 66013, .int .i64 3, .int .i64 d, .int .i64 bg, .int .i64 bg, .int .i64 4294967296, .int .i64 4294967296] 36)
    obtain ⟨wb, hwb⟩ : ∃ wb, wa.alloc (.cells #[.int .i64 256, .int .i64 66013, .int .i64 3, .int .i64 d, .int .i64 bg, .int .i64 bg, .int .i64 4294967296, .int .i64 4294967296] 36) = wb := ⟨_, rfl⟩
    rw [hwb] at hl2 hB2
    have HL2 := Lib.hid hl2; have HB2 := Lib.hid hB2; have HWB := Lib.hid hwb
    clear hl2 hB2 hwb
    go_upto_region 6 with fail
    rw [HWA.out]
    try rw [HP.out]
    go_upto_region 7 with fail
    rw [HWB.out]
    clear k0 k1 k2 k3
    trace "3"
    go_wp2_with fail
    go_loopg [17, 49] (nT + 1) (fun gas lv kv wr => ∃ (k m : Nat) (aL : Option Addr) (cL : Nat) (L : List Tm), lv = .slice aL m cL ∧ kv = .int .i64 (k : Int) ∧ k ≤ nT ∧ k + gas = nT + 1 ∧ Hid (L.length = m) ∧ Hid (LineAt wr aL cL L ka sa bg) ∧ Hid (Below w.heap.size w wr))
    case atStart => exact ⟨0, 1, _, 1, _, rfl, rfl, by omega, by omega, Lib.hid rfl, HL2, HB2⟩
    case round =>
      clear HL2 HB2
      obtain ⟨k, m, aL, cL, L, rfl, rfl, hk, hkg, HM, HL, HB⟩ := hrel
      have HK := Lib.hid hkg; clear hkg
      have hm50 : m ≤ 50 := by rw [← HM.out]; exact (line_in HL.out.chain.line).2
      have hbz : w.heap.size ≤ wr.heap.size := HB.out.size
      by_cases hlt : k < nT
      · obtain ⟨t, hx⟩ : ∃ t, TS[k]? = some t := ⟨_, List.getElem?_eq_getElem (by have := HN.out; omega)⟩
        have hnw := int_bd (HWN.out t (List.mem_of_getElem? hx))
        obtain ⟨g1, o1, rfl, hg1, x0, x1, x2, x3⟩ := RdC.at_n (HRT.out wr HB.out) hx
        obtain ⟨tp, tq, te, tn⟩ := t
        dsimp only at x0 x1 x2 x3 hnw
        have zk : (0 : Int) ≤ (k : Int) := by omega
        have zl : (k : Int) < (nT : Int) := by omega
        have hB1 := (Below.refl wr.heap.size wr).alloc (Nat.le_refl _) (.cells #[.int .i64 tp, .int .i64 tq, .int .i64 te, .int .i64 tn] 38)
        have ht1 := heap_alloc_new wr (.cells #[.int .i64 tp, .int .i64 tq, .int .i64 te, .int .i64 tn] 38)
        obtain ⟨X, hX⟩ : ∃ X, wr.heap.size = X := ⟨_, rfl⟩
        obtain ⟨w2, hw2⟩ : ∃ w2, wr.alloc (.cells #[.int .i64 tp, .int .i64 tq, .int .i64 te, .int .i64 tn] 38) = w2 := ⟨_, rfl⟩
        rw [hw2] at hB1 ht1
        rw [hX] at ht1
        have hn3 : w2.cell? ⟨X, 3, none⟩ = some (.int .i64 tn) := by simp only [World.cell?, ht1]; rfl
        have y0 : w2.cell? ⟨X, 0, none⟩ = some (.int .i64 tp) := by simp only [World.cell?, ht1]; rfl
        have y1 : w2.cell? ⟨X, 1, none⟩ = some (.int .i64 tq) := by simp only [World.cell?, ht1]; rfl
        have y2 : w2.cell? ⟨X, 2, none⟩ = some (.int .i64 te) := by simp only [World.cell?, ht1]; rfl
        have HW2 := Lib.hid hw2; have HX := Lib.hid hX
        have HB2 := Lib.hid (HB.out.trans (hB1.mono hbz)); have HL2 := Lib.hid (HL.out.below hB1); have HN2 := Lib.hid hn3
        have hbz2 : w.heap.size ≤ w2.heap.size := Nat.le_trans hbz hB1.size
        clear hB1 ht1 hw2 hX hn3 hx hlt HB HL hbz
        trace "4"
        go_upto_region 10 with fail
        rw [HW2.out]
        try rw [HX.out]
        clear x0 x1 x2 x3
        go_wp2_with fail
        refine (key_any tp tq te 256 w2).mono ?_
        rintro en w3 ⟨f, mm, e, s, xk, rfl, hB3⟩
        have hB4 := hB3.alloc hB3.size (.cells #[.int .i64 f, .int .i64 mm, .int .i64 e, .int .i64 s] 32)
        have hk4 := key_new w3 f mm e s
        obtain ⟨Q, hQ⟩ : ∃ Q, w3.heap.size = Q := ⟨_, rfl⟩
        obtain ⟨w4, hw4⟩ : ∃ w4, w3.alloc (.cells #[.int .i64 f, .int .i64 mm, .int .i64 e, .int .i64 s] 32) = w4 := ⟨_, rfl⟩
        rw [hw4] at hB4 hk4
        rw [hQ] at hk4
        have HB4 := Lib.hid (HB2.out.trans (hB4.mono hbz2)); have HL4 := Lib.hid (HL2.out.below hB4); have HN4 := Lib.hid (rollA.cell_kept hB4 HN2.out); have HK4 := Lib.hid hk4
        have HW4 := Lib.hid hw4; have HQ := Lib.hid hQ
        have hbz4 : w.heap.size ≤ w4.heap.size := Nat.le_trans hbz2 hB4.size
        have HSRC := Lib.hid (cells_rd Tm.cells 8 (by decide) (fun _ => rfl) HL4.out.rd cL HL4.out.nil)
        clear hB3 hB4 hk4 hw4 hQ y0 y1 y2 HB2 HL2 HN2 hbz2
        trace "5"
        go_upto_region 11 with fail
        rw [HW4.out]
        try rw [HQ.out]
        go_wp2_with (at_builtin; refine wpList_append_src rfl (.const (.slice none 0 0)) (.tmp 63) 22 rfl w4.heap.size 36 i0 _ 8 64 Try.underlying22 hif hz0 hz1 hz2 rfl (by decide) _ 0 [] rfl (World.ownsRow_nil _ _ _ _) aL m cL (L.flatMap Tm.cells) rfl (by rw [flat_len Tm.cells 8 (fun _ => rfl), HM.out]) (by rw [← HM.out]; exact HSRC.out) (one_cells tm_one) (by unfold maxLen; omega) (by omega) (Nat.le_refl _) ?_)
        intro v5 w5 hown5 hgr5
        have hB5 : Below w4.heap.size w4 w5 := below_append' (Below.refl _ _) (Nat.le_refl _) (World.ownsRow_nil _ w4.heap.size 36 8) hgr5
        have ho5 : w5.ownsRow w4.heap.size 36 8 v5 m (L.flatMap Tm.cells) := by first | exact hown5 | simpa using hown5
        obtain ⟨a5, c5, rfl, _, _, hn5, hr5⟩ := rdc_own Tm.cells 8 (fun _ => rfl) HM.out.symm ho5
        have HB5 := Lib.hid (HB4.out.trans (hB5.mono hbz4)); have HL5 := Lib.hid (HL4.out.below hB5); have HN5 := Lib.hid (rollA.cell_kept hB5 HN4.out); have HK5 := Lib.hid (HK4.out.below hB5)
        have HR5 := Lib.hid hr5; have HNL5 := Lib.hid hn5
        have hbz5 : w.heap.size ≤ w5.heap.size := Nat.le_trans hbz4 hB5.size
        obtain ⟨RR, hRR⟩ : ∃ RR, rollS L f mm e s tn ka sa = RR := ⟨_, rfl⟩
        have HRR := Lib.hid hRR
        have CR := Lib.hid (roll_any a5 m c5 L f mm e s tn ka sa w5 HM.out.symm hr5 (fun h => by have := hn5 h; rw [HM.out]; exact this) (by omega) hnw.1 hnw.2)
        have CQ := Lib.hid (fun (wx : World) (hB : Below w5.heap.size w5 wx) => rroll_any aL m cL L f mm e s tn ka sa wx HM.out.symm (HL5.out.below hB).rd (by omega) hnw.1 hnw.2)
        rw [hRR] at CR CQ
        have hrl := roll_len hRR (by rw [HM.out]; exact hm50)
        obtain ⟨mr, hmr⟩ : ∃ mr, RR.1.length = mr := ⟨_, rfl⟩
        rw [hmr] at hrl
        have HMR := Lib.hid hmr
        have n3 := HN5.out
        have k0 := HK5.out.c0; have k1 := HK5.out.c1; have k2 := HK5.out.c2; have k3 := HK5.out.c3
        clear hown5 hgr5 hB5 ho5 hr5 hn5 hRR hmr HB4 HL4 HN4 HK4 HSRC hbz4
        trace "6"
        go_wp2_with fail
        refine CR.out.mono ?_
        intro en w6 hE6
        obtain ⟨a6, c6, rfl, hr6, hn6, hB6⟩ := roll_rd hE6
        rw [HMR.out] at hn6
        rw [HMR.out]
        have HB6 := Lib.hid (HB5.out.trans (hB6.mono hbz5)); have HL6 := Lib.hid (HL5.out.below hB6); have HN6 := Lib.hid (rollA.cell_kept hB6 HN5.out); have HK6 := Lib.hid (HK5.out.below hB6); have HR6 := Lib.hid hr6; have HO6 := Lib.hid (HR5.out.below hB6 rfl)
        have hbz6 : w.heap.size ≤ w6.heap.size := Nat.le_trans hbz5 hB6.size
        have CQ6 := Lib.hid (CQ.out w6 hB6)
        clear k0 k1 k2 k3 n3 hE6 hr6 hB6 CR CQ HB5 HL5 HN5 HK5 HR5 hbz5
        have n3 := HN6.out
        have k0 := HK6.out.c0; have k1 := HK6.out.c1; have k2 := HK6.out.c2; have k3 := HK6.out.c3
        trace "7"
        go_wp2_with fail
        refine CQ6.out.mono ?_
        intro en w7 hE7
        obtain ⟨a7, c7, rfl, hr7, hn7, hB7⟩ := roll_rd hE7
        rw [HMR.out] at hn7
        rw [HMR.out]
        have HB7 := Lib.hid (HB6.out.trans (hB7.mono hbz6)); have HL7 := Lib.hid (HL6.out.below hB7); have HR6' := Lib.hid (HR6.out.below hB7 rfl); have HO7 := Lib.hid (HO6.out.below hB7 rfl); have HR7 := Lib.hid hr7; have HN7 := Lib.hid hn7
        have hbz7 : w.heap.size ≤ w7.heap.size := Nat.le_trans hbz6 hB7.size
        obtain ⟨xe, hxe⟩ : ∃ xe, RR.2 = xe := ⟨_, rfl⟩
        rw [hxe]
        have HXE := Lib.hid hxe
        have C1 := Lib.hid (same_line a6 a7 mr c6 c7 RR.1 w7 HMR.out.symm HR6'.out hr7 hrl)
        clear k0 k1 k2 k3 n3 hE7 hr7 hn7 hB7 CQ6 HB6 HL6 HN6 HK6 HR6 HO6 hbz6 hxe hn6
        trace "8"
        go_wp2_with fail
        refine C1.out.mono ?_
        rintro en w8 ⟨rfl, hB8⟩
        have HB8 := Lib.hid (HB7.out.trans (hB8.mono hbz7)); have HL8 := Lib.hid (HL7.out.below hB8); have HO8 := Lib.hid (HO7.out.below hB8 rfl); have HR8 := Lib.hid (HR7.out.below hB8 rfl)
        have hbz8 : w.heap.size ≤ w8.heap.size := Nat.le_trans hbz7 hB8.size
        have C2 := Lib.hid (same_line a5 aL m c5 cL L w8 HM.out.symm HO8.out HL8.out.rd (by omega))
        clear hB8 C1 HB7 HL7 HO7 HR6' HR7 hbz7
        trace "9"
        go_wp2_with fail
        refine C2.out.mono ?_
        rintro en w9 ⟨rfl, hB9⟩
        have HB9 := Lib.hid (HB8.out.trans (hB9.mono hbz8)); have HL9 := Lib.hid (HL8.out.below hB9); have HR9 := Lib.hid (HR8.out.below hB9 rfl)
        clear hB9 C2 HB8 HL8 HO8 HR8 hbz8
        by_cases hxe : xe = 0
        · subst hxe
          have HLN : Hid (LineAt w9 a7 c7 RR.1 ka sa bg) := Lib.hid ⟨HR9.out, fun h => by rw [HMR.out]; exact HN7.out h, HL9.out.chain.roll (by rw [HRR.out]; exact Prod.ext rfl HXE.out)⟩
          trace "10"
          go_wp2_with fail
          have hkg := HK.out
          go_roundg (gk - 1)
          case rel => exact ⟨k + 1, mr, a7, c7, RR.1, rfl, by go_num, by omega, by omega, HMR, HLN, HB9⟩
          case measure => omega
        · have hxb : (xe == 0) = false := by rw [beq_eq_false_iff_ne]; exact hxe
          trace "11"
          go_wp2_with fail
          have hkg := HK.out
          go_roundg (gk - 1)
          case rel => exact ⟨k + 1, m, aL, cL, L, rfl, by go_num, by omega, by omega, HM, HL9, HB9⟩
          case measure => omega
      · have hke : k = nT := by omega
        subst hke
        have hz : ¬ (k : Int) < (k : Int) := by omega
        have HAB : Hid (∀ (_ : 0 ≤ ka) (_ : ka ≤ 2147483647) (_ : 0 ≤ sa) (_ : sa ≤ 2147483647) (_ : bg ≤ hi) (_ : hi ≤ 4294967295), argsB ka sa bg hi = true) := Lib.hid (fun h1 h2 h3 h4 h5 h6 => by unfold argsB ageB; simp only [Bool.and_eq_true, decide_eq_true_eq]; exact ⟨⟨h1, h2⟩, ⟨h3, h4⟩, hlo0, h5, h6⟩)
        clear hk HK
        trace "12"
        by_cases c0 : ka < 0
        · have ec0 : decide (ka < 0) = true := decide_eq_true c0
          go_wp2_with fail
          go_ret
          exact ⟨rfl, HB.out⟩
        have ec0 : decide (ka < 0) = false := decide_eq_false c0
        by_cases c1 : 2147483647 < ka
        · have ec1 : decide (2147483647 < ka) = true := decide_eq_true c1
          go_wp2_with fail
          go_ret
          exact ⟨rfl, HB.out⟩
        have ec1 : decide (2147483647 < ka) = false := decide_eq_false c1
        by_cases c2 : sa < 0
        · have ec2 : decide (sa < 0) = true := decide_eq_true c2
          go_wp2_with fail
          go_ret
          exact ⟨rfl, HB.out⟩
        have ec2 : decide (sa < 0) = false := decide_eq_false c2
        by_cases c3 : 2147483647 < sa
        · have ec3 : decide (2147483647 < sa) = true := decide_eq_true c3
          go_wp2_with fail
          go_ret
          exact ⟨rfl, HB.out⟩
        have ec3 : decide (2147483647 < sa) = false := decide_eq_false c3
        by_cases c4 : hi < bg
        · have ec4 : decide (hi < bg) = true := decide_eq_true c4
          go_wp2_with fail
          go_ret
          exact ⟨rfl, HB.out⟩
        have ec4 : decide (hi < bg) = false := decide_eq_false c4
        by_cases c5 : 4294967295 < hi
        · have ec5 : decide (4294967295 < hi) = true := decide_eq_true c5
          go_wp2_with fail
          go_ret
          exact ⟨rfl, HB.out⟩
        have ec5 : decide (4294967295 < hi) = false := decide_eq_false c5
        have CSF := Lib.hid (safe_any aL m cL L ka sa bg hi wr HM.out.symm HL.out.rd (by omega))
        trace "13"
        go_wp2_with fail
        refine CSF.out.mono ?_
        rintro en w2 ⟨sx, sy, se, rfl, hS, hB2⟩
        obtain rfl : se = 0 := safe_of HL.out.chain hS (HAB.out (by omega) (by omega) (by omega) (by omega) (by omega) (by omega)) (by omega) (by omega)
        have HB2 := Lib.hid (HB.out.trans (hB2.mono hbz)); have HL2 := Lib.hid (HL.out.below hB2)
        have hbz2 : w.heap.size ≤ w2.heap.size := Nat.le_trans hbz hB2.size
        clear hS hB2 CSF HB HL hbz HAB
        by_cases q0 : x < bg
        · have eq0 : decide (x < bg) = true := decide_eq_true q0
          go_wp2_with fail
          go_ret
          exact ⟨rfl, HB2.out⟩
        have eq0 : decide (x < bg) = false := decide_eq_false q0
        by_cases q1 : y < bg
        · have eq1 : decide (y < bg) = true := decide_eq_true q1
          go_wp2_with fail
          go_ret
          exact ⟨rfl, HB2.out⟩
        have eq1 : decide (y < bg) = false := decide_eq_false q1
        by_cases q2 : ka < y - x
        · have eq2 : decide (ka < y - x) = true := decide_eq_true q2
          go_wp2_with fail
          go_ret
          exact ⟨rfl, HB2.out⟩
        have eq2 : decide (ka < y - x) = false := decide_eq_false q2
        by_cases q3 : sa < x - y
        · have eq3 : decide (sa < x - y) = true := decide_eq_true q3
          go_wp2_with fail
          go_ret
          exact ⟨rfl, HB2.out⟩
        have eq3 : decide (sa < x - y) = false := decide_eq_false q3
        by_cases q4 : 4294967295 < x
        · have eq4 : decide (4294967295 < x) = true := decide_eq_true q4
          go_wp2_with fail
          go_ret
          exact ⟨rfl, HB2.out⟩
        have eq4 : decide (4294967295 < x) = false := decide_eq_false q4
        by_cases q5 : 4294967295 < y
        · have eq5 : decide (4294967295 < y) = true := decide_eq_true q5
          go_wp2_with fail
          go_ret
          exact ⟨rfl, HB2.out⟩
        have eq5 : decide (4294967295 < y) = false := decide_eq_false q5
        have CSV := Lib.hid (served_any aL m cL L x y w2 HM.out.symm HL2.out.rd (by omega))
        have hsv := HL2.out.chain.serves (a := x) (b := y) (by omega) (by omega) (by omega) (by omega) (by omega) (by omega)
        rw [hsv] at CSV
        clear hsv
        trace "15"
        go_wp2_with fail
        refine CSV.out.mono ?_
        rintro en w3 ⟨rfl, hB3⟩
        have HB3 := Lib.hid (HB2.out.trans (hB3.mono hbz2))
        clear hB3
        go_wp2_with fail
        go_ret
        exact ⟨rfl, HB3.out⟩
end Go.Proofs.Ytnamkladeaohoaa.signerRolls

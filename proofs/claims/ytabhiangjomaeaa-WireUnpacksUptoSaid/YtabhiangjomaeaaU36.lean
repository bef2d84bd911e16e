/- gazetteerref2.UnpackMessage: the long way: walk. The law gazetteerlaw2.WireUnpacks: walk. -/
import Derived.Test.YtabhiangjomaeaaU32
import Derived.Test.YtabhiangjomaeaaU27
import Derived.Test.YtabhiangjomaeaaU28
import Derived.Test.YtabhiangjomaeaaU35
import Derived.Test.YtabhiangjomaeaaU18
import Derived.Test.YtabhiangjomaeaaU30
import Derived.Test.YtabhiangjomaeaaU31
import Derived.Test.YtabhiangjomaeaaU34
import Derived.Deep.AppendLies
import Derived.Deep.RegionHeld3
import Derived.Laws.CopyOwn
import Derived.Laws.Tables
import Derived.Deep.WholeRow
namespace Go.Proofs.Ytabhiangjomaeaa.rumM
open Go.RowKit Go.Proofs.Ytabhiangjomaeaa.kit Go.Proofs.Ytabhiangjomaeaa.nspec Go.Proofs.Ytabhiangjomaeaa.unpP Go.Proofs.Ytabhiangjomaeaa.wireP Go.Proofs.Ytabhiangjomaeaa.wireM Go.Proofs.Ytabhiangjomaeaa.wireC Go.Proofs.Ytabhiangjomaeaa.wpack Go.Proofs.Ytabhiangjomaeaa.rows Go.Proofs.Ytabhiangjomaeaa.cur Go.Proofs.Ytabhiangjomaeaa.putM Go.Proofs.Ytabhiangjomaeaa.ust Go.Proofs.Ytabhiangjomaeaa.uend Go.Proofs.Ytabhiangjomaeaa.rust Go.Proofs.Ytabhiangjomaeaa.rread Go.Proofs.Ytabhiangjomaeaa.unpack Go.Proofs.Ytabhiangjomaeaa.rum Go.Proofs.Ytabhiangjomaeaa.unpackP
set_option linter.unusedVariables false

theorem sign_is {v : Nat} (k q : Nat) (hq : 2 ^ k = q) : ((v : Int) / (q : Int) % 2 == 1) = signB v k := by
  unfold signB
  rw [hq]
  have e : (v : Int) / (q : Int) % 2 = ((v / q % 2 : Nat) : Int) := by simp
  rw [e]
  by_cases h : v / q % 2 = 1
  · rw [h]; rfl
  · rw [decide_eq_false h, beq_eq_false_iff_ne]; omega
theorem sign_top {v : Nat} (hv : v ≤ 65535) : ((v : Int) / 32768 == 1) = signB v 15 := by
  rw [← sign_is 15 32768 (by decide)]
  have : (v : Int) / 32768 % 2 = (v : Int) / 32768 := by omega
  show _ = ((v : Int) / 32768 % 2 == 1)
  rw [this]
/-- the head's numbers laid -/
def putH (w : World) (M : Nat) (v : Nat) : World := ((((((((w.setCell ⟨M, 1, none⟩ (.bool (signB v 15))).setCell ⟨M, 2, none⟩ (.int .i64 ((v : Int) / 2048 % 16))).setCell ⟨M, 3, none⟩ (.bool (signB v 10))).setCell ⟨M, 4, none⟩ (.bool (signB v 9))).setCell ⟨M, 5, none⟩ (.bool (signB v 8))).setCell ⟨M, 6, none⟩ (.bool (signB v 7))).setCell ⟨M, 7, none⟩ (.bool (signB v 5))).setCell ⟨M, 8, none⟩ (.bool (signB v 4))).setCell ⟨M, 9, none⟩ (.int .i64 ((v : Int) % 16))
theorem putH_st {b0 : Nat} {w0 wr : World} {n0 v : Nat} (h : RSt b0 w0 wr noP { noM with id := (n0 : Int) }) : RSt b0 w0 (putH wr (b0 + 1) v) noP ⟨n0, signB v 15, (v : Int) / 2048 % 16, signB v 10, signB v 9, signB v 8, signB v 7, signB v 5, signB v 4, (v : Int) % 16, [], [], [], []⟩ := by
  have h1 := h.head (i := 1) (v := .bool (signB v 15)) (m' := { noM with id := n0, rs := signB v 15 }) rfl ⟨rfl, rfl, rfl, rfl⟩
  have h2 := h1.head (i := 2) (v := .int .i64 ((v : Int) / 2048 % 16)) (m' := { noM with id := n0, rs := signB v 15, op := (v : Int) / 2048 % 16 }) rfl ⟨rfl, rfl, rfl, rfl⟩
  have h3 := h2.head (i := 3) (v := .bool (signB v 10)) (m' := { noM with id := n0, rs := signB v 15, op := (v : Int) / 2048 % 16, aa := signB v 10 }) rfl ⟨rfl, rfl, rfl, rfl⟩
  have h4 := h3.head (i := 4) (v := .bool (signB v 9)) (m' := { noM with id := n0, rs := signB v 15, op := (v : Int) / 2048 % 16, aa := signB v 10, tc := signB v 9 }) rfl ⟨rfl, rfl, rfl, rfl⟩
  have h5 := h4.head (i := 5) (v := .bool (signB v 8)) (m' := { noM with id := n0, rs := signB v 15, op := (v : Int) / 2048 % 16, aa := signB v 10, tc := signB v 9, rd := signB v 8 }) rfl ⟨rfl, rfl, rfl, rfl⟩
  have h6 := h5.head (i := 6) (v := .bool (signB v 7)) (m' := { noM with id := n0, rs := signB v 15, op := (v : Int) / 2048 % 16, aa := signB v 10, tc := signB v 9, rd := signB v 8, ra := signB v 7 }) rfl ⟨rfl, rfl, rfl, rfl⟩
  have h7 := h6.head (i := 7) (v := .bool (signB v 5)) (m' := { noM with id := n0, rs := signB v 15, op := (v : Int) / 2048 % 16, aa := signB v 10, tc := signB v 9, rd := signB v 8, ra := signB v 7, ad := signB v 5 }) rfl ⟨rfl, rfl, rfl, rfl⟩
  have h8 := h7.head (i := 8) (v := .bool (signB v 4)) (m' := { noM with id := n0, rs := signB v 15, op := (v : Int) / 2048 % 16, aa := signB v 10, tc := signB v 9, rd := signB v 8, ra := signB v 7, ad := signB v 5, cd := signB v 4 }) rfl ⟨rfl, rfl, rfl, rfl⟩
  exact h8.head (i := 9) (v := .int .i64 ((v : Int) % 16)) (m' := ⟨n0, signB v 15, (v : Int) / 2048 % 16, signB v 10, signB v 9, signB v 8, signB v 7, signB v 5, signB v 4, (v : Int) % 16, [], [], [], []⟩) rfl ⟨rfl, rfl, rfl, rfl⟩
set_option maxRecDepth 100000 in
set_option maxHeartbeats 8000000 in
theorem rum_main (a : Option Addr) (b : Bs) (cap : Nat) (w : World) (hi : In0 w.heap.size w a b cap) (h : ¬ 65535 < b.length) (h12 : ¬ b.length < 12) (h3 : ¬ atB b 3 / 64 % 2 = 1) :
    Calls Try.prog 27 #[.slice a b.length cap] w (UnpE w.heap.size w (unpackS b)) := by
  obtain ⟨R, hR⟩ : ∃ R, unpackS b = R := ⟨_, rfl⟩
  have HR := Lib.hid ((unpack_is h h12 h3).symm.trans hR)
  rw [hR]
  have hst := rst_start w
  have hle := hi.le; have hcm := hi.cm
  unfold maxLen at hcm
  have HLE := Lib.hid hi.le; have HCM := Lib.hid hi.cm; have HLB := Lib.hid (show b.length ≤ 65535 by omega); have HB12 := Lib.hid (show 12 ≤ b.length by omega)
  obtain ⟨c0, hc0, _⟩ := atB_some (b := b) (k := 0) (by omega)
  obtain ⟨g, o, rfl, _⟩ := hi.rd 0 c0 hc0
  have HRD := Lib.hid hi.rd
  have hv2 : ¬ num2 b 2 / 64 % 2 = 1 := by show ¬ (atB b 2 * 256 + atB b 3) / 64 % 2 = 1; have := atB_lt b 3; omega
  have hvl : num2 b 2 ≤ 65535 := crec.num2_le b 2
  have CV := Lib.hid (fun w => val_two (b := b) (j := 2) (by omega) w)
  have CI := Lib.hid (fun w => val_two (b := b) (j := 0) (by omega) w)
  have l2 := fun w' => rsl.run_slice2 g o b.length cap 2 4 2 2 4 rfl rfl rfl (by omega) (by omega) w'
  have q2b := cut_string (rdB_below hi.rd hst.bel) 2 2 (cap - 2) (by omega)
  have q0b := cut_string (rdB_below hi.rd hst.bel) 0 2 cap (by omega)
  obtain ⟨S2, hS2⟩ : ∃ S, mkB (cutB b 2 4) = S := ⟨_, rfl⟩
  obtain ⟨S0, hS0⟩ : ∃ S, mkB (cutB b 0 2) = S := ⟨_, rfl⟩
  rw [show 2 + 2 = 4 from rfl, hS2] at q2b CV
  rw [show 0 + 2 = 2 from rfl, hS0] at q0b CI
  obtain ⟨v, hv⟩ : ∃ v, num2 b 2 = v := ⟨_, rfl⟩
  obtain ⟨n0, hn0⟩ : ∃ n0, num2 b 0 = n0 := ⟨_, rfl⟩
  rw [hv] at CV hv2 hvl
  rw [hn0] at CI
  have HV := Lib.hid hv; have HN0 := Lib.hid hn0
  have hd2 : ¬ (v : Int) / 64 % 2 = 1 := by omega
  have hdb : ((v : Int) / 64 % 2 == 1) = false := by simpa using hd2
  obtain ⟨L, hL⟩ : ∃ L, b.length = L := ⟨_, rfl⟩
  have HL := Lib.hid hL
  rw [hL] at h h12 hle l2 ⊢
  have hLi : (12 : Int) ≤ (L : Int) := by omega
  have hLj : (L : Int) ≤ 65535 := by omega
  have hcap : (12 : Int) ≤ (cap : Int) := by omega
  have hcap4 : 4 ≤ cap := by omega
  have hcap2 : ¬ cap = 2 := by omega
  have hcap0 : ¬ cap = 0 := by omega
  obtain ⟨b0, hb0⟩ : ∃ b0, w.heap.size = b0 := ⟨_, rfl⟩
  obtain ⟨W, hW⟩ : ∃ W, boxes3 w = W := ⟨_, rfl⟩
  have hst' : RSt w.heap.size w (boxes3 w) noP noM := hst
  have q2c : Sem.run Try.prog (convert 39 9 (.slice (some ⟨g, o + 2, none⟩) 2 (cap - 2))) (boxes3 w) = .ok (.string S2) (boxes3 w) := q2b
  have q0c : Sem.run Try.prog (convert 39 9 (.slice (some ⟨g, o + 0, none⟩) 2 cap)) (boxes3 w) = .ok (.string S0) (boxes3 w) := q0b
  rw [hW] at q2c q0c
  rw [Nat.add_zero] at q0c
  rw [hW, hb0] at hst'
  rw [hb0]
  have HST := Lib.hid hst'; have HW := Lib.hid hW; have HB0 := Lib.hid hb0
  have c0' := hst'.msg.box.c0; have f0 := udoor.msg_frozen hst'.msg 0
  clear hst hst' hW hR hL q2b q0b hc0 h3 hS2 hS0 hv hn0 hi
  go_enter Try.func27, Try.ntmps27
  go_upto_region 2 with fail
  change Code.wp _ _ _ _ (boxes3 w)
  rw [HW.out]
  go_wp2_with fail
  refine (CV.out _).mono ?_
  rintro e w1 ⟨rfl, rfl⟩
  trace "9"
  go_wp2_with fail
  refine (CI.out _).mono ?_
  rintro e w1' ⟨rfl, rfl⟩
  go_upto_region 10 with fail
  have HS1 := Lib.hid (HST.out.head (i := 0) (v := .int .i64 (n0 : Int)) (m' := { noM with id := (n0 : Int) }) rfl ⟨rfl, rfl, rfl, rfl⟩)
  obtain ⟨w2, hw2⟩ : ∃ w2, w1'.setCell ⟨b0 + 1, 0, none⟩ (.int .i64 (n0 : Int)) = w2 := ⟨_, rfl⟩
  rw [hw2] at HS1 ⊢
  clear hw2 HST c0' f0 q2c q0c l2
  have bx := HS1.out.msg.box
  have c1 := bx.c1; have c2 := bx.c2; have c3 := bx.c3; have c4 := bx.c4; have c5 := bx.c5; have c6 := bx.c6; have c7 := bx.c7; have c8 := bx.c8; have c9 := bx.c9
  have mf := fun j => udoor.msg_frozen HS1.out.msg j
  have f1 := mf 1; have f2 := mf 2; have f3 := mf 3; have f4 := mf 4; have f5 := mf 5; have f6 := mf 6; have f7 := mf 7; have f8 := mf 8; have f9 := mf 9
  have s15 := sign_top hvl
  have s10 : ((v : Int) / 1024 % 2 == 1) = signB v 10 := sign_is 10 1024 (by decide)
  have s9 : ((v : Int) / 512 % 2 == 1) = signB v 9 := sign_is 9 512 (by decide)
  have s8 : ((v : Int) / 256 % 2 == 1) = signB v 8 := sign_is 8 256 (by decide)
  have s7 : ((v : Int) / 128 % 2 == 1) = signB v 7 := sign_is 7 128 (by decide)
  have s5 : ((v : Int) / 32 % 2 == 1) = signB v 5 := sign_is 5 32 (by decide)
  have s4 : ((v : Int) / 16 % 2 == 1) = signB v 4 := sign_is 4 16 (by decide)
  clear bx mf
  trace "10"
  go_upto_region 11 with fail
  change Code.wp _ _ _ _ (putH w2 (b0 + 1) v)
  have HS3 := Lib.hid (putH_st (v := v) HS1.out)
  rw [show (⟨(n0 : Int), signB v 15, (v : Int) / 2048 % 16, signB v 10, signB v 9, signB v 8, signB v 7, signB v 5, signB v 4, (v : Int) % 16, [], [], [], []⟩ : Mg) = headM b from by unfold headM; rw [HN0.out, HV.out]] at HS3
  obtain ⟨w3, hw3⟩ : ∃ w3, putH w2 (b0 + 1) v = w3 := ⟨_, rfl⟩
  rw [hw3] at HS3 ⊢
  clear hw3 HS1 c1 c2 c3 c4 c5 c6 c7 c8 c9 f1 f2 f3 f4 f5 f6 f7 f8 f9 s15 s10 s9 s8 s7 s5 s4 HN0 HV CV CI hd2 hdb hv2
  obtain ⟨nq, hnq⟩ : ∃ nq, num2 b 4 = nq := ⟨_, rfl⟩
  have hnqb : nq ≤ 65535 := by rw [← hnq]; exact crec.num2_le b 4
  have CQ := Lib.hid (fun w => val_two (b := b) (j := 4) (by rw [HL.out]; omega) w)
  obtain ⟨S4, hS4⟩ : ∃ S, mkB (cutB b 4 6) = S := ⟨_, rfl⟩
  rw [show 4 + 2 = 6 from rfl, hS4, hnq] at CQ
  have HS4 := Lib.hid hS4
  have l4 := fun w' => rsl.run_slice2 g o L cap 4 6 2 4 6 rfl rfl rfl (by omega) (by omega) w'
  have hcap6 : 6 ≤ cap := by omega
  have hcap4' : ¬ cap = 4 := by omega
  have HQ0 : Hid (quU b (headM b) (nq - 0) 12 = R) := Lib.hid (by rw [Nat.sub_zero, ← hnq]; exact HR.out)
  have HNS : Hid (unpackM.NoS (headM b)) := Lib.hid ⟨rfl, rfl, rfl⟩
  have HQL0 : Hid ((headM b).qs.length = 0) := Lib.hid rfl
  clear hnq hS4 HR
  trace "12"
  go_upto_region 13 with fail
  go_loopg [8, 9] (nq + 1) (fun gas kv iv wr => ∃ (i k : Nat) (pl : Pl) (m : Mg), iv = .int .i64 (i : Int) ∧ kv = .int .i64 (k : Int) ∧ i ≤ nq ∧ i + gas = nq + 1 ∧ Hid (m.qs.length = i) ∧ Hid (RSt b0 w wr pl m) ∧ Hid (quU b m (nq - i) k = R) ∧ Hid (k ≤ b.length) ∧ Hid (unpackM.NoS m))
  case atStart => exact ⟨0, 12, noP, headM b, rfl, rfl, by omega, by omega, HQL0, HS3, HQ0, HB12, HNS⟩
  case round =>
    clear HS3 HQ0 HQL0 HNS
    obtain ⟨i, k, pl, m, rfl, rfl, hin, hig, HQL, HS, HQ, HKL, HNS⟩ := hrel
    have HG := Lib.hid hig; clear hig
    have HRDr := Lib.hid (rdB_below HRD.out (by rw [HB0.out]; exact HS.out.bel))
    have q4 := cut_string HRDr.out 4 2 (cap - 4) (by rw [HL.out]; omega)
    rw [show 4 + 2 = 6 from rfl, HS4.out] at q4
    have hkl := HKL.out
    rw [HL.out] at hkl
    by_cases hlt : i < nq
    · have hiI : (i : Int) < (nq : Int) := by omega
      have hstep : nq - i = (nq - (i + 1)) + 1 := by omega
      have HQ1 := HQ.out
      rw [hstep] at HQ1
      have HQ2 := Lib.hid HQ1
      have CN := Lib.hid (rrecd.name_at (some ⟨g, o, none⟩) b cap k b.length 10 wr HRDr.out HLE.out HCM.out HLB.out (by omega) (Nat.le_refl _) (by decide))
      rw [HL.out] at CN
      clear HQ HQ1 hstep
      cases hn : nameAt b k L 10 with
      | bad x =>
        have hx0 := roundM.nameAt_bad (by decide) hn
        have ex : (x == 0) = false := by simpa using hx0
        have hqb : quesU b k = .bad x := by unfold quesU; rw [HL.out, hn]
        have HRR := Lib.hid ((quU_bad (m := m) (n := nq - (i + 1)) hqb).symm.trans HQ2.out).symm
        rw [hn] at CN
        have hN := HS.out.non; have hZ := HS.out.res
        clear hn hx0 hqb HQ2
        trace "15"
        go_wp2_with fail
        refine (CQ.out _).mono ?_
        rintro e wa ⟨rfl, rfl⟩
        go_wp2_with fail
        refine CN.out.mono ?_
        rintro e wb ⟨⟨jj, rfl⟩, rfl⟩
        trace "19"
        go_wp2_with (first | (refine wpList_load_row rfl 37 _ rfl (b0 + 2) rfl 37 _ _ _ hN Try.underlying37 rfl (by rw [infoMsg]; rfl) ?_) | (refine wpList_store_self rfl 37 _ _ rfl b0 _ rfl rfl 37 hZ (by rw [infoMsg]; rfl) (cells_all _ _) ?_))
        exact fin _ rfl rfl rfl HS.out.res (by rw [HRR.out]) (by rw [HRR.out]; rfl) (by rw [HRR.out]; rfl) (Own4.none _ _) HS.out.bel
      | ok s j =>
        have hjb := (cdata.nameAt_len (b := b) (by rw [HL.out]; exact Nat.le_refl _) hn).2
        have HN := Lib.hid hn
        obtain ⟨S0, hS0⟩ : ∃ S, mkB s = S := ⟨_, rfl⟩
        have CN2 : Hid (Calls Try.prog 67 #[.slice (some ⟨g, o, none⟩) L cap, .int .i64 (k : Int), .int .i64 (k : Int), .int .i64 (L : Int), .int .i64 10, .int .i64 0] wr fun e w' => e = .returned (.tuple #[.string S0, .int .i64 (j : Int), .int .i64 0]) ∧ w' = wr) := Lib.hid (by have h := CN.out; rw [hn] at h; rw [← hS0]; exact h)
        have HS0 := Lib.hid hS0
        clear CN hn hS0
        by_cases hj4 : L < j + 4
        · have hji : (L : Int) < (j : Int) + 4 := by omega
          have hqb : quesU b k = .bad 10 := by unfold quesU; rw [HL.out, HN.out]; simp only; rw [if_pos hj4]
          have HRR := Lib.hid ((quU_bad (m := m) (n := nq - (i + 1)) hqb).symm.trans HQ2.out).symm
          have hN := HS.out.non; have hZ := HS.out.res
          clear hqb HQ2
          trace "17"
          go_wp2_with fail
          refine (CQ.out _).mono ?_
          rintro e wa ⟨rfl, rfl⟩
          go_wp2_with fail
          refine CN2.out.mono ?_
          rintro e wb ⟨rfl, rfl⟩
          go_wp2_with (first | (refine wpList_load_row rfl 37 _ rfl (b0 + 2) rfl 37 _ _ _ hN Try.underlying37 rfl (by rw [infoMsg]; rfl) ?_) | (refine wpList_store_self rfl 37 _ _ rfl b0 _ rfl rfl 37 hZ (by rw [infoMsg]; rfl) (cells_all _ _) ?_))
          exact fin _ rfl rfl rfl HS.out.res (by rw [HRR.out]) (by rw [HRR.out]; rfl) (by rw [HRR.out]; rfl) (Own4.none _ _) HS.out.bel
        have hji : ¬ (L : Int) < (j : Int) + 4 := by omega
        have hqo : quesU b k = .ok ⟨S0, num2 b j, num2 b (j + 2)⟩ (j + 4) := by unfold quesU; rw [HL.out, HN.out]; simp only; rw [if_neg hj4, HS0.out]
        have HRR := Lib.hid ((quU_ok (m := m) (n := nq - (i + 1)) hqo).symm.trans HQ2.out)
        clear hqo HQ2
        have CT := Lib.hid (fun w => val_two (b := b) (j := j) (by rw [HL.out]; omega) w)
        have CC := Lib.hid (fun w => val_two (b := b) (j := j + 2) (by rw [HL.out]; omega) w)
        have q1 : ∀ w', Below b0 w w' → Sem.run Try.prog (convert 39 9 (.slice (some ⟨g, o + j, none⟩) 2 (cap - j))) w' = .ok (.string (mkB (cutB b j (j + 2)))) w' := fun w' hB => cut_string (rdB_below HRD.out (by rw [HB0.out]; exact hB)) j 2 (cap - j) (by rw [HL.out]; omega)
        have q2 : ∀ w', Below b0 w w' → Sem.run Try.prog (convert 39 9 (.slice (some ⟨g, o + (j + 2), none⟩) 2 (cap - (j + 2)))) w' = .ok (.string (mkB (cutB b (j + 2) (j + 4)))) w' := fun w' hB => cut_string (rdB_below HRD.out (by rw [HB0.out]; exact hB)) (j + 2) 2 (cap - (j + 2)) (by rw [HL.out]; omega)
        obtain ⟨S1, hS1⟩ : ∃ S, mkB (cutB b j (j + 2)) = S := ⟨_, rfl⟩
        obtain ⟨S3, hS3⟩ : ∃ S, mkB (cutB b (j + 2) (j + 4)) = S := ⟨_, rfl⟩
        rw [hS1] at q1 CT; rw [hS3] at q2
        rw [show j + 2 + 2 = j + 4 from rfl, hS3] at CC
        obtain ⟨t, ht⟩ : ∃ t, num2 b j = t := ⟨_, rfl⟩
        obtain ⟨c, hc⟩ : ∃ c, num2 b (j + 2) = c := ⟨_, rfl⟩
        rw [ht] at CT HRR; rw [hc] at CC HRR
        have l1 := fun w' => rsl.run_slice2 g o L cap j (j + 2) 2 (j : Int) ((j : Int) + 2) rfl (by omega) (by omega) (by omega) (by omega) w'
        have l2 := fun w' => rsl.run_slice2 g o L cap (j + 2) (j + 4) 2 ((j : Int) + 2) ((j : Int) + 4) (by omega) (by omega) (by omega) (by omega) (by omega) w'
        have v2 : IntKind.i64.wrap ((j : Int) + 2) = (j : Int) + 2 := IntWalk.i64_in _ (by omega)
        have v4 : IntKind.i64.wrap ((j : Int) + 4) = (j : Int) + 4 := IntWalk.i64_in _ (by omega)
        have hBd : Below b0 w wr.drew := HS.out.bel.drew
        have hBw : Below b0 w wr := HS.out.bel
        have HNW := Lib.hid (show ((wr.alloc (.cells #[.string S0, .int .i64 (t : Int), .int .i64 (c : Int)] 50)).drew).heap[wr.heap.size]? = some (.cells #[.string S0, .int .i64 (t : Int), .int .i64 (c : Int)] 50 (0, 0)) from heap_alloc_new wr _)
        have hb0l : b0 ≤ wr.heap.size := by have := blk_lt HS.out.res; omega
        have c10 := HS.out.msg.box.c10
        have hown := HS.out.own.q
        rw [HQL.out] at c10 hown
        have c10d : wr.drew.cell? ⟨b0 + 1, 10, none⟩ = some (.slice pl.qa i pl.qc) := c10
        have c10a : (wr.alloc (.cells #[.string S0, .int .i64 (t : Int), .int .i64 (c : Int)] 50)).drew.cell? ⟨b0 + 1, 10, none⟩ = some (.slice pl.qa i pl.qc) := (World.cell?_alloc_lt wr _ _ (udoor.lt_cell c10)).trans c10
        have hs6 : RSt b0 w (wr.alloc (.cells #[.string S0, .int .i64 (t : Int), .int .i64 (c : Int)] 50)).drew pl m := HS.out.below ((Below.refl wr.heap.size wr).alloc (Nat.le_refl _) _).drew
        have hown6 : (wr.alloc (.cells #[.string S0, .int .i64 (t : Int), .int .i64 (c : Int)] 50)).drew.ownsRow b0 50 3 (.slice pl.qa i pl.qc) i (m.qs.flatMap Qn.cells) := World.ownsRow.alloc (w := wr) hown _
        have HS6 := Lib.hid hs6; have HOW := Lib.hid hown6
        obtain ⟨i0, hif, hz0, hz1, hz2⟩ := info_parts infoQn
        clear hS1 hS3 ht hc hs6 hown6 hown c10
        trace "20"
        go_wp2_with fail
        refine (CQ.out _).mono ?_
        rintro e wa ⟨rfl, rfl⟩
        go_wp2_with fail
        refine CN2.out.mono ?_
        rintro e wb ⟨rfl, rfl⟩
        go_upto_region 20 with fail
        have hS0 : Below b0 w wb.drew ∧ wb.drew.cell? ⟨b0 + 1, 10, none⟩ = some (.slice pl.qa i pl.qc) := ⟨hBd, c10d⟩
        refine heldG.regionG (fun w' => Below b0 w w' ∧ w'.cell? ⟨b0 + 1, 10, none⟩ = some (.slice pl.qa i pl.qc)) (fun i => decide (21 ≤ i)) (by kernel_rfl) ?_
        refine heldG.takeG (i := 0) (v := .pointer (some ⟨b0 + 1, 10, none⟩)) rfl (by kernel_rfl) (by kernel_rfl) (by kernel_rfl) (fun _ _ _ h => h) (by kernel_rfl) rfl (Or.inl ⟨by rfl, ?_⟩) hS0 ?_
        · intro wz hSw
          obtain ⟨hSz, hSc⟩ := hSw
          go_simp
        try simp only [Act.put, List.setIfInBounds_toArray]
        refine heldG.takeG (i := 1) (v := .slice pl.qa i pl.qc) rfl (by kernel_rfl) (by kernel_rfl) (by kernel_rfl) (fun _ _ _ h => h) (by kernel_rfl) rfl (Or.inl ⟨by rfl, ?_⟩) hS0 ?_
        · intro wz hSw
          obtain ⟨hSz, hSc⟩ := hSw
          go_simp
        try simp only [Act.put]
        refine heldG.takeG (i := 2) (v := .string S0) rfl (by kernel_rfl) (by kernel_rfl) (by kernel_rfl) (fun _ _ _ h => h) (by kernel_rfl) rfl (Or.inl ⟨by rfl, ?_⟩) hS0 ?_
        · intro wz hSw
          obtain ⟨hSz, hSc⟩ := hSw
          go_simp
        try simp only [Act.put]
        refine heldG.takeG (i := 3) (v := .slice (some ⟨g, o, none⟩) L cap) rfl (by kernel_rfl) (by kernel_rfl) (by kernel_rfl) (fun _ _ _ h => h) (by kernel_rfl) rfl (Or.inl ⟨by rfl, ?_⟩) hS0 ?_
        · intro wz hSw
          obtain ⟨hSz, hSc⟩ := hSw
          go_simp
        try simp only [Act.put]
        refine heldG.takeG (i := 4) (v := .int .i64 (j : Int)) rfl (by kernel_rfl) (by kernel_rfl) (by kernel_rfl) (fun _ _ _ h => h) (by kernel_rfl) rfl (Or.inl ⟨by rfl, ?_⟩) hS0 ?_
        · intro wz hSw
          obtain ⟨hSz, hSc⟩ := hSw
          go_simp
        try simp only [Act.put]
        refine heldG.takeG (i := 5) (v := .int .i64 (j : Int)) rfl (by kernel_rfl) (by kernel_rfl) (by kernel_rfl) (fun _ _ _ h => h) (by kernel_rfl) rfl (Or.inl ⟨by rfl, ?_⟩) hS0 ?_
        · intro wz hSw
          obtain ⟨hSz, hSc⟩ := hSw
          go_simp
        try simp only [Act.put]
        refine heldG.takeG (i := 6) (v := .int .i64 ((j : Int) + 2)) rfl (by kernel_rfl) (by kernel_rfl) (by kernel_rfl) (fun _ _ _ h => h) (by kernel_rfl) rfl (Or.inl ⟨by rfl, ?_⟩) hS0 ?_
        · intro wz hSw
          obtain ⟨hSz, hSc⟩ := hSw
          go_simp
        try simp only [Act.put]
        refine heldG.takeG (i := 7) (v := .slice (some ⟨g, o + j, none⟩) 2 (cap - j)) rfl (by kernel_rfl) (by kernel_rfl) (by kernel_rfl) (fun _ _ _ h => h) (by kernel_rfl) rfl (Or.inl ⟨by rfl, ?_⟩) hS0 ?_
        · intro wz hSw
          obtain ⟨hSz, hSc⟩ := hSw
          go_simp
        try simp only [Act.put]
        refine heldG.takeG (i := 8) (v := .string S1) rfl (by kernel_rfl) (by kernel_rfl) (by kernel_rfl) (fun _ _ _ h => h) (by kernel_rfl) rfl (Or.inl ⟨by rfl, ?_⟩) hS0 ?_
        · intro wz hSw
          obtain ⟨hSz, hSc⟩ := hSw
          have qz := q1 wz hSz
          go_simp
        try simp only [Act.put]
        refine heldG.takeG (i := 10) (v := .slice (some ⟨g, o, none⟩) L cap) rfl (by kernel_rfl) (by kernel_rfl) (by kernel_rfl) (fun _ _ _ h => h) (by kernel_rfl) rfl (Or.inl ⟨by rfl, ?_⟩) hS0 ?_
        · intro wz hSw
          obtain ⟨hSz, hSc⟩ := hSw
          go_simp
        try simp only [Act.put]
        refine heldG.takeG (i := 11) (v := .int .i64 (j : Int)) rfl (by kernel_rfl) (by kernel_rfl) (by kernel_rfl) (fun _ _ _ h => h) (by kernel_rfl) rfl (Or.inl ⟨by rfl, ?_⟩) hS0 ?_
        · intro wz hSw
          obtain ⟨hSz, hSc⟩ := hSw
          go_simp
        try simp only [Act.put]
        refine heldG.takeG (i := 12) (v := .int .i64 ((j : Int) + 2)) rfl (by kernel_rfl) (by kernel_rfl) (by kernel_rfl) (fun _ _ _ h => h) (by kernel_rfl) rfl (Or.inl ⟨by rfl, ?_⟩) hS0 ?_
        · intro wz hSw
          obtain ⟨hSz, hSc⟩ := hSw
          go_simp
        try simp only [Act.put]
        refine heldG.takeG (i := 13) (v := .int .i64 (j : Int)) rfl (by kernel_rfl) (by kernel_rfl) (by kernel_rfl) (fun _ _ _ h => h) (by kernel_rfl) rfl (Or.inl ⟨by rfl, ?_⟩) hS0 ?_
        · intro wz hSw
          obtain ⟨hSz, hSc⟩ := hSw
          go_simp
        try simp only [Act.put]
        refine heldG.takeG (i := 14) (v := .int .i64 ((j : Int) + 4)) rfl (by kernel_rfl) (by kernel_rfl) (by kernel_rfl) (fun _ _ _ h => h) (by kernel_rfl) rfl (Or.inl ⟨by rfl, ?_⟩) hS0 ?_
        · intro wz hSw
          obtain ⟨hSz, hSc⟩ := hSw
          go_simp
        try simp only [Act.put]
        refine heldG.takeG (i := 15) (v := .slice (some ⟨g, o + (j + 2), none⟩) 2 (cap - (j + 2))) rfl (by kernel_rfl) (by kernel_rfl) (by kernel_rfl) (fun _ _ _ h => h) (by kernel_rfl) rfl (Or.inl ⟨by rfl, ?_⟩) hS0 ?_
        · intro wz hSw
          obtain ⟨hSz, hSc⟩ := hSw
          go_simp
        try simp only [Act.put]
        refine heldG.takeG (i := 16) (v := .string S3) rfl (by kernel_rfl) (by kernel_rfl) (by kernel_rfl) (fun _ _ _ h => h) (by kernel_rfl) rfl (Or.inl ⟨by rfl, ?_⟩) hS0 ?_
        · intro wz hSw
          obtain ⟨hSz, hSc⟩ := hSw
          have qz := q2 wz hSz
          go_simp
        try simp only [Act.put]
        refine heldG.readyG (rs := [9]) (by kernel_rfl) (by simp) ?_
        refine heldG.AllG.cons rfl (fun KK hKK => ?_) heldG.AllG.nil
        go_simp
        refine (CT.out _).mono ?_
        rintro e w' ⟨rfl, rfl⟩
        dsimp only
        refine hKK.out _ _ (fun _ => hS0) ?_; clear hKK KK
        try simp only [Act.put, List.setIfInBounds_toArray, List.set_cons_zero, List.set_cons_succ]
        refine heldG.readyG (rs := [17]) (by kernel_rfl) (by simp) ?_
        refine heldG.AllG.cons rfl (fun KK hKK => ?_) heldG.AllG.nil
        go_simp
        refine (CC.out _).mono ?_
        rintro e w' ⟨rfl, rfl⟩
        dsimp only
        refine hKK.out _ _ (fun _ => hS0) ?_; clear hKK KK
        try simp only [Act.put, List.setIfInBounds_toArray, List.set_cons_zero, List.set_cons_succ]
        refine heldG.readyG (rs := [18]) (by kernel_rfl) (by simp) ?_
        refine heldG.AllG.cons rfl (fun KK hKK => ?_) heldG.AllG.nil
        go_simp
        refine hKK.out _ _ (fun _ => hS0) ?_; clear hKK KK
        try simp only [Act.put, List.setIfInBounds_toArray, List.set_cons_zero, List.set_cons_succ]
        refine heldG.readyG (rs := [19]) (by kernel_rfl) (by simp) ?_
        refine heldG.AllG.cons rfl (fun KK hKK => ?_) heldG.AllG.nil
        go_simp
        refine hKK.out _ _ (fun _ => ⟨HS6.out.bel, c10a⟩) ?_; clear hKK KK
        try simp only [Act.put, List.setIfInBounds_toArray, List.set_cons_zero, List.set_cons_succ]
        refine heldG.readyG (rs := [20]) (by kernel_rfl) (by simp) ?_
        refine heldG.AllG.cons rfl (fun KK hKK => ?_) heldG.AllG.nil
        refine (step_append_lies _ (by rfl) (.tmp 116) (.tmp 134) 34 (by rfl) b0 50 i0 _ 3 32 Try.underlying34 hif hz0 hz1 hz2 (by rfl) (by decide) (.slice pl.qa i pl.qc) i (m.qs.flatMap Qn.cells) (by simp [Act.eval]) HOW.out ⟨wb.heap.size, 0, none⟩ 1 1 (Qn.cells ⟨S0, t, c⟩) (by simp [Act.eval]) (by rfl) (World.news_of_block HNW.out) (qn_one _) (by decide) (by unfold maxLen; omega) (by omega) (by simp; omega) (wb.heap.size + 1) (by simp) ?_)
        intro g3 cp w7 hown7 hgr hat hlt7
        have hg7 := grown_three HS6.out HOW.out (.inl rfl) hgr
        have hB7 := hg7.2.2.2
        have k10 : w7.cell? ⟨b0 + 1, 10, none⟩ = some (.slice pl.qa i pl.qc) := by have h := hg7.2.1.box.c10; rw [HQL.out] at h; exact h
        have z10 := udoor.msg_frozen hg7.2.1 10
        have hs7 := RSt.pushQ (x := ⟨S0, t, c⟩) HS6.out HQL.out hown7 hgr
        refine hKK.out _ _ (fun _ => ⟨hB7, k10⟩) ?_; clear hKK KK
        try simp only [Act.put, List.setIfInBounds_toArray]
        refine heldG.readyG (rs := [21]) (by kernel_rfl) (by simp) ?_
        refine heldG.AllG.cons rfl (fun KK hKK => ?_) heldG.AllG.nil
        go_simp
        refine hKK.out _ _ (fun h => absurd h (by decide)) ?_; clear hKK KK
        try simp only [Act.put, List.setIfInBounds_toArray, List.set_cons_zero, List.set_cons_succ]
        refine heldG.readyG (rs := [22]) (by kernel_rfl) (by simp) ?_
        refine heldG.AllG.cons rfl (fun KK hKK => ?_) heldG.AllG.nil
        go_simp
        refine hKK.out _ _ (fun h => absurd h (by decide)) ?_; clear hKK KK
        try simp only [Act.put, List.setIfInBounds_toArray, List.set_cons_zero, List.set_cons_succ]
        refine heldG.doneG (by kernel_rfl) ?_ _
        have HS7 := Lib.hid hs7
        obtain ⟨w8, hw8⟩ : ∃ w8, w7.setCell ⟨b0 + 1, 10, none⟩ (.slice (some ⟨g3, 0, none⟩) (i + 1) cp) = w8 := ⟨_, rfl⟩
        rw [hw8] at HS7 ⊢
        have HJ4 := Lib.hid (show j + 4 ≤ b.length by rw [HL.out]; omega)
        clear hs7 hw8 q1 q2 l1 l2 v2 v4 c10d c10a HS6 HOW hif hz0 hz1 hz2 hBd hBw HNW CT CC
        trace "21"
        go_wp2_with fail
        have hig := HG.out
        go_roundg (gk - 1)
        case rel => exact ⟨i + 1, j + 4, _, _, by go_num, by first | rfl | go_num | (congr 1), by omega, by omega, Lib.hid (by show (m.qs ++ [_]).length = i + 1; rw [List.length_append, HQL.out]; rfl), HS7, HRR, HJ4, HNS⟩
        case measure => omega
    · have hin2 : i = nq := by omega
      subst hin2
      have hQ := HQ.out
      rw [Nat.sub_self, quU_end] at hQ
      have HO0 : Hid (outU b (3 - 0) 0 m k = R) := Lib.hid hQ
      have hiI : ¬ (i : Int) < (i : Int) := by omega
      clear hQ HQ hin hlt HG
      trace "22"
      go_wp2_with fail
      refine (CQ.out _).mono ?_
      rintro e wa ⟨rfl, rfl⟩
      go_wp2_with fail
      have HNF : Hid (unpackM.NoF m 0) := Lib.hid (by
        intro j _ hj3
        match j, hj3 with
        | 0, _ => exact HNS.out.1
        | 1, _ => exact HNS.out.2.1
        | 2, _ => exact HNS.out.2.2)
      go_loopg [8, 13] 4 (fun gas kv sv wr => ∃ (s k : Nat) (pl : Pl) (m : Mg), sv = .int .i64 (s : Int) ∧ kv = .int .i64 (k : Int) ∧ s ≤ 3 ∧ s + gas = 4 ∧ Hid (RSt b0 w wr pl m) ∧ Hid (outU b (3 - s) s m k = R) ∧ Hid (k ≤ b.length) ∧ Hid (unpackM.NoF m s))
      case atStart => exact ⟨0, k, pl, m, rfl, rfl, by omega, by omega, HS, HO0, HKL, HNF⟩
      case round =>
        clear HS HO0 HKL HNF HNS HRDr q4 hkl hiI
        obtain ⟨s, k, pl, m, rfl, rfl, hs3, hsg, HS, HO, HKL, HNF⟩ := hrel
        by_cases hslt : s < 3
        · have hsI : (s : Int) < 3 := by omega
          obtain ⟨n, hn⟩ : ∃ n, num2 b (6 + 2 * s) = n := ⟨_, rfl⟩
          have hnb : n ≤ 65535 := by rw [← hn]; exact crec.num2_le b _
          have HO2 : Hid (inU b (2 - s) s m (n - 0) k = R) := Lib.hid (by
            have h := HO.out
            rw [show 3 - s = (2 - s) + 1 by omega, ← inU_start b (2 - s) s m k (HNF.out s (Nat.le_refl _) hslt), hn] at h
            exact h)
          have HL0 : Hid ((secL m s).length = 0) := Lib.hid (by rw [HNF.out s (Nat.le_refl _) hslt]; rfl)
          have HNF1 : Hid (unpackM.NoF m (s + 1)) := Lib.hid (fun j h1 h2 => HNF.out j (by omega) h2)
          have HSG := Lib.hid hsg; have HHS := Lib.hid hslt
          have CS := Lib.hid (fun w => val_two (b := b) (j := 6 + 2 * s) (by rw [HL.out]; omega) w)
          obtain ⟨S6, hS6⟩ : ∃ S, mkB (cutB b (6 + 2 * s) (6 + 2 * s + 2)) = S := ⟨_, rfl⟩
          rw [hS6, hn] at CS
          have HS6 := Lib.hid hS6
          clear hn hS6 HO HNF hsg
          trace "24"
          go_wp2_with fail
          obtain ⟨gk', hgk'⟩ : ∃ g, g = gk := ⟨_, rfl⟩
          rw [← hgk'] at HSG
          go_loopg [8, 14] (n + 1) (fun gas kv iv wr => ∃ (i k : Nat) (pl : Pl) (m : Mg), iv = .int .i64 (i : Int) ∧ kv = .int .i64 (k : Int) ∧ i ≤ n ∧ i + gas = n + 1 ∧ Hid ((secL m s).length = i) ∧ Hid (RSt b0 w wr pl m) ∧ Hid (inU b (2 - s) s m (n - i) k = R) ∧ Hid (k ≤ b.length) ∧ Hid (unpackM.NoF m (s + 1)))
          case atStart => exact ⟨0, k, pl, m, rfl, rfl, by omega, by omega, HL0, HS, HO2, HKL, HNF1⟩
          case round =>
            clear HS HO2 HKL HNF1 HL0
            obtain ⟨i, k, pl, m, rfl, rfl, hin4, hig4, HML, HS, HO, HKL, HNF⟩ := hrel
            have HGG := Lib.hid hig4; clear hig4
            have HRDr := Lib.hid (rdB_below HRD.out (by rw [HB0.out]; exact HS.out.bel))
            have hs3' := HHS.out
            have qs := cut_string HRDr.out (6 + 2 * s) (8 + 2 * s - (6 + 2 * s)) (cap - (6 + 2 * s)) (by rw [HL.out]; omega)
            rw [show 6 + 2 * s + (8 + 2 * s - (6 + 2 * s)) = 6 + 2 * s + 2 by omega, HS6.out] at qs
            have hkl := HKL.out
            rw [HL.out] at hkl
            by_cases hlt4 : i < n
            · have hiI : (i : Int) < (n : Int) := by omega
              have hstep : n - i = (n - (i + 1)) + 1 := by omega
              have HO1 := HO.out
              rw [hstep] at HO1
              have HO2 := Lib.hid HO1
              clear HO HO1 hstep
              have CN := Lib.hid (rrecd.rrecord_any (some ⟨g, o, none⟩) b cap k wr HRDr.out HLE.out HCM.out HLB.out HKL.out)
              rw [HL.out] at CN
              cases hn : recU b k with
              | bad x =>
                have hx0 := roundM.recU_bad hn
                have ex : (x == 0) = false := by simpa using hx0
                have HRR := Lib.hid ((inU_bad (f := 2 - s) (s := s) (m := m) (n := n - (i + 1)) hn).symm.trans HO2.out).symm
                have CN2 : Hid (Calls Try.prog 68 #[.slice (some ⟨g, o, none⟩) L cap, .int .i64 (k : Int)] wr fun e w' => e = .returned (.tuple #[.agg #[.string ⟨#[]⟩, .int .i64 0, .int .i64 0, .int .i64 0, .string ⟨#[]⟩], .int .i64 0, .int .i64 x]) ∧ Below wr.heap.size wr w') := Lib.hid (by have h := CN.out; rw [hn] at h; exact h)
                clear hn hx0 HO2 CN
                trace "28b"
                go_wp2_with fail
                refine (CS.out _).mono ?_
                rintro e wa ⟨rfl, rfl⟩
                go_wp2_with fail
                refine CN2.out.mono ?_
                rintro e w1 ⟨rfl, hB1⟩
                have hs1 := HS.out.below hB1
                have hs2 := hs1.below ((Below.refl w1.heap.size w1).alloc (Nat.le_refl _) (.cells #[.string ⟨#[]⟩, .int .i64 0, .int .i64 0, .int .i64 0, .string ⟨#[]⟩] 52))
                have hN := hs2.non; have hZ := hs2.res
                have hst := rrecd.store_z (heap_alloc_new w1 (.cells #[.string ⟨#[]⟩, .int .i64 0, .int .i64 0, .int .i64 0, .string ⟨#[]⟩] 52))
                go_wp2_with (first | (refine wpList_load_row rfl 37 _ rfl (b0 + 2) rfl 37 _ _ _ hN Try.underlying37 rfl (by rw [infoMsg]; rfl) ?_) | (refine wpList_store_self rfl 37 _ _ rfl b0 _ rfl rfl 37 hZ (by rw [infoMsg]; rfl) (cells_all _ _) ?_))
                exact fin _ rfl rfl rfl hs2.res (by rw [HRR.out]) (by rw [HRR.out]; rfl) (by rw [HRR.out]; rfl) (Own4.none _ _) hs2.bel
              | ok x j =>
                have HJL := Lib.hid (unpackM.recU_len hn)
                have HRR := Lib.hid ((inU_ok (f := 2 - s) (s := s) (m := m) (n := n - (i + 1)) hn).symm.trans HO2.out)
                have HNF2 := Lib.hid (unpackM.nof_upd (secL m s ++ [x]) HNF.out)
                have CN2 : Hid (Calls Try.prog 68 #[.slice (some ⟨g, o, none⟩) L cap, .int .i64 (k : Int)] wr fun e w' => e = .returned (.tuple #[.agg #[.string x.o, .int .i64 x.t, .int .i64 x.c, .int .i64 x.l, .string x.d], .int .i64 (j : Int), .int .i64 0]) ∧ Below wr.heap.size wr w') := Lib.hid (by have h := CN.out; rw [hn] at h; exact h)
                clear hn HO2 CN
                trace "28"
                go_wp2_with fail
                refine (CS.out _).mono ?_
                rintro e wa ⟨rfl, rfl⟩
                go_wp2_with fail
                refine CN2.out.mono ?_
                rintro e w1 ⟨rfl, hB1⟩
                have hs1 := HS.out.below hB1
                have hst : Sem.run Try.prog (storeCells ⟨w1.heap.size, 0, none⟩ [.string x.o, .int .i64 x.t, .int .i64 x.c, .int .i64 x.l, .string x.d]) (w1.alloc (.cells #[.string ⟨#[]⟩, .int .i64 0, .int .i64 0, .int .i64 0, .string ⟨#[]⟩] 52)) = .ok () (w1.alloc (.cells #[.string x.o, .int .i64 x.t, .int .i64 x.c, .int .i64 x.l, .string x.d] 52)) := (rrecd.store_five (x := x) (y := rrecd.zR) (heap_alloc_new w1 (.cells #[.string ⟨#[]⟩, .int .i64 0, .int .i64 0, .int .i64 0, .string ⟨#[]⟩] 52))).trans (by rw [World.setRow_alloc_new]; rfl)
                have hs2 := hs1.below ((Below.refl w1.heap.size w1).alloc (Nat.le_refl _) (.cells #[.string x.o, .int .i64 x.t, .int .i64 x.c, .int .i64 x.l, .string x.d] 52))
                have hX2 := heap_alloc_new w1 (.cells #[.string x.o, .int .i64 x.t, .int .i64 x.c, .int .i64 x.l, .string x.d] 52)
                go_upto_region 29 with fail
                obtain ⟨X, hXe⟩ : ∃ X, w1.heap.size = X := ⟨_, rfl⟩
                obtain ⟨w2, hw2⟩ : ∃ w2, w1.alloc (.cells #[.string x.o, .int .i64 x.t, .int .i64 x.c, .int .i64 x.l, .string x.d] 52) = w2 := ⟨_, rfl⟩
                rw [hw2, hXe] at hX2
                rw [hw2] at hs2
                rw [hw2]
                try rw [hXe]
                have x0 : w2.cell? ⟨X, 0, none⟩ = some (.string x.o) := by simp only [World.cell?, hX2]; rfl
                have x1 : w2.cell? ⟨X, 1, none⟩ = some (.int .i64 x.t) := by simp only [World.cell?, hX2]; rfl
                have x2 : w2.cell? ⟨X, 2, none⟩ = some (.int .i64 x.c) := by simp only [World.cell?, hX2]; rfl
                have x3 : w2.cell? ⟨X, 3, none⟩ = some (.int .i64 x.l) := by simp only [World.cell?, hX2]; rfl
                have x4 : w2.cell? ⟨X, 4, none⟩ = some (.string x.d) := by simp only [World.cell?, hX2]; rfl
                have hSc := unpackM.msg_sec hs2.msg HHS.out
                have hown := hs2.sec HHS.out
                rw [HML.out] at hSc hown
                have HOW := Lib.hid hown
                have HS3 := Lib.hid (hs2.below ((Below.refl w2.heap.size w2).alloc (Nat.le_refl _) (.cells #[.string x.o, .int .i64 x.t, .int .i64 x.c, .int .i64 x.l, .string x.d] 52)))
                have hb0l : b0 ≤ w2.heap.size := by have := blk_lt hs2.res; omega
                have hib : i ≤ 65535 := by omega
                obtain ⟨i0, hif, hz0, hz1, hz2⟩ := info_parts infoRec
                clear hown hs1 hs2 hX2 hw2 hXe hst hB1 HS qs HRDr
                rcases (show s = 0 ∨ s = 1 ∨ s = 2 by omega) with rfl | rfl | rfl
                · have hSd : w2.cell? ⟨b0 + 1, 11, none⟩ = some (.slice (secA pl 0) i (secC pl 0)) := hSc
                  clear hSc
                  trace "arm 0"
                  go_wp2_with (at_builtin; refine wpList_append_lies _ rfl _ _ 35 rfl b0 52 i0 _ 5 56 Try.underlying35 hif hz0 hz1 hz2 rfl (by decide) (.slice (secA pl 0) i (secC pl 0)) i ((secL m 0).flatMap Rc.cells) rfl (HOW.out.alloc _) ⟨w2.heap.size, 0, none⟩ 1 1 x.cells rfl rfl ?d1 ?d2 (by decide) ?d3 ?d4 ?d5 _ rfl ?_)
                  case d1 => exact World.news_of_block (heap_alloc_new _ _)
                  case d2 => exact rec_one _
                  case d3 => unfold maxLen; omega
                  case d4 => omega
                  case d5 => simp; omega
                  intro g3 cp w7 hown7 hgr hat hlt7
                  have hg7 := grown_three HS3.out (HOW.out.alloc _) (.inr rfl) hgr
                  have hb7 : w7.cell? ⟨b0 + 1, 11, none⟩ = some (.slice (secA pl 0) i (secC pl 0)) := by
                    have h := unpackM.msg_sec hg7.2.1 (s := 0) (by decide)
                    rw [HML.out] at h; exact h
                  have z7 := udoor.msg_frozen hg7.2.1 11
                  have HS7 : Hid (RSt b0 w (w7.setCell ⟨b0 + 1, 11, none⟩ (.slice (some ⟨g3, 0, none⟩) (i + 1) cp)) (updP pl 0 (some ⟨g3, 0, none⟩) cp) (updM m 0 (secL m 0 ++ [x]))) := Lib.hid (RSt.push (x := x) (s := 0) (by decide) HS3.out HML.out hown7 hgr (hat.imp id (fun e => by rw [e]; simp)))
                  clear hown7 hgr hat hg7 HOW HS3 hif hz0 hz1 hz2 hSd x0 x1 x2 x3 x4
                  trace "arm 0b"
                  go_upto_region 36 with fail
                  obtain ⟨w8, hw8⟩ : ∃ w8, w7.setCell ⟨b0 + 1, 11, none⟩ (.slice (some ⟨g3, 0, none⟩) (i + 1) cp) = w8 := ⟨_, rfl⟩
                  rw [hw8] at HS7 ⊢
                  clear hw8 hb7 z7 hlt7
                  go_wp2_with fail
                  have hig := HGG.out
                  go_roundg (gk - 1)
                  case rel => exact ⟨i + 1, j, _, _, by go_num, by first | rfl | go_num | (congr 1), by omega, by omega, Lib.hid (by rw [secL_upd, List.length_append, HML.out]; rfl), HS7, HRR, HJL, HNF2⟩
                  case measure => omega
                · have hSd : w2.cell? ⟨b0 + 1, 12, none⟩ = some (.slice (secA pl 1) i (secC pl 1)) := hSc
                  clear hSc
                  trace "arm 1"
                  go_wp2_with (at_builtin; refine wpList_append_lies _ rfl _ _ 35 rfl b0 52 i0 _ 5 56 Try.underlying35 hif hz0 hz1 hz2 rfl (by decide) (.slice (secA pl 1) i (secC pl 1)) i ((secL m 1).flatMap Rc.cells) rfl (HOW.out.alloc _) ⟨w2.heap.size, 0, none⟩ 1 1 x.cells rfl rfl ?d1 ?d2 (by decide) ?d3 ?d4 ?d5 _ rfl ?_)
                  case d1 => exact World.news_of_block (heap_alloc_new _ _)
                  case d2 => exact rec_one _
                  case d3 => unfold maxLen; omega
                  case d4 => omega
                  case d5 => simp; omega
                  intro g3 cp w7 hown7 hgr hat hlt7
                  have hg7 := grown_three HS3.out (HOW.out.alloc _) (.inr rfl) hgr
                  have hb7 : w7.cell? ⟨b0 + 1, 12, none⟩ = some (.slice (secA pl 1) i (secC pl 1)) := by
                    have h := unpackM.msg_sec hg7.2.1 (s := 1) (by decide)
                    rw [HML.out] at h; exact h
                  have z7 := udoor.msg_frozen hg7.2.1 12
                  have HS7 : Hid (RSt b0 w (w7.setCell ⟨b0 + 1, 12, none⟩ (.slice (some ⟨g3, 0, none⟩) (i + 1) cp)) (updP pl 1 (some ⟨g3, 0, none⟩) cp) (updM m 1 (secL m 1 ++ [x]))) := Lib.hid (RSt.push (x := x) (s := 1) (by decide) HS3.out HML.out hown7 hgr (hat.imp id (fun e => by rw [e]; simp)))
                  clear hown7 hgr hat hg7 HOW HS3 hif hz0 hz1 hz2 hSd x0 x1 x2 x3 x4
                  trace "arm 1b"
                  go_upto_region 36 with fail
                  obtain ⟨w8, hw8⟩ : ∃ w8, w7.setCell ⟨b0 + 1, 12, none⟩ (.slice (some ⟨g3, 0, none⟩) (i + 1) cp) = w8 := ⟨_, rfl⟩
                  rw [hw8] at HS7 ⊢
                  clear hw8 hb7 z7 hlt7
                  go_wp2_with fail
                  have hig := HGG.out
                  go_roundg (gk - 1)
                  case rel => exact ⟨i + 1, j, _, _, by go_num, by first | rfl | go_num | (congr 1), by omega, by omega, Lib.hid (by rw [secL_upd, List.length_append, HML.out]; rfl), HS7, HRR, HJL, HNF2⟩
                  case measure => omega
                · have hSd : w2.cell? ⟨b0 + 1, 13, none⟩ = some (.slice (secA pl 2) i (secC pl 2)) := hSc
                  clear hSc
                  trace "arm 2"
                  go_wp2_with (at_builtin; refine wpList_append_lies _ rfl _ _ 35 rfl b0 52 i0 _ 5 56 Try.underlying35 hif hz0 hz1 hz2 rfl (by decide) (.slice (secA pl 2) i (secC pl 2)) i ((secL m 2).flatMap Rc.cells) rfl (HOW.out.alloc _) ⟨w2.heap.size, 0, none⟩ 1 1 x.cells rfl rfl ?d1 ?d2 (by decide) ?d3 ?d4 ?d5 _ rfl ?_)
                  case d1 => exact World.news_of_block (heap_alloc_new _ _)
                  case d2 => exact rec_one _
                  case d3 => unfold maxLen; omega
                  case d4 => omega
                  case d5 => simp; omega
                  intro g3 cp w7 hown7 hgr hat hlt7
                  have hg7 := grown_three HS3.out (HOW.out.alloc _) (.inr rfl) hgr
                  have hb7 : w7.cell? ⟨b0 + 1, 13, none⟩ = some (.slice (secA pl 2) i (secC pl 2)) := by
                    have h := unpackM.msg_sec hg7.2.1 (s := 2) (by decide)
                    rw [HML.out] at h; exact h
                  have z7 := udoor.msg_frozen hg7.2.1 13
                  have HS7 : Hid (RSt b0 w (w7.setCell ⟨b0 + 1, 13, none⟩ (.slice (some ⟨g3, 0, none⟩) (i + 1) cp)) (updP pl 2 (some ⟨g3, 0, none⟩) cp) (updM m 2 (secL m 2 ++ [x]))) := Lib.hid (RSt.push (x := x) (s := 2) (by decide) HS3.out HML.out hown7 hgr (hat.imp id (fun e => by rw [e]; simp)))
                  clear hown7 hgr hat hg7 HOW HS3 hif hz0 hz1 hz2 hSd x0 x1 x2 x3 x4
                  trace "arm 2b"
                  go_upto_region 36 with fail
                  obtain ⟨w8, hw8⟩ : ∃ w8, w7.setCell ⟨b0 + 1, 13, none⟩ (.slice (some ⟨g3, 0, none⟩) (i + 1) cp) = w8 := ⟨_, rfl⟩
                  rw [hw8] at HS7 ⊢
                  clear hw8 hb7 z7 hlt7
                  go_wp2_with fail
                  have hig := HGG.out
                  go_roundg (gk - 1)
                  case rel => exact ⟨i + 1, j, _, _, by go_num, by first | rfl | go_num | (congr 1), by omega, by omega, Lib.hid (by rw [secL_upd, List.length_append, HML.out]; rfl), HS7, HRR, HJL, HNF2⟩
                  case measure => omega
            · have hin5 : i = n := by omega
              subst hin5
              have hO := HO.out
              rw [Nat.sub_self, inU_end, updM_self] at hO
              have HOe : Hid (outU b (3 - (s + 1)) (s + 1) m k = R) := Lib.hid (by rw [show 3 - (s + 1) = 2 - s by omega]; exact hO)
              have hiI : ¬ (i : Int) < (i : Int) := by omega
              clear hO HO HML HGG hin4 hlt4
              trace "36e"
              go_wp2_with fail
              refine (CS.out _).mono ?_
              rintro e wa ⟨rfl, rfl⟩
              go_wp2_with fail
              have hsg := HSG.out
              go_roundg (gk' - 1)
              case rel => exact ⟨s + 1, k, pl, m, by go_num, by first | rfl | go_num | (congr 1), by omega, by omega, HS, HOe, HKL, HNF⟩
              case measure => omega
        · have hs3e : s = 3 := by omega
          subst hs3e
          have HO3 : Hid ((if k < b.length then (noM, k, 11) else (m, 0, 0)) = R) := HO
          have hkl := HKL.out
          rw [HL.out] at hkl
          clear HO hslt hs3 hsg HNF
          by_cases hkL : k < L
          · have hki : (k : Int) < (L : Int) := by omega
            have HRR : Hid (R = (noM, k, 11)) := Lib.hid (by rw [← HO3.out, if_pos (by rw [HL.out]; exact hkL)])
            have hN := HS.out.non; have hZ := HS.out.res
            trace "38"
            go_wp2_with (first | (refine wpList_load_row rfl 37 _ rfl (b0 + 2) rfl 37 _ _ _ hN Try.underlying37 rfl (by rw [infoMsg]; rfl) ?_) | (refine wpList_store_self rfl 37 _ _ rfl b0 _ rfl rfl 37 hZ (by rw [infoMsg]; rfl) (cells_all _ _) ?_))
            exact fin _ rfl rfl rfl HS.out.res (by rw [HRR.out]) (by rw [HRR.out]; rfl) (by rw [HRR.out]; rfl) (Own4.none _ _) HS.out.bel
          · have hki : ¬ (k : Int) < (L : Int) := by omega
            have HRR : Hid (R = (m, 0, 0)) := Lib.hid (by rw [← HO3.out, if_neg (by rw [HL.out]; exact hkL)])
            have hM := HS.out.msg; have hZ := HS.out.res
            trace "39"
            go_wp2_with (first | (refine wpList_load_row rfl 37 _ rfl (b0 + 1) rfl 37 _ _ _ hM Try.underlying37 rfl (by rw [infoMsg]; rfl) ?_) | (refine wpList_store_row rfl 37 _ _ rfl b0 _ rfl rfl 37 _ hZ (by rw [infoMsg]; rfl) (by rfl) (cells_all _ _) ?_))
            have hM2 : MsgAt (wr.setRow b0 (cellsM pl m)) b0 pl m := setRow_heap _ _ _ _ _ _ HS.out.res
            have hO2 : Own4 b0 (wr.setRow b0 (cellsM pl m)) pl m := HS.out.own.keep fun j c t hj ht => (setRow_other _ _ _ _ (other_t hj HS.out.res (by rcases ht with rfl | rfl <;> decide))).trans hj
            exact fin _ rfl rfl rfl hM2 (by rw [HRR.out]) (by rw [HRR.out]; rfl) (by rw [HRR.out]; rfl) hO2 (below_setRow HS.out.bel (Nat.le_refl _) _)
theorem rum_any (a : Option Addr) (b : Bs) (cap : Nat) (w : World) (hi : In0 w.heap.size w a b cap) :
    Calls Try.prog 27 #[.slice a b.length cap] w (UnpE w.heap.size w (unpackS b)) := by
  by_cases h : 65535 < b.length
  · exact rum_big a b cap w hi h
  by_cases h12 : b.length < 12
  · exact rum_few a b cap w hi h12
  by_cases h3 : atB b 3 / 64 % 2 = 1
  · exact rum_form a b cap w hi h h12 h3
  · exact rum_main a b cap w hi h h12 h3
end Go.Proofs.Ytabhiangjomaeaa.rumM
namespace Go.Proofs.Ytabhiangjomaeaa.wireUnpacks
open Go.RowKit Go.Proofs.Ytabhiangjomaeaa.kit Go.Proofs.Ytabhiangjomaeaa.timed Go.Proofs.Ytabhiangjomaeaa.nspec Go.Proofs.Ytabhiangjomaeaa.coded Go.Proofs.Ytabhiangjomaeaa.fld Go.Proofs.Ytabhiangjomaeaa.wireP Go.Proofs.Ytabhiangjomaeaa.wireM Go.Proofs.Ytabhiangjomaeaa.wireC Go.Proofs.Ytabhiangjomaeaa.wpack Go.Proofs.Ytabhiangjomaeaa.rows Go.Proofs.Ytabhiangjomaeaa.putM Go.Proofs.Ytabhiangjomaeaa.unpP Go.Proofs.Ytabhiangjomaeaa.ust Go.Proofs.Ytabhiangjomaeaa.uend Go.Proofs.Ytabhiangjomaeaa.unpackM Go.Proofs.Ytabhiangjomaeaa.roundM Go.Proofs.Ytabhiangjomaeaa.sameM Go.Proofs.Ytabhiangjomaeaa.bytesArg Go.Proofs.Ytabhiangjomaeaa.markP Go.Proofs.Ytabhiangjomaeaa.mark
set_option linter.unusedVariables false

theorem mcells {w : World} {b : Nat} {p : Pl} {m : Mg} {w' : World} (h : MsgAt w b p m) (hB : Below w.heap.size w w') : MsgAt w' b p m := h.below hB h.box.lt
theorem unpack_lit (a : Option Addr) (b : Bs) (cap : Nat) (w : World) (hi : In0 w.heap.size w a b cap) (m : Mg) (k : Nat) (x : Int) (hr : unpackS b = (m, k, x)) :
    Calls Try.prog 26 #[.slice a b.length cap] w fun e w' => ∃ p : Pl, e = .returned (.tuple #[.agg #[.int .i64 m.id, .bool m.rs, .int .i64 m.op, .bool m.aa, .bool m.tc, .bool m.rd, .bool m.ra, .bool m.ad, .bool m.cd, .int .i64 m.rc, .slice p.qa m.qs.length p.qc, .slice p.na m.an.length p.nc, .slice p.ua m.au.length p.uc, .slice p.ra m.ar.length p.rc], .int .i64 (k : Int), .int .i64 x]) ∧ Own4 w.heap.size w' p m ∧ Below w.heap.size w w' :=
  (unpack_any a b cap w hi).mono fun e w' ⟨p, h1, h2, h3⟩ => by
    rw [hr] at h1 h2
    exact ⟨p, h1, h2, h3⟩
theorem rum_lit (a : Option Addr) (b : Bs) (cap : Nat) (w : World) (hi : In0 w.heap.size w a b cap) (m : Mg) (k : Nat) (x : Int) (hr : unpackS b = (m, k, x)) :
    Calls Try.prog 27 #[.slice a b.length cap] w fun e w' => ∃ p : Pl, e = .returned (.tuple #[.agg #[.int .i64 m.id, .bool m.rs, .int .i64 m.op, .bool m.aa, .bool m.tc, .bool m.rd, .bool m.ra, .bool m.ad, .bool m.cd, .int .i64 m.rc, .slice p.qa m.qs.length p.qc, .slice p.na m.an.length p.nc, .slice p.ua m.au.length p.uc, .slice p.ra m.ar.length p.rc], .int .i64 (k : Int), .int .i64 x]) ∧ Own4 w.heap.size w' p m ∧ Below w.heap.size w w' :=
  (rumM.rum_any a b cap w hi).mono fun e w' ⟨p, h1, h2, h3⟩ => by
    rw [hr] at h1 h2
    exact ⟨p, h1, h2, h3⟩
theorem unpack_no {b : Bs} {m : Mg} {k : Nat} {x : Int} (h : unpackS b = (m, k, x)) (hx : x ≠ 0) : m = noM := by
  unfold unpackS at h
  repeat' split at h
  all_goals
    simp only [Prod.mk.injEq] at h
    obtain ⟨h1, h2, h3⟩ := h
    first
      | exact h1.symm
      | exact absurd h3.symm hx
theorem few_no : Few noM := ⟨by decide, by decide, by decide, by decide⟩
theorem few_unpack {b : Bs} {m : Mg} {k : Nat} {x : Int} (h : unpackS b = (m, k, x)) : Few m ∧ m.qs.length ≤ 1048576 ∧ ∀ s, s < 3 → (secL m s).length ≤ 1048576 := by
  by_cases hx : x = 0
  · subst hx
    have hc := unpack_checked h
    refine ⟨few_checked hc, ?_⟩
    simp only [checkB, Bool.and_eq_true] at hc
    have := of_decide_eq_true hc.2.2.2.1
    refine ⟨by omega, fun s hs => ?_⟩
    match s, hs with
    | 0, _ => show m.an.length ≤ _; omega
    | 1, _ => show m.au.length ≤ _; omega
    | 2, _ => show m.ar.length ≤ _; omega
  · rw [unpack_no h hx]
    refine ⟨few_no, by decide, fun s hs => ?_⟩
    match s, hs with
    | 0, _ => decide
    | 1, _ => decide
    | 2, _ => decide
theorem src_bytes {b0 : Nat} {w : World} {a : Option Addr} {b : Bs} {cap : Nat} (hi : In0 b0 w a b cap) (hn : a = none → b.length = 0 ∧ cap = 0) : (a = none ∧ b.length = 0 ∧ cap = 0) ∨ ∃ ad, a = some ad ∧ ∀ (j : Nat) (u : Value), (Lib.byteCells b)[j]? = some u → w.cell? (ad.add j) = some u := by
  cases a with
  | none => exact .inl ⟨rfl, hn rfl⟩
  | some ad =>
    refine .inr ⟨ad, rfl, fun j u hu => ?_⟩
    simp only [Lib.byteCells, List.getElem?_map, Option.map_eq_some_iff] at hu
    obtain ⟨c, hc, rfl⟩ := hu
    obtain ⟨g, o, h1, h2, h3⟩ := hi.rd j c hc
    cases h1
    rw [addr_at]; exact h3
theorem conv_in {b0 : Nat} {w : World} {a : Option Addr} {b : Bs} {cap : Nat} (hi : In0 b0 w a b cap) (hn : a = none → b.length = 0 ∧ cap = 0) : (convert 39 9 (.slice a b.length cap)).run Try.prog w = .ok (.string ⟨b.toArray⟩) w := by
  cases a with
  | none =>
    obtain ⟨h0, h1⟩ := hn rfl
    have : b = [] := List.eq_nil_of_length_eq_zero h0
    subst this
    exact run_convert_bytes_nil w 39 5 Try.underlying39 Try.underlying5 _ _ 9 Try.underlying9
  | some ad =>
    refine run_convert_bytes_back w 39 9 5 ad cap b Try.underlying39 Try.underlying5 Try.underlying9 (fun j hj => ?_)
    obtain ⟨g, o, h1, h2, h3⟩ := hi.rd j b[j] (List.getElem?_eq_getElem hj)
    cases h1
    rw [addr_at]
    first
      | exact h3
      | simpa using h3
set_option maxRecDepth 100000 in
set_option maxHeartbeats 2000000 in
theorem bytes_in {b0 b1 : Nat} {w : World} {a a' : Option Addr} {b : Bs} {cap cap' : Nat} (hi : In0 b0 w a b cap) (hn : a = none → b.length = 0 ∧ cap = 0) (hi' : In0 b1 w a' b cap') (hn' : a' = none → b.length = 0 ∧ cap' = 0) :
    Calls Try.prog 21 #[.slice a b.length cap, .slice a' b.length cap'] w fun e w' => e = .returned (.bool true) ∧ w' = w := by
  have h1 := conv_in hi hn
  have h2 := conv_in hi' hn'
  obtain ⟨S, hS⟩ : ∃ S : ByteArray, (⟨b.toArray⟩ : ByteArray) = S := ⟨_, rfl⟩
  rw [hS] at h1 h2
  have hss : (S.toList == S.toList) = true := by simp
  obtain ⟨n, hnn⟩ : ∃ n, b.length = n := ⟨_, rfl⟩
  rw [hnn] at h1 h2 ⊢
  clear hi hn hi' hn' hS hnn
  go_enter Try.func21, Try.ntmps21
  go_wp2_with fail
  go_ret
  exact ⟨rfl, rfl⟩
theorem own_nil {base : Nat} {w : World} {a : Option Addr} {n c : Nat} {l : Bs} (h : w.ownsRow base 5 1 (.slice a n c) n (Lib.byteCells l)) (hn : n = l.length) : a = none → l.length = 0 ∧ c = 0 := by
  intro ha
  rcases h.2 with ⟨h1, h2⟩ | ⟨g, cap, cur, h1, h2, h3, h4, h5, h6, h7⟩
  · injection h1 with e1 e2 e3
    exact ⟨by omega, e3⟩
  · injection h1 with e1 e2 e3
    rw [ha] at e1; cases e1
theorem Own4.between {B lo hi : Nat} {w w1 : World} {p : Pl} {m : Mg} (h : Own4 B w p m) (hE : EffB lo hi w w1) (hB : hi ≤ B) : Own4 B w1 p m := by
  have key : ∀ {t : TypeId} {sz : Nat} {v : Value} {n : Nat} {xs : List Value}, w.ownsRow B t sz v n xs → w1.ownsRow B t sz v n xs := by
    intro t sz v n xs h
    refine ⟨h.1, ?_⟩
    rcases h.2 with h1 | ⟨g, cap, cur, h1, h2, h3, h4⟩
    · exact .inl h1
    · exact .inr ⟨g, cap, cur, h1, h2, (hE.block g (blk_lt h3) (.inr (Nat.le_trans hB h2))).trans h3, h4⟩
  exact ⟨key h.q, key h.n, key h.u, key h.r, h.nu, h.nr, h.ur⟩
theorem rd_put {b0 : Nat} {w : World} {X : Nat} {q q0 : Pl} {m m0 m1 : Mg} (h : Own4 b0 w q m) (hX : MsgAt w X q0 m0) (q1 : Pl) : RdM (putM w X q1 m1) q m :=
  (h.keep (w1 := putM w X q1 m1) fun k c t hk ht => (putM_far q1 m1 (other_t hk hX (by rcases ht with rfl | rfl <;> decide))).trans hk).rd
set_option maxRecDepth 100000 in
set_option maxHeartbeats 8000000 in
theorem law (a : Option Addr) (cap : Nat) (b : Bs) (w : World) (hi : In0 w.heap.size w a b cap) (hs : b.length ≤ 1048576) (hn : a = none → b.length = 0 ∧ cap = 0) :
    Calls Try.prog 6 #[.slice a b.length cap] w fun e w' => e = .returned (.bool true) ∧ Below w.heap.size w w' := by
  obtain ⟨i0, hif, hz0, hz1, hz2⟩ := info_parts bld.infoByte
  obtain ⟨⟨um, uk, ue⟩, hu⟩ : ∃ r, unpackS b = r := ⟨_, rfl⟩
  have HF := Lib.hid (few_unpack hu)
  have HSRC := Lib.hid (src_bytes hi hn)
  have HI := Lib.hid hi; have HNN := Lib.hid hn
  have CU := Lib.hid (fun (wx : World) (av : Option Addr) (cx : Nat) (hx : In0 wx.heap.size wx av b cx) => unpack_lit av b cx wx hx um uk ue hu)
  have CR := Lib.hid (fun (wx : World) (hB : Below w.heap.size w wx) => rum_lit a b cap wx (In0.below hi hB rfl) um uk ue hu)
  have CB := Lib.hid (fun (wx : World) (b0 b1 : Nat) (av : Option Addr) (cx : Nat) (hx : In0 b0 wx av b cx) (hxn : av = none → b.length = 0 ∧ cx = 0) (hy : In0 b1 wx a b cap) => bytes_in hx hxn hy hn)
  obtain ⟨n, hnn⟩ : ∃ n, b.length = n := ⟨_, rfl⟩
  have HN := Lib.hid hnn
  rw [hnn] at CU CR CB hs HSRC ⊢
  have hcm := hi.cm
  clear hi hn hu hnn
  go_enter Try.func6, Try.ntmps6
  go_wp2_with (at_builtin; refine wpList_append_src rfl (.const (.slice none 0 0)) (.tmp 10) 39 rfl w.heap.size 5 i0 _ 1 1 Try.underlying39 hif hz0 hz1 hz2 rfl (by decide) _ 0 [] rfl (World.ownsRow_nil _ _ _ _) a n cap (Lib.byteCells b) rfl (by rw [Lib.byteCells, List.length_map, HN.out]; omega) HSRC.out ?c1 (by unfold maxLen; omega) (by omega) (Nat.le_refl _) ?_)
  case c1 =>
    intro u hu
    simp only [Lib.byteCells, List.mem_map] at hu
    obtain ⟨c, _, rfl⟩ := hu
    rfl
  intro v1 w1 hown1 hgr1
  have hB1 : Below w.heap.size w w1 := below_append' (Below.refl _ _) (Nat.le_refl _) (World.ownsRow_nil _ w.heap.size 5 1) hgr1
  have ho1 : w1.ownsRow w.heap.size 5 1 v1 n (Lib.byteCells b) := by first | exact hown1 | simpa using hown1
  obtain ⟨a1, c1, rfl⟩ := buf.own_slice1 ho1
  have HI1 := Lib.hid (own_in ho1 HN.out.symm)
  have HN1 := Lib.hid (own_nil ho1 HN.out.symm)
  rw [HN.out] at HN1
  have HB1 := Lib.hid hB1; have HB1Z := Lib.hid (show w.heap.size ≤ w1.heap.size from hB1.size)
  clear hown1 hgr1 hB1 ho1 HSRC hif hz0 hz1 hz2
  trace "1"
  go_wp2_with fail
  refine (CU.out w1 a1 c1 HI1.out).mono ?_
  rintro e w2 ⟨q, rfl, ho2, hB2⟩
  have HI2 := Lib.hid (In0.below HI1.out hB2 rfl); have HB2 := Lib.hid (HB1.out.trans (hB2.mono HB1.out.size)); have HO2 := Lib.hid ho2
  have HZ2 := Lib.hid (show w1.heap.size ≤ w2.heap.size from hB2.size)
  clear hB2 ho2
  trace "2"
  go_upto_region 3 with fail
  have hB3 := (Below.refl w2.heap.size w2).alloc (Nat.le_refl _) (.cells #[.int .i64 um.id, .bool um.rs, .int .i64 um.op, .bool um.aa, .bool um.tc, .bool um.rd, .bool um.ra, .bool um.ad, .bool um.cd, .int .i64 um.rc, .slice q.qa um.qs.length q.qc, .slice q.na um.an.length q.nc, .slice q.ua um.au.length q.uc, .slice q.ra um.ar.length q.rc] 37)
  have hX3 : MsgAt (w2.alloc (.cells #[.int .i64 um.id, .bool um.rs, .int .i64 um.op, .bool um.aa, .bool um.tc, .bool um.rd, .bool um.ra, .bool um.ad, .bool um.cd, .int .i64 um.rc, .slice q.qa um.qs.length q.qc, .slice q.na um.an.length q.nc, .slice q.ua um.au.length q.uc, .slice q.ra um.ar.length q.rc] 37)) w2.heap.size q um := heap_alloc_new _ _
  have ho3 := HO2.out.keep (w1 := w2.alloc (.cells #[.int .i64 um.id, .bool um.rs, .int .i64 um.op, .bool um.aa, .bool um.tc, .bool um.rd, .bool um.ra, .bool um.ad, .bool um.cd, .int .i64 um.rc, .slice q.qa um.qs.length q.qc, .slice q.na um.an.length q.nc, .slice q.ua um.au.length q.uc, .slice q.ra um.ar.length q.rc] 37)) (fun k c t hj _ => (heap_alloc_old _ _ (blk_lt hj)).trans hj)
  obtain ⟨X, hX⟩ : ∃ X, w2.heap.size = X := ⟨_, rfl⟩
  have HXX := Lib.hid hX
  have hZ3 : X < (w2.alloc (.cells #[.int .i64 um.id, .bool um.rs, .int .i64 um.op, .bool um.aa, .bool um.tc, .bool um.rd, .bool um.ra, .bool um.ad, .bool um.cd, .int .i64 um.rc, .slice q.qa um.qs.length q.qc, .slice q.na um.an.length q.nc, .slice q.ua um.au.length q.uc, .slice q.ra um.ar.length q.rc] 37)).heap.size := by simp; omega
  obtain ⟨w3, hw3⟩ : ∃ w3, w2.alloc (.cells #[.int .i64 um.id, .bool um.rs, .int .i64 um.op, .bool um.aa, .bool um.tc, .bool um.rd, .bool um.ra, .bool um.ad, .bool um.cd, .int .i64 um.rc, .slice q.qa um.qs.length q.qc, .slice q.na um.an.length q.nc, .slice q.ua um.au.length q.uc, .slice q.ra um.ar.length q.rc] 37) = w3 := ⟨_, rfl⟩
  rw [hw3] at hB3 hX3 ho3 hZ3 ⊢
  rw [hX] at hX3 ⊢
  have HX3 := Lib.hid hX3; have HO3 := Lib.hid ho3; have HI3 := Lib.hid (In0.below HI2.out hB3 rfl); have HB3 := Lib.hid (HB2.out.trans (hB3.mono HB2.out.size)); have HZ3 := Lib.hid hZ3
  clear hB3 hX3 ho3 hw3 hX HI2 hZ3 HB1
  trace "3"
  go_wp2_with fail
  refine (CR.out w3 HB3.out).mono ?_
  rintro e w4 ⟨x, rfl, ho4, hB4⟩
  have HX4 := Lib.hid (mcells HX3.out hB4)
  have HO4 := Lib.hid (HO3.out.keep (w1 := w4) (fun k c t hj _ => (hB4.block k (blk_lt hj)).trans hj))
  have HI4 := Lib.hid (In0.below HI3.out hB4 rfl); have HB4 := Lib.hid (HB3.out.trans (hB4.mono HB3.out.size)); have HP4 := Lib.hid ho4
  have HZ4 := Lib.hid (show w3.heap.size ≤ w4.heap.size from hB4.size)
  clear hB4 ho4
  go_upto_region 4 with fail
  have hB5 := (Below.refl w4.heap.size w4).alloc (Nat.le_refl _) (.cells #[.int .i64 um.id, .bool um.rs, .int .i64 um.op, .bool um.aa, .bool um.tc, .bool um.rd, .bool um.ra, .bool um.ad, .bool um.cd, .int .i64 um.rc, .slice x.qa um.qs.length x.qc, .slice x.na um.an.length x.nc, .slice x.ua um.au.length x.uc, .slice x.ra um.ar.length x.rc] 37)
  have hY5 : MsgAt (w4.alloc (.cells #[.int .i64 um.id, .bool um.rs, .int .i64 um.op, .bool um.aa, .bool um.tc, .bool um.rd, .bool um.ra, .bool um.ad, .bool um.cd, .int .i64 um.rc, .slice x.qa um.qs.length x.qc, .slice x.na um.an.length x.nc, .slice x.ua um.au.length x.uc, .slice x.ra um.ar.length x.rc] 37)) w4.heap.size x um := heap_alloc_new _ _
  have ho5 := HO4.out.keep (w1 := w4.alloc (.cells #[.int .i64 um.id, .bool um.rs, .int .i64 um.op, .bool um.aa, .bool um.tc, .bool um.rd, .bool um.ra, .bool um.ad, .bool um.cd, .int .i64 um.rc, .slice x.qa um.qs.length x.qc, .slice x.na um.an.length x.nc, .slice x.ua um.au.length x.uc, .slice x.ra um.ar.length x.rc] 37)) (fun k c t hj _ => (heap_alloc_old _ _ (blk_lt hj)).trans hj)
  have hp5 := HP4.out.keep (w1 := w4.alloc (.cells #[.int .i64 um.id, .bool um.rs, .int .i64 um.op, .bool um.aa, .bool um.tc, .bool um.rd, .bool um.ra, .bool um.ad, .bool um.cd, .int .i64 um.rc, .slice x.qa um.qs.length x.qc, .slice x.na um.an.length x.nc, .slice x.ua um.au.length x.uc, .slice x.ra um.ar.length x.rc] 37)) (fun k c t hj _ => (heap_alloc_old _ _ (blk_lt hj)).trans hj)
  have hX5 := mcells HX4.out hB5
  obtain ⟨Y, hY⟩ : ∃ Y, w4.heap.size = Y := ⟨_, rfl⟩
  have HYY := Lib.hid hY
  obtain ⟨w5, hw5⟩ : ∃ w5, w4.alloc (.cells #[.int .i64 um.id, .bool um.rs, .int .i64 um.op, .bool um.aa, .bool um.tc, .bool um.rd, .bool um.ra, .bool um.ad, .bool um.cd, .int .i64 um.rc, .slice x.qa um.qs.length x.qc, .slice x.na um.an.length x.nc, .slice x.ua um.au.length x.uc, .slice x.ra um.ar.length x.rc] 37) = w5 := ⟨_, rfl⟩
  rw [hw5] at hB5 hX5 hY5 ho5 hp5 ⊢
  rw [hY] at hY5 ⊢
  have CM := Lib.hid (messages_same q x um w5 ho5.rd hp5.rd HF.out.1)
  have HX5 := Lib.hid hX5; have HY5 := Lib.hid hY5; have HO5 := Lib.hid ho5; have HP5 := Lib.hid hp5; have HI5 := Lib.hid (In0.below HI4.out hB5 rfl); have HB5 := Lib.hid (HB4.out.trans (hB5.mono HB4.out.size))
  have hx := hX5.box; have hy := hY5.box
  have b0 := hx.c0; have b1 := hx.c1; have b2 := hx.c2; have b3 := hx.c3; have b4 := hx.c4; have b5 := hx.c5; have b6 := hx.c6; have b7 := hx.c7; have b8 := hx.c8; have b9 := hx.c9; have b10 := hx.c10; have b11 := hx.c11; have b12 := hx.c12; have b13 := hx.c13
  have c0 := hy.c0; have c1 := hy.c1; have c2 := hy.c2; have c3 := hy.c3; have c4 := hy.c4; have c5 := hy.c5; have c6 := hy.c6; have c7 := hy.c7; have c8 := hy.c8; have c9 := hy.c9; have c10 := hy.c10; have c11 := hy.c11; have c12 := hy.c12; have c13 := hy.c13
  clear hB5 hX5 hY5 ho5 hp5 hw5 hY hx hy HX4 HO4 HI4 HP4
  trace "4"
  go_wp2_with fail
  refine CM.out.mono ?_
  rintro e w6 ⟨rfl, hB6⟩
  have HX6 := Lib.hid (mcells HX5.out hB6); have HY6 := Lib.hid (mcells HY5.out hB6)
  have HO6 := Lib.hid (HO5.out.keep (w1 := w6) (fun k c t hj _ => (hB6.block k (blk_lt hj)).trans hj))
  have HP6 := Lib.hid (HP5.out.keep (w1 := w6) (fun k c t hj _ => (hB6.block k (blk_lt hj)).trans hj))
  have HI6 := Lib.hid (In0.below HI5.out hB6 rfl); have HB6 := Lib.hid (HB5.out.trans (hB6.mono HB5.out.size))
  have HZ6 := Lib.hid (show w5.heap.size ≤ w6.heap.size from hB6.size)
  have HXL := Lib.hid (show X < w6.heap.size from HX6.out.box.lt)
  have HYL := Lib.hid (show Y < w6.heap.size from HY6.out.box.lt)
  have hx := HX6.out.box
  clear b0 b1 b2 b3 b4 b5 b6 b7 b8 b9 b10 b11 b12 b13 c0 c1 c2 c3 c4 c5 c6 c7 c8 c9 c10 c11 c12 c13
  have b0 := hx.c0; have b1 := hx.c1; have b2 := hx.c2; have b3 := hx.c3; have b4 := hx.c4; have b5 := hx.c5; have b6 := hx.c6; have b7 := hx.c7; have b8 := hx.c8; have b9 := hx.c9; have b10 := hx.c10; have b11 := hx.c11; have b12 := hx.c12; have b13 := hx.c13
  clear hB6 hx CM HX5 HY5 HO5 HP5 HI5 HB5
  trace "5"
  go_wp2_with fail
  refine (CB.out w6 _ _ a1 c1 HI6.out HN1.out (In0.below HI.out HB6.out rfl)).mono ?_
  rintro e w6' ⟨rfl, rfl⟩
  have CK := Lib.hid (mark_any q um w1.heap.size w2.heap.size w6' HO6.out (fun ad e => (HO2.out.q.lt ad.block (by rw [ownB, e]; rfl)).2) (fun s hs' ad e => ((secN HO2.out hs').lt ad.block (by rw [ownB, e]; rfl)).2) (by have h1 := HO6.out; have h2 := HZ2.out; have h3 := HXX.out; have h4 := HXL.out; omega) HF.out.2.1 HF.out.2.2)
  trace "6"
  go_wp2_with fail
  refine CK.out.mono ?_
  rintro e w7 ⟨rfl, hE7⟩
  have hB7 : Below w1.heap.size w6' w7 := hE7.out (Nat.le_refl _) (by have h2 := HZ2.out; have h3 := HXX.out; have h4 := HXL.out; omega)
  have HX7 : Hid (MsgAt w7 X q um) := Lib.hid ((hE7.block X HXL.out (.inr (by rw [HXX.out]; exact Nat.le_refl _))).trans HX6.out)
  have HY7 : Hid (MsgAt w7 Y x um) := Lib.hid ((hE7.block Y HYL.out (.inr (by have h3 := HXX.out; have h4 := HZ3.out; have h5 := HZ4.out; have h6 := HYY.out; omega))).trans HY6.out)
  have HP7 := Lib.hid (Own4.between HP6.out hE7 (by have h3 := HXX.out; have h4 := HZ3.out; omega))
  have HI7 : Hid (In0 w7.heap.size w7 a1 b c1) := Lib.hid ⟨rfl, fun j c hc => by
    obtain ⟨g, o, h1, h2, h3⟩ := HI1.out.rd j c hc
    obtain ⟨g', o', h1', h2', h3'⟩ := HI6.out.rd j c hc
    rw [h1] at h1'; cases h1'
    exact ⟨g, o, h1, Nat.lt_of_lt_of_le h2' hB7.size, (hB7.cell (p := ⟨g, o + j, none⟩) h2).trans h3'⟩, HI1.out.le, HI1.out.cm⟩
  have HB7 := Lib.hid (HB6.out.trans (hB7.mono HB1Z.out))
  clear b0 b1 b2 b3 b4 b5 b6 b7 b8 b9 b10 b11 b12 b13
  clear hB7 hE7 HX6 HY6 HO6 HP6 HI6 HB6 CK CB CR HI
  trace "7"
  go_wp2_with fail
  refine (CU.out w7 a1 c1 HI7.out).mono ?_
  rintro e w8 ⟨q8, rfl, ho8, hB8⟩
  have HX8 := Lib.hid (mcells HX7.out hB8); have HY8 := Lib.hid (mcells HY7.out hB8)
  have HP8 := Lib.hid (HP7.out.keep (w1 := w8) (fun k c t hj _ => (hB8.block k (blk_lt hj)).trans hj))
  have HB8 := Lib.hid (HB7.out.trans (hB8.mono HB7.out.size)); have HO8 := Lib.hid ho8
  have hx := HX8.out.box
  have b0 := hx.c0; have b1 := hx.c1; have b2 := hx.c2; have b3 := hx.c3; have b4 := hx.c4; have b5 := hx.c5; have b6 := hx.c6; have b7 := hx.c7; have b8 := hx.c8; have b9 := hx.c9; have b10 := hx.c10; have b11 := hx.c11; have b12 := hx.c12; have b13 := hx.c13
  have hf := fun j => udoor.msg_frozen HX8.out j
  have f0 := hf 0; have f1 := hf 1; have f2 := hf 2; have f3 := hf 3; have f4 := hf 4; have f5 := hf 5; have f6 := hf 6; have f7 := hf 7; have f8 := hf 8; have f9 := hf 9; have f10 := hf 10; have f11 := hf 11; have f12 := hf 12; have f13 := hf 13
  clear hB8 ho8 hx hf HX7 HY7 HP7 HI7 HB7 CU
  trace "8"
  go_upto_region 7 with fail
  change Code.wp _ _ _ _ (putM w8 X q8 um)
  have hX9 := putM_blk q8 um HX8.out (by rfl)
  have hXY : Y ≠ X := by have h3 := HXX.out; have h4 := HZ3.out; have h5 := HZ4.out; have h6 := HYY.out; omega
  have hY9 : MsgAt (putM w8 X q8 um) Y x um := (putM_far q8 um hXY).trans HY8.out
  have hB9 := putM_below q8 um HB8.out (show w.heap.size ≤ X by have h3 := HXX.out; have h4 := HB2.out.size; omega)
  have hq9 : RdM (putM w8 X q8 um) q8 um := rd_put HO8.out HX8.out q8
  have hp9 : RdM (putM w8 X q8 um) x um := rd_put HP8.out HX8.out q8
  obtain ⟨w9, hw9⟩ : ∃ w9, putM w8 X q8 um = w9 := ⟨_, rfl⟩
  rw [hw9] at hX9 hY9 hB9 hq9 hp9 ⊢
  have CM := Lib.hid (messages_same q8 x um w9 hq9 hp9 HF.out.1)
  have HB9 := Lib.hid hB9
  clear b0 b1 b2 b3 b4 b5 b6 b7 b8 b9 b10 b11 b12 b13
  clear f0 f1 f2 f3 f4 f5 f6 f7 f8 f9 f10 f11 f12 f13
  have hx : MsgAt w9 X q8 um := hX9
  have hy := hY9.box
  have hx' := hx.box
  have b0 := hx'.c0; have b1 := hx'.c1; have b2 := hx'.c2; have b3 := hx'.c3; have b4 := hx'.c4; have b5 := hx'.c5; have b6 := hx'.c6; have b7 := hx'.c7; have b8 := hx'.c8; have b9 := hx'.c9; have b10 := hx'.c10; have b11 := hx'.c11; have b12 := hx'.c12; have b13 := hx'.c13
  have c0 := hy.c0; have c1 := hy.c1; have c2 := hy.c2; have c3 := hy.c3; have c4 := hy.c4; have c5 := hy.c5; have c6 := hy.c6; have c7 := hy.c7; have c8 := hy.c8; have c9 := hy.c9; have c10 := hy.c10; have c11 := hy.c11; have c12 := hy.c12; have c13 := hy.c13
  clear hX9 hY9 hB9 hq9 hp9 hw9 hx hy hx' HX8 HY8 HP8 HO8 HB8
  trace "9"
  go_wp2_with fail
  refine CM.out.mono ?_
  rintro e w10 ⟨rfl, hB10⟩
  have HB10 := Lib.hid (HB9.out.trans (hB10.mono HB9.out.size))
  clear hB10
  clear b0 b1 b2 b3 b4 b5 b6 b7 b8 b9 b10 b11 b12 b13 c0 c1 c2 c3 c4 c5 c6 c7 c8 c9 c10 c11 c12 c13
  go_wp2_with fail
  go_ret
  exact ⟨rfl, HB10.out⟩
end Go.Proofs.Ytabhiangjomaeaa.wireUnpacks

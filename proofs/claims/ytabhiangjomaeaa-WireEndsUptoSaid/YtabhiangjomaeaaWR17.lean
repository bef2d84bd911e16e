/- The law gazetteerlaw2.WireShort: walk. Unpacking in plain words. What is packed is unpacked: plain. -/
import Derived.Test.YtabhiangjomaeaaWR15
import Derived.Test.YtabhiangjomaeaaWR16
import Derived.Test.YtabhiangjomaeaaWR10
import Derived.Test.YtabhiangjomaeaaWR14
import Derived.Deep.RegionHeld3
namespace Go.Proofs.Ytabhiangjomaeaa.wireShort
open Go.RowKit Go.Proofs.Ytabhiangjomaeaa.kit Go.Proofs.Ytabhiangjomaeaa.timed Go.Proofs.Ytabhiangjomaeaa.nspec Go.Proofs.Ytabhiangjomaeaa.coded Go.Proofs.Ytabhiangjomaeaa.fld Go.Proofs.Ytabhiangjomaeaa.wireP Go.Proofs.Ytabhiangjomaeaa.wireM Go.Proofs.Ytabhiangjomaeaa.packP Go.Proofs.Ytabhiangjomaeaa.wpack Go.Proofs.Ytabhiangjomaeaa.rows Go.Proofs.Ytabhiangjomaeaa.shortP Go.Proofs.Ytabhiangjomaeaa.plainW Go.Proofs.Ytabhiangjomaeaa.stepA
set_option linter.unusedVariables false

theorem mcells {w : World} {b : Nat} {p : Pl} {m : Mg} {w' : World} (h : MsgAt w b p m) (hB : Below w.heap.size w w') : MsgAt w' b p m := h.below hB h.box.lt
theorem question_lit (w : World) : Calls Try.prog 24 #[] w fun e w' => ∃ P : Pl, e = .returned (.agg #[.int .i64 7, .bool false, .int .i64 0, .bool false, .bool false, .bool true, .bool false, .bool false, .bool false, .int .i64 0, .slice P.qa 1 P.qc, .slice P.na 0 P.nc, .slice P.ua 0 P.uc, .slice P.ra 0 P.rc]) ∧ RdM w' P qM ∧ Below w.heap.size w w' :=
  (question_any w).mono fun e w' ⟨P, h1, h2, h3⟩ => ⟨P, h1, h2, h3⟩
theorem qM_ok : OkW qM := by
  refine ⟨?_, ?_, ?_, ?_, ?_, ?_, ?_⟩ <;> first | (intro x hx; simp [qM] at hx) | (unfold maxLen; decide)
theorem pack_q (P : Pl) (w : World) (h : RdM w P qM) : Calls Try.prog 18 #[.agg #[.int .i64 7, .bool false, .int .i64 0, .bool false, .bool false, .bool true, .bool false, .bool false, .bool false, .int .i64 0, .slice P.qa 1 P.qc, .slice P.na 0 P.nc, .slice P.ua 0 P.uc, .slice P.ra 0 P.rc]] w fun e w' => ∃ a c, e = .returned (.tuple #[.slice a 24 c, .int .i64 0]) ∧ w'.ownsRow w.heap.size 5 1 (.slice a 24 c) 24 (Lib.byteCells (packS qM).1) ∧ Below w.heap.size w w' :=
  (wpack_any P qM w h qM_ok).mono fun e w' ⟨v, h1, h2, h3⟩ => by
    rw [qM_pack] at h1 h2
    obtain ⟨a, c, rfl⟩ := buf.own_slice1 h2
    exact ⟨a, c, h1, by rw [qM_pack]; exact h2, h3⟩
theorem plain_q (P : Pl) (w : World) (h : RdM w P qM) : Calls Try.prog 25 #[.agg #[.int .i64 7, .bool false, .int .i64 0, .bool false, .bool false, .bool true, .bool false, .bool false, .bool false, .int .i64 0, .slice P.qa 1 P.qc, .slice P.na 0 P.nc, .slice P.ua 0 P.uc, .slice P.ra 0 P.rc]] w fun e w' => e = .returned (.int .i64 24) ∧ Below w.heap.size w w' :=
  (plain_any P qM w h qM_check).mono fun e w' ⟨h1, h2⟩ => ⟨by rw [h1, qM_plain]; rfl, h2⟩
theorem recs_len : ∀ (L : List Rc) (q p : Pp), recsP L q = some p → p.out.length ≤ 65535
  | [], q, p, h => by
    simp only [recsP] at h
    split at h
    · cases h
    · cases h; omega
  | x :: L, q, p, h => by
    simp only [recsP] at h
    split at h
    · cases h
    · exact recs_len L _ p h
theorem pack_len (m : Mg) : (packS m).1.length ≤ 65535 := by
  unfold packS
  split
  · simp
  · cases h : packP m with
    | none => simp
    | some b =>
      unfold packP at h
      obtain ⟨q, hq, rfl⟩ := Option.map_eq_some_iff.1 h
      exact recs_len _ _ _ hq
theorem pack_chk {m : Mg} (h : (packS m).2 = 0 ∨ (packS m).2 = 12) : checkB m = true := by
  unfold packS at h
  by_cases hc : checkB m = false
  · rw [if_pos hc] at h; rcases h with h | h <;> simp at h
  · simpa using hc
theorem keep3 {w w' : World} {a13 a10 : Value} {g o : Nat} {s : ByteArray} {b : Nat} (h : w.cell? ⟨b, 13, none⟩ = some a13 ∧ w.cell? ⟨b, 10, none⟩ = some a10 ∧ w.cell? ⟨g, o, none⟩ = some (.string s)) (hb : b < w.heap.size) (hg : g < w.heap.size) (hB : Below w.heap.size w w') :
    w'.cell? ⟨b, 13, none⟩ = some a13 ∧ w'.cell? ⟨b, 10, none⟩ = some a10 ∧ w'.cell? ⟨g, o, none⟩ = some (.string s) :=
  ⟨(hB.cell (p := ⟨b, 13, none⟩) hb).trans h.1, (hB.cell (p := ⟨b, 10, none⟩) hb).trans h.2.1, (hB.cell (p := ⟨g, o, none⟩) hg).trans h.2.2⟩
theorem keepX {w : World} {a13 a10 v : Value} {g o X : Nat} {s : ByteArray} {b : Nat} (h : w.cell? ⟨b, 13, none⟩ = some a13 ∧ w.cell? ⟨b, 10, none⟩ = some a10 ∧ w.cell? ⟨g, o, none⟩ = some (.string s)) (hb : b < X) (hg : g < X) :
    (w.setCell ⟨X, 13, none⟩ v).cell? ⟨b, 13, none⟩ = some a13 ∧ (w.setCell ⟨X, 13, none⟩ v).cell? ⟨b, 10, none⟩ = some a10 ∧ (w.setCell ⟨X, 13, none⟩ v).cell? ⟨g, o, none⟩ = some (.string s) := by
  refine ⟨?_, ?_, ?_⟩
  · rw [World.cell?_setCell_other _ _ _ _ (by intro e; injection e with e _ _; omega)]; exact h.1
  · rw [World.cell?_setCell_other _ _ _ _ (by intro e; injection e with e _ _; omega)]; exact h.2.1
  · rw [World.cell?_setCell_other _ _ _ _ (by intro e; injection e with e _ _; omega)]; exact h.2.2
theorem msg_frozen {w : World} {b : Nat} {p : Pl} {m : Mg} (h : MsgAt w b p m) (j : Nat) : w.frozen? ⟨b, j, none⟩ = false := by
  unfold MsgAt at h; simp only [World.frozen?, h]; simp
theorem more_at {w2 : World} {X g3 cp3 nr : Nat} {p : Pl} {m : Mg} {n d : ByteArray} (hM : MsgAt w2 X p m) (hn : m.ar.length = nr) :
    MsgAt (w2.setCell ⟨X, 13, none⟩ (.slice (some ⟨g3, 0, none⟩) (nr + 1) cp3)) X ⟨p.qa, p.qc, p.na, p.nc, p.ua, p.uc, some ⟨g3, 0, none⟩, cp3⟩ (moreM m n d) := by
  have s1 := heap_setCell_same w2 X 13 _ _ (.slice (some ⟨g3, 0, none⟩) (nr + 1) cp3) hM
  unfold MsgAt
  rw [s1]
  subst hn
  simp [cellsM, moreM]
theorem more_rd {w w7 w2 : World} {X g3 cp3 nr : Nat} {p : Pl} {m : Mg} {n d : ByteArray} (hin : RdM w p m) (hn : m.ar.length = nr) (hM : MsgAt w2 X p m) (hX : w.heap.size ≤ X) (hB : Below w.heap.size w w2)
    (ho : w2.ownsRow w7.heap.size 52 5 (.slice (some ⟨g3, 0, none⟩) (nr + 1) cp3) (nr + 1) (m.ar.flatMap Rc.cells ++ (moreR n d).cells)) :
    RdM (w2.setCell ⟨X, 13, none⟩ (.slice (some ⟨g3, 0, none⟩) (nr + 1) cp3)) ⟨p.qa, p.qc, p.na, p.nc, p.ua, p.uc, some ⟨g3, 0, none⟩, cp3⟩ (moreM m n d) := by
  have hB2 : Below w.heap.size w (w2.setCell ⟨X, 13, none⟩ (.slice (some ⟨g3, 0, none⟩) (nr + 1) cp3)) := hB.setCell (p := ⟨X, 13, none⟩) hX _
  refine ⟨hin.q.below hB2 rfl, hin.n.below hB2 rfl, hin.u.below hB2 rfl, ?_⟩
  have ho2 : (w2.setCell ⟨X, 13, none⟩ (.slice (some ⟨g3, 0, none⟩) (nr + 1) cp3)).ownsRow w7.heap.size 52 5 (.slice (some ⟨g3, 0, none⟩) (nr + 1) cp3) (nr + 1) ((m.ar ++ [moreR n d]).flatMap Rc.cells) := by
    have e : (m.ar ++ [moreR n d]).flatMap Rc.cells = m.ar.flatMap Rc.cells ++ (moreR n d).cells := by simp
    rw [e]
    refine own_keptG ho (fun k cu hk => ?_)
    rw [Below.heap_setCell _ _ _ _ (by show k ≠ X; intro e; subst e; unfold MsgAt at hM; rw [hM] at hk; injection hk with hk; injection hk with _ h2 _; exact absurd h2 (by decide))]
    exact hk
  obtain ⟨a', c', e, _, _, _, h⟩ := rdc_own Rc.cells 5 (fun _ => rfl) (by simp [hn]) ho2
  cases e
  exact h
theorem more_ok {m : Mg} {n d : ByteArray} (h : OkW m) (hd : d.size ≤ 60000) (hl : m.ar.length ≤ 65535) : OkW (moreM m n d) := by
  refine ⟨h.n, h.u, ?_, h.ql, h.nl, h.ul, ?_⟩
  · intro y hy
    rcases List.mem_append.1 hy with h1 | h1
    · exact h.r y h1
    · simp at h1; subst h1; show d.size ≤ maxLen; unfold maxLen; omega
  · simp only [moreM, List.length_append, List.length_cons, List.length_nil]; unfold maxLen; omega
/-- what is known of a message handed in, whatever its size -/
structure AnyM (w : World) (p : Pl) (m : Mg) : Prop where
  rd : RdM w p m
  ok : OkW m
  rnil : p.ra = none → m.ar.length = 0 ∧ p.rc = 0

set_option maxRecDepth 100000 in
set_option maxHeartbeats 8000000 in
theorem law (p : Pl) (m : Mg) (d : ByteArray) (w : World) (hin : AnyM w p m) (hd : d.size ≤ maxLen) :
    Calls Try.prog 5 #[.agg (cellsM p m), .string d] w fun e w' => e = .returned (.bool true) ∧ Below w.heap.size w w' := by
  have hbel := (Below.refl w.heap.size w).alloc (Nat.le_refl _) (.cells (cellsM p m) 37)
  have hm0 : MsgAt (w.alloc (.cells (cellsM p m) 37)) w.heap.size p m := heap_alloc_new _ _
  have hcm : ∀ p m, cellsM p m = #[.int .i64 m.id, .bool m.rs, .int .i64 m.op, .bool m.aa, .bool m.tc, .bool m.rd, .bool m.ra, .bool m.ad, .bool m.cd, .int .i64 m.rc, .slice p.qa m.qs.length p.qc, .slice p.na m.an.length p.nc, .slice p.ua m.au.length p.uc, .slice p.ra m.ar.length p.rc] := fun p m => rfl
  rw [hcm] at hbel hm0
  rw [hcm]
  have HIN := Lib.hid hin; have HBEL := Lib.hid hbel; have HM0 := Lib.hid hm0
  have CP := Lib.hid (fun (wx : World) (hB : Below w.heap.size w wx) => wpack_any p m wx (hin.rd.below hB rfl) hin.ok)
  have HKI := Lib.hid (pack_kinds m); have HSH := Lib.hid (pack_short m)
  have HCK := Lib.hid (fun h => pack_chk (m := m) h)
  have CPL := Lib.hid (fun (wx : World) (hB : Below w.heap.size w wx) (hc : checkB m = true) => plain_any p m wx (hin.rd.below hB rfl) hc)
  obtain ⟨out, code, hpk⟩ : ∃ out code, packS m = (out, code) := ⟨_, _, rfl⟩
  simp only [hpk] at CP HKI HSH HCK
  have HPK := Lib.hid hpk
  obtain ⟨n, hn⟩ : ∃ n, out.length = n := ⟨_, rfl⟩
  obtain ⟨pl, hpl⟩ : ∃ pl, plainM m = pl := ⟨_, rfl⟩
  rw [hn] at CP HSH
  rw [hpl] at HSH CPL
  have HN := Lib.hid hn
  unfold maxLen at hd
  clear hin hbel hm0 hcm hpk hn hpl
  go_enter Try.func5, Try.ntmps5
  go_upto_region 1 with (fail)
  obtain ⟨w0, hw0⟩ : ∃ w0, w.alloc (.cells #[.int .i64 m.id, .bool m.rs, .int .i64 m.op, .bool m.aa, .bool m.tc, .bool m.rd, .bool m.ra, .bool m.ad, .bool m.cd, .int .i64 m.rc, .slice p.qa m.qs.length p.qc, .slice p.na m.an.length p.nc, .slice p.ua m.au.length p.uc, .slice p.ra m.ar.length p.rc] 37) = w0 := ⟨_, rfl⟩
  rw [hw0] at HBEL HM0 ⊢
  clear hw0
  go_wp2_with fail
  refine (question_lit _).mono ?_
  rintro e w1 ⟨P, rfl, hq1, hB1⟩
  have CQ := Lib.hid (pack_q P w1 hq1)
  have HM1 := Lib.hid (mcells HM0.out hB1); have HB1 := Lib.hid (HBEL.out.trans (hB1.mono HBEL.out.size))
  clear hq1 hB1
  go_wp2_with fail
  refine CQ.out.mono ?_
  rintro e w2 ⟨a2, c2, rfl, _, hB2⟩
  have HM2 := Lib.hid (mcells HM1.out hB2); have HB2 := Lib.hid (HB1.out.trans (hB2.mono HB1.out.size))
  clear hB2
  go_wp2_with fail
  refine (question_lit _).mono ?_
  rintro e w3 ⟨P3, rfl, hq3, hB3⟩
  have CQ3 := Lib.hid (plain_q P3 w3 hq3)
  have HM3 := Lib.hid (mcells HM2.out hB3); have HB3 := Lib.hid (HB2.out.trans (hB3.mono HB2.out.size))
  clear hq3 hB3
  go_wp2_with fail
  refine CQ3.out.mono ?_
  rintro e w4 ⟨rfl, hB4⟩
  have HM4 := Lib.hid (mcells HM3.out hB4); have HB4 := Lib.hid (HB3.out.trans (hB4.mono HB3.out.size))
  clear hB4
  have hx := HM4.out.box
  have b0 := hx.c0; have b1 := hx.c1; have b2 := hx.c2; have b3 := hx.c3; have b4 := hx.c4; have b5 := hx.c5; have b6 := hx.c6; have b7 := hx.c7; have b8 := hx.c8; have b9 := hx.c9; have b10 := hx.c10; have b11 := hx.c11; have b12 := hx.c12; have b13 := hx.c13
  clear hx
  go_wp2_with fail
  refine (CP.out w4 HB4.out).mono ?_
  rintro e w5 ⟨v5, rfl, ho5, hB5⟩
  have HM5 := Lib.hid (mcells HM4.out hB5); have HB5 := Lib.hid (HB4.out.trans (hB5.mono HB4.out.size))
  obtain ⟨a5, c5, rfl⟩ := buf.own_slice1 ho5
  clear ho5 hB5 b0 b1 b2 b3 b4 b5 b6 b7 b8 b9 b10 b11 b12 b13
  have hx := HM5.out.box
  have b0 := hx.c0; have b1 := hx.c1; have b2 := hx.c2; have b3 := hx.c3; have b4 := hx.c4; have b5 := hx.c5; have b6 := hx.c6; have b7 := hx.c7; have b8 := hx.c8; have b9 := hx.c9; have b10 := hx.c10; have b11 := hx.c11; have b12 := hx.c12; have b13 := hx.c13
  clear hx
  by_cases h12 : code = 12
  · subst h12
    have hpl := HSH.out.2 rfl
    have hplb : (65535 : Int) < (pl : Int) := by omega
    have CL := Lib.hid (CPL.out w5 HB5.out (HCK.out (.inr rfl)))
    clear hpl
    go_wp2_with fail
    refine CL.out.mono ?_
    rintro e w6 ⟨rfl, hB6⟩
    have HB6 := Lib.hid (HB5.out.trans (hB6.mono HB5.out.size))
    clear hB6
    go_wp2_with fail
    go_ret
    exact ⟨rfl, HB6.out⟩
  have e12 : (code == 12) = false := by simpa using h12
  by_cases h0 : code = 0
  · subst h0
    have hsh := HSH.out.1 rfl
    have hchk := HCK.out (.inl rfl)
    have CL := Lib.hid (CPL.out w5 HB5.out hchk)
    have hnpl : (n : Int) ≤ (pl : Int) := by omega
    clear h12 e12 hsh
    go_wp2_with fail
    refine CL.out.mono ?_
    rintro e w6 ⟨rfl, hB6⟩
    have HM6 := Lib.hid (mcells HM5.out hB6); have HB6 := Lib.hid (HB5.out.trans (hB6.mono HB5.out.size))
    clear hB6 b0 b1 b2 b3 b4 b5 b6 b7 b8 b9 b10 b11 b12 b13
    have b10 := HM6.out.box.c10
    cases hqs : m.qs with
    | nil =>
      rw [hqs] at b10
      have b10' : w6.cell? ⟨w.heap.size, 10, none⟩ = some (.slice p.qa 0 p.qc) := b10
      clear b10
      go_wp2_with fail
      go_ret
      exact ⟨rfl, HB6.out⟩
    | cons x L =>
      have hx0 : m.qs[0]? = some x := by rw [hqs]; rfl
      obtain ⟨g, o, hqa, hg, hat⟩ := at_q HIN.out.rd.q hx0
      obtain ⟨x0, x1, x2⟩ := hat.below HB6.out hg
      simp only [Nat.zero_mul, Nat.add_zero] at x0 x1 x2
      obtain ⟨nq, hnq⟩ : ∃ nq, m.qs.length = nq := ⟨_, rfl⟩
      have hnq0 : 0 < nq := by rw [← hnq, hqs]; simp
      rw [hqa, hnq] at b10
      have enq : ((nq : Int) == 0) = false := by rw [beq_eq_false_iff_ne]; omega
      have znq : (0 : Int) < (nq : Int) := by omega
      have znd : decide (0 < nq) = true := by simpa using hnq0
      have HQS := Lib.hid hqs; have HNQ := Lib.hid hnq; have HQA := Lib.hid hqa
      clear hat hx0 hqs hnq hqa
      by_cases hroot : x.n.data.toList = [0]
      · have er : (x.n.toList == [0]) = true := by rw [Lib.toList_data, hroot]; rfl
        clear hroot
        go_wp2_with fail
        go_ret
        exact ⟨rfl, HB6.out⟩
      have er : (x.n.toList == [0]) = false := by rw [Lib.toList_data]; simpa using hroot
      by_cases hbig : 60000 < d.size
      · have hbi : (60000 : Int) < (d.size : Int) := by omega
        clear hroot
        go_wp2_with fail
        go_ret
        exact ⟨rfl, HB6.out⟩
      have hbi : (d.size : Int) ≤ 60000 := by omega
      have hx := HM6.out.box
      have c0 := hx.c0; have c1 := hx.c1; have c2 := hx.c2; have c3 := hx.c3; have c4 := hx.c4; have c5 := hx.c5; have c6 := hx.c6; have c7 := hx.c7; have c8 := hx.c8; have c9 := hx.c9; have c10 := hx.c10; have c11 := hx.c11; have c12 := hx.c12; have c13 := hx.c13
      rw [HQA.out, HNQ.out] at c10
      have HR := Lib.hid (pack_more (by rw [HPK.out]) HQS.out hroot (by omega : d.size ≤ 60000))
      clear hx hroot b10
      obtain ⟨i0, hi, hz0, hz1, hz2⟩ := info_parts infoRec
      obtain ⟨nr, hnr⟩ : ∃ nr, m.ar.length = nr := ⟨_, rfl⟩
      have hnrb : nr ≤ 65535 := by
        rw [← hnr]
        have hc := hchk
        simp only [checkB, Bool.and_eq_true] at hc
        exact (of_decide_eq_true hc.2.2.2.1).2.2.2
      rw [hnr] at c13
      have HNR := Lib.hid hnr
      go_upto_region 14 with fail
      have hMx := heap_alloc_new w6 (.cells #[.int .i64 m.id, .bool m.rs, .int .i64 m.op, .bool m.aa, .bool m.tc, .bool m.rd, .bool m.ra, .bool m.ad, .bool m.cd, .int .i64 m.rc, .slice (some ⟨g, o, none⟩) nq p.qc, .slice p.na m.an.length p.nc, .slice p.ua m.au.length p.uc, .slice p.ra nr p.rc] 37)
      have hBx := (Below.refl w6.heap.size w6).alloc (Nat.le_refl _) (.cells #[.int .i64 m.id, .bool m.rs, .int .i64 m.op, .bool m.aa, .bool m.tc, .bool m.rd, .bool m.ra, .bool m.ad, .bool m.cd, .int .i64 m.rc, .slice (some ⟨g, o, none⟩) nq p.qc, .slice p.na m.an.length p.nc, .slice p.ua m.au.length p.uc, .slice p.ra nr p.rc] 37)
      have hMX : MsgAt (w6.alloc (.cells #[.int .i64 m.id, .bool m.rs, .int .i64 m.op, .bool m.aa, .bool m.tc, .bool m.rd, .bool m.ra, .bool m.ad, .bool m.cd, .int .i64 m.rc, .slice (some ⟨g, o, none⟩) nq p.qc, .slice p.na m.an.length p.nc, .slice p.ua m.au.length p.uc, .slice p.ra nr p.rc] 37)) w6.heap.size p m := by
        unfold MsgAt cellsM
        rw [HQA.out, HNQ.out, HNR.out]; exact hMx
      have hlx : w.heap.size < w6.heap.size := HM6.out.box.lt
      have hM7 := mcells HM6.out hBx
      have hgx : g < w6.heap.size := Nat.lt_of_lt_of_le hg HB6.out.size
      have hB7 := HB6.out.trans (hBx.mono HB6.out.size)
      have hX0 : (w6.alloc (.cells #[.int .i64 m.id, .bool m.rs, .int .i64 m.op, .bool m.aa, .bool m.tc, .bool m.rd, .bool m.ra, .bool m.ad, .bool m.cd, .int .i64 m.rc, .slice (some ⟨g, o, none⟩) nq p.qc, .slice p.na m.an.length p.nc, .slice p.ua m.au.length p.uc, .slice p.ra nr p.rc] 37)).cell? ⟨g, o, none⟩ = some (.string x.n) := (hBx.cell (p := ⟨g, o, none⟩) hgx).trans x0
      have hs7 : (w6.alloc (.cells #[.int .i64 m.id, .bool m.rs, .int .i64 m.op, .bool m.aa, .bool m.tc, .bool m.rd, .bool m.ra, .bool m.ad, .bool m.cd, .int .i64 m.rc, .slice (some ⟨g, o, none⟩) nq p.qc, .slice p.na m.an.length p.nc, .slice p.ua m.au.length p.uc, .slice p.ra nr p.rc] 37)).heap.size = w6.heap.size + 1 := by simp
      obtain ⟨w7, hw7⟩ : ∃ w7, w6.alloc (.cells #[.int .i64 m.id, .bool m.rs, .int .i64 m.op, .bool m.aa, .bool m.tc, .bool m.rd, .bool m.ra, .bool m.ad, .bool m.cd, .int .i64 m.rc, .slice (some ⟨g, o, none⟩) nq p.qc, .slice p.na m.an.length p.nc, .slice p.ua m.au.length p.uc, .slice p.ra nr p.rc] 37) = w7 := ⟨_, rfl⟩
      rw [hw7] at hMX hM7 hB7 hX0 hs7 ⊢
      obtain ⟨X, hX⟩ : ∃ X, w6.heap.size = X := ⟨_, rfl⟩
      rw [hX] at hMX hgx hs7 hlx ⊢
      have HMX := Lib.hid hMX; have HM7 := Lib.hid hM7; have HB7 := Lib.hid hB7
      have hx13 := hM7.box.c13; have hx10 := hM7.box.c10
      rw [HNR.out] at hx13
      rw [HQA.out, HNQ.out] at hx10
      have hXlt : X < w7.heap.size := by omega
      have hglt : g < w7.heap.size := by omega
      have hwlt : w.heap.size < w7.heap.size := by omega
      have HS0 := Lib.hid (⟨hx13, hx10, hX0⟩ : w7.cell? ⟨w.heap.size, 13, none⟩ = some (.slice p.ra nr p.rc) ∧ w7.cell? ⟨w.heap.size, 10, none⟩ = some (.slice (some ⟨g, o, none⟩) nq p.qc) ∧ w7.cell? ⟨g, o, none⟩ = some (.string x.n))
      have HSRC := Lib.hid (fun (wx : World) (hB : Below w.heap.size w wx) => (by have h := cells_rd Rc.cells 5 (by decide) (fun _ => rfl) (HIN.out.rd.r.below hB rfl) p.rc HIN.out.rnil; rw [HNR.out] at h; exact h : (p.ra = none ∧ nr = 0 ∧ p.rc = 0) ∨ ∃ ad, p.ra = some ad ∧ ∀ (j : Nat) (u : Value), (m.ar.flatMap Rc.cells)[j]? = some u → wx.cell? (ad.add j) = some u))
      have hBd : Below w7.heap.size w7 w7.drew := (Below.refl _ _).drew
      have hSd := keep3 HS0.out hwlt hglt hBd
      clear hMX hM7 hB7 hX0 hMx hBx hw7 c0 c1 c2 c3 c4 c5 c6 c7 c8 c9 c10 c11 c12 c13 hx13 hx10 x0 x1 x2 hg hnr
      go_region_held3 (fun w' => w'.cell? ⟨w.heap.size, 13, none⟩ = some (.slice p.ra nr p.rc) ∧ w'.cell? ⟨w.heap.size, 10, none⟩ = some (.slice (some ⟨g, o, none⟩) nq p.qc) ∧ w'.cell? ⟨g, o, none⟩ = some (.string x.n)) (first | assumption | exact keep3 HS0.out hwlt hglt (hBa.alloc hBa.size _) | exact keep3 HS0.out hwlt hglt (hBd.alloc (Nat.le_refl _) _) | exact keepX hS3 hlx hgx | (refine ⟨?_, ?_, ?_⟩ <;> assumption))
        (first
          | (refine step_append_src (by rfl) (.const (.slice none 0 0)) (.tmp 62) 35 (by rfl) w7.heap.size 52 i0 _ 5 56 Try.underlying35 hi hz0 hz1 hz2 (by rfl) (by decide) (.slice none 0 0) 0 [] (by simp [Act.eval]) (World.ownsRow_nil _ _ _ _) p.ra nr p.rc (m.ar.flatMap Rc.cells) (by simp [Act.eval]) (by rw [flat_len Rc.cells 5 (fun _ => rfl), HNR.out]) (HSRC.out _ (HB7.out.trans (Below.mono (B := w7.heap.size) (by first | exact hBd | exact hBd.alloc (Nat.le_refl _) _) HB7.out.size))) (one_cells rec_one) (by unfold maxLen; omega) (by omega) (by first | exact Nat.le_refl _ | simp) ?_
             intro v1 wa hown1 hgr1
             have hBa := below_append' (B := w7.heap.size) (w := w7) (by first | exact hBd | exact hBd.alloc (Nat.le_refl _) _) (by first | exact Nat.le_refl _ | simp) (World.ownsRow_nil _ w7.heap.size 52 5) hgr1
             have hSa := keep3 HS0.out hwlt hglt hBa
             have hown2 : wa.ownsRow w7.heap.size 52 5 v1 nr (m.ar.flatMap Rc.cells) := by simpa using hown1
             obtain ⟨a1, c1, rfl, _⟩ := rdc_own Rc.cells 5 (fun _ => rfl) HNR.out.symm hown2
             have HOW2 := Lib.hid hown2
             have HGR := Lib.hid hgr1
             clear hown1 hgr1 hown2)
          | (refine step_append_lies _ (by rfl) (.tmp 63) (.tmp 71) 35 (by rfl) w7.heap.size 52 i0 _ 5 56 Try.underlying35 hi hz0 hz1 hz2 (by rfl) (by decide) (.slice a1 nr c1) nr (m.ar.flatMap Rc.cells) (by simp [Act.eval]) (HOW2.out.alloc _) ⟨wa.heap.size, 0, none⟩ 1 1 (moreR x.n d).cells (by simp [Act.eval]) (by rfl) (World.news_of_block (heap_alloc_new _ _)) (rec_one _) (by decide) (by unfold maxLen; omega) (by omega) (by have := hBa.size; simp; omega) (wa.heap.size + 1) (by simp) ?_
             intro g3 cp3 w2 hown4 hgr4 hli4 hlt4
             have hB3 := below_append' (hBa.alloc hBa.size _) (by have := hBa.size; simp; omega) (HOW2.out.alloc _) hgr4
             have hS3 := keep3 HS0.out hwlt hglt hB3
             have hM3 := mcells HMX.out hB3
             have k13 := hM3.box.c13
             have f13 := msg_frozen hM3 13
             have hX3 : X < w2.heap.size := hM3.box.lt
             have HOW4 := Lib.hid hown4
             clear hown4 hgr4 hli4)
          | (refine step_append_lies _ (by rfl) (.tmp 63) (.tmp 71) 35 (by rfl) w7.heap.size 52 i0 _ 5 56 Try.underlying35 hi hz0 hz1 hz2 (by rfl) (by decide) (.slice a1 nr c1) nr (m.ar.flatMap Rc.cells) (by simp [Act.eval]) HOW2.out ⟨w7.heap.size, 0, none⟩ 1 1 (moreR x.n d).cells (by simp [Act.eval]) (by rfl) (World.news_of_block ((HGR.out.block w7.heap.size (by simp) (by simp [Value.ownBlock])).trans (heap_alloc_new w7.drew _))) (rec_one _) (by decide) (by unfold maxLen; omega) (by omega) hBa.size wa.heap.size rfl ?_
             intro g3 cp3 w2 hown4 hgr4 hli4 hlt4
             have hB3 := below_append' hBa hBa.size HOW2.out hgr4
             have hS3 := keep3 HS0.out hwlt hglt hB3
             have hM3 := mcells HMX.out hB3
             have k13 := hM3.box.c13
             have f13 := msg_frozen hM3 13
             have hX3 : X < w2.heap.size := hM3.box.lt
             have HOW4 := Lib.hid hown4
             clear hown4 hgr4 hli4))
      all_goals
        have hBf : Below w.heap.size w w2 := HB7.out.trans (hB3.mono HB7.out.size)
        have HMf := Lib.hid (more_at (g3 := g3) (cp3 := cp3) (n := x.n) (d := d) hM3 HNR.out)
        have HRf := Lib.hid (more_rd (n := x.n) (d := d) HIN.out.rd HNR.out hM3 (Nat.le_of_lt hlx) hBf HOW4.out)
        have HBf := Lib.hid (hBf.setCell (p := ⟨X, 13, none⟩) (Nat.le_of_lt hlx) (.slice (some ⟨g3, 0, none⟩) (nr + 1) cp3))
        obtain ⟨W, hW⟩ : ∃ W, w2.setCell ⟨X, 13, none⟩ (.slice (some ⟨g3, 0, none⟩) (nr + 1) cp3) = W := ⟨_, rfl⟩
        rw [hW] at HMf HRf HBf ⊢
        have CF := Lib.hid (wpack_any _ (moreM m x.n d) W HRf.out (more_ok HIN.out.ok (by omega) (by rw [HNR.out]; exact hnrb)))
        obtain ⟨out', code', hpk'⟩ : ∃ out code, packS (moreM m x.n d) = (out, code) := ⟨_, _, rfl⟩
        have HR2 := HR.out
        simp only [hpk', HPK.out] at CF HR2
        obtain ⟨n', hn'⟩ : ∃ n, out'.length = n := ⟨_, rfl⟩
        rw [hn'] at CF HR2
        rw [HN.out, HNR.out] at HR2
        have hx := HMf.out.box
        have c0 := hx.c0; have c1 := hx.c1; have c2 := hx.c2; have c3 := hx.c3; have c4 := hx.c4; have c5 := hx.c5; have c6 := hx.c6; have c7 := hx.c7; have c8 := hx.c8; have c9 := hx.c9; have c10 := hx.c10; have c11 := hx.c11; have c12 := hx.c12; have c13 := hx.c13
        have hl' : (moreM m x.n d).ar.length = nr + 1 := by simp [moreM, HNR.out]
        obtain ⟨nr1, hnr1⟩ : ∃ nr1, nr + 1 = nr1 := ⟨_, rfl⟩
        rw [hl'] at c13 CF
        rw [hnr1] at c13 CF HR2
        dsimp only [moreM] at c0 c1 c2 c3 c4 c5 c6 c7 c8 c9 c10 c11 c12 c13
        have HR3 := Lib.hid HR2
        have HX3 := Lib.hid (HMf.out)
        clear hx hW hBf hB3 hS3 hM3 k13 f13 hX3 HOW4 HR2 hn' hpk' hl' hBa hSa HOW2 HGR
        go_wp2_with fail
        refine CF.out.mono ?_
        rintro e w8 ⟨v8, rfl, ho8, hB8⟩
        obtain ⟨a8, cc8, rfl⟩ := buf.own_slice1 ho8
        have HB8 := Lib.hid (HBf.out.trans (hB8.mono HBf.out.size))
        have k13 := (mcells HX3.out hB8).box.c13
        have hk13 : (moreM m x.n d).ar.length = nr1 := by rw [← hnr1]; simp [moreM, HNR.out]
        rw [hk13] at k13
        dsimp only at k13
        clear ho8 hB8 hk13 hnr1 c0 c1 c2 c3 c4 c5 c6 c7 c8 c9 c10 c11 c12 c13
        rcases HR3.out with ⟨rfl, hl⟩ | ⟨rfl, hl⟩ | ⟨rfl, hl⟩
        · have hres : ((n' : Int) == (n : Int) + 12 + (d.size : Int)) = true := by rw [beq_iff_eq]; omega
          have hnb : n ≤ 65535 := by
            have h : out.length ≤ 65535 := by have h := pack_len m; rw [HPK.out] at h; exact h
            rw [HN.out] at h; exact h
          clear hl
          go_wp2_with fail
          go_ret
          exact ⟨by first | rfl | simp [hres], HB8.out⟩
        · have hres : (65535 : Int) < (n : Int) + 12 + (d.size : Int) := by omega
          have hnb : n ≤ 65535 := by
            have h : out.length ≤ 65535 := by have h := pack_len m; rw [HPK.out] at h; exact h
            rw [HN.out] at h; exact h
          clear hl
          go_wp2_with fail
          go_ret
          exact ⟨rfl, HB8.out⟩
        · have hres : (65535 : Int) < (nr1 : Int) := by omega
          clear hl
          go_wp2_with fail
          go_ret
          exact ⟨rfl, HB8.out⟩
  · have hnil : n = 0 := by
      rcases HKI.out with h | ⟨h, _⟩
      · exact absurd h h0
      · have h1 := HN.out; rw [h] at h1; simpa using h1.symm
    subst hnil
    have e0 : (code != 0) = true := by simpa using h0
    clear h12 h0
    go_wp2_with fail
    go_ret
    exact ⟨rfl, HB5.out⟩
end Go.Proofs.Ytabhiangjomaeaa.wireShort
namespace Go.Proofs.Ytabhiangjomaeaa.unpP
open Go.RowKit Go.Proofs.Ytabhiangjomaeaa.kit Go.Proofs.Ytabhiangjomaeaa.nspec Go.Proofs.Ytabhiangjomaeaa.rsplit Go.Proofs.Ytabhiangjomaeaa.check Go.Proofs.Ytabhiangjomaeaa.fld Go.Proofs.Ytabhiangjomaeaa.wireP Go.Proofs.Ytabhiangjomaeaa.wireM Go.Proofs.Ytabhiangjomaeaa.packP
set_option linter.unusedVariables false

def atB (b : Bs) (k : Nat) : Nat := (b.getD k 0).toNat
theorem atB_lt (b : Bs) (k : Nat) : atB b k < 256 := (b.getD k 0).toNat_lt
def cutB (b : Bs) (i j : Nat) : Bs := (b.drop i).take (j - i)
/-- a fault, or what was read and where it goes on -/
inductive Got (α : Type) where
  | bad (e : Int)
  | ok (x : α) (k : Nat)
/-- a name that may be short, from a place on -/
def nameU : Nat → Bs → Nat → Nat → Nat → Int → Nat → Got Bs
  | 0, _, _, _, _, _, _ => .bad 0
  | f + 1, b, at', start, lim, over, had =>
    if lim ≤ at' then .bad over
    else if atB b at' = 0 then .ok [0] (at' + 1)
    else if atB b at' < 64 then
      if lim < at' + 1 + atB b at' then .bad over
      else if 255 < had + 1 + atB b at' + 1 then .bad 4
      else match nameU f b (at' + 1 + atB b at') start lim over (had + 1 + atB b at') with
        | .bad e => .bad e
        | .ok r k => .ok (cutB b at' (at' + 1 + atB b at') ++ r) k
    else if atB b at' < 192 then .bad 9
    else if lim < at' + 2 then .bad over
    else if start ≤ (atB b at' - 192) * 256 + atB b (at' + 1) then .bad 9
    else match nameU f b ((atB b at' - 192) * 256 + atB b (at' + 1)) ((atB b at' - 192) * 256 + atB b (at' + 1)) b.length 10 had with
      | .bad e => .bad e
      | .ok r _ => .ok r (at' + 2)
/-- how much is left to read: labels, and places further ahead -/
def leftU (start had : Nat) : Nat := (256 - had) + start + 1
theorem nameU_fuel : ∀ (f g : Nat) (b : Bs) (k start lim : Nat) (over : Int) (had : Nat), had ≤ 255 → leftU start had < f → leftU start had < g → nameU f b k start lim over had = nameU g b k start lim over had
  | 0, _, _, _, _, _, _, _, _, h, _ => by omega
  | _, 0, _, _, _, _, _, _, _, _, h => by omega
  | f + 1, g + 1, b, k, start, lim, over, had, h0, h1, h2 => by
    simp only [nameU]
    unfold leftU at h1 h2
    by_cases c1 : lim ≤ k
    · rw [if_pos c1, if_pos c1]
    rw [if_neg c1, if_neg c1]
    by_cases c2 : atB b k = 0
    · rw [if_pos c2, if_pos c2]
    rw [if_neg c2, if_neg c2]
    by_cases c3 : atB b k < 64
    · rw [if_pos c3, if_pos c3]
      by_cases c4 : lim < k + 1 + atB b k
      · rw [if_pos c4, if_pos c4]
      rw [if_neg c4, if_neg c4]
      by_cases c5 : 255 < had + 1 + atB b k + 1
      · rw [if_pos c5, if_pos c5]
      rw [if_neg c5, if_neg c5]
      rw [nameU_fuel f g b _ start lim over _ (by omega) (by unfold leftU; omega) (by unfold leftU; omega)]
    rw [if_neg c3, if_neg c3]
    by_cases c6 : atB b k < 192
    · rw [if_pos c6, if_pos c6]
    rw [if_neg c6, if_neg c6]
    by_cases c7 : lim < k + 2
    · rw [if_pos c7, if_pos c7]
    rw [if_neg c7, if_neg c7]
    by_cases c8 : start ≤ (atB b k - 192) * 256 + atB b (k + 1)
    · rw [if_pos c8, if_pos c8]
    rw [if_neg c8, if_neg c8]
    rw [nameU_fuel f g b _ _ b.length 10 had h0 (by unfold leftU; omega) (by unfold leftU; omega)]
def nameR (b : Bs) (k start lim : Nat) (over : Int) (had : Nat) : Got Bs := nameU (leftU start had + 1) b k start lim over had
/-- one step -/
theorem nameR_step (b : Bs) (k start lim : Nat) (over : Int) (had : Nat) (h0 : had ≤ 255) : nameR b k start lim over had =
    if lim ≤ k then .bad over
    else if atB b k = 0 then .ok [0] (k + 1)
    else if atB b k < 64 then
      if lim < k + 1 + atB b k then .bad over
      else if 255 < had + 1 + atB b k + 1 then .bad 4
      else match nameR b (k + 1 + atB b k) start lim over (had + 1 + atB b k) with
        | .bad e => .bad e
        | .ok r j => .ok (cutB b k (k + 1 + atB b k) ++ r) j
    else if atB b k < 192 then .bad 9
    else if lim < k + 2 then .bad over
    else if start ≤ (atB b k - 192) * 256 + atB b (k + 1) then .bad 9
    else match nameR b ((atB b k - 192) * 256 + atB b (k + 1)) ((atB b k - 192) * 256 + atB b (k + 1)) b.length 10 had with
      | .bad e => .bad e
      | .ok r _ => .ok r (k + 2) := by
  unfold nameR
  conv => lhs; simp only [nameU]
  by_cases c1 : lim ≤ k
  · rw [if_pos c1, if_pos c1]
  rw [if_neg c1, if_neg c1]
  by_cases c2 : atB b k = 0
  · rw [if_pos c2, if_pos c2]
  rw [if_neg c2, if_neg c2]
  by_cases c3 : atB b k < 64
  · rw [if_pos c3, if_pos c3]
    by_cases c4 : lim < k + 1 + atB b k
    · rw [if_pos c4, if_pos c4]
    rw [if_neg c4, if_neg c4]
    by_cases c5 : 255 < had + 1 + atB b k + 1
    · rw [if_pos c5, if_pos c5]
    rw [if_neg c5, if_neg c5]
    rw [nameU_fuel (leftU start had) (leftU start (had + 1 + atB b k) + 1) b _ start lim over _ (by omega) (by unfold leftU; omega) (by omega)]
  rw [if_neg c3, if_neg c3]
  by_cases c6 : atB b k < 192
  · rw [if_pos c6, if_pos c6]
  rw [if_neg c6, if_neg c6]
  by_cases c7 : lim < k + 2
  · rw [if_pos c7, if_pos c7]
  rw [if_neg c7, if_neg c7]
  by_cases c8 : start ≤ (atB b k - 192) * 256 + atB b (k + 1)
  · rw [if_pos c8, if_pos c8]
  rw [if_neg c8, if_neg c8]
  rw [nameU_fuel (leftU start had) (leftU ((atB b k - 192) * 256 + atB b (k + 1)) had + 1) b _ _ b.length 10 had h0 (by unfold leftU; omega) (by omega)]
theorem cut_len (b : Bs) (i j : Nat) (h : i ≤ j) (hj : j ≤ b.length) : (cutB b i j).length = j - i := by
  unfold cutB; rw [List.length_take, List.length_drop]; omega
theorem cut_head (b : Bs) (k n : Nat) (hk : k < b.length) : cutB b k (k + 1 + n) = b.getD k 0 :: cutB b (k + 1) (k + 1 + n) := by
  unfold cutB
  rw [List.drop_eq_getElem_cons hk, show k + 1 + n - k = n + 1 by omega, List.take_succ_cons, show k + 1 + n - (k + 1) = n by omega]
  rw [List.getD_eq_getElem?_getD, List.getElem?_eq_getElem hk]; rfl
/-- what is read is a name -/
theorem nameU_is : ∀ (f : Nat) (b : Bs) (k start lim : Nat) (over : Int) (had : Nat) (s : Bs) (j : Nat), had + 1 ≤ 255 → lim ≤ b.length → nameU f b k start lim over had = .ok s j → ∃ ls, s = put ls ∧ okL ls ∧ had + s.length ≤ 255
  | 0, b, k, start, lim, over, had, s, j, _, _, h => by simp [nameU] at h
  | f + 1, b, k, start, lim, over, had, s, j, h0, hl, h => by
    simp only [nameU] at h
    by_cases c1 : lim ≤ k
    · rw [if_pos c1] at h; cases h
    rw [if_neg c1] at h
    by_cases c2 : atB b k = 0
    · rw [if_pos c2] at h; cases h
      exact ⟨[], rfl, by simp [okL], by simpa using h0⟩
    rw [if_neg c2] at h
    by_cases c3 : atB b k < 64
    · rw [if_pos c3] at h
      by_cases c4 : lim < k + 1 + atB b k
      · rw [if_pos c4] at h; cases h
      rw [if_neg c4] at h
      by_cases c5 : 255 < had + 1 + atB b k + 1
      · rw [if_pos c5] at h; cases h
      rw [if_neg c5] at h
      cases hr : nameU f b (k + 1 + atB b k) start lim over (had + 1 + atB b k) with
      | bad e => rw [hr] at h; cases h
      | ok r j' =>
        rw [hr] at h; cases h
        obtain ⟨ls, h1, h2, h3⟩ := nameU_is f b _ start lim over _ r j (by omega) hl hr
        have hlen : (cutB b (k + 1) (k + 1 + atB b k)).length = atB b k := by rw [cut_len b _ _ (by omega) (by omega)]; omega
        refine ⟨cutB b (k + 1) (k + 1 + atB b k) :: ls, ?_, okL_cons.2 ⟨by rw [hlen]; omega, h2⟩, ?_⟩
        · rw [cut_head b k _ (by omega), h1]
          simp only [put, hlen, List.cons_append]
          congr 1
          show b.getD k 0 = UInt8.ofNat (atB b k)
          unfold atB; simp
        · rw [List.length_append, cut_len b _ _ (by omega) (by omega)]; omega
    rw [if_neg c3] at h
    by_cases c6 : atB b k < 192
    · rw [if_pos c6] at h; cases h
    rw [if_neg c6] at h
    by_cases c7 : lim < k + 2
    · rw [if_pos c7] at h; cases h
    rw [if_neg c7] at h
    by_cases c8 : start ≤ (atB b k - 192) * 256 + atB b (k + 1)
    · rw [if_pos c8] at h; cases h
    rw [if_neg c8] at h
    cases hr : nameU f b ((atB b k - 192) * 256 + atB b (k + 1)) ((atB b k - 192) * 256 + atB b (k + 1)) b.length 10 had with
    | bad e => rw [hr] at h; cases h
    | ok r j' =>
      rw [hr] at h; cases h
      exact nameU_is f b _ _ b.length 10 had s j' h0 (Nat.le_refl _) hr
/-- where it goes on -/
theorem nameU_next : ∀ (f : Nat) (b : Bs) (k start lim : Nat) (over : Int) (had : Nat) (s : Bs) (j : Nat), nameU f b k start lim over had = .ok s j → k < j ∧ j ≤ lim
  | 0, b, k, start, lim, over, had, s, j, h => by simp [nameU] at h
  | f + 1, b, k, start, lim, over, had, s, j, h => by
    simp only [nameU] at h
    by_cases c1 : lim ≤ k
    · rw [if_pos c1] at h; cases h
    rw [if_neg c1] at h
    by_cases c2 : atB b k = 0
    · rw [if_pos c2] at h; cases h; omega
    rw [if_neg c2] at h
    by_cases c3 : atB b k < 64
    · rw [if_pos c3] at h
      by_cases c4 : lim < k + 1 + atB b k
      · rw [if_pos c4] at h; cases h
      rw [if_neg c4] at h
      by_cases c5 : 255 < had + 1 + atB b k + 1
      · rw [if_pos c5] at h; cases h
      rw [if_neg c5] at h
      cases hr : nameU f b (k + 1 + atB b k) start lim over (had + 1 + atB b k) with
      | bad e => rw [hr] at h; cases h
      | ok r j' =>
        rw [hr] at h; cases h
        have := nameU_next f b _ start lim over _ r j hr
        omega
    rw [if_neg c3] at h
    by_cases c6 : atB b k < 192
    · rw [if_pos c6] at h; cases h
    rw [if_neg c6] at h
    by_cases c7 : lim < k + 2
    · rw [if_pos c7] at h; cases h
    rw [if_neg c7] at h
    by_cases c8 : start ≤ (atB b k - 192) * 256 + atB b (k + 1)
    · rw [if_pos c8] at h; cases h
    rw [if_neg c8] at h
    cases hr : nameU f b ((atB b k - 192) * 256 + atB b (k + 1)) ((atB b k - 192) * 256 + atB b (k + 1)) b.length 10 had with
    | bad e => rw [hr] at h; cases h
    | ok r j' => rw [hr] at h; cases h; omega
/-- a name from a place on -/
def nameAt (b : Bs) (k lim : Nat) (over : Int) : Got Bs := nameR b k k lim over 0
def num2 (b : Bs) (k : Nat) : Nat := atB b k * 256 + atB b (k + 1)
def num4 (b : Bs) (k : Nat) : Nat := num2 b k * 65536 + num2 b (k + 2)
/-- data field by field: names made whole -/
def dataU : List (Option Nat) → Bs → Nat → Nat → Bs → Got Bs
  | [], b, k, lim, acc => if k = lim then .ok acc lim else .bad 7
  | none :: fs, b, k, lim, acc => match nameAt b k lim 7 with
    | .bad e => .bad e
    | .ok s j => dataU fs b j lim (acc ++ s)
  | some n :: fs, b, k, lim, acc => if lim < k + n then .bad 7 else dataU fs b (k + n) lim (acc ++ cutB b k (k + n))
def mkB (l : Bs) : ByteArray := ⟨l.toArray⟩
/-- a record from a place on -/
def recU (b : Bs) (k : Nat) : Got Rc :=
  match nameAt b k b.length 10 with
  | .bad e => .bad e
  | .ok o j =>
    if b.length < j + 10 then .bad 10
    else if b.length < j + 10 + num2 b (j + 8) then .bad 10
    else match (if num2 b (j + 8) = 0 ∨ shortL (num2 b j) = [] then Got.ok (cutB b (j + 10) (j + 10 + num2 b (j + 8))) 0 else dataU (shortL (num2 b j)) b (j + 10) (j + 10 + num2 b (j + 8)) []) with
      | .bad e => .bad e
      | .ok d _ =>
        if rightB ⟨mkB o, num2 b j, num2 b (j + 2), num4 b (j + 4), mkB d⟩ = true then .ok ⟨mkB o, num2 b j, num2 b (j + 2), num4 b (j + 4), mkB d⟩ (j + 10 + num2 b (j + 8)) else .bad 7
/-- a question from a place on -/
def quesU (b : Bs) (k : Nat) : Got Qn :=
  match nameAt b k b.length 10 with
  | .bad e => .bad e
  | .ok o j => if b.length < j + 4 then .bad 10 else .ok ⟨mkB o, num2 b j, num2 b (j + 2)⟩ (j + 4)
/-- so many things from a place on: the fault, and where it stands -/
inductive Many (α : Type) where
  | bad (e : Int) (k : Nat)
  | ok (l : List α) (k : Nat)
def manyU {α : Type} (f : Nat → Got α) : Nat → Nat → Many α
  | 0, k => .ok [] k
  | n + 1, k => match f k with
    | .bad e => .bad e k
    | .ok x j => match manyU f n j with
      | .bad e i => .bad e i
      | .ok l i => .ok (x :: l) i
def noM : Mg := ⟨0, false, 0, false, false, false, false, false, false, 0, [], [], [], []⟩
def signB (v k : Nat) : Bool := decide (v / 2 ^ k % 2 = 1)
/-- a message out of bytes, where its fault stands, and the fault -/
def unpackS (b : Bs) : Mg × Nat × Int :=
  if 65535 < b.length then (noM, 0, 12)
  else if b.length < 12 then (noM, b.length, 10)
  else if atB b 3 / 64 % 2 = 1 then (noM, 2, 8)
  else match manyU (quesU b) (num2 b 4) 12 with
    | .bad e k => (noM, k, e)
    | .ok qs k0 => match manyU (recU b) (num2 b 6) k0 with
      | .bad e k => (noM, k, e)
      | .ok an k1 => match manyU (recU b) (num2 b 8) k1 with
        | .bad e k => (noM, k, e)
        | .ok au k2 => match manyU (recU b) (num2 b 10) k2 with
          | .bad e k => (noM, k, e)
          | .ok ar k3 =>
            if k3 < b.length then (noM, k3, 11)
            else (⟨num2 b 0, signB (num2 b 2) 15, num2 b 2 / 2048 % 16, signB (num2 b 2) 10, signB (num2 b 2) 9, signB (num2 b 2) 8, signB (num2 b 2) 7, signB (num2 b 2) 5, signB (num2 b 2) 4, num2 b 2 % 16, qs, an, au, ar⟩, 0, 0)
end Go.Proofs.Ytabhiangjomaeaa.unpP
namespace Go.Proofs.Ytabhiangjomaeaa.roundU
open Go.Proofs.Ytabhiangjomaeaa.kit Go.Proofs.Ytabhiangjomaeaa.nspec Go.Proofs.Ytabhiangjomaeaa.rsplit Go.Proofs.Ytabhiangjomaeaa.check Go.Proofs.Ytabhiangjomaeaa.fld Go.Proofs.Ytabhiangjomaeaa.wireP Go.Proofs.Ytabhiangjomaeaa.wireM Go.Proofs.Ytabhiangjomaeaa.packP Go.Proofs.Ytabhiangjomaeaa.psmall Go.Proofs.Ytabhiangjomaeaa.fits Go.Proofs.Ytabhiangjomaeaa.pdata Go.Proofs.Ytabhiangjomaeaa.wpack Go.Proofs.Ytabhiangjomaeaa.unpP Go.Proofs.Ytabhiangjomaeaa.shortP
set_option linter.unusedVariables false

theorem atB_app {b : Bs} (t : Bs) {k : Nat} (h : k < b.length) : atB (b ++ t) k = atB b k := by
  unfold atB; rw [List.getD_eq_getElem?_getD, List.getD_eq_getElem?_getD, List.getElem?_append_left h]
theorem atB_more (b t : Bs) (i : Nat) : atB (b ++ t) (b.length + i) = atB t i := by
  unfold atB; rw [List.getD_eq_getElem?_getD, List.getD_eq_getElem?_getD, List.getElem?_append_right (by omega), show b.length + i - b.length = i by omega]
theorem cutB_app {b : Bs} (t : Bs) {i j : Nat} (h : j ≤ b.length) : cutB (b ++ t) i j = cutB b i j := by
  unfold cutB
  by_cases hi : i ≤ b.length
  · rw [List.drop_append_of_le_length hi, List.take_append_of_le_length (by rw [List.length_drop]; omega)]
  · rw [show j - i = 0 by omega]; simp
theorem cutB_more (b t : Bs) (i j : Nat) : cutB (b ++ t) (b.length + i) (b.length + j) = cutB t i j := by
  unfold cutB
  rw [show b.length + j - (b.length + i) = j - i by omega, show b.length + i = b.length + i from rfl, List.drop_append, List.drop_eq_nil_of_le (by omega), show b.length + i - b.length = i by omega, List.nil_append]
/-- labels that stand in bytes from a place on: the part that is read first began at s and ends ahead of j -/
inductive Stands (b : Bs) : Nat → Nat → List Bs → Nat → Prop
  | done (k s : Nat) : k < b.length → atB b k = 0 → Stands b k s [] (k + 1)
  | more (k s : Nat) (x : Bs) (r : List Bs) (j : Nat) : 1 ≤ x.length → x.length ≤ 63 → k + 1 + x.length ≤ b.length → atB b k = x.length → cutB b k (k + 1 + x.length) = UInt8.ofNat x.length :: x → Stands b (k + 1 + x.length) s r j → Stands b k s (x :: r) j
  | point (k s : Nat) (ls : List Bs) (T j : Nat) : k + 2 ≤ b.length → 192 ≤ atB b k → T = (atB b k - 192) * 256 + atB b (k + 1) → T < s → Stands b T T ls j → Stands b k s ls (k + 2)
theorem Stands.le {b : Bs} {k s : Nat} {ls : List Bs} {j : Nat} (h : Stands b k s ls j) : k < j ∧ j ≤ b.length := by
  induction h with
  | done k s h0 h1 => omega
  | more k s x r j h0 h1 h2 h3 h4 h5 ih => omega
  | point k s ls T j h0 h1 h2 h3 h4 ih => omega
theorem Stands.app {b : Bs} {k s : Nat} {ls : List Bs} {j : Nat} (h : Stands b k s ls j) (t : Bs) : Stands (b ++ t) k s ls j := by
  induction h with
  | done k s h0 h1 => exact .done k s (by rw [List.length_append]; omega) (by rw [atB_app t h0]; exact h1)
  | more k s x r j h0 h1 h2 h3 h4 h5 ih => exact .more k s x r j h0 h1 (by rw [List.length_append]; omega) (by rw [atB_app t (by omega)]; exact h3) (by rw [cutB_app t h2]; exact h4) ih
  | point k s ls T j h0 h1 h2 h3 h4 ih => exact .point k s ls T j (by rw [List.length_append]; omega) (by rw [atB_app t (by omega)]; exact h1) (by rw [atB_app t (by omega), atB_app t (by omega)]; exact h2) h3 ih
theorem Stands.start {b : Bs} {k s : Nat} {ls : List Bs} {j : Nat} (h : Stands b k s ls j) : ∀ s', s ≤ s' → Stands b k s' ls j := by
  induction h with
  | done k s h0 h1 => exact fun s' hs => .done k s' h0 h1
  | more k s x r j h0 h1 h2 h3 h4 h5 ih => exact fun s' hs => .more k s' x r j h0 h1 h2 h3 h4 (ih s' hs)
  | point k s ls T j h0 h1 h2 h3 h4 ih => exact fun s' hs => .point k s' ls T j h0 h1 h2 (by omega) h4
/-- it is read -/
theorem Stands.read {b : Bs} {k s : Nat} {ls : List Bs} {j : Nat} (h : Stands b k s ls j) : ∀ (lim : Nat) (over : Int) (had : Nat), j ≤ lim → lim ≤ b.length → had + (put ls).length ≤ 255 → nameR b k s lim over had = .ok (put ls) j := by
  induction h with
  | done k s h0 h1 =>
    intro lim over had hj hl hh
    rw [nameR_step b k s lim over had (by omega), if_neg (by omega), if_pos h1]; rfl
  | more k s x r j h0 h1 h2 h3 h4 h5 ih =>
    intro lim over had hj hl hh
    have h6 := h5.le
    have h7 := put_cons_len x r
    have h8 := put_len_pos r
    rw [nameR_step b k s lim over had (by omega), if_neg (by omega), h3, if_neg (by omega), if_pos (by omega), if_neg (by omega), if_neg (by omega), ih lim over (had + 1 + x.length) hj hl (by omega), h4]
    rfl
  | point k s ls T j h0 h1 h2 h3 h4 ih =>
    intro lim over had hj hl hh
    have h6 := h4.le
    rw [nameR_step b k s lim over had (by omega), if_neg (by omega), if_neg (by omega), if_neg (by omega), if_neg (by omega), if_neg (by omega), ← h2, if_neg (by omega), ih b.length 10 had h6.2 (Nat.le_refl _) hh]
theorem take_len {b : Bs} {c : Nat} (h : c ≤ b.length) : (b.take c).length = c := by rw [List.length_take]; omega
theorem atB_take {b : Bs} {c k : Nat} (h : k < c) : atB (b.take c) k = atB b k := by
  unfold atB; rw [List.getD_eq_getElem?_getD, List.getD_eq_getElem?_getD, List.getElem?_take, if_pos h]
/-- cut within it: the bytes end -/
theorem Stands.cut {b : Bs} {k s : Nat} {ls : List Bs} {j : Nat} (h : Stands b k s ls j) : ∀ (c had : Nat), k ≤ c → c < j → had + (put ls).length ≤ 255 → nameR (b.take c) k s c 10 had = .bad 10 := by
  induction h with
  | done k s h0 h1 =>
    intro c had hk hj hh
    rw [nameR_step _ k s c 10 had (by omega), if_pos (by omega)]
  | more k s x r j h0 h1 h2 h3 h4 h5 ih =>
    intro c had hk hj hh
    have h7 := put_cons_len x r
    have h8 := put_len_pos r
    rw [nameR_step _ k s c 10 had (by omega)]
    by_cases e1 : c ≤ k
    · rw [if_pos e1]
    rw [if_neg e1, atB_take (by omega), h3, if_neg (by omega), if_pos (by omega)]
    by_cases e2 : c < k + 1 + x.length
    · rw [if_pos e2]
    rw [if_neg e2, if_neg (by omega), ih c (had + 1 + x.length) (by omega) hj (by omega)]
  | point k s ls T j h0 h1 h2 h3 h4 ih =>
    intro c had hk hj hh
    rw [nameR_step _ k s c 10 had (by omega)]
    by_cases e1 : c ≤ k
    · rw [if_pos e1]
    rw [if_neg e1, atB_take (by omega), if_neg (by omega), if_neg (by omega), if_neg (by omega), if_pos (by omega)]

theorem byte_two (v : Nat) (t : Bs) : atB (byte (v : Int) :: t) 0 = v % 256 := by
  simp only [atB, byte, List.getD_cons_zero]
  rw [show ((v : Int) % 256).toNat = v % 256 by omega, UInt8.toNat_ofNat_of_lt' (by show v % 256 < 256; omega)]
theorem atB_zero (c : UInt8) (t : Bs) : atB (c :: t) 0 = c.toNat := rfl
theorem atB_succ (c : UInt8) (t : Bs) (i : Nat) : atB (c :: t) (i + 1) = atB t i := by simp [atB]
theorem byte_nat {v : Int} (h0 : 0 ≤ v) : (byte v).toNat = v.toNat % 256 := by
  unfold byte
  rw [UInt8.toNat_ofNat_of_lt' (by show (v % 256).toNat < 256; omega)]; omega
theorem be2_len (v : Int) : (be2 v).length = 2 := rfl
theorem be4_len (v : Int) : (be4 v).length = 4 := rfl
/-- two bytes back -/
theorem num2_be2 {v : Int} (h0 : 0 ≤ v) (h1 : v ≤ 65535) (t : Bs) : num2 (be2 v ++ t) 0 = v.toNat := by
  simp only [num2, be2, List.cons_append, List.nil_append, atB_zero, atB_succ]
  rw [byte_nat (by omega), byte_nat h0]; omega
theorem num2_more (b t : Bs) (i : Nat) : num2 (b ++ t) (b.length + i) = num2 t i := by
  unfold num2; rw [atB_more, Nat.add_assoc, atB_more]
theorem num4_more (b t : Bs) (i : Nat) : num4 (b ++ t) (b.length + i) = num4 t i := by
  unfold num4; rw [num2_more, Nat.add_assoc, num2_more]
theorem num4_be4 {v : Int} (h0 : 0 ≤ v) (h1 : v ≤ 4294967295) (t : Bs) : num4 (be4 v ++ t) 0 = v.toNat := by
  unfold num4 be4
  rw [List.append_assoc, num2_be2 (by omega) (by omega)]
  have e := num2_more (be2 (v / 65536)) (be2 v ++ t) 0
  rw [be2_len] at e
  rw [e]
  have e2 : num2 (be2 v ++ t) 0 = (v % 65536).toNat := by
    simp only [num2, be2, List.cons_append, List.nil_append, atB_zero, atB_succ]
    rw [byte_nat (by omega), byte_nat h0]; omega
  rw [e2]; omega

/-- what is noted stands there -/
def Inv (p : Pp) : Prop := ∀ r k, (r, k) ∈ p.N → k ≤ 16383 ∧ k < p.out.length ∧ ∃ ls j, r = put ls ∧ okL ls ∧ Stands p.out k k ls j
theorem Inv.app {p : Pp} (h : Inv p) (t : Bs) : Inv ⟨p.out ++ t, p.N⟩ := by
  intro r k hm
  obtain ⟨h1, h2, ls, j, h3, h4, h5⟩ := h r k hm
  exact ⟨h1, by rw [List.length_append]; omega, ls, j, h3, h4, h5.app t⟩
theorem take_put {x : Bs} {r : List Bs} (h : x.length ≤ 63) : (put (x :: r)).take (1 + x.length) = UInt8.ofNat x.length :: x := by
  rw [Nat.add_comm]; simp only [put, List.take_succ_cons, List.take_left]
theorem cut_all (a b : Bs) {n : Nat} (h : b.length = n) (t : Bs) : cutB (a ++ b ++ t) a.length (a.length + n) = b := by
  have e := cutB_more a (b ++ t) 0 n
  rw [Nat.add_zero, ← List.append_assoc] at e
  rw [e]; unfold cutB
  rw [Nat.sub_zero, List.drop_zero, ← h, List.take_left]
theorem name_reads : ∀ (ls : List Bs) (p : Pp) (s : Nat), okL ls → s ≤ p.out.length →
    (∀ r k, (r, k) ∈ p.N → k ≤ 16383 ∧ ((k < s ∧ ∃ ls' j, r = put ls' ∧ okL ls' ∧ Stands p.out k k ls' j) ∨ (put ls).length < r.length)) →
    (∃ t, (nameP (put ls) p).out = p.out ++ t) ∧ Stands (nameP (put ls) p).out p.out.length s ls (nameP (put ls) p).out.length ∧
      (∀ r k, (r, k) ∈ (nameP (put ls) p).N → (r, k) ∈ p.N ∨ (k ≤ 16383 ∧ k < (nameP (put ls) p).out.length ∧ ∃ ls', r = put ls' ∧ okL ls' ∧ Stands (nameP (put ls) p).out k k ls' (nameP (put ls) p).out.length))
  | [], p, s, ho, hs, hN => by
    have e : nameP (put []) p = ⟨p.out ++ [0], p.N⟩ := nameP_end
    rw [e]
    refine ⟨⟨_, rfl⟩, ?_, fun r k h => .inl h⟩
    have h := atB_more p.out [0] 0
    rw [List.length_append, List.length_cons, List.length_nil]
    exact .done _ _ (by rw [List.length_append]; simp) (by rw [Nat.add_zero] at h; rw [h]; rfl)
  | x :: r, p, s, ho, hs, hN => by
    have hx := (okL_cons.1 ho).1
    have hl := put_cons_len x r
    cases hf : findN p.N (put (x :: r)) with
    | some k =>
      rw [nameP_found ho hf]
      refine ⟨⟨_, rfl⟩, ?_, fun r k h => .inl h⟩
      obtain ⟨hk, h⟩ := hN _ _ (findN_mem hf)
      rcases h with ⟨hks, ls', j, h1, h2, h3⟩ | h
      · have hls : ls' = x :: r := put_inj h2 ho h1.symm
        subst hls
        have e0 : atB (p.out ++ be2 (49152 + (k : Int))) p.out.length = 192 + k / 256 := by
          have h := atB_more p.out (be2 (49152 + (k : Int))) 0
          rw [Nat.add_zero] at h
          rw [h]; simp only [be2, atB_zero]; rw [byte_nat (by omega)]; omega
        have e1 : atB (p.out ++ be2 (49152 + (k : Int))) (p.out.length + 1) = k % 256 := by
          rw [atB_more]; simp only [be2, atB_succ, atB_zero]; rw [byte_nat (by omega)]; omega
        have hlen : (p.out ++ be2 (49152 + (k : Int))).length = p.out.length + 2 := by rw [List.length_append, be2_len]
        rw [hlen]
        exact .point _ _ _ k j (by rw [hlen]; exact Nat.le_refl _) (by rw [e0]; omega) (by rw [e0, e1]; omega) hks (h3.app _)
      · omega
    | none =>
      rw [nameP_next ho hf, take_put hx.2]
      obtain ⟨N2, hN2⟩ : ∃ N2, (if p.out.length ≤ 16383 then p.N ++ [(put (x :: r), p.out.length)] else p.N) = N2 := ⟨_, rfl⟩
      rw [hN2]
      have hmem : ∀ r' k', (r', k') ∈ N2 → (r', k') ∈ p.N ∨ (r' = put (x :: r) ∧ k' = p.out.length ∧ k' ≤ 16383) := by
        intro r' k' hm
        rw [← hN2] at hm
        split at hm
        · rcases List.mem_append.1 hm with h | h
          · exact .inl h
          · simp only [List.mem_singleton, Prod.mk.injEq] at h
            exact .inr ⟨h.1, h.2, by omega⟩
        · exact .inl hm
      have hlen : (p.out ++ UInt8.ofNat x.length :: x).length = p.out.length + 1 + x.length := by rw [List.length_append, List.length_cons]; omega
      obtain ⟨⟨t, ht⟩, h2, h3⟩ := name_reads r ⟨p.out ++ UInt8.ofNat x.length :: x, N2⟩ s (okL_cons.1 ho).2 (by rw [hlen]; omega) (by
        intro r' k' hm
        rcases hmem r' k' hm with h | ⟨h, h', h''⟩
        · obtain ⟨g1, g2⟩ := hN r' k' h
          refine ⟨g1, ?_⟩
          rcases g2 with ⟨g3, ls', j, g4, g5, g6⟩ | g2
          · exact .inl ⟨g3, ls', j, g4, g5, g6.app _⟩
          · exact .inr (by omega)
        · exact ⟨h'', .inr (by rw [h]; omega)⟩)
      obtain ⟨q, hq⟩ : ∃ q, nameP (put r) ⟨p.out ++ UInt8.ofNat x.length :: x, N2⟩ = q := ⟨_, rfl⟩
      rw [hq] at ht h2 h3 ⊢
      simp only at ht h2 h3
      rw [hlen] at h2
      have hS : Stands q.out p.out.length s (x :: r) q.out.length := by
        have h4 := h2.le
        have ea : atB q.out p.out.length = x.length := by
          have h := atB_more p.out ((UInt8.ofNat x.length :: x) ++ t) 0
          rw [Nat.add_zero, ← List.append_assoc, ← ht] at h
          rw [h, List.cons_append, atB_zero]
          exact nat_of (by omega)
        refine .more _ _ x r _ hx.1 hx.2 (by omega) ea ?_ h2
        have h := cut_all p.out (UInt8.ofNat x.length :: x) (n := 1 + x.length) (by rw [List.length_cons]; omega) t
        rw [← ht, ← Nat.add_assoc] at h
        exact h
      refine ⟨⟨(UInt8.ofNat x.length :: x) ++ t, by rw [ht, List.append_assoc]⟩, hS, fun r' k' hm => ?_⟩
      rcases h3 r' k' hm with h | h
      · rcases hmem r' k' h with g | ⟨g, g', g''⟩
        · exact .inl g
        · subst g'
          exact .inr ⟨g'', by have := hS.le; omega, x :: r, g, ho, hS.start _ hs⟩
      · exact .inr h
/-- a name is written: it stands there, and what is noted stands -/
theorem name_inv {ls : List Bs} {p : Pp} (ho : okL ls) (h : Inv p) : (∃ t, (nameP (put ls) p).out = p.out ++ t) ∧ Stands (nameP (put ls) p).out p.out.length p.out.length ls (nameP (put ls) p).out.length ∧ Inv (nameP (put ls) p) := by
  obtain ⟨⟨t, ht⟩, h2, h3⟩ := name_reads ls p p.out.length ho (Nat.le_refl _) (fun r k hm => by
    obtain ⟨g1, g2, ls', j, g3, g4, g5⟩ := h r k hm
    exact ⟨g1, .inl ⟨g2, ls', j, g3, g4, g5⟩⟩)
  refine ⟨⟨t, ht⟩, h2, fun r k hm => ?_⟩
  rcases h3 r k hm with g | ⟨g1, g2, ls', g3, g4, g5⟩
  · obtain ⟨g1, g2, ls', j, g3, g4, g5⟩ := h r k g
    exact ⟨g1, by rw [ht, List.length_append]; omega, ls', j, g3, g4, by rw [ht]; exact g5.app t⟩
  · exact ⟨g1, g2, ls', _, g3, g4, g5⟩
/-- what is read there: with whatever behind it, and cut -/
theorem name_at {ls : List Bs} {p : Pp} (ho : okL ls) (h : Inv p) (hl : (put ls).length ≤ 255) (t : Bs) (lim : Nat) (over : Int) (h1 : (nameP (put ls) p).out.length ≤ lim) (h2 : lim ≤ ((nameP (put ls) p).out ++ t).length) :
    nameAt ((nameP (put ls) p).out ++ t) p.out.length lim over = .ok (put ls) (nameP (put ls) p).out.length :=
  ((name_inv ho h).2.1.app t).read lim over 0 h1 h2 (by omega)
theorem name_cut {ls : List Bs} {p : Pp} (ho : okL ls) (h : Inv p) (hl : (put ls).length ≤ 255) {c : Nat} (h1 : p.out.length ≤ c) (h2 : c < (nameP (put ls) p).out.length) : nameAt ((nameP (put ls) p).out.take c) p.out.length ((nameP (put ls) p).out.take c).length 10 = .bad 10 := by
  rw [take_len (by omega)]
  exact (name_inv ho h).2.1.cut c 0 h1 h2 (by omega)

/-- data of such parts, and no more -/
def FitsE : List (Option Nat) → Bs → Prop
  | [], d => d = []
  | none :: fs, d => ∃ ls d', okL ls ∧ (put ls).length ≤ 255 ∧ d = put ls ++ d' ∧ FitsE fs d'
  | some k :: fs, d => k ≤ d.length ∧ FitsE fs (d.drop k)
theorem one_hostE {d : Bs} {p : List Bs} (h : splitS [.host] d = some (p, [])) : FitsE [none] d := by
  obtain ⟨h0, r', h1, h2⟩ := split_step h
  obtain ⟨ls, g1, g2, g3⟩ := host_split h0
  refine ⟨ls, _, g1, g2, g3, ?_⟩
  simp only [splitS] at h1
  cases h1
  exact h2.symm
theorem fitsE_w {t : Int} {d : Bs} (h : checkS t d = 0) (hn : fieldsW t ≠ []) : FitsE (fieldsW t) d := by
  by_cases h2 : t = 2 ∨ t = 5 ∨ t = 12
  · have e : fieldsW t = [none] := by simp only [fieldsW, shortB, if_pos h2]; rfl
    rw [e]
    have hf : formS t = some [.host] := by rcases h2 with rfl | rfl | rfl <;> rfl
    obtain ⟨p, hp⟩ := parts_split h hf
    exact one_hostE hp
  by_cases h15 : t = 15
  · subst h15
    have e : fieldsW 15 = [some 2, none] := rfl
    rw [e]
    obtain ⟨p, hp⟩ := parts_split h (show formS 15 = some [.num 2, .host] from rfl)
    obtain ⟨h0, r', h1, h2'⟩ := split_step hp
    obtain ⟨g1, g2⟩ := num_split h0
    rw [g2] at h1
    obtain ⟨p', e'⟩ := r'
    simp only at h2'
    subst h2'
    exact ⟨g1, one_hostE h1⟩
  by_cases h6 : t = 6
  · subst h6
    have e : fieldsW 6 = [none, none, some 10, some 10] := rfl
    rw [e]
    obtain ⟨p, hp⟩ := parts_split h (show formS 6 = some [.host, .host, .num 4, .num 4, .num 4, .num 4, .num 4] from rfl)
    obtain ⟨a0, r1, a1, q1⟩ := split_step hp
    obtain ⟨ls, g1, g2, g3⟩ := host_split a0
    obtain ⟨b0, r2, b1, q2⟩ := split_step a1
    obtain ⟨ms, k1, k2, k3⟩ := host_split b0
    refine ⟨ls, _, g1, g2, g3, ms, _, k1, k2, k3, ?_⟩
    obtain ⟨c0, r3, c1, q3⟩ := split_step b1
    obtain ⟨n1, m1⟩ := num_split c0
    rw [m1] at c1
    obtain ⟨d0, r4, d1, q4⟩ := split_step c1
    obtain ⟨n2, m2⟩ := num_split d0
    rw [m2] at d1
    obtain ⟨e0, r5, e1, q5⟩ := split_step d1
    obtain ⟨n3, m3⟩ := num_split e0
    rw [m3] at e1
    obtain ⟨f0, r6, f1, q6⟩ := split_step e1
    obtain ⟨n4, m4⟩ := num_split f0
    rw [m4] at f1
    obtain ⟨i0, r7, i1, q7⟩ := split_step f1
    obtain ⟨n5, m5⟩ := num_split i0
    rw [m5] at i1
    simp only [splitS] at i1
    cases i1
    simp only [List.length_drop] at n1 n2 n3 n4 n5
    have hE := q1.trans (q2.trans (q3.trans (q4.trans (q5.trans (q6.trans q7)))))
    simp only [List.drop_drop] at hE
    refine ⟨by simp only [List.length_drop]; omega, by simp only [List.length_drop]; omega, ?_⟩
    show _ = []
    simp only [List.drop_drop]
    exact hE.symm
  · exact absurd (by simp only [fieldsW, shortB, if_neg h2, if_neg h15, if_neg h6]; rfl) hn
theorem data_reads : ∀ (fs : List (Option Nat)) (d : Bs) (p : Pp), FitsE fs d → Inv p →
    (∃ t, (dataP fs d p).out = p.out ++ t) ∧ Inv (dataP fs d p) ∧ ∀ (t acc : Bs), dataU fs ((dataP fs d p).out ++ t) p.out.length (dataP fs d p).out.length acc = .ok (acc ++ d) (dataP fs d p).out.length
  | [], d, p, hf, hi => by
    have hf : d = [] := hf
    subst hf
    simp only [dataP, dataU, List.append_nil]
    exact ⟨⟨[], by simp⟩, hi, fun t acc => by simp⟩
  | none :: fs, d, p, hf, hi => by
    obtain ⟨ls, d', h1, h2, h3, h4⟩ := hf
    simp only [dataP]
    have e1 : d.take (nameSz d) = put ls := by rw [h3, nameSz_put ls d' h1, List.take_left]
    have e2 : d.drop (nameSz d) = d' := by rw [h3, nameSz_put ls d' h1, List.drop_left]
    rw [e1, e2]
    obtain ⟨⟨t1, ht1⟩, g2, g3⟩ := name_inv h1 hi
    obtain ⟨⟨t2, ht2⟩, g4, g5⟩ := data_reads fs d' _ h4 g3
    obtain ⟨Q, hQ⟩ : ∃ Q, dataP fs d' (nameP (put ls) p) = Q := ⟨_, rfl⟩
    rw [hQ] at ht2 g4 g5 ⊢
    refine ⟨⟨t1 ++ t2, by rw [ht2, ht1, List.append_assoc]⟩, g4, fun t acc => ?_⟩
    simp only [dataU]
    have hn := name_at h1 hi h2 (t2 ++ t) Q.out.length 7 (by rw [ht2, List.length_append]; omega) (by rw [ht2]; simp only [List.length_append]; omega)
    rw [← List.append_assoc, ← ht2] at hn
    rw [hn]
    simp only
    rw [g5 t (acc ++ put ls), h3, List.append_assoc]
  | some k :: fs, d, p, hf, hi => by
    simp only [dataP]
    have hk := hf.1
    obtain ⟨⟨t2, ht2⟩, g4, g5⟩ := data_reads fs (d.drop k) ⟨p.out ++ d.take k, p.N⟩ hf.2 (hi.app _)
    obtain ⟨Q, hQ⟩ : ∃ Q, dataP fs (d.drop k) ⟨p.out ++ d.take k, p.N⟩ = Q := ⟨_, rfl⟩
    rw [hQ] at ht2 g4 g5 ⊢
    simp only at ht2 g5
    have hlt : (d.take k).length = k := by rw [List.length_take]; omega
    refine ⟨⟨d.take k ++ t2, by rw [ht2, List.append_assoc]⟩, g4, fun t acc => ?_⟩
    simp only [dataU]
    have hlen : Q.out.length = p.out.length + k + t2.length := by rw [ht2]; simp only [List.length_append, hlt]
    rw [if_neg (by omega)]
    have hc := cut_all p.out (d.take k) hlt (t2 ++ t)
    rw [← List.append_assoc, ← ht2] at hc
    rw [hc]
    have e := g5 t (acc ++ d.take k)
    rw [List.length_append, hlt] at e
    rw [e, List.append_assoc, List.take_append_drop]
end Go.Proofs.Ytabhiangjomaeaa.roundU

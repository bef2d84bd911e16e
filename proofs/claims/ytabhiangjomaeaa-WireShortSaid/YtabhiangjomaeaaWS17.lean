/- The law gazetteerlaw2.WireShort: walk. -/
import Derived.Test.YtabhiangjomaeaaWS15
import Derived.Test.YtabhiangjomaeaaWS16
import Derived.Deep.RegionHeld3
namespace Go.Proofs.Ytabhiangjomaeaa.wireShort
open Go.RowKit Go.Proofs.Ytabhiangjomaeaa.kit Go.Proofs.Ytabhiangjomaeaa.timed Go.Proofs.Ytabhiangjomaeaa.nspec Go.Proofs.Ytabhiangjomaeaa.coded Go.Proofs.Ytabhiangjomaeaa.fld Go.Proofs.Ytabhiangjomaeaa.wireP Go.Proofs.Ytabhiangjomaeaa.wireM Go.Proofs.Ytabhiangjomaeaa.packP Go.Proofs.Ytabhiangjomaeaa.wpack Go.Proofs.Ytabhiangjomaeaa.rows Go.Proofs.Ytabhiangjomaeaa.shortP Go.Proofs.Ytabhiangjomaeaa.plainW Go.Proofs.Ytabhiangjomaeaa.stepA
set_option linter.unusedVariables false

theorem mcells {w : World} {b : Nat} {p : Pl} {m : Mg} {w' : World} (h : MsgAt w b p m) (hB : Below w.heap.size w w') : MsgAt w' b p m := h.below hB h.box.lt
theorem question_lit (w : World) : Calls Try.prog 24 #[] w fun e w' => ∃ P : Pl, e = .returned (.agg #[.int .i64 7, .bool false, .int .i64 0, .bool false, .bool false, .bool true, .bool false, .bool false, .bool false, .int .i64 0, .slice P.qa 1 P.qc, .slice P.na 0 P.nc, .slice P.ua 0 P.uc, .slice P.ra 0 P.rc]) ∧ RdM w' P qM ∧ Below w.heap.size w w' :=
  (question_any w).mono fun e w' ⟨P, h1, h2, h3⟩ => ⟨P, h1, h2, h3⟩
theorem qM_ok : OkW qM := by
  refine ⟨?_, ?_, ?_, ?_, ?_, ?_, ?_⟩ <;> first | (intro x hx; simp [qM] at hx) | (unfold maxLen; decide)
theorem pack_q (P : Pl) (w : World) (h : RdM w P qM) : Calls Try.prog 18 #[.agg #[.int .i64 7, .bool false, .int .i64 0, .bool false, .bool false, .bool true, .bool false, .bool false, .bool false, .int .i64 0, .slice P.qa 1 P.qc, .slice P.na 0 P.nc, .slice P.ua 0 P.uc, .slice P.ra 0 P.rc]] w fun e w' => ∃ a c, e = .returned (.tuple #[.slice a 24 c, .int .i64 0]) ∧ w'.ownsRow w.heap.size 5 1 (.slice a 24 c) 24 (Lib.byteCells (packS qM).1) ∧ Below w.heap.size w w' :=
  (wpack_any P qM w h qM_ok).mono fun e w' ⟨v, h1, h2, h3⟩ => by
    rw [qM_pack] at h1 h2
    obtain ⟨a, c, rfl⟩ := buf.own_slice1 h2
    exact ⟨a, c, h1, by rw [qM_pack]; exact h2, h3⟩
theorem plain_q (P : Pl) (w : World) (h : RdM w P qM) : Calls Try.prog 25 #[.agg #[.int .i64 7, .bool false, .int .i64 0, .bool false, .bool false, .bool true, .bool false, .bool false, .bool false, .int .i64 0, .slice P.qa 1 P.qc, .slice P.na 0 P.nc, .slice P.ua 0 P.uc, .slice P.ra 0 P.rc]] w fun e w' => e = .returned (.int .i64 24) ∧ Below w.heap.size w w' :=
  (plain_any P qM w h qM_check).mono fun e w' ⟨h1, h2⟩ => ⟨by rw [h1, qM_plain]; rfl, h2⟩
theorem recs_len : ∀ (L : List Rc) (q p : Pp), recsP L q = some p → p.out.length ≤ 65535
  | [], q, p, h => by
    simp only [recsP] at h
    split at h
    · cases h
    · cases h; omega
  | x :: L, q, p, h => by
    simp only [recsP] at h
    split at h
    · cases h
    · exact recs_len L _ p h
theorem pack_len (m : Mg) : (packS m).1.length ≤ 65535 := by
  unfold packS
  split
  · simp
  · cases h : packP m with
    | none => simp
    | some b =>
      unfold packP at h
      obtain ⟨q, hq, rfl⟩ := Option.map_eq_some_iff.1 h
      exact recs_len _ _ _ hq
theorem pack_chk {m : Mg} (h : (packS m).2 = 0 ∨ (packS m).2 = 12) : checkB m = true := by
  unfold packS at h
  by_cases hc : checkB m = false
  · rw [if_pos hc] at h; rcases h with h | h <;> simp at h
  · simpa using hc
theorem keep3 {w w' : World} {a13 a10 : Value} {g o : Nat} {s : ByteArray} {b : Nat} (h : w.cell? ⟨b, 13, none⟩ = some a13 ∧ w.cell? ⟨b, 10, none⟩ = some a10 ∧ w.cell? ⟨g, o, none⟩ = some (.string s)) (hb : b < w.heap.size) (hg : g < w.heap.size) (hB : Below w.heap.size w w') :
    w'.cell? ⟨b, 13, none⟩ = some a13 ∧ w'.cell? ⟨b, 10, none⟩ = some a10 ∧ w'.cell? ⟨g, o, none⟩ = some (.string s) :=
  ⟨(hB.cell (p := ⟨b, 13, none⟩) hb).trans h.1, (hB.cell (p := ⟨b, 10, none⟩) hb).trans h.2.1, (hB.cell (p := ⟨g, o, none⟩) hg).trans h.2.2⟩
theorem keepX {w : World} {a13 a10 v : Value} {g o X : Nat} {s : ByteArray} {b : Nat} (h : w.cell? ⟨b, 13, none⟩ = some a13 ∧ w.cell? ⟨b, 10, none⟩ = some a10 ∧ w.cell? ⟨g, o, none⟩ = some (.string s)) (hb : b < X) (hg : g < X) :
    (w.setCell ⟨X, 13, none⟩ v).cell? ⟨b, 13, none⟩ = some a13 ∧ (w.setCell ⟨X, 13, none⟩ v).cell? ⟨b, 10, none⟩ = some a10 ∧ (w.setCell ⟨X, 13, none⟩ v).cell? ⟨g, o, none⟩ = some (.string s) := by
  refine ⟨?_, ?_, ?_⟩
  · rw [World.cell?_setCell_other _ _ _ _ (by intro e; injection e with e _ _; omega)]; exact h.1
  · rw [World.cell?_setCell_other _ _ _ _ (by intro e; injection e with e _ _; omega)]; exact h.2.1
  · rw [World.cell?_setCell_other _ _ _ _ (by intro e; injection e with e _ _; omega)]; exact h.2.2
theorem msg_frozen {w : World} {b : Nat} {p : Pl} {m : Mg} (h : MsgAt w b p m) (j : Nat) : w.frozen? ⟨b, j, none⟩ = false := by
  unfold MsgAt at h; simp only [World.frozen?, h]; simp
theorem more_at {w2 : World} {X g3 cp3 nr : Nat} {p : Pl} {m : Mg} {n d : ByteArray} (hM : MsgAt w2 X p m) (hn : m.ar.length = nr) :
    MsgAt (w2.setCell ⟨X, 13, none⟩ (.slice (some ⟨g3, 0, none⟩) (nr + 1) cp3)) X ⟨p.qa, p.qc, p.na, p.nc, p.ua, p.uc, some ⟨g3, 0, none⟩, cp3⟩ (moreM m n d) := by
  have s1 := heap_setCell_same w2 X 13 _ _ (.slice (some ⟨g3, 0, none⟩) (nr + 1) cp3) hM
  unfold MsgAt
  rw [s1]
  subst hn
  simp [cellsM, moreM]
theorem more_rd {w w7 w2 : World} {X g3 cp3 nr : Nat} {p : Pl} {m : Mg} {n d : ByteArray} (hin : RdM w p m) (hn : m.ar.length = nr) (hM : MsgAt w2 X p m) (hX : w.heap.size ≤ X) (hB : Below w.heap.size w w2)
    (ho : w2.ownsRow w7.heap.size 52 5 (.slice (some ⟨g3, 0, none⟩) (nr + 1) cp3) (nr + 1) (m.ar.flatMap Rc.cells ++ (moreR n d).cells)) :
    RdM (w2.setCell ⟨X, 13, none⟩ (.slice (some ⟨g3, 0, none⟩) (nr + 1) cp3)) ⟨p.qa, p.qc, p.na, p.nc, p.ua, p.uc, some ⟨g3, 0, none⟩, cp3⟩ (moreM m n d) := by
  have hB2 : Below w.heap.size w (w2.setCell ⟨X, 13, none⟩ (.slice (some ⟨g3, 0, none⟩) (nr + 1) cp3)) := hB.setCell (p := ⟨X, 13, none⟩) hX _
  refine ⟨hin.q.below hB2 rfl, hin.n.below hB2 rfl, hin.u.below hB2 rfl, ?_⟩
  have ho2 : (w2.setCell ⟨X, 13, none⟩ (.slice (some ⟨g3, 0, none⟩) (nr + 1) cp3)).ownsRow w7.heap.size 52 5 (.slice (some ⟨g3, 0, none⟩) (nr + 1) cp3) (nr + 1) ((m.ar ++ [moreR n d]).flatMap Rc.cells) := by
    have e : (m.ar ++ [moreR n d]).flatMap Rc.cells = m.ar.flatMap Rc.cells ++ (moreR n d).cells := by simp
    rw [e]
    refine own_keptG ho (fun k cu hk => ?_)
    rw [Below.heap_setCell _ _ _ _ (by show k ≠ X; intro e; subst e; unfold MsgAt at hM; rw [hM] at hk; injection hk with hk; injection hk with _ h2 _; exact absurd h2 (by decide))]
    exact hk
  obtain ⟨a', c', e, _, _, _, h⟩ := rdc_own Rc.cells 5 (fun _ => rfl) (by simp [hn]) ho2
  cases e
  exact h
theorem more_ok {m : Mg} {n d : ByteArray} (h : OkW m) (hd : d.size ≤ 60000) (hl : m.ar.length ≤ 65535) : OkW (moreM m n d) := by
  refine ⟨h.n, h.u, ?_, h.ql, h.nl, h.ul, ?_⟩
  · intro y hy
    rcases List.mem_append.1 hy with h1 | h1
    · exact h.r y h1
    · simp at h1; subst h1; show d.size ≤ maxLen; unfold maxLen; omega
  · simp only [moreM, List.length_append, List.length_cons, List.length_nil]; unfold maxLen; omega
/-- what is known of a message handed in, whatever its size -/
structure AnyM (w : World) (p : Pl) (m : Mg) : Prop where
  rd : RdM w p m
  ok : OkW m
  rnil : p.ra = none → m.ar.length = 0 ∧ p.rc = 0

set_option maxRecDepth 100000 in
set_option maxHeartbeats 8000000 in
theorem law (p : Pl) (m : Mg) (d : ByteArray) (w : World) (hin : AnyM w p m) (hd : d.size ≤ maxLen) :
    Calls Try.prog 5 #[.agg (cellsM p m), .string d] w fun e w' => e = .returned (.bool true) ∧ Below w.heap.size w w' := by
  have hbel := (Below.refl w.heap.size w).alloc (Nat.le_refl _) (.cells (cellsM p m) 37)
  have hm0 : MsgAt (w.alloc (.cells (cellsM p m) 37)) w.heap.size p m := heap_alloc_new _ _
  have hcm : ∀ p m, cellsM p m = #[.int .i64 m.id, .bool m.rs, .int .i64 m.op, .bool m.aa, .bool m.tc, .bool m.rd, .bool m.ra, .bool m.ad, .bool m.cd, .int .i64 m.rc, .slice p.qa m.qs.length p.qc, .slice p.na m.an.length p.nc, .slice p.ua m.au.length p.uc, .slice p.ra m.ar.length p.rc] := fun p m => rfl
  rw [hcm] at hbel hm0
  rw [hcm]
  have HIN := Lib.hid hin; have HBEL := Lib.hid hbel; have HM0 := Lib.hid hm0
  have CP := Lib.hid (fun (wx : World) (hB : Below w.heap.size w wx) => wpack_any p m wx (hin.rd.below hB rfl) hin.ok)
  have HKI := Lib.hid (pack_kinds m); have HSH := Lib.hid (pack_short m)
  have HCK := Lib.hid (fun h => pack_chk (m := m) h)
  have CPL := Lib.hid (fun (wx : World) (hB : Below w.heap.size w wx) (hc : checkB m = true) => plain_any p m wx (hin.rd.below hB rfl) hc)
  obtain ⟨out, code, hpk⟩ : ∃ out code, packS m = (out, code) := ⟨_, _, rfl⟩
  simp only [hpk] at CP HKI HSH HCK
  have HPK := Lib.hid hpk
  obtain ⟨n, hn⟩ : ∃ n, out.length = n := ⟨_, rfl⟩
  obtain ⟨pl, hpl⟩ : ∃ pl, plainM m = pl := ⟨_, rfl⟩
  rw [hn] at CP HSH
  rw [hpl] at HSH CPL
  have HN := Lib.hid hn
  unfold maxLen at hd
  clear hin hbel hm0 hcm hpk hn hpl
  go_enter Try.func5, Try.ntmps5
  go_upto_region 1 with (fail)
  obtain ⟨w0, hw0⟩ : ∃ w0, w.alloc (.cells #[.int .i64 m.id, .bool m.rs, .int .i64 m.op, .bool m.aa, .bool m.tc, .bool m.rd, .bool m.ra, .bool m.ad, .bool m.cd, .int .i64 m.rc, .slice p.qa m.qs.length p.qc, .slice p.na m.an.length p.nc, .slice p.ua m.au.length p.uc, .slice p.ra m.ar.length p.rc] 37) = w0 := ⟨_, rfl⟩
  rw [hw0] at HBEL HM0 ⊢
  clear hw0
  go_wp2_with fail
  refine (question_lit _).mono ?_
  rintro e w1 ⟨P, rfl, hq1, hB1⟩
  have CQ := Lib.hid (pack_q P w1 hq1)
  have HM1 := Lib.hid (mcells HM0.out hB1); have HB1 := Lib.hid (HBEL.out.trans (hB1.mono HBEL.out.size))
  clear hq1 hB1
  go_wp2_with fail
  refine CQ.out.mono ?_
  rintro e w2 ⟨a2, c2, rfl, _, hB2⟩
  have HM2 := Lib.hid (mcells HM1.out hB2); have HB2 := Lib.hid (HB1.out.trans (hB2.mono HB1.out.size))
  clear hB2
  go_wp2_with fail
  refine (question_lit _).mono ?_
  rintro e w3 ⟨P3, rfl, hq3, hB3⟩
  have CQ3 := Lib.hid (plain_q P3 w3 hq3)
  have HM3 := Lib.hid (mcells HM2.out hB3); have HB3 := Lib.hid (HB2.out.trans (hB3.mono HB2.out.size))
  clear hq3 hB3
  go_wp2_with fail
  refine CQ3.out.mono ?_
  rintro e w4 ⟨rfl, hB4⟩
  have HM4 := Lib.hid (mcells HM3.out hB4); have HB4 := Lib.hid (HB3.out.trans (hB4.mono HB3.out.size))
  clear hB4
  have hx := HM4.out.box
  have b0 := hx.c0; have b1 := hx.c1; have b2 := hx.c2; have b3 := hx.c3; have b4 := hx.c4; have b5 := hx.c5; have b6 := hx.c6; have b7 := hx.c7; have b8 := hx.c8; have b9 := hx.c9; have b10 := hx.c10; have b11 := hx.c11; have b12 := hx.c12; have b13 := hx.c13
  clear hx
  go_wp2_with fail
  refine (CP.out w4 HB4.out).mono ?_
  rintro e w5 ⟨v5, rfl, ho5, hB5⟩
  have HM5 := Lib.hid (mcells HM4.out hB5); have HB5 := Lib.hid (HB4.out.trans (hB5.mono HB4.out.size))
  obtain ⟨a5, c5, rfl⟩ := buf.own_slice1 ho5
  clear ho5 hB5 b0 b1 b2 b3 b4 b5 b6 b7 b8 b9 b10 b11 b12 b13
  have hx := HM5.out.box
  have b0 := hx.c0; have b1 := hx.c1; have b2 := hx.c2; have b3 := hx.c3; have b4 := hx.c4; have b5 := hx.c5; have b6 := hx.c6; have b7 := hx.c7; have b8 := hx.c8; have b9 := hx.c9; have b10 := hx.c10; have b11 := hx.c11; have b12 := hx.c12; have b13 := hx.c13
  clear hx
  by_cases h12 : code = 12
  · subst h12
    have hpl := HSH.out.2 rfl
    have hplb : (65535 : Int) < (pl : Int) := by omega
    have CL := Lib.hid (CPL.out w5 HB5.out (HCK.out (.inr rfl)))
    clear hpl
    go_wp2_with fail
    refine CL.out.mono ?_
    rintro e w6 ⟨rfl, hB6⟩
    have HB6 := Lib.hid (HB5.out.trans (hB6.mono HB5.out.size))
    clear hB6
    go_wp2_with fail
    go_ret
    exact ⟨rfl, HB6.out⟩
  have e12 : (code == 12) = false := by simpa using h12
  by_cases h0 : code = 0
  · subst h0
    have hsh := HSH.out.1 rfl
    have hchk := HCK.out (.inl rfl)
    have CL := Lib.hid (CPL.out w5 HB5.out hchk)
    have hnpl : (n : Int) ≤ (pl : Int) := by omega
    clear h12 e12 hsh
    go_wp2_with fail
    refine CL.out.mono ?_
    rintro e w6 ⟨rfl, hB6⟩
    have HM6 := Lib.hid (mcells HM5.out hB6); have HB6 := Lib.hid (HB5.out.trans (hB6.mono HB5.out.size))
    clear hB6 b0 b1 b2 b3 b4 b5 b6 b7 b8 b9 b10 b11 b12 b13
    have b10 := HM6.out.box.c10
    cases hqs : m.qs with
    | nil =>
      rw [hqs] at b10
      have b10' : w6.cell? ⟨w.heap.size, 10, none⟩ = some (.slice p.qa 0 p.qc) := b10
      clear b10
      go_wp2_with fail
      go_ret
      exact ⟨rfl, HB6.out⟩
    | cons x L =>
      have hx0 : m.qs[0]? = some x := by rw [hqs]; rfl
      obtain ⟨g, o, hqa, hg, hat⟩ := at_q HIN.out.rd.q hx0
      obtain ⟨x0, x1, x2⟩ := hat.below HB6.out hg
      simp only [Nat.zero_mul, Nat.add_zero] at x0 x1 x2
      obtain ⟨nq, hnq⟩ : ∃ nq, m.qs.length = nq := ⟨_, rfl⟩
      have hnq0 : 0 < nq := by rw [← hnq, hqs]; simp
      rw [hqa, hnq] at b10
      have enq : ((nq : Int) == 0) = false := by rw [beq_eq_false_iff_ne]; omega
      have znq : (0 : Int) < (nq : Int) := by omega
      have znd : decide (0 < nq) = true := by simpa using hnq0
      have HQS := Lib.hid hqs; have HNQ := Lib.hid hnq; have HQA := Lib.hid hqa
      clear hat hx0 hqs hnq hqa
      by_cases hroot : x.n.data.toList = [0]
      · have er : (x.n.toList == [0]) = true := by rw [Lib.toList_data, hroot]; rfl
        clear hroot
        go_wp2_with fail
        go_ret
        exact ⟨rfl, HB6.out⟩
      have er : (x.n.toList == [0]) = false := by rw [Lib.toList_data]; simpa using hroot
      by_cases hbig : 60000 < d.size
      · have hbi : (60000 : Int) < (d.size : Int) := by omega
        clear hroot
        go_wp2_with fail
        go_ret
        exact ⟨rfl, HB6.out⟩
      have hbi : (d.size : Int) ≤ 60000 := by omega
      have hx := HM6.out.box
      have c0 := hx.c0; have c1 := hx.c1; have c2 := hx.c2; have c3 := hx.c3; have c4 := hx.c4; have c5 := hx.c5; have c6 := hx.c6; have c7 := hx.c7; have c8 := hx.c8; have c9 := hx.c9; have c10 := hx.c10; have c11 := hx.c11; have c12 := hx.c12; have c13 := hx.c13
      rw [HQA.out, HNQ.out] at c10
      have HR := Lib.hid (pack_more (by rw [HPK.out]) HQS.out hroot (by omega : d.size ≤ 60000))
      clear hx hroot b10
      obtain ⟨i0, hi, hz0, hz1, hz2⟩ := info_parts infoRec
      obtain ⟨nr, hnr⟩ : ∃ nr, m.ar.length = nr := ⟨_, rfl⟩
      have hnrb : nr ≤ 65535 := by
        rw [← hnr]
        have hc := hchk
        simp only [checkB, Bool.and_eq_true] at hc
        exact (of_decide_eq_true hc.2.2.2.1).2.2.2
      rw [hnr] at c13
      have HNR := Lib.hid hnr
      go_upto_region 14 with fail
      have hMx := heap_alloc_new w6 (.cells #[.int .i64 m.id, .bool m.rs, .int .i64 m.op, .bool m.aa, .bool m.tc, .bool m.rd, .bool m.ra, .bool m.ad, .bool m.cd, .int .i64 m.rc, .slice (some ⟨g, o, none⟩) nq p.qc, .slice p.na m.an.length p.nc, .slice p.ua m.au.length p.uc, .slice p.ra nr p.rc] 37)
      have hBx := (Below.refl w6.heap.size w6).alloc (Nat.le_refl _) (.cells #[.int .i64 m.id, .bool m.rs, .int .i64 m.op, .bool m.aa, .bool m.tc, .bool m.rd, .bool m.ra, .bool m.ad, .bool m.cd, .int .i64 m.rc, .slice (some ⟨g, o, none⟩) nq p.qc, .slice p.na m.an.length p.nc, .slice p.ua m.au.length p.uc, .slice p.ra nr p.rc] 37)
      have hMX : MsgAt (w6.alloc (.cells #[.int .i64 m.id, .bool m.rs, .int .i64 m.op, .bool m.aa, .bool m.tc, .bool m.rd, .bool m.ra, .bool m.ad, .bool m.cd, .int .i64 m.rc, .slice (some ⟨g, o, none⟩) nq p.qc, .slice p.na m.an.length p.nc, .slice p.ua m.au.length p.uc, .slice p.ra nr p.rc] 37)) w6.heap.size p m := by
        unfold MsgAt cellsM
        rw [HQA.out, HNQ.out, HNR.out]; exact hMx
      have hlx : w.heap.size < w6.heap.size := HM6.out.box.lt
      have hM7 := mcells HM6.out hBx
      have hgx : g < w6.heap.size := Nat.lt_of_lt_of_le hg HB6.out.size
      have hB7 := HB6.out.trans (hBx.mono HB6.out.size)
      have hX0 : (w6.alloc (.cells #[.int .i64 m.id, .bool m.rs, .int .i64 m.op, .bool m.aa, .bool m.tc, .bool m.rd, .bool m.ra, .bool m.ad, .bool m.cd, .int .i64 m.rc, .slice (some ⟨g, o, none⟩) nq p.qc, .slice p.na m.an.length p.nc, .slice p.ua m.au.length p.uc, .slice p.ra nr p.rc] 37)).cell? ⟨g, o, none⟩ = some (.string x.n) := (hBx.cell (p := ⟨g, o, none⟩) hgx).trans x0
      have hs7 : (w6.alloc (.cells #[.int .i64 m.id, .bool m.rs, .int .i64 m.op, .bool m.aa, .bool m.tc, .bool m.rd, .bool m.ra, .bool m.ad, .bool m.cd, .int .i64 m.rc, .slice (some ⟨g, o, none⟩) nq p.qc, .slice p.na m.an.length p.nc, .slice p.ua m.au.length p.uc, .slice p.ra nr p.rc] 37)).heap.size = w6.heap.size + 1 := by simp
      obtain ⟨w7, hw7⟩ : ∃ w7, w6.alloc (.cells #[.int .i64 m.id, .bool m.rs, .int .i64 m.op, .bool m.aa, .bool m.tc, .bool m.rd, .bool m.ra, .bool m.ad, .bool m.cd, .int .i64 m.rc, .slice (some ⟨g, o, none⟩) nq p.qc, .slice p.na m.an.length p.nc, .slice p.ua m.au.length p.uc, .slice p.ra nr p.rc] 37) = w7 := ⟨_, rfl⟩
      rw [hw7] at hMX hM7 hB7 hX0 hs7 ⊢
      obtain ⟨X, hX⟩ : ∃ X, w6.heap.size = X := ⟨_, rfl⟩
      rw [hX] at hMX hgx hs7 hlx ⊢
      have HMX := Lib.hid hMX; have HM7 := Lib.hid hM7; have HB7 := Lib.hid hB7
      have hx13 := hM7.box.c13; have hx10 := hM7.box.c10
      rw [HNR.out] at hx13
      rw [HQA.out, HNQ.out] at hx10
      have hXlt : X < w7.heap.size := by omega
      have hglt : g < w7.heap.size := by omega
      have hwlt : w.heap.size < w7.heap.size := by omega
      have HS0 := Lib.hid (⟨hx13, hx10, hX0⟩ : w7.cell? ⟨w.heap.size, 13, none⟩ = some (.slice p.ra nr p.rc) ∧ w7.cell? ⟨w.heap.size, 10, none⟩ = some (.slice (some ⟨g, o, none⟩) nq p.qc) ∧ w7.cell? ⟨g, o, none⟩ = some (.string x.n))
      have HSRC := Lib.hid (fun (wx : World) (hB : Below w.heap.size w wx) => (by have h := cells_rd Rc.cells 5 (by decide) (fun _ => rfl) (HIN.out.rd.r.below hB rfl) p.rc HIN.out.rnil; rw [HNR.out] at h; exact h : (p.ra = none ∧ nr = 0 ∧ p.rc = 0) ∨ ∃ ad, p.ra = some ad ∧ ∀ (j : Nat) (u : Value), (m.ar.flatMap Rc.cells)[j]? = some u → wx.cell? (ad.add j) = some u))
      have hBd : Below w7.heap.size w7 w7.drew := (Below.refl _ _).drew
      have hSd := keep3 HS0.out hwlt hglt hBd
      clear hMX hM7 hB7 hX0 hMx hBx hw7 c0 c1 c2 c3 c4 c5 c6 c7 c8 c9 c10 c11 c12 c13 hx13 hx10 x0 x1 x2 hg hnr
      go_region_held3 (fun w' => w'.cell? ⟨w.heap.size, 13, none⟩ = some (.slice p.ra nr p.rc) ∧ w'.cell? ⟨w.heap.size, 10, none⟩ = some (.slice (some ⟨g, o, none⟩) nq p.qc) ∧ w'.cell? ⟨g, o, none⟩ = some (.string x.n)) (first | assumption | exact keep3 HS0.out hwlt hglt (hBa.alloc hBa.size _) | exact keep3 HS0.out hwlt hglt (hBd.alloc (Nat.le_refl _) _) | exact keepX hS3 hlx hgx | (refine ⟨?_, ?_, ?_⟩ <;> assumption))
        (first
          | (refine step_append_src (by rfl) (.const (.slice none 0 0)) (.tmp 62) 35 (by rfl) w7.heap.size 52 i0 _ 5 56 Try.underlying35 hi hz0 hz1 hz2 (by rfl) (by decide) (.slice none 0 0) 0 [] (by simp [Act.eval]) (World.ownsRow_nil _ _ _ _) p.ra nr p.rc (m.ar.flatMap Rc.cells) (by simp [Act.eval]) (by rw [flat_len Rc.cells 5 (fun _ => rfl), HNR.out]) (HSRC.out _ (HB7.out.trans (Below.mono (B := w7.heap.size) (by first | exact hBd | exact hBd.alloc (Nat.le_refl _) _) HB7.out.size))) (one_cells rec_one) (by unfold maxLen; omega) (by omega) (by first | exact Nat.le_refl _ | simp) ?_
             intro v1 wa hown1 hgr1
             have hBa := below_append' (B := w7.heap.size) (w := w7) (by first | exact hBd | exact hBd.alloc (Nat.le_refl _) _) (by first | exact Nat.le_refl _ | simp) (World.ownsRow_nil _ w7.heap.size 52 5) hgr1
             have hSa := keep3 HS0.out hwlt hglt hBa
             have hown2 : wa.ownsRow w7.heap.size 52 5 v1 nr (m.ar.flatMap Rc.cells) := by simpa using hown1
             obtain ⟨a1, c1, rfl, _⟩ := rdc_own Rc.cells 5 (fun _ => rfl) HNR.out.symm hown2
             have HOW2 := Lib.hid hown2
             have HGR := Lib.hid hgr1
             clear hown1 hgr1 hown2)
          | (refine step_append_lies _ (by rfl) (.tmp 63) (.tmp 71) 35 (by rfl) w7.heap.size 52 i0 _ 5 56 Try.underlying35 hi hz0 hz1 hz2 (by rfl) (by decide) (.slice a1 nr c1) nr (m.ar.flatMap Rc.cells) (by simp [Act.eval]) (HOW2.out.alloc _) ⟨wa.heap.size, 0, none⟩ 1 1 (moreR x.n d).cells (by simp [Act.eval]) (by rfl) (World.news_of_block (heap_alloc_new _ _)) (rec_one _) (by decide) (by unfold maxLen; omega) (by omega) (by have := hBa.size; simp; omega) (wa.heap.size + 1) (by simp) ?_
             intro g3 cp3 w2 hown4 hgr4 hli4 hlt4
             have hB3 := below_append' (hBa.alloc hBa.size _) (by have := hBa.size; simp; omega) (HOW2.out.alloc _) hgr4
             have hS3 := keep3 HS0.out hwlt hglt hB3
             have hM3 := mcells HMX.out hB3
             have k13 := hM3.box.c13
             have f13 := msg_frozen hM3 13
             have hX3 : X < w2.heap.size := hM3.box.lt
             have HOW4 := Lib.hid hown4
             clear hown4 hgr4 hli4)
          | (refine step_append_lies _ (by rfl) (.tmp 63) (.tmp 71) 35 (by rfl) w7.heap.size 52 i0 _ 5 56 Try.underlying35 hi hz0 hz1 hz2 (by rfl) (by decide) (.slice a1 nr c1) nr (m.ar.flatMap Rc.cells) (by simp [Act.eval]) HOW2.out ⟨w7.heap.size, 0, none⟩ 1 1 (moreR x.n d).cells (by simp [Act.eval]) (by rfl) (World.news_of_block ((HGR.out.block w7.heap.size (by simp) (by simp [Value.ownBlock])).trans (heap_alloc_new w7.drew _))) (rec_one _) (by decide) (by unfold maxLen; omega) (by omega) hBa.size wa.heap.size rfl ?_
             intro g3 cp3 w2 hown4 hgr4 hli4 hlt4
             have hB3 := below_append' hBa hBa.size HOW2.out hgr4
             have hS3 := keep3 HS0.out hwlt hglt hB3
             have hM3 := mcells HMX.out hB3
             have k13 := hM3.box.c13
             have f13 := msg_frozen hM3 13
             have hX3 : X < w2.heap.size := hM3.box.lt
             have HOW4 := Lib.hid hown4
             clear hown4 hgr4 hli4))
      all_goals
        have hBf : Below w.heap.size w w2 := HB7.out.trans (hB3.mono HB7.out.size)
        have HMf := Lib.hid (more_at (g3 := g3) (cp3 := cp3) (n := x.n) (d := d) hM3 HNR.out)
        have HRf := Lib.hid (more_rd (n := x.n) (d := d) HIN.out.rd HNR.out hM3 (Nat.le_of_lt hlx) hBf HOW4.out)
        have HBf := Lib.hid (hBf.setCell (p := ⟨X, 13, none⟩) (Nat.le_of_lt hlx) (.slice (some ⟨g3, 0, none⟩) (nr + 1) cp3))
        obtain ⟨W, hW⟩ : ∃ W, w2.setCell ⟨X, 13, none⟩ (.slice (some ⟨g3, 0, none⟩) (nr + 1) cp3) = W := ⟨_, rfl⟩
        rw [hW] at HMf HRf HBf ⊢
        have CF := Lib.hid (wpack_any _ (moreM m x.n d) W HRf.out (more_ok HIN.out.ok (by omega) (by rw [HNR.out]; exact hnrb)))
        obtain ⟨out', code', hpk'⟩ : ∃ out code, packS (moreM m x.n d) = (out, code) := ⟨_, _, rfl⟩
        have HR2 := HR.out
        simp only [hpk', HPK.out] at CF HR2
        obtain ⟨n', hn'⟩ : ∃ n, out'.length = n := ⟨_, rfl⟩
        rw [hn'] at CF HR2
        rw [HN.out, HNR.out] at HR2
        have hx := HMf.out.box
        have c0 := hx.c0; have c1 := hx.c1; have c2 := hx.c2; have c3 := hx.c3; have c4 := hx.c4; have c5 := hx.c5; have c6 := hx.c6; have c7 := hx.c7; have c8 := hx.c8; have c9 := hx.c9; have c10 := hx.c10; have c11 := hx.c11; have c12 := hx.c12; have c13 := hx.c13
        have hl' : (moreM m x.n d).ar.length = nr + 1 := by simp [moreM, HNR.out]
        obtain ⟨nr1, hnr1⟩ : ∃ nr1, nr + 1 = nr1 := ⟨_, rfl⟩
        rw [hl'] at c13 CF
        rw [hnr1] at c13 CF HR2
        dsimp only [moreM] at c0 c1 c2 c3 c4 c5 c6 c7 c8 c9 c10 c11 c12 c13
        have HR3 := Lib.hid HR2
        have HX3 := Lib.hid (HMf.out)
        clear hx hW hBf hB3 hS3 hM3 k13 f13 hX3 HOW4 HR2 hn' hpk' hl' hBa hSa HOW2 HGR
        go_wp2_with fail
        refine CF.out.mono ?_
        rintro e w8 ⟨v8, rfl, ho8, hB8⟩
        obtain ⟨a8, cc8, rfl⟩ := buf.own_slice1 ho8
        have HB8 := Lib.hid (HBf.out.trans (hB8.mono HBf.out.size))
        have k13 := (mcells HX3.out hB8).box.c13
        have hk13 : (moreM m x.n d).ar.length = nr1 := by rw [← hnr1]; simp [moreM, HNR.out]
        rw [hk13] at k13
        dsimp only at k13
        clear ho8 hB8 hk13 hnr1 c0 c1 c2 c3 c4 c5 c6 c7 c8 c9 c10 c11 c12 c13
        rcases HR3.out with ⟨rfl, hl⟩ | ⟨rfl, hl⟩ | ⟨rfl, hl⟩
        · have hres : ((n' : Int) == (n : Int) + 12 + (d.size : Int)) = true := by rw [beq_iff_eq]; omega
          have hnb : n ≤ 65535 := by
            have h : out.length ≤ 65535 := by have h := pack_len m; rw [HPK.out] at h; exact h
            rw [HN.out] at h; exact h
          clear hl
          go_wp2_with fail
          go_ret
          exact ⟨by first | rfl | simp [hres], HB8.out⟩
        · have hres : (65535 : Int) < (n : Int) + 12 + (d.size : Int) := by omega
          have hnb : n ≤ 65535 := by
            have h : out.length ≤ 65535 := by have h := pack_len m; rw [HPK.out] at h; exact h
            rw [HN.out] at h; exact h
          clear hl
          go_wp2_with fail
          go_ret
          exact ⟨rfl, HB8.out⟩
        · have hres : (65535 : Int) < (nr1 : Int) := by omega
          clear hl
          go_wp2_with fail
          go_ret
          exact ⟨rfl, HB8.out⟩
  · have hnil : n = 0 := by
      rcases HKI.out with h | ⟨h, _⟩
      · exact absurd h h0
      · have h1 := HN.out; rw [h] at h1; simpa using h1.symm
    subst hnil
    have e0 : (code != 0) = true := by simpa using h0
    clear h12 h0
    go_wp2_with fail
    go_ret
    exact ⟨rfl, HB5.out⟩
end Go.Proofs.Ytabhiangjomaeaa.wireShort

/- gazetteerref2.PackMessage: walk. A message laid over another, cell by cell. gazetteersame.TwinMessage: walk. -/
import Derived.Test.YtnamkladeaohoaaGreatK21
import Derived.Test.YtnamkladeaohoaaGreatK10
import Derived.Test.YtnamkladeaohoaaGreatK12
import Derived.Deep.QuietTactic
import Derived.BigQuiet
import Derived.Deep.RegionWith
import Derived.Deep.DeepCutAuto
namespace Go.Proofs.YtnamkladeaohoaaGreat.rpack
open Go.RowKit Go.Proofs.YtnamkladeaohoaaGreat.kit Go.Proofs.YtnamkladeaohoaaGreat.timed Go.Proofs.YtnamkladeaohoaaGreat.takes Go.Proofs.YtnamkladeaohoaaGreat.nspec Go.Proofs.YtnamkladeaohoaaGreat.rsplit Go.Proofs.YtnamkladeaohoaaGreat.check Go.Proofs.YtnamkladeaohoaaGreat.bits Go.Proofs.YtnamkladeaohoaaGreat.bld Go.Proofs.YtnamkladeaohoaaGreat.coded Go.Proofs.YtnamkladeaohoaaGreat.fld Go.Proofs.YtnamkladeaohoaaGreat.wireP Go.Proofs.YtnamkladeaohoaaGreat.wireM Go.Proofs.YtnamkladeaohoaaGreat.wireD Go.Proofs.YtnamkladeaohoaaGreat.packP Go.Proofs.YtnamkladeaohoaaGreat.buf Go.Proofs.YtnamkladeaohoaaGreat.big Go.Proofs.YtnamkladeaohoaaGreat.rpaper Go.Proofs.YtnamkladeaohoaaGreat.rpname Go.Proofs.YtnamkladeaohoaaGreat.rrec Go.Proofs.YtnamkladeaohoaaGreat.wpack Go.Proofs.YtnamkladeaohoaaGreat.rows
set_option linter.unusedVariables false

def noZ : Nat → Prop := fun _ => False
theorem notR_msg {Z : Nat → Prop} {k : Nat} {c : Array Value} {f : Nat × Nat} : NotR Z k (.cells c 25 f) := notR_cells (by decide) (by decide) (by decide)
theorem notR_q {Z : Nat → Prop} {k : Nat} {c : Array Value} {f : Nat × Nat} : NotR Z k (.cells c 35 f) := notR_cells (by decide) (by decide) (by decide)
theorem _root_.Go.Proofs.YtnamkladeaohoaaGreat.wpack.MsgAt.effR {w w1 : World} {b0 B b : Nat} {Z : Nat → Prop} {p : Pl} {m : Mg} (h : MsgAt w b p m) (he : EffR b0 B Z w w1) (hb : b ≠ B) : MsgAt w1 b p m := he.kept _ _ h notR_msg hb
theorem _root_.Go.Proofs.YtnamkladeaohoaaGreat.wpack.QAt.effR {w w1 : World} {b0 B b : Nat} {Z : Nat → Prop} {x : Qn} (h : QAt w b x) (he : EffR b0 B Z w w1) (hb : b ≠ B) : QAt w1 b x := he.kept _ _ h notR_q hb
/-- the walk under way: paper, message -/
structure RUnd (w1 wx : World) (b0 B : Nat) (p : Pl) (m : Mg) (q : Pp) : Prop where
  paper : RPx wx b0 B noZ q
  eff : Below b0 w1 wx
  msg : MsgAt wx b0 p m
  t0 : b0 ≠ B
theorem RUnd.step {w1 wx wy : World} {b0 B : Nat} {p : Pl} {m : Mg} {q q' : Pp} (h : RUnd w1 wx b0 B p m q) (hp : RPx wy b0 B noZ q') (he : EffR b0 B noZ wx wy) : RUnd w1 wy b0 B p m q' :=
  ⟨hp, h.eff.trans he.to_below, h.msg.effR he h.t0, h.t0⟩
theorem RUnd.below {w1 wx wy : World} {b0 B : Nat} {p : Pl} {m : Mg} {q : Pp} (h : RUnd w1 wx b0 B p m q) (hB : Below wx.heap.size wx wy) : RUnd w1 wy b0 B p m q :=
  h.step (h.paper.kept hB) (EffR.of_below hB h.paper.low)
theorem RUnd.lt {w1 wx : World} {b0 B : Nat} {p : Pl} {m : Mg} {q : Pp} (h : RUnd w1 wx b0 B p m q) : B < wx.heap.size := by
  obtain ⟨_, _, _, _, h⟩ := h.paper
  exact h.lt
/-- a row of records grown beside it -/
theorem RUnd.grown {w1 wx wy : World} {b0 B : Nat} {p : Pl} {m : Mg} {q : Pp} {v : Value} {n : Nat} {xs : List Value} (h : RUnd w1 wx b0 B p m q) (ho : wx.ownsRow b0 43 5 v n xs) (hg : wx.grownBy wy v.ownBlock) : RUnd w1 wy b0 B p m q := by
  have hk : ∀ (k : Nat) (o : Obj), wx.heap[k]? = some o → NotT 43 o → wy.heap[k]? = some o := fun k o hk hn => (hg.block k (Array.getElem?_eq_some_iff.1 hk).1 (row_neG ho hk hn)).trans hk
  obtain ⟨hn, v1, v2, v3, hp⟩ := h.paper
  have hlt := h.paper.low
  refine ⟨⟨hn, v1, v2, v3, hk _ _ hp.blk (notT_cells (by decide)), own_kept hp.o1 (fun k c hc => hk _ _ hc (notT_cells (by decide))), own_kept hp.o2 (fun k c hc => hk _ _ hc (notT_cells (by decide))), own_kept hp.o3 (fun k c hc => hk _ _ hc (notT_cells (by decide))), hp.low, fun k hz => hz.elim, fun k hz => hz.elim⟩, ?_, hk _ _ h.msg (notT_cells (by decide)), h.t0⟩
  exact h.eff.trans ⟨hg.os, hg.tape, hg.output, hg.size, fun k hk => hg.block k (by omega) (row_lowG ho hk)⟩
theorem own_effR {w w1 : World} {b0 B : Nat} {v : Value} {n : Nat} {xs : List Value} (h : w.ownsRow b0 43 5 v n xs) (he : EffR b0 B noZ w w1) (hB : ∃ c, w.heap[B]? = some (.cells c 152 (0, 0))) : w1.ownsRow b0 43 5 v n xs := by
  refine own_keptG h (fun k c hc => he.kept k _ hc notR_rec ?_)
  intro e; subst e
  obtain ⟨c', hb⟩ := hB
  rw [hb] at hc; injection hc with hc; injection hc with _ h2 _; exact absurd h2 (by decide)
theorem RUnd.blk {w1 wx : World} {b0 B : Nat} {p : Pl} {m : Mg} {q : Pp} (h : RUnd w1 wx b0 B p m q) : ∃ c, wx.heap[B]? = some (.cells c 152 (0, 0)) := by
  obtain ⟨_, _, _, _, hp⟩ := h.paper
  exact ⟨_, hp.blk⟩
theorem rpaper_made (w : World) (b0 : Nat) (h : b0 ≤ w.heap.size) : RPx (w.alloc (.cells #[.slice none 0 0, .slice none 0 0, .slice none 0 0] 152)) b0 w.heap.size noZ ⟨[], []⟩ :=
  ⟨Near.nil, _, _, _, heap_alloc_new _ _, World.ownsRow_nil _ _ _ _, World.ownsRow_nil _ _ _ _, World.ownsRow_nil _ _ _ _, h, fun _ hz => hz.elim, fun _ hz => hz.elim⟩
theorem bit_bd (b : Bool) {v : Int} (h : 0 ≤ v) : 0 ≤ bit b v ∧ bit b v ≤ v := by unfold bit; split <;> omega
theorem w64 (n : Int) (h : 0 ≤ n ∧ n ≤ 1099511627776) : wrap64 n = n := by unfold wrap64; omega
theorem keepM_step {w w1 w' : World} {b0 B : Nat} {p : Pl} {m : Mg} {a0 a10 a11 a12 a13 : Value}
    (h : w1.cell? ⟨b0, 0, none⟩ = some a0 ∧ w1.cell? ⟨b0, 10, none⟩ = some a10 ∧ w1.cell? ⟨b0, 11, none⟩ = some a11 ∧ w1.cell? ⟨b0, 12, none⟩ = some a12 ∧ w1.cell? ⟨b0, 13, none⟩ = some a13 ∧ MsgAt w1 b0 p m ∧ EffR b0 B noZ w w1) (he : EffR b0 B noZ w1 w') (hX : b0 ≠ B) :
    w'.cell? ⟨b0, 0, none⟩ = some a0 ∧ w'.cell? ⟨b0, 10, none⟩ = some a10 ∧ w'.cell? ⟨b0, 11, none⟩ = some a11 ∧ w'.cell? ⟨b0, 12, none⟩ = some a12 ∧ w'.cell? ⟨b0, 13, none⟩ = some a13 ∧ MsgAt w' b0 p m ∧ EffR b0 B noZ w w' := by
  obtain ⟨h0, h1, h2, h3, h4, h5, h6⟩ := h
  have h5' := h5.effR he hX
  exact ⟨h5'.box.c0.trans (h5.box.c0.symm.trans h0), h5'.box.c10.trans (h5.box.c10.symm.trans h1), h5'.box.c11.trans (h5.box.c11.symm.trans h2), h5'.box.c12.trans (h5.box.c12.symm.trans h3), h5'.box.c13.trans (h5.box.c13.symm.trans h4), h5', h6.trans he⟩
theorem keepQ_step {w w1 w' : World} {b0 B X : Nat} {x : Qn} {t c : Value}
    (h : w1.cell? ⟨X, 1, none⟩ = some t ∧ w1.cell? ⟨X, 2, none⟩ = some c ∧ QAt w1 X x ∧ EffR b0 B noZ w w1) (he : EffR b0 B noZ w1 w') (hX : X ≠ B) :
    w'.cell? ⟨X, 1, none⟩ = some t ∧ w'.cell? ⟨X, 2, none⟩ = some c ∧ QAt w' X x ∧ EffR b0 B noZ w w' := by
  obtain ⟨h1, h2, h3, h4⟩ := h
  have h3' := h3.effR he hX
  exact ⟨h3'.c.2.1.trans (h3.c.2.1.symm.trans h1), h3'.c.2.2.trans (h3.c.2.2.symm.trans h2), h3', h4.trans he⟩
theorem right_num {x : Rc} (h : rightB x = true) : (0 ≤ x.t ∧ x.t ≤ 65535) ∧ (0 ≤ x.c ∧ x.c ≤ 65535) ∧ 0 ≤ x.l ∧ x.l ≤ 4294967295 := by
  simp only [rightB, Bool.and_eq_true] at h
  obtain ⟨h1, h2, h3, h4, h5⟩ := h
  exact ⟨by simpa [inB] using h2, by simpa [inB] using h3, by simpa [inB] using h4⟩
theorem q_num {x : Qn} (h : rightQ x = true) : (0 ≤ x.t ∧ x.t ≤ 65535) ∧ (0 ≤ x.c ∧ x.c ≤ 65535) := by
  simp only [rightQ, Bool.and_eq_true] at h
  exact ⟨by simpa [inB] using h.2.1, by simpa [inB] using h.2.2⟩
theorem check_num {m : Mg} (h : checkB m = true) : (0 ≤ m.id ∧ m.id ≤ 65535) ∧ m.an.length ≤ 65535 ∧ m.au.length ≤ 65535 ∧ m.ar.length ≤ 65535 := by
  simp only [checkB, Bool.and_eq_true] at h
  have h1 := of_decide_eq_true h.2.2.2.1
  exact ⟨by simpa [inB] using h.1, h1.2.1, h1.2.2.1, h1.2.2.2⟩

set_option maxRecDepth 100000 in
set_option maxHeartbeats 8000000 in
theorem rpack_any (p : Pl) (m : Mg) (w : World) (hm : RdM w p m) (ho : OkM m) (hnil : NilM p m) :
    Calls Tryz.prog 39 #[.agg #[.int .i64 m.id, .bool m.rs, .int .i64 m.op, .bool m.aa, .bool m.tc, .bool m.rd, .bool m.ra, .bool m.ad, .bool m.cd, .int .i64 m.rc, .slice p.qa m.qs.length p.qc, .slice p.na m.an.length p.nc, .slice p.ua m.au.length p.uc, .slice p.ra m.ar.length p.rc]] w fun e w' =>
      ∃ v, e = .returned (.tuple #[v, .int .i64 (packS m).2]) ∧ w'.ownsRow w.heap.size 5 1 v (packS m).1.length (Lib.byteCells (packS m).1) ∧ Below w.heap.size w w' := by
  have CK := Lib.hid (fun w hm => wireD.rcheck_any p m w hm ho)
  have HM := Lib.hid hm; have HO := Lib.hid ho; have HNIL := Lib.hid hnil
  have hbox := BoxM.fresh w 25 _ rfl p m
  obtain ⟨P, hP⟩ : ∃ P, P = p := ⟨_, rfl⟩
  have HPP := Lib.hid hP
  obtain ⟨qa, qc, na, nc, ua, uc, ra, rcc⟩ := p
  dsimp only at hbox CK ⊢
  have hbel := (Below.refl w.heap.size w).alloc (Nat.le_refl _) (.cells #[.int .i64 m.id, .bool m.rs, .int .i64 m.op, .bool m.aa, .bool m.tc, .bool m.rd, .bool m.ra, .bool m.ad, .bool m.cd, .int .i64 m.rc, .slice qa m.qs.length qc, .slice na m.an.length nc, .slice ua m.au.length uc, .slice ra m.ar.length rcc] 25)
  obtain ⟨R, HR⟩ : ∃ R, Hid (packS m = R) := ⟨_, Lib.hid rfl⟩
  rw [HR.out]
  clear hm ho hP hnil
  go_enter Tryz.func39, Tryz.ntmps39
  go_upto_region 1 with (fail)
  have HMSG0 : Hid (MsgAt (w.alloc (.cells #[.int .i64 m.id, .bool m.rs, .int .i64 m.op, .bool m.aa, .bool m.tc, .bool m.rd, .bool m.ra, .bool m.ad, .bool m.cd, .int .i64 m.rc, .slice qa m.qs.length qc, .slice na m.an.length nc, .slice ua m.au.length uc, .slice ra m.ar.length rcc] 25)) w.heap.size ⟨qa, qc, na, nc, ua, uc, ra, rcc⟩ m) := Lib.hid (heap_alloc_new _ _)
  obtain ⟨w0, hw0⟩ : ∃ w0, w.alloc (.cells #[.int .i64 m.id, .bool m.rs, .int .i64 m.op, .bool m.aa, .bool m.tc, .bool m.rd, .bool m.ra, .bool m.ad, .bool m.cd, .int .i64 m.rc, .slice qa m.qs.length qc, .slice na m.an.length nc, .slice ua m.au.length uc, .slice ra m.ar.length rcc] 25) = w0 := ⟨_, rfl⟩
  rw [hw0] at hbox hbel HMSG0 ⊢
  have HBOX := Lib.hid hbox; have HBEL := Lib.hid hbel
  have b0 := hbox.c0; have b1 := hbox.c1; have b2 := hbox.c2; have b3 := hbox.c3; have b4 := hbox.c4; have b5 := hbox.c5; have b6 := hbox.c6; have b7 := hbox.c7; have b8 := hbox.c8; have b9 := hbox.c9; have b10 := hbox.c10; have b11 := hbox.c11; have b12 := hbox.c12; have b13 := hbox.c13
  dsimp only at b10 b11 b12 b13
  have CK1 := Lib.hid (CK.out w0 (HM.out.below hbel rfl))
  clear hbox hbel hw0 CK
  by_cases hc : checkB m = true
  · have hcE : (if checkB m then (0 : Int) else 8) = 0 := by rw [if_pos hc]
    rw [hcE] at CK1
    go_wp2_with fail
    refine CK1.out.mono ?_
    rintro e w1 ⟨rfl, hB1⟩
    have HMSG := Lib.hid (HMSG0.out.below hB1 HBOX.out.lt)
    have HB1 := Lib.hid (HBEL.out.trans (hB1.mono HBEL.out.size))
    clear b0 b1 b2 b3 b4 b5 b6 b7 b8 b9 b10 b11 b12 b13
    have hw01 : w.heap.size < w1.heap.size := Nat.lt_of_lt_of_le HBOX.out.lt hB1.size
    have hpk := rpaper_made w1 w.heap.size (by omega)
    have HE1 : Hid (EffR w.heap.size w1.heap.size noZ w1 (w1.alloc (.cells #[.slice none 0 0, .slice none 0 0, .slice none 0 0] 152))) := Lib.hid (EffR.of_below ((Below.refl _ _).alloc (Nat.le_refl _) _) (by omega))
    clear hB1
    have HCK := Lib.hid (check_use hc); have HCN := Lib.hid (check_num hc); have HCL := Lib.hid (check_len hc)
    go_upto_region 4 with (fail)
    obtain ⟨w2, hw2⟩ : ∃ w2, w1.alloc (.cells #[.slice none 0 0, .slice none 0 0, .slice none 0 0] 152) = w2 := ⟨_, rfl⟩
    rw [hw2] at hpk HE1 ⊢
    obtain ⟨B, hB⟩ : ∃ B, w1.heap.size = B := ⟨_, rfl⟩
    rw [hB] at hpk HE1 hw01 ⊢
    have hne : w.heap.size ≠ B := by omega
    have HU2 : Hid (RUnd w1 w2 w.heap.size B ⟨qa, qc, na, nc, ua, uc, ra, rcc⟩ m ⟨[], []⟩) := Lib.hid ⟨hpk, HE1.out.to_below, HMSG.out.effR HE1.out hne, hne⟩
    clear hw2 hpk HE1 hne hB
    have hx := HU2.out.msg.box
    have b0 := hx.c0; have b1 := hx.c1; have b2 := hx.c2; have b3 := hx.c3; have b4 := hx.c4; have b5 := hx.c5; have b6 := hx.c6; have b7 := hx.c7; have b8 := hx.c8; have b9 := hx.c9; have b10 := hx.c10; have b11 := hx.c11; have b12 := hx.c12; have b13 := hx.c13
    dsimp only at b10 b11 b12 b13
    clear hx
    obtain ⟨hop0, hop1, hrc0, hrc1⟩ := HCK.out
    obtain ⟨A0, hA0⟩ : ∃ A, bit m.rs 32768 = A := ⟨_, rfl⟩
    have hd0 := bit_bd m.rs (v := 32768) (by decide)
    rw [hA0] at hd0
    have S0 := Lib.hid (fun w => sign_any m.rs 32768 w)
    rw [hA0] at S0
    obtain ⟨A1, hA1⟩ : ∃ A, bit m.aa 1024 = A := ⟨_, rfl⟩
    have hd1 := bit_bd m.aa (v := 1024) (by decide)
    rw [hA1] at hd1
    have S1 := Lib.hid (fun w => sign_any m.aa 1024 w)
    rw [hA1] at S1
    obtain ⟨A2, hA2⟩ : ∃ A, bit m.tc 512 = A := ⟨_, rfl⟩
    have hd2 := bit_bd m.tc (v := 512) (by decide)
    rw [hA2] at hd2
    have S2 := Lib.hid (fun w => sign_any m.tc 512 w)
    rw [hA2] at S2
    obtain ⟨A3, hA3⟩ : ∃ A, bit m.rd 256 = A := ⟨_, rfl⟩
    have hd3 := bit_bd m.rd (v := 256) (by decide)
    rw [hA3] at hd3
    have S3 := Lib.hid (fun w => sign_any m.rd 256 w)
    rw [hA3] at S3
    obtain ⟨A4, hA4⟩ : ∃ A, bit m.ra 128 = A := ⟨_, rfl⟩
    have hd4 := bit_bd m.ra (v := 128) (by decide)
    rw [hA4] at hd4
    have S4 := Lib.hid (fun w => sign_any m.ra 128 w)
    rw [hA4] at S4
    obtain ⟨A5, hA5⟩ : ∃ A, bit m.ad 32 = A := ⟨_, rfl⟩
    have hd5 := bit_bd m.ad (v := 32) (by decide)
    rw [hA5] at hd5
    have S5 := Lib.hid (fun w => sign_any m.ad 32 w)
    rw [hA5] at S5
    obtain ⟨A6, hA6⟩ : ∃ A, bit m.cd 16 = A := ⟨_, rfl⟩
    have hd6 := bit_bd m.cd (v := 16) (by decide)
    rw [hA6] at hd6
    have S6 := Lib.hid (fun w => sign_any m.cd 16 w)
    rw [hA6] at S6
    obtain ⟨M0, hM0⟩ : ∃ M, 2048 * m.op = M := ⟨_, rfl⟩
    obtain ⟨B0, hB0⟩ : ∃ B, A0 + M0 = B := ⟨_, rfl⟩
    obtain ⟨B1, hB1⟩ : ∃ B, B0 + A1 = B := ⟨_, rfl⟩
    obtain ⟨B2, hB2⟩ : ∃ B, B1 + A2 = B := ⟨_, rfl⟩
    obtain ⟨B3, hB3⟩ : ∃ B, B2 + A3 = B := ⟨_, rfl⟩
    obtain ⟨B4, hB4⟩ : ∃ B, B3 + A4 = B := ⟨_, rfl⟩
    obtain ⟨B5, hB5⟩ : ∃ B, B4 + A5 = B := ⟨_, rfl⟩
    obtain ⟨B6, hB6⟩ : ∃ B, B5 + A6 = B := ⟨_, rfl⟩
    obtain ⟨V0, hV0⟩ : ∃ V, B6 + m.rc = V := ⟨_, rfl⟩
    have HVS : Hid (signsV m = V0) := Lib.hid (by unfold signsV; omega)
    have hV1 : 0 ≤ V0 ∧ V0 ≤ 65535 := by omega
    have HVW : Hid (Value.int .i64 (wrap64 (wrap64 (wrap64 (wrap64 (wrap64 (wrap64 (wrap64 (wrap64 (A0 + wrap64 (2048 * m.op)) + A1) + A2) + A3) + A4) + A5) + A6) + m.rc)) = Value.int .i64 V0) := Lib.hid (by rw [w64 (2048 * m.op) (by omega), hM0, w64 (A0 + M0) (by omega), hB0, w64 (B0 + A1) (by omega), hB1, w64 (B1 + A2) (by omega), hB2, w64 (B2 + A3) (by omega), hB3, w64 (B3 + A4) (by omega), hB4, w64 (B4 + A5) (by omega), hB5, w64 (B5 + A6) (by omega), hB6, w64 (B6 + m.rc) (by omega), hV0])
    obtain ⟨V, hV⟩ : ∃ V : Nat, V0 = V := ⟨V0.toNat, by omega⟩
    have HVV := Lib.hid hV
    have hV2 : V ≤ 65535 := by omega
    clear hA0 hd0 hB0 hA1 hd1 hB1 hA2 hd2 hB2 hA3 hd3 hB3 hA4 hd4 hB4 hA5 hd5 hB5 hA6 hd6 hB6 hM0 hV0 hV1 hop0 hop1 hrc0 hrc1 hV
    rw [HVV.out] at HVW
    go_cut [5] (fun s5 wx => s5 = .int .i64 (V : Int) ∧ Hid (RUnd w1 wx w.heap.size B ⟨qa, qc, na, nc, ua, uc, ra, rcc⟩ m ⟨[], []⟩))
    case first =>
      go_quiet ((go_at_call 121; first | exact Calls.quiet_of_same (S0.out _) | exact Calls.quiet_of_same (S1.out _) | exact Calls.quiet_of_same (S2.out _) | exact Calls.quiet_of_same (S3.out _) | exact Calls.quiet_of_same (S4.out _) | exact Calls.quiet_of_same (S5.out _) | exact Calls.quiet_of_same (S6.out _)))
      have HU3 := Lib.hid (HU2.out.below (bel_drewN (Below.refl _ _) nq))
      go_wp2_with fail
      go_meet
      exact ⟨HVW.out, HU3⟩
    case rest =>
    obtain ⟨rfl, HU4⟩ := hcut
    clear HVW HU2 b0 b1 b2 b3 b4 b5 b6 b7 b8 b9 b10 b11 b12 b13 S0 S1 S2 S3 S4 S5 S6
    go_upto_region 5 with fail
    obtain ⟨I, hI⟩ : ∃ I : Nat, m.id = I := ⟨m.id.toNat, by have := HCN.out.1; omega⟩
    have hIb : I ≤ 65535 := by have := HCN.out.1; omega
    obtain ⟨nq, hnq⟩ : ∃ n, m.qs.length = n := ⟨_, rfl⟩
    obtain ⟨na1, hna⟩ : ∃ n, m.an.length = n := ⟨_, rfl⟩
    obtain ⟨nu1, hnu⟩ : ∃ n, m.au.length = n := ⟨_, rfl⟩
    obtain ⟨nr1, hnr⟩ : ∃ n, m.ar.length = n := ⟨_, rfl⟩
    have hqb : nq ≤ 65535 := by rw [← hnq]; exact HCL.out.1
    have hab : na1 ≤ 65535 := by rw [← hna]; exact HCN.out.2.1
    have hub : nu1 ≤ 65535 := by rw [← hnu]; exact HCN.out.2.2.1
    have hrb : nr1 ≤ 65535 := by rw [← hnr]; exact HCN.out.2.2.2
    have hx := HU4.out.msg.box
    have b0 := hx.c0; have b10 := hx.c10; have b11 := hx.c11; have b12 := hx.c12; have b13 := hx.c13
    dsimp only at b10 b11 b12 b13
    rw [hI] at b0; rw [hnq] at b10; rw [hna] at b11; rw [hnu] at b12; rw [hnr] at b13
    have N1 := Lib.hid (fun w => number_any I 2 w (by omega) (by decide))
    obtain ⟨D1, hD1⟩ : ∃ D : ByteArray, (⟨(bigS I 2).toArray⟩ : ByteArray) = D := ⟨_, rfl⟩
    rw [hD1] at N1
    have s1 : D1.size = 2 := by rw [← hD1, mk_size, bigS_len]
    have N2 := Lib.hid (fun w => number_any V 2 w (by omega) (by decide))
    obtain ⟨D2, hD2⟩ : ∃ D : ByteArray, (⟨(bigS V 2).toArray⟩ : ByteArray) = D := ⟨_, rfl⟩
    rw [hD2] at N2
    have s2 : D2.size = 2 := by rw [← hD2, mk_size, bigS_len]
    have N3 := Lib.hid (fun w => number_any nq 2 w (by omega) (by decide))
    obtain ⟨D3, hD3⟩ : ∃ D : ByteArray, (⟨(bigS nq 2).toArray⟩ : ByteArray) = D := ⟨_, rfl⟩
    rw [hD3] at N3
    have s3 : D3.size = 2 := by rw [← hD3, mk_size, bigS_len]
    have N4 := Lib.hid (fun w => number_any na1 2 w (by omega) (by decide))
    obtain ⟨D4, hD4⟩ : ∃ D : ByteArray, (⟨(bigS na1 2).toArray⟩ : ByteArray) = D := ⟨_, rfl⟩
    rw [hD4] at N4
    have s4 : D4.size = 2 := by rw [← hD4, mk_size, bigS_len]
    have N5 := Lib.hid (fun w => number_any nu1 2 w (by omega) (by decide))
    obtain ⟨D5, hD5⟩ : ∃ D : ByteArray, (⟨(bigS nu1 2).toArray⟩ : ByteArray) = D := ⟨_, rfl⟩
    rw [hD5] at N5
    have s5 : D5.size = 2 := by rw [← hD5, mk_size, bigS_len]
    have N6 := Lib.hid (fun w => number_any nr1 2 w (by omega) (by decide))
    obtain ⟨D6, hD6⟩ : ∃ D : ByteArray, (⟨(bigS nr1 2).toArray⟩ : ByteArray) = D := ⟨_, rfl⟩
    rw [hD6] at N6
    have s6 : D6.size = 2 := by rw [← hD6, mk_size, bigS_len]
    have hD : (D1 ++ D2 ++ D3 ++ D4 ++ D5 ++ D6).data.toList = headP m := by
      unfold headP
      rw [← hD1, ← hD2, ← hD3, ← hD4, ← hD5, ← hD6, HVS.out, HVV.out, hI, hnq, hna, hnu, hnr, ← big2, ← big2, ← big2, ← big2, ← big2, ← big2]; simp
    have hDs : (D1 ++ D2 ++ D3 ++ D4 ++ D5 ++ D6).size = 12 := by simp [ByteArray.size_append]; omega
    have CP1 := Lib.hid (fun wx h => putx w.heap.size B noZ ⟨[], []⟩ (D1 ++ D2 ++ D3 ++ D4 ++ D5 ++ D6) wx h (by simp) (by omega))
    rw [hD] at CP1
    obtain ⟨q0, hq0⟩ : ∃ q0 : Pp, (⟨[] ++ headP m, []⟩ : Pp) = q0 := ⟨_, rfl⟩
    have HQ0 : Hid (q0 = ⟨headP m, []⟩) := Lib.hid (by rw [← hq0]; rfl)
    (try dsimp only at CP1)
    rw [hq0] at CP1
    have hne := HU4.out.t0
    have HNE := Lib.hid hne
    have HI := Lib.hid hI; have HNQ := Lib.hid hnq; have HNA := Lib.hid hna; have HNU := Lib.hid hnu; have HNR := Lib.hid hnr
    have hS0 : wc.drew.cell? ⟨w.heap.size, 0, none⟩ = some (.int .i64 (I : Int)) ∧ wc.drew.cell? ⟨w.heap.size, 10, none⟩ = some (.slice qa nq qc) ∧ wc.drew.cell? ⟨w.heap.size, 11, none⟩ = some (.slice na na1 nc) ∧ wc.drew.cell? ⟨w.heap.size, 12, none⟩ = some (.slice ua nu1 uc) ∧ wc.drew.cell? ⟨w.heap.size, 13, none⟩ = some (.slice ra nr1 rcc) ∧ MsgAt wc.drew w.heap.size ⟨qa, qc, na, nc, ua, uc, ra, rcc⟩ m ∧ EffR w.heap.size B noZ wc wc.drew := ⟨b0, b10, b11, b12, b13, HU4.out.msg, EffR.drewN _ B noZ wc 1⟩
    have hP0 : RPx wc.drew w.heap.size B noZ ⟨[], []⟩ := HU4.out.paper.kept (Below.refl _ _).drew
    have n2 : ¬ 9223372036854775807 < D1.size + D2.size := by omega
    have m2 : D1.size + D2.size ≤ 9223372036854775807 := by omega
    have n3 : ¬ 9223372036854775807 < D1.size + D2.size + D3.size := by omega
    have m3 : D1.size + D2.size + D3.size ≤ 9223372036854775807 := by omega
    have n4 : ¬ 9223372036854775807 < D1.size + D2.size + D3.size + D4.size := by omega
    have m4 : D1.size + D2.size + D3.size + D4.size ≤ 9223372036854775807 := by omega
    have n5 : ¬ 9223372036854775807 < D1.size + D2.size + D3.size + D4.size + D5.size := by omega
    have m5 : D1.size + D2.size + D3.size + D4.size + D5.size ≤ 9223372036854775807 := by omega
    have n6 : ¬ 9223372036854775807 < D1.size + D2.size + D3.size + D4.size + D5.size + D6.size := by omega
    have m6 : D1.size + D2.size + D3.size + D4.size + D5.size + D6.size ≤ 9223372036854775807 := by omega
    clear hq0 hI hnq hna hnu hnr hD1 hD2 hD3 hD4 hD5 hD6 hD hDs s1 s2 s3 s4 s5 s6 hx hne
    go_region_held3 (fun w' => w'.cell? ⟨w.heap.size, 0, none⟩ = some (.int .i64 (I : Int)) ∧ w'.cell? ⟨w.heap.size, 10, none⟩ = some (.slice qa nq qc) ∧ w'.cell? ⟨w.heap.size, 11, none⟩ = some (.slice na na1 nc) ∧ w'.cell? ⟨w.heap.size, 12, none⟩ = some (.slice ua nu1 uc) ∧ w'.cell? ⟨w.heap.size, 13, none⟩ = some (.slice ra nr1 rcc) ∧ MsgAt w' w.heap.size ⟨qa, qc, na, nc, ua, uc, ra, rcc⟩ m ∧ EffR w.heap.size B noZ wc w') (first | assumption | (refine ⟨?_, ?_, ?_, ?_, ?_, ?_, ?_⟩ <;> assumption))
      (first
        | (go_at_call_of 123 (Value.int .i64 (I : Int)); refine (N1.out _).mono ?_; rintro e w' ⟨rfl, hBz⟩; have hPz := RPx.kept (by assumption) hBz; have hSz := keepM_step (by assumption) (EffR.of_below hBz (RPx.low (by assumption))) HNE.out; clear hBz)
        | (go_at_call_of 123 (Value.int .i64 (V : Int)); refine (N2.out _).mono ?_; rintro e w' ⟨rfl, hBz⟩; have hPz := RPx.kept (by assumption) hBz; have hSz := keepM_step (by assumption) (EffR.of_below hBz (RPx.low (by assumption))) HNE.out; clear hBz)
        | (go_at_call_of 123 (Value.int .i64 (nq : Int)); refine (N3.out _).mono ?_; rintro e w' ⟨rfl, hBz⟩; have hPz := RPx.kept (by assumption) hBz; have hSz := keepM_step (by assumption) (EffR.of_below hBz (RPx.low (by assumption))) HNE.out; clear hBz)
        | (go_at_call_of 123 (Value.int .i64 (na1 : Int)); refine (N4.out _).mono ?_; rintro e w' ⟨rfl, hBz⟩; have hPz := RPx.kept (by assumption) hBz; have hSz := keepM_step (by assumption) (EffR.of_below hBz (RPx.low (by assumption))) HNE.out; clear hBz)
        | (go_at_call_of 123 (Value.int .i64 (nu1 : Int)); refine (N5.out _).mono ?_; rintro e w' ⟨rfl, hBz⟩; have hPz := RPx.kept (by assumption) hBz; have hSz := keepM_step (by assumption) (EffR.of_below hBz (RPx.low (by assumption))) HNE.out; clear hBz)
        | (go_at_call_of 123 (Value.int .i64 (nr1 : Int)); refine (N6.out _).mono ?_; rintro e w' ⟨rfl, hBz⟩; have hPz := RPx.kept (by assumption) hBz; have hSz := keepM_step (by assumption) (EffR.of_below hBz (RPx.low (by assumption))) HNE.out; clear hBz)
        | (go_at_call 122; refine (CP1.out _ (by assumption)).mono ?_; rintro e w' ⟨rfl, hPz, hEz⟩; have hSz := keepM_step (by assumption) hEz HNE.out; clear hEz))
    have HU5 : Hid (RUnd w1 w' w.heap.size B ⟨qa, qc, na, nc, ua, uc, ra, rcc⟩ m q0) := Lib.hid (HU4.out.step hPz hSz.2.2.2.2.2.2)
    obtain ⟨wA, hwA⟩ : ∃ wA, w' = wA := ⟨_, rfl⟩
    subst hwA
    have c10 := hSz.2.1
    clear hPz hSz hS0 hP0 b0 b10 b11 b12 b13 n2 n3 n4 n5 n6 m2 m3 m4 m5 m6 N1 N2 N3 N4 N5 N6 CP1
    obtain ⟨F, hF⟩ : ∃ F, m.qs.foldl (fun p x => quesP x p) ⟨headP m, []⟩ = F := ⟨_, rfl⟩
    have HF0 : Hid ((m.qs.drop 0).foldl (fun p x => quesP x p) q0 = F) := Lib.hid (by rw [List.drop_zero, HQ0.out]; exact hF)
    have HFF := Lib.hid hF
    have HPS : Hid (R = outG (recsP (m.an ++ m.au ++ m.ar) F)) := Lib.hid (by rw [← HR.out, pack_out hc, hF]; rfl)
    have HQL0 : Hid (12 ≤ q0.out.length ∧ q0.out.length ≤ 12 + 300 * 0 ∧ q0.N.length ≤ q0.out.length) := Lib.hid (by rw [HQ0.out]; exact ⟨by simp [headP, be2], by simp [headP, be2], by simp⟩)
    clear hF
    go_wp2_with fail
    go_loopg [7, 81] (nq + 1) (fun gas _ kv wr => ∃ (k : Nat) (q : Pp), kv = .int .i64 (k : Int) ∧ k ≤ nq ∧ k + gas = nq + 1 ∧ Hid (12 ≤ q.out.length ∧ q.out.length ≤ 12 + 300 * k ∧ q.N.length ≤ q.out.length) ∧ Hid ((m.qs.drop k).foldl (fun p x => quesP x p) q = F) ∧ Hid (RUnd w1 wr w.heap.size B ⟨qa, qc, na, nc, ua, uc, ra, rcc⟩ m q))
    case atStart => exact ⟨0, q0, rfl, by omega, by omega, HQL0, HF0, HU5⟩
    case round =>
      clear HU5 HQL0 HF0 c10
      obtain ⟨k, q, rfl, hk, hkg, HQ, HF, HU⟩ := hrel
      have HK := Lib.hid hkg; clear hkg
      by_cases hlt : k < nq
      · obtain ⟨x, hx⟩ : ∃ x, m.qs[k]? = some x := ⟨_, List.getElem?_eq_getElem (by have := HNQ.out; omega)⟩
        obtain ⟨g, o, hqa, hg, hat⟩ := at_q HM.out.q hx
        obtain ⟨x0, x1, x2⟩ := (hat.below HB1.out hg).below HU.out.eff hg
        have hrx := List.all_eq_true.1 HCL.out.2.1 x (List.mem_of_getElem? hx)
        obtain ⟨ls, hls⟩ := q_use hrx
        have hnum := q_num hrx
        obtain ⟨T, hT⟩ : ∃ T : Nat, x.t = T := ⟨x.t.toNat, by omega⟩
        obtain ⟨C, hC⟩ : ∃ C : Nat, x.c = C := ⟨x.c.toNat, by omega⟩
        have N1 := Lib.hid (fun w => number_any T 2 w (by omega) (by decide))
        have N2 := Lib.hid (fun w => number_any C 2 w (by omega) (by decide))
        obtain ⟨E1, hE1⟩ : ∃ D : ByteArray, (⟨(bigS T 2).toArray⟩ : ByteArray) = D := ⟨_, rfl⟩
        obtain ⟨E2, hE2⟩ : ∃ D : ByteArray, (⟨(bigS C 2).toArray⟩ : ByteArray) = D := ⟨_, rfl⟩
        rw [hE1] at N1; rw [hE2] at N2
        have t1 : E1.size = 2 := by rw [← hE1, mk_size, bigS_len]
        have t2 : E2.size = 2 := by rw [← hE2, mk_size, bigS_len]
        have hE : (E1 ++ E2).data.toList = be2 x.t ++ be2 x.c := by
          rw [← hE1, ← hE2, hT, hC, ← big2, ← big2]; simp
        have hEs : (E1 ++ E2).size = 4 := by simp [ByteArray.size_append]; omega
        have hq := HQ.out
        have HUA := Lib.hid (HU.out.below ((Below.refl wr.heap.size wr).alloc (Nat.le_refl _) (.cells #[.string x.n, .int .i64 x.t, .int .i64 x.c] 35)))
        have HQA : Hid (QAt (wr.alloc (.cells #[.string x.n, .int .i64 x.t, .int .i64 x.c] 35)) wr.heap.size x) := Lib.hid (heap_alloc_new _ _)
        have HXB : Hid (wr.heap.size ≠ B) := Lib.hid (by have := HU.out.lt; omega)
        have hlq := HU.out.lt
        have CN := Lib.hid (rname_any w.heap.size B noZ q x.n ls _ HUA.out.paper hls (by omega) hq.2.2)
        have hqe : quesP x q = ⟨(nameP x.n.data.toList q).out ++ (be2 x.t ++ be2 x.c), (nameP x.n.data.toList q).N⟩ := rfl
        have HLN : Hid (x.n.size ≤ 255) := Lib.hid (is_len hls)
        have h1 := quesP_len x q
        have HQ2 : Hid (12 ≤ (quesP x q).out.length ∧ (quesP x q).out.length ≤ 12 + 300 * (k + 1) ∧ (quesP x q).N.length ≤ (quesP x q).out.length) := Lib.hid (by have h3 := HLN.out; exact ⟨by omega, by omega, quesP_few x q hrx hq.2.2⟩)
        have hnl := nameF_len (x.n.data.toList.length + 1) x.n.data.toList q
        rw [size_len] at hnl
        have HNL : Hid ((nameP x.n.data.toList q).out.length ≤ 1099511627776) := Lib.hid (by have := HLN.out; unfold nameP; rw [size_len]; omega)
        have HF2 : Hid ((m.qs.drop (k + 1)).foldl (fun p x => quesP x p) (quesP x q) = F) := Lib.hid (by have h := HF.out; rw [List.drop_eq_getElem?_toList_append, hx] at h; exact h)
        have CPQ := Lib.hid (fun wx h => putx w.heap.size B noZ (nameP x.n.data.toList q) (E1 ++ E2) wx h HNL.out (by omega))
        rw [hE, ← hqe] at CPQ
        obtain ⟨q5, hq5⟩ : ∃ q5, quesP x q = q5 := ⟨_, rfl⟩
        rw [hq5] at CPQ HQ2 HF2
        have HX1 := Lib.hid x1
        rw [hT] at x1
        rw [hC] at x2
        have zl : (k : Int) < (nq : Int) := by omega
        have n1 : ¬ 9223372036854775807 < E1.size + E2.size := by omega
        have m1 : E1.size + E2.size ≤ 9223372036854775807 := by omega
        rw [hT, hC] at HQA HUA CN
        have HTC : Hid (x.t = T ∧ x.c = C) := Lib.hid ⟨hT, hC⟩
        subst hqa
        clear hx hat hrx hls hnum hq hE1 hE2 hE hEs hqe h1 hnl hq5 hT hC HX1 t1 t2
        go_wp2_with fail
        refine CN.out.mono ?_
        rintro e w8 ⟨rfl, hp8, he8⟩
        have HU8 := Lib.hid (HUA.out.step hp8 he8)
        have HQ8 := Lib.hid (HQA.out.effR he8 HXB.out)
        clear hp8 he8 x0 x1 x2
        have y1 := HQ8.out.c.2.1; have y2 := HQ8.out.c.2.2
        rw [HTC.out.1] at y1
        rw [HTC.out.2] at y2
        obtain ⟨X, hX⟩ : ∃ X, wr.heap.size = X := ⟨_, rfl⟩
        rw [hX] at HXB HQ8 y1 y2 ⊢
        have hS0 : w8.drew.cell? ⟨X, 1, none⟩ = some (.int .i64 (T : Int)) ∧ w8.drew.cell? ⟨X, 2, none⟩ = some (.int .i64 (C : Int)) ∧ QAt w8.drew X x ∧ EffR w.heap.size B noZ w8 w8.drew := ⟨y1, y2, HQ8.out, EffR.drewN _ B noZ w8 1⟩
        have hP0 : RPx w8.drew w.heap.size B noZ (nameP x.n.data.toList q) := HU8.out.paper.kept (Below.refl _ _).drew
        go_wp2_with fail
        go_region_held3 (fun w' => w'.cell? ⟨X, 1, none⟩ = some (.int .i64 (T : Int)) ∧ w'.cell? ⟨X, 2, none⟩ = some (.int .i64 (C : Int)) ∧ QAt w' X x ∧ EffR w.heap.size B noZ w8 w') (first | assumption | (refine ⟨?_, ?_, ?_, ?_⟩ <;> assumption))
          (first
            | (go_at_call_of 123 (Value.int .i64 (T : Int)); refine (N1.out _).mono ?_; rintro e w' ⟨rfl, hBz⟩; have hPz := RPx.kept (by assumption) hBz; have hSz := keepQ_step (by assumption) (EffR.of_below hBz (RPx.low (by assumption))) HXB.out; clear hBz)
            | (go_at_call_of 123 (Value.int .i64 (C : Int)); refine (N2.out _).mono ?_; rintro e w' ⟨rfl, hBz⟩; have hPz := RPx.kept (by assumption) hBz; have hSz := keepQ_step (by assumption) (EffR.of_below hBz (RPx.low (by assumption))) HXB.out; clear hBz)
            | (go_at_call 122; refine (CPQ.out _ (by assumption)).mono ?_; rintro e w' ⟨rfl, hPz, hEz⟩; have hSz := keepQ_step (by assumption) hEz HXB.out; clear hEz))
        have HU9 := Lib.hid (HU8.out.step hPz hSz.2.2.2)
        clear hPz hSz hS0 hP0 y1 y2
        go_wp2_with fail
        have hkg := HK.out
        go_roundg (gk - 1)
        case rel => exact ⟨k + 1, q5, by go_num, by omega, by omega, HQ2, HF2, HU9⟩
        case measure => omega
      · have hFq : F = q := by
          have h := HF.out
          rw [List.drop_of_length_le (by have := HNQ.out; omega)] at h
          exact h.symm
        have HPS2 : Hid (R = outG (recsP (m.an ++ m.au ++ m.ar) q)) := Lib.hid (by rw [HPS.out, hFq])
        have HQ1 : Hid (12 ≤ q.out.length ∧ q.out.length ≤ 1099511627776 ∧ q.N.length ≤ q.out.length) := Lib.hid (by have := HQ.out; exact ⟨by omega, by omega, this.2.2⟩)
        have hkq : k = nq := by omega
        subst hkq
        clear hFq hlt HQ HF
        obtain ⟨i0, hi, hz0, hz1, hz2⟩ := info_parts infoRec
        have hx := HU.out.msg.box
        have b11 := hx.c11
        dsimp only at b11
        rw [HNA.out] at b11
        have hlow := HU.out.paper.low
        have S1 := Lib.hid (cells_rd Rc.cells 5 (by decide) (fun _ => rfl) (HM.out.n.below (HB1.out.trans HU.out.eff) rfl) nc HNIL.out.n)
        rw [HNA.out] at S1
        clear hx
        go_wp2_with (at_builtin; refine wpList_append_src rfl (.tmp 99) (.tmp 101) 23 rfl w.heap.size 43 i0 _ 5 56 Tryz.underlying23 hi hz0 hz1 hz2 rfl (by decide) _ 0 [] rfl (World.ownsRow_nil _ _ _ _) na na1 nc (m.an.flatMap Rc.cells) rfl (by rw [flat_len Rc.cells 5 (fun _ => rfl), HNA.out]) S1.out (one_cells rec_one) (by unfold maxLen; omega) (by omega) hlow ?_)
        intro v1 wB hown1 hgr1
        have HU1 := Lib.hid (HU.out.grown (World.ownsRow_nil _ _ _ _) hgr1)
        have HOW1 : Hid (wB.ownsRow w.heap.size 43 5 v1 na1 (m.an.flatMap Rc.cells)) := Lib.hid (by first | exact hown1 | simpa using hown1)
        have b12 := HU1.out.msg.box.c12
        dsimp only at b12
        rw [HNU.out] at b12
        have hlow1 := HU1.out.paper.low
        have S2 := Lib.hid (cells_rd Rc.cells 5 (by decide) (fun _ => rfl) (HM.out.u.below (HB1.out.trans HU1.out.eff) rfl) uc HNIL.out.u)
        rw [HNU.out] at S2
        clear hown1 hgr1 b11 hlow
        go_wp2_with (at_builtin; refine wpList_append_src rfl (.tmp 103) (.tmp 105) 23 rfl w.heap.size 43 i0 _ 5 56 Tryz.underlying23 hi hz0 hz1 hz2 rfl (by decide) _ na1 (m.an.flatMap Rc.cells) rfl HOW1.out ua nu1 uc (m.au.flatMap Rc.cells) rfl (by rw [flat_len Rc.cells 5 (fun _ => rfl), HNU.out]) S2.out (one_cells rec_one) (by unfold maxLen; omega) (by omega) hlow1 ?_)
        intro v2 wC hown2 hgr2
        have HU2 := Lib.hid (HU1.out.grown HOW1.out hgr2)
        have HOW2 := Lib.hid hown2
        have b13 := HU2.out.msg.box.c13
        dsimp only at b13
        rw [HNR.out] at b13
        have hlow2 := HU2.out.paper.low
        have S3 := Lib.hid (cells_rd Rc.cells 5 (by decide) (fun _ => rfl) (HM.out.r.below (HB1.out.trans HU2.out.eff) rfl) rcc HNIL.out.r)
        rw [HNR.out] at S3
        clear hown2 hgr2 b12 hlow1
        go_wp2_with (at_builtin; refine wpList_append_src rfl (.tmp 107) (.tmp 109) 23 rfl w.heap.size 43 i0 _ 5 56 Tryz.underlying23 hi hz0 hz1 hz2 rfl (by decide) _ (na1 + nu1) (m.an.flatMap Rc.cells ++ m.au.flatMap Rc.cells) rfl HOW2.out ra nr1 rcc (m.ar.flatMap Rc.cells) rfl (by rw [flat_len Rc.cells 5 (fun _ => rfl), HNR.out]) S3.out (one_cells rec_one) (by unfold maxLen; omega) (by omega) hlow2 ?_)
        intro v3 wD hown3 hgr3
        have HU3 := Lib.hid (HU2.out.grown HOW2.out hgr3)
        obtain ⟨L, hL⟩ : ∃ L, m.an ++ m.au ++ m.ar = L := ⟨_, rfl⟩
        obtain ⟨nl, hnl⟩ : ∃ nl, na1 + nu1 + nr1 = nl := ⟨_, rfl⟩
        have hLl : nl = L.length := by rw [← hL, ← hnl, List.length_append, List.length_append, HNA.out, HNU.out, HNR.out]
        have hcl : m.an.flatMap Rc.cells ++ m.au.flatMap Rc.cells ++ m.ar.flatMap Rc.cells = L.flatMap Rc.cells := by rw [← hL]; simp
        have hown3' : wD.ownsRow w.heap.size 43 5 v3 nl (L.flatMap Rc.cells) := by
          rw [← hcl, ← hnl]; first | exact hown3 | (rw [List.append_assoc]; exact hown3)
        clear hown3
        have hown3 := hown3'
        clear hown3'
        have hLall : L.all rightB = true := by
          rw [← hL, List.all_append, List.all_append, HCL.out.2.2.1, HCL.out.2.2.2.1, HCL.out.2.2.2.2]; rfl
        obtain ⟨al, cl, rfl, hcl1, hcl2, _, _⟩ := rdc_own Rc.cells 5 (fun _ => rfl) hLl hown3
        have HOW3 := Lib.hid hown3
        obtain ⟨G, hG⟩ : ∃ G, recsP L q = G := ⟨_, rfl⟩
        have HG0 : Hid (recsP (L.drop 0) q = G) := Lib.hid (by rw [List.drop_zero]; exact hG)
        have HPS3 : Hid (R = outG G) := Lib.hid (by rw [HPS2.out, hL, hG])
        have HLL := Lib.hid hLl; have HALL := Lib.hid hLall
        have hnlb : nl ≤ 196605 := by omega
        clear hown3 hgr3 b13 hlow2 hL hnl hLl hcl hLall hG hcl1 S1 S2 S3 HOW1 HOW2 HU1 HU2
        go_wp2_with fail
        go_loopg [10, 113] (nl + 1) (fun gas _ kv wr => ∃ (k : Nat) (q : Pp), kv = .int .i64 (k : Int) ∧ k ≤ nl ∧ k + gas = nl + 1 ∧ Hid (12 ≤ q.out.length ∧ q.out.length ≤ 1099511627776 ∧ q.N.length ≤ q.out.length) ∧ Hid (recsP (L.drop k) q = G) ∧ Hid (RUnd w1 wr w.heap.size B ⟨qa, qc, na, nc, ua, uc, ra, rcc⟩ m q) ∧ Hid (wr.ownsRow w.heap.size 43 5 (.slice al nl cl) nl (L.flatMap Rc.cells)))
        case atStart => exact ⟨0, q, rfl, by omega, by omega, HQ1, HG0, HU3, HOW3⟩
        case round =>
          clear HU3 HG0 HQ1 HOW3
          obtain ⟨k, q, rfl, hk, hkg, HQ, HG, HU, HOW⟩ := hrel
          have HK := Lib.hid hkg; clear hkg
          by_cases hlt : k < nl
          · obtain ⟨x, hx⟩ : ∃ x, L[k]? = some x := ⟨_, List.getElem?_eq_getElem (by have := HLL.out; omega)⟩
            obtain ⟨a', c', hv', _, _, _, hrd⟩ := rdc_own Rc.cells 5 (fun _ => rfl) HLL.out HOW.out
            cases hv'
            obtain ⟨g, o, rfl, hg, hat⟩ := at_r hrd hx
            obtain ⟨x0, x1, x2, x3, x4⟩ := hat
            have hrx := List.all_eq_true.1 HALL.out x (List.mem_of_getElem? hx)
            obtain ⟨⟨ls, hls⟩, hl0, hl1, hds, hfit⟩ := right_use hrx
            have hnum := right_num hrx
            have hq := HQ.out
            have hBa := (Below.refl wr.heap.size wr).alloc (Nat.le_refl _) (.cells #[.string x.o, .int .i64 x.t, .int .i64 x.c, .int .i64 x.l, .string x.d] 43)
            have HUA := Lib.hid (HU.out.below hBa)
            have HOA := Lib.hid (HOW.out.alloc (.cells #[.string x.o, .int .i64 x.t, .int .i64 x.c, .int .i64 x.l, .string x.d] 43))
            obtain ⟨_, v4, v5, v6, hp⟩ := HUA.out.paper
            obtain ⟨a4, c4, rfl⟩ := own_slice1 hp.o1
            have hk0 := hp.c0
            have hlq := HU.out.lt
            have hg' : recsP (x :: L.drop (k + 1)) q = G := by
              have h := HG.out
              rw [List.drop_eq_getElem?_toList_append, hx] at h
              exact h
            obtain ⟨O, hO⟩ : ∃ O, q.out.length = O := ⟨_, rfl⟩
            have zl : (k : Int) < (nl : Int) := by omega
            rw [hO] at hk0
            by_cases hbig : 65535 < O
            · have hRv : R = ([], 12) := by
                rw [HPS3.out, ← hg', recsP_big (by rw [hO]; exact hbig)]; rfl
              have hbi : (65535 : Int) < (O : Int) := by omega
              have HEF := Lib.hid (HB1.out.trans HUA.out.eff)
              clear hg' hq hrx hls hfit hx hbig HUA HOA hp hrd hBa
              subst hRv
              go_wp2_with fail
              go_ret2
              exact ⟨_, rfl, World.ownsRow_nil _ _ _ _, HEF.out⟩
            · have hbi : (O : Int) ≤ 65535 := by omega
              have HG2 : Hid (recsP (L.drop (k + 1)) (recP x q) = G) := Lib.hid (by
                rw [← hg', recsP_go (by rw [hO]; exact hbig)])
              have hol := is_len hls
              have CN := Lib.hid (rrec_any w.heap.size B noZ q x ls _ HUA.out.paper (by omega) hq.2.2 hls hnum.1.1 hnum.1.2 hnum.2.1.1 hnum.2.1.2 hl0 hl1 hds hfit)
              have HRF : Hid (12 ≤ (recP x q).out.length ∧ (recP x q).out.length ≤ 1099511627776 ∧ (recP x q).N.length ≤ (recP x q).out.length) := Lib.hid ⟨by have := recP_len x q; omega, by have := recP_up x q hol hds; omega, recP_few x q hrx hq.2.2⟩
              clear hg' hq hrx hls hfit hx hbig hp hrd hBa hnum hl0 hl1 hds hol
              go_wp2_with fail
              refine CN.out.mono ?_
              rintro e w8 ⟨rfl, hp8, he8⟩
              have HU8 := Lib.hid (HUA.out.step hp8 he8)
              have HO8 := Lib.hid (own_effR HOA.out he8 HUA.out.blk)
              clear hp8 he8 x0 x1 x2 x3 x4 hk0
              go_wp2_with fail
              have hkg := HK.out
              go_roundg (gk - 1)
              case rel => exact ⟨k + 1, recP x q, by go_num, by omega, by omega, HRF, HG2, HU8, HO8⟩
              case measure => omega
          · have hG : recsP [] q = G := by
              have h := HG.out
              rw [List.drop_of_length_le (by have := HLL.out; omega)] at h
              exact h
            obtain ⟨_, v4, v5, v6, hp⟩ := HU.out.paper
            obtain ⟨a4, c4, rfl⟩ := own_slice1 hp.o1
            have hk0 := hp.c0
            have hlq := HU.out.lt
            have HOU := Lib.hid hp.o1
            obtain ⟨O, hO⟩ : ∃ O, q.out.length = O := ⟨_, rfl⟩
            rw [hO] at hk0 HOU
            have hq := HQ.out
            have HEF := Lib.hid (HB1.out.trans HU.out.eff)
            by_cases hbig : 65535 < O
            · have hRv : R = ([], 12) := by
                rw [HPS3.out, ← hG]; simp only [recsP]; rw [if_pos (by rw [hO]; exact hbig)]; rfl
              have hbi : (65535 : Int) < (O : Int) := by omega
              clear hG hq hO hbig hp
              subst hRv
              go_wp2_with fail
              go_ret2
              exact ⟨_, rfl, World.ownsRow_nil _ _ _ _, HEF.out⟩
            · have hRv : R = (q.out, 0) := by
                rw [HPS3.out, ← hG]; simp only [recsP]; rw [if_neg (by rw [hO]; exact hbig)]; rfl
              have hbi : (O : Int) ≤ 65535 := by omega
              have HOO := Lib.hid hO
              clear hG hq hO hbig hp
              subst hRv
              go_wp2_with fail
              go_ret2
              refine ⟨.slice a4 O c4, rfl, ?_, HEF.out⟩
              show World.ownsRow _ w.heap.size 5 1 (.slice a4 O c4) q.out.length (Lib.byteCells q.out)
              rw [HOO.out]; exact HOU.out
  · have hcE : (if checkB m then (0 : Int) else 8) = 8 := by rw [if_neg hc]
    rw [hcE] at CK1
    obtain rfl : R = ([], 8) := by rw [← HR.out]; unfold packS; rw [if_pos (by simpa using hc)]
    go_wp2_with fail
    refine CK1.out.mono ?_
    rintro e w1 ⟨rfl, hB1⟩
    go_wp2_with fail
    go_ret2
    exact ⟨_, rfl, World.ownsRow_nil _ _ _ _, HBEL.out.trans (hB1.mono HBEL.out.size)⟩
end Go.Proofs.YtnamkladeaohoaaGreat.rpack
namespace Go.Proofs.YtnamkladeaohoaaGreat.putM
open Go.RowKit Go.Proofs.YtnamkladeaohoaaGreat.kit Go.Proofs.YtnamkladeaohoaaGreat.wireP Go.Proofs.YtnamkladeaohoaaGreat.wireM Go.Proofs.YtnamkladeaohoaaGreat.wpack
set_option linter.unusedVariables false

/-- a message laid over another -/
def putM (w : World) (b : Nat) (p : Pl) (m : Mg) : World := ((((((((((((((w.setCell ⟨b, 0, none⟩ (.int .i64 m.id)).setCell ⟨b, 1, none⟩ (.bool m.rs)).setCell ⟨b, 2, none⟩ (.int .i64 m.op)).setCell ⟨b, 3, none⟩ (.bool m.aa)).setCell ⟨b, 4, none⟩ (.bool m.tc)).setCell ⟨b, 5, none⟩ (.bool m.rd)).setCell ⟨b, 6, none⟩ (.bool m.ra)).setCell ⟨b, 7, none⟩ (.bool m.ad)).setCell ⟨b, 8, none⟩ (.bool m.cd)).setCell ⟨b, 9, none⟩ (.int .i64 m.rc)).setCell ⟨b, 10, none⟩ (.slice p.qa m.qs.length p.qc)).setCell ⟨b, 11, none⟩ (.slice p.na m.an.length p.nc)).setCell ⟨b, 12, none⟩ (.slice p.ua m.au.length p.uc)).setCell ⟨b, 13, none⟩ (.slice p.ra m.ar.length p.rc))
theorem putM_blk {w : World} {b : Nat} {c : Array Value} (p : Pl) (m : Mg) (h : w.heap[b]? = some (.cells c 25 (0, 0))) (hc : c.size = 14) : MsgAt (putM w b p m) b p m := by
  obtain ⟨c0, c1, c2, c3, c4, c5, c6, c7, c8, c9, c10, c11, c12, c13, rfl⟩ : ∃ c0 c1 c2 c3 c4 c5 c6 c7 c8 c9 c10 c11 c12 c13, c = #[c0, c1, c2, c3, c4, c5, c6, c7, c8, c9, c10, c11, c12, c13] := by
    obtain ⟨l⟩ := c
    match l, hc with
    | [c0, c1, c2, c3, c4, c5, c6, c7, c8, c9, c10, c11, c12, c13], _ => exact ⟨c0, c1, c2, c3, c4, c5, c6, c7, c8, c9, c10, c11, c12, c13, rfl⟩
  clear hc
  have s0 := heap_setCell_same _ b 0 _ _ (.int .i64 m.id) h
  have s1 := heap_setCell_same _ b 1 _ _ (.bool m.rs) s0
  have s2 := heap_setCell_same _ b 2 _ _ (.int .i64 m.op) s1
  have s3 := heap_setCell_same _ b 3 _ _ (.bool m.aa) s2
  have s4 := heap_setCell_same _ b 4 _ _ (.bool m.tc) s3
  have s5 := heap_setCell_same _ b 5 _ _ (.bool m.rd) s4
  have s6 := heap_setCell_same _ b 6 _ _ (.bool m.ra) s5
  have s7 := heap_setCell_same _ b 7 _ _ (.bool m.ad) s6
  have s8 := heap_setCell_same _ b 8 _ _ (.bool m.cd) s7
  have s9 := heap_setCell_same _ b 9 _ _ (.int .i64 m.rc) s8
  have s10 := heap_setCell_same _ b 10 _ _ (.slice p.qa m.qs.length p.qc) s9
  have s11 := heap_setCell_same _ b 11 _ _ (.slice p.na m.an.length p.nc) s10
  have s12 := heap_setCell_same _ b 12 _ _ (.slice p.ua m.au.length p.uc) s11
  have s13 := heap_setCell_same _ b 13 _ _ (.slice p.ra m.ar.length p.rc) s12
  unfold MsgAt putM
  rw [s13]
  simp [cellsM]
theorem far_one {w : World} {b k j : Nat} {v : Value} (h : k ≠ b) : (w.setCell ⟨b, j, none⟩ v).heap[k]? = w.heap[k]? := Below.heap_setCell _ ⟨b, j, none⟩ _ k h
theorem putM_far {w : World} {b k : Nat} (p : Pl) (m : Mg) (h : k ≠ b) : (putM w b p m).heap[k]? = w.heap[k]? := by
  unfold putM
  rw [far_one h, far_one h, far_one h, far_one h, far_one h, far_one h, far_one h, far_one h, far_one h, far_one h, far_one h, far_one h, far_one h, far_one h]
theorem below_one {w w0 : World} {b B j : Nat} {v : Value} (h : Below B w0 w) (hb : B ≤ b) : Below B w0 (w.setCell ⟨b, j, none⟩ v) := h.setCell (p := ⟨b, j, none⟩) hb v
theorem putM_below {w w0 : World} {b B : Nat} (p : Pl) (m : Mg) (h : Below B w0 w) (hb : B ≤ b) : Below B w0 (putM w b p m) := by
  unfold putM
  exact (below_one (below_one (below_one (below_one (below_one (below_one (below_one (below_one (below_one (below_one (below_one (below_one (below_one (below_one h hb) hb) hb) hb) hb) hb) hb) hb) hb) hb) hb) hb) hb) hb)
end Go.Proofs.YtnamkladeaohoaaGreat.putM
namespace Go.Proofs.YtnamkladeaohoaaGreat.twinM
open Go.RowKit Go.Proofs.YtnamkladeaohoaaGreat.kit Go.Proofs.YtnamkladeaohoaaGreat.timed Go.Proofs.YtnamkladeaohoaaGreat.nspec Go.Proofs.YtnamkladeaohoaaGreat.coded Go.Proofs.YtnamkladeaohoaaGreat.wireP Go.Proofs.YtnamkladeaohoaaGreat.wireM Go.Proofs.YtnamkladeaohoaaGreat.wpack Go.Proofs.YtnamkladeaohoaaGreat.rows Go.Proofs.YtnamkladeaohoaaGreat.same Go.Proofs.YtnamkladeaohoaaGreat.rpack Go.Proofs.YtnamkladeaohoaaGreat.putM
set_option linter.unusedVariables false

/-- a list of one's own with two behind its end -/
def TwR (w : World) (base : Nat) (a : Option Addr) (c : Nat) (L : List Rc) : Prop :=
  L.length + 2 ≤ c ∧ c ≤ maxLen ∧ (∃ g, a = some ⟨g, 0, none⟩) ∧ w.ownsRow base 43 5 (.slice a (L.length + 2) c) (L.length + 2) ((L ++ [spareR, spareR]).flatMap Rc.cells)
theorem TwR.move {w w1 : World} {base : Nat} {a : Option Addr} {c : Nat} {L : List Rc} (h : TwR w base a c L) (hk : ∀ (k : Nat) (cur : Array Value), w.heap[k]? = some (Obj.cells cur 43 (0, 0)) → w1.heap[k]? = some (Obj.cells cur 43 (0, 0))) : TwR w1 base a c L :=
  ⟨h.1, h.2.1, h.2.2.1, own_keptG h.2.2.2 hk⟩
theorem TwR.below {w w1 : World} {base : Nat} {a : Option Addr} {c : Nat} {L : List Rc} (h : TwR w base a c L) (hB : Below w.heap.size w w1) : TwR w1 base a c L :=
  h.move (fun k cur hk => (hB.block k (Array.getElem?_eq_some_iff.1 hk).1).trans hk)
theorem TwR.rd {w : World} {base : Nat} {a : Option Addr} {c : Nat} {L : List Rc} (h : TwR w base a c L) : RdC w a 5 (L.map Rc.cells) := by
  obtain ⟨a', c', e, _, _, _, h2⟩ := rdc_own Rc.cells 5 (fun _ => rfl) (by simp) h.2.2.2
  cases e
  rw [List.map_append] at h2
  exact rdc_part h2
/-- a message with lists of its own -/
structure TwM (w : World) (base : Nat) (p : Pl) (m : Mg) : Prop where
  q : w.ownsRow base 35 3 (.slice p.qa m.qs.length p.qc) m.qs.length (m.qs.flatMap Qn.cells)
  n : TwR w base p.na p.nc m.an
  u : TwR w base p.ua p.uc m.au
  r : TwR w base p.ra p.rc m.ar
theorem TwM.move {w w1 : World} {base : Nat} {p : Pl} {m : Mg} (h : TwM w base p m) (hk : ∀ (k : Nat) (o : Obj), w.heap[k]? = some o → (∀ c f, o ≠ .cells c 25 f) → w1.heap[k]? = some o) : TwM w1 base p m := by
  refine ⟨own_keptG h.q (fun k c hc => hk k _ hc ?_), h.n.move (fun k c hc => hk k _ hc ?_), h.u.move (fun k c hc => hk k _ hc ?_), h.r.move (fun k c hc => hk k _ hc ?_)⟩ <;> (intro c' f' e; injection e with _ e2 _; exact absurd e2 (by decide))
theorem TwM.below {w w1 : World} {base : Nat} {p : Pl} {m : Mg} (h : TwM w base p m) (hB : Below w.heap.size w w1) : TwM w1 base p m :=
  h.move (fun k o hk _ => (hB.block k (Array.getElem?_eq_some_iff.1 hk).1).trans hk)
theorem TwM.rd {w : World} {base : Nat} {p : Pl} {m : Mg} (h : TwM w base p m) : RdM w p m := by
  refine ⟨?_, h.n.rd, h.u.rd, h.r.rd⟩
  obtain ⟨a', c', e, _, _, _, h2⟩ := rdc_own Qn.cells 3 (fun _ => rfl) rfl h.q
  cases e; exact h2
theorem own_baseG {w : World} {b base : Nat} {e : TypeId} {size : Nat} {v : Value} {n : Nat} {xs : List Value} (hb : b ≤ base) (h : w.ownsRow base e size v n xs) : w.ownsRow b e size v n xs := by
  refine ⟨h.1, ?_⟩
  rcases h.2 with h1 | ⟨g, cap, cur, h1, h2, h3, h4⟩
  · exact .inl h1
  · exact .inr ⟨g, cap, cur, h1, by omega, h3, h4⟩
theorem twin_at (w0 : World) (a : Option Addr) (c : Nat) (L : List Rc) (hr : RdC w0 a 5 (L.map Rc.cells)) (ha : a = none → L.length = 0 ∧ c = 0) (hl : L.length ≤ 1099511627776) (w : World) (hB : Below w0.heap.size w0 w) :
    Calls Tryz.prog 15 #[.slice a L.length c] w fun e w' => ∃ g cap, e = .returned (.slice (some ⟨g, 0, none⟩) L.length cap) ∧ TwR w' w0.heap.size (some ⟨g, 0, none⟩) cap L ∧ Below w.heap.size w w' :=
  (twin_any a L.length c L w rfl (hr.below hB rfl) ha hl).mono fun e w' ⟨g, cap, h1, h2, h3, h4, h5⟩ => ⟨g, cap, h1, ⟨h2, h3, ⟨g, rfl⟩, own_baseG hB.size h4⟩, h5⟩
/-- a message's block behind a call -/
theorem boxK {w W w1 : World} {b : Nat} {p : Pl} {m : Mg} {x y z : Nat} (hx : m.an.length = x) (hy : m.au.length = y) (hz : m.ar.length = z) (hM : MsgAt W b p m) (hB : Below w.heap.size w W) (h1 : Below W.heap.size W w1) :
    MsgAt w1 b p m ∧ Below w.heap.size w w1 ∧ b < w1.heap.size ∧ w1.cell? ⟨b, 11, none⟩ = some (.slice p.na x p.nc) ∧ w1.cell? ⟨b, 12, none⟩ = some (.slice p.ua y p.uc) ∧ w1.cell? ⟨b, 13, none⟩ = some (.slice p.ra z p.rc) ∧ w1.frozen? ⟨b, 11, none⟩ = false ∧ w1.frozen? ⟨b, 12, none⟩ = false ∧ w1.frozen? ⟨b, 13, none⟩ = false := by
  have hM1 := hM.below h1 hM.box.lt
  have hf : ∀ j, w1.frozen? ⟨b, j, none⟩ = false := by
    intro j; have h := hM1; unfold MsgAt at h; simp only [World.frozen?, h]; simp
  subst hx; subst hy; subst hz
  exact ⟨hM1, hB.trans (h1.mono hB.size), hM1.box.lt, hM1.box.c11, hM1.box.c12, hM1.box.c13, hf 11, hf 12, hf 13⟩
theorem twin_end {w wD w5 w6 w7 : World} {m : Mg} {a1 na ua ra : Option Addr} {c1 nc uc rcc g1 g2 g3 p1 p2 p3 nq x y z : Nat} {zs : Array Value} (hq : m.qs.length = nq) (hx : m.an.length = x) (hy : m.au.length = y) (hz : m.ar.length = z)
    (hM : MsgAt w7 w.heap.size ⟨a1, c1, na, nc, ua, uc, ra, rcc⟩ m) (hB : Below w.heap.size w w7) (ho : wD.ownsRow w.heap.size 35 3 (.slice a1 nq c1) nq (m.qs.flatMap Qn.cells)) (hzs : wD.heap[w.heap.size + 1]? = some (.cells zs 25 (0, 0)))
    (hb1 : Below wD.heap.size wD w5) (hb2 : Below w5.heap.size w5 w6) (hb3 : Below w6.heap.size w6 w7) (hr1 : TwR w5 w.heap.size (some ⟨g1, 0, none⟩) p1 m.an) (hr2 : TwR w6 w.heap.size (some ⟨g2, 0, none⟩) p2 m.au) (hr3 : TwR w7 w.heap.size (some ⟨g3, 0, none⟩) p3 m.ar) :
    Hid (MsgAt (((w7.setCell ⟨w.heap.size, 11, none⟩ (.slice (some ⟨g1, 0, none⟩) x p1)).setCell ⟨w.heap.size, 12, none⟩ (.slice (some ⟨g2, 0, none⟩) y p2)).setCell ⟨w.heap.size, 13, none⟩ (.slice (some ⟨g3, 0, none⟩) z p3)) w.heap.size ⟨a1, c1, some ⟨g1, 0, none⟩, p1, some ⟨g2, 0, none⟩, p2, some ⟨g3, 0, none⟩, p3⟩ m) ∧
    Hid (TwM (((w7.setCell ⟨w.heap.size, 11, none⟩ (.slice (some ⟨g1, 0, none⟩) x p1)).setCell ⟨w.heap.size, 12, none⟩ (.slice (some ⟨g2, 0, none⟩) y p2)).setCell ⟨w.heap.size, 13, none⟩ (.slice (some ⟨g3, 0, none⟩) z p3)) w.heap.size ⟨a1, c1, some ⟨g1, 0, none⟩, p1, some ⟨g2, 0, none⟩, p2, some ⟨g3, 0, none⟩, p3⟩ m) ∧
    Hid ((((w7.setCell ⟨w.heap.size, 11, none⟩ (.slice (some ⟨g1, 0, none⟩) x p1)).setCell ⟨w.heap.size, 12, none⟩ (.slice (some ⟨g2, 0, none⟩) y p2)).setCell ⟨w.heap.size, 13, none⟩ (.slice (some ⟨g3, 0, none⟩) z p3)).heap[w.heap.size + 1]? = some (.cells zs 25 (0, 0))) ∧
    Hid (Below w.heap.size w (((w7.setCell ⟨w.heap.size, 11, none⟩ (.slice (some ⟨g1, 0, none⟩) x p1)).setCell ⟨w.heap.size, 12, none⟩ (.slice (some ⟨g2, 0, none⟩) y p2)).setCell ⟨w.heap.size, 13, none⟩ (.slice (some ⟨g3, 0, none⟩) z p3))) := by
  have hbD : Below wD.heap.size wD w7 := (hb1.trans (hb2.mono hb1.size)).trans (hb3.mono (Nat.le_trans hb1.size hb2.size))
  have hT7 : TwM w7 w.heap.size ⟨a1, c1, some ⟨g1, 0, none⟩, p1, some ⟨g2, 0, none⟩, p2, some ⟨g3, 0, none⟩, p3⟩ m :=
    ⟨by dsimp only; rw [hq]; exact own_keptG ho (fun k c hk => (hbD.block k (Array.getElem?_eq_some_iff.1 hk).1).trans hk), hr1.below (hb2.trans (hb3.mono hb2.size)), hr2.below hb3, hr3⟩
  have hz7 : w7.heap[w.heap.size + 1]? = some (.cells zs 25 (0, 0)) := (hbD.block _ (Array.getElem?_eq_some_iff.1 hzs).1).trans hzs
  have s1 := heap_setCell_same w7 w.heap.size 11 _ _ (.slice (some ⟨g1, 0, none⟩) x p1) hM
  have s2 := heap_setCell_same _ w.heap.size 12 _ _ (.slice (some ⟨g2, 0, none⟩) y p2) s1
  have s3 := heap_setCell_same _ w.heap.size 13 _ _ (.slice (some ⟨g3, 0, none⟩) z p3) s2
  have hk : ∀ (k : Nat), k ≠ w.heap.size → (((w7.setCell ⟨w.heap.size, 11, none⟩ (.slice (some ⟨g1, 0, none⟩) x p1)).setCell ⟨w.heap.size, 12, none⟩ (.slice (some ⟨g2, 0, none⟩) y p2)).setCell ⟨w.heap.size, 13, none⟩ (.slice (some ⟨g3, 0, none⟩) z p3)).heap[k]? = w7.heap[k]? := by
    intro k hk
    rw [Below.heap_setCell _ _ _ _ hk, Below.heap_setCell _ _ _ _ hk, Below.heap_setCell _ _ _ _ hk]
  refine ⟨Lib.hid ?_, Lib.hid (hT7.move ?_), Lib.hid ((hk _ (by omega)).trans hz7), Lib.hid (((hB.setCell (p := ⟨w.heap.size, 11, none⟩) (Nat.le_refl _) _).setCell (p := ⟨w.heap.size, 12, none⟩) (Nat.le_refl _) _).setCell (p := ⟨w.heap.size, 13, none⟩) (Nat.le_refl _) _)⟩
  · unfold MsgAt; rw [s3]; subst hx; subst hy; subst hz; simp [cellsM]
  · intro k o hko hn
    rw [hk k (by intro e; subst e; unfold MsgAt at hM; rw [hM] at hko; cases hko; exact hn _ _ rfl)]
    exact hko
def zeroM : Array Value := #[.int .i64 0, .bool false, .int .i64 0, .bool false, .bool false, .bool false, .bool false, .bool false, .bool false, .int .i64 0, .slice none 0 0, .slice none 0 0, .slice none 0 0, .slice none 0 0]

set_option maxRecDepth 100000 in
set_option maxHeartbeats 8000000 in
theorem twinM_any (p : Pl) (m : Mg) (w : World) (hm : RdM w p m) (hnil : NilM p m) (hqn : p.qa = none → m.qs.length = 0 ∧ p.qc = 0) (ho : OkM m) :
    Calls Tryz.prog 9 #[.agg #[.int .i64 m.id, .bool m.rs, .int .i64 m.op, .bool m.aa, .bool m.tc, .bool m.rd, .bool m.ra, .bool m.ad, .bool m.cd, .int .i64 m.rc, .slice p.qa m.qs.length p.qc, .slice p.na m.an.length p.nc, .slice p.ua m.au.length p.uc, .slice p.ra m.ar.length p.rc]] w fun e w' =>
      ∃ p', e = .returned (.agg (cellsM p' m)) ∧ TwM w' w.heap.size p' m ∧ Below w.heap.size w w' := by
  obtain ⟨i0, hi, hz0, hz1, hz2⟩ := info_parts infoQn
  have hbox := BoxM.fresh w 25 _ rfl p m
  have T1 := Lib.hid (twin_at w p.na p.nc m.an hm.n hnil.n ho.nl)
  have T2 := Lib.hid (twin_at w p.ua p.uc m.au hm.u hnil.u ho.ul)
  have T3 := Lib.hid (twin_at w p.ra p.rc m.ar hm.r hnil.r ho.rl)
  have hqs := fun (wx : World) (hB : Below w.heap.size w wx) => cells_rd Qn.cells 3 (by decide) (fun _ => rfl) (hm.q.below hB rfl) p.qc hqn
  have HQS := Lib.hid hqs
  obtain ⟨nq, hnq⟩ : ∃ n, m.qs.length = n := ⟨_, rfl⟩
  obtain ⟨na1, hna⟩ : ∃ n, m.an.length = n := ⟨_, rfl⟩
  obtain ⟨nu1, hnu⟩ : ∃ n, m.au.length = n := ⟨_, rfl⟩
  obtain ⟨nr1, hnr⟩ : ∃ n, m.ar.length = n := ⟨_, rfl⟩
  have hql := ho.ql
  rw [hnq] at hql
  have HNQ := Lib.hid hnq; have HNA := Lib.hid hna; have HNU := Lib.hid hnu; have HNR := Lib.hid hnr
  obtain ⟨qa, qc, na, nc, ua, uc, ra, rcc⟩ := p
  dsimp only at hbox T1 T2 T3 HQS ⊢
  rw [hna] at T1; rw [hnu] at T2; rw [hnr] at T3; rw [hnq] at HQS
  have HM0 : Hid (MsgAt (w.alloc (.cells #[.int .i64 m.id, .bool m.rs, .int .i64 m.op, .bool m.aa, .bool m.tc, .bool m.rd, .bool m.ra, .bool m.ad, .bool m.cd, .int .i64 m.rc, .slice qa m.qs.length qc, .slice na m.an.length nc, .slice ua m.au.length uc, .slice ra m.ar.length rcc] 25)) w.heap.size ⟨qa, qc, na, nc, ua, uc, ra, rcc⟩ m) := Lib.hid (heap_alloc_new _ _)
  rw [hnq, hna, hnu, hnr] at HM0 ⊢
  clear hm hnil hqn ho hqs hbox hnq hna hnu hnr
  go_enter Tryz.func9, Tryz.ntmps9
  go_upto_region 1 with (fail)
  have hbel := ((Below.refl w.heap.size w).alloc (Nat.le_refl _) (.cells #[.int .i64 m.id, .bool m.rs, .int .i64 m.op, .bool m.aa, .bool m.tc, .bool m.rd, .bool m.ra, .bool m.ad, .bool m.cd, .int .i64 m.rc, .slice qa nq qc, .slice na na1 nc, .slice ua nu1 uc, .slice ra nr1 rcc] 25)).alloc (by simp) (.cells #[.int .i64 0, .bool false, .int .i64 0, .bool false, .bool false, .bool false, .bool false, .bool false, .bool false, .int .i64 0, .slice none 0 0, .slice none 0 0, .slice none 0 0, .slice none 0 0] 25)
  have hM2 : MsgAt ((w.alloc (.cells #[.int .i64 m.id, .bool m.rs, .int .i64 m.op, .bool m.aa, .bool m.tc, .bool m.rd, .bool m.ra, .bool m.ad, .bool m.cd, .int .i64 m.rc, .slice qa nq qc, .slice na na1 nc, .slice ua nu1 uc, .slice ra nr1 rcc] 25)).alloc (.cells #[.int .i64 0, .bool false, .int .i64 0, .bool false, .bool false, .bool false, .bool false, .bool false, .bool false, .int .i64 0, .slice none 0 0, .slice none 0 0, .slice none 0 0, .slice none 0 0] 25)) w.heap.size ⟨qa, qc, na, nc, ua, uc, ra, rcc⟩ m := HM0.out.below ((Below.refl _ _).alloc (Nat.le_refl _) _) (by simp)
  have hZ2 : ((w.alloc (.cells #[.int .i64 m.id, .bool m.rs, .int .i64 m.op, .bool m.aa, .bool m.tc, .bool m.rd, .bool m.ra, .bool m.ad, .bool m.cd, .int .i64 m.rc, .slice qa nq qc, .slice na na1 nc, .slice ua nu1 uc, .slice ra nr1 rcc] 25)).alloc (.cells #[.int .i64 0, .bool false, .int .i64 0, .bool false, .bool false, .bool false, .bool false, .bool false, .bool false, .int .i64 0, .slice none 0 0, .slice none 0 0, .slice none 0 0, .slice none 0 0] 25)).heap[w.heap.size + 1]? = some (.cells zeroM 25 (0, 0)) := by
    have h := heap_alloc_new (w.alloc (.cells #[.int .i64 m.id, .bool m.rs, .int .i64 m.op, .bool m.aa, .bool m.tc, .bool m.rd, .bool m.ra, .bool m.ad, .bool m.cd, .int .i64 m.rc, .slice qa nq qc, .slice na na1 nc, .slice ua nu1 uc, .slice ra nr1 rcc] 25)) (.cells #[.int .i64 0, .bool false, .int .i64 0, .bool false, .bool false, .bool false, .bool false, .bool false, .bool false, .int .i64 0, .slice none 0 0, .slice none 0 0, .slice none 0 0, .slice none 0 0] 25)
    rw [show (w.alloc (.cells #[.int .i64 m.id, .bool m.rs, .int .i64 m.op, .bool m.aa, .bool m.tc, .bool m.rd, .bool m.ra, .bool m.ad, .bool m.cd, .int .i64 m.rc, .slice qa nq qc, .slice na na1 nc, .slice ua nu1 uc, .slice ra nr1 rcc] 25)).heap.size = w.heap.size + 1 from by simp] at h
    exact h
  have hs2 : ((w.alloc (.cells #[.int .i64 m.id, .bool m.rs, .int .i64 m.op, .bool m.aa, .bool m.tc, .bool m.rd, .bool m.ra, .bool m.ad, .bool m.cd, .int .i64 m.rc, .slice qa nq qc, .slice na na1 nc, .slice ua nu1 uc, .slice ra nr1 rcc] 25)).alloc (.cells #[.int .i64 0, .bool false, .int .i64 0, .bool false, .bool false, .bool false, .bool false, .bool false, .bool false, .int .i64 0, .slice none 0 0, .slice none 0 0, .slice none 0 0, .slice none 0 0] 25)).heap.size = w.heap.size + 2 := by simp
  obtain ⟨wB, hwB⟩ : ∃ wB, (w.alloc (.cells #[.int .i64 m.id, .bool m.rs, .int .i64 m.op, .bool m.aa, .bool m.tc, .bool m.rd, .bool m.ra, .bool m.ad, .bool m.cd, .int .i64 m.rc, .slice qa nq qc, .slice na na1 nc, .slice ua nu1 uc, .slice ra nr1 rcc] 25)).alloc (.cells #[.int .i64 0, .bool false, .int .i64 0, .bool false, .bool false, .bool false, .bool false, .bool false, .bool false, .int .i64 0, .slice none 0 0, .slice none 0 0, .slice none 0 0, .slice none 0 0] 25) = wB := ⟨_, rfl⟩
  rw [hwB] at hbel hM2 hZ2 hs2 ⊢
  have HBEL := Lib.hid hbel; have HM2 := Lib.hid hM2; have HZ2 := Lib.hid hZ2
  have hx := hM2.box
  have b10 := hx.c10
  dsimp only at b10
  rw [HNQ.out] at b10
  have hb := hs2
  have HS2 := Lib.hid hs2
  have hlt : w.heap.size < wB.heap.size := by omega
  clear hx hM2 hZ2 hwB HM0 hb hs2
  go_wp2_with (at_builtin; refine wpList_append_src rfl (.const (.slice none 0 0)) (.tmp 4) 22 rfl w.heap.size 35 i0 _ 3 32 Tryz.underlying22 hi hz0 hz1 hz2 rfl (by decide) _ 0 [] rfl (World.ownsRow_nil _ _ _ _) qa nq qc (m.qs.flatMap Qn.cells) rfl (by rw [flat_len Qn.cells 3 (fun _ => rfl), HNQ.out]) (HQS.out _ HBEL.out) (one_cells qn_one) (by unfold maxLen; omega) (by omega) (by omega) ?_)
  intro v1 w1 hown1 hgr1
  have hB1 : Below wB.heap.size wB w1 := ⟨hgr1.os, hgr1.tape, hgr1.output, hgr1.size, fun k hk => hgr1.block k hk (by simp [Value.ownBlock])⟩
  have HOW1 : Hid (w1.ownsRow w.heap.size 35 3 v1 nq (m.qs.flatMap Qn.cells)) := Lib.hid (by first | exact hown1 | simpa using hown1)
  have HM3 := Lib.hid (HM2.out.below hB1 hlt)
  have HZ3 : Hid (w1.heap[w.heap.size + 1]? = some (.cells zeroM 25 (0, 0))) := Lib.hid ((hB1.block _ (by have := HS2.out; omega)).trans HZ2.out)
  have HB1 := Lib.hid (HBEL.out.trans (hB1.mono HBEL.out.size))
  have hz1' : w.heap.size + 2 ≤ w1.heap.size := by have := hB1.size; have := HS2.out; omega
  obtain ⟨a1, c1, rfl⟩ : ∃ a1 c1, v1 = .slice a1 nq c1 := by
    obtain ⟨a, c, h, _⟩ := rdc_own Qn.cells 3 (fun _ => rfl) HNQ.out.symm HOW1.out
    exact ⟨a, c, h⟩
  have d10 : w1.cell? ⟨w.heap.size, 10, none⟩ = some (.slice qa nq qc) := by have h := HM3.out.box.c10; dsimp only at h; rw [HNQ.out] at h; exact h
  have f10 : w1.frozen? ⟨w.heap.size, 10, none⟩ = false := by have h := HM3.out; unfold MsgAt at h; simp only [World.frozen?, h]; simp
  have hlt1 : w.heap.size < w1.heap.size := by omega
  clear hown1 hgr1 hB1 b10
  go_upto_region 2 with (fail)
  have HM4 : Hid (MsgAt (w1.setCell ⟨w.heap.size, 10, none⟩ (.slice a1 nq c1)) w.heap.size ⟨a1, c1, na, nc, ua, uc, ra, rcc⟩ m) := Lib.hid (by
    have h := heap_setCell_same w1 w.heap.size 10 _ _ (.slice a1 nq c1) HM3.out
    unfold MsgAt; rw [h]; simp [cellsM, HNQ.out])
  have HZ4 : Hid ((w1.setCell ⟨w.heap.size, 10, none⟩ (.slice a1 nq c1)).heap[w.heap.size + 1]? = some (.cells zeroM 25 (0, 0))) := Lib.hid (by
    rw [Below.heap_setCell _ _ _ _ (by show w.heap.size + 1 ≠ w.heap.size; omega)]; exact HZ3.out)
  have HO4 : Hid ((w1.setCell ⟨w.heap.size, 10, none⟩ (.slice a1 nq c1)).ownsRow w.heap.size 35 3 (.slice a1 nq c1) nq (m.qs.flatMap Qn.cells)) := Lib.hid (own_keptG HOW1.out (fun k cu hk => by
    rw [Below.heap_setCell _ _ _ _ (by show k ≠ w.heap.size; intro e; subst e; have h := HM3.out; unfold MsgAt at h; rw [h] at hk; injection hk with hk; injection hk with _ h2 _; exact absurd h2 (by decide))]; exact hk))
  have HB4 := Lib.hid (HB1.out.setCell (p := ⟨w.heap.size, 10, none⟩) (Nat.le_refl _) (.slice a1 nq c1))
  have hs4 : (w1.setCell ⟨w.heap.size, 10, none⟩ (.slice a1 nq c1)).heap.size = w1.heap.size := by simp
  obtain ⟨wD, hwD⟩ : ∃ wD, w1.setCell ⟨w.heap.size, 10, none⟩ (.slice a1 nq c1) = wD := ⟨_, rfl⟩
  rw [hwD] at HM4 HZ4 HO4 HB4 hs4 ⊢
  have e11 := HM4.out.box.c11; have e12 := HM4.out.box.c12; have e13 := HM4.out.box.c13
  dsimp only at e11 e12 e13
  rw [HNA.out] at e11; rw [HNU.out] at e12; rw [HNR.out] at e13
  have hltD : w.heap.size < wD.heap.size := by omega
  have hBd : Below w.heap.size w wD.drew := HB4.out.drew
  have HO4d : Hid (wD.drew.ownsRow w.heap.size 35 3 (.slice a1 nq c1) nq (m.qs.flatMap Qn.cells)) := Lib.hid HO4.out
  have HZ4d : Hid (wD.drew.heap[w.heap.size + 1]? = some (.cells zeroM 25 (0, 0))) := Lib.hid HZ4.out
  have hMd : MsgAt wD.drew w.heap.size ⟨a1, c1, na, nc, ua, uc, ra, rcc⟩ m := HM4.out
  clear d10 f10 hwD
  go_cut [] (fun wx => ∃ (g1 p1 g2 p2 g3 p3 : Nat), Hid (MsgAt wx w.heap.size ⟨a1, c1, some ⟨g1, 0, none⟩, p1, some ⟨g2, 0, none⟩, p2, some ⟨g3, 0, none⟩, p3⟩ m) ∧ Hid (TwM wx w.heap.size ⟨a1, c1, some ⟨g1, 0, none⟩, p1, some ⟨g2, 0, none⟩, p2, some ⟨g3, 0, none⟩, p3⟩ m) ∧ Hid (wx.heap[w.heap.size + 1]? = some (.cells zeroM 25 (0, 0))) ∧ Hid (Below w.heap.size w wx))
  case first =>
    go_region_with ((first
      | (go_at_call_of 15 (Value.slice na na1 nc); refine (T1.out _ (by assumption)).mono ?_; rintro e w5 ⟨g1, p1, rfl, hr1, hb1⟩; obtain ⟨hm5, hB5, hl5, k11, k12, k13, f11, f12, f13⟩ := boxK HNA.out HNU.out HNR.out (by assumption) (by assumption) hb1)
      | (go_at_call_of 15 (Value.slice ua nu1 uc); refine (T2.out _ (by assumption)).mono ?_; rintro e w6 ⟨g2, p2, rfl, hr2, hb2⟩; obtain ⟨hm6, hB6, hl6, k11, k12, k13, f11, f12, f13⟩ := boxK HNA.out HNU.out HNR.out (by assumption) (by assumption) hb2)
      | (go_at_call_of 15 (Value.slice ra nr1 rcc); refine (T3.out _ (by assumption)).mono ?_; rintro e w7 ⟨g3, p3, rfl, hr3, hb3⟩; obtain ⟨hm7, hB7, hl7, k11, k12, k13, f11, f12, f13⟩ := boxK HNA.out HNU.out HNR.out (by assumption) (by assumption) hb3)))
    all_goals (go_wp2_with fail; go_meet; exact ⟨_, _, _, _, _, _, twin_end HNQ.out HNA.out HNU.out HNR.out hm7 hB7 HO4d.out HZ4d.out hb1 hb2 hb3 hr1 hr2 hr3⟩)
  case rest =>
    obtain ⟨g1, p1, g2, p2, g3, p3, HM5, HT5, HZ5, HB5⟩ := hcut
    obtain ⟨P, hP⟩ : ∃ P : Pl, (⟨a1, c1, some ⟨g1, 0, none⟩, p1, some ⟨g2, 0, none⟩, p2, some ⟨g3, 0, none⟩, p3⟩ : Pl) = P := ⟨_, rfl⟩
    rw [hP] at HM5 HT5
    have hx := HM5.out.box
    have b0 := hx.c0; have b1 := hx.c1; have b2 := hx.c2; have b3 := hx.c3; have b4 := hx.c4; have b5 := hx.c5; have b6 := hx.c6; have b7 := hx.c7; have b8 := hx.c8; have b9 := hx.c9; have b10 := hx.c10; have b11 := hx.c11; have b12 := hx.c12; have b13 := hx.c13
    have hz := HZ5.out
    have y0 : wc.cell? ⟨w.heap.size + 1, 0, none⟩ = some (.int .i64 0) := by simp only [World.cell?, hz]; rfl
    have y1 : wc.cell? ⟨w.heap.size + 1, 1, none⟩ = some (.bool false) := by simp only [World.cell?, hz]; rfl
    have y2 : wc.cell? ⟨w.heap.size + 1, 2, none⟩ = some (.int .i64 0) := by simp only [World.cell?, hz]; rfl
    have y3 : wc.cell? ⟨w.heap.size + 1, 3, none⟩ = some (.bool false) := by simp only [World.cell?, hz]; rfl
    have y4 : wc.cell? ⟨w.heap.size + 1, 4, none⟩ = some (.bool false) := by simp only [World.cell?, hz]; rfl
    have y5 : wc.cell? ⟨w.heap.size + 1, 5, none⟩ = some (.bool false) := by simp only [World.cell?, hz]; rfl
    have y6 : wc.cell? ⟨w.heap.size + 1, 6, none⟩ = some (.bool false) := by simp only [World.cell?, hz]; rfl
    have y7 : wc.cell? ⟨w.heap.size + 1, 7, none⟩ = some (.bool false) := by simp only [World.cell?, hz]; rfl
    have y8 : wc.cell? ⟨w.heap.size + 1, 8, none⟩ = some (.bool false) := by simp only [World.cell?, hz]; rfl
    have y9 : wc.cell? ⟨w.heap.size + 1, 9, none⟩ = some (.int .i64 0) := by simp only [World.cell?, hz]; rfl
    have y10 : wc.cell? ⟨w.heap.size + 1, 10, none⟩ = some (.slice none 0 0) := by simp only [World.cell?, hz]; rfl
    have y11 : wc.cell? ⟨w.heap.size + 1, 11, none⟩ = some (.slice none 0 0) := by simp only [World.cell?, hz]; rfl
    have y12 : wc.cell? ⟨w.heap.size + 1, 12, none⟩ = some (.slice none 0 0) := by simp only [World.cell?, hz]; rfl
    have y13 : wc.cell? ⟨w.heap.size + 1, 13, none⟩ = some (.slice none 0 0) := by simp only [World.cell?, hz]; rfl
    have f : ∀ j, wc.frozen? ⟨w.heap.size + 1, j, none⟩ = false := by intro j; simp only [World.frozen?, hz]; simp
    have f0 := f 0; have f1 := f 1; have f2 := f 2; have f3 := f 3; have f4 := f 4; have f5 := f 5; have f6 := f 6; have f7 := f 7; have f8 := f 8; have f9 := f 9; have f10 := f 10; have f11 := f 11; have f12 := f 12; have f13 := f 13
    have hltc : w.heap.size + 1 < wc.heap.size := (Array.getElem?_eq_some_iff.1 hz).1
    clear hx hz f e11 e12 e13
    go_wp2_with fail
    have hW1 := putM_blk P m HZ5.out (by rfl)
    have hW2 : TwM (putM wc (w.heap.size + 1) P m) w.heap.size P m := HT5.out.move (fun k o hk hn => by
      rw [putM_far P m (by intro e; subst e; rw [HZ5.out] at hk; cases hk; exact hn _ _ rfl)]; exact hk)
    have hW3 := putM_below P m HB5.out (show w.heap.size ≤ w.heap.size + 1 by omega)
    obtain ⟨W, hW⟩ : ∃ W, putM wc (w.heap.size + 1) P m = W := ⟨_, rfl⟩
    rw [hW] at hW1 hW2 hW3
    unfold putM at hW
    rw [hW]
    have hx := hW1.box
    have z0 := hx.c0; have z1 := hx.c1; have z2 := hx.c2; have z3 := hx.c3; have z4 := hx.c4; have z5 := hx.c5; have z6 := hx.c6; have z7 := hx.c7; have z8 := hx.c8; have z9 := hx.c9; have z10 := hx.c10; have z11 := hx.c11; have z12 := hx.c12; have z13 := hx.c13
    have HW2 := Lib.hid hW2; have HW3 := Lib.hid hW3
    clear hW hW1 hW2 hW3 y0 y1 y2 y3 y4 y5 y6 y7 y8 y9 y10 y11 y12 y13
    exact bodyPost_ret (v := .agg (cellsM P m)) (by simp [results, Tryz.results9, go_sem, cellsM, z0, z1, z2, z3, z4, z5, z6, z7, z8, z9, z10, z11, z12, z13]) rfl ⟨P, rfl, HW2.out, HW3.out⟩
end Go.Proofs.YtnamkladeaohoaaGreat.twinM

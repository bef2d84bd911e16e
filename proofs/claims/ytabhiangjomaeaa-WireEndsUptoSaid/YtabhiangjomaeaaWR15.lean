/- gazetteerlaw2.question, plainSize: walks. -/
import Derived.Test.YtabhiangjomaeaaWR14
namespace Go.Proofs.Ytabhiangjomaeaa.plainW
open Go.RowKit Go.Proofs.Ytabhiangjomaeaa.kit Go.Proofs.Ytabhiangjomaeaa.timed Go.Proofs.Ytabhiangjomaeaa.nspec Go.Proofs.Ytabhiangjomaeaa.rsplit Go.Proofs.Ytabhiangjomaeaa.check Go.Proofs.Ytabhiangjomaeaa.fld Go.Proofs.Ytabhiangjomaeaa.wireP Go.Proofs.Ytabhiangjomaeaa.wireM Go.Proofs.Ytabhiangjomaeaa.packP Go.Proofs.Ytabhiangjomaeaa.wpack Go.Proofs.Ytabhiangjomaeaa.rows Go.Proofs.Ytabhiangjomaeaa.shortP
set_option linter.unusedVariables false

def qQ : Qn := ⟨⟨#[3, 119, 119, 119, 2, 101, 120, 0]⟩, 1, 1⟩
def qM : Mg := ⟨7, false, 0, false, false, true, false, false, false, 0, [qQ], [], [], []⟩
theorem q_one (w : World) (o : Obj) : RdM ((w.alloc o).alloc (.cells #[.string ⟨#[3, 119, 119, 119, 2, 101, 120, 0]⟩, .int .i64 1, .int .i64 1] 50)) ⟨some ⟨w.heap.size + 1, 0, none⟩, 1, none, 0, none, 0, none, 0⟩ qM := by
  have hb := heap_alloc_new (w.alloc o) (.cells #[.string ⟨#[3, 119, 119, 119, 2, 101, 120, 0]⟩, .int .i64 1, .int .i64 1] 50)
  rw [show (w.alloc o).heap.size = w.heap.size + 1 from by simp] at hb
  refine ⟨?_, RdC.nil _ _ _, RdC.nil _ _ _, RdC.nil _ _ _⟩
  intro j x hx
  have hj : j = 0 := by
    have := (List.getElem?_eq_some_iff.1 hx).1
    simp [qM] at this; omega
  subst hj
  have hx2 : x = qQ.cells := by simpa [qM] using hx.symm
  subst hx2
  refine ⟨rfl, w.heap.size + 1, 0, rfl, (Array.getElem?_eq_some_iff.1 hb).1, fun i u hu => ?_⟩
  have hi : i < 3 := by have := (List.getElem?_eq_some_iff.1 hu).1; simpa [Qn.cells, qQ] using this
  match i, hi with
  | 0, _ => simp only [World.cell?, hb]; simpa [Qn.cells, qQ] using hu
  | 1, _ => simp only [World.cell?, hb]; simpa [Qn.cells, qQ] using hu
  | 2, _ => simp only [World.cell?, hb]; simpa [Qn.cells, qQ] using hu
theorem qM_check : checkB qM = true := by decide
theorem qM_pack : packS qM = ([0, 7, 1, 0, 0, 1, 0, 0, 0, 0, 0, 0, 3, 119, 119, 119, 2, 101, 120, 0, 0, 1, 0, 1], 0) := by decide
theorem qM_plain : plainM qM = 24 := by decide
set_option maxRecDepth 100000 in
theorem question_any (w : World) : Calls Try.prog 24 #[] w fun e w' => ∃ P : Pl, e = .returned (.agg (cellsM P qM)) ∧ RdM w' P qM ∧ Below w.heap.size w w' := by
  go_enter Try.func24, Try.ntmps24
  go_wp2_with fail
  refine bodyPost_ret (v := .agg (cellsM ⟨some ⟨w.heap.size + 1, 0, none⟩, 1, none, 0, none, 0, none, 0⟩ qM)) (by simp [results, Try.results24, go_sem, cellsM, qM]) rfl ⟨_, rfl, ?_, ?_⟩
  · exact q_one w _
  · exact ((Below.refl _ _).alloc (Nat.le_refl _) _).alloc (by simp) _
/-- what a sum has behind so many -/
theorem sum_step {α : Type} (f : α → Nat) {L : List α} {k : Nat} {x : α} (hx : L[k]? = some x) : ((L.take (k + 1)).map f).sum = ((L.take k).map f).sum + f x := by
  obtain ⟨h1, h2⟩ := List.getElem?_eq_some_iff.1 hx
  rw [List.take_succ_eq_append_getElem h1, List.map_append, List.sum_append, h2]; simp
theorem sum_le {α : Type} (f : α → Nat) (c : Nat) : ∀ (L : List α), (∀ x ∈ L, f x ≤ c) → (L.map f).sum ≤ L.length * c
  | [], _ => by simp
  | x :: L, h => by
    simp only [List.map_cons, List.sum_cons, List.length_cons, Nat.succ_mul]
    have h1 := h x List.mem_cons_self
    have h2 := sum_le f c L (fun y hy => h y (List.mem_cons_of_mem _ hy))
    omega
theorem sum_take {α : Type} (f : α → Nat) (c : Nat) (L : List α) (h : ∀ x ∈ L, f x ≤ c) (k : Nat) (hk : k ≤ 65535) : ((L.take k).map f).sum ≤ 65535 * c := by
  refine Nat.le_trans (sum_le f c _ (fun x hx => h x (List.mem_of_mem_take hx))) (Nat.mul_le_mul_right _ ?_)
  rw [List.length_take]; omega
set_option maxRecDepth 100000 in
set_option maxHeartbeats 8000000 in
theorem plain_any (p : Pl) (m : Mg) (w : World) (hm : RdM w p m) (hc : checkB m = true) :
    Calls Try.prog 25 #[.agg #[.int .i64 m.id, .bool m.rs, .int .i64 m.op, .bool m.aa, .bool m.tc, .bool m.rd, .bool m.ra, .bool m.ad, .bool m.cd, .int .i64 m.rc, .slice p.qa m.qs.length p.qc, .slice p.na m.an.length p.nc, .slice p.ua m.au.length p.uc, .slice p.ra m.ar.length p.rc]] w fun e w' => e = .returned (.int .i64 (plainM m : Int)) ∧ Below w.heap.size w w' := by
  obtain ⟨R, HR⟩ : ∃ R, Hid (plainM m = R) := ⟨_, Lib.hid rfl⟩
  rw [HR.out]
  have hlen := check_len hc
  have hq : ∀ x ∈ m.qs, plainQ x ≤ 300 := fun x hx => by
    obtain ⟨ls, hls⟩ := q_use (List.all_eq_true.1 hlen.2.1 x hx)
    have := is_len hls; unfold plainQ; omega
  have hr : ∀ (L : List Rc), L.all rightB = true → ∀ x ∈ L, plainR x ≤ 70000 := fun L hL x hx => by
    obtain ⟨⟨ls, hls⟩, _, _, hd, _⟩ := right_use (List.all_eq_true.1 hL x hx)
    have := is_len hls; unfold plainR; omega
  have HQ := Lib.hid hq
  have HNr := Lib.hid (hr m.an hlen.2.2.1); have HUr := Lib.hid (hr m.au hlen.2.2.2.1); have HRr := Lib.hid (hr m.ar hlen.2.2.2.2)
  have hl4 : m.qs.length ≤ 65535 ∧ m.an.length ≤ 65535 ∧ m.au.length ≤ 65535 ∧ m.ar.length ≤ 65535 := by
    simp only [checkB, Bool.and_eq_true] at hc
    exact of_decide_eq_true hc.2.2.2.1
  have HM := Lib.hid hm
  obtain ⟨nq, hnq⟩ : ∃ n, m.qs.length = n := ⟨_, rfl⟩
  obtain ⟨nn, hnn⟩ : ∃ n, m.an.length = n := ⟨_, rfl⟩
  obtain ⟨nu, hnu⟩ : ∃ n, m.au.length = n := ⟨_, rfl⟩
  obtain ⟨nr, hnr⟩ : ∃ n, m.ar.length = n := ⟨_, rfl⟩
  have HNQ := Lib.hid hnq; have HNN := Lib.hid hnn; have HNU := Lib.hid hnu; have HNR := Lib.hid hnr
  obtain ⟨qa, qc, na, nc, ua, uc, ra, rcc⟩ := p
  dsimp only
  have hbel := (Below.refl w.heap.size w).alloc (Nat.le_refl _) (.cells #[.int .i64 m.id, .bool m.rs, .int .i64 m.op, .bool m.aa, .bool m.tc, .bool m.rd, .bool m.ra, .bool m.ad, .bool m.cd, .int .i64 m.rc, .slice qa m.qs.length qc, .slice na m.an.length nc, .slice ua m.au.length uc, .slice ra m.ar.length rcc] 37)
  have hm0 : MsgAt (w.alloc (.cells #[.int .i64 m.id, .bool m.rs, .int .i64 m.op, .bool m.aa, .bool m.tc, .bool m.rd, .bool m.ra, .bool m.ad, .bool m.cd, .int .i64 m.rc, .slice qa m.qs.length qc, .slice na m.an.length nc, .slice ua m.au.length uc, .slice ra m.ar.length rcc] 37)) w.heap.size ⟨qa, qc, na, nc, ua, uc, ra, rcc⟩ m := heap_alloc_new _ _
  rw [hnq, hnn, hnu, hnr] at hl4 hbel hm0 ⊢
  obtain ⟨l1, l2, l3, l4⟩ := hl4
  have HBEL := Lib.hid hbel; have HM0 := Lib.hid hm0
  have hsum : (plainM m : Nat) = 12 + ((m.qs.take nq).map plainQ).sum + ((m.an.take nn).map plainR).sum + ((m.au.take nu).map plainR).sum + ((m.ar.take nr).map plainR).sum := by
    rw [← hnq, ← hnn, ← hnu, ← hnr]; simp only [List.take_length]; rfl
  have HS := Lib.hid (hsum.symm.trans HR.out)
  clear hq hr hlen hm hnq hnn hnu hnr hbel hm0 hsum
  go_enter Try.func25, Try.ntmps25
  go_upto_region 2 with (fail)
  obtain ⟨w0, hw0⟩ : ∃ w0, w.alloc (.cells #[.int .i64 m.id, .bool m.rs, .int .i64 m.op, .bool m.aa, .bool m.tc, .bool m.rd, .bool m.ra, .bool m.ad, .bool m.cd, .int .i64 m.rc, .slice qa nq qc, .slice na nn nc, .slice ua nu uc, .slice ra nr rcc] 37) = w0 := ⟨_, rfl⟩
  rw [hw0] at HBEL HM0 ⊢
  clear hw0
  have b10 := HM0.out.box.c10
  dsimp only at b10
  rw [HNQ.out] at b10
  obtain ⟨T0, hT0⟩ : ∃ T : Nat, 12 = T := ⟨_, rfl⟩
  have HT0 : Hid (12 = T0 + ((m.qs.take 0).map plainQ).sum) := Lib.hid (by rw [← hT0]; simp)
  have HTb0 : Hid (T0 ≤ 12) := Lib.hid (by omega)
  have HTT0 := Lib.hid hT0
  have HMx0 := HM0; have HBx0 := HBEL
  clear hT0
  go_wp2_with fail
  go_loopg [3, 5, 15] (nq + 1) (fun gas sv _ kv wr => ∃ (k s : Nat), kv = .int .i64 (k : Int) ∧ sv = .int .i64 (s : Int) ∧ k ≤ nq ∧ k + gas = nq + 1 ∧ Hid (s = T0 + ((m.qs.take k).map plainQ).sum) ∧ Hid (MsgAt wr w.heap.size ⟨qa, qc, na, nc, ua, uc, ra, rcc⟩ m) ∧ Hid (Below w.heap.size w wr))
  case atStart => exact ⟨0, 12, rfl, rfl, by omega, by omega, HT0, HMx0, HBx0⟩
  case round =>
    clear b10
    obtain ⟨k, s, rfl, rfl, hk, hkg, HSS, HMS, HB⟩ := hrel
    have HK := Lib.hid hkg; clear hkg
    have hsb : s ≤ 100000000000 := by
      have h1 := sum_take plainQ 300 m.qs HQ.out k (by omega)
      have h2 := HSS.out; have h3 := HTb0.out; omega
    by_cases hlt : k < nq
    · obtain ⟨x, hx⟩ : ∃ x, m.qs[k]? = some x := ⟨_, List.getElem?_eq_getElem (by have := HNQ.out; omega)⟩
      obtain ⟨g, o, hga, hg, hat⟩ := at_q HM.out.q hx
      obtain ⟨x0, x1, x2⟩ := hat.below HB.out hg
      subst hga
      have hf := HQ.out x (List.mem_of_getElem? hx)
      have HST := Lib.hid (sum_step plainQ hx)
      obtain ⟨v, hv⟩ : ∃ v, plainQ x = v := ⟨_, rfl⟩
      have hvv : x.n.size + 4 = v := hv
      rw [hv] at HST hf
      have hBa := (Below.refl wr.heap.size wr).alloc (Nat.le_refl _) (.cells #[.string x.n, .int .i64 x.t, .int .i64 x.c] 50)
      have HM2 := Lib.hid (HMS.out.below hBa HMS.out.box.lt); have HB2 := Lib.hid (HB.out.trans (hBa.mono HB.out.size))
      have hlw : w.heap.size < wr.heap.size := HMS.out.box.lt
      have zl : (k : Int) < (nq : Int) := by omega
      have HVV := Lib.hid hvv
      have hnb : x.n.size ≤ 300 := by omega
      clear hx hat hv hvv hBa hf
      go_wp2_with fail
      have hkg := HK.out
      go_roundg (gk - 1)
      case rel => exact ⟨k + 1, s + v, by go_num, (by have h := HVV.out; congr 1; omega), by omega, by omega, Lib.hid (by rw [HST.out]; have := HSS.out; omega), HM2, HB2⟩
      case measure => omega
    · have hkn : nq = k := by omega
      subst hkn
      obtain ⟨T1, hT1⟩ : ∃ T, T0 + ((m.qs.take nq).map plainQ).sum = T := ⟨_, rfl⟩
      have HT1 : Hid (s = T1 + ((m.an.take 0).map plainR).sum) := Lib.hid (by rw [HSS.out, hT1]; simp)
      have HTb1 : Hid (T1 ≤ 19660612) := Lib.hid (by have h1 := sum_take plainQ 300 m.qs HQ.out nq (by omega); have h3 := HTb0.out; omega)
      have HTT1 := Lib.hid hT1
      have HMx1 := HMS; have HBx1 := HB
      have b11 := HMS.out.box.c11
      dsimp only at b11
      rw [HNN.out] at b11
      clear hT1 hlt
      go_wp2_with fail
      go_loopg [3, 7, 29] (nn + 1) (fun gas sv _ kv wr => ∃ (k s : Nat), kv = .int .i64 (k : Int) ∧ sv = .int .i64 (s : Int) ∧ k ≤ nn ∧ k + gas = nn + 1 ∧ Hid (s = T1 + ((m.an.take k).map plainR).sum) ∧ Hid (MsgAt wr w.heap.size ⟨qa, qc, na, nc, ua, uc, ra, rcc⟩ m) ∧ Hid (Below w.heap.size w wr))
      case atStart => exact ⟨0, s, rfl, rfl, by omega, by omega, HT1, HMx1, HBx1⟩
      case round =>
        clear b11
        obtain ⟨k, s, rfl, rfl, hk, hkg, HSS, HMS, HB⟩ := hrel
        have HK := Lib.hid hkg; clear hkg
        have hsb : s ≤ 100000000000 := by
          have h1 := sum_take plainR 70000 m.an HNr.out k (by omega)
          have h2 := HSS.out; have h3 := HTb1.out; omega
        by_cases hlt : k < nn
        · obtain ⟨x, hx⟩ : ∃ x, m.an[k]? = some x := ⟨_, List.getElem?_eq_getElem (by have := HNN.out; omega)⟩
          obtain ⟨g, o, hga, hg, hat⟩ := at_r HM.out.n hx
          obtain ⟨x0, x1, x2, x3, x4⟩ := hat.below HB.out hg
          subst hga
          have hf := HNr.out x (List.mem_of_getElem? hx)
          have HST := Lib.hid (sum_step plainR hx)
          obtain ⟨v, hv⟩ : ∃ v, plainR x = v := ⟨_, rfl⟩
          have hvv : x.o.size + 10 + x.d.size = v := hv
          rw [hv] at HST hf
          have hBa := (Below.refl wr.heap.size wr).alloc (Nat.le_refl _) (.cells #[.string x.o, .int .i64 x.t, .int .i64 x.c, .int .i64 x.l, .string x.d] 52)
          have HM2 := Lib.hid (HMS.out.below hBa HMS.out.box.lt); have HB2 := Lib.hid (HB.out.trans (hBa.mono HB.out.size))
          have hlw : w.heap.size < wr.heap.size := HMS.out.box.lt
          have zl : (k : Int) < (nn : Int) := by omega
          have HVV := Lib.hid hvv
          have hnb : x.o.size ≤ 70000 := by omega
          have hdb : x.d.size ≤ 70000 := by omega
          clear hx hat hv hvv hBa hf
          go_wp2_with fail
          have hkg := HK.out
          go_roundg (gk - 1)
          case rel => exact ⟨k + 1, s + v, by go_num, (by have h := HVV.out; congr 1; omega), by omega, by omega, Lib.hid (by rw [HST.out]; have := HSS.out; omega), HM2, HB2⟩
          case measure => omega
        · have hkn : nn = k := by omega
          subst hkn
          obtain ⟨T2, hT2⟩ : ∃ T, T1 + ((m.an.take nn).map plainR).sum = T := ⟨_, rfl⟩
          have HT2 : Hid (s = T2 + ((m.au.take 0).map plainR).sum) := Lib.hid (by rw [HSS.out, hT2]; simp)
          have HTb2 : Hid (T2 ≤ 4607110612) := Lib.hid (by have h1 := sum_take plainR 70000 m.an HNr.out nn (by omega); have h3 := HTb1.out; omega)
          have HTT2 := Lib.hid hT2
          have HMx2 := HMS; have HBx2 := HB
          have b12 := HMS.out.box.c12
          dsimp only at b12
          rw [HNU.out] at b12
          clear hT2 hlt
          go_wp2_with fail
          go_loopg [3, 9, 47] (nu + 1) (fun gas sv _ kv wr => ∃ (k s : Nat), kv = .int .i64 (k : Int) ∧ sv = .int .i64 (s : Int) ∧ k ≤ nu ∧ k + gas = nu + 1 ∧ Hid (s = T2 + ((m.au.take k).map plainR).sum) ∧ Hid (MsgAt wr w.heap.size ⟨qa, qc, na, nc, ua, uc, ra, rcc⟩ m) ∧ Hid (Below w.heap.size w wr))
          case atStart => exact ⟨0, s, rfl, rfl, by omega, by omega, HT2, HMx2, HBx2⟩
          case round =>
            clear b12
            obtain ⟨k, s, rfl, rfl, hk, hkg, HSS, HMS, HB⟩ := hrel
            have HK := Lib.hid hkg; clear hkg
            have hsb : s ≤ 100000000000 := by
              have h1 := sum_take plainR 70000 m.au HUr.out k (by omega)
              have h2 := HSS.out; have h3 := HTb2.out; omega
            by_cases hlt : k < nu
            · obtain ⟨x, hx⟩ : ∃ x, m.au[k]? = some x := ⟨_, List.getElem?_eq_getElem (by have := HNU.out; omega)⟩
              obtain ⟨g, o, hga, hg, hat⟩ := at_r HM.out.u hx
              obtain ⟨x0, x1, x2, x3, x4⟩ := hat.below HB.out hg
              subst hga
              have hf := HUr.out x (List.mem_of_getElem? hx)
              have HST := Lib.hid (sum_step plainR hx)
              obtain ⟨v, hv⟩ : ∃ v, plainR x = v := ⟨_, rfl⟩
              have hvv : x.o.size + 10 + x.d.size = v := hv
              rw [hv] at HST hf
              have hBa := (Below.refl wr.heap.size wr).alloc (Nat.le_refl _) (.cells #[.string x.o, .int .i64 x.t, .int .i64 x.c, .int .i64 x.l, .string x.d] 52)
              have HM2 := Lib.hid (HMS.out.below hBa HMS.out.box.lt); have HB2 := Lib.hid (HB.out.trans (hBa.mono HB.out.size))
              have hlw : w.heap.size < wr.heap.size := HMS.out.box.lt
              have zl : (k : Int) < (nu : Int) := by omega
              have HVV := Lib.hid hvv
              have hnb : x.o.size ≤ 70000 := by omega
              have hdb : x.d.size ≤ 70000 := by omega
              clear hx hat hv hvv hBa hf
              go_wp2_with fail
              have hkg := HK.out
              go_roundg (gk - 1)
              case rel => exact ⟨k + 1, s + v, by go_num, (by have h := HVV.out; congr 1; omega), by omega, by omega, Lib.hid (by rw [HST.out]; have := HSS.out; omega), HM2, HB2⟩
              case measure => omega
            · have hkn : nu = k := by omega
              subst hkn
              obtain ⟨T3, hT3⟩ : ∃ T, T2 + ((m.au.take nu).map plainR).sum = T := ⟨_, rfl⟩
              have HT3 : Hid (s = T3 + ((m.ar.take 0).map plainR).sum) := Lib.hid (by rw [HSS.out, hT3]; simp)
              have HTb3 : Hid (T3 ≤ 9194560612) := Lib.hid (by have h1 := sum_take plainR 70000 m.au HUr.out nu (by omega); have h3 := HTb2.out; omega)
              have HTT3 := Lib.hid hT3
              have HMx3 := HMS; have HBx3 := HB
              have b13 := HMS.out.box.c13
              dsimp only at b13
              rw [HNR.out] at b13
              clear hT3 hlt
              go_wp2_with fail
              go_loopg [3, 11, 65] (nr + 1) (fun gas sv _ kv wr => ∃ (k s : Nat), kv = .int .i64 (k : Int) ∧ sv = .int .i64 (s : Int) ∧ k ≤ nr ∧ k + gas = nr + 1 ∧ Hid (s = T3 + ((m.ar.take k).map plainR).sum) ∧ Hid (MsgAt wr w.heap.size ⟨qa, qc, na, nc, ua, uc, ra, rcc⟩ m) ∧ Hid (Below w.heap.size w wr))
              case atStart => exact ⟨0, s, rfl, rfl, by omega, by omega, HT3, HMx3, HBx3⟩
              case round =>
                clear b13
                obtain ⟨k, s, rfl, rfl, hk, hkg, HSS, HMS, HB⟩ := hrel
                have HK := Lib.hid hkg; clear hkg
                have hsb : s ≤ 100000000000 := by
                  have h1 := sum_take plainR 70000 m.ar HRr.out k (by omega)
                  have h2 := HSS.out; have h3 := HTb3.out; omega
                by_cases hlt : k < nr
                · obtain ⟨x, hx⟩ : ∃ x, m.ar[k]? = some x := ⟨_, List.getElem?_eq_getElem (by have := HNR.out; omega)⟩
                  obtain ⟨g, o, hga, hg, hat⟩ := at_r HM.out.r hx
                  obtain ⟨x0, x1, x2, x3, x4⟩ := hat.below HB.out hg
                  subst hga
                  have hf := HRr.out x (List.mem_of_getElem? hx)
                  have HST := Lib.hid (sum_step plainR hx)
                  obtain ⟨v, hv⟩ : ∃ v, plainR x = v := ⟨_, rfl⟩
                  have hvv : x.o.size + 10 + x.d.size = v := hv
                  rw [hv] at HST hf
                  have hBa := (Below.refl wr.heap.size wr).alloc (Nat.le_refl _) (.cells #[.string x.o, .int .i64 x.t, .int .i64 x.c, .int .i64 x.l, .string x.d] 52)
                  have HM2 := Lib.hid (HMS.out.below hBa HMS.out.box.lt); have HB2 := Lib.hid (HB.out.trans (hBa.mono HB.out.size))
                  have hlw : w.heap.size < wr.heap.size := HMS.out.box.lt
                  have zl : (k : Int) < (nr : Int) := by omega
                  have HVV := Lib.hid hvv
                  have hnb : x.o.size ≤ 70000 := by omega
                  have hdb : x.d.size ≤ 70000 := by omega
                  clear hx hat hv hvv hBa hf
                  go_wp2_with fail
                  have hkg := HK.out
                  go_roundg (gk - 1)
                  case rel => exact ⟨k + 1, s + v, by go_num, (by have h := HVV.out; congr 1; omega), by omega, by omega, Lib.hid (by rw [HST.out]; have := HSS.out; omega), HM2, HB2⟩
                  case measure => omega
                · have hkn : nr = k := by omega
                  subst hkn
                  have hR : s = R := by have h1 := HS.out; have h2 := HSS.out; have t0 := HTT0.out; have t1 := HTT1.out; have t2 := HTT2.out; have t3 := HTT3.out; omega
                  subst hR
                  go_wp2_with fail
                  go_ret
                  exact ⟨rfl, HB.out⟩
end Go.Proofs.Ytabhiangjomaeaa.plainW

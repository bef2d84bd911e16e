/- What is packed is unpacked: whole messages: plain. wire.Unpack's sign: walk. name.lower, Fold, Equal, Within, Common, Parent: walks. The reference's Graft: walk. name.Graft: walk; the law NameGrafts: its walk. name.Labels: walk. -/
import Derived.Test.YtabhiangjomaeaaU17
import Derived.Test.YtabhiangjomaeaaU7
namespace Go.Proofs.Ytabhiangjomaeaa.roundM
open Go.Proofs.Ytabhiangjomaeaa.kit Go.Proofs.Ytabhiangjomaeaa.nspec Go.Proofs.Ytabhiangjomaeaa.rsplit Go.Proofs.Ytabhiangjomaeaa.check Go.Proofs.Ytabhiangjomaeaa.fld Go.Proofs.Ytabhiangjomaeaa.wireP Go.Proofs.Ytabhiangjomaeaa.wireM Go.Proofs.Ytabhiangjomaeaa.packP Go.Proofs.Ytabhiangjomaeaa.psmall Go.Proofs.Ytabhiangjomaeaa.fits Go.Proofs.Ytabhiangjomaeaa.pdata Go.Proofs.Ytabhiangjomaeaa.wpack Go.Proofs.Ytabhiangjomaeaa.unpP Go.Proofs.Ytabhiangjomaeaa.shortP Go.Proofs.Ytabhiangjomaeaa.roundU Go.Proofs.Ytabhiangjomaeaa.roundV
set_option linter.unusedVariables false

/-- many things, one behind the other -/
theorem many_reads {α : Type} (f : Bs → Nat → Got α) (g : α → Pp → Pp) (ok : α → Bool) (H : ∀ x p, ok x = true → roundU.Inv p → Reads f x p (g x p)) : ∀ (L : List α) (p : Pp), L.all ok = true → roundU.Inv p →
    (∃ t, (L.foldl (fun p x => g x p) p).out = p.out ++ t) ∧ roundU.Inv (L.foldl (fun p x => g x p) p) ∧
    (∀ t, manyU (f ((L.foldl (fun p x => g x p) p).out ++ t)) L.length p.out.length = .ok L (L.foldl (fun p x => g x p) p).out.length) ∧
    (∀ c, p.out.length ≤ c → c < (L.foldl (fun p x => g x p) p).out.length → ∃ i, manyU (f ((L.foldl (fun p x => g x p) p).out.take c)) L.length p.out.length = .bad 10 i)
  | [], p, _, hi => ⟨⟨[], by simp⟩, hi, fun t => rfl, fun c h1 h2 => by simp only [List.foldl_nil] at h2; omega⟩
  | x :: L, p, h, hi => by
    simp only [List.all_cons, Bool.and_eq_true] at h
    obtain ⟨⟨t1, ht1⟩, g2, g3, g4⟩ := H x p h.1 hi
    obtain ⟨⟨t2, ht2⟩, k2, k3, k4⟩ := many_reads f g ok H L (g x p) h.2 g2
    simp only [List.foldl_cons]
    obtain ⟨q, hq⟩ : ∃ q, L.foldl (fun p x => g x p) (g x p) = q := ⟨_, rfl⟩
    rw [hq] at ht2 k2 k3 k4 ⊢
    refine ⟨⟨t1 ++ t2, by rw [ht2, ht1, List.append_assoc]⟩, k2, fun t => ?_, fun c c1 c2 => ?_⟩
    · have e := g3 (t2 ++ t)
      rw [← List.append_assoc, ← ht2] at e
      simp only [List.length_cons, manyU, e, k3 t]
    · simp only [List.length_cons, manyU]
      by_cases c3 : c < (g x p).out.length
      · refine ⟨p.out.length, ?_⟩
        rw [ht2, take_less (by omega), g4 c c1 c3]
      · have e : q.out.take c = (g x p).out ++ t2.take (c - (g x p).out.length) := by rw [ht2, take_more (by omega)]
        have e2 := g3 (t2.take (c - (g x p).out.length))
        rw [← e] at e2
        obtain ⟨i, hi⟩ := k4 c (by omega) c2
        refine ⟨i, ?_⟩
        rw [e2]
        simp only [hi]
theorem recs_fold : ∀ (L : List Rc) (p q : Pp), recsP L p = some q → q = L.foldl (fun p x => recP x p) p ∧ q.out.length ≤ 65535
  | [], p, q, h => by
    simp only [recsP] at h
    split at h
    · cases h
    · cases h; exact ⟨rfl, by omega⟩
  | x :: L, p, q, h => by
    simp only [recsP] at h
    split at h
    · cases h
    · exact recs_fold L (recP x p) q h
theorem num2_two (v : Int) (t : Bs) (i : Nat) : num2 (be2 v ++ t) (2 + i) = num2 t i := num2_more (be2 v) t i
theorem bit_nat (b : Bool) (v : Int) : bit b v = v * (b.toNat : Int) := by cases b <;> simp [bit]
theorem toNat_le (b : Bool) : b.toNat ≤ 1 := by cases b <;> simp
theorem dec_toNat (b : Bool) (n : Nat) (h : n = b.toNat) : decide (n = 1) = b := by subst h; cases b <;> rfl
/-- the signs back -/
theorem signs_back {m : Mg} (h1 : 0 ≤ m.op) (h2 : m.op ≤ 15) (h3 : 0 ≤ m.rc) (h4 : m.rc ≤ 15) {v : Nat} (hv : (signsV m).toNat = v) : 0 ≤ signsV m ∧ signsV m ≤ 65535 ∧ signB v 15 = m.rs ∧ v / 2048 % 16 = m.op.toNat ∧ signB v 10 = m.aa ∧ signB v 9 = m.tc ∧ signB v 8 = m.rd ∧ signB v 7 = m.ra ∧ signB v 5 = m.ad ∧ signB v 4 = m.cd ∧ v % 16 = m.rc.toNat ∧ v % 256 / 64 % 2 = 0 := by
  unfold signsV at hv ⊢
  simp only [bit_nat] at hv ⊢
  have b1 := toNat_le m.rs; have b2 := toNat_le m.aa; have b3 := toNat_le m.tc; have b4 := toNat_le m.rd; have b5 := toNat_le m.ra; have b6 := toNat_le m.ad; have b7 := toNat_le m.cd
  have s : ∀ k, signB v k = decide (v / 2 ^ k % 2 = 1) := fun k => rfl
  have s15 := dec_toNat m.rs (v / 32768 % 2)
  have s10 := dec_toNat m.aa (v / 1024 % 2)
  have s9 := dec_toNat m.tc (v / 512 % 2)
  have s8 := dec_toNat m.rd (v / 256 % 2)
  have s7 := dec_toNat m.ra (v / 128 % 2)
  have s5 := dec_toNat m.ad (v / 32 % 2)
  have s4 := dec_toNat m.cd (v / 16 % 2)
  obtain ⟨x1, e1⟩ : ∃ x, m.rs.toNat = x := ⟨_, rfl⟩
  obtain ⟨x2, e2⟩ : ∃ x, m.aa.toNat = x := ⟨_, rfl⟩
  obtain ⟨x3, e3⟩ : ∃ x, m.tc.toNat = x := ⟨_, rfl⟩
  obtain ⟨x4, e4⟩ : ∃ x, m.rd.toNat = x := ⟨_, rfl⟩
  obtain ⟨x5, e5⟩ : ∃ x, m.ra.toNat = x := ⟨_, rfl⟩
  obtain ⟨x6, e6⟩ : ∃ x, m.ad.toNat = x := ⟨_, rfl⟩
  obtain ⟨x7, e7⟩ : ∃ x, m.cd.toNat = x := ⟨_, rfl⟩
  obtain ⟨o, eo⟩ : ∃ x, m.op.toNat = x := ⟨_, rfl⟩
  obtain ⟨r, er⟩ : ∃ x, m.rc.toNat = x := ⟨_, rfl⟩
  have eo' : m.op = (o : Int) := by omega
  have er' : m.rc = (r : Int) := by omega
  rw [e1] at b1 s15; rw [e2] at b2 s10; rw [e3] at b3 s9; rw [e4] at b4 s8; rw [e5] at b5 s7; rw [e6] at b6 s5; rw [e7] at b7 s4
  rw [e1, e2, e3, e4, e5, e6, e7, eo', er'] at hv
  rw [e1, e2, e3, e4, e5, e6, e7, eo, er, eo', er']
  have ho : o ≤ 15 := by omega
  have hr : r ≤ 15 := by omega
  have hv' : v = x1 * 32768 + o * 2048 + x2 * 1024 + x3 * 512 + x4 * 256 + x5 * 128 + x6 * 32 + x7 * 16 + r := by omega
  clear hv eo eo' er er' h1 h2 h3 h4 e1 e2 e3 e4 e5 e6 e7
  refine ⟨by omega, by omega, ?_, by omega, ?_, ?_, ?_, ?_, ?_, ?_, by omega, by omega⟩
  · rw [s]; exact s15 (by omega)
  · rw [s]; exact s10 (by omega)
  · rw [s]; exact s9 (by omega)
  · rw [s]; exact s8 (by omega)
  · rw [s]; exact s7 (by omega)
  · rw [s]; exact s5 (by omega)
  · rw [s]; exact s4 (by omega)
theorem check_nums {m : Mg} (h : checkB m = true) : (0 ≤ m.id ∧ m.id ≤ 65535) ∧ (0 ≤ m.op ∧ m.op ≤ 15) ∧ (0 ≤ m.rc ∧ m.rc ≤ 15) ∧ m.qs.length ≤ 65535 ∧ m.an.length ≤ 65535 ∧ m.au.length ≤ 65535 ∧ m.ar.length ≤ 65535 := by
  unfold checkB at h
  simp only [Bool.and_eq_true, inB, decide_eq_true_eq] at h
  exact ⟨h.1, h.2.1, h.2.2.1, h.2.2.2.1⟩
/-- the papers on the way -/
structure Way (m : Mg) (b : Bs) where
  q0 : Pp
  q1 : Pp
  q2 : Pp
  q3 : Pp
  h0 : q0 = m.qs.foldl (fun p x => quesP x p) ⟨headP m, []⟩
  h1 : q1 = m.an.foldl (fun p x => recP x p) q0
  h2 : q2 = m.au.foldl (fun p x => recP x p) q1
  h3 : q3 = m.ar.foldl (fun p x => recP x p) q2
  hb : b = q3.out
  len : b.length ≤ 65535
theorem way_of {m : Mg} {b : Bs} (hc : checkB m = true) (h : packS m = (b, 0)) : Nonempty (Way m b) := by
  unfold packS at h
  rw [if_neg (by rw [hc]; simp)] at h
  unfold packP at h
  cases hr : recsP (m.an ++ m.au ++ m.ar) (m.qs.foldl (fun p x => quesP x p) ⟨headP m, []⟩) with
  | none => rw [hr] at h; simp at h
  | some q =>
    rw [hr] at h
    simp only [Option.map_some, Prod.mk.injEq, and_true] at h
    obtain ⟨e, hl⟩ := recs_fold _ _ _ hr
    rw [List.foldl_append, List.foldl_append] at e
    exact ⟨⟨_, _, _, _, rfl, rfl, rfl, rfl, by rw [← h, e], by rw [← h]; exact hl⟩⟩
theorem pack_checked {m : Mg} {b : Bs} (h : packS m = (b, 0)) : checkB m = true := by
  unfold packS at h
  cases hc : checkB m with
  | false => rw [hc] at h; simp at h
  | true => rfl
theorem head_eq (m : Mg) (t : Bs) : headP m ++ t = be2 m.id ++ (be2 (signsV m) ++ (be2 m.qs.length ++ (be2 m.an.length ++ (be2 m.au.length ++ (be2 m.ar.length ++ t))))) := by
  unfold headP; simp only [List.append_assoc]
/-- the head's numbers back -/
theorem head_back {m : Mg} (hc : checkB m = true) (t : Bs) : num2 (headP m ++ t) 0 = m.id.toNat ∧ num2 (headP m ++ t) 2 = (signsV m).toNat ∧ num2 (headP m ++ t) 4 = m.qs.length ∧ num2 (headP m ++ t) 6 = m.an.length ∧ num2 (headP m ++ t) 8 = m.au.length ∧ num2 (headP m ++ t) 10 = m.ar.length ∧ atB (headP m ++ t) 3 / 64 % 2 = 0 := by
  obtain ⟨⟨i0, i1⟩, ⟨o0, o1⟩, ⟨r0, r1⟩, l0, l1, l2, l3⟩ := check_nums hc
  obtain ⟨s0, s1, _, _, _, _, _, _, _, _, _, sz⟩ := signs_back o0 o1 r0 r1 rfl
  rw [head_eq]
  refine ⟨num2_be2 i0 i1 _, ?_, ?_, ?_, ?_, ?_, ?_⟩
  · exact (num2_two _ _ 0).trans (num2_be2 s0 s1 _)
  · exact (num2_two _ _ 2).trans ((num2_two _ _ 0).trans ((num2_be2 (by omega) (by omega) _).trans (by omega)))
  · exact (num2_two _ _ 4).trans ((num2_two _ _ 2).trans ((num2_two _ _ 0).trans ((num2_be2 (by omega) (by omega) _).trans (by omega))))
  · exact (num2_two _ _ 6).trans ((num2_two _ _ 4).trans ((num2_two _ _ 2).trans ((num2_two _ _ 0).trans ((num2_be2 (by omega) (by omega) _).trans (by omega)))))
  · exact (num2_two _ _ 8).trans ((num2_two _ _ 6).trans ((num2_two _ _ 4).trans ((num2_two _ _ 2).trans ((num2_two _ _ 0).trans ((num2_be2 (by omega) (by omega) _).trans (by omega))))))
  · have e := atB_more (be2 m.id) (be2 (signsV m) ++ (be2 m.qs.length ++ (be2 m.an.length ++ (be2 m.au.length ++ (be2 m.ar.length ++ t))))) 1
    rw [be2_len] at e
    rw [show (3 : Nat) = 2 + 1 from rfl, e]
    have e2 : atB (be2 (signsV m) ++ (be2 m.qs.length ++ (be2 m.an.length ++ (be2 m.au.length ++ (be2 m.ar.length ++ t))))) 1 = (signsV m).toNat % 256 := by
      simp only [be2, List.cons_append, atB_succ, atB_zero]
      exact byte_nat s0
    rw [e2]; exact sz
theorem mg_back {m : Mg} (hc : checkB m = true) : (⟨(m.id.toNat : Nat), signB (signsV m).toNat 15, ((signsV m).toNat : Int) / 2048 % 16, signB (signsV m).toNat 10, signB (signsV m).toNat 9, signB (signsV m).toNat 8, signB (signsV m).toNat 7, signB (signsV m).toNat 5, signB (signsV m).toNat 4, ((signsV m).toNat : Int) % 16, m.qs, m.an, m.au, m.ar⟩ : Mg) = m := by
  obtain ⟨⟨i0, i1⟩, ⟨o0, o1⟩, ⟨r0, r1⟩, _⟩ := check_nums hc
  obtain ⟨s0, s1, a1, a2, a3, a4, a5, a6, a7, a8, a9, _⟩ := signs_back o0 o1 r0 r1 rfl
  rw [a1, a3, a4, a5, a6, a7, a8, show ((m.id.toNat : Nat) : Int) = m.id by omega, show (((signsV m).toNat : Nat) : Int) / 2048 % 16 = m.op by omega, show (((signsV m).toNat : Nat) : Int) % 16 = m.rc by omega]
theorem inv_nil (h : Bs) : roundU.Inv ⟨h, []⟩ := by intro r k hm; simp at hm
/-- what is packed, with something behind it or nothing -/
theorem unpack_app {m : Mg} {b : Bs} (h : packS m = (b, 0)) (t : Bs) (hl : (b ++ t).length ≤ 65535) : unpackS (b ++ t) = if t = [] then (m, 0, 0) else (noM, b.length, 11) := by
  have hc := pack_checked h
  obtain ⟨w⟩ := way_of hc h
  have hcl := check_len hc
  obtain ⟨⟨t0, e0⟩, i0, r0, _⟩ := many_reads quesU quesP rightQ ques_reads m.qs ⟨headP m, []⟩ hcl.2.1 (inv_nil _)
  rw [← w.h0] at e0 i0 r0
  obtain ⟨⟨t1, e1⟩, i1, r1, _⟩ := many_reads recU recP rightB rec_reads m.an w.q0 hcl.2.2.1 i0
  rw [← w.h1] at e1 i1 r1
  obtain ⟨⟨t2, e2⟩, i2, r2, _⟩ := many_reads recU recP rightB rec_reads m.au w.q1 hcl.2.2.2.1 i1
  rw [← w.h2] at e2 i2 r2
  obtain ⟨⟨t3, e3⟩, i3, r3, _⟩ := many_reads recU recP rightB rec_reads m.ar w.q2 hcl.2.2.2.2 i2
  rw [← w.h3] at e3 i3 r3
  have hb := w.hb
  obtain ⟨B, hB⟩ : ∃ B, b ++ t = B := ⟨_, rfl⟩
  have f3 : B = w.q3.out ++ t := by rw [← hB]; exact congrArg (· ++ t) hb
  have f2 : B = w.q2.out ++ (t3 ++ t) := by rw [f3, e3, List.append_assoc]
  have f1 : B = w.q1.out ++ (t2 ++ (t3 ++ t)) := by rw [f2, e2, List.append_assoc]
  have f0 : B = w.q0.out ++ (t1 ++ (t2 ++ (t3 ++ t))) := by rw [f1, e1, List.append_assoc]
  have fh : B = headP m ++ (t0 ++ (t1 ++ (t2 ++ (t3 ++ t)))) := by rw [f0, e0, List.append_assoc]
  have hh := head_back hc (t0 ++ (t1 ++ (t2 ++ (t3 ++ t))))
  rw [← fh] at hh
  have q0 := r0 (t1 ++ (t2 ++ (t3 ++ t)))
  have q1 := r1 (t2 ++ (t3 ++ t))
  have q2 := r2 (t3 ++ t)
  have q3 := r3 t
  rw [← f0] at q0; rw [← f1] at q1; rw [← f2] at q2; rw [← f3] at q3
  rw [show (⟨headP m, []⟩ : Pp).out.length = 12 from head_len m] at q0
  have hB12 : 12 ≤ B.length := by rw [fh, List.length_append, head_len]; omega
  rw [hB] at hl ⊢
  unfold unpackS
  rw [if_neg (by omega), if_neg (by omega), hh.2.2.2.2.2.2, if_neg (by omega), hh.2.2.1, q0]
  simp only
  rw [hh.2.2.2.1, q1]
  simp only
  rw [hh.2.2.2.2.1, q2]
  simp only
  rw [hh.2.2.2.2.2.1, q3]
  simp only
  rw [hh.1, hh.2.1]
  by_cases ht : t = []
  · rw [if_pos ht]
    subst ht
    rw [if_neg (by rw [f3]; simp)]
    rw [mg_back hc]
  · rw [if_neg ht]
    have : 0 < t.length := List.length_pos_iff.2 ht
    have hbl : b.length = w.q3.out.length := congrArg List.length hb
    rw [if_pos (by rw [f3, List.length_append]; omega), hbl]
theorem unpack_pack {m : Mg} {b : Bs} (h : packS m = (b, 0)) : unpackS b = (m, 0, 0) := by
  have hc := pack_checked h
  obtain ⟨w⟩ := way_of hc h
  have e := unpack_app h [] (by rw [List.append_nil]; exact w.len)
  rw [List.append_nil] at e
  rw [e, if_pos rfl]
/-- what is packed and cut -/
theorem unpack_cut {m : Mg} {b : Bs} (h : packS m = (b, 0)) {c : Nat} (hcb : c < b.length) : (unpackS (b.take c)).2.2 = 10 := by
  have hc := pack_checked h
  obtain ⟨⟨q0, q1, q2, q3, wh0, wh1, wh2, wh3, whb, hwl⟩⟩ := way_of hc h
  have hcl := check_len hc
  obtain ⟨⟨t0, e0⟩, i0, r0, c0⟩ := many_reads quesU quesP rightQ ques_reads m.qs ⟨headP m, []⟩ hcl.2.1 (inv_nil _)
  rw [← wh0] at e0 i0 r0 c0
  obtain ⟨⟨t1, e1⟩, i1, r1, c1⟩ := many_reads recU recP rightB rec_reads m.an q0 hcl.2.2.1 i0
  rw [← wh1] at e1 i1 r1 c1
  obtain ⟨⟨t2, e2⟩, i2, r2, c2⟩ := many_reads recU recP rightB rec_reads m.au q1 hcl.2.2.2.1 i1
  rw [← wh2] at e2 i2 r2 c2
  obtain ⟨⟨t3, e3⟩, i3, r3, c3⟩ := many_reads recU recP rightB rec_reads m.ar q2 hcl.2.2.2.2 i2
  rw [← wh3] at e3 i3 r3 c3
  have hb := whb
  have hlen : (b.take c).length = c := roundU.take_len (by omega)
  unfold unpackS
  rw [hlen, if_neg (by omega)]
  by_cases k0 : c < 12
  · rw [if_pos k0]
  rw [if_neg k0]
  have b2 : b = q2.out ++ t3 := by rw [hb, e3]
  have b1 : b = q1.out ++ (t2 ++ t3) := by rw [b2, e2, List.append_assoc]
  have b0 : b = q0.out ++ (t1 ++ (t2 ++ t3)) := by rw [b1, e1, List.append_assoc]
  have bh : b = headP m ++ (t0 ++ (t1 ++ (t2 ++ t3))) := by rw [b0, e0, List.append_assoc]
  have hhl : (headP m).length = 12 := head_len m
  have fh : b.take c = headP m ++ (t0 ++ (t1 ++ (t2 ++ t3))).take (c - 12) := by rw [bh, take_more (by omega), hhl]
  have hh := head_back hc ((t0 ++ (t1 ++ (t2 ++ t3))).take (c - 12))
  rw [← fh] at hh
  rw [show (⟨headP m, []⟩ : Pp).out.length = 12 from hhl] at r0 c0
  rw [hh.2.2.2.2.2.2, if_neg (by omega), hh.2.2.1]
  by_cases k1 : c < q0.out.length
  · obtain ⟨i, hi⟩ := c0 c (by omega) k1
    rw [b0, take_less (by omega), hi]
  have g0 := r0 ((t1 ++ (t2 ++ t3)).take (c - q0.out.length))
  rw [← take_more (by omega), ← b0] at g0
  rw [g0]
  simp only
  rw [hh.2.2.2.1]
  by_cases k2 : c < q1.out.length
  · obtain ⟨i, hi⟩ := c1 c (by omega) k2
    rw [b1, take_less (by omega), hi]
  have g1 := r1 ((t2 ++ t3).take (c - q1.out.length))
  rw [← take_more (by omega), ← b1] at g1
  rw [g1]
  simp only
  rw [hh.2.2.2.2.1]
  by_cases k3 : c < q2.out.length
  · obtain ⟨i, hi⟩ := c2 c (by omega) k3
    rw [b2, take_less (by omega), hi]
  have g2 := r2 (t3.take (c - q2.out.length))
  rw [← take_more (by omega), ← b2] at g2
  rw [g2]
  simp only
  rw [hh.2.2.2.2.2.1]
  obtain ⟨i, hi⟩ := c3 c (by omega) (by rw [← hb]; exact hcb)
  rw [hb, hi]

/-- faults are never nought -/
theorem nameU_bad : ∀ (f : Nat) (b : Bs) (k start lim : Nat) (over : Int) (had : Nat) (e : Int), had ≤ 255 → leftU start had < f → over ≠ 0 → nameU f b k start lim over had = .bad e → e ≠ 0
  | 0, _, _, _, _, _, _, _, _, h, _, _ => by omega
  | f + 1, b, k, start, lim, over, had, e, h0, h1, ho, h => by
    simp only [nameU] at h
    unfold leftU at h1
    by_cases c1 : lim ≤ k
    · rw [if_pos c1] at h; cases h; exact ho
    rw [if_neg c1] at h
    by_cases c2 : atB b k = 0
    · rw [if_pos c2] at h; cases h
    rw [if_neg c2] at h
    by_cases c3 : atB b k < 64
    · rw [if_pos c3] at h
      by_cases c4 : lim < k + 1 + atB b k
      · rw [if_pos c4] at h; cases h; exact ho
      rw [if_neg c4] at h
      by_cases c5 : 255 < had + 1 + atB b k + 1
      · rw [if_pos c5] at h; cases h; decide
      rw [if_neg c5] at h
      cases hr : nameU f b (k + 1 + atB b k) start lim over (had + 1 + atB b k) with
      | bad x => rw [hr] at h; cases h; exact nameU_bad f b _ start lim over _ _ (by omega) (by unfold leftU; omega) ho hr
      | ok r j => rw [hr] at h; cases h
    rw [if_neg c3] at h
    by_cases c6 : atB b k < 192
    · rw [if_pos c6] at h; cases h; decide
    rw [if_neg c6] at h
    by_cases c7 : lim < k + 2
    · rw [if_pos c7] at h; cases h; exact ho
    rw [if_neg c7] at h
    by_cases c8 : start ≤ (atB b k - 192) * 256 + atB b (k + 1)
    · rw [if_pos c8] at h; cases h; decide
    rw [if_neg c8] at h
    cases hr : nameU f b ((atB b k - 192) * 256 + atB b (k + 1)) ((atB b k - 192) * 256 + atB b (k + 1)) b.length 10 had with
    | bad x => rw [hr] at h; cases h; exact nameU_bad f b _ _ b.length 10 had _ h0 (by unfold leftU; omega) (by decide) hr
    | ok r j => rw [hr] at h; cases h
theorem nameAt_bad {b : Bs} {k lim : Nat} {over e : Int} (ho : over ≠ 0) (h : nameAt b k lim over = .bad e) : e ≠ 0 := nameU_bad _ b k k lim over 0 e (by omega) (by omega) ho h
theorem dataU_bad : ∀ (fs : List (Option Nat)) (b : Bs) (k lim : Nat) (acc : Bs) (e : Int), dataU fs b k lim acc = .bad e → e ≠ 0
  | [], b, k, lim, acc, e, h => by
    simp only [dataU] at h; split at h
    · cases h
    · cases h; decide
  | none :: fs, b, k, lim, acc, e, h => by
    simp only [dataU] at h
    cases hn : nameAt b k lim 7 with
    | bad x => rw [hn] at h; cases h; exact nameAt_bad (by decide) hn
    | ok r i => rw [hn] at h; exact dataU_bad fs b i lim _ e h
  | some n :: fs, b, k, lim, acc, e, h => by
    simp only [dataU] at h; split at h
    · cases h; decide
    · exact dataU_bad fs b _ lim _ e h
theorem recU_bad {b : Bs} {k : Nat} {e : Int} (h : recU b k = .bad e) : e ≠ 0 := by
  unfold recU at h
  cases hn : nameAt b k b.length 10 with
  | bad x => rw [hn] at h; cases h; exact nameAt_bad (by decide) hn
  | ok o j =>
    rw [hn] at h
    simp only at h
    by_cases c1 : b.length < j + 10
    · rw [if_pos c1] at h; cases h; decide
    rw [if_neg c1] at h
    by_cases c2 : b.length < j + 10 + num2 b (j + 8)
    · rw [if_pos c2] at h; cases h; decide
    rw [if_neg c2] at h
    by_cases c3 : num2 b (j + 8) = 0 ∨ shortL (num2 b j) = []
    · rw [if_pos c3] at h
      simp only at h
      split at h
      · cases h
      · cases h; decide
    · rw [if_neg c3] at h
      cases hd : dataU (shortL (num2 b j)) b (j + 10) (j + 10 + num2 b (j + 8)) [] with
      | bad x => rw [hd] at h; cases h; exact dataU_bad _ _ _ _ _ _ hd
      | ok d i =>
        rw [hd] at h
        simp only at h
        split at h
        · cases h
        · cases h; decide
theorem recU_right {b : Bs} {k : Nat} {x : Rc} {j : Nat} (h : recU b k = .ok x j) : rightB x = true := by
  unfold recU at h
  cases hn : nameAt b k b.length 10 with
  | bad x => rw [hn] at h; cases h
  | ok o i =>
    rw [hn] at h
    simp only at h
    by_cases c1 : b.length < i + 10
    · rw [if_pos c1] at h; cases h
    rw [if_neg c1] at h
    by_cases c2 : b.length < i + 10 + num2 b (i + 8)
    · rw [if_pos c2] at h; cases h
    rw [if_neg c2] at h
    split at h
    · cases h
    · split at h
      · cases h; assumption
      · cases h
theorem quesU_bad {b : Bs} {k : Nat} {e : Int} (h : quesU b k = .bad e) : e ≠ 0 := by
  unfold quesU at h
  cases hn : nameAt b k b.length 10 with
  | bad x => rw [hn] at h; cases h; exact nameAt_bad (by decide) hn
  | ok o j =>
    rw [hn] at h
    simp only at h
    split at h
    · cases h; decide
    · cases h
theorem quesU_right {b : Bs} {k : Nat} {x : Qn} {j : Nat} (h : quesU b k = .ok x j) : rightQ x = true := by
  unfold quesU at h
  cases hn : nameAt b k b.length 10 with
  | bad x => rw [hn] at h; cases h
  | ok o i =>
    rw [hn] at h
    simp only at h
    split at h
    · cases h
    · cases h
      obtain ⟨ls, h1, h2, h3⟩ := nameU_is _ b k k b.length 10 0 o i (by omega) (Nat.le_refl _) hn
      unfold rightQ
      rw [isB_yes (s := mkB o) (ls := ls) ⟨by unfold mkB; simpa using h1, h2, by unfold mkB; simp; omega⟩, inB_yes (v := (num2 b i : Int)) (by omega) (by have := crec.num2_le b i; omega), inB_yes (v := (num2 b (i + 2) : Int)) (by omega) (by have := crec.num2_le b (i + 2); omega)]
      rfl
theorem many_bad {α : Type} {f : Nat → Got α} (H : ∀ k e, f k = .bad e → e ≠ 0) : ∀ (n k : Nat) (e : Int) (i : Nat), manyU f n k = .bad e i → e ≠ 0
  | 0, k, e, i, h => by simp [manyU] at h
  | n + 1, k, e, i, h => by
    simp only [manyU] at h
    cases hf : f k with
    | bad x => rw [hf] at h; cases h; exact H k _ hf
    | ok x j =>
      rw [hf] at h
      simp only at h
      cases hm : manyU f n j with
      | bad x i => rw [hm] at h; cases h; exact many_bad H n j _ _ hm
      | ok l i => rw [hm] at h; cases h
theorem many_right {α : Type} {f : Nat → Got α} {ok : α → Bool} (H : ∀ k x j, f k = .ok x j → ok x = true) : ∀ (n k : Nat) (l : List α) (i : Nat), manyU f n k = .ok l i → l.all ok = true ∧ l.length = n
  | 0, k, l, i, h => by simp only [manyU] at h; cases h; exact ⟨rfl, rfl⟩
  | n + 1, k, l, i, h => by
    simp only [manyU] at h
    cases hf : f k with
    | bad x => rw [hf] at h; cases h
    | ok x j =>
      rw [hf] at h
      simp only at h
      cases hm : manyU f n j with
      | bad x i => rw [hm] at h; cases h
      | ok l' i =>
        rw [hm] at h; cases h
        have := many_right H n j l' _ hm
        exact ⟨by rw [List.all_cons, H k x j hf, this.1]; rfl, by rw [List.length_cons, this.2]⟩
/-- what is unpacked is a message -/
theorem unpack_checked {b : Bs} {m : Mg} {k : Nat} (h : unpackS b = (m, k, 0)) : checkB m = true := by
  unfold unpackS at h
  split at h
  · simp at h
  split at h
  · simp at h
  split at h
  · simp at h
  cases h0 : manyU (quesU b) (num2 b 4) 12 with
  | bad e i =>
    rw [h0] at h
    exact absurd (by simpa using congrArg (fun x => x.2.2) h) (many_bad (fun _ _ h => quesU_bad h) _ _ _ _ h0)
  | ok qs k0 =>
    rw [h0] at h
    simp only at h
    cases h1 : manyU (recU b) (num2 b 6) k0 with
    | bad e i =>
      rw [h1] at h
      exact absurd (by simpa using congrArg (fun x => x.2.2) h) (many_bad (fun _ _ h => recU_bad h) _ _ _ _ h1)
    | ok an k1 =>
      rw [h1] at h
      simp only at h
      cases h2 : manyU (recU b) (num2 b 8) k1 with
      | bad e i =>
        rw [h2] at h
        exact absurd (by simpa using congrArg (fun x => x.2.2) h) (many_bad (fun _ _ h => recU_bad h) _ _ _ _ h2)
      | ok au k2 =>
        rw [h2] at h
        simp only at h
        cases h3 : manyU (recU b) (num2 b 10) k2 with
        | bad e i =>
          rw [h3] at h
          exact absurd (by simpa using congrArg (fun x => x.2.2) h) (many_bad (fun _ _ h => recU_bad h) _ _ _ _ h3)
        | ok ar k3 =>
          rw [h3] at h
          simp only at h
          split at h
          · simp at h
          · have hm := congrArg (fun x => x.1) h
            simp only at hm
            subst hm
            have a0 := many_right (ok := rightQ) (fun _ _ _ h => quesU_right h) _ _ _ _ h0
            have a1 := many_right (ok := rightB) (fun _ _ _ h => recU_right h) _ _ _ _ h1
            have a2 := many_right (ok := rightB) (fun _ _ _ h => recU_right h) _ _ _ _ h2
            have a3 := many_right (ok := rightB) (fun _ _ _ h => recU_right h) _ _ _ _ h3
            have n0 := crec.num2_le b 0; have n2 := crec.num2_le b 2; have n4 := crec.num2_le b 4; have n6 := crec.num2_le b 6; have n8 := crec.num2_le b 8; have n10 := crec.num2_le b 10
            unfold checkB
            simp only [a0.1, a1.1, a2.1, a3.1, a0.2, a1.2, a2.2, a3.2]
            rw [inB_yes (v := (num2 b 0 : Int)) (by omega) (by omega), inB_yes (v := (num2 b 2 : Int) / 2048 % 16) (by omega) (by omega), inB_yes (v := (num2 b 2 : Int) % 16) (by omega) (by omega), decide_eq_true ⟨n4, n6, n8, n10⟩]
            rfl
end Go.Proofs.Ytabhiangjomaeaa.roundM
namespace Go.Proofs.Ytabhiangjomaeaa.usign
open Go.RowKit Go.Proofs.Ytabhiangjomaeaa.kit Go.Proofs.Ytabhiangjomaeaa.unpP
set_option linter.unusedVariables false

theorem and_mask {x : Int} {n : Nat} (hn : n ≤ 39) (h₀ : 0 ≤ x) (h₁ : x < 2 ^ 39) : bits .and .i64 x (2 ^ n - 1) = x % 2 ^ n :=
  bits_mask .i64 40 (by decide) psmall.wraps40 n (by omega) x (by omega) (by omega)
theorem sign_is (v k : Nat) (hv : v ≤ 65535) : (bits .and .i64 ((v : Int) / 2 ^ k) 1 == 1) = signB v k := by
  have e : ((v : Int) / 2 ^ k) = ((v / 2 ^ k : Nat) : Int) := by simp
  have hb : v / 2 ^ k ≤ 65535 := Nat.le_trans (Nat.div_le_self _ _) hv
  rw [e]
  unfold signB
  generalize v / 2 ^ k = x at hb
  have h : bits .and .i64 (x : Int) 1 = (x : Int) % 2 := bits_mask .i64 40 (by decide) psmall.wraps40 1 (by decide) _ (by omega) (by omega)
  rw [h]
  by_cases hx : x % 2 = 1
  · rw [decide_eq_true hx, beq_iff_eq]; omega
  · rw [decide_eq_false hx, beq_eq_false_iff_ne]; omega
set_option maxRecDepth 100000 in
theorem usign_any (F v k : Nat) (w : World) (h : w.cell? ⟨F, 0, none⟩ = some (.int .i64 (v : Int))) (hv : v ≤ 65535) (hk : k ≤ 15) :
    Calls Try.prog 63 #[.int .i64 (k : Int), .pointer (some ⟨F, 0, none⟩)] w fun e w' => e = .returned (.bool (signB v k)) ∧ w' = w := by
  have hk0 : (0 : Int) ≤ (k : Int) := by omega
  go_enter Try.func63, Try.ntmps63
  go_wp2_with fail
  go_ret
  exact ⟨by rw [sign_is v k hv]; rfl, rfl⟩
end Go.Proofs.Ytabhiangjomaeaa.usign
namespace Go.Proofs.Ytabhiangjomaeaa.nameB
open Go.RowKit Go.Proofs.Ytabhiangjomaeaa.kit Go.Proofs.Ytabhiangjomaeaa.check Go.Proofs.Ytabhiangjomaeaa.nspec Go.Proofs.Ytabhiangjomaeaa.rsplit Go.Proofs.Ytabhiangjomaeaa.low Go.Proofs.Ytabhiangjomaeaa.refA Go.Proofs.Ytabhiangjomaeaa.refB Go.Proofs.Ytabhiangjomaeaa.nameA

theorem low_of_small (c : UInt8) (h : c.toNat ≤ 63) : lowB c = c := lowB_id c (by omega)
theorem low_put {ls : List Bs} (h : okL ls) : lowL (put ls) = put (ls.map lowL) := by
  induction ls with
  | nil => rfl
  | cons x r ih =>
    obtain ⟨⟨h1, h2⟩, h3⟩ := okL_cons.1 h
    have hn : (UInt8.ofNat x.length).toNat = x.length := nat_of (by omega)
    have := ih h3
    simp only [lowL, put, List.map_cons, List.map_append, List.length_map] at this ⊢
    rw [low_of_small _ (by omega), this]
theorem fold_low {l : Bs} {ls : List Bs} (h : IsN l ls) : foldS l = lowL l := by rw [foldS_yes h, h.1, low_put h.2.1]
theorem equal_low {a b : Bs} {x y : List Bs} (ha : IsN a x) (hb : IsN b y) : equalS a b = decide (lowL a = lowL b) := by
  rw [equalS_eq, split_iff.2 ha, split_iff.2 hb, fold_low ha, fold_low hb]; rfl
theorem equal_no1 {a b : Bs} (h : split a = none) : equalS a b = false := by rw [equalS_eq, h]; rfl
theorem equal_no2 {a b : Bs} (h : split b = none) : equalS a b = false := by rw [equalS_eq, h]; simp

def withinP (n z : Bs) : Bool := decide (0 ≤ countS z) && equalS (tailS n (countS z)) z
def comF (a b : Bs) : Nat → Bs
  | 0 => []
  | g + 1 => if equalS (tailS a g) (tailS b g) then tailS a g else comF a b g
def commonP (a b : Bs) : Bs := comF a b (min (countS a) (countS b) + 1).toNat
theorem comF_yes {a b : Bs} {g : Nat} {R : Bs} (h : comF a b (g + 1) = R) (he : equalS (tailS a g) (tailS b g) = true) : tailS a g = R := by
  rw [← h]; simp only [comF]; rw [if_pos he]
theorem comF_no {a b : Bs} {g : Nat} {R : Bs} (h : comF a b (g + 1) = R) (he : equalS (tailS a g) (tailS b g) = false) : comF a b g = R := by
  rw [← h]; simp only [comF]; rw [he]; simp
theorem tailS_neg (l : Bs) (k : Int) (h : k < 0) : tailS l k = [] := by
  unfold tailS
  cases split l with
  | none => rfl
  | some ls => simp only; rw [if_neg (by omega)]

end Go.Proofs.Ytabhiangjomaeaa.nameB
namespace Go.Proofs.Ytabhiangjomaeaa.refC
open Go.RowKit Go.Proofs.Ytabhiangjomaeaa.kit Go.Proofs.Ytabhiangjomaeaa.nspec Go.Proofs.Ytabhiangjomaeaa.rsplit Go.Proofs.Ytabhiangjomaeaa.rput Go.Proofs.Ytabhiangjomaeaa.low Go.Proofs.Ytabhiangjomaeaa.refA Go.Proofs.Ytabhiangjomaeaa.refB Go.Proofs.Ytabhiangjomaeaa.nameB

/-- the row of cells that Split has made can be the source of an append -/
theorem SV.src {w : World} {g : Nat} {ls : List Bs} (m : Nat) (hc : ∀ (j : Nat) (x : Bs), ls[j]? = some x → w.cell? ⟨g, j, none⟩ = some (strV x)) :
    ∀ (j : Nat) (u : Value), ((ls.take m).map strV)[j]? = some u → w.cell? ((⟨g, 0, none⟩ : Addr).add j) = some u := by
  intro j u hu
  rw [List.getElem?_map] at hu
  cases hx : (ls.take m)[j]? with
  | none => rw [hx] at hu; simp at hu
  | some x =>
    rw [hx] at hu
    have hx' : ls[j]? = some x := by
      rw [List.getElem?_take] at hx; split at hx
      · exact hx
      · simp at hx
    have : u = strV x := by simpa using hu.symm
    subst this
    rw [addr_add]; exact hc j x hx'
theorem one_str (ls : List Bs) : ∀ u ∈ ls.map strV, u.oneCell' = true := by
  intro u hu; obtain ⟨x, _, rfl⟩ := List.mem_map.1 hu; rfl

def graftS (n f t : Bs) : Bs × Int :=
  match split n, split f, split t with
  | some l, some x, some y => if withinS n f then (if 255 < (put (l.take (l.length - x.length) ++ y)).length then ([], 4) else (put (l.take (l.length - x.length) ++ y), 0)) else ([], 5)
  | _, _, _ => ([], 1)
theorem ret_se {a : Bs} {b : Int} {p : Bs × Int} (h : (a, b) = p) : Ending.returned (.tuple #[.string ⟨a.toArray⟩, .int .i64 b]) = .returned (.tuple #[.string ⟨p.1.toArray⟩, .int .i64 p.2]) := by subst h; rfl

/-- append onto a nil list, then onto that, and Put: the part of Graft behind its tests -/
theorem within_len {n f : Bs} {l x : List Bs} (hn : IsN n l) (hf : IsN f x) (h : withinS n f = true) : x.length ≤ l.length ∧ (l.drop (l.length - x.length)).map lowL = x.map lowL := by
  have key : ∀ (g k : Nat), wF n f g k = true → ∃ j : Nat, equalS (tailS n (j : Int)) f = true := by
    intro g
    induction g with
    | zero => intro k h; simp [wF] at h
    | succ g ih =>
      intro k h
      simp only [wF] at h
      by_cases he : equalS (tailS n (k : Int)) f = true
      · exact ⟨k, he⟩
      · rw [if_neg he] at h; exact ih _ h
  obtain ⟨j, hj⟩ := key _ _ h
  rw [tailS_yes hn] at hj
  by_cases hjl : (0 : Int) ≤ (j : Int) ∧ (j : Int) ≤ (l.length : Int)
  · rw [if_pos hjl, Int.toNat_natCast] at hj
    have hd := isN_put (okL_drop (l.length - j) hn.2.1) (by have := room_drop l (l.length - j); have := isN_room hn; omega)
    have := hj
    unfold equalS at this
    rw [split_iff.2 hd, split_iff.2 hf] at this
    simp only [decide_eq_true_eq] at this
    have hlen := congrArg List.length this
    simp only [List.length_map, List.length_drop] at hlen
    have hjx : j = x.length := by omega
    subst hjx
    exact ⟨by omega, this⟩
  · rw [if_neg hjl] at hj
    have : split [] = none := rfl
    rw [equal_no1 this] at hj; simp at hj

theorem split_gen (s : ByteArray) (w : World) (hs : s.size ≤ 1099511627776) :
    Calls Try.prog 100 #[.string s] w fun e w' => ∃ a n c, e = .returned (.tuple #[.slice a n c, .bool (isB s)]) ∧ Below w.heap.size w w' := by
  rcases isB_or s with ⟨ls, h⟩ | h
  · rw [isB_yes h]
    refine (split_yes s ls w h).mono ?_
    rintro e w' ⟨v, rfl, hsv, hB⟩
    obtain ⟨a, c, rfl, _⟩ := hsv.rd
    exact ⟨a, _, c, rfl, hB⟩
  · rw [isB_no h]
    exact split_no s w hs h
theorem graftS_bad {n f t : Bs} (h : ((split n).isSome && (split f).isSome && (split t).isSome) = false) : graftS n f t = ([], 1) := by
  unfold graftS
  cases hn : split n with
  | none => rfl
  | some l => cases hf : split f with
    | none => rfl
    | some x => cases ht : split t with
      | none => rfl
      | some y => rw [hn, hf, ht] at h; simp at h
end Go.Proofs.Ytabhiangjomaeaa.refC
namespace Go.Proofs.Ytabhiangjomaeaa.nameC
open Go.RowKit Go.Proofs.Ytabhiangjomaeaa.kit Go.Proofs.Ytabhiangjomaeaa.check Go.Proofs.Ytabhiangjomaeaa.nspec Go.Proofs.Ytabhiangjomaeaa.rsplit Go.Proofs.Ytabhiangjomaeaa.rput Go.Proofs.Ytabhiangjomaeaa.low Go.Proofs.Ytabhiangjomaeaa.refA Go.Proofs.Ytabhiangjomaeaa.refB Go.Proofs.Ytabhiangjomaeaa.nameA Go.Proofs.Ytabhiangjomaeaa.nameB Go.Proofs.Ytabhiangjomaeaa.refC

theorem wF_iff {n z : Bs} : ∀ (g k : Nat), wF n z g k = true ↔ ∃ j, k ≤ j ∧ j < k + g ∧ equalS (tailS n (j : Int)) z = true
  | 0, k => by simp [wF]; intro j h1 h2; omega
  | g + 1, k => by
    simp only [wF]
    by_cases he : equalS (tailS n (k : Int)) z = true
    · rw [if_pos he]; simp only [true_iff]; exact ⟨k, Nat.le_refl _, by omega, he⟩
    · rw [if_neg he, wF_iff g (k + 1)]
      constructor
      · rintro ⟨j, h1, h2, h3⟩; exact ⟨j, by omega, by omega, h3⟩
      · rintro ⟨j, h1, h2, h3⟩
        rcases Nat.lt_or_eq_of_le h1 with h | h
        · exact ⟨j, by omega, by omega, h3⟩
        · subst h; exact absurd h3 he
theorem split_nil : split [] = none := rfl
theorem tail_isN {n : Bs} {l : List Bs} (h : IsN n l) (j : Nat) (hj : j ≤ l.length) : IsN (tailS n (j : Int)) (l.drop (l.length - j)) := by
  rw [tailS_yes h, if_pos ⟨by omega, by omega⟩, Int.toNat_natCast]
  exact isN_put (okL_drop _ h.2.1) (by have := room_drop l (l.length - j); have := isN_room h; omega)
theorem equal_len {a b : Bs} {x y : List Bs} (ha : IsN a x) (hb : IsN b y) (h : equalS a b = true) : x.length = y.length := by
  unfold equalS at h
  rw [split_iff.2 ha, split_iff.2 hb] at h
  simp only [decide_eq_true_eq] at h
  simpa using congrArg List.length h
theorem within_same (n z : Bs) : withinP n z = withinS n z := by
  unfold withinP withinS
  cases hz : split z with
  | none =>
    rw [countS_no hz]
    have : wF n z (countS n + 1).toNat 0 = false := by
      cases h : wF n z (countS n + 1).toNat 0 with
      | false => rfl
      | true =>
        obtain ⟨j, _, _, h3⟩ := (wF_iff _ _).1 h
        rw [equal_no2 hz] at h3; simp at h3
    rw [this]; rfl
  | some zs =>
    have hzs := split_iff.1 hz
    rw [countS_yes hzs]
    rw [decide_eq_true (by omega), Bool.true_and]
    cases hn : split n with
    | none =>
      rw [tailS_no hn, equal_no1 split_nil, countS_no hn]; rfl
    | some l =>
      have hl := split_iff.1 hn
      rw [countS_yes hl]
      rw [Bool.eq_iff_iff, wF_iff]
      constructor
      · intro h
        refine ⟨zs.length, Nat.zero_le _, ?_, h⟩
        by_cases hle : zs.length ≤ l.length
        · omega
        · rw [tailS_yes hl, if_neg (by omega), equal_no1 split_nil] at h; simp at h
      · rintro ⟨j, _, h2, h3⟩
        have hj : j ≤ l.length := by omega
        have := equal_len (tail_isN hl j hj) hzs h3
        rw [List.length_drop] at this
        have e : j = zs.length := by omega
        rw [← e]; exact h3

theorem room_same : ∀ (a b : List Bs), a.map lowL = b.map lowL → room a = room b := by
  intro a b h
  rw [← room_low a, ← room_low b, h]
theorem graft_plain {n f t : Bs} {l x y : List Bs} (hn : IsN n l) (hf : IsN f x) (ht : IsN t y) (hw : withinS n f = true) :
    f.length ≤ n.length ∧ n.take (n.length - f.length) ++ t = put (l.take (l.length - x.length) ++ y) := by
  obtain ⟨h1, h2⟩ := within_len hn hf hw
  have hr := room_same _ _ h2
  have hra : room l = room (l.take (l.length - x.length)) + room (l.drop (l.length - x.length)) := by rw [← room_append, List.take_append_drop]
  have hnl : n.length = room l + 1 := by rw [hn.1, put_length]
  have hfl : f.length = room x + 1 := by rw [hf.1, put_length]
  refine ⟨by omega, ?_⟩
  have hd : n.length - f.length = room (l.take (l.length - x.length)) := by omega
  rw [hd, put_append]
  congr 1
  · rw [hn.1]
    have h : put l = (l.take (l.length - x.length)).flatMap (fun x => UInt8.ofNat x.length :: x) ++ put (l.drop (l.length - x.length)) := by
      rw [← put_append, List.take_append_drop]
    rw [h, ← flat_length]
    exact List.take_left
  · exact ht.1

end Go.Proofs.Ytabhiangjomaeaa.nameC
namespace Go.Proofs.Ytabhiangjomaeaa.nameL
open Go.RowKit Go.Shelf Go.Proofs.Ytabhiangjomaeaa.kit Go.Proofs.Ytabhiangjomaeaa.labels Go.Proofs.Ytabhiangjomaeaa.check Go.Proofs.Ytabhiangjomaeaa.nspec Go.Proofs.Ytabhiangjomaeaa.rsplit Go.Proofs.Ytabhiangjomaeaa.low Go.Proofs.Ytabhiangjomaeaa.refA Go.Proofs.Ytabhiangjomaeaa.nameA
attribute [local go_sem] Oper.semAt_some

/-- the labels among the pairs -/
def labsOf (l : List (Nat × ByteArray)) : List Bs := (l.map (fun p => p.2.data.toList)).filter (fun x => !x.isEmpty)
theorem labsOf_pairs : ∀ (k : Nat) (ls : List Bs), okL ls → labsOf (pairsL k ls) = ls
  | k, [], _ => by simp [pairsL, labsOf]
  | k, x :: r, h => by
    obtain ⟨⟨h1, _⟩, h3⟩ := okL_cons.1 h
    have := labsOf_pairs (k + 1 + x.length) r h3
    have hx : x.isEmpty = false := by
      cases x with
      | nil => simp at h1
      | cons a b => rfl
    simp only [labsOf, pairsL, List.map_cons, List.filter_cons, hx] at this ⊢
    rw [this]; rfl
theorem labsOf_yes {N : Nat} {pre : List (Lab N)} {x : Lab N} (h : x.val.2.toList.isEmpty = false) : labsOf (raw (pre ++ [x])) = labsOf (raw pre) ++ [x.val.2.data.toList] := by
  rw [Lib.toList_data] at h
  rw [raw_snoc]; simp [labsOf, h]
theorem labsOf_no {N : Nat} {pre : List (Lab N)} {x : Lab N} (h : x.val.2.toList = []) : labsOf (raw (pre ++ [x])) = labsOf (raw pre) := by
  rw [Lib.toList_data] at h
  rw [raw_snoc]; simp [labsOf, h]
theorem labsOf_len (l : List (Nat × ByteArray)) : (labsOf l).length ≤ l.length := by
  unfold labsOf
  exact Nat.le_trans (List.length_filter_le _ _) (by simp)

/-- an append in a round: the box of the list, the list itself, and all that lay there -/
theorem lab_append {W w3 : World} {n₀ B : Nat} {t e : TypeId} {v v' : Value} {k m : Nat} {xs ys : List Value} {tmp : Obj} (hv : Boxed W B t v) (hrow : W.ownsRow n₀ e 1 v k xs) (hn : n₀ ≤ W.heap.size) (hB : B < n₀)
    (hown' : w3.ownsRow n₀ e 1 v' m ys) (hgrow : (W.alloc tmp).grownBy w3 v.ownBlock) :
    Boxed w3 B t v ∧ Boxed (w3.setCell ⟨B, 0, none⟩ v') B t v' ∧ (w3.setCell ⟨B, 0, none⟩ v').ownsRow n₀ e 1 v' m ys ∧ KeepsOthers W (w3.setCell ⟨B, 0, none⟩ v') ∧ Below B W (w3.setCell ⟨B, 0, none⟩ v') ∧
      (∀ Bs, Bs < n₀ → Bs < W.heap.size → Bs ≠ B → KeepBox Bs W (w3.setCell ⟨B, 0, none⟩ v')) := by
  have hne : ∀ j, j < n₀ → some j ≠ v.ownBlock := fun j hj e => by have := (hrow.lt j e.symm).1; omega
  have hne' : some B ≠ v'.ownBlock := fun e => by have := (hown'.lt B e.symm).1; omega
  have hv1 : Boxed w3 B t v := (hv.alloc tmp).kept hgrow (hne B hB)
  refine ⟨hv1, hv1.set v', hown'.kept (grownBy_setCell' w3 B v') (.inr hne'.symm), ?_, ?_, ?_⟩
  · refine ((KeepsOthers.alloc W tmp).trans (KeepsOthers.of_grownBy hgrow fun j o ej hj => ?_)).trans (KeepsOthers.setCell _ _ _)
    rcases (hrow.alloc tmp).2 with ⟨rfl, _⟩ | ⟨g, cap, cur, rfl, _, hgb, _⟩
    · simp [Value.ownBlock] at ej
    · obtain rfl : g = j := by simpa [Value.ownBlock] using ej
      rw [hgb] at hj; cases hj; rfl
  · refine (((Below.refl B W).alloc (by omega) tmp).grown hgrow (by simp; omega) fun j ej => ?_).setCell (p := ⟨B, 0, none⟩) (Nat.le_refl _) v'
    have := (hrow.lt j ej).1; omega
  · intro Bs h1 h2 h3
    have e1 := Below.heap_alloc W tmp Bs h2
    have e2 := hgrow.block Bs (by simp; omega) (hne Bs h1)
    exact World.cell?_of_block ((Below.heap_setCell w3 ⟨B, 0, none⟩ v' Bs h3).trans (e2.trans e1))

def labS (l : Bs) : List Bs := match split l with | some ls => ls | none => []
theorem lab_low {l : Bs} {ls : List Bs} (h : IsN l ls) : IsN (lowL l) (ls.map lowL) := by
  have := nameB.low_put h.2.1
  refine ⟨by rw [h.1, this], okL_low h.2.1, ?_⟩
  have h3 := h.2.2
  simpa [lowL] using h3
end Go.Proofs.Ytabhiangjomaeaa.nameL

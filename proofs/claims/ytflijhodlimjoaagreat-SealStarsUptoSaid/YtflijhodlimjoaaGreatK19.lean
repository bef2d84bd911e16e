/- Digests: gazetteerref4.half, Digest; seal's sum.add: walks. What a signature is made of, in plain words. wire.right, gazetteerref2.Right: walks (printed by gen_right.py). Lists of timed keys, and of keys of a plan, in memory; both are held against their like. Messages in memory. Rows of so many cells: read, owned, appended. -/
import Derived.Test.YtflijhodlimjoaaGreatK18
import Derived.Test.YtflijhodlimjoaaGreatK14
import Derived.Test.YtflijhodlimjoaaGreatK1
import Derived.BigRegion
import Derived.BigQuiet
import Derived.Deep.QuietTactic
namespace Go.Proofs.YtflijhodlimjoaaGreat.half
open Go.RowKit Go.Proofs.YtflijhodlimjoaaGreat.kit Go.Proofs.YtflijhodlimjoaaGreat.bld Go.Proofs.YtflijhodlimjoaaGreat.big
set_option linter.unusedVariables false

def halfL (t p : Nat) : List UInt8 → Nat → Nat
  | [], h => h
  | c :: r, h => halfL t p r ((h * t + c.toNat + 1) % p)
theorem halfL_lt (t p : Nat) (hp : 1 ≤ p) : ∀ (l : List UInt8) (h : Nat), h < p → halfL t p l h < p
  | [], h, hh => hh
  | c :: r, h, hh => halfL_lt t p hp r _ (Nat.mod_lt _ hp)
def p1 : Nat := 1099511627689
def p2 : Nat := 1099511627563
def digestS (l : List UInt8) : List UInt8 := bigS (halfL 1000003 p1 l 1) 5 ++ bigS (halfL 999983 p2 l 1) 5
theorem digest_len (l : List UInt8) : (digestS l).length = 10 := by unfold digestS; rw [List.length_append, bigS_len, bigS_len]
theorem mul_le {h t p : Nat} (hh : h < p) (hp : p ≤ 1099511627776) (ht : t ≤ 1048576) : h * t ≤ 1152921504606846976 := by
  have h1 := Nat.mul_le_mul (show h ≤ 1099511627776 by omega) ht
  exact Nat.le_trans h1 (by decide)

set_option maxRecDepth 100000 in
set_option maxHeartbeats 1000000 in
theorem half_any (s : ByteArray) (t p : Nat) (w : World) (hs : s.size ≤ 1099511627776) (ht : t ≤ 1048576) (hp2 : 2 ≤ p) (hp : p ≤ 1099511627776) :
    Calls Tryz.prog 166 #[.string s, .int .i64 (t : Int), .int .i64 (p : Int)] w fun e w' => e = .returned (.int .i64 ((halfL t p s.data.toList 1 : Nat) : Int)) ∧ w = w' := by
  obtain ⟨R, HR⟩ : ∃ R, Hid (halfL t p (s.data.toList.drop 0) 1 = R) := ⟨_, Lib.hid rfl⟩
  rw [show s.data.toList = s.data.toList.drop 0 from rfl, HR.out]
  go_enter Tryz.func166, Tryz.ntmps166
  go_wp2
  go_loopg [7, 8] (s.size + 1) (fun gas hv kv wr => ∃ (k h : Nat), kv = .int .i64 k ∧ hv = .int .i64 h ∧ k ≤ s.size ∧ k + gas = s.size + 1 ∧ h < p ∧ Hid (halfL t p (s.data.toList.drop k) h = R) ∧ w = wr)
  case atStart => exact ⟨0, 1, rfl, rfl, by omega, by omega, by omega, HR, rfl⟩
  case round =>
    obtain ⟨k, h, rfl, rfl, hk, hkg, hh, HW, rfl⟩ := hrel
    have HK := Lib.hid hkg; clear hkg
    by_cases hlt : k < s.size
    · obtain ⟨c, hc⟩ : ∃ c, s[k] = c := ⟨_, rfl⟩
      have hc256 := byte_lt c
      obtain ⟨M, hM⟩ : ∃ M, h * t = M := ⟨_, rfl⟩
      have hM2 : M ≤ 1152921504606846976 := by rw [← hM]; exact mul_le hh hp ht
      obtain ⟨S, hS⟩ : ∃ S, M + c.toNat + 1 = S := ⟨_, rfl⟩
      obtain ⟨H, hH⟩ : ∃ H, S % p = H := ⟨_, rfl⟩
      have hHp : H < p := by rw [← hH]; exact Nat.mod_lt _ (by omega)
      have HW2 : Hid (halfL t p (s.data.toList.drop (k + 1)) H = R) := Lib.hid (by
        rw [← HW.out, drop_cons s k hlt, hc, halfL, hM, hS, hH])
      have e1 : Value.int .i64 (wrap64 ((h : Int) * (t : Int))) = Value.int .i64 (M : Int) := by
        have e : (h : Int) * (t : Int) = (M : Int) := by rw [← hM]; simp
        rw [e, IntWalk.wrap64_in _ (by omega)]
      have e2 : Value.int .i64 ((M : Int) + (c.toNat : Int) + 1) = Value.int .i64 (S : Int) := by congr 1; omega
      have e3 : Value.int .i64 ((S : Int) % (p : Int)) = Value.int .i64 (H : Int) := by congr 1; rw [← hH]; simp
      clear hM hS hH
      go_wp2
      have hkg := HK.out
      go_roundg (gk - 1)
      case rel => exact ⟨k + 1, _, by go_num, (by first | exact e3 | rfl), by omega, by omega, hHp, HW2, rfl⟩
      case measure => omega
    · have HN := HW.out
      rw [drop_end s k (by omega)] at HN
      have HE : Hid (h = R) := Lib.hid HN
      clear HN
      go_wp2
      go_ret
      exact ⟨by rw [HE.out]; rfl, rfl⟩

set_option maxRecDepth 100000 in
set_option maxHeartbeats 1000000 in
theorem rdigest_any (s : ByteArray) (w : World) (hs : s.size ≤ 1099511627776) :
    Calls Tryz.prog 134 #[.string s] w fun e w' => e = .returned (.string ⟨(digestS s.data.toList).toArray⟩) ∧ Below w.heap.size w w' := by
  obtain ⟨D1, hD1⟩ : ∃ D : ByteArray, (⟨(bigS (halfL 1000003 p1 s.data.toList 1) 5).toArray⟩ : ByteArray) = D := ⟨_, rfl⟩
  obtain ⟨D2, hD2⟩ : ∃ D : ByteArray, (⟨(bigS (halfL 999983 p2 s.data.toList 1) 5).toArray⟩ : ByteArray) = D := ⟨_, rfl⟩
  have hs1 : D1.size ≤ 5 := by rw [← hD1, mk_size, bigS_len]; exact Nat.le_refl 5
  have hs2 : D2.size ≤ 5 := by rw [← hD2, mk_size, bigS_len]; exact Nat.le_refl 5
  have HE : Hid ((⟨(digestS s.data.toList).toArray⟩ : ByteArray) = D1 ++ D2) := Lib.hid (by rw [← hD1, ← hD2]; exact ba_ext (by simp [digestS]))
  rw [HE.out]
  have h1 := halfL_lt 1000003 p1 (by decide) s.data.toList 1 (by decide)
  have h2 := halfL_lt 999983 p2 (by decide) s.data.toList 1 (by decide)
  have hb1 : halfL 1000003 p1 s.data.toList 1 ≤ 4611686018427387904 := Nat.le_trans (Nat.le_of_lt h1) (by decide)
  have hb2 : halfL 999983 p2 s.data.toList 1 ≤ 4611686018427387904 := Nat.le_trans (Nat.le_of_lt h2) (by decide)
  clear h1 h2
  have C1 := Lib.hid (fun w => half_any s 1000003 p1 w hs (by decide) (by decide) (by decide))
  have C2 := Lib.hid (fun w => half_any s 999983 p2 w hs (by decide) (by decide) (by decide))
  have B1 := Lib.hid (fun w => rbytes_any 5 (halfL 1000003 p1 s.data.toList 1) w hb1 (by decide))
  have B2 := Lib.hid (fun w => rbytes_any 5 (halfL 999983 p2 s.data.toList 1) w hb2 (by decide))
  rw [hD1] at B1
  rw [hD2] at B2
  clear hD1 hD2 hb1 hb2
  go_enter Tryz.func134, Tryz.ntmps134
  go_wp2_with fail
  refine (C1.out _).mono ?_
  rintro e w1 ⟨rfl, rfl⟩
  go_wp2_with fail
  refine (B1.out _).mono ?_
  rintro e w1 ⟨rfl, hB1⟩
  go_wp2_with fail
  refine (C2.out _).mono ?_
  rintro e w2 ⟨rfl, rfl⟩
  go_wp2_with fail
  refine (B2.out _).mono ?_
  rintro e w2 ⟨rfl, hB2⟩
  go_wp2
  go_ret
  exact ⟨rfl, hB1.trans (hB2.mono hB1.size)⟩

set_option maxRecDepth 100000 in
set_option maxHeartbeats 1000000 in
theorem add_any (g o : Nat) (h t p : Nat) (c : UInt8) (w : World) (c0 : w.cell? ⟨g, o, none⟩ = some (.int .i64 (h : Int))) (c1 : w.cell? ⟨g, o + 1, none⟩ = some (.int .i64 (t : Int))) (c2 : w.cell? ⟨g, o + 2, none⟩ = some (.int .i64 (p : Int)))
    (f0 : w.frozen? ⟨g, o, none⟩ = false) (hh : h < p) (ht : t ≤ 1048576) (hp2 : 2 ≤ p) (hp : p ≤ 1099511627776) :
    Calls Tryz.prog 165 #[.pointer (some ⟨g, o, none⟩), .int .u8 (c.toNat : Int)] w fun e w' => e = .returned (.tuple #[]) ∧ w' = (w.setCell ⟨g, o, none⟩ (.int .i64 (((h * t + c.toNat + 1) % p : Nat) : Int))).drew := by
  have hc256 := byte_lt c
  obtain ⟨M, hM⟩ : ∃ M, h * t = M := ⟨_, rfl⟩
  have hM2 : M ≤ 1152921504606846976 := by rw [← hM]; exact mul_le hh hp ht
  obtain ⟨S, hS⟩ : ∃ S, M + c.toNat + 1 = S := ⟨_, rfl⟩
  obtain ⟨H, hH⟩ : ∃ H, S % p = H := ⟨_, rfl⟩
  rw [hM, hS, hH]
  have HX : Hid ((wrap64 (wrap64 (wrap64 ((h : Int) * (t : Int)) + (c.toNat : Int)) + 1)).tmod (p : Int) = (H : Int)) := Lib.hid (by
    have e : (h : Int) * (t : Int) = (M : Int) := by rw [← hM]; simp
    rw [e, IntWalk.wrap64_in (M : Int) (by omega), IntWalk.wrap64_in ((M : Int) + (c.toNat : Int)) (by omega), IntWalk.wrap64_in ((M : Int) + (c.toNat : Int) + 1) (by omega), Int.tmod_eq_emod_of_nonneg (by omega)]
    rw [show (M : Int) + (c.toNat : Int) + 1 = (S : Int) by omega, ← hH]; simp)
  have hp1i : (1 : Int) ≤ (p : Int) := by omega
  clear hM hS hH
  go_enter Tryz.func165, Tryz.ntmps165
  go_wp2_with fail
  go_region
  go_end0
  refine ⟨rfl, ?_⟩
  rw [HX.out]
end Go.Proofs.YtflijhodlimjoaaGreat.half
namespace Go.Proofs.YtflijhodlimjoaaGreat.signP
open Go.RowKit Go.Proofs.YtflijhodlimjoaaGreat.kit Go.Proofs.YtflijhodlimjoaaGreat.nspec Go.Proofs.YtflijhodlimjoaaGreat.rsplit Go.Proofs.YtflijhodlimjoaaGreat.refA Go.Proofs.YtflijhodlimjoaaGreat.refB Go.Proofs.YtflijhodlimjoaaGreat.right Go.Proofs.YtflijhodlimjoaaGreat.sealA Go.Proofs.YtflijhodlimjoaaGreat.sealS Go.Proofs.YtflijhodlimjoaaGreat.sealP Go.Proofs.YtflijhodlimjoaaGreat.big Go.Proofs.YtflijhodlimjoaaGreat.val Go.Proofs.YtflijhodlimjoaaGreat.pub Go.Proofs.YtflijhodlimjoaaGreat.half Go.Proofs.YtflijhodlimjoaaGreat.tag Go.Proofs.YtflijhodlimjoaaGreat.wireP Go.Proofs.YtflijhodlimjoaaGreat.sortT Go.Proofs.YtflijhodlimjoaaGreat.fld
set_option linter.unusedVariables false

def headS (T CN TL UN FR TG : Nat) : Bs := bigS T 2 ++ [253] ++ bigS CN 1 ++ bigS TL 4 ++ bigS UN 4 ++ bigS FR 4 ++ bigS TG 2
theorem head_len (T CN TL UN FR TG : Nat) : (headS T CN TL UN FR TG).length = 18 := by
  unfold headS; simp only [List.length_append, bigS_len, List.length_cons, List.length_nil]
theorem head_type (T CN TL UN FR TG : Nat) : (headS T CN TL UN FR TG).take 2 = bigS T 2 := by
  unfold headS
  simp only [List.append_assoc]
  rw [List.take_append_of_le_length (by rw [bigS_len]; exact Nat.le_refl _), List.take_of_length_le (by rw [bigS_len]; exact Nat.le_refl _)]
theorem one_big (CN : Nat) : bigS CN 1 = [UInt8.ofNat (CN % 256)] := rfl
theorem head_drop4 (T CN TL UN FR TG : Nat) : (headS T CN TL UN FR TG).drop 4 = bigS TL 4 ++ bigS UN 4 ++ bigS FR 4 ++ bigS TG 2 := by
  have h1 : (bigS T 2 ++ [253] ++ bigS CN 1).length = 4 := by simp only [List.length_append, bigS_len, List.length_cons, List.length_nil]
  have h2 : headS T CN TL UN FR TG = (bigS T 2 ++ [253] ++ bigS CN 1) ++ (bigS TL 4 ++ bigS UN 4 ++ bigS FR 4 ++ bigS TG 2) := by unfold headS; simp only [List.append_assoc]
  rw [h2, List.drop_append_of_le_length (by rw [h1]; exact Nat.le_refl _), List.drop_of_length_le (by rw [h1]; exact Nat.le_refl _), List.nil_append]
theorem head_ttl (T CN TL UN FR TG : Nat) : ((headS T CN TL UN FR TG).drop 4).take 4 = bigS TL 4 := by
  rw [head_drop4]
  simp only [List.append_assoc]
  rw [List.take_append_of_le_length (by rw [bigS_len]; exact Nat.le_refl _), List.take_of_length_le (by rw [bigS_len]; exact Nat.le_refl _)]
theorem head_lab (T CN TL UN FR TG : Nat) : (headS T CN TL UN FR TG)[3]? = some (UInt8.ofNat (CN % 256)) := by
  have h1 : (bigS T 2 ++ [253]).length = 3 := by simp only [List.length_append, bigS_len, List.length_cons, List.length_nil]
  have h2 : headS T CN TL UN FR TG = (bigS T 2 ++ [253]) ++ ([UInt8.ofNat (CN % 256)] ++ (bigS TL 4 ++ bigS UN 4 ++ bigS FR 4 ++ bigS TG 2)) := by unfold headS; rw [one_big]; simp only [List.append_assoc]
  rw [h2, List.getElem?_append_right (by rw [h1]; exact Nat.le_refl _), h1]
  rfl
theorem val_one {CN : Nat} (h : CN < 256) : valL (bigS CN 1) 0 = CN := by
  rw [one_big]
  simp only [valL]
  rw [show CN % 256 = CN from Nat.mod_eq_of_lt h, Nat.zero_mul, Nat.zero_add]
  exact nat_of (by omega)
theorem lab_one {CN : Nat} (h : CN < 256) : (UInt8.ofNat (CN % 256)).toNat = CN := by
  rw [show CN % 256 = CN from Nat.mod_eq_of_lt h]
  exact nat_of (by omega)

def zeroR : Value := .agg #[.string ⟨#[]⟩, .int .i64 0, .int .i64 0, .int .i64 0, .string ⟨#[]⟩]
def noR (c : Int) : Ending := .returned (.tuple #[zeroR, .int .i64 c])
def otherTtl (h : Rc) (L : List Rc) : Bool := L.any (fun x => x.l != h.l)
def sigText (hd sn : Bs) (h : Rc) (L : List Rc) : Bs := textS hd (foldS sn) (lessS h.o.data.toList) h.o.data.toList (sortedT (L.map foldX))
def sigNum (hd sn : Bs) (h : Rc) (L : List Rc) (m s : Nat) : Nat := powS (figL m (digestS (sigText hd sn h L)) 0) s m
def sigHead (kf km ke ks : Int) (h : Rc) (fr un : Int) : Bs := headS h.t.toNat (lessS h.o.data.toList).toNat h.l.toNat un.toNat fr.toNat (tagS (pubS kf km ke ks))
def sigD (kf km ke ks : Int) (sn : Bs) (h : Rc) (L : List Rc) (fr un : Int) : Bs :=
  sigHead kf km ke ks h fr un ++ foldS sn ++ bigS (sigNum (sigHead kf km ke ks h fr un) sn h L km.toNat ks.toNat) 4
def yesR (o d : ByteArray) (l : Int) : Ending := .returned (.tuple #[.agg #[.string o, .int .i64 46, .int .i64 1, .int .i64 l, .string d], .int .i64 0])
/-- what Sign answers -/
def SignR (kf km ke ks : Int) (sn : ByteArray) (L : List Rc) (fr un : Int) : Ending :=
  if rightB kf km ke ks = false then noR 24 else if isB sn = false then noR 1 else if fr < 0 ∨ un < fr ∨ 4294967295 < un then noR 25
  else match L with
  | [] => noR 8
  | h :: r => if setB (h :: r) = false then noR 8 else if otherTtl h (h :: r) = true then noR 8 else if withinS h.o.data.toList sn.data.toList = false then noR 5
    else yesR h.o ⟨(sigD kf km ke ks sn.data.toList h (h :: r) fr un).toArray⟩ h.l
section
variable {kf km ke ks : Int} {sn : ByteArray} {L : List Rc} {fr un : Int}
theorem sr_key (h : rightB kf km ke ks = false) : SignR kf km ke ks sn L fr un = noR 24 := by unfold SignR; rw [if_pos h]
theorem sr_name (h : rightB kf km ke ks = true) (h1 : isB sn = false) : SignR kf km ke ks sn L fr un = noR 1 := by unfold SignR; rw [if_neg (by rw [h]; decide), if_pos h1]
theorem sr_time (h : rightB kf km ke ks = true) (h1 : isB sn = true) (h2 : fr < 0 ∨ un < fr ∨ 4294967295 < un) : SignR kf km ke ks sn L fr un = noR 25 := by unfold SignR; rw [if_neg (by rw [h]; decide), if_neg (by rw [h1]; decide), if_pos h2]
theorem sr_set (h : rightB kf km ke ks = true) (h1 : isB sn = true) (h2 : ¬ (fr < 0 ∨ un < fr ∨ 4294967295 < un)) (h3 : setB L = false) : SignR kf km ke ks sn L fr un = noR 8 := by
  unfold SignR; rw [if_neg (by rw [h]; decide), if_neg (by rw [h1]; decide), if_neg h2]
  cases L with
  | nil => rfl
  | cons x r => simp only; rw [if_pos h3]
theorem sr_ttl {x : Rc} (h : rightB kf km ke ks = true) (h1 : isB sn = true) (h2 : ¬ (fr < 0 ∨ un < fr ∨ 4294967295 < un)) (h3 : setB L = true) (h0 : L[0]? = some x) (h4 : otherTtl x L = true) : SignR kf km ke ks sn L fr un = noR 8 := by
  unfold SignR; rw [if_neg (by rw [h]; decide), if_neg (by rw [h1]; decide), if_neg h2]
  cases L with
  | nil => rfl
  | cons y r => simp at h0; subst h0; simp only; rw [if_neg (by rw [h3]; decide), if_pos h4]
theorem sr_out {x : Rc} (h : rightB kf km ke ks = true) (h1 : isB sn = true) (h2 : ¬ (fr < 0 ∨ un < fr ∨ 4294967295 < un)) (h3 : setB L = true) (h0 : L[0]? = some x) (h4 : otherTtl x L = false) (h5 : withinS x.o.data.toList sn.data.toList = false) : SignR kf km ke ks sn L fr un = noR 5 := by
  unfold SignR; rw [if_neg (by rw [h]; decide), if_neg (by rw [h1]; decide), if_neg h2]
  cases L with
  | nil => simp at h0
  | cons y r => simp at h0; subst h0; simp only; rw [if_neg (by rw [h3]; decide), if_neg (by rw [h4]; decide), if_pos h5]
theorem sr_yes {x : Rc} (h : rightB kf km ke ks = true) (h1 : isB sn = true) (h2 : ¬ (fr < 0 ∨ un < fr ∨ 4294967295 < un)) (h3 : setB L = true) (h0 : L[0]? = some x) (h4 : otherTtl x L = false) (h5 : withinS x.o.data.toList sn.data.toList = true) : SignR kf km ke ks sn L fr un = yesR x.o ⟨(sigD kf km ke ks sn.data.toList x L fr un).toArray⟩ x.l := by
  unfold SignR; rw [if_neg (by rw [h]; decide), if_neg (by rw [h1]; decide), if_neg h2]
  cases L with
  | nil => simp at h0
  | cons y r => simp at h0; subst h0; simp only; rw [if_neg (by rw [h3]; decide), if_neg (by rw [h4]; decide), if_neg (by rw [h5]; decide)]
end
theorem check_holds {t : Int} {d : Bs} (h : checkS t d = 0) : 1 ≤ t ∧ t ≤ 65535 := by
  unfold checkS at h
  cases hh : holdsB t with
  | false => rw [hh] at h; simp at h
  | true =>
    unfold holdsB at hh
    simp only [Bool.and_eq_true, decide_eq_true_eq] at hh
    omega
theorem zon_facts {x : Rc} (h : zonB x = true) : isB x.o = true ∧ x.c = 1 ∧ 0 ≤ x.l ∧ x.l ≤ 2147483647 ∧ checkS x.t x.d.data.toList = 0 := by
  unfold zonB at h
  simp only [Bool.and_eq_true, decide_eq_true_eq] at h
  exact h
theorem isB_is {s : ByteArray} (h : isB s = true) : ∃ ls, IsN s.data.toList ls := by
  rcases isB_or s with h1 | h1
  · exact h1
  · rw [isB_no h1] at h; cases h
/-- what a set's first record is -/
theorem set_first {L : List Rc} {h : Rc} (hs : setB L = true) (h0 : L[0]? = some h) : (∃ ls, IsN h.o.data.toList ls) ∧ (1 ≤ h.t ∧ h.t ≤ 65535) ∧ (0 ≤ h.l ∧ h.l ≤ 2147483647) ∧ h.c = 1 ∧ (0 ≤ lessS h.o.data.toList ∧ lessS h.o.data.toList ≤ 254) ∧ zonB h = true := by
  have h1 := (set_facts hs h0).1 h (List.mem_of_getElem? h0)
  unfold oneX at h1
  rw [Bool.and_eq_true] at h1
  obtain ⟨a1, a2, a3, a4, a5⟩ := zon_facts h1.1
  obtain ⟨ls, hl⟩ := isB_is a1
  have h2 := less_le hl
  have h3 := split_len hl
  exact ⟨⟨ls, hl⟩, check_holds a5, ⟨a3, a4⟩, a2, ⟨h2.1, by omega⟩, h1.1⟩
theorem tag_lt (l : Bs) : tagS l < 65536 := Nat.mod_lt _ (by decide)
theorem fig_lt {m : Nat} (hm : 0 < m) : ∀ (l : Bs) (v : Nat), v < m → figL m l v < m
  | [], v, h => h
  | c :: l, v, h => fig_lt hm l _ (Nat.mod_lt _ hm)
end Go.Proofs.YtflijhodlimjoaaGreat.signP
namespace Go.Proofs.YtflijhodlimjoaaGreat.wireR
open Go.RowKit Go.Proofs.YtflijhodlimjoaaGreat.kit Go.Proofs.YtflijhodlimjoaaGreat.takes Go.Proofs.YtflijhodlimjoaaGreat.nspec Go.Proofs.YtflijhodlimjoaaGreat.rsplit Go.Proofs.YtflijhodlimjoaaGreat.check Go.Proofs.YtflijhodlimjoaaGreat.checkAll Go.Proofs.YtflijhodlimjoaaGreat.dcheck Go.Proofs.YtflijhodlimjoaaGreat.checkData Go.Proofs.YtflijhodlimjoaaGreat.fld Go.Proofs.YtflijhodlimjoaaGreat.wireP
set_option linter.unusedVariables false

/-- the record's box behind a call -/
theorem box_cells {w w1 : World} {x : Rc} {t : TypeId} (hB : Below (w.alloc (.cells #[.string x.o, .int .i64 x.t, .int .i64 x.c, .int .i64 x.l, .string x.d] t)).heap.size (w.alloc (.cells #[.string x.o, .int .i64 x.t, .int .i64 x.c, .int .i64 x.l, .string x.d] t)) w1) :
    w1.cell? ⟨w.heap.size, 0, none⟩ = some (.string x.o) ∧ w1.cell? ⟨w.heap.size, 1, none⟩ = some (.int .i64 x.t) ∧ w1.cell? ⟨w.heap.size, 2, none⟩ = some (.int .i64 x.c) ∧ w1.cell? ⟨w.heap.size, 3, none⟩ = some (.int .i64 x.l) ∧ w1.cell? ⟨w.heap.size, 4, none⟩ = some (.string x.d) := by
  have hl : w.heap.size < (w.alloc (.cells #[.string x.o, .int .i64 x.t, .int .i64 x.c, .int .i64 x.l, .string x.d] t)).heap.size := by simp
  have hb : (w.alloc (.cells #[.string x.o, .int .i64 x.t, .int .i64 x.c, .int .i64 x.l, .string x.d] t)).heap[w.heap.size]? = some (.cells #[.string x.o, .int .i64 x.t, .int .i64 x.c, .int .i64 x.l, .string x.d] t (0, 0)) := heap_alloc_new _ _
  refine ⟨(hB.cell (p := ⟨w.heap.size, 0, none⟩) hl).trans ?_, (hB.cell (p := ⟨w.heap.size, 1, none⟩) hl).trans ?_, (hB.cell (p := ⟨w.heap.size, 2, none⟩) hl).trans ?_, (hB.cell (p := ⟨w.heap.size, 3, none⟩) hl).trans ?_, (hB.cell (p := ⟨w.heap.size, 4, none⟩) hl).trans ?_⟩ <;> (simp only [World.cell?, hb]; rfl)

end Go.Proofs.YtflijhodlimjoaaGreat.wireR
namespace Go.Proofs.YtflijhodlimjoaaGreat.timed
open Go.RowKit Go.Proofs.YtflijhodlimjoaaGreat.kit
set_option linter.unusedVariables false

theorem bel_drewN {B : Nat} {a w : World} (h : Below B a w) (q : Nat) : Below B a (w.drewN q) := ⟨h.os, h.tape, h.output, h.size, h.block⟩
/-- a key with its times -/
structure Tm where
  f : Int
  m : Int
  e : Int
  s : Int
  p : Int
  a : Int
  r : Int
  v : Int
deriving DecidableEq
def Tm.cells (x : Tm) : List Value := [.int .i64 x.f, .int .i64 x.m, .int .i64 x.e, .int .i64 x.s, .int .i64 x.p, .int .i64 x.a, .int .i64 x.r, .int .i64 x.v]
/-- a key of a plan -/
structure Pk where
  f : Int
  m : Int
  e : Int
  s : Int
  on : Bool
deriving DecidableEq
def Pk.cells (x : Pk) : List Value := [.int .i64 x.f, .int .i64 x.m, .int .i64 x.e, .int .i64 x.s, .bool x.on]

/-- rows of so many cells can be read from address a on -/
def RdC (w : World) (a : Option Addr) (n : Nat) (ls : List (List Value)) : Prop :=
  ∀ (j : Nat) (x : List Value), ls[j]? = some x → x.length = n ∧ ∃ g o, a = some ⟨g, o, none⟩ ∧ g < w.heap.size ∧ ∀ i u, x[i]? = some u → w.cell? ⟨g, o + j * n + i, none⟩ = some u
theorem RdC.below {w w' : World} {a : Option Addr} {n B : Nat} {ls : List (List Value)} (h : RdC w a n ls) (hB : Below B w w') (hz : B = w.heap.size) : RdC w' a n ls := by
  intro j x hx
  obtain ⟨h0, g, o, h1, h3, h4⟩ := h j x hx
  exact ⟨h0, g, o, h1, Nat.lt_of_lt_of_le h3 hB.size, fun i u hu => (hB.cell (p := ⟨g, o + j * n + i, none⟩) (by rw [hz]; exact h3)).trans (h4 i u hu)⟩
theorem RdC.nil (w : World) (a : Option Addr) (n : Nat) : RdC w a n [] := by intro j x h; simp at h

def AtT (w : World) (g o : Nat) (x : Tm) : Prop :=
  w.cell? ⟨g, o, none⟩ = some (.int .i64 x.f) ∧ w.cell? ⟨g, o + 1, none⟩ = some (.int .i64 x.m) ∧ w.cell? ⟨g, o + 2, none⟩ = some (.int .i64 x.e) ∧ w.cell? ⟨g, o + 3, none⟩ = some (.int .i64 x.s) ∧
  w.cell? ⟨g, o + 4, none⟩ = some (.int .i64 x.p) ∧ w.cell? ⟨g, o + 5, none⟩ = some (.int .i64 x.a) ∧ w.cell? ⟨g, o + 6, none⟩ = some (.int .i64 x.r) ∧ w.cell? ⟨g, o + 7, none⟩ = some (.int .i64 x.v)
theorem RdC.at_t {w : World} {a : Option Addr} {L : List Tm} (h : RdC w a 8 (L.map Tm.cells)) {j : Nat} {x : Tm} (hj : L[j]? = some x) : ∃ g o, a = some ⟨g, o, none⟩ ∧ g < w.heap.size ∧ AtT w g (o + j * 8) x := by
  obtain ⟨_, g, o, h1, h2, h3⟩ := h j x.cells (by rw [List.getElem?_map, hj]; rfl)
  exact ⟨g, o, h1, h2, h3 0 _ rfl, h3 1 _ rfl, h3 2 _ rfl, h3 3 _ rfl, h3 4 _ rfl, h3 5 _ rfl, h3 6 _ rfl, h3 7 _ rfl⟩
theorem AtT.below {w w' : World} {g o B : Nat} {x : Tm} (h : AtT w g o x) (hB : Below B w w') (hg : g < B) : AtT w' g o x := by
  obtain ⟨h0, h1, h2, h3, h4, h5, h6, h7⟩ := h
  exact ⟨(hB.cell (p := ⟨g, _, none⟩) hg).trans h0, (hB.cell (p := ⟨g, _, none⟩) hg).trans h1, (hB.cell (p := ⟨g, _, none⟩) hg).trans h2, (hB.cell (p := ⟨g, _, none⟩) hg).trans h3, (hB.cell (p := ⟨g, _, none⟩) hg).trans h4, (hB.cell (p := ⟨g, _, none⟩) hg).trans h5, (hB.cell (p := ⟨g, _, none⟩) hg).trans h6, (hB.cell (p := ⟨g, _, none⟩) hg).trans h7⟩
def AtK (w : World) (g o : Nat) (x : Pk) : Prop :=
  w.cell? ⟨g, o, none⟩ = some (.int .i64 x.f) ∧ w.cell? ⟨g, o + 1, none⟩ = some (.int .i64 x.m) ∧ w.cell? ⟨g, o + 2, none⟩ = some (.int .i64 x.e) ∧ w.cell? ⟨g, o + 3, none⟩ = some (.int .i64 x.s) ∧ w.cell? ⟨g, o + 4, none⟩ = some (.bool x.on)
theorem RdC.at_k {w : World} {a : Option Addr} {L : List Pk} (h : RdC w a 5 (L.map Pk.cells)) {j : Nat} {x : Pk} (hj : L[j]? = some x) : ∃ g o, a = some ⟨g, o, none⟩ ∧ g < w.heap.size ∧ AtK w g (o + j * 5) x := by
  obtain ⟨_, g, o, h1, h2, h3⟩ := h j x.cells (by rw [List.getElem?_map, hj]; rfl)
  exact ⟨g, o, h1, h2, h3 0 _ rfl, h3 1 _ rfl, h3 2 _ rfl, h3 3 _ rfl, h3 4 _ rfl⟩
theorem AtK.below {w w' : World} {g o B : Nat} {x : Pk} (h : AtK w g o x) (hB : Below B w w') (hg : g < B) : AtK w' g o x := by
  obtain ⟨h0, h1, h2, h3, h4⟩ := h
  exact ⟨(hB.cell (p := ⟨g, _, none⟩) hg).trans h0, (hB.cell (p := ⟨g, _, none⟩) hg).trans h1, (hB.cell (p := ⟨g, _, none⟩) hg).trans h2, (hB.cell (p := ⟨g, _, none⟩) hg).trans h3, (hB.cell (p := ⟨g, _, none⟩) hg).trans h4⟩

end Go.Proofs.YtflijhodlimjoaaGreat.timed
namespace Go.Proofs.YtflijhodlimjoaaGreat.wireM
open Go.RowKit Go.Proofs.YtflijhodlimjoaaGreat.kit Go.Proofs.YtflijhodlimjoaaGreat.timed Go.Proofs.YtflijhodlimjoaaGreat.nspec Go.Proofs.YtflijhodlimjoaaGreat.rsplit Go.Proofs.YtflijhodlimjoaaGreat.check Go.Proofs.YtflijhodlimjoaaGreat.fld Go.Proofs.YtflijhodlimjoaaGreat.wireP
set_option linter.unusedVariables false

/-- a message -/
structure Mg where
  id : Int
  rs : Bool
  op : Int
  aa : Bool
  tc : Bool
  rd : Bool
  ra : Bool
  ad : Bool
  cd : Bool
  rc : Int
  qs : List Qn
  an : List Rc
  au : List Rc
  ar : List Rc
/-- where a message's lists lie -/
structure Pl where
  qa : Option Addr
  qc : Nat
  na : Option Addr
  nc : Nat
  ua : Option Addr
  uc : Nat
  ra : Option Addr
  rc : Nat
/-- the lists can be read there -/
structure RdM (w : World) (p : Pl) (m : Mg) : Prop where
  q : RdC w p.qa 3 (m.qs.map Qn.cells)
  n : RdC w p.na 5 (m.an.map Rc.cells)
  u : RdC w p.ua 5 (m.au.map Rc.cells)
  r : RdC w p.ra 5 (m.ar.map Rc.cells)
theorem RdM.below {w w' : World} {p : Pl} {m : Mg} {B : Nat} (h : RdM w p m) (hB : Below B w w') (hz : B = w.heap.size) : RdM w' p m :=
  ⟨h.q.below hB hz, h.n.below hB hz, h.u.below hB hz, h.r.below hB hz⟩
/-- where a list is none, it is empty -/
structure NilM (p : Pl) (m : Mg) : Prop where
  n : p.na = none → m.an.length = 0 ∧ p.nc = 0
  u : p.ua = none → m.au.length = 0 ∧ p.uc = 0
  r : p.ra = none → m.ar.length = 0 ∧ p.rc = 0
/-- sizes that the walks can bear -/
structure OkR (x : Rc) : Prop where
  o : x.o.size ≤ 1099511627776
  d : x.d.size ≤ 1099511627776
structure OkM (m : Mg) : Prop where
  q : ∀ x ∈ m.qs, x.n.size ≤ 1099511627776
  n : ∀ x ∈ m.an, OkR x
  u : ∀ x ∈ m.au, OkR x
  r : ∀ x ∈ m.ar, OkR x
  ql : m.qs.length ≤ 1099511627776
  nl : m.an.length ≤ 1099511627776
  ul : m.au.length ≤ 1099511627776
  rl : m.ar.length ≤ 1099511627776
/-- sizes as they come: what the program itself can bear -/
structure OkW (m : Mg) : Prop where
  n : ∀ x ∈ m.an, x.d.size ≤ maxLen
  u : ∀ x ∈ m.au, x.d.size ≤ maxLen
  r : ∀ x ∈ m.ar, x.d.size ≤ maxLen
  ql : m.qs.length ≤ maxLen
  nl : m.an.length ≤ maxLen
  ul : m.au.length ≤ maxLen
  rl : m.ar.length ≤ maxLen
theorem OkM.w {m : Mg} (h : OkM m) : OkW m :=
  ⟨fun x hx => Nat.le_trans (h.n x hx).d (by unfold maxLen; omega), fun x hx => Nat.le_trans (h.u x hx).d (by unfold maxLen; omega), fun x hx => Nat.le_trans (h.r x hx).d (by unfold maxLen; omega), Nat.le_trans h.ql (by unfold maxLen; omega), Nat.le_trans h.nl (by unfold maxLen; omega), Nat.le_trans h.ul (by unfold maxLen; omega), Nat.le_trans h.rl (by unfold maxLen; omega)⟩
def checkB (m : Mg) : Bool :=
  inB m.id 65535 && (inB m.op 15 && (inB m.rc 15 && (decide (m.qs.length ≤ 65535 ∧ m.an.length ≤ 65535 ∧ m.au.length ≤ 65535 ∧ m.ar.length ≤ 65535) && (m.qs.all rightQ && (m.an.all rightB && (m.au.all rightB && m.ar.all rightB))))))

def AtR (w : World) (g o : Nat) (x : Rc) : Prop :=
  w.cell? ⟨g, o, none⟩ = some (.string x.o) ∧ w.cell? ⟨g, o + 1, none⟩ = some (.int .i64 x.t) ∧ w.cell? ⟨g, o + 2, none⟩ = some (.int .i64 x.c) ∧ w.cell? ⟨g, o + 3, none⟩ = some (.int .i64 x.l) ∧ w.cell? ⟨g, o + 4, none⟩ = some (.string x.d)
theorem at_r {w : World} {a : Option Addr} {L : List Rc} (h : RdC w a 5 (L.map Rc.cells)) {j : Nat} {x : Rc} (hj : L[j]? = some x) : ∃ g o, a = some ⟨g, o, none⟩ ∧ g < w.heap.size ∧ AtR w g (o + j * 5) x := by
  obtain ⟨_, g, o, h1, h2, h3⟩ := h j x.cells (by rw [List.getElem?_map, hj]; rfl)
  exact ⟨g, o, h1, h2, h3 0 _ rfl, h3 1 _ rfl, h3 2 _ rfl, h3 3 _ rfl, h3 4 _ rfl⟩
theorem AtR.below {w w' : World} {g o B : Nat} {x : Rc} (h : AtR w g o x) (hB : Below B w w') (hg : g < B) : AtR w' g o x := by
  obtain ⟨h0, h1, h2, h3, h4⟩ := h
  exact ⟨(hB.cell (p := ⟨g, _, none⟩) hg).trans h0, (hB.cell (p := ⟨g, _, none⟩) hg).trans h1, (hB.cell (p := ⟨g, _, none⟩) hg).trans h2, (hB.cell (p := ⟨g, _, none⟩) hg).trans h3, (hB.cell (p := ⟨g, _, none⟩) hg).trans h4⟩
def AtQ (w : World) (g o : Nat) (x : Qn) : Prop :=
  w.cell? ⟨g, o, none⟩ = some (.string x.n) ∧ w.cell? ⟨g, o + 1, none⟩ = some (.int .i64 x.t) ∧ w.cell? ⟨g, o + 2, none⟩ = some (.int .i64 x.c)
theorem at_q {w : World} {a : Option Addr} {L : List Qn} (h : RdC w a 3 (L.map Qn.cells)) {j : Nat} {x : Qn} (hj : L[j]? = some x) : ∃ g o, a = some ⟨g, o, none⟩ ∧ g < w.heap.size ∧ AtQ w g (o + j * 3) x := by
  obtain ⟨_, g, o, h1, h2, h3⟩ := h j x.cells (by rw [List.getElem?_map, hj]; rfl)
  exact ⟨g, o, h1, h2, h3 0 _ rfl, h3 1 _ rfl, h3 2 _ rfl⟩
theorem AtQ.below {w w' : World} {g o B : Nat} {x : Qn} (h : AtQ w g o x) (hB : Below B w w') (hg : g < B) : AtQ w' g o x := by
  obtain ⟨h0, h1, h2⟩ := h
  exact ⟨(hB.cell (p := ⟨g, _, none⟩) hg).trans h0, (hB.cell (p := ⟨g, _, none⟩) hg).trans h1, (hB.cell (p := ⟨g, _, none⟩) hg).trans h2⟩

/-- a message's fourteen cells -/
structure BoxM (w : World) (B : Nat) (p : Pl) (m : Mg) : Prop where
  lt : B < w.heap.size
  c0 : w.cell? ⟨B, 0, none⟩ = some (.int .i64 m.id)
  c1 : w.cell? ⟨B, 1, none⟩ = some (.bool m.rs)
  c2 : w.cell? ⟨B, 2, none⟩ = some (.int .i64 m.op)
  c3 : w.cell? ⟨B, 3, none⟩ = some (.bool m.aa)
  c4 : w.cell? ⟨B, 4, none⟩ = some (.bool m.tc)
  c5 : w.cell? ⟨B, 5, none⟩ = some (.bool m.rd)
  c6 : w.cell? ⟨B, 6, none⟩ = some (.bool m.ra)
  c7 : w.cell? ⟨B, 7, none⟩ = some (.bool m.ad)
  c8 : w.cell? ⟨B, 8, none⟩ = some (.bool m.cd)
  c9 : w.cell? ⟨B, 9, none⟩ = some (.int .i64 m.rc)
  c10 : w.cell? ⟨B, 10, none⟩ = some (.slice p.qa m.qs.length p.qc)
  c11 : w.cell? ⟨B, 11, none⟩ = some (.slice p.na m.an.length p.nc)
  c12 : w.cell? ⟨B, 12, none⟩ = some (.slice p.ua m.au.length p.uc)
  c13 : w.cell? ⟨B, 13, none⟩ = some (.slice p.ra m.ar.length p.rc)
theorem BoxM.below {w w' : World} {B N : Nat} {p : Pl} {m : Mg} (h : BoxM w B p m) (hB : Below N w w') (hl : B < N) : BoxM w' B p m :=
  ⟨Nat.lt_of_lt_of_le h.lt hB.size, (hB.cell (p := ⟨B, 0, none⟩) hl).trans h.c0, (hB.cell (p := ⟨B, 1, none⟩) hl).trans h.c1, (hB.cell (p := ⟨B, 2, none⟩) hl).trans h.c2, (hB.cell (p := ⟨B, 3, none⟩) hl).trans h.c3, (hB.cell (p := ⟨B, 4, none⟩) hl).trans h.c4, (hB.cell (p := ⟨B, 5, none⟩) hl).trans h.c5, (hB.cell (p := ⟨B, 6, none⟩) hl).trans h.c6, (hB.cell (p := ⟨B, 7, none⟩) hl).trans h.c7, (hB.cell (p := ⟨B, 8, none⟩) hl).trans h.c8, (hB.cell (p := ⟨B, 9, none⟩) hl).trans h.c9, (hB.cell (p := ⟨B, 10, none⟩) hl).trans h.c10, (hB.cell (p := ⟨B, 11, none⟩) hl).trans h.c11, (hB.cell (p := ⟨B, 12, none⟩) hl).trans h.c12, (hB.cell (p := ⟨B, 13, none⟩) hl).trans h.c13⟩
def cellsM (p : Pl) (m : Mg) : Array Value := #[.int .i64 m.id, .bool m.rs, .int .i64 m.op, .bool m.aa, .bool m.tc, .bool m.rd, .bool m.ra, .bool m.ad, .bool m.cd, .int .i64 m.rc, .slice p.qa m.qs.length p.qc, .slice p.na m.an.length p.nc, .slice p.ua m.au.length p.uc, .slice p.ra m.ar.length p.rc]
theorem BoxM.fresh (w : World) (t : TypeId) (b : Nat) (hb : b = w.heap.size) (p : Pl) (m : Mg) : BoxM (w.alloc (.cells #[.int .i64 m.id, .bool m.rs, .int .i64 m.op, .bool m.aa, .bool m.tc, .bool m.rd, .bool m.ra, .bool m.ad, .bool m.cd, .int .i64 m.rc, .slice p.qa m.qs.length p.qc, .slice p.na m.an.length p.nc, .slice p.ua m.au.length p.uc, .slice p.ra m.ar.length p.rc] t)) b p m := by
  subst hb
  have hb : (w.alloc (.cells #[.int .i64 m.id, .bool m.rs, .int .i64 m.op, .bool m.aa, .bool m.tc, .bool m.rd, .bool m.ra, .bool m.ad, .bool m.cd, .int .i64 m.rc, .slice p.qa m.qs.length p.qc, .slice p.na m.an.length p.nc, .slice p.ua m.au.length p.uc, .slice p.ra m.ar.length p.rc] t)).heap[w.heap.size]? = some (.cells #[.int .i64 m.id, .bool m.rs, .int .i64 m.op, .bool m.aa, .bool m.tc, .bool m.rd, .bool m.ra, .bool m.ad, .bool m.cd, .int .i64 m.rc, .slice p.qa m.qs.length p.qc, .slice p.na m.an.length p.nc, .slice p.ua m.au.length p.uc, .slice p.ra m.ar.length p.rc] t (0, 0)) := heap_alloc_new _ _
  constructor
  · simp
  all_goals (simp only [World.cell?, hb]; rfl)
theorem all_no {α : Type} {f : α → Bool} {L : List α} {k : Nat} {x : α} (hx : L[k]? = some x) (h : f x = false) : L.all f = false := by
  rw [List.all_eq_false]
  exact ⟨x, List.mem_of_getElem? hx, by rw [h]; simp⟩
theorem all_step {α : Type} {f : α → Bool} {L : List α} {k : Nat} {x : α} (hx : L[k]? = some x) (h : f x = true) (ha : (L.take k).all f = true) : (L.take (k + 1)).all f = true := by
  obtain ⟨h1, h2⟩ := List.getElem?_eq_some_iff.1 hx
  rw [List.take_succ_eq_append_getElem h1, List.all_append, ha, h2]; simp [h]
theorem all_end {α : Type} {f : α → Bool} {L : List α} {k : Nat} (hk : L.length ≤ k) (ha : (L.take k).all f = true) : L.all f = true := by
  rwa [List.take_of_length_le hk] at ha
end Go.Proofs.YtflijhodlimjoaaGreat.wireM
namespace Go.Proofs.YtflijhodlimjoaaGreat.rows
open Go.RowKit Go.Proofs.YtflijhodlimjoaaGreat.kit Go.Proofs.YtflijhodlimjoaaGreat.timed Go.Proofs.YtflijhodlimjoaaGreat.nspec Go.Proofs.YtflijhodlimjoaaGreat.wireP Go.Proofs.YtflijhodlimjoaaGreat.wireM
set_option linter.unusedVariables false

theorem addr_at (g o k : Nat) : (⟨g, o, none⟩ : Addr).add k = ⟨g, o + k, none⟩ := by unfold Addr.add; split <;> simp_all
theorem flat_len {α : Type} (f : α → List Value) (n : Nat) (hf : ∀ x, (f x).length = n) : ∀ L : List α, (L.flatMap f).length = L.length * n
  | [] => by simp
  | x :: L => by rw [List.flatMap_cons, List.length_append, flat_len f n hf L, hf, List.length_cons, Nat.succ_mul]; omega
theorem flat_at {α : Type} (f : α → List Value) (n : Nat) (hf : ∀ x, (f x).length = n) : ∀ (L : List α) (j : Nat) (x : α) (i : Nat) (u : Value), L[j]? = some x → (f x)[i]? = some u → (L.flatMap f)[j * n + i]? = some u
  | [], j, x, i, u, h, _ => by simp at h
  | y :: L, 0, x, i, u, h, hu => by
    simp at h; subst h
    rw [List.flatMap_cons, Nat.zero_mul, Nat.zero_add, List.getElem?_append_left (List.getElem?_eq_some_iff.1 hu).1]; exact hu
  | y :: L, j + 1, x, i, u, h, hu => by
    rw [List.flatMap_cons, List.getElem?_append_right (by rw [hf, Nat.succ_mul]; omega), hf, show (j + 1) * n + i - n = j * n + i by rw [Nat.succ_mul]; omega]
    exact flat_at f n hf L j x i u (by simpa using h) hu
/-- a row of one's own reads as its rows -/
theorem rdc_own {α : Type} (f : α → List Value) (m : Nat) (hf : ∀ x, (f x).length = m) {w : World} {base : Nat} {e : TypeId} {v : Value} {L : List α} {n : Nat} (hn : n = L.length) (h : w.ownsRow base e m v n (L.flatMap f)) :
    ∃ a c, v = .slice a n c ∧ n ≤ c ∧ c ≤ maxLen ∧ (a = none → n = 0 ∧ c = 0) ∧ RdC w a m (L.map f) := by
  subst hn
  rcases h.2 with ⟨rfl, h0⟩ | ⟨g, cap, cur, rfl, hb, hg, h1, h2, _, htake⟩
  · have : L = [] := List.eq_nil_of_length_eq_zero h0
    subst this
    exact ⟨none, 0, rfl, Nat.le_refl _, Nat.zero_le _, fun _ => ⟨rfl, rfl⟩, RdC.nil _ _ _⟩
  · refine ⟨_, cap, rfl, h1, h2, (fun h => by cases h), ?_⟩
    intro j x hx
    rw [List.getElem?_map] at hx
    obtain ⟨y, hy, rfl⟩ := Option.map_eq_some_iff.1 hx
    refine ⟨hf y, g, 0, rfl, (Array.getElem?_eq_some_iff.1 hg).1, fun i u hu => ?_⟩
    have := h.cells (g := g) rfl (j * m + i) u (flat_at f m hf L j y i u hy hu)
    rw [addr_at] at this
    rw [Nat.add_assoc]
    exact this
/-- rows that can be read, as the cells that an append takes -/
theorem cells_rd {α : Type} (f : α → List Value) (m : Nat) (hm : 0 < m) (hf : ∀ x, (f x).length = m) {w : World} {a : Option Addr} {L : List α} (h : RdC w a m (L.map f)) (c : Nat) (hc : a = none → L.length = 0 ∧ c = 0) : (a = none ∧ L.length = 0 ∧ c = 0) ∨ ∃ ad, a = some ad ∧ ∀ (j : Nat) (u : Value), (L.flatMap f)[j]? = some u → w.cell? (ad.add j) = some u := by
  cases a with
  | none => exact .inl ⟨rfl, hc rfl⟩
  | some ad =>
    right
    refine ⟨ad, rfl, fun j u hj => ?_⟩
    have hl : j < L.length * m := by rw [← flat_len f m hf]; exact (List.getElem?_eq_some_iff.1 hj).1
    have hdiv : j / m < L.length := (Nat.div_lt_iff_lt_mul hm).2 hl
    have hmod : j % m < m := Nat.mod_lt _ hm
    have hjm : j / m * m + j % m = j := by rw [Nat.mul_comm]; exact Nat.div_add_mod j m
    obtain ⟨x, hx⟩ : ∃ x, L[j / m]? = some x := ⟨_, List.getElem?_eq_getElem hdiv⟩
    obtain ⟨_, g, o, h1, _, h3⟩ := h (j / m) (f x) (by rw [List.getElem?_map, hx]; rfl)
    cases h1
    obtain ⟨u', hu'⟩ : ∃ u', (f x)[j % m]? = some u' := ⟨_, List.getElem?_eq_getElem (by rw [hf]; exact hmod)⟩
    have h4 := flat_at f m hf L (j / m) x (j % m) u' hx hu'
    rw [hjm] at h4
    rw [h4] at hj; cases hj
    have h5 := h3 _ _ hu'
    rw [Nat.add_assoc, hjm] at h5
    rw [addr_at]; exact h5
theorem one_cells {α : Type} {f : α → List Value} {L : List α} (h : ∀ x u, u ∈ f x → u.oneCell' = true) : ∀ u ∈ L.flatMap f, u.oneCell' = true := by
  intro u hu
  obtain ⟨x, _, hx⟩ := List.mem_flatMap.1 hu
  exact h x u hx
theorem rec_one (x : Rc) (u : Value) (h : u ∈ x.cells) : u.oneCell' = true := by
  simp only [Rc.cells, List.mem_cons, List.not_mem_nil, or_false] at h
  rcases h with rfl | rfl | rfl | rfl | rfl <;> rfl
theorem qn_one (x : Qn) (u : Value) (h : u ∈ x.cells) : u.oneCell' = true := by
  simp only [Qn.cells, List.mem_cons, List.not_mem_nil, or_false] at h
  rcases h with rfl | rfl | rfl <;> rfl
theorem infoRec : (Tryz.prog.info? 34).map (fun i => (i.zero, i.size, i.bytes)) = some (some (.agg #[.string ByteArray.empty, .int .i64 0, .int .i64 0, .int .i64 0, .string ByteArray.empty]), 5, 56) := by kernel_rfl
theorem infoQn : (Tryz.prog.info? 26).map (fun i => (i.zero, i.size, i.bytes)) = some (some (.agg #[.string ByteArray.empty, .int .i64 0, .int .i64 0]), 3, 32) := by kernel_rfl
theorem row_neG {w : World} {b0 : Nat} {e : TypeId} {size : Nat} {v : Value} {n : Nat} {xs : List Value} (h : w.ownsRow b0 e size v n xs) {k : Nat} {o : Obj} (hk : w.heap[k]? = some o) (hn : ∀ cur f, o ≠ .cells cur e f) : some k ≠ v.ownBlock := by
  intro e
  rcases h.2 with ⟨rfl, _⟩ | ⟨g, cap, cur, rfl, hb, hg, _⟩
  · cases e
  · simp only [Value.ownBlock, Option.some.injEq] at e
    subst e
    rw [hg] at hk; cases hk
    exact hn _ _ rfl
theorem row_lowG {w : World} {b0 : Nat} {e : TypeId} {size : Nat} {v : Value} {n : Nat} {xs : List Value} (h : w.ownsRow b0 e size v n xs) {k : Nat} (hk : k < b0) : some k ≠ v.ownBlock := by
  intro e
  rcases h.2 with ⟨rfl, _⟩ | ⟨g, cap, cur, rfl, hb, hg, _⟩
  · cases e
  · simp only [Value.ownBlock, Option.some.injEq] at e; omega
theorem own_keptG {w w1 : World} {b0 : Nat} {e : TypeId} {size : Nat} {v : Value} {n : Nat} {xs : List Value} (h : w.ownsRow b0 e size v n xs) (hk : ∀ (k : Nat) (cur : Array Value), w.heap[k]? = some (Obj.cells cur e (0, 0)) → w1.heap[k]? = some (Obj.cells cur e (0, 0))) : w1.ownsRow b0 e size v n xs := by
  refine ⟨h.1, ?_⟩
  rcases h.2 with h1 | ⟨g, cap, cur, h1, h2, h3, h4⟩
  · exact .inl h1
  · exact .inr ⟨g, cap, cur, h1, h2, hk _ _ h3, h4⟩
theorem own_at {w : World} {base : Nat} {e : TypeId} {v : Value} {n size : Nat} {xs : List Value} (h : w.ownsRow base e size v n xs) (hn : 1 ≤ n) : ∃ g cap, v = .slice (some ⟨g, 0, none⟩) n cap ∧ base ≤ g ∧ g < w.heap.size ∧ (∀ j, j < n * size → ∃ u, w.cell? ⟨g, j, none⟩ = some u) ∧ (∀ j, w.frozen? ⟨g, j, none⟩ = false) ∧ ∃ cur, w.heap[g]? = some (.cells cur e (0, 0)) := by
  rcases h.2 with ⟨_, h0⟩ | ⟨g, cap, cur, rfl, hb, hg, h1, h2, _, _⟩
  · omega
  · refine ⟨g, cap, rfl, hb, (Array.getElem?_eq_some_iff.1 hg).1, fun j hj => ?_, fun j => by simp [World.frozen?, hg], cur, hg⟩
    have hl : j < xs.length := by rw [h.1]; exact hj
    refine ⟨xs[j], ?_⟩
    have := h.cells (g := g) rfl j xs[j] (List.getElem?_eq_getElem hl)
    rw [addr_at, Nat.zero_add] at this; exact this
end Go.Proofs.YtflijhodlimjoaaGreat.rows

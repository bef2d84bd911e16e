/- A record handed in by value: opened. The law gazetteerlaw4.SealVerifies: the two answers are one, the records are only read: walk. Powers modulo a product of two primes come back. What is signed fits: plain. Large letters: gazetteerlaw4.upper: walk. What is signed fits after swaps, large letters and other ages: plain. SealRounds' memory: a key, a signature, records of one's own. -/
import Derived.Test.YtflijhodlimjoaaGreatQ33
import Derived.Test.YtflijhodlimjoaaGreatQ34
import Derived.Test.YtflijhodlimjoaaGreatQ35
import Derived.Test.YtflijhodlimjoaaGreatK26
import Derived.Test.YtflijhodlimjoaaGreatK18
import Derived.Test.YtflijhodlimjoaaGreatK11
import Derived.Test.YtflijhodlimjoaaGreatK1
import Derived.Test.YtflijhodlimjoaaGreatK17
import Derived.Test.YtflijhodlimjoaaGreatK28
import Derived.Test.YtflijhodlimjoaaGreatK24
import Derived.Test.YtflijhodlimjoaaGreatK19
import Derived.Deep.RegionHeld3
namespace Go.Proofs.YtflijhodlimjoaaGreat.recArg
open Go.ChangeShapes Go.WideShapes Go.RowKit Go.Deep Go.Proofs.YtflijhodlimjoaaGreat.kit Go.Proofs.YtflijhodlimjoaaGreat.timed Go.Proofs.YtflijhodlimjoaaGreat.nspec Go.Proofs.YtflijhodlimjoaaGreat.wireP Go.Proofs.YtflijhodlimjoaaGreat.wireM Go.Proofs.YtflijhodlimjoaaGreat.rows Go.Proofs.YtflijhodlimjoaaGreat.msgArg
set_option linter.unusedVariables false

set_option maxRecDepth 100000 in
theorem open_rec {H : Type} {enc : TypeId × Value → H} {w : World} {r : Reach} {b0 : Nat} {v : Value} {d : DataW H} {p : List MemPlace}
    (hv : Value.okWide Tryz.prog w r b0 34 v) (h : DataW.Trod enc Tryz.prog w 0 (fun _ => true) true 34 v d p) :
    ∃ x : Rc, v = .agg #[.string x.o, .int .i64 x.t, .int .i64 x.c, .int .i64 x.l, .string x.d] ∧ (x.o.size ≤ Rows.uptoBulk d ∧ x.d.size ≤ Rows.uptoBulk d) := by
  obtain ⟨cs, rfl, hsz⟩ := okWide_struct Tryz.underlying34 hv
  obtain ⟨fuel, hf⟩ := h
  have e : (Value.agg cs).cells.toList = cs.toList := rfl
  rw [e] at hf
  obtain ⟨t, ht, hs, _⟩ := rec_cells hf
  refine ⟨t, ?_, hs.1⟩
  congr 1
  apply Array.ext'
  rw [ht]
  rfl
end Go.Proofs.YtflijhodlimjoaaGreat.recArg
namespace Go.Proofs.YtflijhodlimjoaaGreat.sealVerifies
open Go.RowKit Go.Proofs.YtflijhodlimjoaaGreat.kit Go.Proofs.YtflijhodlimjoaaGreat.timed Go.Proofs.YtflijhodlimjoaaGreat.nspec Go.Proofs.YtflijhodlimjoaaGreat.wireP Go.Proofs.YtflijhodlimjoaaGreat.wireM Go.Proofs.YtflijhodlimjoaaGreat.rows Go.Proofs.YtflijhodlimjoaaGreat.sealS Go.Proofs.YtflijhodlimjoaaGreat.verP Go.Proofs.YtflijhodlimjoaaGreat.wholeR Go.Proofs.YtflijhodlimjoaaGreat.recsArg Go.Proofs.YtflijhodlimjoaaGreat.keepN
set_option linter.unusedVariables false

set_option maxRecDepth 100000 in
set_option maxHeartbeats 8000000 in
theorem sealVerifies_any (a : Option Addr) (n c : Nat) (L : List Rc) (sg : Rc) (ow kd : ByteArray) (now : Int) (w : World) {b b2 : Nat} (hi : InR w a n c L b) (hb : b ≤ 1048576) (hi2 : sg.o.size ≤ b2 ∧ sg.d.size ≤ b2) (hb2 : b2 ≤ 1048576) (how : ow.size ≤ 1048576) (hkd : kd.size ≤ 1048576) (hnow : (Lit.int .i64 now).wf = true) :
    Calls Tryz.prog 5 #[.slice a n c, .agg #[.string sg.o, .int .i64 sg.t, .int .i64 sg.c, .int .i64 sg.l, .string sg.d], .string ow, .string kd, .int .i64 now] w fun e w' => e = .returned (.bool true) ∧ Below w.heap.size w w' := by
  obtain ⟨ho, hn1, hbk⟩ := hi.ok hb
  have HO := Lib.hid ho; have HBK := Lib.hid hbk; have HN := Lib.hid hi.len; have HR := Lib.hid hi.rd; have HNIL := Lib.hid hi.nil
  have HSG : Hid (OkR sg) := Lib.hid ⟨by omega, by omega⟩
  obtain ⟨RR, hRR⟩ : ∃ RR, VerC L sg ow.data.toList kd.data.toList now = RR := ⟨_, rfl⟩
  have HRR := Lib.hid hRR
  have hb1 := (Below.refl w.heap.size w).alloc (Nat.le_refl _) (.cells #[.string sg.o, .int .i64 sg.t, .int .i64 sg.c, .int .i64 sg.l, .string sg.d] 34)
  have hk1 := heap_alloc_new w (.cells #[.string sg.o, .int .i64 sg.t, .int .i64 sg.c, .int .i64 sg.l, .string sg.d] 34)
  obtain ⟨X, hX⟩ : ∃ X, w.heap.size = X := ⟨_, rfl⟩
  obtain ⟨W, hW⟩ : ∃ W, w.alloc (.cells #[.string sg.o, .int .i64 sg.t, .int .i64 sg.c, .int .i64 sg.l, .string sg.d] 34) = W := ⟨_, rfl⟩
  rw [hW] at hb1 hk1
  rw [hX] at hk1
  have HX := Lib.hid hX; have HW := Lib.hid hW; have HB1 := Lib.hid hb1; have HK1 := Lib.hid hk1
  have CT := Lib.hid (twin_at W a c L (HR.out.below hb1 rfl) HNIL.out (by have := HN.out; omega) W (Below.refl _ _))
  rw [← HN.out] at CT
  clear ho hbk hi hRR hb1 hk1 hX hW hnow hi2
  go_enter Tryz.func5, Tryz.ntmps5
  go_upto_region 1 with fail
  rw [HW.out]
  try rw [HX.out]
  go_wp2_with fail
  refine CT.out.mono ?_
  rintro e w2 ⟨g, cap, rfl, htw, hB2⟩
  have HB2 := Lib.hid (HB1.out.trans (hB2.mono HB1.out.size))
  have HK2 := Lib.hid ((hB2.block X (Array.getElem?_eq_some_iff.1 HK1.out).1).trans HK1.out)
  have HTW := Lib.hid htw
  have CV := Lib.hid (fun (wx : World) (hB : Below w2.heap.size w2 wx) => verify.verify_any (some ⟨g, 0, none⟩) n cap L sg ow kd now wx HN.out (HTW.out.below hB).rd HO.out (by omega) HBK.out HSG.out (by omega) (by omega))
  have CR := Lib.hid (fun (wx : World) (hB : Below w2.heap.size w2 wx) => verifySet.verifyset_any a n c L sg ow kd now wx HN.out ((HR.out.below HB2.out rfl).below hB rfl) HO.out (by omega) HBK.out HSG.out (by omega) (by omega))
  rw [HRR.out] at CV CR
  have CW := Lib.hid (fun (wx : World) (hB : Below w2.heap.size w2 wx) => whole_any (some ⟨g, 0, none⟩) a cap c W.heap.size L wx (HTW.out.below hB) ((HR.out.below HB2.out rfl).below hB rfl) (by have := HN.out; omega))
  rw [← HN.out] at CW
  obtain ⟨x0, x1, x2, x3, x4, _⟩ := signSet.cells5 HK2.out
  have hS0 : w2.drew.cell? ⟨X, 0, none⟩ = some (.string sg.o) ∧ w2.drew.cell? ⟨X, 1, none⟩ = some (.int .i64 sg.t) ∧ w2.drew.cell? ⟨X, 2, none⟩ = some (.int .i64 sg.c) ∧ w2.drew.cell? ⟨X, 3, none⟩ = some (.int .i64 sg.l) ∧ w2.drew.cell? ⟨X, 4, none⟩ = some (.string sg.d) ∧ Below w2.heap.size w2 w2.drew := ⟨x0, x1, x2, x3, x4, (Below.refl _ _).drew⟩
  clear hB2 htw CT x0 x1 x2 x3 x4
  trace "1"
  go_upto_region 2 with fail
  go_region_held3 (fun w' => w'.cell? ⟨X, 0, none⟩ = some (.string sg.o) ∧ w'.cell? ⟨X, 1, none⟩ = some (.int .i64 sg.t) ∧ w'.cell? ⟨X, 2, none⟩ = some (.int .i64 sg.c) ∧ w'.cell? ⟨X, 3, none⟩ = some (.int .i64 sg.l) ∧ w'.cell? ⟨X, 4, none⟩ = some (.string sg.d) ∧ Below w2.heap.size w2 w') (first | assumption | (refine ⟨?_, ?_, ?_, ?_, ?_, ?_⟩ <;> assumption))
    (first
      | (go_at_call 16; refine (CV.out _ (‹_ ∧ _ ∧ _ ∧ _ ∧ _ ∧ Below _ _ _›).2.2.2.2.2).mono ?_; rintro e w' ⟨rfl, hBz⟩; have hSz := k5 (by assumption) hBz; clear hBz)
      | (go_at_call 17; refine (CR.out _ (‹_ ∧ _ ∧ _ ∧ _ ∧ _ ∧ Below _ _ _›).2.2.2.2.2).mono ?_; rintro e w' ⟨rfl, hBz⟩; have hSz := k5 (by assumption) hBz; clear hBz)
      | (go_at_call 13; refine (CW.out _ (‹_ ∧ _ ∧ _ ∧ _ ∧ _ ∧ Below _ _ _›).2.2.2.2.2).mono ?_; rintro e w' ⟨rfl, hBz⟩; have hSz := k5 (by assumption) hBz; clear hBz))
  trace "2"
  have HBF := Lib.hid (HB2.out.trans (hSz.2.2.2.2.2.mono HB2.out.size))
  clear hSz hS0 CV CR CW
  go_wp2_with fail
  go_ret
  exact ⟨rfl, HBF.out⟩
end Go.Proofs.YtflijhodlimjoaaGreat.sealVerifies
namespace Go.Proofs.YtflijhodlimjoaaGreat.rsaP
open Go.Proofs.YtflijhodlimjoaaGreat.keysP Go.Proofs.YtflijhodlimjoaaGreat.sealP
set_option linter.unusedVariables false

theorem prime_dvd {p j : Nat} (hp : PrimeP p) (h : j ∣ p) : j = 1 ∨ j = p := by
  obtain ⟨h2, hd⟩ := hp
  obtain ⟨k, hk⟩ := h
  have hj0 : j ≠ 0 := by rintro rfl; simp at hk; omega
  have hk0 : k ≠ 0 := by rintro rfl; simp at hk; omega
  by_cases hj1 : j = 1
  · exact .inl hj1
  by_cases hk1 : k = 1
  · subst hk1; right; omega
  exfalso
  rcases Nat.le_total j k with hjk | hjk
  · refine hd j (by omega) ?_ ?_
    · rw [hk]; exact Nat.mul_le_mul_left j hjk
    · rw [hk]; exact Nat.mul_mod_right j k
  · refine hd k (by omega) ?_ ?_
    · rw [hk]; exact Nat.mul_le_mul_right k hjk
    · rw [hk]; exact Nat.mul_mod_left j k
theorem prime_cop {p a : Nat} (hp : PrimeP p) (h : ¬ p ∣ a) : Nat.Coprime p a := by
  have h1 := Nat.gcd_dvd_left p a
  rcases prime_dvd hp h1 with h2 | h2
  · exact h2
  · exact absurd (h2 ▸ Nat.gcd_dvd_right p a) h
theorem prime_mul {p a b : Nat} (hp : PrimeP p) (h : p ∣ a * b) : p ∣ a ∨ p ∣ b := by
  by_cases ha : p ∣ a
  · exact .inl ha
  · exact .inr ((prime_cop hp ha).dvd_of_dvd_mul_left h)
def prodL : List Nat → Nat
  | [] => 1
  | x :: l => x * prodL l
theorem prod_perm {l m : List Nat} (h : l.Perm m) : prodL l = prodL m := by
  induction h with
  | nil => rfl
  | cons x _ ih => simp only [prodL, ih]
  | swap x y l => simp only [prodL]; rw [← Nat.mul_assoc, ← Nat.mul_assoc, Nat.mul_comm y x]
  | trans _ _ h1 h2 => exact h1.trans h2
theorem perm_of_sub : ∀ (l m : List Nat), l.Nodup → (∀ x ∈ l, x ∈ m) → m.length ≤ l.length → l.Perm m
  | [], m, _, _, hl => by
    have : m = [] := List.eq_nil_of_length_eq_zero (by simpa using hl)
    subst this; exact List.Perm.refl _
  | x :: l, m, hn, hs, hl => by
    obtain ⟨hx, hn'⟩ := List.nodup_cons.1 hn
    have hm := hs x List.mem_cons_self
    have hp := List.perm_cons_erase hm
    have hlen := hp.length_eq
    simp only [List.length_cons] at hlen hl
    refine List.Perm.trans (List.Perm.cons x (perm_of_sub l (m.erase x) hn' (fun y hy => ?_) (by omega))) hp.symm
    have hy2 := hs y (List.mem_cons_of_mem _ hy)
    have : y ≠ x := by rintro rfl; exact hx hy
    exact (List.mem_erase_of_ne this).2 hy2
theorem prod_mod (p : Nat) : ∀ l : List Nat, prodL (l.map (· % p)) % p = prodL l % p
  | [] => rfl
  | x :: l => by
    simp only [List.map_cons, prodL]
    rw [Nat.mul_mod, prod_mod p l, Nat.mod_mod, ← Nat.mul_mod]
theorem prod_scale (a : Nat) : ∀ l : List Nat, prodL (l.map (a * ·)) = a ^ l.length * prodL l
  | [] => by simp [prodL]
  | x :: l => by
    simp only [List.map_cons, prodL, prod_scale a l, List.length_cons, Nat.pow_succ]
    rw [Nat.mul_mul_mul_comm, Nat.mul_comm a (a ^ l.length)]
theorem prod_cop {p : Nat} (hp : PrimeP p) : ∀ l : List Nat, (∀ x ∈ l, ¬ p ∣ x) → ¬ p ∣ prodL l
  | [], _ => fun h => by have := Nat.le_of_dvd (by decide) h; have := hp.1; simp only [prodL] at *; omega
  | x :: l, h => fun hd => by
    rcases prime_mul hp hd with h1 | h1
    · exact h x List.mem_cons_self h1
    · exact prod_cop hp l (fun y hy => h y (List.mem_cons_of_mem _ hy)) h1
theorem not_dvd {p x : Nat} (h0 : 0 < x) (h1 : x < p) : ¬ p ∣ x := fun h => by
  have := Nat.le_of_dvd h0 h; omega
theorem inj_mod {p a i j : Nat} (hp : PrimeP p) (ha : ¬ p ∣ a) (hi : i < p) (hj : j < p) (hij : i ≤ j) (h : a * i % p = a * j % p) : i = j := by
  have h1 : (a * j - a * i) % p = 0 := Nat.sub_mod_eq_zero_of_mod_eq h.symm
  rw [← Nat.mul_sub] at h1
  rcases prime_mul hp (Nat.dvd_of_mod_eq_zero h1) with h2 | h2
  · exact absurd h2 ha
  · rcases Nat.eq_zero_or_pos (j - i) with h3 | h3
    · omega
    · exact absurd h2 (not_dvd h3 (by omega))
/-- Fermat's little theorem -/
theorem fermat {p a : Nat} (hp : PrimeP p) (ha : ¬ p ∣ a) : a ^ (p - 1) % p = 1 % p := by
  have hp2 := hp.1
  let l := List.range' 1 (p - 1)
  have hl : ∀ x, x ∈ l ↔ 1 ≤ x ∧ x < p := by
    intro x
    simp only [l, List.mem_range'_1]
    omega
  have hnl : l.Nodup := List.nodup_range'
  have hlen : l.length = p - 1 := List.length_range'
  let m := l.map (fun i => a * i % p)
  have hsub : ∀ x ∈ m, x ∈ l := by
    intro x hx
    obtain ⟨i, hi, rfl⟩ := List.mem_map.1 hx
    have hi' := (hl i).1 hi
    refine (hl _).2 ⟨?_, Nat.mod_lt _ (by omega)⟩
    rcases Nat.eq_zero_or_pos (a * i % p) with h | h
    · rcases prime_mul hp (Nat.dvd_of_mod_eq_zero h) with h2 | h2
      · exact absurd h2 ha
      · exact absurd h2 (not_dvd (by omega) hi'.2)
    · exact h
  have hnm : m.Nodup := by
    refine List.pairwise_iff_getElem.2 fun i j hi hj hij => ?_
    simp only [m, List.getElem_map]
    have hi2 : i < l.length := by simpa [m] using hi
    have hj2 : j < l.length := by simpa [m] using hj
    have h1 := (hl _).1 (List.getElem_mem hi2)
    have h2 := (hl _).1 (List.getElem_mem hj2)
    have hne : l[i] ≠ l[j] := (List.pairwise_iff_getElem.1 hnl) i j hi2 hj2 hij
    intro he
    rcases Nat.le_total l[i] l[j] with hle | hle
    · exact hne (inj_mod hp ha h1.2 h2.2 hle he)
    · exact hne (inj_mod hp ha h2.2 h1.2 hle he.symm).symm
  have hperm : m.Perm l := perm_of_sub m l hnm hsub (by simp [m])
  have h1 : prodL m = prodL l := prod_perm hperm
  have h2 : m = (l.map (a * ·)).map (· % p) := by simp [m, List.map_map, Function.comp_def]
  have h3 : prodL l % p = a ^ (p - 1) * prodL l % p := by
    rw [← h1, h2, prod_mod, prod_scale, hlen, ← h2, h1]
  have hpos : 0 < a := by
    rcases Nat.eq_zero_or_pos a with h | h
    · subst h; exact absurd (Nat.dvd_zero p) ha
    · exact h
  have hge : 1 ≤ a ^ (p - 1) := Nat.pow_pos hpos
  have h4 : (a ^ (p - 1) * prodL l - 1 * prodL l) % p = 0 := Nat.sub_mod_eq_zero_of_mod_eq (by rw [Nat.one_mul]; exact h3.symm)
  rw [← Nat.sub_mul] at h4
  rcases prime_mul hp (Nat.dvd_of_mod_eq_zero h4) with h5 | h5
  · have h6 := Nat.mod_eq_zero_of_dvd h5
    have h7 : a ^ (p - 1) = (a ^ (p - 1) - 1) + 1 := by omega
    rw [h7, Nat.add_mod, h6, Nat.zero_add, Nat.mod_mod]
  · exact absurd h5 (prod_cop hp l (fun x hx => by have := (hl x).1 hx; exact not_dvd (by omega) this.2))
theorem mod_p {p v k : Nat} (hp : PrimeP p) : v ^ (1 + k * (p - 1)) % p = v % p := by
  by_cases hv : p ∣ v
  · have h1 : p ∣ v ^ (1 + k * (p - 1)) := by
      rw [Nat.pow_add, Nat.pow_one]; exact Nat.dvd_mul_right_of_dvd hv _
    rw [Nat.mod_eq_zero_of_dvd h1, Nat.mod_eq_zero_of_dvd hv]
  · rw [Nat.pow_add, Nat.pow_one, Nat.mul_comm k, Nat.pow_mul, Nat.mul_mod, Nat.pow_mod, fermat hp hv, ← Nat.pow_mod, Nat.one_pow, ← Nat.mul_mod, Nat.mul_one]
theorem rsa {p q e d v : Nat} (hp : PrimeP p) (hq : PrimeP q) (hne : p ≠ q) (he : e * d % ((p - 1) * (q - 1)) = 1 % ((p - 1) * (q - 1))) (hv : v < p * q) : powS (powS v d (p * q)) e (p * q) = v := by
  have hp2 := hp.1; have hq2 := hq.1
  have hm : 2 ≤ (p - 1) * (q - 1) := by
    rcases Nat.lt_or_ge 2 p with h | h
    · have h1 : 2 * 1 ≤ (p - 1) * (q - 1) := Nat.mul_le_mul (by omega) (by omega)
      omega
    · have h1 : 1 * 2 ≤ (p - 1) * (q - 1) := Nat.mul_le_mul (by omega) (by omega)
      omega
  rw [Nat.mod_eq_of_lt (show 1 < (p - 1) * (q - 1) by omega)] at he
  obtain ⟨k, hk⟩ : ∃ k, e * d = 1 + k * ((p - 1) * (q - 1)) := ⟨e * d / ((p - 1) * (q - 1)), by
    have := Nat.div_add_mod (e * d) ((p - 1) * (q - 1))
    rw [he, Nat.mul_comm] at this; omega⟩
  unfold powS
  rw [← Nat.pow_mod, ← Nat.pow_mul, Nat.mul_comm d e, hk]
  have e1 : v ^ (1 + k * ((p - 1) * (q - 1))) % p = v % p := by
    rw [show k * ((p - 1) * (q - 1)) = (k * (q - 1)) * (p - 1) by rw [Nat.mul_comm (p - 1), Nat.mul_assoc]]
    exact mod_p hp
  have e2 : v ^ (1 + k * ((p - 1) * (q - 1))) % q = v % q := by
    rw [show k * ((p - 1) * (q - 1)) = (k * (p - 1)) * (q - 1) by rw [Nat.mul_assoc]]
    exact mod_p hq
  have hcop : Nat.Coprime p q := prime_cop hp (fun h => by
    rcases prime_dvd hq h with h1 | h1
    · omega
    · exact hne h1)
  obtain ⟨N, hN⟩ : ∃ N, v ^ (1 + k * ((p - 1) * (q - 1))) = N := ⟨_, rfl⟩
  rw [hN] at e1 e2 ⊢
  have hle : v ≤ N := by
    rw [← hN]
    rcases Nat.eq_zero_or_pos v with h | h
    · omega
    · exact Nat.le_self_pow (by omega) v
  have d1 : p ∣ N - v := Nat.dvd_of_mod_eq_zero (Nat.sub_mod_eq_zero_of_mod_eq e1)
  have d2 : q ∣ N - v := Nat.dvd_of_mod_eq_zero (Nat.sub_mod_eq_zero_of_mod_eq e2)
  obtain ⟨j, hj⟩ := Nat.Coprime.mul_dvd_of_dvd_of_dvd hcop d1 d2
  have h9 : N = v + p * q * j := by omega
  rw [h9, Nat.add_mul_mod_self_left, Nat.mod_eq_of_lt hv]
end Go.Proofs.YtflijhodlimjoaaGreat.rsaP
namespace Go.Proofs.YtflijhodlimjoaaGreat.fitsS
open Go.RowKit Go.Proofs.YtflijhodlimjoaaGreat.kit Go.Proofs.YtflijhodlimjoaaGreat.nspec Go.Proofs.YtflijhodlimjoaaGreat.rsplit Go.Proofs.YtflijhodlimjoaaGreat.refA Go.Proofs.YtflijhodlimjoaaGreat.refB Go.Proofs.YtflijhodlimjoaaGreat.right Go.Proofs.YtflijhodlimjoaaGreat.sealA Go.Proofs.YtflijhodlimjoaaGreat.sealS Go.Proofs.YtflijhodlimjoaaGreat.sealP Go.Proofs.YtflijhodlimjoaaGreat.big Go.Proofs.YtflijhodlimjoaaGreat.val Go.Proofs.YtflijhodlimjoaaGreat.pub Go.Proofs.YtflijhodlimjoaaGreat.half Go.Proofs.YtflijhodlimjoaaGreat.tag Go.Proofs.YtflijhodlimjoaaGreat.wireP Go.Proofs.YtflijhodlimjoaaGreat.sortT Go.Proofs.YtflijhodlimjoaaGreat.fld Go.Proofs.YtflijhodlimjoaaGreat.signP Go.Proofs.YtflijhodlimjoaaGreat.opens Go.Proofs.YtflijhodlimjoaaGreat.verP
set_option linter.unusedVariables false

theorem put_pre : ∀ (a b : List Bs) (s t : Bs), okL a → okL b → put a ++ s = put b ++ t → a = b
  | [], [], _, _, _, _, _ => rfl
  | [], y :: b, s, t, _, hb, h => by
    obtain ⟨⟨h1, h2⟩, _⟩ := okL_cons.1 hb
    simp only [put, List.cons_append, List.cons.injEq] at h
    have := congrArg UInt8.toNat h.1
    rw [nat_of (by omega)] at this
    have h9 : (0 : UInt8).toNat = 0 := rfl
    omega
  | x :: a, [], s, t, ha, _, h => by
    obtain ⟨⟨h1, h2⟩, _⟩ := okL_cons.1 ha
    simp only [put, List.cons_append, List.cons.injEq] at h
    have := congrArg UInt8.toNat h.1
    rw [nat_of (by omega)] at this
    have h9 : (0 : UInt8).toNat = 0 := rfl
    omega
  | x :: a, y :: b, s, t, ha, hb, h => by
    obtain ⟨⟨h1, h2⟩, ha'⟩ := okL_cons.1 ha
    obtain ⟨⟨h3, h4⟩, hb'⟩ := okL_cons.1 hb
    simp only [put, List.cons_append, List.cons.injEq, List.append_assoc] at h
    have hl := congrArg UInt8.toNat h.1
    rw [nat_of (by omega), nat_of (by omega)] at hl
    obtain ⟨e1, e2⟩ := List.append_inj h.2 hl
    rw [e1, put_pre a b s t ha' hb' e2]
theorem host_take {p r : Bs} {ls : List Bs} (h : IsN p ls) : hostS (p ++ r) = (p.length : Int) := by
  refine hostP.host_some (by rw [List.length_append]; omega) (ls := ls) (by rw [List.take_left]; exact h) (fun k ls' hk hn => ?_)
  have e1 : (p ++ r).take k ++ (p ++ r).drop k = p ++ r := List.take_append_drop _ _
  rw [hn.1, show p ++ r = put ls ++ r by rw [← h.1]] at e1
  have e2 := put_pre ls' ls _ _ hn.2.1 h.2.1 e1
  have e3 : ((p ++ r).take k).length = p.length := by rw [hn.1, e2, ← h.1]
  rw [List.length_take, List.length_append] at e3
  omega
theorem split_cons {f : Fld} {fs : List Fld} {a rest : Bs} {p : List Bs} {r : Bs} (ht : takeS f (a ++ rest) = (a.length : Int)) (h : splitS fs rest = some (p, r)) : splitS (f :: fs) (a ++ rest) = some (a :: p, r) := by
  simp only [splitS]
  rw [if_neg (by rw [ht]; omega), ht, Int.toNat_natCast, List.drop_left, h, List.take_left]
  rfl
theorem take_num' {a rest : Bs} {n : Nat} (h : a.length = n) : takeS (.num n) (a ++ rest) = (a.length : Int) := by
  simp only [takeS]
  rw [if_neg (by rw [List.length_append]; omega), h]
theorem val_big : ∀ (n v : Nat), v < 256 ^ n → valL (bigS v n) 0 = v
  | 0, v, h => by simp at h; subst h; rfl
  | n + 1, v, h => by
    have key : ∀ (l : Bs) (c : UInt8) (u : Nat), valL (l ++ [c]) u = valL l u * 256 + c.toNat := by
      intro l
      induction l with
      | nil => intro c u; rfl
      | cons x l ih => intro c u; simp only [List.cons_append, valL]; exact ih c _
    have h1 : v / 256 < 256 ^ n := by
      rw [Nat.pow_succ] at h
      exact Nat.div_lt_of_lt_mul (by rw [Nat.mul_comm]; exact h)
    show valL (bigS (v / 256) n ++ [UInt8.ofNat (v % 256)]) 0 = v
    rw [key, val_big n (v / 256) h1, nat_of (by have := Nat.mod_lt v (show 0 < 256 by decide); omega)]
    omega
/-- the parts of what Sign makes -/
theorem sg_head {T CC TL UN FR TG PW : Nat} {p7 : Bs} {ls : List Bs} (hT : 1 ≤ T) (hT2 : T ≤ 65535) (h7 : IsN p7 ls) : Sg (headS T CC TL UN FR TG ++ p7 ++ bigS PW 4) (bigS T 2) [253] (bigS CC 1) (bigS TL 4) (bigS UN 4) (bigS FR 4) (bigS TG 2) p7 (bigS PW 4) := by
  have hl7 := h7.2.2
  refine ⟨bigS_len _ _, rfl, bigS_len _ _, bigS_len _ _, bigS_len _ _, bigS_len _ _, bigS_len _ _, ⟨ls, h7⟩, by unfold headS; simp only [List.append_assoc], ?_, ?_⟩
  · unfold headS F46
    simp only [List.append_assoc]
    refine split_cons ?_ (split_cons (take_num' rfl) (split_cons (take_num' (bigS_len _ _)) (split_cons (take_num' (bigS_len _ _)) (split_cons (take_num' (bigS_len _ _)) (split_cons (take_num' (bigS_len _ _)) (split_cons (take_num' (bigS_len _ _)) (split_cons ?_ ?_)))))))
    · have e : bigS T 2 = [UInt8.ofNat (T / 256 % 256), UInt8.ofNat (T % 256)] := rfl
      rw [e]
      simp only [takeS, List.cons_append, List.length_cons, List.nil_append]
      rw [if_neg]
      · rfl
      · rintro (h | ⟨h1, h2⟩)
        · omega
        · simp only [List.getD_cons_zero, List.getD_cons_succ] at h1 h2
          have a1 := congrArg UInt8.toNat h1
          have a2 := congrArg UInt8.toNat h2
          rw [nat_of (by omega)] at a1 a2
          simp at a1 a2
          omega
    · show hostS (p7 ++ bigS PW 4) = _
      exact host_take h7
    · have e : takeS .b64 (bigS PW 4) = 4 := by
        simp only [takeS, someS]
        rw [if_neg (by intro h; have := congrArg List.length h; rw [bigS_len] at this; simp at this), bigS_len]
        rfl
      simp only [splitS]
      rw [e]
      have e2 : List.take 4 (bigS PW 4) = bigS PW 4 := List.take_of_length_le (by rw [bigS_len]; exact Nat.le_refl _)
      simp [bigS_len, e2]
  · simp only [List.length_append, head_len, bigS_len]; omega
theorem pub_yes {f m e s : Int} (h : rightB f m e s = true) : pubS f m e s = bigS f.toNat 2 ++ [3, 253] ++ bigS m.toNat 4 ++ bigS e.toNat 4 := by unfold pubS; rw [if_pos h]
theorem key_of {f m e s : Int} (h : rightB f m e s = true) : isKeyB (pubS f m e s) = true ∧ kM (pubS f m e s) = m.toNat ∧ kE (pubS f m e s) = e.toNat := by
  obtain ⟨hf, hm, he, hs⟩ := right_facts h
  have hp := pub_yes h
  have e1 : kF (pubS f m e s) = f.toNat := by
    unfold kF; rw [hp]
    simp only [List.append_assoc]
    rw [List.take_append_of_le_length (by rw [bigS_len]; exact Nat.le_refl _), List.take_of_length_le (by rw [bigS_len]; exact Nat.le_refl _)]
    exact val_big 2 _ (by omega)
  have e2 : kM (pubS f m e s) = m.toNat := by
    unfold kM; rw [hp]
    have h4 : (bigS f.toNat 2 ++ [3, 253]).length = 4 := by simp [bigS_len]
    rw [List.append_assoc, List.drop_append_of_le_length (by rw [h4]; exact Nat.le_refl _), List.drop_of_length_le (by rw [h4]; exact Nat.le_refl _), List.nil_append, List.take_append_of_le_length (by rw [bigS_len]; exact Nat.le_refl _), List.take_of_length_le (by rw [bigS_len]; exact Nat.le_refl _)]
    exact val_big 4 _ (by omega)
  have e3 : kE (pubS f m e s) = e.toNat := by
    unfold kE; rw [hp]
    have h8 : (bigS f.toNat 2 ++ [3, 253] ++ bigS m.toNat 4).length = 8 := by simp [bigS_len]
    rw [List.drop_append_of_le_length (by rw [h8]; exact Nat.le_refl _), List.drop_of_length_le (by rw [h8]; exact Nat.le_refl _), List.nil_append, List.take_of_length_le (by rw [bigS_len]; exact Nat.le_refl _)]
    exact val_big 4 _ (by omega)
  refine ⟨?_, e2, e3⟩
  unfold isKeyB
  rw [e1, e2, e3]
  have hl : (pubS f m e s).length = 12 := by rw [hp]; simp [bigS_len]
  have hr : rightB (f.toNat : Int) (m.toNat : Int) (e.toNat : Int) 1 = true := by
    unfold right.rightB right.someB at h ⊢
    simp only [Bool.and_eq_true, Bool.or_eq_true, beq_iff_eq, decide_eq_true_eq] at h ⊢
    omega
  have h2 : pubS (f.toNat : Int) (m.toNat : Int) (e.toNat : Int) 1 = pubS f m e s := by
    rw [pub_yes hr, hp]; simp only [Int.toNat_natCast]
  rw [hl, h2]; simp
theorem own_self {l : Bs} : ownS (lessS l) l = foldS l := by unfold ownS; rw [if_neg (by omega)]
/-- what is signed fits -/
theorem fits {kf km ke ks : Int} {sn : ByteArray} {L L' : List Rc} {h h' : Rc} {fr un now : Int} {sg : Rc} {ow : Bs} (hr : rightB kf km ke ks = true) (hsn : isB sn = true) (htm : ¬ (fr < 0 ∨ un < fr ∨ 4294967295 < un)) (hs : setB L = true) (h0 : L[0]? = some h)
    (hrsa : ∀ v, v < km.toNat → powS (powS v ks.toNat km.toNat) ke.toNat km.toNat = v)
    (hsg : sg.t = 46) (hsz : zonB sg = true) (hsd : sg.d.data.toList = sigD kf km ke ks sn.data.toList h L fr un)
    (hs' : setB L' = true) (h0' : L'[0]? = some h') (ht : h'.t = h.t) (hds : sortedT (L'.map foldX) = sortedT (L.map foldX))
    (heq : equalS sg.o.data.toList h'.o.data.toList = true) (hw : withinS h'.o.data.toList (foldS sn.data.toList) = true) (hlab : ¬ lessS h'.o.data.toList < lessS h.o.data.toList) (hown : ownS (lessS h.o.data.toList) h'.o.data.toList = foldS h.o.data.toList) (how : equalS ow (foldS sn.data.toList) = true) :
    VerC L' sg ow (pubS kf km ke ks) now = if now < fr then 25 else if un < now then 25 else 0 := by
  obtain ⟨ls, hls⟩ := isB_is hsn
  have hf7 := fold_isN hls
  obtain ⟨_, ⟨ht1, ht2⟩, ⟨hl1, hl2⟩, _, ⟨hk1, hk2⟩, _⟩ := set_first hs h0
  obtain ⟨hf, hm, he, hsx⟩ := right_facts hr
  obtain ⟨hk, hkM, hkE⟩ := key_of hr
  have hTG := tag_lt (pubS kf km ke ks)
  have hm0 : 0 < km.toNat := by omega
  obtain ⟨FG, hFG⟩ : ∃ FG, figL km.toNat (digestS (sigText (sigHead kf km ke ks h fr un) sn.data.toList h L)) 0 = FG := ⟨_, rfl⟩
  have hFl : FG < km.toNat := by rw [← hFG]; exact fig_lt hm0 _ _ hm0
  obtain ⟨PW, hPW⟩ : ∃ PW, sigNum (sigHead kf km ke ks h fr un) sn.data.toList h L km.toNat ks.toNat = PW := ⟨_, rfl⟩
  have hPl : PW < km.toNat := by rw [← hPW]; unfold sigNum; exact pow_lt hm0
  have hP2 : powS PW ke.toNat km.toNat = FG := by
    rw [← hPW]; unfold sigNum; rw [hFG]; exact hrsa FG hFl
  have hD : sg.d.data.toList = headS h.t.toNat (lessS h.o.data.toList).toNat h.l.toNat un.toNat fr.toNat (tagS (pubS kf km ke ks)) ++ foldS sn.data.toList ++ bigS PW 4 := by
    rw [hsd]; unfold sigD; rw [hPW]; rfl
  have hSg : Sg sg.d.data.toList (bigS h.t.toNat 2) [253] (bigS (lessS h.o.data.toList).toNat 1) (bigS h.l.toNat 4) (bigS un.toNat 4) (bigS fr.toNat 4) (bigS (tagS (pubS kf km ke ks)) 2) (foldS sn.data.toList) (bigS PW 4) := by
    rw [hD]; exact sg_head (by omega) (by omega) hf7
  rw [vc_go hs' hsg hsz h0' hSg]
  have v0 : valL (bigS h.t.toNat 2) 0 = h.t.toNat := val_big 2 _ (by omega)
  have v2 : valL (bigS (lessS h.o.data.toList).toNat 1) 0 = (lessS h.o.data.toList).toNat := val_big 1 _ (by omega)
  have v4 : valL (bigS un.toNat 4) 0 = un.toNat := val_big 4 _ (by omega)
  have v5 : valL (bigS fr.toNat 4) 0 = fr.toNat := val_big 4 _ (by omega)
  have v6 : valL (bigS (tagS (pubS kf km ke ks)) 2) 0 = tagS (pubS kf km ke ks) := val_big 2 _ (by omega)
  have v8 : valL (bigS PW 4) 0 = PW := val_big 4 _ (by omega)
  unfold verC
  rw [if_neg (by rw [v0, ht]; omega), if_neg (by rw [heq]; decide), if_neg (by rw [hw]; decide), if_neg (by rw [how]; decide), if_neg (by rw [hk]; decide), if_neg (by simp), if_neg (by rw [v6]; simp), if_neg (by rw [v2]; omega)]
  rw [v5, v4, show (fr.toNat : Int) = fr by omega, show (un.toNat : Int) = un by omega]
  by_cases c1 : now < fr
  · rw [if_pos c1, if_pos c1]
  rw [if_neg c1, if_neg c1]
  by_cases c2 : un < now
  · rw [if_pos c2, if_pos c2]
  rw [if_neg c2, if_neg c2, if_neg (by rw [bigS_len]; decide), if_neg (by rw [v8, hkM]; omega), if_neg]
  rw [v8, hkM, hkE, hP2, v2, hds]
  intro hne
  apply hne
  rw [← hFG]
  unfold sigText
  have e1 : hdS (bigS h.t.toNat 2) [253] (bigS (lessS h.o.data.toList).toNat 1) (bigS h.l.toNat 4) (bigS un.toNat 4) (bigS fr.toNat 4) (bigS (tagS (pubS kf km ke ks)) 2) = sigHead kf km ke ks h fr un := rfl
  rw [e1, show (((lessS h.o.data.toList).toNat : Nat) : Int) = lessS h.o.data.toList by omega]
  unfold sealS.textS
  rw [hown, own_self]
end Go.Proofs.YtflijhodlimjoaaGreat.fitsS
namespace Go.Proofs.YtflijhodlimjoaaGreat.upper
open Go.RowKit Go.Proofs.YtflijhodlimjoaaGreat.kit

def upB (c : UInt8) : UInt8 := if 97 ≤ c.toNat ∧ c.toNat ≤ 122 then c - 32 else c
def upL (l : List UInt8) : List UInt8 := l.map upB
def upTo (k : Nat) (l : List UInt8) : List UInt8 := (l.take k).map upB ++ l.drop k
theorem upTo_length (k : Nat) (l : List UInt8) : (upTo k l).length = l.length := by
  simp only [upTo, List.length_append, List.length_map, List.length_take, List.length_drop]; omega
theorem upTo_at (k : Nat) (l : List UInt8) (h : k ≤ l.length) : (upTo k l)[k]? = l[k]? := by
  have e : ((l.take k).map upB).length = k := by simp; omega
  simp only [upTo]
  rw [List.getElem?_append_right (by omega), e]
  simp
theorem upTo_succ (k : Nat) (l : List UInt8) (c : UInt8) (h : l[k]? = some c) : (upTo k l).set k (upB c) = upTo (k + 1) l := by
  obtain ⟨h', rfl⟩ := List.getElem?_eq_some_iff.1 h
  have e : ((l.take k).map upB).length = k := by simp; omega
  simp only [upTo]
  rw [List.set_append, if_neg (by omega), e, Nat.sub_self, List.drop_eq_getElem_cons h', List.set_cons_zero, List.take_succ_eq_append_getElem h', List.map_append, List.append_assoc]
  rfl
theorem upTo_skip (k : Nat) (l : List UInt8) (c : UInt8) (h : l[k]? = some c) (hc : upB c = c) : upTo k l = upTo (k + 1) l := by
  rw [← upTo_succ k l c h, hc]
  have h1 := (List.getElem?_eq_some_iff.1 h).1
  have h' : k < (upTo k l).length := by rw [upTo_length]; exact h1
  have h2 : (upTo k l)[k]? = some c := by rw [upTo_at k l (by omega), h]
  obtain ⟨h3, h4⟩ := List.getElem?_eq_some_iff.1 h2
  rw [← h4]
  exact (List.set_getElem_self h3).symm
theorem upTo_all (l : List UInt8) : upTo l.length l = upL l := by simp [upTo, upL]
theorem upTo_zero (l : List UInt8) : upTo 0 l = l := by simp [upTo]

theorem up_val (c : UInt8) (h : 97 ≤ c.toNat ∧ c.toNat ≤ 122) : ((upB c).toNat : Int) = (c.toNat : Int) - 32 := by
  simp only [upB, if_pos h, UInt8.toNat_sub]
  have : (32 : UInt8).toNat = 32 := rfl
  omega
theorem upB_id (c : UInt8) (h : ¬ (97 ≤ c.toNat ∧ c.toNat ≤ 122)) : upB c = c := by simp only [upB, if_neg h]

set_option linter.unusedVariables false
set_option maxRecDepth 100000 in
set_option maxHeartbeats 800000 in
theorem upper_any (s : ByteArray) (w : World) (hs : s.size ≤ maxLen) :
    Calls Tryz.prog 19 #[.string s] w fun e w' => e = .returned (.string ⟨(upL s.data.toList).toArray⟩) ∧ Below w.heap.size w w' := by
  unfold maxLen at hs
  have hconv := Lib.run_convert_string_bytes (P := Tryz.prog) w 9 108 5 s Tryz.underlying9 Tryz.underlying108 Tryz.underlying5
  have hB := bytesWorld_below w 5 s
  have hb0 := bytes_new w 5 s
  generalize grownCap w s.size 0 5 = cap at hconv
  generalize Lib.bytesWorld w 5 s = w1 at hconv hB hb0
  have H0 := Lib.hid hb0; clear hb0
  go_enter Tryz.func19, Tryz.ntmps19
  go_wp2
  clear hconv
  go_loopw [4, 9] (fun _ i wr => ∃ k : Nat, k ≤ s.size ∧ i = .int .i64 k ∧ Below w.heap.size w wr ∧ Hid (Bytes wr w.heap.size (upTo k s.data.toList))) (fun _ i _ => s.size - (intOf i).toNat)
  case atStart => exact ⟨0, Nat.zero_le _, rfl, hB, by rw [upTo_zero]; exact H0⟩
  case round =>
    obtain ⟨k, hk, rfl, hBr, hbr⟩ := hrel
    clear hB H0
    by_cases hlt : k < s.size
    · obtain ⟨c, hc⟩ : ∃ c, s.data.toList[k]? = some c := ⟨_, List.getElem?_eq_getElem (by simpa using hlt)⟩
      obtain ⟨hcell, hfr⟩ := hbr.out k c (by rw [upTo_at k _ (by simpa using hk)]; exact hc)
      have HC := Lib.hid hc
      clear hc
      obtain ⟨n, hn, hn0, hn1, hup, hlo⟩ : ∃ n : Int, n = (c.toNat : Int) ∧ 0 ≤ n ∧ n < 256 ∧ (97 ≤ n ∧ n ≤ 122 → ((upB c).toNat : Int) = n - 32) ∧ (¬ (97 ≤ n ∧ n ≤ 122) → upB c = c) :=
        ⟨_, rfl, by omega, byte_lt c, fun h => up_val c (by omega), fun h => upB_id c (by omega)⟩
      rw [← hn] at hcell
      have HU := Lib.hid hup; have HL := Lib.hid hlo; have HN := Lib.hid hn
      clear hup hlo hn
      by_cases hup : 97 ≤ n ∧ n ≤ 122
      · have hlow := HU.out hup
        have hset := bytes_set hbr.out k (upB c)
        rw [upTo_succ k _ c HC.out, hlow] at hset
        have HS := Lib.hid hset; clear hset
        have HW := Lib.hid hlow; clear hlow
        obtain ⟨h1, h2⟩ := hup
        go_wp2
        exact ⟨⟨k + 1, by omega, by go_num, hBr.setCell (Nat.le_refl _) _, HS⟩, by simp [intOf]; omega⟩
      · have hsk := upTo_skip k _ c HC.out (HL.out hup)
        have HS := Lib.hid hsk; clear hsk
        by_cases h1 : 97 ≤ n
        · have h2 : ¬ n ≤ 122 := by omega
          clear hup
          go_wp2
          exact ⟨⟨k + 1, by omega, by go_num, hBr, by rw [← HS.out]; exact hbr⟩, by simp [intOf]; omega⟩
        · clear hup
          go_wp2
          exact ⟨⟨k + 1, by omega, by go_num, hBr, by rw [← HS.out]; exact hbr⟩, by simp [intOf]; omega⟩
    · have hke : k = s.data.toList.length := by simp; omega
      have hfin := hbr.out
      rw [hke, upTo_all] at hfin
      have hback := bytes_back (P := Tryz.prog) hfin 108 9 5 cap s.size (by simp [upL]) Tryz.underlying108 Tryz.underlying5 Tryz.underlying9
      clear hfin
      have HK := Lib.hid hke; clear hke
      go_wp2
      go_ret
      exact ⟨rfl, hBr⟩
end Go.Proofs.YtflijhodlimjoaaGreat.upper
namespace Go.Proofs.YtflijhodlimjoaaGreat.sroundsP
open Go.RowKit Go.Proofs.YtflijhodlimjoaaGreat.kit Go.Proofs.YtflijhodlimjoaaGreat.nspec Go.Proofs.YtflijhodlimjoaaGreat.rsplit Go.Proofs.YtflijhodlimjoaaGreat.low Go.Proofs.YtflijhodlimjoaaGreat.refA Go.Proofs.YtflijhodlimjoaaGreat.refB Go.Proofs.YtflijhodlimjoaaGreat.right Go.Proofs.YtflijhodlimjoaaGreat.sealA Go.Proofs.YtflijhodlimjoaaGreat.sealS Go.Proofs.YtflijhodlimjoaaGreat.sealP Go.Proofs.YtflijhodlimjoaaGreat.big Go.Proofs.YtflijhodlimjoaaGreat.val Go.Proofs.YtflijhodlimjoaaGreat.pub Go.Proofs.YtflijhodlimjoaaGreat.half Go.Proofs.YtflijhodlimjoaaGreat.tag Go.Proofs.YtflijhodlimjoaaGreat.wireP Go.Proofs.YtflijhodlimjoaaGreat.sortT Go.Proofs.YtflijhodlimjoaaGreat.fld Go.Proofs.YtflijhodlimjoaaGreat.signP Go.Proofs.YtflijhodlimjoaaGreat.opens Go.Proofs.YtflijhodlimjoaaGreat.verP Go.Proofs.YtflijhodlimjoaaGreat.fitsS
set_option linter.unusedVariables false

theorem low_up (c : UInt8) : lowB (upper.upB c) = lowB c := by
  by_cases h : 97 ≤ c.toNat ∧ c.toNat ≤ 122
  · have h1 := upper.up_val c h
    have e : lowB c = c := lowB_id c (by omega)
    have h2 := low.up_val (upper.upB c) (by omega)
    rw [e]
    exact UInt8.toNat_inj.1 (by omega)
  · rw [upper.upB_id c h]
theorem lowL_up (l : Bs) : lowL (upper.upL l) = lowL l := by
  unfold lowL upper.upL
  rw [List.map_map]
  exact List.map_congr_left fun c _ => low_up c
theorem up_put : ∀ {ls : List Bs}, okL ls → upper.upL (put ls) = put (ls.map upper.upL)
  | [], _ => rfl
  | x :: r, h => by
    obtain ⟨⟨h1, h2⟩, h3⟩ := okL_cons.1 h
    have hn : (UInt8.ofNat x.length).toNat = x.length := nat_of (by omega)
    have := up_put h3
    simp only [upper.upL, put, List.map_cons, List.map_append, List.length_map] at this ⊢
    rw [upper.upB_id _ (by omega), this]
theorem up_isN {l : Bs} {ls : List Bs} (h : IsN l ls) : IsN (upper.upL l) (ls.map upper.upL) := by
  refine ⟨by rw [h.1, up_put h.2.1], ?_, ?_⟩
  · intro x hx
    obtain ⟨y, hy, rfl⟩ := List.mem_map.1 hx
    simpa [upper.upL] using h.2.1 y hy
  · have h3 := h.2.2
    simpa [upper.upL] using h3
theorem fold_up {l : Bs} {ls : List Bs} (h : IsN l ls) : foldS (upper.upL l) = foldS l := by
  rw [foldS_yes (up_isN h), foldS_yes h, List.map_map]
  congr 1
  exact List.map_congr_left fun x _ => lowL_up x
theorem less_eq {a b : Bs} {x y : List Bs} (ha : IsN a x) (hb : IsN b y) (h : foldS a = foldS b) : lessS a = lessS b := by rw [← fold_less ha, ← fold_less hb, h]
theorem fold_labs {a b : Bs} {x y : List Bs} (ha : IsN a x) (hb : IsN b y) (h : foldS a = foldS b) : x.map lowL = y.map lowL := by
  have h1 := split_iff.2 (fold_isN ha)
  have h2 := split_iff.2 (fold_isN hb)
  rw [h, h2] at h1
  exact (Option.some.inj h1).symm
theorem within_eq {a b z u : Bs} {x y k m : List Bs} (ha : IsN a x) (hb : IsN b y) (hz : IsN z k) (hu : IsN u m) (h : foldS a = foldS b) (hzu : foldS z = foldS u) (hw : withinS a z = true) : withinS b u = true := by
  rw [ordl.withinS_iff ha hz] at hw
  rw [ordl.withinS_iff hb hu, ← fold_labs ha hb h, ← fold_labs hz hu hzu]
  exact hw
theorem equal_of {a b : Bs} {x y : List Bs} (ha : IsN a x) (hb : IsN b y) (h : foldS a = foldS b) : equalS a b = true := by
  rw [equalS_eq, split_iff.2 ha, split_iff.2 hb, h]; simp
theorem equal_fold {a b : Bs} (h : equalS a b = true) : foldS a = foldS b := by
  rw [equalS_eq] at h
  simp only [Bool.and_eq_true, decide_eq_true_eq] at h
  exact h.2
theorem fold_fold {a : Bs} {x : List Bs} (ha : IsN a x) : foldS (foldS a) = foldS a := by
  rw [foldS_yes (fold_isN ha), foldS_yes ha, List.map_map]
  congr 1
  refine List.map_congr_left fun y _ => ?_
  show lowL (lowL y) = lowL y
  unfold lowL
  rw [List.map_map]
  refine List.map_congr_left fun c _ => ?_
  show lowB (lowB c) = lowB c
  by_cases hc : 65 ≤ c.toNat ∧ c.toNat ≤ 90
  · have h1 := low.up_val c hc
    exact lowB_id _ (by omega)
  · rw [lowB_id c hc, lowB_id c hc]
theorem sorted_perm {l m : List Bs} (h : l.Perm m) : sortedT l = sortedT m := by
  have h1 : (sortedT l).Perm l := by have := (fold_sorted l [] List.Pairwise.nil).2; rwa [List.append_nil] at this
  have h2 : (sortedT m).Perm m := by have := (fold_sorted m [] List.Pairwise.nil).2; rwa [List.append_nil] at this
  exact (h1.trans (h.trans h2.symm)).eq_of_pairwise (fun a b _ _ h3 h4 => leT_anti h3 h4) (sortedT_sorted l) (sortedT_sorted m)

/-- a record with large letters and another age -/
def ageX (ag : Int) (l : Int) : Int := if 0 ≤ ag ∧ ag ≤ 2147483647 then ag else l
def markX (ag : Int) (x : Rc) : Rc := ⟨⟨(upper.upL x.o.data.toList).toArray⟩, x.t, x.c, ageX ag x.l, x.d⟩
theorem mark_fold (ag : Int) (L : List Rc) : (L.map (markX ag)).map foldX = L.map foldX := by rw [List.map_map]; rfl
theorem set_back {L : List Rc} {h : Rc} (h0 : L[0]? = some h) (h1 : ∀ x ∈ L, oneX h x = true) (h2 : (L.map foldX).Nodup) : setB L = true := by
  match L, h0 with
  | h' :: r, h0 =>
    simp at h0; subst h0
    unfold setB
    simp only
    rw [Bool.and_eq_true, List.all_eq_true, decide_eq_true_iff]
    exact ⟨h1, h2⟩
theorem one_facts {h x : Rc} (hx : oneX h x = true) : zonB x = true ∧ x.t ≠ 46 ∧ x.t = h.t ∧ equalS x.o.data.toList h.o.data.toList = true := by
  unfold oneX at hx
  simp only [Bool.and_eq_true, Bool.not_eq_true', beq_eq_false_iff_ne, beq_iff_eq] at hx
  exact hx
theorem one_back {h x : Rc} (h1 : zonB x = true) (h2 : x.t ≠ 46) (h3 : x.t = h.t) (h4 : equalS x.o.data.toList h.o.data.toList = true) : oneX h x = true := by
  unfold oneX
  simp only [Bool.and_eq_true, Bool.not_eq_true', beq_eq_false_iff_ne, beq_iff_eq]
  exact ⟨h1, h2, h3, h4⟩
theorem zon_mark {x : Rc} (ag : Int) (h : zonB x = true) : zonB (markX ag x) = true := by
  obtain ⟨a1, a2, a3, a4, a5⟩ := zon_facts h
  obtain ⟨ls, hl⟩ := isB_is a1
  unfold zonB
  have e1 : isB (markX ag x).o = true := isB_yes (ls := ls.map upper.upL) (by show IsN (upper.upL x.o.data.toList) _; exact up_isN hl)
  have e3 : 0 ≤ ageX ag x.l ∧ ageX ag x.l ≤ 2147483647 := by unfold ageX; split <;> omega
  rw [e1]
  simp only [Bool.and_eq_true, decide_eq_true_eq, true_and]
  exact ⟨a2, e3.1, e3.2, a5⟩
/-- what Sign answers, told by its code -/
theorem sr_all (kf km ke ks : Int) (sn : ByteArray) (L : List Rc) (fr un : Int) : ∃ (sg : Rc) (cd : Int), SignR kf km ke ks sn L fr un = .returned (.tuple #[.agg #[.string sg.o, .int .i64 sg.t, .int .i64 sg.c, .int .i64 sg.l, .string sg.d], .int .i64 cd]) ∧
    ((cd ≠ 0 ∧ sg = ⟨⟨#[]⟩, 0, 0, 0, ⟨#[]⟩⟩) ∨ (cd = 0 ∧ rightB kf km ke ks = true ∧ isB sn = true ∧ ¬ (fr < 0 ∨ un < fr ∨ 4294967295 < un) ∧ setB L = true ∧ ∃ x, L[0]? = some x ∧ withinS x.o.data.toList sn.data.toList = true ∧ sg = ⟨x.o, 46, 1, x.l, ⟨(sigD kf km ke ks sn.data.toList x L fr un).toArray⟩⟩)) := by
  have hno : ∀ c : Int, c ≠ 0 → SignR kf km ke ks sn L fr un = noR c → ∃ (sg : Rc) (cd : Int), SignR kf km ke ks sn L fr un = .returned (.tuple #[.agg #[.string sg.o, .int .i64 sg.t, .int .i64 sg.c, .int .i64 sg.l, .string sg.d], .int .i64 cd]) ∧
    ((cd ≠ 0 ∧ sg = ⟨⟨#[]⟩, 0, 0, 0, ⟨#[]⟩⟩) ∨ (cd = 0 ∧ rightB kf km ke ks = true ∧ isB sn = true ∧ ¬ (fr < 0 ∨ un < fr ∨ 4294967295 < un) ∧ setB L = true ∧ ∃ x, L[0]? = some x ∧ withinS x.o.data.toList sn.data.toList = true ∧ sg = ⟨x.o, 46, 1, x.l, ⟨(sigD kf km ke ks sn.data.toList x L fr un).toArray⟩⟩)) := fun c hc h => ⟨⟨⟨#[]⟩, 0, 0, 0, ⟨#[]⟩⟩, c, h, .inl ⟨hc, rfl⟩⟩
  rcases Bool.eq_false_or_eq_true (rightB kf km ke ks) with h1 | h1
  case inr => exact hno 24 (by decide) (sr_key h1)
  rcases Bool.eq_false_or_eq_true (isB sn) with h2 | h2
  case inr => exact hno 1 (by decide) (sr_name h1 h2)
  by_cases h3 : fr < 0 ∨ un < fr ∨ 4294967295 < un
  · exact hno 25 (by decide) (sr_time h1 h2 h3)
  rcases Bool.eq_false_or_eq_true (setB L) with h4 | h4
  case inr => exact hno 8 (by decide) (sr_set h1 h2 h3 h4)
  obtain ⟨x, h0⟩ : ∃ x, L[0]? = some x := by
    cases L with
    | nil => exact absurd h4 (by decide)
    | cons y r => exact ⟨y, rfl⟩
  rcases Bool.eq_false_or_eq_true (otherTtl x L) with h5 | h5
  · exact hno 8 (by decide) (sr_ttl h1 h2 h3 h4 h0 h5)
  rcases Bool.eq_false_or_eq_true (withinS x.o.data.toList sn.data.toList) with h6 | h6
  case inr => exact hno 5 (by decide) (sr_out h1 h2 h3 h4 h0 h5 h6)
  exact ⟨⟨x.o, 46, 1, x.l, ⟨(sigD kf km ke ks sn.data.toList x L fr un).toArray⟩⟩, 0, sr_yes h1 h2 h3 h4 h0 h5 h6, .inr ⟨rfl, h1, h2, h3, h4, x, h0, h6, rfl⟩⟩
/-- a signature is a record that may stand -/
theorem sig_zon {kf km ke ks : Int} {sn : ByteArray} {L : List Rc} {x : Rc} {fr un : Int} (hr : rightB kf km ke ks = true) (hsn : isB sn = true) (hs : setB L = true) (h0 : L[0]? = some x) : zonB ⟨x.o, 46, 1, x.l, ⟨(sigD kf km ke ks sn.data.toList x L fr un).toArray⟩⟩ = true := by
  obtain ⟨ls, hls⟩ := isB_is hsn
  obtain ⟨_, ⟨ht1, ht2⟩, ⟨hl1, hl2⟩, _, _, hz⟩ := set_first hs h0
  have a1 := (zon_facts hz).1
  have hSg := sg_head (T := x.t.toNat) (CC := (lessS x.o.data.toList).toNat) (TL := x.l.toNat) (UN := un.toNat) (FR := fr.toNat) (TG := tagS (pubS kf km ke ks)) (PW := sigNum (sigHead kf km ke ks x fr un) sn.data.toList x L km.toNat ks.toNat) (by omega) (by omega) (fold_isN hls)
  have hc := hSg.check
  unfold zonB
  simp only [Bool.and_eq_true, decide_eq_true_eq]
  exact ⟨a1, trivial, hl1, hl2, hc⟩
def KeyOk (kf km ke ks : Int) : Prop := rightB kf km ke ks = true ∧ ∀ v, v < km.toNat → powS (powS v ks.toNat km.toNat) ke.toNat km.toNat = v
/-- what a key signs fits it -/
theorem fits_rounds {kf km ke ks : Int} {sn : ByteArray} {L L1 : List Rc} {x sg : Rc} {fr un now : Int} (ag : Int) (hk : KeyOk kf km ke ks) (hsn : isB sn = true) (htm : ¬ (fr < 0 ∨ un < fr ∨ 4294967295 < un)) (hs : setB L = true) (h0 : L[0]? = some x) (hw : withinS x.o.data.toList sn.data.toList = true) (hsg : sg = ⟨x.o, 46, 1, x.l, ⟨(sigD kf km ke ks sn.data.toList x L fr un).toArray⟩⟩) (hp : L1.Perm L) :
    VerC (L1.map (markX ag)) sg (upper.upL sn.data.toList) (pubS kf km ke ks) now = if now < fr then 25 else if un < now then 25 else 0 := by
  obtain ⟨hall, hnd⟩ := set_facts hs h0
  obtain ⟨h1, e1⟩ : ∃ h1, L1[0]? = some h1 := by
    cases L1 with
    | nil => rw [← hp.nil_eq] at h0; simp at h0
    | cons y r => exact ⟨y, rfl⟩
  have m1 : h1 ∈ L := hp.mem_iff.1 (List.mem_of_getElem? e1)
  obtain ⟨z1, t1, q1, f1⟩ := one_facts (hall h1 m1)
  have zx := (one_facts (hall x (List.mem_of_getElem? h0))).1
  obtain ⟨lx, hx⟩ := isB_is (zon_facts zx).1
  obtain ⟨l1, hl1⟩ := isB_is (zon_facts z1).1
  obtain ⟨lsn, hlsn⟩ := isB_is hsn
  have hu1 : IsN (markX ag h1).o.data.toList (l1.map upper.upL) := up_isN hl1
  have ef : foldS (markX ag h1).o.data.toList = foldS x.o.data.toList := (fold_up hl1).trans (equal_fold f1)
  have hless := less_eq hu1 hx ef
  have hset : setB (L1.map (markX ag)) = true := by
    refine set_back (h := markX ag h1) (by rw [List.getElem?_map, e1]; rfl) (fun y hy => ?_) (by rw [mark_fold]; exact (hp.map foldX).nodup_iff.2 hnd)
    obtain ⟨y0, hy0, rfl⟩ := List.mem_map.1 hy
    obtain ⟨zy, ty, qy, fy⟩ := one_facts (hall y0 (hp.mem_iff.1 hy0))
    obtain ⟨ly, hly⟩ := isB_is (zon_facts zy).1
    refine one_back (zon_mark ag zy) ty (by show y0.t = h1.t; rw [qy, q1]) (equal_of (up_isN hly) hu1 ?_)
    rw [ef]
    exact (fold_up hly).trans (equal_fold fy)
  refine fits (L := L) (L' := L1.map (markX ag)) (h := x) (h' := markX ag h1) hk.1 hsn htm hs h0 hk.2 (by rw [hsg]) (by rw [hsg]; exact sig_zon hk.1 hsn hs h0) (by rw [hsg]) hset (by rw [List.getElem?_map, e1]; rfl) q1 (by rw [mark_fold]; exact sorted_perm (hp.map foldX)) ?_ ?_ ?_ ?_ ?_
  · rw [hsg]; exact equal_of hx hu1 ef.symm
  · exact within_eq hx hu1 hlsn (fold_isN hlsn) ef.symm (fold_fold hlsn).symm hw
  · rw [hless]; omega
  · rw [← hless, own_self, ef]
  · exact equal_of (up_isN hlsn) (fold_isN hlsn) ((fold_up hlsn).trans (fold_fold hlsn).symm)
theorem key_ok {p q e f : Int} {d : Nat} (hg : newKey.GoodK p q e f) (hi : keysP.Inv e.toNat ((p.toNat - 1) * (q.toNat - 1)) d) : KeyOk f (p * q) e (d : Int) := by
  obtain ⟨g1, g2, g3, g4, g5, g6, g7, g8, g9, g10, g11, g12⟩ := hg
  obtain ⟨i1, i2⟩ := hi
  obtain ⟨P, rfl⟩ : ∃ P : Nat, p = P := ⟨p.toNat, by omega⟩
  obtain ⟨Q, rfl⟩ : ∃ Q : Nat, q = Q := ⟨q.toNat, by omega⟩
  obtain ⟨E, rfl⟩ : ∃ E : Nat, e = E := ⟨e.toNat, by omega⟩
  simp only [Int.toNat_natCast] at *
  have hm : ((P : Int) * (Q : Int)) = ((P * Q : Nat) : Int) := by rw [Int.natCast_mul]
  rw [hm] at g3 g5 ⊢
  have hlt : (P - 1) * (Q - 1) ≤ P * Q := Nat.mul_le_mul (by omega) (by omega)
  have hd0 : 1 ≤ d := by
    rcases Nat.eq_zero_or_pos d with h | h
    · subst h
      rw [Nat.mul_zero, Nat.zero_mod] at i2
      by_cases h1 : (P - 1) * (Q - 1) = 1
      · have h2 : P - 1 = 1 ∧ Q - 1 = 1 := ⟨Nat.eq_one_of_mul_eq_one_right h1, Nat.eq_one_of_mul_eq_one_left h1⟩
        exact absurd (show (P : Int) = Q by omega) g4
      · rw [Nat.mod_eq_of_lt (by omega)] at i2; omega
    · exact h
  refine ⟨?_, fun v hv => ?_⟩
  · unfold right.rightB right.someB
    simp only [Bool.and_eq_true, Bool.or_eq_true, beq_iff_eq, decide_eq_true_eq]
    omega
  · rw [Int.toNat_natCast] at hv ⊢
    rw [Int.toNat_natCast, Int.toNat_natCast]
    exact rsaP.rsa g10 g11 (by omega) i2 hv
theorem prime_small {n : Nat} (h2 : 2 ≤ n) (hn : n < 289) (h : ∀ j, j < 17 → 2 ≤ j → n % j ≠ 0) : keysP.PrimeP n := by
  refine ⟨h2, fun j hj hjj => ?_⟩
  by_cases hl : j < 17
  · exact h j hl hj
  · have : 17 * 17 ≤ j * j := Nat.mul_le_mul (by omega) (by omega)
    omega
theorem good_own {f : Int} (hf : f = 256 ∨ f = 257) : newKey.GoodK 251 263 3 f :=
  ⟨by decide, by decide, by decide, by decide, by decide, by decide, by decide, by decide, hf, prime_small (by decide) (by decide) (by decide), prime_small (by decide) (by decide) (by decide), by decide⟩
theorem own_d {d : Nat} (h : keysP.Inv (3 : Int).toNat (((251 : Int).toNat - 1) * ((263 : Int).toNat - 1)) d) : d = 43667 := by
  obtain ⟨h1, h2⟩ := h
  have e1 : (3 : Int).toNat = 3 := rfl
  have e2 : (((251 : Int).toNat - 1) * ((263 : Int).toNat - 1)) = 65500 := rfl
  rw [e2] at h1
  rw [e1, e2] at h2
  omega
end Go.Proofs.YtflijhodlimjoaaGreat.sroundsP
namespace Go.Proofs.YtflijhodlimjoaaGreat.sroundsM
open Go.RowKit Go.Proofs.YtflijhodlimjoaaGreat.kit Go.Proofs.YtflijhodlimjoaaGreat.timed Go.Proofs.YtflijhodlimjoaaGreat.nspec Go.Proofs.YtflijhodlimjoaaGreat.wireP Go.Proofs.YtflijhodlimjoaaGreat.wireM Go.Proofs.YtflijhodlimjoaaGreat.rows Go.Proofs.YtflijhodlimjoaaGreat.lnP Go.Proofs.YtflijhodlimjoaaGreat.right Go.Proofs.YtflijhodlimjoaaGreat.pub Go.Proofs.YtflijhodlimjoaaGreat.big Go.Proofs.YtflijhodlimjoaaGreat.refA Go.Proofs.YtflijhodlimjoaaGreat.rsplit Go.Proofs.YtflijhodlimjoaaGreat.sealS Go.Proofs.YtflijhodlimjoaaGreat.signP Go.Proofs.YtflijhodlimjoaaGreat.sroundsP
set_option linter.unusedVariables false

theorem set_flat {α : Type} (f : α → List Value) (m : Nat) (hf : ∀ x, (f x).length = m) : ∀ (L : List α) (k : Nat) (x y : α) (i : Nat) (v : Value), L[k]? = some x → i < m → f y = (f x).set i v → (L.flatMap f).set (k * m + i) v = (L.set k y).flatMap f
  | [], k, x, y, i, v, h, _, _ => by simp at h
  | z :: L, 0, x, y, i, v, h, hi, e => by
    simp at h; subst h
    rw [Nat.zero_mul, Nat.zero_add, List.flatMap_cons, List.set_append_left _ _ (by rw [hf]; exact hi), ← e, List.set_cons_zero, List.flatMap_cons]
  | z :: L, k + 1, x, y, i, v, h, hi, e => by
    have h' : L[k]? = some x := by simpa using h
    rw [List.flatMap_cons, show (k + 1) * m + i = (f z).length + (k * m + i) by rw [hf, Nat.succ_mul]; omega, List.set_append_right _ _ (by omega), Nat.add_sub_cancel_left, set_flat f m hf L k x y i v h' hi e, List.set_cons_succ, List.flatMap_cons]
structure LS (X Z lo g cap n : Nat) (kf km ke ks : Int) (sg : Rc) (w0 wr : World) (L1 : List Rc) : Prop where
  own : wr.ownsRow lo 34 5 (.slice (some ⟨g, 0, none⟩) n cap) n (L1.flatMap Rc.cells)
  key : wr.heap[X]? = some (.cells #[.int .i64 kf, .int .i64 km, .int .i64 ke, .int .i64 ks] 32)
  sig : wr.heap[Z]? = some (.cells #[.string sg.o, .int .i64 sg.t, .int .i64 sg.c, .int .i64 sg.l, .string sg.d] 34)
  bel : Below w0.heap.size w0 wr
  hX : X < lo
  hZ : Z < lo
  h0 : w0.heap.size ≤ lo
  hg : lo ≤ g
  len : L1.length = n
section
variable {X Z lo g cap n : Nat} {kf km ke ks : Int} {sg : Rc} {w0 wr w1 : World} {L1 : List Rc}
theorem LS.below (h : LS X Z lo g cap n kf km ke ks sg w0 wr L1) (hB : Below wr.heap.size wr w1) : LS X Z lo g cap n kf km ke ks sg w0 w1 L1 :=
  ⟨own_keptG h.own (fun k cur hk => (hB.block k (Array.getElem?_eq_some_iff.1 hk).1).trans hk), (hB.block X (Array.getElem?_eq_some_iff.1 h.key).1).trans h.key, (hB.block Z (Array.getElem?_eq_some_iff.1 h.sig).1).trans h.sig, h.bel.trans (hB.mono h.bel.size), h.hX, h.hZ, h.h0, h.hg, h.len⟩
theorem LS.grown (h : LS X Z lo g cap n kf km ke ks sg w0 wr L1) {L2 : List Rc} (ho : w1.ownsRow lo 34 5 (.slice (some ⟨g, 0, none⟩) n cap) n (L2.flatMap Rc.cells)) (hG : wr.grownBy w1 (some g)) (hl : L2.length = L1.length) : LS X Z lo g cap n kf km ke ks sg w0 w1 L2 :=
  ⟨ho, (hG.block X (Array.getElem?_eq_some_iff.1 h.key).1 (fun e => by have := Option.some.inj e; have := h.hX; have := h.hg; omega)).trans h.key, (hG.block Z (Array.getElem?_eq_some_iff.1 h.sig).1 (fun e => by have := Option.some.inj e; have := h.hZ; have := h.hg; omega)).trans h.sig, h.bel.grown hG h.bel.size (fun k hk => by cases hk; have := h.h0; have := h.hg; omega), h.hX, h.hZ, h.h0, h.hg, hl.trans h.len⟩
theorem LS.put (h : LS X Z lo g cap n kf km ke ks sg w0 wr L1) {k : Nat} (hk : k < n) (x : Rc) : LS X Z lo g cap n kf km ke ks sg w0 (wr.setCells g (k * 5) x.cells) (L1.set k x) := by
  obtain ⟨h1, h2⟩ := own_put Rc.cells 5 (fun _ => rfl) h.own k (by rw [h.len]; exact hk) x
  exact h.grown h1 h2 (List.length_set ..)
theorem LS.fld (h : LS X Z lo g cap n kf km ke ks sg w0 wr L1) {k i : Nat} {x y : Rc} {v : Value} (hx : L1[k]? = some x) (hi : i < 5) (e : y.cells = x.cells.set i v) : LS X Z lo g cap n kf km ke ks sg w0 (wr.setCell ⟨g, k * 5 + i, none⟩ v) (L1.set k y) := by
  obtain ⟨h1, h2⟩ := h.own.stored (k * 5 + i) v
  rw [set_flat Rc.cells 5 (fun _ => rfl) L1 k x y i v hx hi e] at h1
  exact h.grown h1 h2 (List.length_set ..)
theorem LS.at (h : LS X Z lo g cap n kf km ke ks sg w0 wr L1) {k : Nat} {x : Rc} (hx : L1[k]? = some x) :
    wr.cell? ⟨g, k * 5, none⟩ = some (.string x.o) ∧ wr.cell? ⟨g, k * 5 + 1, none⟩ = some (.int .i64 x.t) ∧ wr.cell? ⟨g, k * 5 + 2, none⟩ = some (.int .i64 x.c) ∧ wr.cell? ⟨g, k * 5 + 3, none⟩ = some (.int .i64 x.l) ∧ wr.cell? ⟨g, k * 5 + 4, none⟩ = some (.string x.d) ∧ ∀ j, wr.frozen? ⟨g, j, none⟩ = false := by
  have key : ∀ i u, x.cells[i]? = some u → wr.cell? ⟨g, k * 5 + i, none⟩ = some u := fun i u hu => by
    have := h.own.cells (g := g) rfl (k * 5 + i) u (flat_at Rc.cells 5 (fun _ => rfl) L1 k x i u hx hu)
    rw [addr_add] at this; exact this
  have hn : 1 ≤ n := by have := (List.getElem?_eq_some_iff.1 hx).1; have := h.len; omega
  obtain ⟨g', cap', e1, _, _, _, h3, _⟩ := own_at h.own hn
  cases e1
  exact ⟨key 0 _ rfl, key 1 _ rfl, key 2 _ rfl, key 3 _ rfl, key 4 _ rfl, h3⟩
theorem LS.caps (h : LS X Z lo g cap n kf km ke ks sg w0 wr L1) : n ≤ cap ∧ cap ≤ maxLen := by
  rcases h.own.2 with ⟨h1, _⟩ | ⟨g', cap', cur, h1, h2, h3, h4, h5, _⟩
  · cases h1
  · cases h1; exact ⟨h4, h5⟩
theorem LS.rd (h : LS X Z lo g cap n kf km ke ks sg w0 wr L1) (hn : 1 ≤ n) : RdC wr (some ⟨g, 0, none⟩) 5 (L1.map Rc.cells) := by
  have ho := h.own
  rw [← h.len] at ho
  obtain ⟨a', c', e, _, _, _, h2⟩ := rdc_own Rc.cells 5 (fun _ => rfl) (by rw [h.len]) h.own
  cases e
  exact h2
theorem LS.keys (h : LS X Z lo g cap n kf km ke ks sg w0 wr L1) : wr.cell? ⟨X, 0, none⟩ = some (.int .i64 kf) ∧ wr.cell? ⟨X, 1, none⟩ = some (.int .i64 km) ∧ wr.cell? ⟨X, 2, none⟩ = some (.int .i64 ke) ∧ wr.cell? ⟨X, 3, none⟩ = some (.int .i64 ks) ∧ wr.cell? ⟨Z, 0, none⟩ = some (.string sg.o) ∧ wr.cell? ⟨Z, 1, none⟩ = some (.int .i64 sg.t) ∧ wr.cell? ⟨Z, 2, none⟩ = some (.int .i64 sg.c) ∧ wr.cell? ⟨Z, 3, none⟩ = some (.int .i64 sg.l) ∧ wr.cell? ⟨Z, 4, none⟩ = some (.string sg.d) := by
  have h1 := h.key; have h2 := h.sig
  refine ⟨?_, ?_, ?_, ?_, ?_, ?_, ?_, ?_, ?_⟩ <;> first | (simp only [World.cell?, h1]; rfl) | (simp only [World.cell?, h2]; rfl)
end
theorem size_of (l : Bs) : (⟨l.toArray⟩ : ByteArray).size = l.length := List.size_toArray
theorem sig_ok {kf km ke ks : Int} {sn : ByteArray} {L : List Rc} {x : Rc} {fr un : Int} (hx : OkR x) : OkR ⟨x.o, 46, 1, x.l, ⟨(sigD kf km ke ks sn.data.toList x L fr un).toArray⟩⟩ := by
  refine ⟨hx.o, ?_⟩
  show (⟨(sigD kf km ke ks sn.data.toList x L fr un).toArray⟩ : ByteArray).size ≤ _
  rw [size_of]
  unfold sigD sigHead
  have := dfold.fold_short sn.data.toList
  simp only [List.length_append, head_len, bigS_len]
  omega
theorem up_size (s : ByteArray) : (⟨(upper.upL s.data.toList).toArray⟩ : ByteArray).size = s.size := by
  rw [size_of]; unfold upper.upL; rw [List.length_map, Array.length_toList]; rfl
theorem ok_mark {x : Rc} (ag : Int) (hx : OkR x) : OkR (markX ag x) :=
  ⟨by show (⟨(upper.upL x.o.data.toList).toArray⟩ : ByteArray).size ≤ _; rw [up_size]; exact hx.o, hx.d⟩
/-- a swap -/
theorem swap_perm {L : List Rc} {j : Nat} {x y : Rc} (h0 : L[0]? = some x) (hj : L[j]? = some y) (h : 1 ≤ j) : ((L.set 0 y).set j x).Perm L := by
  match L, j, h0, hj, h with
  | z :: r, i + 1, h0, hj, _ =>
    simp at h0; subst h0
    have hj' : r[i]? = some y := by simpa using hj
    obtain ⟨hl, e⟩ := List.getElem?_eq_some_iff.1 hj'
    rw [List.set_cons_zero, List.set_cons_succ]
    have e1 : r = r.take i ++ y :: r.drop (i + 1) := by
      rw [← e, ← List.drop_eq_getElem_cons hl, List.take_append_drop]
    have e2 : r.set i z = r.take i ++ z :: r.drop (i + 1) := by
      rw [List.set_eq_take_append_cons_drop, if_pos hl]
    rw [e2]
    conv => rhs; rw [e1]
    have p1 : (y :: (r.take i ++ z :: r.drop (i + 1))).Perm (y :: z :: (r.take i ++ r.drop (i + 1))) := List.Perm.cons _ List.perm_middle
    have p2 : (z :: (r.take i ++ y :: r.drop (i + 1))).Perm (z :: y :: (r.take i ++ r.drop (i + 1))) := List.Perm.cons _ List.perm_middle
    exact p1.trans ((List.Perm.swap ..).trans p2.symm)
/-- as far as k, laid anew -/
def upTo (ag : Int) (k : Nat) (L : List Rc) : List Rc := (L.take k).map (markX ag) ++ L.drop k
theorem upTo_zero (ag : Int) (L : List Rc) : upTo ag 0 L = L := by simp [upTo]
theorem upTo_all (ag : Int) (L : List Rc) : upTo ag L.length L = L.map (markX ag) := by simp [upTo]
theorem upTo_len (ag : Int) (k : Nat) (L : List Rc) : (upTo ag k L).length = L.length := by simp [upTo]; omega
theorem upTo_at {ag : Int} {k : Nat} {L : List Rc} {x : Rc} (h : L[k]? = some x) : (upTo ag k L)[k]? = some x := by
  have hl := (List.getElem?_eq_some_iff.1 h).1
  have e : ((L.take k).map (markX ag)).length = k := by simp; omega
  unfold upTo
  rw [List.getElem?_append_right (by omega), e]
  simpa using h
theorem upTo_succ {ag : Int} {k : Nat} {L : List Rc} {x : Rc} (h : L[k]? = some x) : (upTo ag k L).set k (markX ag x) = upTo ag (k + 1) L := by
  obtain ⟨hl, e0⟩ := List.getElem?_eq_some_iff.1 h
  have e : ((L.take k).map (markX ag)).length = k := by simp; omega
  unfold upTo
  rw [List.set_append_right _ _ (by omega), e, Nat.sub_self, List.drop_eq_getElem_cons hl, List.set_cons_zero, List.take_succ_eq_append_getElem hl, List.map_append, e0, List.append_assoc]
  rfl
def ownX (x : Rc) : Rc := ⟨⟨(upper.upL x.o.data.toList).toArray⟩, x.t, x.c, x.l, x.d⟩
theorem mark_yes {ag : Int} (h : 0 ≤ ag ∧ ag ≤ 2147483647) (x : Rc) : (markX ag x).cells = (ownX x).cells.set 3 (.int .i64 ag) := by
  unfold markX ageX ownX; rw [if_pos h]; rfl
theorem mark_no {ag : Int} (h : ¬ (0 ≤ ag ∧ ag ≤ 2147483647)) (x : Rc) : markX ag x = ownX x := by
  unfold markX ageX ownX; rw [if_neg h]
end Go.Proofs.YtflijhodlimjoaaGreat.sroundsM

/- data.b64's reader: walk. -/
import Derived.Test.YtkcpbjoolfojjaaGreatDoorP21
import Derived.Test.YtkcpbjoolfojjaaGreatDoorP22
namespace Go.Proofs.YtkcpbjoolfojjaaGreatDoor.wdK
open Go.RowKit Go.Proofs.YtkcpbjoolfojjaaGreatDoor.kit Go.Proofs.YtkcpbjoolfojjaaGreatDoor.nspec Go.Proofs.YtkcpbjoolfojjaaGreatDoor.fld Go.Proofs.YtkcpbjoolfojjaaGreatDoor.bits Go.Proofs.YtkcpbjoolfojjaaGreatDoor.bld Go.Proofs.YtkcpbjoolfojjaaGreatDoor.coded Go.Proofs.YtkcpbjoolfojjaaGreatDoor.rdP Go.Proofs.YtkcpbjoolfojjaaGreatDoor.rdQ Go.Proofs.YtkcpbjoolfojjaaGreatDoor.quadP Go.Proofs.YtkcpbjoolfojjaaGreatDoor.wd Go.Proofs.YtkcpbjoolfojjaaGreatDoor.wdA Go.Proofs.YtkcpbjoolfojjaaGreatDoor.wdB Go.Proofs.YtkcpbjoolfojjaaGreatDoor.wdC Go.Proofs.YtkcpbjoolfojjaaGreatDoor.wdD Go.Proofs.YtkcpbjoolfojjaaGreatDoor.wdE Go.Proofs.YtkcpbjoolfojjaaGreatDoor.wdF Go.Proofs.YtkcpbjoolfojjaaGreatDoor.wdG
set_option linter.unusedVariables false

/-- a character's number of 64, or -1 -/
def sexI (c : UInt8) : Int := match val64 c with
  | some x => (x : Int)
  | none => -1
theorem sex_idx (c : UInt8) : Lib.indexByte runhex.al64 c = sexI c := by
  have h1 := runhex.val64_same c
  have h2 := spread.idx_lt runhex.al64 c
  unfold spread.valA at h1
  unfold sexI
  rw [← h1]
  by_cases h : Lib.indexByte runhex.al64 c < 0
  · rw [if_pos h]; show _ = (-1 : Int); omega
  · rw [if_neg h]; show _ = (((Lib.indexByte runhex.al64 c).toNat : Nat) : Int); omega
theorem sex_cases (c : UInt8) : (∃ x : Nat, val64 c = some x ∧ x < 64 ∧ sexI c = (x : Int)) ∨ (val64 c = none ∧ sexI c = -1) := by
  unfold sexI
  cases h : val64 c with
  | none => exact .inr ⟨rfl, rfl⟩
  | some x => exact .inl ⟨x, rfl, val64_lt h, rfl⟩
set_option maxRecDepth 100000 in
set_option maxHeartbeats 1000000 in
theorem sextet_is (c : UInt8) (w : World) : Calls Tryz.prog 177 #[.int .u8 (c.toNat : Int)] w fun e w' => e = .returned (.int .i64 (sexI c)) ∧ w = w' := by
  have CI := Lib.hid (fun w => Tryz.strings_IndexByte ⟨runhex.al64.toArray⟩ (c.toNat : Int) w)
  have HS := Lib.hid (sex_idx c)
  have hcc : (c.toNat : Int).toNat.toUInt8 = c := by simp
  have hc := byte_lt c
  simp only [hcc] at CI
  rw [HS.out] at CI
  clear hcc
  unfold runhex.al64 at CI
  go_enter Tryz.func177, Tryz.ntmps177
  go_wp2_with fail
  refine (CI.out _).mono ?_
  rintro e w1 ⟨rfl, hw⟩
  go_wp2_with fail
  go_ret
  exact ⟨rfl, rfl⟩
set_option maxRecDepth 100000 in
set_option maxHeartbeats 1000000 in
theorem clo_is (G : Nat) (k : Int) (w : World) (hG : w.cell? ⟨G, 0, none⟩ = some (.int .i64 k)) : Calls Tryz.prog 176 #[.pointer (some ⟨G, 0, none⟩)] w fun e w' => e = faultE k 2 ∧ w = w' := by
  go_enter Tryz.func176, Tryz.ntmps176
  go_wp2_with fail
  exact ⟨rfl, rfl, rfl⟩
/-- how many '=' stand at the end -/
theorem pad_char {s : ByteArray} (h4 : 4 ≤ s.size) {p : Nat} (hp : p < 2) (hpp : p ≤ padN s.data.toList) (hq : s.size - 1 - p < s.size) : s[s.size - 1 - p]'hq = 61 ↔ p < padN s.data.toList := by
  have l1 := runhex.last_at (s := s) (by omega)
  have l2 := runhex.last_at2 (s := s) (by omega)
  unfold padN at hpp ⊢
  rw [l1, l2] at hpp ⊢
  simp only [Option.some.injEq] at hpp ⊢
  have hp01 : p = 0 ∨ p = 1 := by omega
  rcases hp01 with rfl | rfl
  · simp only [Nat.sub_zero]
    by_cases h1 : s[s.size - 1] = 61
    · rw [if_pos h1]; simp only [h1, true_iff]; split <;> omega
    · rw [if_neg h1]; simp only [h1, false_iff]; omega
  · by_cases h1 : s[s.size - 1] = 61
    · rw [if_pos h1]
      show s[s.size - 2] = 61 ↔ _
      by_cases h2 : s[s.size - 2] = 61
      · rw [if_pos h2]; simp only [h2, true_iff]; omega
      · rw [if_neg h2]; simp only [h2, false_iff]; omega
    · rw [if_neg h1] at hpp; omega
theorem take_cons (s : ByteArray) (k j : Nat) (hj : j < 4) (h : k + 4 ≤ s.size) : ((s.data.toList.drop k).take 4).drop j = s[k + j] :: ((s.data.toList.drop k).take 4).drop (j + 1) := by
  have hl : j < ((s.data.toList.drop k).take 4).length := by rw [List.length_take, List.length_drop, size_len]; omega
  rw [List.drop_eq_getElem_cons hl]
  congr 1
  rw [List.getElem_take, List.getElem_drop]
  rfl
theorem four_list (s : ByteArray) (k : Nat) (h : k + 4 ≤ s.size) : (s.data.toList.drop k).take 4 = [s[k], s[k + 1], s[k + 2], s[k + 3]] ∧ s.data.toList.drop k = s[k] :: s[k + 1] :: s[k + 2] :: s[k + 3] :: s.data.toList.drop (k + 4) := by
  have e : s.data.toList.drop k = s[k] :: s[k + 1] :: s[k + 2] :: s[k + 3] :: s.data.toList.drop (k + 4) := by
    rw [drop_cons s k (by omega), drop_cons s (k + 1) (by omega), drop_cons s (k + 2) (by omega), drop_cons s (k + 3) (by omega)]
  exact ⟨by rw [e]; rfl, e⟩
theorem pow64 {v x i : Nat} (h : v < 64 ^ i) (hx : x < 64) : v * 64 + x < 64 ^ (i + 1) := by rw [Nat.pow_succ]; omega
theorem pow64_4 {v i : Nat} (h : v < 64 ^ i) (hi : i ≤ 4) : v < 16777216 := by
  have h1 : 64 ^ i ≤ 64 ^ 4 := Nat.pow_le_pow_right (by omega) hi
  have h2 : (64 : Nat) ^ 4 = 16777216 := by decide
  omega
theorem or6 {x y : Int} (hx₀ : 0 ≤ x) (hx : x % 64 = 0) (hx₁ : x < 2147483648) (h₀ : 0 ≤ y) (h₁ : y < 64) : bits .or .i64 x y = x + y :=
  bits_join .i64 31 (by decide) wraps31 6 x y hx₀ hx hx₁ h₀ h₁ (by omega)
theorem quads_len (p : Nat) : ∀ (n : Nat) (s d : Bs), s.length ≤ n → quadS p s = some d → d.length ≤ s.length := by
  intro n
  induction n with
  | zero =>
    intro s d hn h
    have : s = [] := List.eq_nil_of_length_eq_zero (by omega)
    subst this; simp [quadS] at h
  | succ n ih =>
    intro s d hn h
    match s, h with
    | [], h => simp [quadS] at h
    | [_], h => simp [quadS] at h
    | [_, _], h => simp [quadS] at h
    | [_, _, _], h => simp [quadS] at h
    | [a, b, c, e], h =>
      rw [quadS] at h
      unfold lastQ at h
      split at h
      · split at h
        · split at h
          · cases h; simp
          · cases h
        · split at h
          · split at h
            · split at h
              · cases h; simp
              · cases h
            · split at h
              · cases h; simp [three]
              · cases h
          · cases h
      · cases h
    | a :: b :: c :: e :: f :: r, h =>
      cases hg : grpS 3 [a, b, c, e] with
      | none =>
        have := quad_bad (A := []) (R := some d) (by rw [h]; rfl) hg
        cases this
      | some B =>
        have h2 := quad_go (A := []) (R := some d) (by rw [h]; rfl) hg
        obtain ⟨u, hu, hd⟩ := Option.map_eq_some_iff.1 h2
        have h3 := ih (f :: r) u (by simp only [List.length_cons] at hn ⊢; omega) hu
        have hB : B.length ≤ 3 := by
          unfold grpS at hg
          split at hg
          · cases hg
          · split at hg
            · cases hg; rw [List.length_take]; omega
            · cases hg
        rw [← hd, List.length_append, List.nil_append]
        simp only [List.length_cons] at h3 ⊢; omega
theorem b64_size {s d : Bs} (h : unb64S s = some d) : d.length ≤ s.length := by
  by_cases h0 : s = [] ∨ s.length % 4 ≠ 0
  · unfold unb64S at h; rw [if_pos h0] at h; cases h
  · rw [unb64_quads (fun e => h0 (.inl e)) (by omega)] at h
    exact quads_len _ _ _ _ (Nat.le_refl _) h
theorem quad_ne (p : Nat) (s : Bs) : quadS p s ≠ some [] := by
  intro h
  match s, h with
  | [], h => simp [quadS] at h
  | [_], h => simp [quadS] at h
  | [_, _], h => simp [quadS] at h
  | [_, _, _], h => simp [quadS] at h
  | [a, b, c, e], h =>
    rw [quadS] at h
    unfold lastQ at h
    split at h
    · split at h
      · split at h <;> cases h
      · split at h
        · split at h
          · split at h <;> cases h
          · split at h
            · simp [three] at h
            · cases h
        · cases h
    · cases h
  | a :: b :: c :: e :: f :: r, h =>
    cases hg : grpS 3 [a, b, c, e] with
    | none =>
      have := quad_bad (A := []) (R := some []) (by rw [h]; rfl) hg
      cases this
    | some B =>
      have h2 := quad_go (A := []) (R := some []) (by rw [h]; rfl) hg
      obtain ⟨u, hu, hd⟩ := Option.map_eq_some_iff.1 h2
      have hB : B ≠ [] := by
        rw [grp_full] at hg
        split at hg
        · cases hg; simp [three]
        · cases hg
      rw [List.nil_append] at hd
      exact hB (List.append_eq_nil_iff.1 hd).1
theorem b64_ne (s : Bs) : unb64S s ≠ some [] := by
  intro h
  by_cases h0 : s = [] ∨ s.length % 4 ≠ 0
  · unfold unb64S at h; rw [if_pos h0] at h; cases h
  · rw [unb64_quads (fun e => h0 (.inl e)) (by omega)] at h
    exact quad_ne _ _ h
section
variable (C : Nat) (a : Option Addr) (L : List Wo) (cap : Nat) (O : ByteArray) (k0 : Nat) (w : World) (h : AtW w C a L cap O k0) (org : Bs)
include h
set_option maxRecDepth 100000 in
set_option maxHeartbeats 32000000 in
theorem b64_read : Calls Tryz.prog 173 #[.agg #[], .pointer (some ⟨C, 0, none⟩)] w (Post C a L cap O w (fieldR org L k0 .b64)) := by
  have CR := Lib.hid (fun wx hx => rest_any C a L cap O k0 wx hx)
  unfold PostR at CR
  have h1 := at_alloc h (boxO 90)
  have HE0 := Lib.hid (EffW.alloc C w (boxO 90))
  obtain ⟨W1, hW1⟩ : ∃ W1, w.alloc (boxO 90) = W1 := ⟨_, rfl⟩
  rw [hW1] at h1 HE0
  have HW1 := Lib.hid hW1
  have H1 := Lib.hid h1
  have hrl := fun d hd => rest_len (L.drop k0) k0 d hd (fun x hx => h.sm x (List.mem_of_mem_drop hx))
  have hfew := h.few
  have hk0 : (k0 : Int) ≤ 1048576 := by have := h.kl; omega
  cases hr : restW (L.drop k0) k0 with
  | error j =>
    rw [hr] at CR
    have hR : fieldR org L k0 .b64 = .error (j, 2) := by show restR L k0 unb64S = _; unfold restR; rw [hr]
    rw [hR]
    clear hr h h1 hrl hW1 hR
    go_enter Tryz.func173, Tryz.ntmps173
    go_upto_region 1 with fail
    change Code.wp _ _ _ _ (w.alloc (boxO _))
    rw [HW1.out]
    go_wp2_with fail
    refine (CR.out _ H1.out).mono ?_
    rintro e w2 ⟨he, rfl⟩
    unfold faultE
    go_wp2_with fail
    exact ⟨rfl, post_err (x := (j, 2)) (HE0.out.trans he)⟩
  | ok s =>
    rw [hr] at CR
    have hsl := hrl s hr
    rw [List.length_drop] at hsl
    have h3 : 1048576 * (L.length - k0) ≤ 1048576 * 1048576 := Nat.mul_le_mul_left _ (by omega)
    obtain ⟨S, hS⟩ : ∃ S : ByteArray, (⟨s.toArray⟩ : ByteArray) = S := ⟨_, rfl⟩
    have hSd : S.data.toList = s := by rw [← hS]
    have hSs : S.size ≤ 1099511627776 := by rw [← hS, mk_size]; omega
    simp only [hS] at CR
    have HNO : Hid (unb64S S.data.toList = none → fieldR org L k0 .b64 = .error ((k0 : Int), 2)) := Lib.hid (fun e => by
      show restR L k0 unb64S = _; unfold restR; rw [hr, ← hSd]; simp only [e, someR])
    have HYES : Hid (∀ d, d ≠ [] → unb64S S.data.toList = some d → fieldR org L k0 .b64 = .ok (d, L.length)) := Lib.hid (fun d hd e => by
      show restR L k0 unb64S = _; unfold restR; rw [hr, ← hSd]; simp only [e, someR, if_neg hd])
    have HMT : Hid (unb64S S.data.toList ≠ some []) := Lib.hid (b64_ne _)
    obtain ⟨PST, hPST⟩ : ∃ r, fieldR org L k0 .b64 = r := ⟨_, rfl⟩
    rw [hPST] at HNO HYES
    rw [hPST]
    clear hr h h1 hrl hsl h3 hS hSd hW1 hPST
    by_cases hbad : S.size = 0 ∨ S.size % 4 ≠ 0
    · have hP := HNO.out (by unfold unb64S; rw [if_pos]; rcases hbad with e | e
                             · exact .inl (List.eq_nil_of_length_eq_zero (by rw [size_len]; exact e))
                             · exact .inr (by rw [size_len]; exact e))
      subst hP
      have hbb : S.toList.isEmpty = true ∨ (S.toList.isEmpty = false ∧ (((S.size : Int) % 4) == 0) = false) := by
        by_cases h0 : S.size = 0
        · left; rw [empty_b]; exact decide_eq_true (List.eq_nil_of_length_eq_zero (by rw [size_len]; exact h0))
        · right
          refine ⟨by rw [empty_b]; exact decide_eq_false (fun e => h0 (by rw [← size_len, e]; rfl)), ?_⟩
          rw [beq_eq_false_iff_ne]; omega
      clear hbad
      rcases hbb with hem | ⟨hem, hm4⟩
      all_goals
        try (have hm4n : (((S.size : Int) % 4) != 0) = true := by rw [bne, hm4]; rfl)
        go_enter Tryz.func173, Tryz.ntmps173
        go_upto_region 1 with fail
        change Code.wp _ _ _ _ (w.alloc (boxO _))
        rw [HW1.out]
        go_wp2_with fail
        refine (CR.out _ H1.out).mono ?_
        rintro e w2 ⟨he, rfl, hA⟩
        have hB2 := (Below.refl w2.heap.size w2).alloc (Nat.le_refl _) (.cells #[.int .i64 (k0 : Int)] 3)
        have HE2 := Lib.hid (he.trans (EffW.of_below hB2))
        have hGc : (w2.alloc (.cells #[.int .i64 (k0 : Int)] 3)).cell? ⟨w2.heap.size, 0, none⟩ = some (.int .i64 (k0 : Int)) := by simp only [World.cell?, heap_alloc_new]; rfl
        have CC := Lib.hid (clo_is w2.heap.size (k0 : Int) _ hGc)
        clear he hA hB2
        go_wp2_with fail
        refine CC.out.mono ?_
        rintro e w4 ⟨rfl, rfl⟩
        unfold faultE
        go_wp2_with fail
        exact ⟨rfl, post_err (x := ((k0 : Int), 2)) (HE0.out.trans HE2.out)⟩
    · have h4 : 4 ≤ S.size := by omega
      have h4m : S.size % 4 = 0 := by omega
      have hem : S.toList.isEmpty = false := by rw [empty_b]; exact decide_eq_false (fun e => by have := congrArg List.length e; rw [size_len, List.length_nil] at this; omega)
      have hm4 : (((S.size : Int) % 4) == 0) = true := by rw [beq_iff_eq]; omega
      have hm4n : (((S.size : Int) % 4) != 0) = false := by rw [bne, hm4]; rfl
      obtain ⟨pad, hpad⟩ : ∃ pad, padN S.data.toList = pad := ⟨_, rfl⟩
      have hp2 : pad ≤ 2 := by rw [← hpad]; exact pad_le _
      obtain ⟨R, hR⟩ : ∃ R, quadS pad S.data.toList = R := ⟨_, rfl⟩
      have HRR : Hid (unb64S S.data.toList = R) := Lib.hid (by rw [unb64_quads (fun e => by have := congrArg List.length e; rw [size_len, List.length_nil] at this; omega) (by rw [size_len]; omega), hpad, hR])
      have HPC : Hid (∀ p q : Nat, p < 2 → p ≤ pad → S.size - 1 - p = q → ∀ hq : q < S.size, (S[q]'hq = 61 ↔ p < pad)) := Lib.hid (fun p q h1 h2 e hq => by subst e; rw [← hpad]; exact pad_char h4 h1 (by rw [hpad]; exact h2) hq)
      have HR0 : Hid ((quadS pad (S.data.toList.drop 0)).map ([] ++ ·) = R) := Lib.hid (by rw [← hR, List.drop_zero]; cases quadS pad S.data.toList <;> simp)
      have HRL : Hid (∀ d, R = some d → d.length ≤ 1099511627776) := Lib.hid (fun d e => by have := b64_size (HRR.out.trans e); rw [size_len] at this; omega)
      have HM4 := Lib.hid h4m
      clear hbad hpad hR h4m
      go_enter Tryz.func173, Tryz.ntmps173
      go_upto_region 1 with fail
      change Code.wp _ _ _ _ (w.alloc (boxO _))
      rw [HW1.out]
      go_wp2_with fail
      refine (CR.out _ H1.out).mono ?_
      rintro e w2 ⟨he, rfl, hA⟩
      have hB2 := (Below.refl w2.heap.size w2).alloc (Nat.le_refl _) (.cells #[.int .i64 (k0 : Int)] 3)
      have HE2 := Lib.hid (he.trans (EffW.of_below hB2))
      have HA2 := Lib.hid (hA.below hB2)
      have hGc : (w2.alloc (.cells #[.int .i64 (k0 : Int)] 3)).cell? ⟨w2.heap.size, 0, none⟩ = some (.int .i64 (k0 : Int)) := by simp only [World.cell?, heap_alloc_new]; rfl
      have hGl : w2.heap.size < (w2.alloc (.cells #[.int .i64 (k0 : Int)] 3)).heap.size := by rw [World.size_alloc]; omega
      clear he hA hB2
      go_upto_region 5 with fail
      change Code.wp _ _ _ _ (w2.alloc (.cells #[.int .i64 (k0 : Int)] 3))
      obtain ⟨W3, hW3⟩ : ∃ W3, w2.alloc (.cells #[.int .i64 (k0 : Int)] 3) = W3 := ⟨_, rfl⟩
      obtain ⟨G, hG⟩ : ∃ G, w2.heap.size = G := ⟨_, rfl⟩
      rw [hW3] at HE2 HA2 hGc hGl ⊢
      rw [hG] at hGc hGl ⊢
      have HGC := Lib.hid hGc
      clear hW3 hG hGc
      go_wp2_with fail
      go_loopg [8] 3 (fun gas pv wr => ∃ p : Nat, pv = .int .i64 (p : Int) ∧ p ≤ 2 ∧ p + gas = 3 ∧ Hid (p ≤ pad) ∧ wr = W3)
      case atStart => exact ⟨0, rfl, by omega, by omega, Lib.hid (by omega), rfl⟩
      case round =>
        obtain ⟨p, rfl, hp, hpg, HPP, hwr⟩ := hrel
        subst hwr
        have HPG := Lib.hid hpg; clear hpg
        have key : (p < 2 ∧ p < pad) ∨ ((p = 2 ∨ ¬ p < pad) ∧ p = pad) := by have := HPP.out; omega
        rcases key with ⟨hp2', hlt⟩ | ⟨hex, hpe⟩
        · obtain ⟨q, hq⟩ : ∃ q, S.size - 1 - p = q := ⟨_, rfl⟩
          have hqs : q < S.size := by omega
          have hqv : Value.int .i64 ((S.size : Int) - 1 - (p : Int)) = Value.int .i64 (q : Int) := by congr 1; omega
          have h61 := (HPC.out p q hp2' HPP.out hq hqs).2 hlt
          have hb61 : ((S[q].toNat : Int) == 61) = true := by rw [h61]; rfl
          have hqi : (q : Int) < (S.size : Int) := by omega
          have HLT := Lib.hid hlt
          have hpl : (p : Int) < 2 := by omega
          clear hq h61 hlt
          go_wp2_with fail
          have hpg := HPG.out
          go_roundg (gk - 1)
          case rel => exact ⟨p + 1, by go_num, by omega, by omega, Lib.hid (by have := HLT.out; omega), rfl⟩
          case measure => omega
        · subst hpe
          have hfb := Lib.hid (Lib.fresh_isBuilder 52 5 wr)
          have hBa := Lib.hid ((Below.refl wr.heap.size wr).alloc (Nat.le_refl _) (.cells #[.pointer none, .slice none 0 0] 52))
          have hleave : (p = 2) ∨ (p < 2 ∧ ∃ q, S.size - 1 - p = q ∧ q < S.size) := by
            rcases Nat.lt_or_ge p 2 with h | h
            · exact .inr ⟨h, _, rfl, by omega⟩
            · left; omega
          have HHI : Hid (p ≤ 2) := Lib.hid hp
          rcases hleave with hp2' | ⟨hp2', q, hq, hqs⟩
          · have hpl : 2 ≤ (p : Int) := by omega
            clear hp2' hex HPC HPP HPG hp hp2
            go_wp2_with fail
            have HPL := Lib.hid hpl
            clear hpl
            obtain ⟨W4, rfl⟩ : ∃ W4, W4 = wr := ⟨_, rfl⟩
            have hp2 := HHI.out
            go_loopg [10, 11, 12, 13, 14, 15, 60] (S.size + 1) (fun gas kv _ _ _ _ _ _ wx => ∃ (k : Nat) (A : Bs), kv = .int .i64 (k : Int) ∧ k ≤ S.size ∧ Hid (k % 4 = 0) ∧ S.size < k + gas ∧ A.length ≤ k ∧ Hid ((k = S.size ∧ R = some A) ∨ (k < S.size ∧ (quadS p (S.data.toList.drop k)).map (A ++ ·) = R)) ∧ Hid (Bld W4.heap.size W4.heap.size A wx) ∧ Hid (Below W4.heap.size W4 wx))
            case atStart => exact ⟨0, [], rfl, by omega, Lib.hid rfl, by omega, by simp, Lib.hid (.inr ⟨by omega, HR0.out⟩), hfb, hBa⟩
            case round =>
              clear hfb hBa
              obtain ⟨k, A, rfl, hk, HK4, hkg, hAl, HW, HB, HE⟩ := hrel
              have HKG := Lib.hid hkg; clear hkg
              by_cases hks : k < S.size
              · have hW := HW.out.resolve_left (fun e => by omega)
                have h4k : k + 4 ≤ S.size := by have := HK4.out; have := HM4.out; omega
                obtain ⟨l4, ld⟩ := four_list S k h4k
                have hki : (k : Int) < (S.size : Int) := by omega
                by_cases hlast : k + 4 = S.size
                · have hbl : (((k : Int) + 4) == (S.size : Int)) = true := by rw [beq_iff_eq]; omega
                  have hqe : (quadS p ((S.data.toList.drop k).take 4)).map (A ++ ·) = R := by
                    rw [List.take_of_length_le (by rw [List.length_drop, size_len]; omega)]; exact hW.2
                  have hge := hqe
                  rw [l4] at hge
                  have hg2 := quad_end hp2 hge
                  rw [← l4] at hg2
                  have HL := Lib.hid hlast
                  have HGB0 : Hid (grpS (3 - p) ((S.data.toList.drop k).take 4) = none → R = none) := Lib.hid (fun e => by rw [← hg2, e]; rfl)
                  have HGG0 : Hid (∀ B, grpS (3 - p) ((S.data.toList.drop k).take 4) = some B → (k + 4 = S.size ∧ R = some (A ++ B)) ∨ (k + 4 < S.size ∧ (quadS p (S.data.toList.drop (k + 4))).map ((A ++ B) ++ ·) = R)) := Lib.hid (fun B e => .inl ⟨HL.out, by rw [← hg2, e]; rfl⟩)
                  clear hW l4 ld hlast hqe hge hg2
                  have hp012 : p = 0 ∨ p = 1 ∨ p = 2 := by omega
                  rcases hp012 with hp0 | hp1 | hp2'
                  · exfalso; have := HPL.out; omega
                  · exfalso; have := HPL.out; omega
                  · as_aux_lemma =>
                    have HNV : Hid (Value.int .i64 (3 - (p : Int)) = Value.int .i64 1) := Lib.hid (by congr 1; omega)
                    rw [show 3 - p = 1 from by omega] at HGB0 HGG0
                    have HGB := HGB0; have HGG := HGG0
                    clear HGB0 HGG0 hp2'
                    obtain ⟨RA, hRA⟩ : ∃ RA, accS 1 0 0 ((S.data.toList.drop k).take 4) = RA := ⟨_, rfl⟩
                    have HRA0 : Hid (accS 1 0 0 (((S.data.toList.drop k).take 4).drop 0) = RA) := Lib.hid hRA
                    have HGRP : Hid (grpS 1 ((S.data.toList.drop k).take 4) = finG 1 RA) := Lib.hid (by rw [grp_fin, hRA])
                    clear hRA
                    go_wp2_with fail
                    try rw [HNV.out]
                    obtain ⟨wo, rfl⟩ : ∃ wo, wo = wr := ⟨_, rfl⟩
                    obtain ⟨go, rfl⟩ : ∃ go, go = gk := ⟨_, rfl⟩
                    go_loopg [11, 13, 14, 60] 5 (fun gas vv _ _ jv wy => ∃ (j v : Nat), jv = .int .i64 (j : Int) ∧ vv = .int .i64 (v : Int) ∧ j ≤ 4 ∧ j + gas = 5 ∧ v < 16777216 ∧ Hid (v < 64 ^ j) ∧ Hid (accS 1 j v (((S.data.toList.drop k).take 4).drop j) = RA) ∧ wy = wo)
                    case atStart => exact ⟨0, 0, rfl, rfl, by omega, by omega, by omega, Lib.hid (by simp), HRA0, rfl⟩
                    case round =>
                      obtain ⟨j, v, rfl, rfl, hj, hjg, hv, HV64, HAC, hwy⟩ := hrel
                      subst hwy
                      have HJG := Lib.hid hjg; clear hjg
                      by_cases hj4 : j < 4
                      · have hcons := take_cons S k j hj4 (by omega)
                        obtain ⟨i, hi⟩ : ∃ i, k + j = i := ⟨_, rfl⟩
                        have his : i < S.size := by omega
                        have hii : (i : Int) < (S.size : Int) := by omega
                        have hiv : Value.int .i64 ((k : Int) + (j : Int)) = Value.int .i64 (i : Int) := by congr 1; omega
                        have hc' : ∃ c, S[i] = c ∧ ((S.data.toList.drop k).take 4).drop j = c :: ((S.data.toList.drop k).take 4).drop (j + 1) := ⟨S[i], rfl, by rw [hcons]; congr 1; simp only [hi]⟩
                        obtain ⟨c, hc, hcl⟩ := hc'
                        have HC := Lib.hid hc
                        have hAC2 := HAC.out
                        rw [hcl] at hAC2
                        have HAC2 := Lib.hid hAC2
                        clear hcons hcl hAC2 hi
                        have hcb := byte_lt S[i]
                        by_cases hjn : j ≤ 1
                        · rcases sex_cases c with ⟨x, hx, hx64, hxn⟩ | ⟨hx, hxn⟩
                          · have HF := Lib.hid (acc_go HAC2.out hjn hx)
                            have HV64' := Lib.hid (pow64 HV64.out hx64)
                            have hV4 := pow64_4 HV64'.out (by omega)
                            obtain ⟨V, hV⟩ : ∃ V : Nat, v * 64 + x = V := ⟨_, rfl⟩
                            have HOR : Hid (Value.int .i64 (bits .or .i64 ((v : Int) * 64) (x : Int)) = Value.int .i64 (V : Int)) := Lib.hid (by rw [or6 (by omega) (by omega) (by omega) (by omega) (by omega)]; congr 1; omega)
                            rw [hV] at HF HV64' hV4
                            have HXN : Hid (sexI S[i] = (x : Int)) := Lib.hid (by rw [hc]; exact hxn)
                            have hx0 : ¬ (x : Int) < 0 := by omega
                            clear hx hxn hV hc
                            go_wp2_with (go_at_call 177; refine (sextet_is _ _).mono ?_; rintro e w5 ⟨rfl, rfl⟩; simp only [HXN.out])
                            rw [HOR.out]
                            have hjg := HJG.out
                            go_roundg (gk - 1)
                            case rel => exact ⟨j + 1, V, by go_num, rfl, by omega, by omega, hV4, HV64', HF, rfl⟩
                            case measure => omega
                          · have hn := acc_bad HAC2.out hjn hx
                            subst hn
                            have hP := HNO.out (HRR.out.trans (HGB.out HGRP.out))
                            subst hP
                            have HXN : Hid (sexI S[i] = -1) := Lib.hid (by rw [hc]; exact hxn)
                            have hGw : wr.cell? ⟨G, 0, none⟩ = some (.int .i64 (k0 : Int)) := (HE.out.cell (p := ⟨G, 0, none⟩) hGl).trans HGC.out
                            have CC := Lib.hid (clo_is G (k0 : Int) _ hGw)
                            clear hx hxn hc
                            go_wp2_with (go_at_call 177; refine (sextet_is _ _).mono ?_; rintro e w5 ⟨rfl, rfl⟩; simp only [HXN.out])
                            refine CC.out.mono ?_
                            rintro e w5 ⟨rfl, rfl⟩
                            unfold faultE
                            go_wp2_with fail
                            exact ⟨rfl, post_err (x := ((k0 : Int), 2)) (HE0.out.trans (HE2.out.trans (EffW.of_below HE.out)))⟩
                        · have HF := Lib.hid (acc_skip HAC2.out (by omega))
                          have HV64' := Lib.hid (pow64 (x := 0) HV64.out (by omega))
                          have hV4 := pow64_4 HV64'.out (by omega)
                          obtain ⟨V, hV⟩ : ∃ V : Nat, v * 64 = V := ⟨_, rfl⟩
                          have HOR : Hid (Value.int .i64 (bits .or .i64 ((v : Int) * 64) 0) = Value.int .i64 (V : Int)) := Lib.hid (by rw [or6 (by omega) (by omega) (by omega) (by omega) (by omega)]; congr 1; omega)
                          rw [Nat.add_zero, hV] at HV64' hV4
                          rw [hV] at HF
                          have hjn' : ¬ (j : Int) ≤ 1 := by omega
                          clear hV hc hjn
                          go_wp2_with fail
                          rw [HOR.out]
                          have hjg := HJG.out
                          go_roundg (gk - 1)
                          case rel => exact ⟨j + 1, V, by go_num, rfl, by omega, by omega, hV4, HV64', HF, rfl⟩
                          case measure => omega
                      · have hn : RA = some v := by
                          rw [← HAC.out, List.drop_eq_nil_of_le (by rw [List.length_take]; omega)]; rfl
                        subst hn
                        have CG := Lib.hid (fun (w : World) => big_any v 3 w (by omega) (by omega))
                        obtain ⟨B3, hB3⟩ : ∃ B3 : ByteArray, (⟨(big.bigS v 3).toArray⟩ : ByteArray) = B3 := ⟨_, rfl⟩
                        have hBd : B3.data.toList = big.bigS v 3 := by rw [← hB3]
                        have hBz : B3.size = 3 := by rw [← hB3, mk_size, big.bigS_len]
                        have hB3i : (3 : Int) ≤ (B3.size : Int) := by omega
                        have hB3j : (B3.size : Int) ≤ 3 := by omega
                        rw [hB3] at CG
                        have HBD := Lib.hid hBd; have HBZ := Lib.hid hBz
                        have hj4' : (4 : Int) ≤ (j : Int) := by omega
                        clear hB3 hBd hBz hj4
                        go_wp2_with fail
                        refine (CG.out _).mono ?_
                        rintro e w5 ⟨rfl, hB5⟩
                        have HE5 := Lib.hid (HE.out.trans (hB5.mono HE.out.size))
                        have HB5 := Lib.hid (bld_below HB.out hB5)
                        clear hB5
                        have hextn : (B3.extract 1 B3.size).data.toList = (big.bigS v 3).drop 1 := by rw [wdL.extract_list, HBD.out, HBZ.out, List.take_of_length_le (by rw [List.length_drop, big.bigS_len]; exact Nat.le_refl _)]
                        have hexth : (B3.extract 0 1).data.toList = (big.bigS v 3).take 1 := by rw [wdL.extract_list, HBD.out]; rfl
                        have HEX := Lib.hid hexth
                        by_cases hz : (big.bigS v 3).drop 1 = List.replicate (3 - 1) 0
                        · have hq : ((B3.extract 1 B3.size).toList == ((⟨#[0, 0, 0]⟩ : ByteArray).extract 1 3).toList) = true := by rw [Lib.toList_data, Lib.toList_data, hextn, hz]; rfl
                          have hqn : ((B3.extract 1 B3.size).toList != ((⟨#[0, 0, 0]⟩ : ByteArray).extract 1 3).toList) = false := by rw [bne, hq]; rfl
                          have hfin : finG 1 (some v) = some ((big.bigS v 3).take 1) := by unfold finG; exact if_pos hz
                          have HR2 := Lib.hid (HGG.out _ (HGRP.out.trans hfin))
                          clear hextn hexth hz hfin
                          go_upto_region 26 with fail
                          go_quiet (fail)
                          have HB6 := Lib.hid (bld_drewN HB5.out nq)
                          have HE6 : Hid (Below W4.heap.size W4 (w5.drewN nq)) := Lib.hid ⟨HE5.out.os, HE5.out.tape, HE5.out.output, HE5.out.size, HE5.out.block⟩
                          have hexs : (B3.extract 0 1).size ≤ 3 := by rw [ByteArray.size_extract]; omega
                          have HWS := Lib.hid (ws W4.heap.size W4.heap.size A (B3.extract 0 1) (w5.drewN nq) HB6.out (by omega) HE6.out.size)
                          have HXS := Lib.hid hexs
                          clear hexs
                          go_wp2_with fail
                          refine HWS.out.mono ?_
                          rintro e w6 ⟨rfl, hb6, hE6⟩
                          have hl6 : (A ++ (B3.extract 0 1).data.toList).length ≤ k + 4 := by rw [List.length_append, size_len]; have := HXS.out; omega
                          rw [HEX.out] at hb6 hl6
                          have HB7 := Lib.hid hb6; have HE7 := Lib.hid (HE6.out.trans hE6); have HL7 := Lib.hid hl6
                          clear hb6 hE6 hl6 hq hqn
                          go_wp2_with fail
                          have hkg := HKG.out
                          go_roundg (go - 1)
                          case rel => exact ⟨k + 4, _, by go_num, by omega, Lib.hid (by have := HK4.out; omega), by omega, HL7.out, HR2, HB7, HE7⟩
                          case measure => omega
                        · have hq : ((B3.extract 1 B3.size).toList == ((⟨#[0, 0, 0]⟩ : ByteArray).extract 1 3).toList) = false := by rw [Lib.toList_data, Lib.toList_data, hextn, beq_eq_false_iff_ne]; exact hz
                          have hqn : ((B3.extract 1 B3.size).toList != ((⟨#[0, 0, 0]⟩ : ByteArray).extract 1 3).toList) = true := by rw [bne, hq]; rfl
                          have hfin : finG 1 (some v) = none := by unfold finG; exact if_neg hz
                          have hP := HNO.out (HRR.out.trans (HGB.out (HGRP.out.trans hfin)))
                          subst hP
                          clear hextn hexth hz hfin
                          go_upto_region 26 with fail
                          go_quiet (fail)
                          have HE6 : Hid (Below W4.heap.size W4 (w5.drewN nq)) := Lib.hid ⟨HE5.out.os, HE5.out.tape, HE5.out.output, HE5.out.size, HE5.out.block⟩
                          have hGw : (w5.drewN nq).cell? ⟨G, 0, none⟩ = some (.int .i64 (k0 : Int)) := (HE6.out.cell (p := ⟨G, 0, none⟩) hGl).trans HGC.out
                          have CC := Lib.hid (clo_is G (k0 : Int) _ hGw)
                          go_wp2_with fail
                          refine CC.out.mono ?_
                          rintro e w6 ⟨rfl, rfl⟩
                          unfold faultE
                          go_wp2_with fail
                          exact ⟨rfl, post_err (x := ((k0 : Int), 2)) (HE0.out.trans (HE2.out.trans (EffW.of_below HE6.out)))⟩
                · have hbl : (((k : Int) + 4) == (S.size : Int)) = false := by rw [beq_eq_false_iff_ne]; omega
                  have hlt4 : k + 4 < S.size := by omega
                  have HLT4 := Lib.hid hlt4
                  have hW2 := hW.2
                  rw [ld, drop_cons S (k + 4) hlt4] at hW2
                  have HGB : Hid (grpS 3 ((S.data.toList.drop k).take 4) = none → R = none) := Lib.hid (fun e => by rw [l4] at e; exact quad_bad hW2 e)
                  have HGG : Hid (∀ B, grpS 3 ((S.data.toList.drop k).take 4) = some B → (k + 4 = S.size ∧ R = some (A ++ B)) ∨ (k + 4 < S.size ∧ (quadS p (S.data.toList.drop (k + 4))).map ((A ++ B) ++ ·) = R)) := Lib.hid (fun B e => .inr ⟨HLT4.out, by rw [l4] at e; rw [drop_cons S (k + 4) hlt4]; exact quad_go hW2 e⟩)
                  clear hW l4 ld hlast hW2 hlt4
                  obtain ⟨RA, hRA⟩ : ∃ RA, accS 3 0 0 ((S.data.toList.drop k).take 4) = RA := ⟨_, rfl⟩
                  have HRA0 : Hid (accS 3 0 0 (((S.data.toList.drop k).take 4).drop 0) = RA) := Lib.hid hRA
                  have HGRP : Hid (grpS 3 ((S.data.toList.drop k).take 4) = finG 3 RA) := Lib.hid (by rw [grp_fin, hRA])
                  clear hRA
                  go_wp2_with fail
                  try rw [HNV.out]
                  obtain ⟨wo, rfl⟩ : ∃ wo, wo = wr := ⟨_, rfl⟩
                  obtain ⟨go, rfl⟩ : ∃ go, go = gk := ⟨_, rfl⟩
                  go_loopg [11, 13, 14, 60] 5 (fun gas vv _ _ jv wy => ∃ (j v : Nat), jv = .int .i64 (j : Int) ∧ vv = .int .i64 (v : Int) ∧ j ≤ 4 ∧ j + gas = 5 ∧ v < 16777216 ∧ Hid (v < 64 ^ j) ∧ Hid (accS 3 j v (((S.data.toList.drop k).take 4).drop j) = RA) ∧ wy = wo)
                  case atStart => exact ⟨0, 0, rfl, rfl, by omega, by omega, by omega, Lib.hid (by simp), HRA0, rfl⟩
                  case round =>
                    obtain ⟨j, v, rfl, rfl, hj, hjg, hv, HV64, HAC, hwy⟩ := hrel
                    subst hwy
                    have HJG := Lib.hid hjg; clear hjg
                    by_cases hj4 : j < 4
                    · have hcons := take_cons S k j hj4 (by omega)
                      obtain ⟨i, hi⟩ : ∃ i, k + j = i := ⟨_, rfl⟩
                      have his : i < S.size := by omega
                      have hii : (i : Int) < (S.size : Int) := by omega
                      have hiv : Value.int .i64 ((k : Int) + (j : Int)) = Value.int .i64 (i : Int) := by congr 1; omega
                      have hc' : ∃ c, S[i] = c ∧ ((S.data.toList.drop k).take 4).drop j = c :: ((S.data.toList.drop k).take 4).drop (j + 1) := ⟨S[i], rfl, by rw [hcons]; congr 1; simp only [hi]⟩
                      obtain ⟨c, hc, hcl⟩ := hc'
                      have HC := Lib.hid hc
                      have hAC2 := HAC.out
                      rw [hcl] at hAC2
                      have HAC2 := Lib.hid hAC2
                      clear hcons hcl hAC2 hi
                      have hcb := byte_lt S[i]
                      by_cases hjn : j ≤ 3
                      · rcases sex_cases c with ⟨x, hx, hx64, hxn⟩ | ⟨hx, hxn⟩
                        · have HF := Lib.hid (acc_go HAC2.out hjn hx)
                          have HV64' := Lib.hid (pow64 HV64.out hx64)
                          have hV4 := pow64_4 HV64'.out (by omega)
                          obtain ⟨V, hV⟩ : ∃ V : Nat, v * 64 + x = V := ⟨_, rfl⟩
                          have HOR : Hid (Value.int .i64 (bits .or .i64 ((v : Int) * 64) (x : Int)) = Value.int .i64 (V : Int)) := Lib.hid (by rw [or6 (by omega) (by omega) (by omega) (by omega) (by omega)]; congr 1; omega)
                          rw [hV] at HF HV64' hV4
                          have HXN : Hid (sexI S[i] = (x : Int)) := Lib.hid (by rw [hc]; exact hxn)
                          have hx0 : ¬ (x : Int) < 0 := by omega
                          clear hx hxn hV hc
                          go_wp2_with (go_at_call 177; refine (sextet_is _ _).mono ?_; rintro e w5 ⟨rfl, rfl⟩; simp only [HXN.out])
                          rw [HOR.out]
                          have hjg := HJG.out
                          go_roundg (gk - 1)
                          case rel => exact ⟨j + 1, V, by go_num, rfl, by omega, by omega, hV4, HV64', HF, rfl⟩
                          case measure => omega
                        · have hn := acc_bad HAC2.out hjn hx
                          subst hn
                          have hP := HNO.out (HRR.out.trans (HGB.out HGRP.out))
                          subst hP
                          have HXN : Hid (sexI S[i] = -1) := Lib.hid (by rw [hc]; exact hxn)
                          have hGw : wr.cell? ⟨G, 0, none⟩ = some (.int .i64 (k0 : Int)) := (HE.out.cell (p := ⟨G, 0, none⟩) hGl).trans HGC.out
                          have CC := Lib.hid (clo_is G (k0 : Int) _ hGw)
                          clear hx hxn hc
                          go_wp2_with (go_at_call 177; refine (sextet_is _ _).mono ?_; rintro e w5 ⟨rfl, rfl⟩; simp only [HXN.out])
                          refine CC.out.mono ?_
                          rintro e w5 ⟨rfl, rfl⟩
                          unfold faultE
                          go_wp2_with fail
                          exact ⟨rfl, post_err (x := ((k0 : Int), 2)) (HE0.out.trans (HE2.out.trans (EffW.of_below HE.out)))⟩
                      · omega
                    · have hn : RA = some v := by
                        rw [← HAC.out, List.drop_eq_nil_of_le (by rw [List.length_take]; omega)]; rfl
                      subst hn
                      have CG := Lib.hid (fun (w : World) => big_any v 3 w (by omega) (by omega))
                      obtain ⟨B3, hB3⟩ : ∃ B3 : ByteArray, (⟨(big.bigS v 3).toArray⟩ : ByteArray) = B3 := ⟨_, rfl⟩
                      have hBd : B3.data.toList = big.bigS v 3 := by rw [← hB3]
                      have hBz : B3.size = 3 := by rw [← hB3, mk_size, big.bigS_len]
                      have hB3i : (3 : Int) ≤ (B3.size : Int) := by omega
                      have hB3j : (B3.size : Int) ≤ 3 := by omega
                      rw [hB3] at CG
                      have HBD := Lib.hid hBd; have HBZ := Lib.hid hBz
                      have hj4' : (4 : Int) ≤ (j : Int) := by omega
                      clear hB3 hBd hBz hj4
                      go_wp2_with fail
                      refine (CG.out _).mono ?_
                      rintro e w5 ⟨rfl, hB5⟩
                      have HE5 := Lib.hid (HE.out.trans (hB5.mono HE.out.size))
                      have HB5 := Lib.hid (bld_below HB.out hB5)
                      clear hB5
                      have hextn : (B3.extract 3 B3.size).data.toList = (big.bigS v 3).drop 3 := by rw [wdL.extract_list, HBD.out, HBZ.out, List.take_of_length_le (by rw [List.length_drop, big.bigS_len]; exact Nat.le_refl _)]
                      have hexth : (B3.extract 0 3).data.toList = (big.bigS v 3).take 3 := by rw [wdL.extract_list, HBD.out]; rfl
                      have HEX := Lib.hid hexth
                      by_cases hz : (big.bigS v 3).drop 3 = List.replicate (3 - 3) 0
                      · have hq : ((B3.extract 3 B3.size).toList == ((⟨#[0, 0, 0]⟩ : ByteArray).extract 3 3).toList) = true := by rw [Lib.toList_data, Lib.toList_data, hextn, hz]; rfl
                        have hqn : ((B3.extract 3 B3.size).toList != ((⟨#[0, 0, 0]⟩ : ByteArray).extract 3 3).toList) = false := by rw [bne, hq]; rfl
                        have hqe : (B3.extract 3 B3.size).toList.isEmpty = true := by rw [Lib.toList_data, hextn, hz]; rfl
                        have hfin : finG 3 (some v) = some ((big.bigS v 3).take 3) := by unfold finG; exact if_pos hz
                        have HR2 := Lib.hid (HGG.out _ (HGRP.out.trans hfin))
                        clear hextn hexth hz hfin
                        go_upto_region 26 with fail
                        go_quiet (fail)
                        have HB6 := Lib.hid (bld_drewN HB5.out nq)
                        have HE6 : Hid (Below W4.heap.size W4 (w5.drewN nq)) := Lib.hid ⟨HE5.out.os, HE5.out.tape, HE5.out.output, HE5.out.size, HE5.out.block⟩
                        have hexs : (B3.extract 0 3).size ≤ 3 := by rw [ByteArray.size_extract]; omega
                        have HWS := Lib.hid (ws W4.heap.size W4.heap.size A (B3.extract 0 3) (w5.drewN nq) HB6.out (by omega) HE6.out.size)
                        have HXS := Lib.hid hexs
                        clear hexs
                        go_wp2_with fail
                        refine HWS.out.mono ?_
                        rintro e w6 ⟨rfl, hb6, hE6⟩
                        have hl6 : (A ++ (B3.extract 0 3).data.toList).length ≤ k + 4 := by rw [List.length_append, size_len]; have := HXS.out; omega
                        rw [HEX.out] at hb6 hl6
                        have HB7 := Lib.hid hb6; have HE7 := Lib.hid (HE6.out.trans hE6); have HL7 := Lib.hid hl6
                        clear hb6 hE6 hl6 hq hqn
                        go_wp2_with fail
                        have hkg := HKG.out
                        go_roundg (go - 1)
                        case rel => exact ⟨k + 4, _, by go_num, by omega, Lib.hid (by have := HK4.out; omega), by omega, HL7.out, HR2, HB7, HE7⟩
                        case measure => omega
                      · exact absurd (by rw [List.drop_eq_nil_of_le (by rw [big.bigS_len]; exact Nat.le_refl _)]; rfl) hz
              · have hke : k = S.size := by omega
                have hR : R = some A := by
                  rcases HW.out with h | h
                  · exact h.2
                  · omega
                have hl := HRL.out A hR
                have hne : A ≠ [] := fun e => HMT.out (by rw [HRR.out, hR, e])
                have hP := HYES.out A hne (by rw [HRR.out, hR])
                subst hP
                have hki : (S.size : Int) ≤ (k : Int) := by omega
                have CSB := Lib.hid (Tryz.Builder_String_any _ _ A _ HB.out (show W4.heap.size ≤ wr.heap.size from HE.out.size))
                clear hke hR hks hne
                go_wp2_with fail
                refine CSB.out.mono ?_
                rintro e w5 ⟨rfl, hE5⟩
                go_wp2_with fail
                go_ret
                have hbb := HE.out.trans hE5
                exact post_ok (HE0.out.trans (HE2.out.trans (EffW.of_below hbb))) (HA2.out.below hbb)
          · have hqv : Value.int .i64 ((S.size : Int) - 1 - (p : Int)) = Value.int .i64 (q : Int) := by congr 1; omega
            have h61 : ¬ S[q] = 61 := fun e => by have := (HPC.out p q hp2' HPP.out hq hqs).1 e; omega
            have hb61 : ((S[q].toNat : Int) == 61) = false := by rw [beq_eq_false_iff_ne]; intro e; exact h61 (UInt8.toNat_inj.1 (by show S[q].toNat = 61; omega))
            have hqi : (q : Int) < (S.size : Int) := by omega
            have hpl : (p : Int) < 2 := by omega
            clear hq h61
            go_wp2_with fail
            have HPL := Lib.hid hpl
            clear hqv hb61 hp2' hex HPC HPP HPG hp hp2 hpl
            obtain ⟨W4, rfl⟩ : ∃ W4, W4 = wr := ⟨_, rfl⟩
            have hp2 := HHI.out
            go_loopg [10, 11, 12, 13, 14, 15, 60] (S.size + 1) (fun gas kv _ _ _ _ _ _ wx => ∃ (k : Nat) (A : Bs), kv = .int .i64 (k : Int) ∧ k ≤ S.size ∧ Hid (k % 4 = 0) ∧ S.size < k + gas ∧ A.length ≤ k ∧ Hid ((k = S.size ∧ R = some A) ∨ (k < S.size ∧ (quadS p (S.data.toList.drop k)).map (A ++ ·) = R)) ∧ Hid (Bld W4.heap.size W4.heap.size A wx) ∧ Hid (Below W4.heap.size W4 wx))
            case atStart => exact ⟨0, [], rfl, by omega, Lib.hid rfl, by omega, by simp, Lib.hid (.inr ⟨by omega, HR0.out⟩), hfb, hBa⟩
            case round =>
              clear hfb hBa
              obtain ⟨k, A, rfl, hk, HK4, hkg, hAl, HW, HB, HE⟩ := hrel
              have HKG := Lib.hid hkg; clear hkg
              by_cases hks : k < S.size
              · have hW := HW.out.resolve_left (fun e => by omega)
                have h4k : k + 4 ≤ S.size := by have := HK4.out; have := HM4.out; omega
                obtain ⟨l4, ld⟩ := four_list S k h4k
                have hki : (k : Int) < (S.size : Int) := by omega
                by_cases hlast : k + 4 = S.size
                · have hbl : (((k : Int) + 4) == (S.size : Int)) = true := by rw [beq_iff_eq]; omega
                  have hqe : (quadS p ((S.data.toList.drop k).take 4)).map (A ++ ·) = R := by
                    rw [List.take_of_length_le (by rw [List.length_drop, size_len]; omega)]; exact hW.2
                  have hge := hqe
                  rw [l4] at hge
                  have hg2 := quad_end hp2 hge
                  rw [← l4] at hg2
                  have HL := Lib.hid hlast
                  have HGB0 : Hid (grpS (3 - p) ((S.data.toList.drop k).take 4) = none → R = none) := Lib.hid (fun e => by rw [← hg2, e]; rfl)
                  have HGG0 : Hid (∀ B, grpS (3 - p) ((S.data.toList.drop k).take 4) = some B → (k + 4 = S.size ∧ R = some (A ++ B)) ∨ (k + 4 < S.size ∧ (quadS p (S.data.toList.drop (k + 4))).map ((A ++ B) ++ ·) = R)) := Lib.hid (fun B e => .inl ⟨HL.out, by rw [← hg2, e]; rfl⟩)
                  clear hW l4 ld hlast hqe hge hg2
                  have hp012 : p = 0 ∨ p = 1 ∨ p = 2 := by omega
                  rcases hp012 with hp0 | hp1 | hp2'
                  · as_aux_lemma =>
                    have HNV : Hid (Value.int .i64 (3 - (p : Int)) = Value.int .i64 3) := Lib.hid (by congr 1; omega)
                    rw [show 3 - p = 3 from by omega] at HGB0 HGG0
                    have HGB := HGB0; have HGG := HGG0
                    clear HGB0 HGG0 hp0
                    obtain ⟨RA, hRA⟩ : ∃ RA, accS 3 0 0 ((S.data.toList.drop k).take 4) = RA := ⟨_, rfl⟩
                    have HRA0 : Hid (accS 3 0 0 (((S.data.toList.drop k).take 4).drop 0) = RA) := Lib.hid hRA
                    have HGRP : Hid (grpS 3 ((S.data.toList.drop k).take 4) = finG 3 RA) := Lib.hid (by rw [grp_fin, hRA])
                    clear hRA
                    go_wp2_with fail
                    try rw [HNV.out]
                    obtain ⟨wo, rfl⟩ : ∃ wo, wo = wr := ⟨_, rfl⟩
                    obtain ⟨go, rfl⟩ : ∃ go, go = gk := ⟨_, rfl⟩
                    go_loopg [11, 13, 14, 60] 5 (fun gas vv _ _ jv wy => ∃ (j v : Nat), jv = .int .i64 (j : Int) ∧ vv = .int .i64 (v : Int) ∧ j ≤ 4 ∧ j + gas = 5 ∧ v < 16777216 ∧ Hid (v < 64 ^ j) ∧ Hid (accS 3 j v (((S.data.toList.drop k).take 4).drop j) = RA) ∧ wy = wo)
                    case atStart => exact ⟨0, 0, rfl, rfl, by omega, by omega, by omega, Lib.hid (by simp), HRA0, rfl⟩
                    case round =>
                      obtain ⟨j, v, rfl, rfl, hj, hjg, hv, HV64, HAC, hwy⟩ := hrel
                      subst hwy
                      have HJG := Lib.hid hjg; clear hjg
                      by_cases hj4 : j < 4
                      · have hcons := take_cons S k j hj4 (by omega)
                        obtain ⟨i, hi⟩ : ∃ i, k + j = i := ⟨_, rfl⟩
                        have his : i < S.size := by omega
                        have hii : (i : Int) < (S.size : Int) := by omega
                        have hiv : Value.int .i64 ((k : Int) + (j : Int)) = Value.int .i64 (i : Int) := by congr 1; omega
                        have hc' : ∃ c, S[i] = c ∧ ((S.data.toList.drop k).take 4).drop j = c :: ((S.data.toList.drop k).take 4).drop (j + 1) := ⟨S[i], rfl, by rw [hcons]; congr 1; simp only [hi]⟩
                        obtain ⟨c, hc, hcl⟩ := hc'
                        have HC := Lib.hid hc
                        have hAC2 := HAC.out
                        rw [hcl] at hAC2
                        have HAC2 := Lib.hid hAC2
                        clear hcons hcl hAC2 hi
                        have hcb := byte_lt S[i]
                        by_cases hjn : j ≤ 3
                        · rcases sex_cases c with ⟨x, hx, hx64, hxn⟩ | ⟨hx, hxn⟩
                          · have HF := Lib.hid (acc_go HAC2.out hjn hx)
                            have HV64' := Lib.hid (pow64 HV64.out hx64)
                            have hV4 := pow64_4 HV64'.out (by omega)
                            obtain ⟨V, hV⟩ : ∃ V : Nat, v * 64 + x = V := ⟨_, rfl⟩
                            have HOR : Hid (Value.int .i64 (bits .or .i64 ((v : Int) * 64) (x : Int)) = Value.int .i64 (V : Int)) := Lib.hid (by rw [or6 (by omega) (by omega) (by omega) (by omega) (by omega)]; congr 1; omega)
                            rw [hV] at HF HV64' hV4
                            have HXN : Hid (sexI S[i] = (x : Int)) := Lib.hid (by rw [hc]; exact hxn)
                            have hx0 : ¬ (x : Int) < 0 := by omega
                            clear hx hxn hV hc
                            go_wp2_with (go_at_call 177; refine (sextet_is _ _).mono ?_; rintro e w5 ⟨rfl, rfl⟩; simp only [HXN.out])
                            rw [HOR.out]
                            have hjg := HJG.out
                            go_roundg (gk - 1)
                            case rel => exact ⟨j + 1, V, by go_num, rfl, by omega, by omega, hV4, HV64', HF, rfl⟩
                            case measure => omega
                          · have hn := acc_bad HAC2.out hjn hx
                            subst hn
                            have hP := HNO.out (HRR.out.trans (HGB.out HGRP.out))
                            subst hP
                            have HXN : Hid (sexI S[i] = -1) := Lib.hid (by rw [hc]; exact hxn)
                            have hGw : wr.cell? ⟨G, 0, none⟩ = some (.int .i64 (k0 : Int)) := (HE.out.cell (p := ⟨G, 0, none⟩) hGl).trans HGC.out
                            have CC := Lib.hid (clo_is G (k0 : Int) _ hGw)
                            clear hx hxn hc
                            go_wp2_with (go_at_call 177; refine (sextet_is _ _).mono ?_; rintro e w5 ⟨rfl, rfl⟩; simp only [HXN.out])
                            refine CC.out.mono ?_
                            rintro e w5 ⟨rfl, rfl⟩
                            unfold faultE
                            go_wp2_with fail
                            exact ⟨rfl, post_err (x := ((k0 : Int), 2)) (HE0.out.trans (HE2.out.trans (EffW.of_below HE.out)))⟩
                        · omega
                      · have hn : RA = some v := by
                          rw [← HAC.out, List.drop_eq_nil_of_le (by rw [List.length_take]; omega)]; rfl
                        subst hn
                        have CG := Lib.hid (fun (w : World) => big_any v 3 w (by omega) (by omega))
                        obtain ⟨B3, hB3⟩ : ∃ B3 : ByteArray, (⟨(big.bigS v 3).toArray⟩ : ByteArray) = B3 := ⟨_, rfl⟩
                        have hBd : B3.data.toList = big.bigS v 3 := by rw [← hB3]
                        have hBz : B3.size = 3 := by rw [← hB3, mk_size, big.bigS_len]
                        have hB3i : (3 : Int) ≤ (B3.size : Int) := by omega
                        have hB3j : (B3.size : Int) ≤ 3 := by omega
                        rw [hB3] at CG
                        have HBD := Lib.hid hBd; have HBZ := Lib.hid hBz
                        have hj4' : (4 : Int) ≤ (j : Int) := by omega
                        clear hB3 hBd hBz hj4
                        go_wp2_with fail
                        refine (CG.out _).mono ?_
                        rintro e w5 ⟨rfl, hB5⟩
                        have HE5 := Lib.hid (HE.out.trans (hB5.mono HE.out.size))
                        have HB5 := Lib.hid (bld_below HB.out hB5)
                        clear hB5
                        have hextn : (B3.extract 3 B3.size).data.toList = (big.bigS v 3).drop 3 := by rw [wdL.extract_list, HBD.out, HBZ.out, List.take_of_length_le (by rw [List.length_drop, big.bigS_len]; exact Nat.le_refl _)]
                        have hexth : (B3.extract 0 3).data.toList = (big.bigS v 3).take 3 := by rw [wdL.extract_list, HBD.out]; rfl
                        have HEX := Lib.hid hexth
                        by_cases hz : (big.bigS v 3).drop 3 = List.replicate (3 - 3) 0
                        · have hq : ((B3.extract 3 B3.size).toList == ((⟨#[0, 0, 0]⟩ : ByteArray).extract 3 3).toList) = true := by rw [Lib.toList_data, Lib.toList_data, hextn, hz]; rfl
                          have hqn : ((B3.extract 3 B3.size).toList != ((⟨#[0, 0, 0]⟩ : ByteArray).extract 3 3).toList) = false := by rw [bne, hq]; rfl
                          have hqe : (B3.extract 3 B3.size).toList.isEmpty = true := by rw [Lib.toList_data, hextn, hz]; rfl
                          have hfin : finG 3 (some v) = some ((big.bigS v 3).take 3) := by unfold finG; exact if_pos hz
                          have HR2 := Lib.hid (HGG.out _ (HGRP.out.trans hfin))
                          clear hextn hexth hz hfin
                          go_upto_region 26 with fail
                          go_quiet (fail)
                          have HB6 := Lib.hid (bld_drewN HB5.out nq)
                          have HE6 : Hid (Below W4.heap.size W4 (w5.drewN nq)) := Lib.hid ⟨HE5.out.os, HE5.out.tape, HE5.out.output, HE5.out.size, HE5.out.block⟩
                          have hexs : (B3.extract 0 3).size ≤ 3 := by rw [ByteArray.size_extract]; omega
                          have HWS := Lib.hid (ws W4.heap.size W4.heap.size A (B3.extract 0 3) (w5.drewN nq) HB6.out (by omega) HE6.out.size)
                          have HXS := Lib.hid hexs
                          clear hexs
                          go_wp2_with fail
                          refine HWS.out.mono ?_
                          rintro e w6 ⟨rfl, hb6, hE6⟩
                          have hl6 : (A ++ (B3.extract 0 3).data.toList).length ≤ k + 4 := by rw [List.length_append, size_len]; have := HXS.out; omega
                          rw [HEX.out] at hb6 hl6
                          have HB7 := Lib.hid hb6; have HE7 := Lib.hid (HE6.out.trans hE6); have HL7 := Lib.hid hl6
                          clear hb6 hE6 hl6 hq hqn
                          go_wp2_with fail
                          have hkg := HKG.out
                          go_roundg (go - 1)
                          case rel => exact ⟨k + 4, _, by go_num, by omega, Lib.hid (by have := HK4.out; omega), by omega, HL7.out, HR2, HB7, HE7⟩
                          case measure => omega
                        · exact absurd (by rw [List.drop_eq_nil_of_le (by rw [big.bigS_len]; exact Nat.le_refl _)]; rfl) hz
                  · as_aux_lemma =>
                    have HNV : Hid (Value.int .i64 (3 - (p : Int)) = Value.int .i64 2) := Lib.hid (by congr 1; omega)
                    rw [show 3 - p = 2 from by omega] at HGB0 HGG0
                    have HGB := HGB0; have HGG := HGG0
                    clear HGB0 HGG0 hp1
                    obtain ⟨RA, hRA⟩ : ∃ RA, accS 2 0 0 ((S.data.toList.drop k).take 4) = RA := ⟨_, rfl⟩
                    have HRA0 : Hid (accS 2 0 0 (((S.data.toList.drop k).take 4).drop 0) = RA) := Lib.hid hRA
                    have HGRP : Hid (grpS 2 ((S.data.toList.drop k).take 4) = finG 2 RA) := Lib.hid (by rw [grp_fin, hRA])
                    clear hRA
                    go_wp2_with fail
                    try rw [HNV.out]
                    obtain ⟨wo, rfl⟩ : ∃ wo, wo = wr := ⟨_, rfl⟩
                    obtain ⟨go, rfl⟩ : ∃ go, go = gk := ⟨_, rfl⟩
                    go_loopg [11, 13, 14, 60] 5 (fun gas vv _ _ jv wy => ∃ (j v : Nat), jv = .int .i64 (j : Int) ∧ vv = .int .i64 (v : Int) ∧ j ≤ 4 ∧ j + gas = 5 ∧ v < 16777216 ∧ Hid (v < 64 ^ j) ∧ Hid (accS 2 j v (((S.data.toList.drop k).take 4).drop j) = RA) ∧ wy = wo)
                    case atStart => exact ⟨0, 0, rfl, rfl, by omega, by omega, by omega, Lib.hid (by simp), HRA0, rfl⟩
                    case round =>
                      obtain ⟨j, v, rfl, rfl, hj, hjg, hv, HV64, HAC, hwy⟩ := hrel
                      subst hwy
                      have HJG := Lib.hid hjg; clear hjg
                      by_cases hj4 : j < 4
                      · have hcons := take_cons S k j hj4 (by omega)
                        obtain ⟨i, hi⟩ : ∃ i, k + j = i := ⟨_, rfl⟩
                        have his : i < S.size := by omega
                        have hii : (i : Int) < (S.size : Int) := by omega
                        have hiv : Value.int .i64 ((k : Int) + (j : Int)) = Value.int .i64 (i : Int) := by congr 1; omega
                        have hc' : ∃ c, S[i] = c ∧ ((S.data.toList.drop k).take 4).drop j = c :: ((S.data.toList.drop k).take 4).drop (j + 1) := ⟨S[i], rfl, by rw [hcons]; congr 1; simp only [hi]⟩
                        obtain ⟨c, hc, hcl⟩ := hc'
                        have HC := Lib.hid hc
                        have hAC2 := HAC.out
                        rw [hcl] at hAC2
                        have HAC2 := Lib.hid hAC2
                        clear hcons hcl hAC2 hi
                        have hcb := byte_lt S[i]
                        by_cases hjn : j ≤ 2
                        · rcases sex_cases c with ⟨x, hx, hx64, hxn⟩ | ⟨hx, hxn⟩
                          · have HF := Lib.hid (acc_go HAC2.out hjn hx)
                            have HV64' := Lib.hid (pow64 HV64.out hx64)
                            have hV4 := pow64_4 HV64'.out (by omega)
                            obtain ⟨V, hV⟩ : ∃ V : Nat, v * 64 + x = V := ⟨_, rfl⟩
                            have HOR : Hid (Value.int .i64 (bits .or .i64 ((v : Int) * 64) (x : Int)) = Value.int .i64 (V : Int)) := Lib.hid (by rw [or6 (by omega) (by omega) (by omega) (by omega) (by omega)]; congr 1; omega)
                            rw [hV] at HF HV64' hV4
                            have HXN : Hid (sexI S[i] = (x : Int)) := Lib.hid (by rw [hc]; exact hxn)
                            have hx0 : ¬ (x : Int) < 0 := by omega
                            clear hx hxn hV hc
                            go_wp2_with (go_at_call 177; refine (sextet_is _ _).mono ?_; rintro e w5 ⟨rfl, rfl⟩; simp only [HXN.out])
                            rw [HOR.out]
                            have hjg := HJG.out
                            go_roundg (gk - 1)
                            case rel => exact ⟨j + 1, V, by go_num, rfl, by omega, by omega, hV4, HV64', HF, rfl⟩
                            case measure => omega
                          · have hn := acc_bad HAC2.out hjn hx
                            subst hn
                            have hP := HNO.out (HRR.out.trans (HGB.out HGRP.out))
                            subst hP
                            have HXN : Hid (sexI S[i] = -1) := Lib.hid (by rw [hc]; exact hxn)
                            have hGw : wr.cell? ⟨G, 0, none⟩ = some (.int .i64 (k0 : Int)) := (HE.out.cell (p := ⟨G, 0, none⟩) hGl).trans HGC.out
                            have CC := Lib.hid (clo_is G (k0 : Int) _ hGw)
                            clear hx hxn hc
                            go_wp2_with (go_at_call 177; refine (sextet_is _ _).mono ?_; rintro e w5 ⟨rfl, rfl⟩; simp only [HXN.out])
                            refine CC.out.mono ?_
                            rintro e w5 ⟨rfl, rfl⟩
                            unfold faultE
                            go_wp2_with fail
                            exact ⟨rfl, post_err (x := ((k0 : Int), 2)) (HE0.out.trans (HE2.out.trans (EffW.of_below HE.out)))⟩
                        · have HF := Lib.hid (acc_skip HAC2.out (by omega))
                          have HV64' := Lib.hid (pow64 (x := 0) HV64.out (by omega))
                          have hV4 := pow64_4 HV64'.out (by omega)
                          obtain ⟨V, hV⟩ : ∃ V : Nat, v * 64 = V := ⟨_, rfl⟩
                          have HOR : Hid (Value.int .i64 (bits .or .i64 ((v : Int) * 64) 0) = Value.int .i64 (V : Int)) := Lib.hid (by rw [or6 (by omega) (by omega) (by omega) (by omega) (by omega)]; congr 1; omega)
                          rw [Nat.add_zero, hV] at HV64' hV4
                          rw [hV] at HF
                          have hjn' : ¬ (j : Int) ≤ 2 := by omega
                          clear hV hc hjn
                          go_wp2_with fail
                          rw [HOR.out]
                          have hjg := HJG.out
                          go_roundg (gk - 1)
                          case rel => exact ⟨j + 1, V, by go_num, rfl, by omega, by omega, hV4, HV64', HF, rfl⟩
                          case measure => omega
                      · have hn : RA = some v := by
                          rw [← HAC.out, List.drop_eq_nil_of_le (by rw [List.length_take]; omega)]; rfl
                        subst hn
                        have CG := Lib.hid (fun (w : World) => big_any v 3 w (by omega) (by omega))
                        obtain ⟨B3, hB3⟩ : ∃ B3 : ByteArray, (⟨(big.bigS v 3).toArray⟩ : ByteArray) = B3 := ⟨_, rfl⟩
                        have hBd : B3.data.toList = big.bigS v 3 := by rw [← hB3]
                        have hBz : B3.size = 3 := by rw [← hB3, mk_size, big.bigS_len]
                        have hB3i : (3 : Int) ≤ (B3.size : Int) := by omega
                        have hB3j : (B3.size : Int) ≤ 3 := by omega
                        rw [hB3] at CG
                        have HBD := Lib.hid hBd; have HBZ := Lib.hid hBz
                        have hj4' : (4 : Int) ≤ (j : Int) := by omega
                        clear hB3 hBd hBz hj4
                        go_wp2_with fail
                        refine (CG.out _).mono ?_
                        rintro e w5 ⟨rfl, hB5⟩
                        have HE5 := Lib.hid (HE.out.trans (hB5.mono HE.out.size))
                        have HB5 := Lib.hid (bld_below HB.out hB5)
                        clear hB5
                        have hextn : (B3.extract 2 B3.size).data.toList = (big.bigS v 3).drop 2 := by rw [wdL.extract_list, HBD.out, HBZ.out, List.take_of_length_le (by rw [List.length_drop, big.bigS_len]; exact Nat.le_refl _)]
                        have hexth : (B3.extract 0 2).data.toList = (big.bigS v 3).take 2 := by rw [wdL.extract_list, HBD.out]; rfl
                        have HEX := Lib.hid hexth
                        by_cases hz : (big.bigS v 3).drop 2 = List.replicate (3 - 2) 0
                        · have hq : ((B3.extract 2 B3.size).toList == ((⟨#[0, 0, 0]⟩ : ByteArray).extract 2 3).toList) = true := by rw [Lib.toList_data, Lib.toList_data, hextn, hz]; rfl
                          have hqn : ((B3.extract 2 B3.size).toList != ((⟨#[0, 0, 0]⟩ : ByteArray).extract 2 3).toList) = false := by rw [bne, hq]; rfl
                          have hfin : finG 2 (some v) = some ((big.bigS v 3).take 2) := by unfold finG; exact if_pos hz
                          have HR2 := Lib.hid (HGG.out _ (HGRP.out.trans hfin))
                          clear hextn hexth hz hfin
                          go_upto_region 26 with fail
                          go_quiet (fail)
                          have HB6 := Lib.hid (bld_drewN HB5.out nq)
                          have HE6 : Hid (Below W4.heap.size W4 (w5.drewN nq)) := Lib.hid ⟨HE5.out.os, HE5.out.tape, HE5.out.output, HE5.out.size, HE5.out.block⟩
                          have hexs : (B3.extract 0 2).size ≤ 3 := by rw [ByteArray.size_extract]; omega
                          have HWS := Lib.hid (ws W4.heap.size W4.heap.size A (B3.extract 0 2) (w5.drewN nq) HB6.out (by omega) HE6.out.size)
                          have HXS := Lib.hid hexs
                          clear hexs
                          go_wp2_with fail
                          refine HWS.out.mono ?_
                          rintro e w6 ⟨rfl, hb6, hE6⟩
                          have hl6 : (A ++ (B3.extract 0 2).data.toList).length ≤ k + 4 := by rw [List.length_append, size_len]; have := HXS.out; omega
                          rw [HEX.out] at hb6 hl6
                          have HB7 := Lib.hid hb6; have HE7 := Lib.hid (HE6.out.trans hE6); have HL7 := Lib.hid hl6
                          clear hb6 hE6 hl6 hq hqn
                          go_wp2_with fail
                          have hkg := HKG.out
                          go_roundg (go - 1)
                          case rel => exact ⟨k + 4, _, by go_num, by omega, Lib.hid (by have := HK4.out; omega), by omega, HL7.out, HR2, HB7, HE7⟩
                          case measure => omega
                        · have hq : ((B3.extract 2 B3.size).toList == ((⟨#[0, 0, 0]⟩ : ByteArray).extract 2 3).toList) = false := by rw [Lib.toList_data, Lib.toList_data, hextn, beq_eq_false_iff_ne]; exact hz
                          have hqn : ((B3.extract 2 B3.size).toList != ((⟨#[0, 0, 0]⟩ : ByteArray).extract 2 3).toList) = true := by rw [bne, hq]; rfl
                          have hfin : finG 2 (some v) = none := by unfold finG; exact if_neg hz
                          have hP := HNO.out (HRR.out.trans (HGB.out (HGRP.out.trans hfin)))
                          subst hP
                          clear hextn hexth hz hfin
                          go_upto_region 26 with fail
                          go_quiet (fail)
                          have HE6 : Hid (Below W4.heap.size W4 (w5.drewN nq)) := Lib.hid ⟨HE5.out.os, HE5.out.tape, HE5.out.output, HE5.out.size, HE5.out.block⟩
                          have hGw : (w5.drewN nq).cell? ⟨G, 0, none⟩ = some (.int .i64 (k0 : Int)) := (HE6.out.cell (p := ⟨G, 0, none⟩) hGl).trans HGC.out
                          have CC := Lib.hid (clo_is G (k0 : Int) _ hGw)
                          go_wp2_with fail
                          refine CC.out.mono ?_
                          rintro e w6 ⟨rfl, rfl⟩
                          unfold faultE
                          go_wp2_with fail
                          exact ⟨rfl, post_err (x := ((k0 : Int), 2)) (HE0.out.trans (HE2.out.trans (EffW.of_below HE6.out)))⟩
                  · exfalso; have := HPL.out; omega
                · have hbl : (((k : Int) + 4) == (S.size : Int)) = false := by rw [beq_eq_false_iff_ne]; omega
                  have hlt4 : k + 4 < S.size := by omega
                  have HLT4 := Lib.hid hlt4
                  have hW2 := hW.2
                  rw [ld, drop_cons S (k + 4) hlt4] at hW2
                  have HGB : Hid (grpS 3 ((S.data.toList.drop k).take 4) = none → R = none) := Lib.hid (fun e => by rw [l4] at e; exact quad_bad hW2 e)
                  have HGG : Hid (∀ B, grpS 3 ((S.data.toList.drop k).take 4) = some B → (k + 4 = S.size ∧ R = some (A ++ B)) ∨ (k + 4 < S.size ∧ (quadS p (S.data.toList.drop (k + 4))).map ((A ++ B) ++ ·) = R)) := Lib.hid (fun B e => .inr ⟨HLT4.out, by rw [l4] at e; rw [drop_cons S (k + 4) hlt4]; exact quad_go hW2 e⟩)
                  clear hW l4 ld hlast hW2 hlt4
                  obtain ⟨RA, hRA⟩ : ∃ RA, accS 3 0 0 ((S.data.toList.drop k).take 4) = RA := ⟨_, rfl⟩
                  have HRA0 : Hid (accS 3 0 0 (((S.data.toList.drop k).take 4).drop 0) = RA) := Lib.hid hRA
                  have HGRP : Hid (grpS 3 ((S.data.toList.drop k).take 4) = finG 3 RA) := Lib.hid (by rw [grp_fin, hRA])
                  clear hRA
                  go_wp2_with fail
                  try rw [HNV.out]
                  obtain ⟨wo, rfl⟩ : ∃ wo, wo = wr := ⟨_, rfl⟩
                  obtain ⟨go, rfl⟩ : ∃ go, go = gk := ⟨_, rfl⟩
                  go_loopg [11, 13, 14, 60] 5 (fun gas vv _ _ jv wy => ∃ (j v : Nat), jv = .int .i64 (j : Int) ∧ vv = .int .i64 (v : Int) ∧ j ≤ 4 ∧ j + gas = 5 ∧ v < 16777216 ∧ Hid (v < 64 ^ j) ∧ Hid (accS 3 j v (((S.data.toList.drop k).take 4).drop j) = RA) ∧ wy = wo)
                  case atStart => exact ⟨0, 0, rfl, rfl, by omega, by omega, by omega, Lib.hid (by simp), HRA0, rfl⟩
                  case round =>
                    obtain ⟨j, v, rfl, rfl, hj, hjg, hv, HV64, HAC, hwy⟩ := hrel
                    subst hwy
                    have HJG := Lib.hid hjg; clear hjg
                    by_cases hj4 : j < 4
                    · have hcons := take_cons S k j hj4 (by omega)
                      obtain ⟨i, hi⟩ : ∃ i, k + j = i := ⟨_, rfl⟩
                      have his : i < S.size := by omega
                      have hii : (i : Int) < (S.size : Int) := by omega
                      have hiv : Value.int .i64 ((k : Int) + (j : Int)) = Value.int .i64 (i : Int) := by congr 1; omega
                      have hc' : ∃ c, S[i] = c ∧ ((S.data.toList.drop k).take 4).drop j = c :: ((S.data.toList.drop k).take 4).drop (j + 1) := ⟨S[i], rfl, by rw [hcons]; congr 1; simp only [hi]⟩
                      obtain ⟨c, hc, hcl⟩ := hc'
                      have HC := Lib.hid hc
                      have hAC2 := HAC.out
                      rw [hcl] at hAC2
                      have HAC2 := Lib.hid hAC2
                      clear hcons hcl hAC2 hi
                      have hcb := byte_lt S[i]
                      by_cases hjn : j ≤ 3
                      · rcases sex_cases c with ⟨x, hx, hx64, hxn⟩ | ⟨hx, hxn⟩
                        · have HF := Lib.hid (acc_go HAC2.out hjn hx)
                          have HV64' := Lib.hid (pow64 HV64.out hx64)
                          have hV4 := pow64_4 HV64'.out (by omega)
                          obtain ⟨V, hV⟩ : ∃ V : Nat, v * 64 + x = V := ⟨_, rfl⟩
                          have HOR : Hid (Value.int .i64 (bits .or .i64 ((v : Int) * 64) (x : Int)) = Value.int .i64 (V : Int)) := Lib.hid (by rw [or6 (by omega) (by omega) (by omega) (by omega) (by omega)]; congr 1; omega)
                          rw [hV] at HF HV64' hV4
                          have HXN : Hid (sexI S[i] = (x : Int)) := Lib.hid (by rw [hc]; exact hxn)
                          have hx0 : ¬ (x : Int) < 0 := by omega
                          clear hx hxn hV hc
                          go_wp2_with (go_at_call 177; refine (sextet_is _ _).mono ?_; rintro e w5 ⟨rfl, rfl⟩; simp only [HXN.out])
                          rw [HOR.out]
                          have hjg := HJG.out
                          go_roundg (gk - 1)
                          case rel => exact ⟨j + 1, V, by go_num, rfl, by omega, by omega, hV4, HV64', HF, rfl⟩
                          case measure => omega
                        · have hn := acc_bad HAC2.out hjn hx
                          subst hn
                          have hP := HNO.out (HRR.out.trans (HGB.out HGRP.out))
                          subst hP
                          have HXN : Hid (sexI S[i] = -1) := Lib.hid (by rw [hc]; exact hxn)
                          have hGw : wr.cell? ⟨G, 0, none⟩ = some (.int .i64 (k0 : Int)) := (HE.out.cell (p := ⟨G, 0, none⟩) hGl).trans HGC.out
                          have CC := Lib.hid (clo_is G (k0 : Int) _ hGw)
                          clear hx hxn hc
                          go_wp2_with (go_at_call 177; refine (sextet_is _ _).mono ?_; rintro e w5 ⟨rfl, rfl⟩; simp only [HXN.out])
                          refine CC.out.mono ?_
                          rintro e w5 ⟨rfl, rfl⟩
                          unfold faultE
                          go_wp2_with fail
                          exact ⟨rfl, post_err (x := ((k0 : Int), 2)) (HE0.out.trans (HE2.out.trans (EffW.of_below HE.out)))⟩
                      · omega
                    · have hn : RA = some v := by
                        rw [← HAC.out, List.drop_eq_nil_of_le (by rw [List.length_take]; omega)]; rfl
                      subst hn
                      have CG := Lib.hid (fun (w : World) => big_any v 3 w (by omega) (by omega))
                      obtain ⟨B3, hB3⟩ : ∃ B3 : ByteArray, (⟨(big.bigS v 3).toArray⟩ : ByteArray) = B3 := ⟨_, rfl⟩
                      have hBd : B3.data.toList = big.bigS v 3 := by rw [← hB3]
                      have hBz : B3.size = 3 := by rw [← hB3, mk_size, big.bigS_len]
                      have hB3i : (3 : Int) ≤ (B3.size : Int) := by omega
                      have hB3j : (B3.size : Int) ≤ 3 := by omega
                      rw [hB3] at CG
                      have HBD := Lib.hid hBd; have HBZ := Lib.hid hBz
                      have hj4' : (4 : Int) ≤ (j : Int) := by omega
                      clear hB3 hBd hBz hj4
                      go_wp2_with fail
                      refine (CG.out _).mono ?_
                      rintro e w5 ⟨rfl, hB5⟩
                      have HE5 := Lib.hid (HE.out.trans (hB5.mono HE.out.size))
                      have HB5 := Lib.hid (bld_below HB.out hB5)
                      clear hB5
                      have hextn : (B3.extract 3 B3.size).data.toList = (big.bigS v 3).drop 3 := by rw [wdL.extract_list, HBD.out, HBZ.out, List.take_of_length_le (by rw [List.length_drop, big.bigS_len]; exact Nat.le_refl _)]
                      have hexth : (B3.extract 0 3).data.toList = (big.bigS v 3).take 3 := by rw [wdL.extract_list, HBD.out]; rfl
                      have HEX := Lib.hid hexth
                      by_cases hz : (big.bigS v 3).drop 3 = List.replicate (3 - 3) 0
                      · have hq : ((B3.extract 3 B3.size).toList == ((⟨#[0, 0, 0]⟩ : ByteArray).extract 3 3).toList) = true := by rw [Lib.toList_data, Lib.toList_data, hextn, hz]; rfl
                        have hqn : ((B3.extract 3 B3.size).toList != ((⟨#[0, 0, 0]⟩ : ByteArray).extract 3 3).toList) = false := by rw [bne, hq]; rfl
                        have hqe : (B3.extract 3 B3.size).toList.isEmpty = true := by rw [Lib.toList_data, hextn, hz]; rfl
                        have hfin : finG 3 (some v) = some ((big.bigS v 3).take 3) := by unfold finG; exact if_pos hz
                        have HR2 := Lib.hid (HGG.out _ (HGRP.out.trans hfin))
                        clear hextn hexth hz hfin
                        go_upto_region 26 with fail
                        go_quiet (fail)
                        have HB6 := Lib.hid (bld_drewN HB5.out nq)
                        have HE6 : Hid (Below W4.heap.size W4 (w5.drewN nq)) := Lib.hid ⟨HE5.out.os, HE5.out.tape, HE5.out.output, HE5.out.size, HE5.out.block⟩
                        have hexs : (B3.extract 0 3).size ≤ 3 := by rw [ByteArray.size_extract]; omega
                        have HWS := Lib.hid (ws W4.heap.size W4.heap.size A (B3.extract 0 3) (w5.drewN nq) HB6.out (by omega) HE6.out.size)
                        have HXS := Lib.hid hexs
                        clear hexs
                        go_wp2_with fail
                        refine HWS.out.mono ?_
                        rintro e w6 ⟨rfl, hb6, hE6⟩
                        have hl6 : (A ++ (B3.extract 0 3).data.toList).length ≤ k + 4 := by rw [List.length_append, size_len]; have := HXS.out; omega
                        rw [HEX.out] at hb6 hl6
                        have HB7 := Lib.hid hb6; have HE7 := Lib.hid (HE6.out.trans hE6); have HL7 := Lib.hid hl6
                        clear hb6 hE6 hl6 hq hqn
                        go_wp2_with fail
                        have hkg := HKG.out
                        go_roundg (go - 1)
                        case rel => exact ⟨k + 4, _, by go_num, by omega, Lib.hid (by have := HK4.out; omega), by omega, HL7.out, HR2, HB7, HE7⟩
                        case measure => omega
                      · exact absurd (by rw [List.drop_eq_nil_of_le (by rw [big.bigS_len]; exact Nat.le_refl _)]; rfl) hz
              · have hke : k = S.size := by omega
                have hR : R = some A := by
                  rcases HW.out with h | h
                  · exact h.2
                  · omega
                have hl := HRL.out A hR
                have hne : A ≠ [] := fun e => HMT.out (by rw [HRR.out, hR, e])
                have hP := HYES.out A hne (by rw [HRR.out, hR])
                subst hP
                have hki : (S.size : Int) ≤ (k : Int) := by omega
                have CSB := Lib.hid (Tryz.Builder_String_any _ _ A _ HB.out (show W4.heap.size ≤ wr.heap.size from HE.out.size))
                clear hke hR hks hne
                go_wp2_with fail
                refine CSB.out.mono ?_
                rintro e w5 ⟨rfl, hE5⟩
                go_wp2_with fail
                go_ret
                have hbb := HE.out.trans hE5
                exact post_ok (HE0.out.trans (HE2.out.trans (EffW.of_below hbb))) (HA2.out.below hbb)
end
end Go.Proofs.YtkcpbjoolfojjaaGreatDoor.wdK

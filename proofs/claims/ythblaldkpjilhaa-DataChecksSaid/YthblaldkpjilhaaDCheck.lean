/- data.holds, data.Check: walks. -/
import Derived.Test.YthblaldkpjilhaaSplitD
namespace Go.Proofs.Ythblaldkpjilhaa.dcheck
open Go.RowKit Go.Proofs.Ythblaldkpjilhaa.kit Go.Proofs.Ythblaldkpjilhaa.nspec Go.Proofs.Ythblaldkpjilhaa.fld Go.Proofs.Ythblaldkpjilhaa.formW Go.Proofs.Ythblaldkpjilhaa.splitD
set_option linter.unusedVariables false

theorem holds_no {t : Int} (h : t < 1 ∨ 65535 < t ∨ t = 41 ∨ (128 ≤ t ∧ t ≤ 255)) : holdsB t = false := by
  unfold holdsB
  rcases h with h | h | h | h
  · rw [decide_eq_false (by omega)]; rfl
  · rw [decide_eq_false (p := t ≤ 65535) (by omega)]; simp
  · subst h; rfl
  · rw [decide_eq_false (p := t < 128) (by omega), decide_eq_false (p := 255 < t) (by omega)]; simp
theorem holds_yes {t : Int} (h1 : 1 ≤ t) (h2 : t ≤ 65535) (h3 : t ≠ 41) (h4 : t < 128 ∨ 255 < t) : holdsB t = true := by
  unfold holdsB
  rw [decide_eq_true h1, decide_eq_true h2, (bne_iff_ne).2 h3]
  rcases h4 with h | h
  · rw [decide_eq_true h]; rfl
  · rw [decide_eq_true h]; simp

set_option maxRecDepth 100000 in
set_option maxHeartbeats 2000000 in
theorem holds_any (t : Int) (w : World) : Calls Try.prog 72 #[.int .i64 t] w fun e w' => e = .returned (.bool (holdsB t)) ∧ w = w' := by
  by_cases h1 : t < 1
  · have H := Lib.hid (holds_no (.inl h1))
    go_enter Try.func72, Try.ntmps72
    go_wp2_with fail
    go_ret
    exact ⟨by rw [H.out]; rfl, rfl⟩
  have h1i : 1 ≤ t := by omega
  clear h1
  by_cases h2 : 65535 < t
  · have H := Lib.hid (holds_no (.inr (.inl h2)))
    go_enter Try.func72, Try.ntmps72
    go_wp2_with fail
    go_ret
    exact ⟨by rw [H.out]; rfl, rfl⟩
  have h2i : t ≤ 65535 := by omega
  clear h2
  by_cases h3 : t = 41
  · subst h3
    go_enter Try.func72, Try.ntmps72
    go_wp2_with fail
    go_ret
    exact ⟨rfl, rfl⟩
  have h3b : (t != 41) = true := by rw [bne_iff_ne]; exact h3
  have H3 := Lib.hid h3; clear h3
  by_cases h4 : t < 128
  · have H := Lib.hid (holds_yes h1i h2i H3.out (.inl h4))
    go_enter Try.func72, Try.ntmps72
    go_wp2_with fail
    go_ret
    exact ⟨by rw [H.out]; rfl, rfl⟩
  have h4i : 128 ≤ t := by omega
  clear h4
  by_cases h5 : 255 < t
  · have H := Lib.hid (holds_yes h1i h2i H3.out (.inr h5))
    go_enter Try.func72, Try.ntmps72
    go_wp2_with fail
    go_ret
    exact ⟨by rw [H.out]; rfl, rfl⟩
  · have h5i : t ≤ 255 := by omega
    have H := Lib.hid (holds_no (.inr (.inr (.inr ⟨h4i, h5i⟩))))
    have d4 : decide (t < 128) = false := by rw [decide_eq_false_iff_not]; omega
    have d5 : decide (255 < t) = false := by rw [decide_eq_false_iff_not]; omega
    clear h5
    go_enter Try.func72, Try.ntmps72
    go_wp2_with fail
    go_ret
    exact ⟨by rw [H.out]; rfl, rfl⟩

theorem fair_of {fs gs : List Fld} (h : some gs = some fs) (hl : gs.length ≤ 20) (hk : gs.all (fun f => match f with | .num k => decide (k ≤ 100) | _ => true) = true) : FairF fs := by
  have e := Option.some.inj h
  subst e
  refine ⟨hl, fun k hm => ?_⟩
  have := List.all_eq_true.1 hk _ hm
  simpa using this
theorem form_fair {t : Int} {fs : List Fld} (h : formS t = some fs) : FairF fs := by
  by_cases h1 : t = 1
  · subst h1; exact fair_of h (by decide) (by decide)
  by_cases h2 : t = 2
  · subst h2; exact fair_of h (by decide) (by decide)
  by_cases h5 : t = 5
  · subst h5; exact fair_of h (by decide) (by decide)
  by_cases h12 : t = 12
  · subst h12; exact fair_of h (by decide) (by decide)
  by_cases h39 : t = 39
  · subst h39; exact fair_of h (by decide) (by decide)
  by_cases h6 : t = 6
  · subst h6; exact fair_of h (by decide) (by decide)
  by_cases h13 : t = 13
  · subst h13; exact fair_of h (by decide) (by decide)
  by_cases h15 : t = 15
  · subst h15; exact fair_of h (by decide) (by decide)
  by_cases h16 : t = 16
  · subst h16; exact fair_of h (by decide) (by decide)
  by_cases h28 : t = 28
  · subst h28; exact fair_of h (by decide) (by decide)
  by_cases h33 : t = 33
  · subst h33; exact fair_of h (by decide) (by decide)
  by_cases h35 : t = 35
  · subst h35; exact fair_of h (by decide) (by decide)
  by_cases h43 : t = 43
  · subst h43; exact fair_of h (by decide) (by decide)
  by_cases h46 : t = 46
  · subst h46; exact fair_of h (by decide) (by decide)
  by_cases h47 : t = 47
  · subst h47; exact fair_of h (by decide) (by decide)
  by_cases h48 : t = 48
  · subst h48; exact fair_of h (by decide) (by decide)
  by_cases h50 : t = 50
  · subst h50; exact fair_of h (by decide) (by decide)
  by_cases h51 : t = 51
  · subst h51; exact fair_of h (by decide) (by decide)
  by_cases h257 : t = 257
  · subst h257; exact fair_of h (by decide) (by decide)
  simp [formS, h1, h2, h5, h12, h39, h6, h13, h15, h16, h28, h33, h35, h43, h46, h47, h48, h50, h51, h257] at h
theorem fields_rd (fs : List Fld) (w : World) : RdF (w.alloc (fieldsO fs)) w.heap.size fs := by
  intro j f hf
  unfold fieldsO
  rw [World.cell?_alloc_new]
  simp [hf]

set_option maxRecDepth 100000 in
set_option maxHeartbeats 2000000 in
theorem dcheck_any (t : Int) (s : ByteArray) (w : World) (hs : s.size ≤ maxLen) :
    Calls Try.prog 28 #[.int .i64 t, .string s] w fun e w' => e = .returned (.int .i64 (checkS t s.data.toList)) ∧ Below w.heap.size w w' := by
  obtain ⟨R, HR⟩ : ∃ R, Hid (checkS t s.data.toList = R) := ⟨_, Lib.hid rfl⟩
  rw [HR.out]
  have CH := Lib.hid (fun w => holds_any t w)
  obtain ⟨b, hb⟩ : ∃ b, holdsB t = b := ⟨_, rfl⟩
  rw [hb] at CH
  cases b with
  | false =>
    have HN : Hid (6 = R) := Lib.hid (by rw [← HR.out, checkS, if_pos hb])
    clear hb
    go_enter Try.func28, Try.ntmps28
    go_wp2_with fail
    refine (CH.out _).mono ?_
    rintro e w1 ⟨rfl, rfl⟩
    go_wp2_with fail
    go_ret
    exact ⟨by rw [← HN.out]; rfl, Below.refl _ _⟩
  | true =>
    have hnb : ¬ holdsB t = false := by rw [hb]; simp
    by_cases hl : 65535 < s.size
    · have HN : Hid (7 = R) := Lib.hid (by rw [← HR.out, checkS, if_neg hnb, if_pos (by rw [size_len]; exact hl)])
      have hli : (65535 : Int) < (s.size : Int) := by omega
      clear hb hnb hl
      go_enter Try.func28, Try.ntmps28
      go_wp2_with fail
      refine (CH.out _).mono ?_
      rintro e w1 ⟨rfl, rfl⟩
      go_wp2_with fail
      go_ret
      exact ⟨by rw [← HN.out]; rfl, Below.refl _ _⟩
    · have hli : (s.size : Int) ≤ 65535 := by omega
      have hls : s.size ≤ 65535 := by omega
      have HC : Hid (R = if partsS t s.data.toList = none then 7 else 0) := Lib.hid (by rw [← HR.out, checkS, if_neg hnb, if_neg (by rw [size_len]; exact hl)])
      clear hb hnb hl
      cases hf : formS t with
      | none =>
        have HN : Hid (0 = R) := Lib.hid (by rw [HC.out]; unfold partsS; rw [hf]; rfl)
        have CF := Lib.hid (fun w => form_no t w hf)
        clear hf
        go_enter Try.func28, Try.ntmps28
        go_wp2_with fail
        refine (CH.out _).mono ?_
        rintro e w1 ⟨rfl, rfl⟩
        go_wp2_with fail
        refine (CF.out _).mono ?_
        rintro e w1 ⟨rfl, rfl⟩
        go_wp2_with fail
        go_ret
        exact ⟨by rw [← HN.out]; rfl, Below.refl _ _⟩
      | some fs =>
        have CF := Lib.hid (fun w => form_yes t fs w hf)
        have HFA := Lib.hid (form_fair hf)
        have HP : Hid (partsS t s.data.toList = match splitS fs s.data.toList with | some (p, []) => some p | _ => none) := Lib.hid (by unfold partsS; rw [hf]; rfl)
        obtain ⟨n, hn⟩ : ∃ n, fs.length = n := ⟨_, rfl⟩
        have CS := Lib.hid (fun w => split_any fs w.heap.size s (w.alloc (fieldsO fs)) (fields_rd fs w) (by rw [World.size_alloc]; omega) HFA.out hls n hn)
        unfold FormPost at CF
        rw [hn] at CF
        clear hf hn
        go_enter Try.func28, Try.ntmps28
        go_wp2_with fail
        refine (CH.out _).mono ?_
        rintro e w1 ⟨rfl, rfl⟩
        go_wp2_with fail
        refine (CF.out _).mono ?_
        rintro e w1 ⟨rfl, rfl⟩
        go_wp2_with fail
        refine (CS.out _).mono ?_
        rintro e w2 ⟨hB2, ⟨v, p, r, hsp, rfl, hown⟩ | ⟨hsp, rfl⟩⟩
        · have HB := Lib.hid (((Below.refl w.heap.size w).alloc (Nat.le_refl _) (fieldsO fs)).trans (hB2.mono (by rw [World.size_alloc]; omega)))
          have HQ : Hid (R = if r.isEmpty then 0 else 7) := Lib.hid (by rw [HC.out, HP.out, hsp]; cases r <;> simp)
          clear hB2 hsp hown
          cases r with
          | nil =>
            have HN : Hid (R = 0) := Lib.hid HQ.out
            simp only [List.isEmpty_nil]
            go_wp2_with fail
            go_ret
            exact ⟨by rw [HN.out]; rfl, HB.out⟩
          | cons x r =>
            have HN : Hid (R = 7) := Lib.hid HQ.out
            simp only [List.isEmpty_cons]
            go_wp2_with fail
            go_ret
            exact ⟨by rw [HN.out]; rfl, HB.out⟩
        · have HB := Lib.hid (((Below.refl w.heap.size w).alloc (Nat.le_refl _) (fieldsO fs)).trans (hB2.mono (by rw [World.size_alloc]; omega)))
          have HN : Hid (R = 7) := Lib.hid (by rw [HC.out, HP.out, hsp]; rfl)
          clear hB2 hsp
          go_wp2_with fail
          go_ret
          exact ⟨by rw [HN.out]; rfl, HB.out⟩
end Go.Proofs.Ythblaldkpjilhaa.dcheck

/- The number of a type's word: two ways to tell it, plain. -/
import Derived.Test.YtkcpbjoolfojjaaGreatDoorP12
import Derived.Lib.MapLaws
import Derived.Lib.TrimAscii
import Derived.Lib.TrimU
namespace Go.Proofs.YtkcpbjoolfojjaaGreatDoor.typeofP
open Go.RowKit Go.Proofs.YtkcpbjoolfojjaaGreatDoor.kit Go.Proofs.YtkcpbjoolfojjaaGreatDoor.low Go.Proofs.YtkcpbjoolfojjaaGreatDoor.tname Go.Proofs.YtkcpbjoolfojjaaGreatDoor.cnt Go.Proofs.YtkcpbjoolfojjaaGreatDoor.typeofR
set_option linter.unusedVariables false
abbrev Bt := List UInt8

theorem decode_high (s : ByteArray) (i : Nat) (h : 128 ≤ (s.get! i).toNat) : 128 ≤ (Utf8.decode s i).1 := by
  unfold Utf8.decode
  simp only [Nat.add_zero]
  repeat' split
  all_goals first | (simp only [Utf8.runeError]; omega) | omega | (simp_all; omega) | simp_all
theorem dl_high {b : UInt8} {t : Bt} (h : 128 ≤ b.toNat) : 128 ≤ (Lib.decodeL (b :: t)).1 := by
  unfold Lib.decodeL
  refine decode_high _ 0 ?_
  simpa [ByteArray.get!] using h
def fR (r : Int) : Int := if 126 < r then 63 else r
def Q (l : Bt) : Bt := Lib.mapD fR l
theorem enc_one {r : Int} (h0 : 0 ≤ r) (h1 : r ≤ 127) : Lib.encodeRune r = [r.toNat.toUInt8] := by
  unfold Lib.encodeRune; rw [Lib.encodeRuneZ_one h0 h1]; rfl
theorem q_low {b : UInt8} {t : Bt} (h : b.toNat ≤ 126) : Q (b :: t) = b :: Q t := by
  unfold Q
  rw [Lib.mapD_step _ _ (by simp), Lib.decodeL_ascii b t (by omega)]
  have e : fR ((b.toNat : Nat) : Int) = (b.toNat : Int) := by unfold fR; rw [if_neg (by omega)]
  simp only [e]
  rw [if_pos (by omega), enc_one (by omega) (by omega)]
  simp
theorem q_high {b : UInt8} {t : Bt} (h : 127 ≤ b.toNat) : ∃ r, Q (b :: t) = 63 :: Q r := by
  unfold Q
  rw [Lib.mapD_step _ _ (by simp)]
  have hr : 127 ≤ (Lib.decodeL (b :: t)).1 := by
    by_cases h2 : b.toNat < 128
    · rw [Lib.decodeL_ascii b t h2]; exact h
    · have := dl_high (b := b) (t := t) (by omega); omega
  have e : fR (((Lib.decodeL (b :: t)).1 : Nat) : Int) = 63 := by unfold fR; rw [if_pos (by omega)]
  rw [e, if_pos (by omega), enc_one (by omega) (by omega)]
  exact ⟨_, rfl⟩
theorem q_nil : Q [] = [] := Lib.mapD_nil _
theorem q_same : ∀ l : Bt, (∀ b ∈ l, b.toNat ≤ 126) → Q l = l
  | [], _ => q_nil
  | b :: t, h => by rw [q_low (h b List.mem_cons_self), q_same t (fun x hx => h x (List.mem_cons_of_mem _ hx))]
theorem q_mark : ∀ l : Bt, (∃ b ∈ l, 127 ≤ b.toNat) → (63 : UInt8) ∈ Q l
  | [], h => by obtain ⟨b, hb, _⟩ := h; cases hb
  | b :: t, h => by
    by_cases hb : b.toNat ≤ 126
    · rw [q_low hb]
      obtain ⟨x, hx, h2⟩ := h
      rcases List.mem_cons.1 hx with rfl | hx
      · omega
      · exact List.mem_cons_of_mem _ (q_mark t ⟨x, hx, h2⟩)
    · obtain ⟨r, hr⟩ := q_high (b := b) (t := t) (by omega)
      rw [hr]; exact List.mem_cons_self
theorem q_ascii : ∀ (n : Nat) (l : Bt), l.length ≤ n → ∀ b ∈ Q l, b.toNat ≤ 126
  | _, [], _, b, hb => by rw [q_nil] at hb; cases hb
  | 0, b :: t, hn, x, hx => by simp at hn
  | n + 1, b :: t, hn, x, hx => by
    by_cases hb : b.toNat ≤ 126
    · rw [q_low hb] at hx
      rcases List.mem_cons.1 hx with rfl | hx
      · exact hb
      · exact q_ascii n t (by simpa using hn) x hx
    · unfold Q at hx
      rw [Lib.mapD_step _ _ (by simp)] at hx
      have hr : 127 ≤ (Lib.decodeL (b :: t)).1 := by
        by_cases h2 : b.toNat < 128
        · rw [Lib.decodeL_ascii b t h2]; show 127 ≤ b.toNat; omega
        · have := dl_high (b := b) (t := t) (by omega); omega
      have e : fR (((Lib.decodeL (b :: t)).1 : Nat) : Int) = 63 := by unfold fR; rw [if_pos (by omega)]
      rw [e, if_pos (by omega), enc_one (by omega) (by omega)] at hx
      rcases List.mem_append.1 hx with h1 | h1
      · rw [List.mem_singleton] at h1; subst h1; decide
      · have hw := Lib.decodeL_width (b :: t)
        exact q_ascii n _ (by rw [List.length_drop]; omega) x h1
/-- the letters, made great -/
def upL (l : Bt) : Bt := l.map Lib.upperB
theorem byte_all {p : UInt8 → Prop} (h : ∀ i : Fin 256, p (UInt8.ofNat i.val)) (c : UInt8) : p c := by
  have := h ⟨c.toNat, c.toNat_lt⟩
  simpa using this
theorem up_low (c : UInt8) : Lib.upperB (lowB c) = Lib.upperB c := byte_all (p := fun c => Lib.upperB (lowB c) = Lib.upperB c) (by decide +kernel) c
theorem low_up (c : UInt8) : lowB (Lib.upperB c) = lowB c := byte_all (p := fun c => lowB (Lib.upperB c) = lowB c) (by decide +kernel) c
theorem dig_up (c : UInt8) : (digB (Lib.upperB c) = digB (lowB c)) ∧ (digB (lowB c) = true → Lib.upperB c = lowB c) := byte_all (p := fun c => (digB (Lib.upperB c) = digB (lowB c)) ∧ (digB (lowB c) = true → Lib.upperB c = lowB c)) (by decide +kernel) c
theorem high_low (c : UInt8) : 127 ≤ c.toNat → 127 ≤ (lowB c).toNat := byte_all (p := fun c => 127 ≤ c.toNat → 127 ≤ (lowB c).toNat) (by decide +kernel) c
theorem num_up : ∀ (l : Bt) (v : Int), numS v (l.map Lib.upperB) = numS v (lowL l)
  | [], v => rfl
  | c :: t, v => by
    have h := dig_up c
    simp only [List.map_cons, lowL, numS, h.1]
    by_cases hd : digB (lowB c) = true
    · rw [if_pos hd, if_pos hd, h.2 hd]; exact num_up t _
    · rw [if_neg hd, if_neg hd]
theorem num_bad : ∀ (l : Bt) (v : Int), (∃ b ∈ l, digB b = false) → numS v l = -1
  | [], v, h => by obtain ⟨b, hb, _⟩ := h; cases hb
  | c :: t, v, h => by
    unfold numS
    by_cases hd : digB c = true
    · rw [if_pos hd]
      obtain ⟨b, hb, h2⟩ := h
      rcases List.mem_cons.1 hb with rfl | hb
      · rw [hd] at h2; cases h2
      · exact num_bad t _ ⟨b, hb, h2⟩
    · rw [if_neg hd]
theorem count_bad {l : Bt} {n : Nat} {top : Int} (ht : -1 ≤ top) (h : ∃ b ∈ l, digB b = false) : countS l n top = -1 := by
  unfold countS
  split
  · rfl
  · rw [num_bad l 0 h]; split <;> rfl
theorem upL_lowL (l : Bt) : upL (lowL l) = upL l := by
  unfold upL lowL; rw [List.map_map]; exact List.map_congr_left fun c _ => up_low c
theorem lowL_upL (l : Bt) : lowL (upL l) = lowL l := by
  unfold upL lowL; rw [List.map_map]; exact List.map_congr_left fun c _ => low_up c
theorem mnem_up : ∀ p ∈ mnemL, upL p.2 = p.2 ∧ p.2.length ≤ 10 ∧ (∀ b ∈ p.2, b.toNat ≤ 126 ∧ b ≠ 63) ∧ (lowL p.2).take 4 ≠ wordT := by decide +kernel
/-- what data.TypeOf tells of the text with its letters great -/
def capT : Bt := [84, 89, 80, 69]
def hitU (U : Bt) : Option Int := (mnemL.find? (fun p => p.2 == U)).map (·.1)
def typeOfU (U : Bt) : Int := if Lib.hasPrefix U capT then max (countS (U.drop 4) 5 65535) 0 else (hitU U).getD 0
def typeOfD (l : Bt) : Int := if 10 < l.length then 0 else typeOfU (upL (Q l))
theorem rest_long {L : Bt} (h : 10 < L.length) : restS L = 0 := by
  unfold restS
  split
  · rfl
  · rw [count_out (.inr (by rw [List.length_drop]; omega))]; rfl
theorem hit_long {L : Bt} (h : 10 < L.length) : hitS L = none := hit_no fun p hp e => by
  have h1 := (mnem_up p hp).2.1
  have h2 := congrArg List.length e
  rw [lowL, List.length_map] at h2; omega
theorem find_same {α : Type} (f g : α → Bool) : ∀ (L : List α), (∀ p ∈ L, f p = g p) → L.find? f = L.find? g
  | [], _ => rfl
  | p :: L, h => by rw [List.find?_cons, List.find?_cons, h p List.mem_cons_self, find_same f g L (fun q hq => h q (List.mem_cons_of_mem _ hq))]
theorem hitU_low {l : Bt} : hitU (upL l) = hitS (lowL l) := by
  unfold hitU hitS
  congr 1
  have hc : ∀ p ∈ mnemL, (p.2 == upL l) = (lowL p.2 == lowL l) := by
    intro p hp
    rw [Bool.eq_iff_iff, beq_iff_eq, beq_iff_eq]
    constructor
    · intro h; rw [h, lowL_upL]
    · intro h
      have h1 := congrArg upL h
      rw [upL_lowL, upL_lowL, (mnem_up p hp).1] at h1; exact h1
  exact find_same _ _ _ hc
theorem pre_take {U : Bt} : Lib.hasPrefix U capT = true ↔ U.take 4 = capT := by
  unfold Lib.hasPrefix
  rw [List.isPrefixOf_iff_prefix]
  constructor
  · rintro ⟨r, rfl⟩; rfl
  · intro h; exact ⟨U.drop 4, by rw [← h]; exact List.take_append_drop 4 U⟩
theorem cap_word (l : Bt) : (upL l).take 4 = capT ↔ (lowL l).take 4 = wordT := by
  have e1 : (upL l).take 4 = upL (l.take 4) := by unfold upL; rw [List.map_take]
  have e2 : (lowL l).take 4 = lowL (l.take 4) := by unfold lowL; rw [List.map_take]
  rw [e1, e2]
  constructor
  · intro h
    have := congrArg lowL h
    rw [lowL_upL] at this; exact this
  · intro h
    have := congrArg upL h
    rw [upL_lowL] at this; exact this
theorem hit_word {L : Bt} (h : L.take 4 = wordT) : hitS L = none := hit_no fun p hp e => by
  have h1 := (mnem_up p hp).2.2.2
  rw [e] at h1; exact h1 h
theorem drop_num (l : Bt) : countS ((upL l).drop 4) 5 65535 = countS ((lowL l).drop 4) 5 65535 := by
  have e1 : (upL l).drop 4 = (l.drop 4).map Lib.upperB := by unfold upL; rw [List.map_drop]
  have e2 : (lowL l).drop 4 = lowL (l.drop 4) := by unfold lowL; rw [List.map_drop]
  rw [e1, e2]
  unfold countS
  rw [num_up]
  simp only [lowL, List.map_eq_nil_iff, List.length_map]
theorem typeof_same (l : Bt) : typeOfD l = typeOfS l := by
  unfold typeOfD typeOfS
  by_cases hlen : 10 < l.length
  · rw [if_pos hlen, hit_long (by rw [lowL, List.length_map]; exact hlen), rest_long (by rw [lowL, List.length_map]; exact hlen)]; rfl
  rw [if_neg hlen]
  by_cases ha : ∀ b ∈ l, b.toNat ≤ 126
  · rw [q_same l ha]
    unfold typeOfU
    by_cases hp : (lowL l).take 4 = wordT
    · rw [if_pos (pre_take.2 ((cap_word l).2 hp)), hit_word hp, drop_num]
      show max _ 0 = restS (lowL l)
      unfold restS
      by_cases h5 : (lowL l).length < 5
      · rw [if_pos (.inl h5)]
        have : (lowL l).drop 4 = [] := List.drop_eq_nil_of_le (by omega)
        rw [this, count_out (.inl rfl)]; rfl
      · rw [if_neg (fun h => h.elim h5 (fun h => h hp))]
        split <;> omega
    · rw [if_neg (fun h => hp ((cap_word l).1 (pre_take.1 h))), hitU_low]
      cases hh : hitS (lowL l) with
      | some t => rfl
      | none => show 0 = restS (lowL l); unfold restS; rw [if_pos (.inr hp)]
  · have hb : ∃ b ∈ l, 127 ≤ b.toNat := by
      have h1 : ¬ ∀ b ∈ l, b.toNat ≤ 126 := ha
      rw [Classical.not_forall] at h1
      obtain ⟨b, h2⟩ := h1
      rw [Classical.not_imp] at h2
      exact ⟨b, h2.1, by omega⟩
    have h63 : (63 : UInt8) ∈ upL (Q l) := by
      have := q_mark l hb
      exact List.mem_map.2 ⟨63, this, by decide⟩
    have hlow : ∃ b ∈ lowL l, 127 ≤ b.toNat := by
      obtain ⟨b, h1, h2⟩ := hb
      exact ⟨lowB b, List.mem_map.2 ⟨b, h1, rfl⟩, high_low b h2⟩
    have hn : hitS (lowL l) = none := hit_no fun p hp e => by
      obtain ⟨b, h1, h2⟩ := hlow
      rw [← e] at h1
      obtain ⟨c, h3, rfl⟩ := List.mem_map.1 h1
      have h4 := ((mnem_up p hp).2.2.1 c h3).1
      have h5 : ∀ i : Fin 256, (UInt8.ofNat i.val).toNat ≤ 126 → (lowB (UInt8.ofNat i.val)).toNat ≤ 126 := by decide +kernel
      have h6 := byte_all (p := fun c => c.toNat ≤ 126 → (lowB c).toNat ≤ 126) h5 c h4
      omega
    have hu : hitU (upL (Q l)) = none := by
      unfold hitU
      rw [List.find?_eq_none.2 (fun p hp e => by
        have h1 : p.2 = upL (Q l) := by simpa using e
        exact ((mnem_up p hp).2.2.1 63 (h1 ▸ h63)).2 rfl)]; rfl
    have hsplit : ∀ (U : Bt) (x : UInt8), x ∈ U → x ∈ U.take 4 ∨ x ∈ U.drop 4 := fun U x h => by
      rw [← List.mem_append, List.take_append_drop]; exact h
    rw [hn]
    show typeOfU _ = restS (lowL l)
    have hr : restS (lowL l) = 0 := by
      unfold restS
      split
      · rfl
      · rename_i h
        simp only [not_or, Classical.not_not] at h
        obtain ⟨b, h1, h2⟩ := hlow
        rcases hsplit _ b h1 with h3 | h3
        · rw [h.2] at h3
          simp only [wordT, List.mem_cons, List.not_mem_nil, or_false] at h3
          rcases h3 with rfl | rfl | rfl | rfl <;> exact absurd h2 (by decide)
        · rw [count_bad (by decide) ⟨b, h3, by simp [digB]; omega⟩]; rfl
    rw [hr]
    unfold typeOfU
    by_cases hp : Lib.hasPrefix (upL (Q l)) capT = true
    · rw [if_pos hp]
      rcases hsplit _ 63 h63 with h3 | h3
      · rw [pre_take.1 hp] at h3; exact absurd h3 (by decide)
      · rw [count_bad (by decide) ⟨63, h3, by decide⟩]; rfl
    · rw [if_neg hp, hu]; rfl
end Go.Proofs.YtkcpbjoolfojjaaGreatDoor.typeofP

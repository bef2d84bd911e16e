/- Base 32 goes back, and keeps the order: plain. -/
import Derived.Test.YtjflojefpaffeaaWhole
namespace Go.Proofs.Ytjflojefpaffeaa.order32
open Go.Proofs.Ytjflojefpaffeaa.kit Go.Proofs.Ytjflojefpaffeaa.bits Go.Proofs.Ytjflojefpaffeaa.back Go.Proofs.Ytjflojefpaffeaa.low Go.Proofs.Ytjflojefpaffeaa.to32 Go.Proofs.Ytjflojefpaffeaa.spread

theorem ofb_lt (l : List Nat) (h : ∀ x ∈ l, x ≤ 1) : ofb l < 2 ^ l.length := by
  induction l with
  | nil => simp [ofb]
  | cons b r ih =>
    have hb := h b (by simp)
    have hr := ih (fun x hx => h x (by simp [hx]))
    rw [ofb_cons, List.length_cons, Nat.pow_succ]
    have : b * 2 ^ r.length ≤ 1 * 2 ^ r.length := Nat.mul_le_mul_right _ hb
    omega
theorem tob_ofb (l : List Nat) (h : ∀ x ∈ l, x ≤ 1) : tob (ofb l) l.length = l := by
  induction l with
  | nil => rfl
  | cons b r ih =>
    have hb := h b (by simp)
    have hr := fun x hx => h x (List.mem_cons_of_mem b hx)
    have hlt := ofb_lt r hr
    have hp := Nat.two_pow_pos r.length
    rw [List.length_cons, tob, ofb_cons]
    have e1 : (b * 2 ^ r.length + ofb r) / 2 ^ r.length % 2 = b := by
      rw [Nat.add_comm, Nat.add_mul_div_right _ _ hp, Nat.div_eq_of_lt hlt]; omega
    have e2 : tob (b * 2 ^ r.length + ofb r) r.length = r := by
      rw [← tob_mod _ _ r.length (Nat.le_refl _), Nat.add_comm, Nat.add_mul_mod_self_right, Nat.mod_eq_of_lt hlt, ih hr]
    rw [e1, e2]
/-- what is written is read -/
theorem dec_enc (n : Nat) (al : List UInt8) (val : UInt8 → Option Nat) (hn : 1 ≤ n) (hv : ∀ v, v < 2 ^ n → val (al.getD v 0) = some v) : ∀ (f : Nat) (l : List Nat), l.length ≤ f → (∀ x ∈ l, x ≤ 1) →
    ∃ z, z < n ∧ spreadS n val (enc n al l) = some (l ++ List.replicate z 0)
  | f, [], _, _ => ⟨0, hn, by simp [enc_nil, spreadS]⟩
  | 0, b :: r, h, _ => by simp at h
  | f + 1, b :: r, h, h1 => by
    have hne : b :: r ≠ [] := by simp
    by_cases hl : n ≤ (b :: r).length
    · have ht : ((b :: r) ++ List.replicate n 0).take n = (b :: r).take n := List.take_append_of_le_length hl
      have hlen : ((b :: r).take n).length = n := by rw [List.length_take]; omega
      have h2 : ∀ x ∈ (b :: r).take n, x ≤ 1 := fun x hx => h1 x (List.mem_of_mem_take hx)
      have hlt := ofb_lt _ h2
      rw [hlen] at hlt
      obtain ⟨z, hz, e⟩ := dec_enc n al val hn hv f ((b :: r).drop n) (by rw [List.length_drop]; omega) (fun x hx => h1 x (List.mem_of_mem_drop hx))
      refine ⟨z, hz, ?_⟩
      have e2 := tob_ofb _ h2
      rw [hlen] at e2
      rw [enc_step al hn hne, ht, spread_cons_some (hv _ hlt), e, e2]
      simp only [Option.map_some, ← List.append_assoc, List.take_append_drop]
    · have hle : (b :: r).length ≤ n := by omega
      refine ⟨n - (b :: r).length, by rw [List.length_cons]; omega, ?_⟩
      have ht : ((b :: r) ++ List.replicate n 0).take n = (b :: r) ++ List.replicate (n - (b :: r).length) 0 := by
        rw [List.take_append, List.take_of_length_le hle, List.take_replicate]; congr 2; omega
      have h2 : ∀ x ∈ (b :: r) ++ List.replicate (n - (b :: r).length) 0, x ≤ 1 := by
        intro x hx
        rcases List.mem_append.1 hx with hx | hx
        · exact h1 x hx
        · rw [List.mem_replicate] at hx; omega
      have hlen : ((b :: r) ++ List.replicate (n - (b :: r).length) 0).length = n := by rw [List.length_append, List.length_replicate]; omega
      have hlt := ofb_lt _ h2
      rw [hlen] at hlt
      have e2 := tob_ofb _ h2
      rw [hlen] at e2
      have hd : (b :: r).drop n = [] := by rw [List.drop_eq_nil_iff]; exact hle
      rw [enc_step al hn hne, ht, hd, enc_nil, spread_cons_some (hv _ hlt), e2]
      simp [spreadS]
theorem whole_bits (most z : Nat) (hz : z < most) (hz8 : z < 8) : ∀ l : List UInt8, whole most (bitsL l ++ List.replicate z 0) = some l
  | [] => by
    rw [show bitsL [] ++ List.replicate z 0 = List.replicate z 0 from rfl, whole_end (by rw [List.length_replicate]; exact hz8)]
    have : zeros (List.replicate z 0) = true := by simp [zeros]
    rw [this, List.length_replicate]; simp [hz]
  | c :: r => by
    rw [bits_cons, List.append_assoc, whole_byte, whole_bits most z hz hz8 r]
    simp
theorem val_letter32 : ∀ v, v < 2 ^ 5 → val32 (set32.getD v 0) = some v := by decide +kernel
theorem val_index32 : ∀ v, v < 2 ^ 5 → valA set32 (set32.getD v 0) = some v := by decide +kernel
theorem back_to (l : List UInt8) : from32S (to32S l) = some l := by
  obtain ⟨z, hz, e⟩ := dec_enc 5 set32 val32 (by omega) val_letter32 (bitsL l).length (bitsL l) (Nat.le_refl _) (coded.bitsL_01 l)
  unfold from32S to32S backS
  rw [e]
  simp only [Option.bind_some, List.nil_append]
  rw [whole_bits 5 z hz (by omega)]; simp

theorem lex_num {M a b X Y : Nat} (hX : X < M) (hY : Y < M) : (a * M + X < b * M + Y) ↔ (a < b ∨ (a = b ∧ X < Y)) := by
  rcases Nat.lt_trichotomy a b with h | h | h
  · have : (a + 1) * M ≤ b * M := Nat.mul_le_mul_right _ h
    rw [Nat.add_mul] at this
    omega
  · subst h; omega
  · have : (b + 1) * M ≤ a * M := Nat.mul_le_mul_right _ h
    rw [Nat.add_mul] at this
    omega
/-- the order of letters is the order of their number -/
theorem less_num (n : Nat) (val : UInt8 → Option Nat) (hlt : ∀ c v, val c = some v → v < 2 ^ n) (hmono : ∀ c d v u, val c = some v → val d = some u → (c < d ↔ v < u) ∧ (c = d ↔ v = u)) :
    ∀ (x y : List UInt8) (p q : List Nat), x.length = y.length → spreadS n val x = some p → spreadS n val y = some q → Op.bytesLess x y = decide (ofb p < ofb q)
  | [], [], p, q, _, hp, hq => by
    have e1 : p = [] := by simpa [spreadS] using hp.symm
    have e2 : q = [] := by simpa [spreadS] using hq.symm
    subst e1; subst e2
    simp [Op.bytesLess]
  | [], d :: y, p, q, h, _, _ => by simp at h
  | c :: x, [], p, q, h, _, _ => by simp at h
  | c :: x, d :: y, p, q, h, hp, hq => by
    cases hc : val c with
    | none => rw [spread_cons_none hc] at hp; simp at hp
    | some v =>
      cases hd : val d with
      | none => rw [spread_cons_none hd] at hq; simp at hq
      | some u =>
        rw [spread_cons_some hc] at hp
        rw [spread_cons_some hd] at hq
        cases hx : spreadS n val x with
        | none => rw [hx] at hp; simp at hp
        | some p' =>
          cases hy : spreadS n val y with
          | none => rw [hy] at hq; simp at hq
          | some q' =>
            rw [hx] at hp; rw [hy] at hq
            have e1 : p = tob v n ++ p' := by simpa using hp.symm
            have e2 : q = tob u n ++ q' := by simpa using hq.symm
            have hl : x.length = y.length := by simpa using h
            have ih := less_num n val hlt hmono x y p' q' hl hx hy
            have hp1 := ofb_lt p' (spread_01 n val x p' hx)
            have hq1 := ofb_lt q' (spread_01 n val y q' hy)
            have hpl := spread_len n val x p' hx
            have hql := spread_len n val y q' hy
            rw [hpl] at hp1
            rw [hql, ← hl] at hq1
            subst e1; subst e2
            rw [ofb_append, ofb_append, ofb_tob, ofb_tob, Nat.mod_eq_of_lt (hlt c v hc), Nat.mod_eq_of_lt (hlt d u hd), hpl, hql, ← hl]
            obtain ⟨m1, m2⟩ := hmono c d v u hc hd
            rw [Op.bytesLess, ih, Bool.eq_iff_iff]
            simp only [Bool.or_eq_true, Bool.and_eq_true, decide_eq_true_eq, beq_iff_eq]
            rw [lex_num hp1 hq1, m1, m2]
theorem spread_bytes (l : List UInt8) : spreadS 8 (fun c => some c.toNat) l = some (bitsL l) := by
  induction l with
  | nil => rfl
  | cons c r ih => rw [spread_cons_some (v := c.toNat) rfl, ih]; rfl
theorem less_bytes (x y : List UInt8) (h : x.length = y.length) : Op.bytesLess x y = decide (ofb (bitsL x) < ofb (bitsL y)) :=
  less_num 8 (fun c => some c.toNat) (fun c v hv => by injection hv with hv; subst hv; exact c.toNat_lt) (fun c d v u hv hu => by
    injection hv with hv; injection hu with hu; subst hv; subst hu
    exact ⟨UInt8.lt_iff_toNat_lt, ⟨fun e => by rw [e], fun e => UInt8.toNat_inj.1 e⟩⟩) x y _ _ h (spread_bytes x) (spread_bytes y)
theorem mono32 (c d : UInt8) (v u : Nat) (hv : valA set32 c = some v) (hu : valA set32 d = some u) : (c < d ↔ v < u) ∧ (c = d ↔ v = u) := by
  have key : ∀ n : Fin 256, ∀ k, valA set32 (UInt8.ofNat n) = some k → k < 32 ∧ UInt8.ofNat n = set32.getD k 0 := by
    intro n k
    revert n
    have h0 : ∀ n : Fin 256, (match valA set32 (UInt8.ofNat n) with | none => true | some k => decide (k < 32 ∧ UInt8.ofNat n = set32.getD k 0)) = true := by decide +kernel
    intro n h
    have := h0 n
    rw [h] at this
    simpa using this
  have h1 := key ⟨c.toNat, c.toNat_lt⟩ v (by simpa using hv)
  have h2 := key ⟨d.toNat, d.toNat_lt⟩ u (by simpa using hu)
  simp only [UInt8.ofNat_toNat] at h1 h2
  obtain ⟨h1, e1⟩ := h1
  obtain ⟨h2, e2⟩ := h2
  have tab : ∀ a : Fin 32, ∀ b : Fin 32, (set32.getD a 0 < set32.getD b 0 ↔ a.val < b.val) ∧ (set32.getD a 0 = set32.getD b 0 ↔ a.val = b.val) := by decide +kernel
  rw [e1, e2]
  exact tab ⟨v, h1⟩ ⟨u, h2⟩
theorem val_lt32 (c : UInt8) (v : Nat) (hv : valA set32 c = some v) : v < 2 ^ 5 := by
  unfold valA at hv
  have := idx_lt set32 c
  split at hv
  · simp at hv
  · injection hv with hv
    have h32 : set32.length = 32 := rfl
    omega
theorem ofb_pad (l : List Nat) (z : Nat) : ofb (l ++ List.replicate z 0) = ofb l * 2 ^ z := by
  rw [ofb_append, ofb_zero, List.length_replicate, Nat.add_zero]
theorem order_to (x y : List UInt8) (h : x.length = y.length) : Op.bytesLess (to32S x) (to32S y) = Op.bytesLess x y := by
  obtain ⟨z, hz, e⟩ := dec_enc 5 set32 (valA set32) (by omega) val_index32 (bitsL x).length (bitsL x) (Nat.le_refl _) (coded.bitsL_01 x)
  obtain ⟨z', hz', e'⟩ := dec_enc 5 set32 (valA set32) (by omega) val_index32 (bitsL y).length (bitsL y) (Nat.le_refl _) (coded.bitsL_01 y)
  have l1 := spread_len 5 (valA set32) _ _ e
  have l2 := spread_len 5 (valA set32) _ _ e'
  rw [List.length_append, List.length_replicate, bitsL_len] at l1 l2
  have hl : (enc 5 set32 (bitsL x)).length = (enc 5 set32 (bitsL y)).length := by omega
  have hzz : z = z' := by omega
  subst hzz
  unfold to32S
  rw [less_num 5 (valA set32) val_lt32 mono32 _ _ _ _ hl e e', ofb_pad, ofb_pad, less_bytes x y h, decide_eq_decide]
  exact Nat.mul_lt_mul_right (Nat.two_pow_pos z)
theorem eq_to (x y : List UInt8) : (to32S x == to32S y) = (x == y) := by
  rw [Bool.eq_iff_iff, beq_iff_eq, beq_iff_eq]
  constructor
  · intro h
    have h1 := back_to x
    rw [h, back_to y] at h1
    exact (Option.some.inj h1).symm
  · intro h; rw [h]
theorem foobar : to32S [102, 111, 111, 98, 97, 114] = [99, 112, 110, 109, 117, 111, 106, 49, 101, 56] := by decide +kernel
end Go.Proofs.Ytjflojefpaffeaa.order32

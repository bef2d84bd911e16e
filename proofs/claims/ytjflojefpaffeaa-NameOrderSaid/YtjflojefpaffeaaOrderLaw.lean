/- The order of names: plain laws of cmpS. -/
import Derived.Test.YtjflojefpaffeaaRefCmp
import Derived.Test.YtjflojefpaffeaaNameC
namespace Go.Proofs.Ytjflojefpaffeaa.ordl
open Go.RowKit Go.Proofs.Ytjflojefpaffeaa.kit Go.Proofs.Ytjflojefpaffeaa.check Go.Proofs.Ytjflojefpaffeaa.nspec Go.Proofs.Ytjflojefpaffeaa.rsplit Go.Proofs.Ytjflojefpaffeaa.low Go.Proofs.Ytjflojefpaffeaa.refA Go.Proofs.Ytjflojefpaffeaa.refB Go.Proofs.Ytjflojefpaffeaa.nameA Go.Proofs.Ytjflojefpaffeaa.nameB Go.Proofs.Ytjflojefpaffeaa.nameC Go.Proofs.Ytjflojefpaffeaa.ncmp Go.Proofs.Ytjflojefpaffeaa.rcmp Go.Proofs.Ytjflojefpaffeaa.refC

theorem cb_neg : ∀ u v : List UInt8, Lib.compareBytes v u = - Lib.compareBytes u v
  | [], [] => rfl
  | [], _ :: _ => rfl
  | _ :: _, [] => rfl
  | a :: u, b :: v => by
    simp only [Lib.compareBytes]
    by_cases h1 : a < b
    · have h2 : ¬ b < a := by rw [UInt8.lt_iff_toNat_lt] at h1 ⊢; omega
      simp [h1, h2]
    · by_cases h2 : b < a
      · simp [h1, h2]
      · simp [h1, h2, cb_neg u v]
theorem cb_trans : ∀ u v z : List UInt8, Lib.compareBytes u v = -1 → Lib.compareBytes v z = -1 → Lib.compareBytes u z = -1
  | [], _, [], h1, h2 => by
    rename_i v
    cases v <;> simp [Lib.compareBytes] at h1 h2
  | [], _, _ :: _, _, _ => rfl
  | _ :: _, [], _, h1, _ => by simp [Lib.compareBytes] at h1
  | _ :: _, _ :: _, [], _, h2 => by simp [Lib.compareBytes] at h2
  | a :: u, b :: v, c :: z, h1, h2 => by
    simp only [Lib.compareBytes] at h1 h2 ⊢
    by_cases ab : a < b
    · by_cases bc : b < c
      · have : a < c := by rw [UInt8.lt_iff_toNat_lt] at *; omega
        rw [if_pos this]
      · rw [if_neg bc] at h2
        by_cases cb : c < b
        · rw [if_pos cb] at h2; omega
        · have e : b = c := by
            rw [UInt8.lt_iff_toNat_lt] at bc cb
            exact UInt8.toNat.inj (by omega)
          rw [if_pos (e ▸ ab)]
    · rw [if_neg ab] at h1
      by_cases ba : b < a
      · rw [if_pos ba] at h1; omega
      · rw [if_neg ba] at h1
        have e : a = b := by
          rw [UInt8.lt_iff_toNat_lt] at ab ba
          exact UInt8.toNat.inj (by omega)
        subst e
        by_cases bc : a < c
        · rw [if_pos bc]
        · rw [if_neg bc] at h2 ⊢
          by_cases cb : c < a
          · rw [if_pos cb] at h2; omega
          · rw [if_neg cb] at h2 ⊢
            exact cb_trans u v z h1 h2

theorem cr_ge : ∀ x y : List Bs, -1 ≤ cmpR x y ∧ cmpR x y ≤ 1
  | [], [] => by simp [cmpR]
  | [], _ :: _ => by simp [cmpR]
  | _ :: _, [] => by simp [cmpR]
  | p :: x, q :: y => by
    simp only [cmpR]
    split
    · exact cr_ge x y
    · exact cmp_ge p q
theorem cr_neg : ∀ x y : List Bs, cmpR y x = - cmpR x y
  | [], [] => rfl
  | [], _ :: _ => rfl
  | _ :: _, [] => rfl
  | p :: x, q :: y => by
    simp only [cmpR]
    rw [cb_neg p q]
    by_cases h : Lib.compareBytes p q = 0
    · rw [if_pos h, if_pos (by omega), cr_neg x y]
    · rw [if_neg h, if_neg (by omega)]
theorem cr_eq0 : ∀ x y : List Bs, cmpR x y = 0 ↔ x = y
  | [], [] => by simp [cmpR]
  | [], _ :: _ => by simp [cmpR]
  | _ :: _, [] => by simp [cmpR]
  | p :: x, q :: y => by
    simp only [cmpR]
    by_cases h : Lib.compareBytes p q = 0
    · rw [if_pos h, cr_eq0 x y, (cmp_eq0 p q).1 h]; simp
    · rw [if_neg h]
      have : p ≠ q := fun e => h ((cmp_eq0 p q).2 e)
      simp [h, this]
theorem cr_trans : ∀ x y z : List Bs, cmpR x y = -1 → cmpR y z = -1 → cmpR x z = -1
  | [], y, [], h1, h2 => by cases y <;> simp [cmpR] at h1 h2
  | [], _, _ :: _, _, _ => rfl
  | _ :: _, [], _, h1, _ => by simp [cmpR] at h1
  | _ :: _, _ :: _, [], _, h2 => by simp [cmpR] at h2
  | p :: x, q :: y, r :: z, h1, h2 => by
    simp only [cmpR] at h1 h2 ⊢
    by_cases pq : Lib.compareBytes p q = 0
    · obtain rfl := (cmp_eq0 p q).1 pq
      rw [if_pos pq] at h1
      by_cases qr : Lib.compareBytes p r = 0
      · rw [if_pos qr] at h2 ⊢
        exact cr_trans x y z h1 h2
      · rw [if_neg qr] at h2 ⊢; exact h2
    · rw [if_neg pq] at h1
      by_cases qr : Lib.compareBytes q r = 0
      · obtain rfl := (cmp_eq0 q r).1 qr
        rw [if_neg pq]; exact h1
      · rw [if_neg qr] at h2
        have := cb_trans p q r h1 h2
        rw [if_neg (by omega)]; exact this
theorem cr_pre : ∀ x y : List Bs, x <+: y → cmpR x y ≤ 0
  | [], [], _ => by simp [cmpR]
  | [], _ :: _, _ => by simp [cmpR]
  | _ :: _, [], h => by simp at h
  | p :: x, q :: y, h => by
    obtain ⟨rfl, h2⟩ := List.cons_prefix_cons.1 h
    simp only [cmpR]
    rw [if_pos ((cmp_eq0 p p).2 rfl)]
    exact cr_pre x y h2
theorem cr_mid : ∀ x y z : List Bs, cmpR x y ≤ 0 → cmpR y z ≤ 0 → x <+: z → x <+: y
  | [], _, _, _, _, _ => List.nil_prefix
  | _ :: _, [], _, h1, _, _ => by simp [cmpR] at h1
  | _ :: _, _ :: _, [], _, _, h3 => by simp at h3
  | p :: x, q :: y, r :: z, h1, h2, h3 => by
    obtain ⟨rfl, h4⟩ := List.cons_prefix_cons.1 h3
    simp only [cmpR] at h1 h2
    have hn := cb_neg p q
    by_cases pq : Lib.compareBytes p q = 0
    · obtain rfl := (cmp_eq0 p q).1 pq
      rw [if_pos pq] at h1 h2
      exact List.cons_prefix_cons.2 ⟨rfl, cr_mid x y z h1 h2 h4⟩
    · rw [if_neg pq] at h1
      rw [if_neg (by omega)] at h2
      omega

theorem withinS_iff {n z : Bs} {l x : List Bs} (hn : IsN n l) (hz : IsN z x) : withinS n z = true ↔ (x.map lowL).reverse <+: (l.map lowL).reverse := by
  rw [List.reverse_prefix]
  constructor
  · intro h
    obtain ⟨h1, h2⟩ := within_len hn hz h
    rw [← h2, List.map_drop]
    exact List.drop_suffix _ _
  · intro h
    rw [← within_same]
    unfold withinP
    rw [countS_yes hz, decide_eq_true (by omega), Bool.true_and]
    have hle : x.length ≤ l.length := by simpa using h.length_le
    have ht := tail_isN hn x.length hle
    unfold equalS
    rw [split_iff.2 ht, split_iff.2 hz]
    simp only [decide_eq_true_eq]
    obtain ⟨t, ht⟩ := h
    have hd : (l.map lowL).drop (l.length - x.length) = x.map lowL := by
      rw [← ht]
      have : l.length - x.length = t.length := by
        have := congrArg List.length ht; simp at this; omega
      rw [this, List.drop_left]
    rw [List.map_drop, hd]
end Go.Proofs.Ytjflojefpaffeaa.ordl

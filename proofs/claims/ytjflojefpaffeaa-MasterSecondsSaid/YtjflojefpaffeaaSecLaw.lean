/- The plain law of times: both functions answer alike. -/
import Derived.Test.YtjflojefpaffeaaSec
namespace Go.Proofs.Ytjflojefpaffeaa.secLaw
open Go.Proofs.Ytjflojefpaffeaa.low Go.Proofs.Ytjflojefpaffeaa.sec

abbrev dig (c : UInt8) : Prop := 48 ≤ c.toNat ∧ c.toNat ≤ 57
def val : List UInt8 → Int → Int
  | [], v => v
  | c :: r, v => val r (v * 10 + (c.toNat : Int) - 48)
def allDig (l : List UInt8) : Prop := ∀ c ∈ l, dig c

theorem val_bd : ∀ (l : List UInt8) (v : Int) (n : Nat), allDig l → 0 ≤ v → v ≤ nines n → 0 ≤ val l v ∧ val l v ≤ nines (n + l.length)
  | [], v, n, _, h0, h1 => ⟨h0, h1⟩
  | c :: r, v, n, hd, h0, h1 => by
    have hc : dig c := hd c (by simp)
    have := val_bd r (v * 10 + (c.toNat : Int) - 48) (n + 1) (fun x hx => hd x (by simp [hx])) (by have := hc.1; omega) (by have := hc.2; simp only [nines]; omega)
    simp only [val, List.length_cons]
    rw [show n + (r.length + 1) = n + 1 + r.length from by omega]
    exact this

theorem numLoop_dig (top : Int) : ∀ (l : List UInt8) (v : Int), allDig l → numLoop top l v = if top < val l v then -1 else val l v
  | [], v, _ => rfl
  | c :: r, v, hd => by
    have hc : dig c := hd c (by simp)
    simp only [numLoop, val]
    rw [if_neg (by have := hc.1; omega), if_neg (by have := hc.2; omega)]
    exact numLoop_dig top r _ (fun x hx => hd x (by simp [hx]))
theorem numLoop_bad (top : Int) : ∀ (l : List UInt8) (v : Int), ¬ allDig l → numLoop top l v = -1
  | [], v, h => absurd (fun x hx => by cases hx) h
  | c :: r, v, h => by
    simp only [numLoop]
    split
    · rfl
    · split
      · rfl
      · refine numLoop_bad top r _ (fun hr => h ?_)
        intro x hx
        cases List.mem_cons.1 hx with
        | inl e => subst e; exact ⟨by omega, by omega⟩
        | inr e => exact hr x e

theorem digs_all {l : List UInt8} (h : allDig l) : digs l = l.length := by
  induction l with
  | nil => rfl
  | cons c r ih =>
    have hc : dig c := h c (by simp)
    simp only [digs]; rw [if_pos hc, ih (fun x hx => h x (by simp [hx]))]; rfl
theorem digs_take : ∀ (l : List UInt8), allDig (l.take (digs l))
  | [] => by intro c hc; simp at hc
  | c :: r => by
    simp only [digs]
    split
    · rename_i h
      intro x hx
      rw [List.take_succ_cons] at hx
      cases List.mem_cons.1 hx with
      | inl e => subst e; exact h
      | inr e => exact digs_take r x e
    · intro x hx; simp at hx
theorem digs_next : ∀ (l : List UInt8), digs l < l.length → ∃ c r, l.drop (digs l) = c :: r ∧ ¬ dig c
  | [], h => by simp [digs] at h
  | c :: r, h => by
    by_cases hc : dig c
    · simp only [digs, if_pos (show 48 ≤ c.toNat ∧ c.toNat ≤ 57 from hc), List.length_cons] at h ⊢
      obtain ⟨d, t, h1, h2⟩ := digs_next r (by omega)
      exact ⟨d, t, by simpa using h1, h2⟩
    · exact ⟨c, r, by simp only [digs]; rw [if_neg (show ¬ (48 ≤ c.toNat ∧ c.toNat ≤ 57) from hc)]; rfl, hc⟩

theorem mas_run : ∀ (l rest : List UInt8) (m d v : Int) (b : Bool), allDig l → d + l.length ≤ 10 → masLoop (l ++ rest) m d v b = masLoop rest m (d + l.length) (val l v) b
  | [], rest, m, d, v, b, _, _ => by simp [val]
  | c :: r, rest, m, d, v, b, h, hd => by
    have hc : dig c := h c (by simp)
    simp only [List.cons_append, masLoop, List.length_cons] at hd ⊢
    rw [if_pos hc, if_neg (by omega), mas_run r rest m (d + 1) _ b (fun x hx => h x (by simp [hx])) (by omega)]
    simp only [val]
    congr 1
    · omega
    · congr 1; omega
theorem mas_long : ∀ (l rest : List UInt8) (m d v : Int) (b : Bool), allDig l → d ≤ 10 → 10 < d + l.length → masLoop (l ++ rest) m d v b = (0, false)
  | [], rest, m, d, v, b, _, h1, h2 => by simp at h2; omega
  | c :: r, rest, m, d, v, b, h, h1, h2 => by
    have hc : dig c := h c (by simp)
    simp only [List.cons_append, masLoop, List.length_cons] at h2 ⊢
    rw [if_pos hc]
    by_cases e : d = 10
    · rw [if_pos e]
    · rw [if_neg e]
      exact mas_long r rest m (d + 1) _ b (fun x hx => h x (by simp [hx])) (by omega) (by omega)

theorem unit_low : ∀ c : UInt8, unit (lowB c) = unit (c ||| 32) := by
  have h : ∀ n : Fin 256, unit (lowB (UInt8.ofNat n.val)) = unit (UInt8.ofNat n.val ||| 32) := by decide +kernel
  intro c
  have := h ⟨c.toNat, c.toNat_lt⟩
  simpa using this
theorem low_dig : ∀ c : UInt8, (dig (lowB c) ↔ dig c) := by
  have h : ∀ n : Fin 256, (dig (lowB (UInt8.ofNat n.val)) ↔ dig (UInt8.ofNat n.val)) := by decide +kernel
  intro c
  have := h ⟨c.toNat, c.toNat_lt⟩
  simpa using this
theorem low_of_dig (c : UInt8) (h : dig c) : lowB c = c := lowB_id c (by omega)
theorem digs_low (l : List UInt8) : digs (lowL l) = digs l := by
  induction l with
  | nil => rfl
  | cons c r ih =>
    simp only [lowL, List.map_cons, digs] at ih ⊢
    by_cases h : dig c
    · rw [if_pos (show _ from (low_dig c).2 h), if_pos (show _ from h), ih]
    · rw [if_neg (show _ from fun x => h ((low_dig c).1 x)), if_neg (show _ from h)]
theorem low_alldig {l : List UInt8} (h : allDig l) : lowL l = l := by
  induction l with
  | nil => rfl
  | cons c r ih =>
    simp only [lowL, List.map_cons] at ih ⊢
    rw [low_of_dig c (h c (by simp)), ih (fun x hx => h x (by simp [hx]))]
theorem clip_min (x : Int) : clip x = min x 2147483648 := by
  simp only [clip]; split <;> omega

theorem seg : ∀ (g : Nat) (l : List UInt8) (m : Int) (b : Bool), l.length < g → (b = true ∨ digs l < l.length) → masLoop l m 0 0 b = refLoop g (lowL l) m := by
  intro g
  induction g with
  | zero => intro l m b h; omega
  | succ g ih =>
    intro l m b hl hb
    simp only [refLoop]
    by_cases h0 : l = []
    · subst h0
      have hbt : b = true := by rcases hb with h | h; exact h; simp [digs] at h
      subst hbt
      simp [lowL, masLoop]
    have h0' : lowL l ≠ [] := by simpa [lowL] using h0
    rw [if_neg h0', digs_low]
    have htk : (lowL l).take (digs l) = l.take (digs l) := by
      have : (lowL l).take (digs l) = lowL (l.take (digs l)) := by simp [lowL]
      rw [this, low_alldig (digs_take l)]
    rw [htk]
    have hsplit : l.take (digs l) ++ l.drop (digs l) = l := List.take_append_drop _ _
    have hk := digs_le l
    have htl : (l.take (digs l)).length = digs l := by rw [List.length_take]; omega
    by_cases hlong : 10 < digs l
    · have hm : masLoop l m 0 0 b = (0, false) := by
        rw [← hsplit]; exact mas_long _ _ _ _ _ _ (digs_take l) (by omega) (by omega)
      have hn : numSpec (l.take (digs l)) 10 9999999999 = -1 := by
        simp only [numSpec, htl]
        rw [if_neg (by intro e; rw [e] at htl; simp at htl; omega), if_pos (by omega)]
      rw [hm, hn, if_pos (by omega)]
    have hm : masLoop l m 0 0 b = masLoop (l.drop (digs l)) m (0 + (digs l : Int)) (val (l.take (digs l)) 0) b := by
      have := mas_run (l.take (digs l)) (l.drop (digs l)) m 0 0 b (digs_take l) (by omega)
      rw [htl, hsplit] at this
      exact this
    rw [hm]
    have hv := val_bd (l.take (digs l)) 0 0 (digs_take l) (by omega) (by simp [nines])
    have hv9 := nines_ten (0 + (l.take (digs l)).length) (by omega)
    by_cases hz : digs l = 0
    · -- no digit
      have hn : numSpec (l.take (digs l)) 10 9999999999 = -1 := by
        have : l.take (digs l) = [] := by rw [hz]; rfl
        rw [this]; rfl
      rw [hn, if_pos (by omega)]
      obtain ⟨c, r, h1, h2⟩ := digs_next l (by have : 0 < l.length := List.length_pos_iff.2 h0; omega)
      rw [h1]
      simp only [masLoop]
      rw [if_neg (show ¬ (48 ≤ c.toNat ∧ c.toNat ≤ 57) from h2), if_pos (by right; omega)]
    have hn : numSpec (l.take (digs l)) 10 9999999999 = val (l.take (digs l)) 0 := by
      simp only [numSpec, htl]
      rw [if_neg (by intro e; rw [e] at htl; simp at htl; omega), if_neg (by omega), numLoop_dig _ _ _ (digs_take l), if_neg (by omega)]
    rw [hn, if_neg (by omega)]
    have hll : (lowL l).length = l.length := by simp [lowL]
    rw [hll]
    by_cases hend : digs l = l.length
    · rw [if_pos hend]
      have hbt : b = true := by rcases hb with h | h; exact h; omega
      have : l.drop (digs l) = [] := List.drop_eq_nil_iff.2 (by omega)
      rw [this, hbt]
      simp only [masLoop]
      rw [if_pos (by simp; omega)]
    rw [if_neg hend]
    obtain ⟨c, r, h1, h2⟩ := digs_next l (by omega)
    have hlow : (lowL l).drop (digs l) = lowB c :: lowL r := by
      simp only [lowL, ← List.map_drop, h1, List.map_cons]
    have hget : (lowL l).getD (digs l) 0 = lowB c := by
      have : ((lowL l).drop (digs l))[0]? = some (lowB c) := by rw [hlow]; rfl
      rw [List.getElem?_drop] at this
      simp only [Nat.add_zero] at this
      rw [List.getD, this]; rfl
    have hrest : (lowL l).drop (digs l + 1) = lowL r := by
      have : ((lowL l).drop (digs l)).drop 1 = lowL r := by rw [hlow]; rfl
      rw [List.drop_drop] at this
      exact this
    rw [hget, hrest, h1, unit_low]
    simp only [masLoop]
    rw [if_neg (show ¬ (48 ≤ c.toNat ∧ c.toNat ≤ 57) from h2)]
    by_cases hu : unit (c ||| 32) = 0
    · rw [if_pos (.inl hu), if_pos hu]
    · rw [if_neg (by omega), if_neg hu, clip_min]
      refine ih r _ true ?_ (.inl rfl)
      have : (l.drop (digs l)).length = r.length + 1 := by rw [h1]; rfl
      rw [List.length_drop] at this
      omega

theorem same (l : List UInt8) : masSec l = refSec l := by
  simp only [masSec, refSec]
  by_cases h0 : l = []
  · subst h0; rfl
  have h0' : lowL l ≠ [] := by simpa [lowL] using h0
  have hpos : 0 < l.length := List.length_pos_iff.2 h0
  by_cases hall : allDig l
  · have hdl := digs_all hall
    have hv := val_bd l 0 0 hall (by omega) (by simp [nines])
    by_cases hlong : 10 < l.length
    · have hm : masLoop l 0 0 0 false = (0, false) := by
        have := mas_long l [] 0 0 0 false hall (by omega) (by omega)
        simpa using this
      have hn : ∀ top, numSpec l 10 top = -1 := fun top => by simp only [numSpec]; rw [if_neg h0, if_pos (by omega)]
      rw [hm, hn, if_neg (by omega), if_neg h0']
      simp only [refLoop]
      rw [if_neg h0', digs_low, hdl]
      have : (lowL l).take l.length = l := by rw [low_alldig hall, List.take_length]
      rw [this, hn, if_pos (by omega)]
    · have hm : masLoop l 0 0 0 false = masLoop [] 0 (0 + (l.length : Int)) (val l 0) false := by
        have := mas_run l [] 0 0 0 false hall (by omega)
        simpa using this
      have hn : ∀ top, numSpec l 10 top = if top < val l 0 then -1 else val l 0 := fun top => by
        simp only [numSpec]; rw [if_neg h0, if_neg (by omega)]; exact numLoop_dig top l 0 hall
      rw [hm, hn]
      simp only [masLoop]
      rw [if_neg (by simp; omega)]
      by_cases hov : 2147483647 < val l 0
      · rw [if_pos hov, if_neg (show ¬ ((0 : Int) ≤ -1) by omega), if_neg h0', if_pos (show 2147483647 < (if false = true then (0 : Int) else val l 0) by simpa using hov)]
        simp only [refLoop]
        rw [if_neg h0', digs_low, hdl]
        have : (lowL l).take l.length = l := by rw [low_alldig hall, List.take_length]
        have hv9 := nines_ten (0 + l.length) (by omega)
        have hn2 : numSpec l 10 9999999999 = val l 0 := by rw [hn, if_neg (by omega)]
        rw [this, hn2, if_neg (by omega), if_pos (by simp [lowL])]
      · rw [if_neg hov, if_pos hv.1, if_neg (show ¬ 2147483647 < (if false = true then (0 : Int) else val l 0) by simpa using hov)]
        simp
  · have hlt : digs l < l.length := by
      have := digs_le l
      rcases Nat.lt_or_ge (digs l) l.length with h | h
      · exact h
      · have e : digs l = l.length := by omega
        have := digs_take l
        rw [e, List.take_length] at this
        exact absurd this hall
    have hn : numSpec l 10 2147483647 = -1 := by
      simp only [numSpec]; rw [if_neg h0]; split
      · rfl
      · exact numLoop_bad _ _ _ hall
    rw [hn, if_neg (by omega), if_neg h0']
    exact seg (l.length + 1) l 0 false (by omega) (.inr hlt)
end Go.Proofs.Ytjflojefpaffeaa.secLaw

/- The reference's Split, IsName, Check: walks. -/
import Derived.Test.YtkcpbjoolfojjaaGreatDoorP2
import Derived.Maps.AppendAt
namespace Go.Proofs.YtkcpbjoolfojjaaGreatDoor.rsplit
open Go.RowKit Go.Proofs.YtkcpbjoolfojjaaGreatDoor.kit Go.Proofs.YtkcpbjoolfojjaaGreatDoor.nspec

theorem infoStr : (Tryz.prog.info? 9).map (fun i => (i.zero, i.size, i.bytes)) = some (some (.string ByteArray.empty), 1, 16) := by kernel_rfl

/-- a list of texts can be read from address a on, in blocks from base on -/
def Rd (w : World) (a : Option Addr) (base : Nat) (ls : List Bs) : Prop :=
  ∀ (j : Nat) (x : Bs), ls[j]? = some x → ∃ g o, a = some ⟨g, o, none⟩ ∧ base ≤ g ∧ g < w.heap.size ∧ w.cell? ⟨g, o + j, none⟩ = some (strV x)
theorem Rd.nil (w : World) (a : Option Addr) (base : Nat) : Rd w a base [] := by intro j x h; simp at h
theorem Rd.below {w w' : World} {a : Option Addr} {base B : Nat} {ls : List Bs} (h : Rd w a base ls) (hB : Below B w w') (hz : B = w.heap.size) : Rd w' a base ls := by
  intro j x hx
  obtain ⟨g, o, h1, h2, h3, h4⟩ := h j x hx
  exact ⟨g, o, h1, h2, Nat.lt_of_lt_of_le h3 hB.size, (hB.cell (p := ⟨g, o + j, none⟩) (by rw [hz]; exact h3)).trans h4⟩
theorem Rd.mono {w : World} {a : Option Addr} {b b' : Nat} {ls : List Bs} (h : Rd w a b ls) (hb : b' ≤ b) : Rd w a b' ls := by
  intro j x hx
  obtain ⟨g, o, h1, h2, h3, h4⟩ := h j x hx
  exact ⟨g, o, h1, Nat.le_trans hb h2, h3, h4⟩
theorem Rd.of_own {w : World} {base : Nat} {v : Value} {ls : List Bs} (h : w.ownsRow base 9 1 v ls.length (ls.map strV)) : ∃ a c, v = .slice a ls.length c ∧ Rd w a base ls := by
  rcases h.2 with ⟨rfl, h0⟩ | ⟨g, cap, cur, rfl, hb, hg, _, _, _, htake⟩
  · have : ls = [] := List.eq_nil_of_length_eq_zero h0
    subst this
    exact ⟨none, 0, rfl, Rd.nil _ _ _⟩
  · refine ⟨_, cap, rfl, ?_⟩
    intro j x hx
    refine ⟨g, 0, rfl, hb, (Array.getElem?_eq_some_iff.1 hg).1, ?_⟩
    have := h.cells (g := g) rfl j (strV x) (by rw [List.getElem?_map, hx]; rfl)
    have hadd : (⟨g, 0, none⟩ : Addr).add j = ⟨g, 0 + j, none⟩ := by unfold Addr.add; split <;> simp_all
    rw [hadd] at this
    exact this

theorem own_snoc {w1 : World} {base : Nat} {v' x : Value} {acc : List Bs} {y : Bs} (hx : x = strV y) (h : w1.ownsRow base 9 1 v' (acc.length + 1) (acc.map strV ++ [x])) : w1.ownsRow base 9 1 v' (acc ++ [y]).length ((acc ++ [y]).map strV) := by
  subst hx; simpa using h
/-- a list of texts of the call's own: nil where it is empty -/
def SV (w : World) (v : Value) (base : Nat) (ls : List Bs) : Prop :=
  (ls = [] ∧ v = .slice none 0 0) ∨ (ls ≠ [] ∧ ∃ g c, v = .slice (some ⟨g, 0, none⟩) ls.length c ∧ ls.length ≤ c ∧ c ≤ maxLen ∧ base ≤ g ∧ g < w.heap.size ∧ ∀ (j : Nat) (x : Bs), ls[j]? = some x → w.cell? ⟨g, j, none⟩ = some (strV x))
theorem SV.of_own {w : World} {base : Nat} {v : Value} {ls : List Bs} (h : w.ownsRow base 9 1 v ls.length (ls.map strV)) (hn : v = .slice none 0 0 ↔ ls = []) : SV w v base ls := by
  rcases h.2 with ⟨rfl, h0⟩ | ⟨g, cap, cur, rfl, hb, hg, h1, h2, _, htake⟩
  · exact .inl ⟨hn.1 rfl, rfl⟩
  · refine .inr ⟨fun e => ?_, g, cap, rfl, h1, h2, hb, (Array.getElem?_eq_some_iff.1 hg).1, ?_⟩
    · have := hn.2 e; simp at this
    · intro j x hx
      have := h.cells (g := g) rfl j (strV x) (by rw [List.getElem?_map, hx]; rfl)
      have hadd : (⟨g, 0, none⟩ : Addr).add j = ⟨g, j, none⟩ := by unfold Addr.add; split <;> simp_all
      rw [hadd] at this
      exact this
theorem SV.below {w w' : World} {v : Value} {base B : Nat} {ls : List Bs} (h : SV w v base ls) (hB : Below B w w') (hz : B = w.heap.size) : SV w' v base ls := by
  rcases h with h | ⟨h0, g, c, h1, h2, h3, h4, h5, h6⟩
  · exact .inl h
  · exact .inr ⟨h0, g, c, h1, h2, h3, h4, Nat.lt_of_lt_of_le h5 hB.size, fun j x hx => (hB.cell (p := ⟨g, j, none⟩) (by rw [hz]; exact h5)).trans (h6 j x hx)⟩
theorem SV.mono {w : World} {v : Value} {base b' : Nat} {ls : List Bs} (h : SV w v base ls) (hb : b' ≤ base) : SV w v b' ls := by
  rcases h with h | ⟨h0, g, c, h1, h2, h3, h4, h5⟩
  · exact .inl h
  · exact .inr ⟨h0, g, c, h1, h2, h3, Nat.le_trans hb h4, h5⟩
theorem SV.rd {w : World} {v : Value} {base : Nat} {ls : List Bs} (h : SV w v base ls) : ∃ a c, v = .slice a ls.length c ∧ Rd w a base ls := by
  rcases h with ⟨rfl, h⟩ | ⟨h0, g, c, h1, h2, h3, h4, h5, h6⟩
  · exact ⟨none, 0, h, Rd.nil _ _ _⟩
  · exact ⟨_, c, h1, fun j x hx => ⟨g, 0, rfl, h4, h5, by rw [Nat.zero_add]; exact h6 j x hx⟩⟩
/-- what Split leaves -/
def SplitPost (w : World) (l : Bs) (e : Ending) (w' : World) : Prop :=
  Below w.heap.size w w' ∧ ((∃ v ls, split l = some ls ∧ e = .returned (.tuple #[v, .bool true]) ∧ SV w' v w.heap.size ls) ∨
    (split l = none ∧ ∃ a n c, e = .returned (.tuple #[.slice a n c, .bool false])))

theorem sp_none {l : Bs} {acc : List Bs} {u : Bs} {N : Nat} (h : (parseF N u).map (acc ++ ·) = parseF l.length l) (hu : parseF N u = none) : split l = none := by
  rw [hu] at h
  unfold split; split
  · rw [← h]; rfl
  · rfl
theorem sp_long {l : Bs} (h : 255 < (l.length : Int)) : split l = none := by unfold split; rw [if_neg (by omega)]
theorem pf_nil (N : Nat) : parseF N [] = none := by cases N <;> rfl
theorem pf_tail {N : Nat} {l r : Bs} {c : UInt8} (hl : l = c :: r) (h0 : c.toNat = 0) (hr : r ≠ []) : parseF N l = none := by
  subst hl; cases N with
  | zero => rfl
  | succ N => simp only [parseF]; rw [if_pos h0, if_neg hr]
theorem pf_bad {N : Nat} {l r : Bs} {c : UInt8} (hl : l = c :: r) (h0 : c.toNat ≠ 0) (hr : 63 < c.toNat ∨ r.length < c.toNat) : parseF N l = none := by
  subst hl; cases N with
  | zero => rfl
  | succ N => simp only [parseF]; rw [if_neg h0, if_pos hr]
theorem sp_end {l : Bs} {acc : List Bs} {u r : Bs} {c : UInt8} {N : Nat} (h : (parseF N u).map (acc ++ ·) = parseF l.length l) (hN : 0 < N) (hl : u = c :: r) (h0 : c.toNat = 0) (hr : r = []) (hlen : (l.length : Int) ≤ 255) : split l = some acc := by
  obtain ⟨M, rfl⟩ : ∃ M, N = M + 1 := ⟨N - 1, by omega⟩
  subst hl
  simp only [parseF] at h
  rw [if_pos h0, if_pos hr] at h
  unfold split; rw [if_pos (by omega), ← h]; simp
theorem sp_next {R : Option (List Bs)} {acc : List Bs} {u r : Bs} {c : UInt8} {N M : Nat} (h : (parseF N u).map (acc ++ ·) = R) (hN : u.length ≤ N) (hl : u = c :: r) (h0 : c.toNat ≠ 0) (hr : ¬ (63 < c.toNat ∨ r.length < c.toNat)) (hM : (r.drop c.toNat).length ≤ M) : (parseF M (r.drop c.toNat)).map ((acc ++ [r.take c.toNat]) ++ ·) = R := by
  subst hl
  obtain ⟨K, rfl⟩ : ∃ K, N = K + 1 := ⟨N - 1, by simp at hN; omega⟩
  simp only [parseF] at h
  rw [if_neg h0, if_neg hr] at h
  rw [parse_fuel M K _ hM (by simp at hN ⊢; omega), ← h]
  cases parseF K (r.drop c.toNat) <;> simp

set_option maxRecDepth 100000 in
set_option maxHeartbeats 2000000 in
theorem split_any (s : ByteArray) (w : World) (hs : s.size ≤ 1099511627776) :
    Calls Tryz.prog 43 #[.string s] w (SplitPost w s.data.toList) := by
  obtain ⟨i0, hi, hz0, hz1, hz2⟩ := info_parts infoStr
  go_enter Tryz.func43, Tryz.ntmps43
  go_wp2
  go_loopg [4, 5] (s.size + 1) (fun gas ov uv wr => ∃ (u : ByteArray) (acc : List Bs), uv = .string u ∧ Hid (ov = .slice none 0 0 ↔ acc = []) ∧ wr.ownsRow w.heap.size 9 1 ov acc.length (acc.map strV) ∧ Below w.heap.size w wr ∧ u.size < gas ∧ u.size ≤ s.size ∧ acc.length + u.size ≤ s.size ∧
    Hid ((parseF u.size u.data.toList).map (acc ++ ·) = parseF s.data.toList.length s.data.toList))
  case atStart => exact ⟨s, [], rfl, Lib.hid (by simp), World.ownsRow_nil _ _ _ _, Below.refl _ _, by omega, by omega, by simp, Lib.hid (by simp)⟩
  case round =>
    obtain ⟨u, acc, rfl, HNI, hown, hB, hgas, hus, hacc, HP⟩ := hrel
    by_cases he : u.toList = []
    · have HN := Lib.hid (sp_none HP.out (by rw [(empty_iff u).1 he]; exact pf_nil _))
      go_wp2
      go_ret2
      exact ⟨hB, .inr ⟨HN.out, none, 0, 0, rfl⟩⟩
    have he' : u.toList.isEmpty = false := by simpa using he
    have hlt : 0 < u.size := by
      have : u.data.toList ≠ [] := fun h => he ((empty_iff u).2 h)
      have := List.length_pos_iff.2 this
      simpa using this
    clear he
    have HD : Hid (u.data.toList = u[0] :: u.data.toList.drop 1) := Lib.hid (by have := drop_cons u 0 hlt; simpa using this)
    have h255 : (u[0].toNat : Int) ≤ 255 := by have := u[0].toNat_lt; omega
    by_cases hz : u[0].toNat = 0
    · have hz' : ((u[0].toNat : Int) == 0) = true := by simp [hz]
      by_cases h1 : u.size = 1
      · have h1' : ((u.size : Int) == 1) = true := by simp [h1]
        have hr : u.data.toList.drop 1 = [] := drop_end u 1 (by omega)
        by_cases hl : (s.size : Int) ≤ 255
        · have HY := Lib.hid (sp_end HP.out (by omega) HD.out hz hr (by simpa using hl))
          clear hz h1 hr
          go_wp2
          go_ret2
          exact ⟨hB, .inl ⟨_, _, HY.out, rfl, SV.of_own hown HNI.out⟩⟩
        · have HY := Lib.hid (sp_long (l := s.data.toList) (by simp; omega))
          have hdec : decide ((s.size : Int) ≤ 255) = false := by simpa using hl
          obtain ⟨a, c, rfl, _⟩ := Rd.of_own hown
          clear hz h1 hr
          go_wp2
          go_ret2
          exact ⟨hB, .inr ⟨HY.out, _, _, _, rfl⟩⟩
      · have h1' : ((u.size : Int) == 1) = false := by simp; omega
        have hr : u.data.toList.drop 1 ≠ [] := by
          intro h; have := congrArg List.length h; simp at this; omega
        have HY := Lib.hid (sp_none HP.out (pf_tail HD.out hz hr))
        obtain ⟨a, c, rfl, _⟩ := Rd.of_own hown
        clear hz h1 hr
        go_wp2
        go_ret2
        exact ⟨hB, .inr ⟨HY.out, _, _, _, rfl⟩⟩
    · have hz' : ((u[0].toNat : Int) == 0) = false := by simp; omega
      have HL : Hid ((u.data.toList.drop 1).length = u.size - 1) := Lib.hid (by simp)
      by_cases h63 : 63 < (u[0].toNat : Int)
      · have HY := Lib.hid (sp_none HP.out (pf_bad HD.out hz (.inl (by omega))))
        clear hz
        go_wp2
        go_ret2
        exact ⟨hB, .inr ⟨HY.out, none, 0, 0, rfl⟩⟩
      · have h63' : (u[0].toNat : Int) ≤ 63 := by omega
        clear h63
        by_cases hfit : (u.size : Int) < 1 + (u[0].toNat : Int)
        · have HY := Lib.hid (sp_none HP.out (pf_bad HD.out hz (.inr (by have := HL.out; omega))))
          clear hz
          go_wp2
          go_ret2
          exact ⟨hB, .inr ⟨HY.out, none, 0, 0, rfl⟩⟩
        · have hfit' : 1 + (u[0].toNat : Int) ≤ (u.size : Int) := by omega
          have hpos : 1 ≤ (u[0].toNat : Int) := by omega
          have HST := fun M hM => sp_next (M := M) HP.out (by simp) HD.out hz (by have := HL.out; omega) hM
          have HS := Lib.hid HST; clear HST hfit hz
          have hx : (u.extract 1 (1 + u[0].toNat)).data.toList = (u.data.toList.drop 1).take u[0].toNat := by
            rw [Lib.extract_data]; congr 1; omega
          have HX : Hid (Value.string (u.extract 1 (1 + u[0].toNat)) = strV ((u.data.toList.drop 1).take u[0].toNat)) := Lib.hid (congrArg Value.string (ba_ext hx))
          clear hx
          have hsz := hB.size
          go_wp2_with (at_builtin; refine wpList_append_own _ rfl _ _ 70 rfl w.heap.size 9 i0 (.string ByteArray.empty) 1 16 Tryz.underlying70 hi hz0 hz1 hz2 rfl (by decide) _ _ _ rfl (hown.alloc _) ⟨wr.heap.size, 0, none⟩ 1 1 [.string (u.extract 1 (1 + u[0].toNat))] rfl rfl ?c1 ?c2 ?c3 ?c4 ?c5 ?_)
          case c1 => exact cell_one_new _ _ _
          case c2 => simp [Value.oneCell']
          case c3 => unfold maxLen; omega
          case c4 => omega
          case c5 => simp; omega
          intro v' w1 hown' hgrow hnil
          have HN2 := Lib.hid hnil; clear hnil
          have hown2 := own_snoc HX.out hown'
          have hB2 := below_append hB hsz hown hgrow
          clear hown' hgrow hown
          have hd : (u.extract (1 + u[0].toNat) u.size).data.toList = (u.data.toList.drop 1).drop u[0].toNat := by
            rw [Lib.extract_data, List.drop_drop, List.take_of_length_le (by simp)]
          have hsz2 : (u.extract (1 + u[0].toNat) u.size).size = u.size - (1 + u[0].toNat) := by rw [ByteArray.size_extract]; omega
          have HD2 := Lib.hid hd; have HZ2 := Lib.hid hsz2
          clear hd hsz2
          go_wp2
          go_roundg (gk - 1)
          case rel =>
            have hz2 := HZ2.out
            refine ⟨_, _, rfl, Lib.hid (by simpa using HN2.out), hown2, hB2, by omega, by omega, by simp; omega, Lib.hid ?_⟩
            rw [HD2.out]
            exact HS.out _ (by rw [← HD2.out]; simp)
          case measure => omega
theorem isB_or (s : ByteArray) : (∃ ls, IsN s.data.toList ls) ∨ split s.data.toList = none := by
  cases h : split s.data.toList with
  | none => exact .inr rfl
  | some ls => exact .inl ⟨ls, split_iff.1 h⟩
end Go.Proofs.YtkcpbjoolfojjaaGreatDoor.rsplit

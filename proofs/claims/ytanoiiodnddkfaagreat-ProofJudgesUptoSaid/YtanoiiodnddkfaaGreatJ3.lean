/- The reference's Split, IsName, Check: walks. Small letters: gazetteerref1.Low, and Number. -/
import Derived.Test.YtanoiiodnddkfaaGreatJ2
import Derived.Test.YtanoiiodnddkfaaGreatJ1
import Derived.Maps.AppendAt
namespace Go.Proofs.YtanoiiodnddkfaaGreat.rsplit
open Go.RowKit Go.Proofs.YtanoiiodnddkfaaGreat.kit Go.Proofs.YtanoiiodnddkfaaGreat.nspec

theorem infoStr : (Tryz.prog.info? 9).map (fun i => (i.zero, i.size, i.bytes)) = some (some (.string ByteArray.empty), 1, 16) := by kernel_rfl

/-- a list of texts can be read from address a on, in blocks from base on -/
def Rd (w : World) (a : Option Addr) (base : Nat) (ls : List Bs) : Prop :=
  ∀ (j : Nat) (x : Bs), ls[j]? = some x → ∃ g o, a = some ⟨g, o, none⟩ ∧ base ≤ g ∧ g < w.heap.size ∧ w.cell? ⟨g, o + j, none⟩ = some (strV x)
theorem Rd.nil (w : World) (a : Option Addr) (base : Nat) : Rd w a base [] := by intro j x h; simp at h
theorem Rd.below {w w' : World} {a : Option Addr} {base B : Nat} {ls : List Bs} (h : Rd w a base ls) (hB : Below B w w') (hz : B = w.heap.size) : Rd w' a base ls := by
  intro j x hx
  obtain ⟨g, o, h1, h2, h3, h4⟩ := h j x hx
  exact ⟨g, o, h1, h2, Nat.lt_of_lt_of_le h3 hB.size, (hB.cell (p := ⟨g, o + j, none⟩) (by rw [hz]; exact h3)).trans h4⟩
theorem Rd.mono {w : World} {a : Option Addr} {b b' : Nat} {ls : List Bs} (h : Rd w a b ls) (hb : b' ≤ b) : Rd w a b' ls := by
  intro j x hx
  obtain ⟨g, o, h1, h2, h3, h4⟩ := h j x hx
  exact ⟨g, o, h1, Nat.le_trans hb h2, h3, h4⟩
theorem Rd.of_own {w : World} {base : Nat} {v : Value} {ls : List Bs} (h : w.ownsRow base 9 1 v ls.length (ls.map strV)) : ∃ a c, v = .slice a ls.length c ∧ Rd w a base ls := by
  rcases h.2 with ⟨rfl, h0⟩ | ⟨g, cap, cur, rfl, hb, hg, _, _, _, htake⟩
  · have : ls = [] := List.eq_nil_of_length_eq_zero h0
    subst this
    exact ⟨none, 0, rfl, Rd.nil _ _ _⟩
  · refine ⟨_, cap, rfl, ?_⟩
    intro j x hx
    refine ⟨g, 0, rfl, hb, (Array.getElem?_eq_some_iff.1 hg).1, ?_⟩
    have := h.cells (g := g) rfl j (strV x) (by rw [List.getElem?_map, hx]; rfl)
    have hadd : (⟨g, 0, none⟩ : Addr).add j = ⟨g, 0 + j, none⟩ := by unfold Addr.add; split <;> simp_all
    rw [hadd] at this
    exact this

theorem own_snoc {w1 : World} {base : Nat} {v' x : Value} {acc : List Bs} {y : Bs} (hx : x = strV y) (h : w1.ownsRow base 9 1 v' (acc.length + 1) (acc.map strV ++ [x])) : w1.ownsRow base 9 1 v' (acc ++ [y]).length ((acc ++ [y]).map strV) := by
  subst hx; simpa using h
/-- a list of texts of the call's own: nil where it is empty -/
def SV (w : World) (v : Value) (base : Nat) (ls : List Bs) : Prop :=
  (ls = [] ∧ v = .slice none 0 0) ∨ (ls ≠ [] ∧ ∃ g c, v = .slice (some ⟨g, 0, none⟩) ls.length c ∧ ls.length ≤ c ∧ c ≤ maxLen ∧ base ≤ g ∧ g < w.heap.size ∧ ∀ (j : Nat) (x : Bs), ls[j]? = some x → w.cell? ⟨g, j, none⟩ = some (strV x))
theorem SV.of_own {w : World} {base : Nat} {v : Value} {ls : List Bs} (h : w.ownsRow base 9 1 v ls.length (ls.map strV)) (hn : v = .slice none 0 0 ↔ ls = []) : SV w v base ls := by
  rcases h.2 with ⟨rfl, h0⟩ | ⟨g, cap, cur, rfl, hb, hg, h1, h2, _, htake⟩
  · exact .inl ⟨hn.1 rfl, rfl⟩
  · refine .inr ⟨fun e => ?_, g, cap, rfl, h1, h2, hb, (Array.getElem?_eq_some_iff.1 hg).1, ?_⟩
    · have := hn.2 e; simp at this
    · intro j x hx
      have := h.cells (g := g) rfl j (strV x) (by rw [List.getElem?_map, hx]; rfl)
      have hadd : (⟨g, 0, none⟩ : Addr).add j = ⟨g, j, none⟩ := by unfold Addr.add; split <;> simp_all
      rw [hadd] at this
      exact this
theorem SV.below {w w' : World} {v : Value} {base B : Nat} {ls : List Bs} (h : SV w v base ls) (hB : Below B w w') (hz : B = w.heap.size) : SV w' v base ls := by
  rcases h with h | ⟨h0, g, c, h1, h2, h3, h4, h5, h6⟩
  · exact .inl h
  · exact .inr ⟨h0, g, c, h1, h2, h3, h4, Nat.lt_of_lt_of_le h5 hB.size, fun j x hx => (hB.cell (p := ⟨g, j, none⟩) (by rw [hz]; exact h5)).trans (h6 j x hx)⟩
theorem SV.mono {w : World} {v : Value} {base b' : Nat} {ls : List Bs} (h : SV w v base ls) (hb : b' ≤ base) : SV w v b' ls := by
  rcases h with h | ⟨h0, g, c, h1, h2, h3, h4, h5⟩
  · exact .inl h
  · exact .inr ⟨h0, g, c, h1, h2, h3, Nat.le_trans hb h4, h5⟩
theorem SV.rd {w : World} {v : Value} {base : Nat} {ls : List Bs} (h : SV w v base ls) : ∃ a c, v = .slice a ls.length c ∧ Rd w a base ls := by
  rcases h with ⟨rfl, h⟩ | ⟨h0, g, c, h1, h2, h3, h4, h5, h6⟩
  · exact ⟨none, 0, h, Rd.nil _ _ _⟩
  · exact ⟨_, c, h1, fun j x hx => ⟨g, 0, rfl, h4, h5, by rw [Nat.zero_add]; exact h6 j x hx⟩⟩
/-- what Split leaves -/
def SplitPost (w : World) (l : Bs) (e : Ending) (w' : World) : Prop :=
  Below w.heap.size w w' ∧ ((∃ v ls, split l = some ls ∧ e = .returned (.tuple #[v, .bool true]) ∧ SV w' v w.heap.size ls) ∨
    (split l = none ∧ ∃ a n c, e = .returned (.tuple #[.slice a n c, .bool false])))

theorem sp_none {l : Bs} {acc : List Bs} {u : Bs} {N : Nat} (h : (parseF N u).map (acc ++ ·) = parseF l.length l) (hu : parseF N u = none) : split l = none := by
  rw [hu] at h
  unfold split; split
  · rw [← h]; rfl
  · rfl
theorem sp_long {l : Bs} (h : 255 < (l.length : Int)) : split l = none := by unfold split; rw [if_neg (by omega)]
theorem pf_nil (N : Nat) : parseF N [] = none := by cases N <;> rfl
theorem pf_tail {N : Nat} {l r : Bs} {c : UInt8} (hl : l = c :: r) (h0 : c.toNat = 0) (hr : r ≠ []) : parseF N l = none := by
  subst hl; cases N with
  | zero => rfl
  | succ N => simp only [parseF]; rw [if_pos h0, if_neg hr]
theorem pf_bad {N : Nat} {l r : Bs} {c : UInt8} (hl : l = c :: r) (h0 : c.toNat ≠ 0) (hr : 63 < c.toNat ∨ r.length < c.toNat) : parseF N l = none := by
  subst hl; cases N with
  | zero => rfl
  | succ N => simp only [parseF]; rw [if_neg h0, if_pos hr]
theorem sp_end {l : Bs} {acc : List Bs} {u r : Bs} {c : UInt8} {N : Nat} (h : (parseF N u).map (acc ++ ·) = parseF l.length l) (hN : 0 < N) (hl : u = c :: r) (h0 : c.toNat = 0) (hr : r = []) (hlen : (l.length : Int) ≤ 255) : split l = some acc := by
  obtain ⟨M, rfl⟩ : ∃ M, N = M + 1 := ⟨N - 1, by omega⟩
  subst hl
  simp only [parseF] at h
  rw [if_pos h0, if_pos hr] at h
  unfold split; rw [if_pos (by omega), ← h]; simp
theorem sp_next {R : Option (List Bs)} {acc : List Bs} {u r : Bs} {c : UInt8} {N M : Nat} (h : (parseF N u).map (acc ++ ·) = R) (hN : u.length ≤ N) (hl : u = c :: r) (h0 : c.toNat ≠ 0) (hr : ¬ (63 < c.toNat ∨ r.length < c.toNat)) (hM : (r.drop c.toNat).length ≤ M) : (parseF M (r.drop c.toNat)).map ((acc ++ [r.take c.toNat]) ++ ·) = R := by
  subst hl
  obtain ⟨K, rfl⟩ : ∃ K, N = K + 1 := ⟨N - 1, by simp at hN; omega⟩
  simp only [parseF] at h
  rw [if_neg h0, if_neg hr] at h
  rw [parse_fuel M K _ hM (by simp at hN ⊢; omega), ← h]
  cases parseF K (r.drop c.toNat) <;> simp

set_option maxRecDepth 100000 in
set_option maxHeartbeats 2000000 in
theorem split_any (s : ByteArray) (w : World) (hs : s.size ≤ 1099511627776) :
    Calls Tryz.prog 53 #[.string s] w (SplitPost w s.data.toList) := by
  obtain ⟨i0, hi, hz0, hz1, hz2⟩ := info_parts infoStr
  go_enter Tryz.func53, Tryz.ntmps53
  go_wp2
  go_loopg [4, 5] (s.size + 1) (fun gas ov uv wr => ∃ (u : ByteArray) (acc : List Bs), uv = .string u ∧ Hid (ov = .slice none 0 0 ↔ acc = []) ∧ wr.ownsRow w.heap.size 9 1 ov acc.length (acc.map strV) ∧ Below w.heap.size w wr ∧ u.size < gas ∧ u.size ≤ s.size ∧ acc.length + u.size ≤ s.size ∧
    Hid ((parseF u.size u.data.toList).map (acc ++ ·) = parseF s.data.toList.length s.data.toList))
  case atStart => exact ⟨s, [], rfl, Lib.hid (by simp), World.ownsRow_nil _ _ _ _, Below.refl _ _, by omega, by omega, by simp, Lib.hid (by simp)⟩
  case round =>
    obtain ⟨u, acc, rfl, HNI, hown, hB, hgas, hus, hacc, HP⟩ := hrel
    by_cases he : u.toList = []
    · have HN := Lib.hid (sp_none HP.out (by rw [(empty_iff u).1 he]; exact pf_nil _))
      go_wp2
      go_ret2
      exact ⟨hB, .inr ⟨HN.out, none, 0, 0, rfl⟩⟩
    have he' : u.toList.isEmpty = false := by simpa using he
    have hlt : 0 < u.size := by
      have : u.data.toList ≠ [] := fun h => he ((empty_iff u).2 h)
      have := List.length_pos_iff.2 this
      simpa using this
    clear he
    have HD : Hid (u.data.toList = u[0] :: u.data.toList.drop 1) := Lib.hid (by have := drop_cons u 0 hlt; simpa using this)
    have h255 : (u[0].toNat : Int) ≤ 255 := by have := u[0].toNat_lt; omega
    by_cases hz : u[0].toNat = 0
    · have hz' : ((u[0].toNat : Int) == 0) = true := by simp [hz]
      by_cases h1 : u.size = 1
      · have h1' : ((u.size : Int) == 1) = true := by simp [h1]
        have hr : u.data.toList.drop 1 = [] := drop_end u 1 (by omega)
        by_cases hl : (s.size : Int) ≤ 255
        · have HY := Lib.hid (sp_end HP.out (by omega) HD.out hz hr (by simpa using hl))
          clear hz h1 hr
          go_wp2
          go_ret2
          exact ⟨hB, .inl ⟨_, _, HY.out, rfl, SV.of_own hown HNI.out⟩⟩
        · have HY := Lib.hid (sp_long (l := s.data.toList) (by simp; omega))
          have hdec : decide ((s.size : Int) ≤ 255) = false := by simpa using hl
          obtain ⟨a, c, rfl, _⟩ := Rd.of_own hown
          clear hz h1 hr
          go_wp2
          go_ret2
          exact ⟨hB, .inr ⟨HY.out, _, _, _, rfl⟩⟩
      · have h1' : ((u.size : Int) == 1) = false := by simp; omega
        have hr : u.data.toList.drop 1 ≠ [] := by
          intro h; have := congrArg List.length h; simp at this; omega
        have HY := Lib.hid (sp_none HP.out (pf_tail HD.out hz hr))
        obtain ⟨a, c, rfl, _⟩ := Rd.of_own hown
        clear hz h1 hr
        go_wp2
        go_ret2
        exact ⟨hB, .inr ⟨HY.out, _, _, _, rfl⟩⟩
    · have hz' : ((u[0].toNat : Int) == 0) = false := by simp; omega
      have HL : Hid ((u.data.toList.drop 1).length = u.size - 1) := Lib.hid (by simp)
      by_cases h63 : 63 < (u[0].toNat : Int)
      · have HY := Lib.hid (sp_none HP.out (pf_bad HD.out hz (.inl (by omega))))
        clear hz
        go_wp2
        go_ret2
        exact ⟨hB, .inr ⟨HY.out, none, 0, 0, rfl⟩⟩
      · have h63' : (u[0].toNat : Int) ≤ 63 := by omega
        clear h63
        by_cases hfit : (u.size : Int) < 1 + (u[0].toNat : Int)
        · have HY := Lib.hid (sp_none HP.out (pf_bad HD.out hz (.inr (by have := HL.out; omega))))
          clear hz
          go_wp2
          go_ret2
          exact ⟨hB, .inr ⟨HY.out, none, 0, 0, rfl⟩⟩
        · have hfit' : 1 + (u[0].toNat : Int) ≤ (u.size : Int) := by omega
          have hpos : 1 ≤ (u[0].toNat : Int) := by omega
          have HST := fun M hM => sp_next (M := M) HP.out (by simp) HD.out hz (by have := HL.out; omega) hM
          have HS := Lib.hid HST; clear HST hfit hz
          have hx : (u.extract 1 (1 + u[0].toNat)).data.toList = (u.data.toList.drop 1).take u[0].toNat := by
            rw [Lib.extract_data]; congr 1; omega
          have HX : Hid (Value.string (u.extract 1 (1 + u[0].toNat)) = strV ((u.data.toList.drop 1).take u[0].toNat)) := Lib.hid (congrArg Value.string (ba_ext hx))
          clear hx
          have hsz := hB.size
          go_wp2_with (at_builtin; refine wpList_append_own _ rfl _ _ 74 rfl w.heap.size 9 i0 (.string ByteArray.empty) 1 16 Tryz.underlying74 hi hz0 hz1 hz2 rfl (by decide) _ _ _ rfl (hown.alloc _) ⟨wr.heap.size, 0, none⟩ 1 1 [.string (u.extract 1 (1 + u[0].toNat))] rfl rfl ?c1 ?c2 ?c3 ?c4 ?c5 ?_)
          case c1 => exact cell_one_new _ _ _
          case c2 => simp [Value.oneCell']
          case c3 => unfold maxLen; omega
          case c4 => omega
          case c5 => simp; omega
          intro v' w1 hown' hgrow hnil
          have HN2 := Lib.hid hnil; clear hnil
          have hown2 := own_snoc HX.out hown'
          have hB2 := below_append hB hsz hown hgrow
          clear hown' hgrow hown
          have hd : (u.extract (1 + u[0].toNat) u.size).data.toList = (u.data.toList.drop 1).drop u[0].toNat := by
            rw [Lib.extract_data, List.drop_drop, List.take_of_length_le (by simp)]
          have hsz2 : (u.extract (1 + u[0].toNat) u.size).size = u.size - (1 + u[0].toNat) := by rw [ByteArray.size_extract]; omega
          have HD2 := Lib.hid hd; have HZ2 := Lib.hid hsz2
          clear hd hsz2
          go_wp2
          go_roundg (gk - 1)
          case rel =>
            have hz2 := HZ2.out
            refine ⟨_, _, rfl, Lib.hid (by simpa using HN2.out), hown2, hB2, by omega, by omega, by simp; omega, Lib.hid ?_⟩
            rw [HD2.out]
            exact HS.out _ (by rw [← HD2.out]; simp)
          case measure => omega
theorem split_yes (s : ByteArray) (ls : List Bs) (w : World) (h : IsN s.data.toList ls) :
    Calls Tryz.prog 53 #[.string s] w fun e w' => ∃ v, e = .returned (.tuple #[v, .bool true]) ∧ SV w' v w.heap.size ls ∧ Below w.heap.size w w' := by
  have hs := h.2.2
  rw [size_len] at hs
  refine (split_any s w (by omega)).mono ?_
  rintro e w' ⟨hB, ⟨v, ls', h1, rfl, hown⟩ | ⟨h1, _⟩⟩
  · have := isN_inj h (split_iff.1 h1)
    subst this
    exact ⟨v, rfl, hown, hB⟩
  · rw [split_iff.2 h] at h1; simp at h1
theorem split_no (s : ByteArray) (w : World) (hs : s.size ≤ 1099511627776) (h : split s.data.toList = none) :
    Calls Tryz.prog 53 #[.string s] w fun e w' => ∃ a n c, e = .returned (.tuple #[.slice a n c, .bool false]) ∧ Below w.heap.size w w' := by
  refine (split_any s w hs).mono ?_
  rintro e w' ⟨hB, ⟨v, ls', h1, rfl, hown⟩ | ⟨h1, a, n, c, rfl⟩⟩
  · rw [h] at h1; simp at h1
  · exact ⟨a, n, c, rfl, hB⟩

def isB (s : ByteArray) : Bool := (split s.data.toList).isSome
theorem isB_yes {s : ByteArray} {ls : List Bs} (h : IsN s.data.toList ls) : isB s = true := by unfold isB; rw [split_iff.2 h]; rfl
theorem isB_no {s : ByteArray} (h : split s.data.toList = none) : isB s = false := by unfold isB; rw [h]; rfl
theorem isB_or (s : ByteArray) : (∃ ls, IsN s.data.toList ls) ∨ split s.data.toList = none := by
  cases h : split s.data.toList with
  | none => exact .inr rfl
  | some ls => exact .inl ⟨ls, split_iff.1 h⟩
set_option maxRecDepth 100000 in
theorem isName_any (s : ByteArray) (w : World) (hs : s.size ≤ 1099511627776) :
    Calls Tryz.prog 78 #[.string s] w fun e w' => e = .returned (.bool (isB s)) ∧ Below w.heap.size w w' := by
  rcases isB_or s with ⟨ls, h⟩ | h
  · have HI := Lib.hid (isB_yes h)
    have HH := Lib.hid h; clear h
    go_enter Tryz.func78, Tryz.ntmps78
    go_wp2_with fail
    refine (split_yes s ls _ HH.out).mono ?_
    rintro e w1 ⟨v, rfl, hsv, hB⟩
    obtain ⟨a, c, rfl, _⟩ := hsv.rd
    go_wp2
    go_ret
    exact ⟨ret_bool HI.out.symm, hB⟩
  · have HI := Lib.hid (isB_no h)
    have HH := Lib.hid h; clear h
    go_enter Tryz.func78, Tryz.ntmps78
    go_wp2_with fail
    refine (split_no s _ hs HH.out).mono ?_
    rintro e w1 ⟨a, n, c, rfl, hB⟩
    go_wp2
    go_ret
    exact ⟨ret_bool HI.out.symm, hB⟩
theorem chkE_isB (s : ByteArray) : check.chkE s = if isB s then 0 else 1 := chk_eq s
end Go.Proofs.YtanoiiodnddkfaaGreat.rsplit
namespace Go.Proofs.YtanoiiodnddkfaaGreat.low
open Go.RowKit Go.Proofs.YtanoiiodnddkfaaGreat.kit

def lowB (c : UInt8) : UInt8 := if 65 ≤ c.toNat ∧ c.toNat ≤ 90 then c + 32 else c
def lowL (l : List UInt8) : List UInt8 := l.map lowB
def lowTo (k : Nat) (l : List UInt8) : List UInt8 := (l.take k).map lowB ++ l.drop k
theorem lowTo_length (k : Nat) (l : List UInt8) : (lowTo k l).length = l.length := by
  simp only [lowTo, List.length_append, List.length_map, List.length_take, List.length_drop]; omega
theorem lowTo_at (k : Nat) (l : List UInt8) (h : k ≤ l.length) : (lowTo k l)[k]? = l[k]? := by
  have e : ((l.take k).map lowB).length = k := by simp; omega
  simp only [lowTo]
  rw [List.getElem?_append_right (by omega), e]
  simp
theorem lowTo_succ (k : Nat) (l : List UInt8) (c : UInt8) (h : l[k]? = some c) : (lowTo k l).set k (lowB c) = lowTo (k + 1) l := by
  obtain ⟨h', rfl⟩ := List.getElem?_eq_some_iff.1 h
  have e : ((l.take k).map lowB).length = k := by simp; omega
  simp only [lowTo]
  rw [List.set_append, if_neg (by omega), e, Nat.sub_self, List.drop_eq_getElem_cons h', List.set_cons_zero, List.take_succ_eq_append_getElem h', List.map_append, List.append_assoc]
  rfl
theorem lowTo_skip (k : Nat) (l : List UInt8) (c : UInt8) (h : l[k]? = some c) (hc : lowB c = c) : lowTo k l = lowTo (k + 1) l := by
  rw [← lowTo_succ k l c h, hc]
  have h1 := (List.getElem?_eq_some_iff.1 h).1
  have h' : k < (lowTo k l).length := by rw [lowTo_length]; exact h1
  have h2 : (lowTo k l)[k]? = some c := by rw [lowTo_at k l (by omega), h]
  obtain ⟨h3, h4⟩ := List.getElem?_eq_some_iff.1 h2
  rw [← h4]
  exact (List.set_getElem_self h3).symm
theorem lowTo_all (l : List UInt8) : lowTo l.length l = lowL l := by simp [lowTo, lowL]
theorem lowTo_zero (l : List UInt8) : lowTo 0 l = l := by simp [lowTo]

theorem up_val (c : UInt8) (h : 65 ≤ c.toNat ∧ c.toNat ≤ 90) : ((lowB c).toNat : Int) = (c.toNat : Int) + 32 := by
  simp only [lowB, if_pos h, UInt8.toNat_add]
  have : (32 : UInt8).toNat = 32 := rfl
  omega
theorem lowB_id (c : UInt8) (h : ¬ (65 ≤ c.toNat ∧ c.toNat ≤ 90)) : lowB c = c := by simp only [lowB, if_neg h]

set_option maxHeartbeats 400000 in
theorem low_any (s : ByteArray) (w : World) (hs : s.size ≤ maxLen) :
    Calls Tryz.prog 101 #[.string s] w fun e w' => e = .returned (.string ⟨(lowL s.data.toList).toArray⟩) ∧ Below w.heap.size w w' := by
  unfold maxLen at hs
  have hconv := Lib.run_convert_string_bytes (P := Tryz.prog) w 9 102 5 s Tryz.underlying9 Tryz.underlying102 Tryz.underlying5
  have hB := bytesWorld_below w 5 s
  have hb0 := bytes_new w 5 s
  generalize grownCap w s.size 0 5 = cap at hconv
  generalize Lib.bytesWorld w 5 s = w1 at hconv hB hb0
  have H0 := Lib.hid hb0; clear hb0
  go_enter Tryz.func101, Tryz.ntmps101
  go_wp2
  clear hconv
  go_loopw [4, 9] (fun _ i wr => ∃ k : Nat, k ≤ s.size ∧ i = .int .i64 k ∧ Below w.heap.size w wr ∧ Hid (Bytes wr w.heap.size (lowTo k s.data.toList))) (fun _ i _ => s.size - (intOf i).toNat)
  case atStart => exact ⟨0, Nat.zero_le _, rfl, hB, by rw [lowTo_zero]; exact H0⟩
  case round =>
    obtain ⟨k, hk, rfl, hBr, hbr⟩ := hrel
    clear hB H0
    by_cases hlt : k < s.size
    · obtain ⟨c, hc⟩ : ∃ c, s.data.toList[k]? = some c := ⟨_, List.getElem?_eq_getElem (by simpa using hlt)⟩
      obtain ⟨hcell, hfr⟩ := hbr.out k c (by rw [lowTo_at k _ (by simpa using hk)]; exact hc)
      have HC := Lib.hid hc
      clear hc
      obtain ⟨n, hn, hn0, hn1, hup, hlo⟩ : ∃ n : Int, n = (c.toNat : Int) ∧ 0 ≤ n ∧ n < 256 ∧ (65 ≤ n ∧ n ≤ 90 → ((lowB c).toNat : Int) = n + 32) ∧ (¬ (65 ≤ n ∧ n ≤ 90) → lowB c = c) :=
        ⟨_, rfl, by omega, byte_lt c, fun h => up_val c (by omega), fun h => lowB_id c (by omega)⟩
      rw [← hn] at hcell
      have HU := Lib.hid hup; have HL := Lib.hid hlo; have HN := Lib.hid hn
      clear hup hlo hn
      by_cases hup : 65 ≤ n ∧ n ≤ 90
      · have hlow := HU.out hup
        have hset := bytes_set hbr.out k (lowB c)
        rw [lowTo_succ k _ c HC.out, hlow] at hset
        have HS := Lib.hid hset; clear hset
        have HW := Lib.hid hlow; clear hlow
        obtain ⟨h1, h2⟩ := hup
        go_wp2
        exact ⟨⟨k + 1, by omega, by go_num, hBr.setCell (Nat.le_refl _) _, HS⟩, by simp [intOf]; omega⟩
      · have hsk := lowTo_skip k _ c HC.out (HL.out hup)
        have HS := Lib.hid hsk; clear hsk
        by_cases h1 : 65 ≤ n
        · have h2 : ¬ n ≤ 90 := by omega
          clear hup
          go_wp2
          exact ⟨⟨k + 1, by omega, by go_num, hBr, by rw [← HS.out]; exact hbr⟩, by simp [intOf]; omega⟩
        · clear hup
          go_wp2
          exact ⟨⟨k + 1, by omega, by go_num, hBr, by rw [← HS.out]; exact hbr⟩, by simp [intOf]; omega⟩
    · have hke : k = s.data.toList.length := by simp; omega
      have hfin := hbr.out
      rw [hke, lowTo_all] at hfin
      have hback := bytes_back (P := Tryz.prog) hfin 102 9 5 cap s.size (by simp [lowL]) Tryz.underlying102 Tryz.underlying5 Tryz.underlying9
      clear hfin
      have HK := Lib.hid hke; clear hke
      go_wp2
      go_ret
      exact ⟨rfl, hBr⟩

/-- Number -/
def numLoop (top : Int) : List UInt8 → Int → Int
  | [], v => if top < v then -1 else v
  | c :: r, v => if c.toNat < 48 then -1 else if 57 < c.toNat then -1 else numLoop top r (v * 10 + (c.toNat : Int) - 48)
def numSpec (s : List UInt8) (most top : Int) : Int := if s = [] then -1 else if most < s.length then -1 else numLoop top s 0

theorem num_nil {s : ByteArray} (most top : Int) (h : s.toList = []) : -1 = numSpec s.data.toList most top := by
  rw [Lib.toList_data] at h; simp [numSpec, h]
theorem num_long {s : ByteArray} (most top : Int) (h : s.toList.isEmpty = true ∨ most < (s.size : Int)) : -1 = numSpec s.data.toList most top := by
  rw [Lib.toList_data] at h
  simp only [numSpec]
  by_cases h0 : s.data.toList = []
  · simp [h0]
  · rw [if_neg h0, if_pos]
    rcases h with h | h
    · simp at h; simp [h] at h0
    · simpa using h
theorem num_start {s : ByteArray} (most top : Int) (h : s.toList.isEmpty = false ∧ (s.size : Int) ≤ most) : numLoop top (s.data.toList.drop 0) 0 = numSpec s.data.toList most top := by
  rw [Lib.toList_data] at h
  obtain ⟨h1, h2⟩ := h
  simp only [numSpec]
  rw [if_neg (by intro h; simp [h] at h1), if_neg (by simp; exact h2)]
  simp

/-- the greatest number of k digits -/
def nines : Nat → Int
  | 0 => 0
  | k + 1 => 10 * nines k + 9
theorem nines_mono (a b : Nat) (h : a ≤ b) : nines a ≤ nines b := by
  induction b with
  | zero => have : a = 0 := by omega
            subst this; exact Int.le_refl _
  | succ b ih =>
    have h0 : ∀ k, 0 ≤ nines k := by
      intro k; induction k with
      | zero => simp [nines]
      | succ k ih => simp only [nines]; omega
    by_cases e : a = b + 1
    · subst e; exact Int.le_refl _
    · have := ih (by omega); have := h0 b; simp only [nines]; omega
theorem nines_ten (a : Nat) (h : (a : Int) ≤ 10) : nines a ≤ 9999999999 := by
  have := nines_mono a 10 (by omega); simpa [nines] using this

theorem num_lo {l : List UInt8} {r : List UInt8} {c : UInt8} {top n v : Int} (hd : l = c :: r) (h : numLoop top l n = v) (hc : (c.toNat : Int) < 48) : -1 = v := by
  subst hd; rw [← h]; simp only [numLoop]; rw [if_pos (by omega)]
theorem num_hi {l : List UInt8} {r : List UInt8} {c : UInt8} {top n v : Int} (hd : l = c :: r) (h : numLoop top l n = v) (_h1 : (48 : Int) ≤ c.toNat) (hc : 57 < (c.toNat : Int)) : -1 = v := by
  subst hd; rw [← h]; simp only [numLoop]; rw [if_neg (by omega), if_pos (by omega)]
theorem num_step {l : List UInt8} {r : List UInt8} {c : UInt8} {top n v : Int} (hd : l = c :: r) (h : numLoop top l n = v) (h1 : (48 : Int) ≤ c.toNat) (hc : (c.toNat : Int) ≤ 57) : numLoop top r (n * 10 + (c.toNat : Int) - 48) = v := by
  subst hd; rw [← h]; simp only [numLoop]; rw [if_neg (by omega), if_neg (by omega)]
theorem num_over {top n v : Int} (h : numLoop top [] n = v) (hc : top < n) : -1 = v := by
  rw [← h]; simp only [numLoop]; rw [if_pos hc]
theorem num_end {top n v : Int} (h : numLoop top [] n = v) (hc : n ≤ top) : n = v := by
  rw [← h]; simp only [numLoop]; rw [if_neg (by omega)]

end Go.Proofs.YtanoiiodnddkfaaGreat.low

/- data's texts, kinds, b64: 'show': walks. Two lists at once: one is read while the other grows. -/
import Derived.Test.YtjejmgdpjfdhjaaGreatDoorK11
import Derived.Test.YtjejmgdpjfdhjaaGreatDoorK13
import Derived.Test.YtjejmgdpjfdhjaaGreatDoorK9
import Derived.Maps.AppendAt
namespace Go.Proofs.YtjejmgdpjfdhjaaGreatDoor.dshowD
open Go.RowKit Go.Proofs.YtjejmgdpjfdhjaaGreatDoor.kit Go.Proofs.YtjejmgdpjfdhjaaGreatDoor.nspec Go.Proofs.YtjejmgdpjfdhjaaGreatDoor.bits Go.Proofs.YtjejmgdpjfdhjaaGreatDoor.bld Go.Proofs.YtjejmgdpjfdhjaaGreatDoor.dshow Go.Proofs.YtjejmgdpjfdhjaaGreatDoor.rsplit Go.Proofs.YtjejmgdpjfdhjaaGreatDoor.dshowA Go.Proofs.YtjejmgdpjfdhjaaGreatDoor.tname Go.Proofs.YtjejmgdpjfdhjaaGreatDoor.fld Go.Proofs.YtjejmgdpjfdhjaaGreatDoor.dshowB Go.Proofs.YtjejmgdpjfdhjaaGreatDoor.takes Go.Proofs.YtjejmgdpjfdhjaaGreatDoor.textsT Go.Proofs.YtjejmgdpjfdhjaaGreatDoor.small Go.Proofs.YtjejmgdpjfdhjaaGreatDoor.val Go.Proofs.YtjejmgdpjfdhjaaGreatDoor.typesW Go.Proofs.YtjejmgdpjfdhjaaGreatDoor.ints
set_option linter.unusedVariables false

theorem ext0 (s : ByteArray) (n : Nat) : (s.extract 0 n).data.toList = s.data.toList.take n := by rw [Lib.extract_data]; simp
theorem chain_any : ∀ (f : Nat) (a b : Nat) (d : Bs), 1 ≤ a → 1 ≤ b → 0 ≤ textsF f a d → 0 ≤ textsF f b d
  | 0, _, _, _, _, _, h => by simp [textsF] at h
  | f + 1, a, b, [], ha, hb, h => by simp only [textsF]; rw [if_neg (by omega)]; omega
  | f + 1, a, b, c :: r, ha, hb, h => by
    simp only [textsF] at h ⊢
    split at h
    · omega
    · rename_i hc; rw [if_neg hc]; exact chain_any f _ _ _ (by omega) (by omega) h
/-- a row of texts, maybe none -/
def Chain (d : Bs) : Prop := 0 ≤ textsF (d.length + 1) 1 d
theorem Chain.cons {c : UInt8} {r : Bs} (h : Chain (c :: r)) : c.toNat ≤ r.length ∧ Chain (r.drop c.toNat) := by
  unfold Chain at h ⊢
  rw [List.length_cons, textsF] at h
  split at h
  · omega
  · rename_i hc
    refine ⟨by omega, ?_⟩
    rw [texts_fuel _ ((r.drop c.toNat).length + 1) _ _ (by rw [List.length_drop]; omega) (by omega)] at h
    exact chain_any _ _ _ _ (by omega) (by omega) h
theorem chain_of {d : Bs} (h : OkP .texts d) : Chain d := by
  unfold OkP at h
  cases d with
  | nil => unfold Chain; simp [textsF]
  | cons c r =>
    simp only [takeS, textsS] at h
    unfold Chain
    rw [textsF] at h ⊢
    split at h
    · simp at h; omega
    · rename_i hc
      rw [if_neg hc]
      exact chain_any _ (0 + (1 + c.toNat)) _ _ (by omega) (by omega) (by rw [h]; exact Int.natCast_nonneg _)
theorem words_step {P R : List Bs} {c : UInt8} {r d : Bs} (h : P ++ textsW d = R) (hd : d = c :: r) : (P ++ [quoteS (r.take c.toNat)]) ++ textsW (r.drop c.toNat) = R := by
  subst hd
  rw [textsW_cons] at h
  rw [← h]; simp

set_option maxRecDepth 100000 in
set_option maxHeartbeats 2400000 in
theorem texts_show (s : ByteArray) (w : World) (hs : s.size ≤ 65535) (hok : OkP .texts s.data.toList) :
    Calls Tryz.prog 113 #[.agg #[], .string s] w (ShowPost w (showF .texts s.data.toList)) := by
  have HBA := Lib.hid ((Below.refl w.heap.size w).alloc (Nat.le_refl _) (.cells #[] 69))
  obtain ⟨R, HR⟩ : ∃ R, Hid ([] ++ textsW s.data.toList = R) := ⟨_, Lib.hid rfl⟩
  have e0 : showF .texts s.data.toList = R := HR.out
  rw [e0]
  have HC := Lib.hid (chain_of hok)
  clear e0 hok
  go_enter Tryz.func113, Tryz.ntmps113
  go_wp2_with fail
  go_loopg [1, 4, 5] (s.size + 1) (fun gas dv ov _ wr => ∃ (u : ByteArray) (P : List Bs), dv = .string u ∧ u.size < gas ∧ P.length + u.size ≤ 65535 ∧ Hid (P ++ textsW u.data.toList = R) ∧ Hid (Chain u.data.toList) ∧ Hid (wr.ownsRow w.heap.size 9 1 ov P.length (P.map strV)) ∧ Hid (Below w.heap.size w wr))
  case atStart => exact ⟨s, [], rfl, by omega, by simpa using hs, HR, HC, Lib.hid (World.ownsRow_nil _ _ _ _), HBA⟩
  case round =>
    obtain ⟨u, P, rfl, hg, hP, HW, HCH, HO, HB⟩ := hrel
    have HG := Lib.hid hg; clear hg
    have hsz := HB.out.size
    by_cases h0 : 0 < u.size
    · have hne : u.toList.isEmpty = false := by
        rw [Lib.toList_data]
        cases hl : u.data.toList with
        | nil => rw [← size_len, hl] at h0; simp at h0
        | cons a b => rfl
      have hd := drop_cons u 0 h0
      obtain ⟨c, hc⟩ : ∃ c, u[0] = c := ⟨_, rfl⟩
      obtain ⟨r, hr⟩ : ∃ r, u.data.toList.drop (0 + 1) = r := ⟨_, rfl⟩
      rw [hc, hr, List.drop_zero] at hd
      have hrl : r.length + 1 = u.size := by rw [← size_len, hd, List.length_cons]
      have hch := HCH.out
      rw [hd] at hch
      obtain ⟨hcr, hch2⟩ := hch.cons
      have HST := Lib.hid (words_step HW.out hd)
      obtain ⟨n, hn⟩ : ∃ n, 1 + c.toNat = n := ⟨_, rfl⟩
      have hnu : n ≤ u.size := by omega
      have hn1 : 1 ≤ n := by omega
      have CT := Lib.hid (fun w => text_any u w (by omega))
      have e1 : textS u.data.toList = (n : Int) := by rw [hd]; simp only [textS]; rw [if_neg (by omega), ← hn]; simp
      rw [e1] at CT
      obtain ⟨x, hx⟩ : ∃ x, u.extract 0 n = x := ⟨_, rfl⟩
      have hxd : x.data.toList = c :: r.take c.toNat := by
        rw [← hx, ext0, hd, ← hn, Nat.add_comm 1, List.take_succ_cons]
      have hxs : x.size ≤ 65535 := by rw [← hx, ByteArray.size_extract]; omega
      have hx1 : 1 ≤ x.size := by rw [← hx, ByteArray.size_extract]; omega
      obtain ⟨y, hy⟩ : ∃ y, u.extract n u.size = y := ⟨_, rfl⟩
      have hyd : y.data.toList = r.drop c.toNat := by
        rw [← hy, ext_end, hd, ← hn, Nat.add_comm 1, List.drop_succ_cons]
      have hys : y.size = u.size - n := by rw [← hy, ByteArray.size_extract]; omega
      have CS := Lib.hid (fun w => text_show x w hxs hx1)
      rw [showF, hxd, List.drop_succ_cons, List.drop_zero] at CS
      rw [← hyd] at HST hch2
      have HCH2 := Lib.hid hch2
      have HYS := Lib.hid hys
      obtain ⟨q, hq⟩ : ∃ q, quoteS (r.take c.toNat) = q := ⟨_, rfl⟩
      rw [hq] at CS HST
      have hni : 0 ≤ (n : Int) := by omega
      have hnui : (n : Int) ≤ (u.size : Int) := by omega
      clear hd hr hc hrl hch hch2 hcr e1 hxd hyd hq hn hys
      go_wp2_with fail
      refine (CT.out _).mono ?_
      rintro e w1 ⟨rfl, hB1⟩
      have HB1 := Lib.hid (HB.out.trans (hB1.mono hsz))
      have HO1 := Lib.hid (own_below HO.out hB1)
      have hsz1 := HB1.out.size
      clear hB1
      go_wp2_with fail
      refine (CS.out _).mono ?_
      rintro e w2 ⟨hB2, v2, rfl, hlv⟩
      have HB2 := Lib.hid (HB1.out.trans (hB2.mono hsz1))
      have HO2 := Lib.hid (own_below HO1.out hB2)
      have HLV := Lib.hid hlv
      have hsz2 := HB2.out.size
      clear hB2 hlv
      go_wp2_with (at_builtin; go_must (refine wpList_append_lv rfl _ _ rfl w.heap.size _ P rfl HO2.out w1.heap.size [q] _ rfl HLV.out ?c1 hsz2 ?_))
      case c1 => simp; omega
      intro v' w3 hown' hgrow
      have HO3 : Hid (w3.ownsRow w.heap.size 9 1 v' (P ++ [q]).length ((P ++ [q]).map strV)) := Lib.hid (by simpa using hown')
      have HB3 := Lib.hid (HB2.out.grown hgrow hsz2 (fun k hk => (HO2.out.lt k hk).1))
      clear hown' hgrow
      go_wp2_with fail
      have hg := HG.out
      have h2 := HYS.out
      go_roundg (gk - 1)
      case rel => exact ⟨y, P ++ [q], by first | rfl | (rw [hy]), by omega, by rw [List.length_append, List.length_singleton]; omega, HST, HCH2, HO3, HB3⟩
      case measure => omega
    · have hne : u.toList.isEmpty = true := by
        have : u.data.toList = [] := List.eq_nil_of_length_eq_zero (by rw [size_len]; omega)
        rw [Lib.toList_data, this]; rfl
      have HE : Hid (P = R) := Lib.hid (by
        have h := HW.out
        have h' : u.data.toList = [] := List.eq_nil_of_length_eq_zero (by rw [size_len]; omega)
        rw [h', textsW_nil, List.append_nil] at h; exact h)
      go_wp2_with fail
      go_ret
      exact ⟨HB.out, _, rfl, by rw [← HE.out]; exact LV.of_own HO.out⟩

theorem pick_lt : ∀ (l : List Nat) (b k : Nat), ∀ x ∈ pickL b k l, x < b * 256 + k + l.length
  | [], b, k => by simp [pickL]
  | y :: l, b, k => by
    intro x hx
    have ih := pick_lt l b (k + 1)
    simp only [pickL] at hx
    split at hx
    · rcases List.mem_cons.1 hx with rfl | hx
      · simp only [List.length_cons]; omega
      · have := ih x hx; simp only [List.length_cons]; omega
    · have := ih x hx; simp only [List.length_cons]; omega
theorem typesF_lt : ∀ (f : Nat) (last : Int) (out : List Nat) (d : Bs) (l : List Nat), (∀ x ∈ out, x < 65536) → typesF f last out d = some l → ∀ x ∈ l, x < 65536
  | 0, last, out, d, l, ho, h => by simp [typesF] at h
  | f + 1, last, out, [], l, ho, h => by
    have e : out = l := by simpa [typesF] using h
    rw [← e]; exact ho
  | f + 1, last, out, [b], l, ho, h => by simp [typesF] at h
  | f + 1, last, out, b :: n :: m, l, ho, h => by
    simp only [typesF] at h
    split at h
    · cases h
    · rename_i hc
      refine typesF_lt f _ _ _ _ ?_ h
      intro x hx
      rcases List.mem_append.1 hx with hx | hx
      · exact ho x hx
      · have h2 := pick_lt (bitsL (m.take n.toNat)) b.toNat 0 x hx
        rw [bitsL_len, List.length_take] at h2
        have := b.toNat_lt
        omega
theorem types_lt {d : Bs} {l : List Nat} (h : typesS d = some l) : ∀ x ∈ l, x < 65536 := by
  unfold typesS at h
  cases e : typesF (d.length + 1) (-1) [] d with
  | none => rw [e] at h; cases h
  | some l' =>
    rw [e] at h
    simp only at h
    split at h
    · cases h
    · have : l' = l := by simpa using h
      subst this
      exact typesF_lt _ _ _ _ _ (by simp) e
def tnW (t : Nat) : Bs := tnameS ((t : Nat) : Int)
theorem map_step {P R : List Bs} {l : List Nat} {k t : Nat} (h : P ++ (l.drop k).map tnW = R) (ht : l[k]? = some t) : (P ++ [tnW t]) ++ (l.drop (k + 1)).map tnW = R := by
  obtain ⟨h1, h2⟩ := List.getElem?_eq_some_iff.1 ht
  rw [List.drop_eq_getElem_cons h1, h2] at h
  rw [← h]; simp
theorem map_end {P R : List Bs} {l : List Nat} {k : Nat} (h : P ++ (l.drop k).map tnW = R) (hk : l.length ≤ k) : P = R := by
  rw [List.drop_eq_nil_iff.2 hk] at h; simpa using h
theorem kinds_ok {d : Bs} (h : OkP .kinds d) : ∃ l, typesS d = some l := by
  unfold OkP at h
  simp only [takeS] at h
  cases e : typesS d with
  | none => rw [e] at h; simp at h
  | some l => exact ⟨l, rfl⟩
set_option maxRecDepth 100000 in
set_option maxHeartbeats 2400000 in
theorem kinds_show (s : ByteArray) (w : World) (hs : s.size ≤ 65535) (hok : OkP .kinds s.data.toList) (hP : PowT w) :
    Calls Tryz.prog 130 #[.agg #[], .string s] w (ShowPost w (showF .kinds s.data.toList)) := by
  have HBA := Lib.hid ((Below.refl w.heap.size w).alloc (Nat.le_refl _) (.cells #[] 74))
  obtain ⟨l, hl⟩ := kinds_ok hok
  obtain ⟨R, HR⟩ : ∃ R, Hid ([] ++ (l.drop 0).map tnW = R) := ⟨_, Lib.hid rfl⟩
  have e0 : showF .kinds s.data.toList = R := by rw [showF, hl, ← HR.out]; rfl
  rw [e0]
  obtain ⟨n, hn⟩ : ∃ n, l.length = n := ⟨_, rfl⟩
  have hnb : n ≤ 524280 := by have := types_count hl; rw [size_len] at this; omega
  have HLT := Lib.hid (types_lt hl)
  have CT := Lib.hid (fun w => types_any s w (by omega))
  have HL := Lib.hid hl; have HN := Lib.hid hn; have HP := Lib.hid hP
  clear e0 hok hl hn hP
  go_enter Tryz.func130, Tryz.ntmps130
  go_wp2_with fail
  refine (CT.out _).mono ?_
  rintro e w1 ⟨hB1, ⟨v, l', hl', rfl, hown⟩ | ⟨hl', _⟩⟩
  case inr => rw [HL.out] at hl'; cases hl'
  obtain rfl : l = l' := Option.some.inj (HL.out.symm.trans hl')
  obtain ⟨a, c, rfl, hc1, hc2, hrd⟩ := RdN.of_own hown
  rw [HN.out] at hc1 ⊢
  have HRD := Lib.hid hrd
  have HB1 := Lib.hid (HBA.out.trans (hB1.mono HBA.out.size))
  have hz1 := HB1.out.size
  clear hB1 hown hrd hl'
  go_wp2_with fail
  go_loopg [4, 8, 16] (n + 1) (fun gas ov _ kv wr => ∃ (k : Nat) (P : List Bs), kv = .int .i64 k ∧ k ≤ n ∧ k + gas = n + 1 ∧ P.length = k ∧ Hid (P ++ (l.drop k).map tnW = R) ∧ Hid (wr.ownsRow w1.heap.size 9 1 ov P.length (P.map strV)) ∧ Hid (Below w1.heap.size w1 wr))
  case atStart => exact ⟨0, [], rfl, by omega, by omega, rfl, HR, Lib.hid (World.ownsRow_nil _ _ _ _), Lib.hid (Below.refl _ _)⟩
  case round =>
    obtain ⟨k, P, rfl, hk, hkg, hPl, HW, HO, HB⟩ := hrel
    have HKG := Lib.hid hkg; clear hkg
    have hsz := HB.out.size
    by_cases hlt : k < n
    · obtain ⟨t, ht⟩ : ∃ t, l[k]? = some t := ⟨_, List.getElem?_eq_getElem (by have := HN.out; omega)⟩
      obtain ⟨g, o, rfl, hg, hcell0⟩ := HRD.out k t ht
      have hcell := (HB.out.cell (p := ⟨g, o + k, none⟩) hg).trans hcell0
      unfold bitV at hcell
      have htb := HLT.out t (List.mem_of_getElem? ht)
      have HST := Lib.hid (map_step HW.out ht)
      have HBW := Lib.hid (HB1.out.trans (HB.out.mono hz1))
      have CN := Lib.hid (dtname_any (t : Int) (by omega) (by omega) wr (pow_below HP.out HBW.out))
      have e1 : tnameS (t : Int) = tnW t := rfl
      rw [e1] at CN
      have hk0 : 0 ≤ (k : Int) := by omega
      obtain ⟨q, hq⟩ : ∃ q, tnW t = q := ⟨_, rfl⟩
      rw [hq] at CN HST
      clear hcell0 ht e1 hq
      go_wp2_with fail
      refine CN.out.mono ?_
      rintro e w2 ⟨rfl, hB2⟩
      have HB2 := Lib.hid (HB.out.trans (hB2.mono hsz))
      have HO2 := Lib.hid (own_below HO.out hB2)
      have hz2 := HB2.out.size
      clear hB2
      have hlv : ∀ w3, w3 = w2.alloc (.cells #[.string ⟨q.toArray⟩] 9) → LV w3 (.slice (some ⟨w2.heap.size, 0, none⟩) 1 1) w2.heap.size [q] := by
        rintro _ rfl
        obtain ⟨_, v, hv, h⟩ := show_one (Below.refl w2.heap.size w2) (x := q) (X := ⟨q.toArray⟩) rfl 9
        cases hv; exact h
      have HLV := Lib.hid hlv; clear hlv
      go_wp2_with (at_builtin; go_must (refine wpList_append_lv rfl _ _ rfl w1.heap.size _ P rfl (own_below HO2.out ((Below.refl _ w2).alloc (Nat.le_refl _) _)) w2.heap.size [q] _ rfl (HLV.out _ rfl) ?c1 ?c2 ?_))
      case c1 => simp; omega
      case c2 => rw [World.size_alloc]; omega
      intro v' w3 hown' hgrow
      have HO3 : Hid (w3.ownsRow w1.heap.size 9 1 v' (P ++ [q]).length ((P ++ [q]).map strV)) := Lib.hid (by
        have e : (P ++ [q]).length = k + 1 := by rw [List.length_append, List.length_singleton, hPl]
        rw [e]; simpa using hown')
      have HB3 := Lib.hid ((HB2.out.alloc hz2 (.cells #[.string ⟨q.toArray⟩] 9)).grown hgrow (by rw [World.size_alloc]; omega) (fun k hk => (HO2.out.lt k hk).1))
      clear hown' hgrow
      go_wp2_with fail
      have hkg := HKG.out
      go_roundg (gk - 1)
      case rel => exact ⟨k + 1, P ++ [q], by go_num, by omega, by omega, by rw [List.length_append, List.length_singleton]; omega, HST, HO3, HB3⟩
      case measure => omega
    · have HE := Lib.hid (map_end HW.out (by have := HN.out; omega))
      go_wp2_with fail
      go_ret
      exact ⟨HB1.out.trans (HB.out.mono hz1), _, rfl, by rw [← HE.out]; exact (LV.of_own HO.out).mono hz1⟩
end Go.Proofs.YtjejmgdpjfdhjaaGreatDoor.dshowD
namespace Go.Proofs.YtjejmgdpjfdhjaaGreatDoor.two
open Go.RowKit Go.Proofs.YtjejmgdpjfdhjaaGreatDoor.kit Go.Proofs.YtjejmgdpjfdhjaaGreatDoor.ints
set_option linter.unusedVariables false

theorem cell_same {w w1 : World} {p : Addr} (h : w1.heap[p.block]? = w.heap[p.block]?) : w1.cell? p = w.cell? p := by unfold World.cell?; rw [h]
theorem frozen_same {w w1 : World} {p : Addr} (h : w1.heap[p.block]? = w.heap[p.block]?) : w1.frozen? p = w.frozen? p := by unfold World.frozen?; rw [h]
/-- v's own block is not a's -/
def Apart (v : Value) (a : Option Addr) : Prop := ∀ b, a = some b → v.ownBlock ≠ some b.block
theorem Apart.low {v : Value} {a : Option Addr} {B : Nat} (h : ∀ k, v.ownBlock = some k → k < B) (ha : ∀ b, a = some b → B ≤ b.block) : Apart v a := by
  intro b hb h2
  have := h _ h2
  have := ha _ hb
  omega
theorem Apart.next {v v' : Value} {a : Option Addr} {w : World} (h : Apart v a) (ha : ∀ b, a = some b → b.block < w.heap.size) (hat : v'.ownBlock = v.ownBlock ∨ v'.ownBlock = some (w.heap.size + 1)) : Apart v' a := by
  intro b hb h2
  have hlt := ha _ hb
  rcases hat with h3 | h3
  · exact h b hb (h3 ▸ h2)
  · rw [h3] at h2
    simp only [Option.some.injEq] at h2
    omega
theorem block_kept {w w1 : World} {o : Obj} {v : Value} {k : Nat} (hg : (w.alloc o).grownBy w1 v.ownBlock) (hk : k < w.heap.size) (hne : v.ownBlock ≠ some k) : w1.heap[k]? = w.heap[k]? := by
  have h1 := hg.block k (by rw [World.size_alloc]; omega) (fun h => hne h.symm)
  exact h1.trans (Below.heap_alloc w o k hk)
theorem RdN.kept {w w1 : World} {a : Option Addr} {ls : List Nat} {o : Obj} {v : Value} (h : RdN w a ls) (hg : (w.alloc o).grownBy w1 v.ownBlock) (hap : Apart v a) : RdN w1 a ls := by
  intro j x hx
  obtain ⟨g, p, h1, h2, h3⟩ := h j x hx
  have hb := block_kept hg h2 (hap _ h1)
  refine ⟨g, p, h1, ?_, ?_⟩
  · have := hg.size
    rw [World.size_alloc] at this; omega
  · rw [cell_same (p := ⟨g, p + j, none⟩) hb]; exact h3
theorem own_low {w : World} {base : Nat} {e : TypeId} {v : Value} {n size : Nat} {xs : List Value} (h : w.ownsRow base e size v n xs) : ∀ k, v.ownBlock = some k → k < w.heap.size := fun k hk => (h.lt k hk).2
theorem own_high {w : World} {base : Nat} {e : TypeId} {v : Value} {n size : Nat} {xs : List Value} (h : w.ownsRow base e size v n xs) : ∀ b l c, v = .slice (some b) l c → base ≤ b.block := by
  intro b l c hv
  rcases h.2 with ⟨h1, _⟩ | ⟨g, cap, cur, h1, hb, _⟩
  · rw [h1] at hv; cases hv
  · rw [h1] at hv; cases hv; exact hb
end Go.Proofs.YtjejmgdpjfdhjaaGreatDoor.two

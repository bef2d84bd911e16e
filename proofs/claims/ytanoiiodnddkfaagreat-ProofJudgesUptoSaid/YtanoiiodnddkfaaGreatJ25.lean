/- gazetteerref1.whole, From32: walks. -/
import Derived.Test.YtanoiiodnddkfaaGreatJ24
namespace Go.Proofs.YtanoiiodnddkfaaGreat.whole
open Go.RowKit Go.Proofs.YtanoiiodnddkfaaGreat.kit Go.Proofs.YtanoiiodnddkfaaGreat.bits Go.Proofs.YtanoiiodnddkfaaGreat.ints Go.Proofs.YtanoiiodnddkfaaGreat.back Go.Proofs.YtanoiiodnddkfaaGreat.low Go.Proofs.YtanoiiodnddkfaaGreat.bld Go.Proofs.YtanoiiodnddkfaaGreat.coded Go.Proofs.YtanoiiodnddkfaaGreat.spread

/-- the first k bits as a number -/
def ofTo (l : List Nat) (k : Nat) : Nat := ofb (l.take k)
theorem ofTo_succ {l : List Nat} {k x : Nat} (h : l[k]? = some x) : ofTo l (k + 1) = 2 * ofTo l k + x := by
  unfold ofTo
  rw [List.take_add_one, h, ofb_append]
  simp [ofb]; omega
theorem ofTo_lt (l : List Nat) (hl : ∀ x ∈ l, x ≤ 1) : ∀ k, ofTo l k < 2 ^ k
  | 0 => by simp [ofTo, ofb]
  | k + 1 => by
    have ih := ofTo_lt l hl k
    cases hh : l[k]? with
    | none =>
      have h1 : ofTo l (k + 1) = ofTo l k := by unfold ofTo; rw [List.take_add_one, hh]; simp
      rw [h1, Nat.pow_succ]; omega
    | some x =>
      have := hl x (List.mem_of_getElem? hh)
      rw [ofTo_succ hh, Nat.pow_succ]; omega
def mapB (A : List UInt8) (o : Option (List UInt8)) : Option (List UInt8) := o.map (A ++ ·)
theorem mapB_step {most : Nat} {A : List UInt8} {l : List Nat} {R : Option (List UInt8)} (h : mapB A (whole most l) = R) (hl : 8 ≤ l.length) : mapB (A ++ [UInt8.ofNat (ofTo l 8)]) (whole most (l.drop 8)) = R := by
  rw [whole_step hl] at h
  rw [← h]
  cases whole most (l.drop 8) <;> simp [mapB, ofTo]
theorem mapB_end {most : Nat} {A : List UInt8} {l : List Nat} {R : Option (List UInt8)} (h : mapB A (whole most l) = R) (hl : l.length < 8) : R = if zeros l = true ∧ l.length < most then some A else none := by
  rw [whole_end hl] at h
  rw [← h]
  by_cases h1 : zeros l = true <;> by_cases h2 : l.length < most <;> simp [h1, h2, mapB]
theorem zeros_no {l : List Nat} {k x : Nat} (h : l[k]? = some x) (hx : x ≠ 0) : zeros l = false := by
  unfold zeros
  rw [List.all_eq_false]
  exact ⟨x, List.mem_of_getElem? h, by simpa using hx⟩
theorem zeros_take {l : List Nat} {k : Nat} (h : l[k]? = some 0) (hz : zeros (l.take k) = true) : zeros (l.take (k + 1)) = true := by
  rw [List.take_add_one, h]
  unfold zeros at *
  simp [hz]
/-- what whole leaves -/
def WholePost (w : World) (o : Option (List UInt8)) (e : Ending) (w' : World) : Prop :=
  Below w.heap.size w w' ∧ ((∃ d, o = some d ∧ e = .returned (.tuple #[.string ⟨d.toArray⟩, .bool true])) ∨ (o = none ∧ ∃ t : ByteArray, e = .returned (.tuple #[.string t, .bool false])))

set_option maxRecDepth 100000 in
set_option maxHeartbeats 4000000 in
theorem whole_any (a : Option Addr) (c : Nat) (l : List Nat) (most : Nat) (w : World) (hr : RdN w a l) (hc : l.length ≤ c) (hcm : c ≤ maxLen) (hl : l.length ≤ 8796093022208) (h1 : ∀ x ∈ l, x ≤ 1) (_hm : most ≤ 8) :
    Calls Tryz.prog 106 #[.slice a l.length c, .int .i64 (most : Int)] w (WholePost w (whole most l)) := by
  obtain ⟨i0, hi, hz0, hz1, hz2⟩ := info_parts infoByte
  obtain ⟨R, HR⟩ : ∃ R, Hid (mapB [] (whole most l) = R) := ⟨_, Lib.hid rfl⟩
  have hRR : whole most l = R := by rw [← HR.out]; cases whole most l <;> simp [mapB]
  rw [hRR]
  clear hRR
  have H := Lib.hid hr; clear hr
  have H1 := Lib.hid h1; clear h1
  unfold maxLen at hcm
  go_enter Tryz.func106, Tryz.ntmps106
  go_wp2
  go_loopg [0, 6, 7, 8] (l.length + 1) (fun gas bv ov _ _ wr => ∃ (l' : List Nat) (a' : Option Addr) (c' : Nat) (A : List UInt8), bv = .slice a' l'.length c' ∧ l'.length ≤ c' ∧ c' ≤ 9223372036854775807 ∧ A.length + l'.length ≤ l.length ∧ l'.length < gas ∧ Hid (RdN w a' l') ∧ Hid (∀ x ∈ l', x ≤ 1) ∧ Hid (mapB A (whole most l') = R) ∧ wr.ownsRow w.heap.size 5 1 ov A.length (Lib.byteCells A) ∧ Below w.heap.size w wr)
  case atStart => exact ⟨l, a, c, [], rfl, hc, hcm, by simp, by omega, H, H1, HR, World.ownsRow_nil _ _ _ _, Below.refl _ _⟩
  case round =>
    obtain ⟨l', a', c', A, rfl, hc', hcm', hll, hlg, HRD, HB1, HW, hA, hB⟩ := hrel
    obtain ⟨gk', hgk'⟩ : ∃ g, g = gk := ⟨_, rfl⟩
    rw [← hgk'] at hlg
    have HK := Lib.hid hlg; clear hlg
    have hsz := hB.size
    by_cases h8 : 8 ≤ l'.length
    · obtain ⟨g1, o1, rfl⟩ := HRD.out.addr (by omega)
      have HE := Lib.hid (mapB_step HW.out h8)
      have h8d : decide (8 ≤ l'.length) = true := by simp; omega
      have h8i : (8 : Int) ≤ (l'.length : Int) := by omega
      go_wp2
      go_loopg [7, 8] 9 (fun gas vv kv wq => ∃ (k : Nat) (v : Nat), kv = .int .i64 k ∧ vv = .int .i64 v ∧ k ≤ 8 ∧ k + gas = 9 ∧ v < 256 ∧ Hid (v = ofTo l' k) ∧ wq = wr)
      case atStart => exact ⟨0, 0, rfl, rfl, by omega, by omega, by omega, Lib.hid rfl, rfl⟩
      case round =>
        obtain ⟨k, v, rfl, rfl, hk, hkg, hv64, HV, rfl⟩ := hrel
        have HKG := Lib.hid hkg; clear hkg
        by_cases hlt : k < 8
        · obtain ⟨x, hx⟩ : ∃ x, l'[k]? = some x := ⟨_, List.getElem?_eq_getElem (by omega)⟩
          obtain ⟨g2, o2, he, hg1, hcl0⟩ := HRD.out _ x hx
          cases he
          have hcl1 := (hB.cell (p := ⟨g1, o1 + k, none⟩) hg1).trans hcl0
          clear hcl0
          have hcl2 := ofTo_lt l' HB1.out (k + 1)
          have hp : 2 ^ (k + 1) ≤ 256 := Nat.pow_le_pow_right (n := 2) (by omega) (show k + 1 ≤ 8 by omega)
          have hcs := ofTo_succ hx
          have hvk := HV.out
          rw [← hvk] at hcs
          obtain ⟨v', hv'⟩ : ∃ v', ofTo l' (k + 1) = v' := ⟨_, rfl⟩
          rw [hv'] at hcs hcl2
          have HV' := Lib.hid hv'.symm
          have hv'64 : v' < 256 := by omega
          have hx1 := HB1.out x (List.mem_of_getElem? hx)
          have hsum : Value.int .i64 (2 * (v : Int) + (x : Int)) = Value.int .i64 (v' : Int) := by congr 1; omega
          clear hcl2 hp hvk hv' hcs hx
          unfold bitV at hcl1
          have hlt8 : (k : Int) < 8 := by omega
          have hkl : k < l'.length := by omega
          go_wp2
          have hkg := HKG.out
          go_roundg (gk - 1)
          case rel => exact ⟨k + 1, _, by go_num, (by first | exact hsum | rfl), by omega, by omega, hv'64, HV', rfl⟩
          case measure => omega
        · have hkn : k = 8 := by omega
          subst hkn
          have hv2 := HV.out
          have hcc : ((UInt8.ofNat v).toNat : Int) = (v : Int) := by rw [UInt8.toNat_ofNat']; omega
          have HE2 : Hid (mapB (A ++ [UInt8.ofNat v]) (whole most (l'.drop 8)) = R) := Lib.hid (by rw [hv2]; exact HE.out)
          clear hv2
          have HCC := Lib.hid hcc; clear hcc
          have HD : Hid (l'.length - 8 = (l'.drop 8).length) := Lib.hid (by simp)
          have HB2 : Hid (∀ x ∈ l'.drop 8, x ≤ 1) := Lib.hid (fun x hx => HB1.out x (List.mem_of_mem_drop hx))
          go_wp2_with (at_builtin; refine wpList_append_own _ rfl _ _ 102 rfl w.heap.size 5 i0 (.int .u8 0) 1 1 Tryz.underlying102 hi hz0 hz1 hz2 rfl (by decide) _ _ _ rfl (hA.alloc _) ⟨wr.heap.size, 0, none⟩ 1 1 [.int .u8 (v : Int)] rfl rfl ?c1 ?c2 ?c3 ?c4 ?c5 ?_)
          case c1 => exact cell_one_new _ _ _
          case c2 => simp [Value.oneCell']
          case c3 => unfold maxLen; omega
          case c4 => omega
          case c5 => simp; omega
          intro v' w1 hown' hgrow _
          rw [← HCC.out] at hown'
          have hown2 := own_snocB hown'
          have hB2 := below_append hB hsz hA hgrow
          clear hown' hgrow hA
          have HR2 := Lib.hid (HRD.out.drop 8)
          by_cases hck : c' = 8
          · subst hck
            have hl8 : l'.length = 8 := by omega
            have hd0 : l'.drop 8 = [] := by rw [List.drop_eq_nil_iff]; omega
            have HDN := Lib.hid hd0; clear hd0
            rw [HDN.out] at HE2
            clear hl8
            go_wp2
            have hlg := HK.out
            go_roundg (gk' - 1)
            case rel => exact ⟨[], _, 0, _, (by first | rfl | (congr 1; omega)), by simp, by omega, by simp; omega, by simp; omega, Lib.hid (RdN.nil _ _), Lib.hid (by simp), HE2, hown2, hB2⟩
            case measure => omega
          · go_wp2
            have hlg := HK.out
            have hdl := HD.out
            go_roundg (gk' - 1)
            case rel => exact ⟨l'.drop 8, _, c' - 8, _, by rw [hdl], by omega, by omega, by rw [List.length_append, List.length_singleton]; omega, by omega, HR2, HB2, HE2, hown2, hB2⟩
            case measure => omega
    · have HE := Lib.hid (mapB_end HW.out (by omega))
      have hst := own_string (P := Tryz.prog) hA 102 9 5 Tryz.underlying102 Tryz.underlying5 Tryz.underlying9
      have HST := Lib.hid hst; clear hst
      have h8d : decide (8 ≤ l'.length) = false := by simp; omega
      have h8i : (l'.length : Int) < 8 := by omega
      go_wp2
      go_loopg [10, 34] (l'.length + 1) (fun gas _ kv wq => ∃ (k : Nat), kv = .int .i64 k ∧ k ≤ l'.length ∧ k + gas = l'.length + 1 ∧ Hid (zeros (l'.take k) = true) ∧ wq = wr)
      case atStart => exact ⟨0, rfl, by omega, by omega, Lib.hid rfl, rfl⟩
      case round =>
        obtain ⟨k, rfl, hk, hkg, HZ, rfl⟩ := hrel
        have HKG := Lib.hid hkg; clear hkg
        by_cases hlt : k < l'.length
        · obtain ⟨x, hx⟩ : ∃ x, l'[k]? = some x := ⟨_, List.getElem?_eq_getElem hlt⟩
          obtain ⟨g1, o1, rfl, hg1, hcl0⟩ := HRD.out _ x hx
          have hcl1 := (hB.cell (p := ⟨g1, o1 + k, none⟩) hg1).trans hcl0
          clear hcl0
          unfold bitV at hcl1
          by_cases hx0 : x = 0
          · subst hx0
            have HZ' := Lib.hid (zeros_take hx HZ.out)
            have hd0 : ((((0 : Nat) : Int)) != 0) = false := rfl
            clear hx
            go_wp2
            have hkg := HKG.out
            go_roundg (gk - 1)
            case rel => exact ⟨k + 1, by go_num, by omega, by omega, HZ', rfl⟩
            case measure => omega
          · have hzn := zeros_no hx hx0
            have HN : Hid (R = none) := Lib.hid (by rw [HE.out, hzn]; simp)
            have hd0 : ((x : Int) != 0) = true := by rw [bne_iff_ne]; omega
            clear hx hzn
            go_wp2
            go_ret2
            exact ⟨hB, .inr ⟨HN.out, _, rfl⟩⟩
        · have hzz := HZ.out
          rw [List.take_of_length_le (by omega)] at hzz
          have hE := HE.out
          rw [hzz] at hE
          have HE2 := Lib.hid hE
          have hst := HST.out
          clear hzz hE HE
          by_cases hlm : l'.length < most
          · have hlmd : decide (l'.length < most) = true := by simp; omega
            go_wp2
            go_ret2
            exact ⟨hB, .inl ⟨A, by rw [HE2.out]; simp [hlm], rfl⟩⟩
          · have hlmd : decide (l'.length < most) = false := by simp; omega
            go_wp2
            go_ret2
            exact ⟨hB, .inr ⟨by rw [HE2.out]; simp [hlm], _, rfl⟩⟩

theorem val_same (c : UInt8) : valA to32.set32 (lowB c) = val32 c := by
  have key : ∀ n : Fin 256, valA to32.set32 (lowB (UInt8.ofNat n)) = val32 (UInt8.ofNat n) := by decide +kernel
  have := key ⟨c.toNat, c.toNat_lt⟩
  simpa using this
theorem spread_low (l : List UInt8) : spreadS 5 (valA to32.set32) (lowL l) = spreadS 5 val32 l := by
  induction l with
  | nil => rfl
  | cons c r ih =>
    simp only [lowL, List.map_cons, spreadS] at ih ⊢
    rw [val_same, ih]

set_option maxRecDepth 100000 in
set_option maxHeartbeats 1000000 in
theorem rfrom32_any (s : ByteArray) (w : World) (hs : s.size ≤ 1099511627776) :
    Calls Tryz.prog 86 #[.string s] w fun e w' => e = two (from32S s.data.toList) ∧ Below w.heap.size w w' := by
  have HS := Lib.hid (spread_low s.data.toList)
  have HF : Hid (from32S s.data.toList = (spreadS 5 val32 s.data.toList).bind (whole 5)) := Lib.hid (by
    unfold from32S backS
    cases spreadS 5 val32 s.data.toList with
    | none => rfl
    | some l => simp)
  go_enter Tryz.func86, Tryz.ntmps86
  go_wp2_with fail
  refine (low_any s _ (by unfold maxLen; omega)).mono ?_
  rintro e w1 ⟨rfl, hB1⟩
  have hz1 := hB1.size
  go_wp2_with fail
  refine (spread_any ⟨(lowL s.data.toList).toArray⟩ 5 ⟨to32.set32.toArray⟩ _ (by rw [mk_size]; simpa [lowL] using hs) (by omega) (by omega) (by decide)).mono ?_
  rintro e w2 ⟨hB2, h⟩
  have hBB := hB1.trans (hB2.mono hz1)
  rcases h with ⟨hn, rfl⟩ | ⟨l, a, c, hl, rfl, hc, hcm, hrd⟩
  · have HN : Hid (from32S s.data.toList = none) := Lib.hid (by
      have h2 : spreadS 5 val32 s.data.toList = none := by rw [← HS.out]; exact hn
      rw [HF.out, h2]; rfl)
    clear hn
    go_wp2
    go_ret2
    exact ⟨by rw [HN.out]; rfl, hBB⟩
  · have h2 : spreadS 5 val32 s.data.toList = some l := by rw [← HS.out]; exact hl
    have hlen := spread_len 5 val32 _ _ h2
    rw [size_len] at hlen
    have h01 := spread_01 5 val32 _ _ h2
    have HL := Lib.hid (by rw [HF.out, h2]; rfl : from32S s.data.toList = whole 5 l)
    have hll : l.length ≤ 8796093022208 := by omega
    have HW := Lib.hid (whole_any a c l 5 w2 hrd hc hcm hll h01 (by omega))
    clear hl h2 hlen h01 hrd
    go_wp2_with fail
    refine HW.out.mono ?_
    rintro e w3 ⟨hB3, h⟩
    have hBC := hBB.trans (hB3.mono (by have := hBB.size; omega))
    rcases h with ⟨d, hd, rfl⟩ | ⟨hd, t, rfl⟩
    · have HR : Hid (from32S s.data.toList = some d) := Lib.hid (by rw [HL.out]; exact hd)
      clear hd
      go_wp2
      go_ret2
      exact ⟨by rw [HR.out]; rfl, hBC⟩
    · have HR : Hid (from32S s.data.toList = none) := Lib.hid (by rw [HL.out]; exact hd)
      clear hd
      go_wp2
      go_ret2
      exact ⟨by rw [HR.out]; rfl, hBC⟩
end Go.Proofs.YtanoiiodnddkfaaGreat.whole

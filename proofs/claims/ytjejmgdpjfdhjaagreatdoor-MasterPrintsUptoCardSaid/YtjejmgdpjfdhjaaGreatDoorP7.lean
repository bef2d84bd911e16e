/- The reference's Compare: walk. The reference's ShowName: walk. name.Show: walk. Bits: plain lists of noughts and ones; base 2^n. The fields of data: plain. -/
import Derived.Test.YtjejmgdpjfdhjaaGreatDoorP6
import Derived.Test.YtjejmgdpjfdhjaaGreatDoorP5
import Derived.Test.YtjejmgdpjfdhjaaGreatDoorK1
import Derived.Test.YtjejmgdpjfdhjaaGreatDoorP3
import Derived.Deep.DeepCutAuto
namespace Go.Proofs.YtjejmgdpjfdhjaaGreatDoor.rcmp
open Go.RowKit Go.Proofs.YtjejmgdpjfdhjaaGreatDoor.kit Go.Proofs.YtjejmgdpjfdhjaaGreatDoor.check Go.Proofs.YtjejmgdpjfdhjaaGreatDoor.nspec Go.Proofs.YtjejmgdpjfdhjaaGreatDoor.rsplit Go.Proofs.YtjejmgdpjfdhjaaGreatDoor.low Go.Proofs.YtjejmgdpjfdhjaaGreatDoor.refA Go.Proofs.YtjejmgdpjfdhjaaGreatDoor.nameL Go.Proofs.YtjejmgdpjfdhjaaGreatDoor.ncmp Go.Proofs.YtjejmgdpjfdhjaaGreatDoor.refC

theorem less_iff : ∀ (u v : List UInt8), Op.bytesLess u v = decide (Lib.compareBytes u v = -1)
  | [], [] => by simp [Op.bytesLess, Lib.compareBytes]
  | _ :: _, [] => by simp [Op.bytesLess, Lib.compareBytes]
  | [], _ :: _ => by simp [Op.bytesLess, Lib.compareBytes]
  | a :: x, b :: y => by
    rw [Op.bytesLess, less_iff x y, Lib.compareBytes]
    by_cases h1 : a < b
    · simp [h1]
    · by_cases h2 : b < a
      · have : a ≠ b := by rintro rfl; exact h1 h2
        simp [h1, h2, this]
      · have : a = b := by
          rw [UInt8.lt_iff_toNat_lt] at h1 h2
          exact UInt8.toNat.inj (by omega)
        simp [this]
theorem cmp_eq0 : ∀ (u v : List UInt8), Lib.compareBytes u v = 0 ↔ u = v
  | [], [] => by simp [Lib.compareBytes]
  | _ :: _, [] => by simp [Lib.compareBytes]
  | [], _ :: _ => by simp [Lib.compareBytes]
  | a :: x, b :: y => by
    rw [Lib.compareBytes]
    by_cases h1 : a < b
    · have : a ≠ b := by rintro rfl; rw [UInt8.lt_iff_toNat_lt] at h1; omega
      simp [h1, this]
    · by_cases h2 : b < a
      · have : a ≠ b := by rintro rfl; exact h1 h2
        simp [h1, h2, this]
      · have : a = b := by
          rw [UInt8.lt_iff_toNat_lt] at h1 h2
          exact UInt8.toNat.inj (by omega)
        simp [this, cmp_eq0 x y]
theorem cmp_cases (u v : List UInt8) : (Lib.compareBytes u v = -1 ∧ Op.bytesLess u v = true) ∨ (Lib.compareBytes u v = 0 ∧ Op.bytesLess u v = false ∧ (u == v) = true) ∨ (Lib.compareBytes u v = 1 ∧ Op.bytesLess u v = false ∧ (u == v) = false) := by
  have h := cmp_ge u v
  have h2 := cmp_eq0 u v
  rw [less_iff]
  by_cases h3 : Lib.compareBytes u v = -1
  · exact .inl ⟨h3, by simp [h3]⟩
  · by_cases h4 : Lib.compareBytes u v = 0
    · exact .inr (.inl ⟨h4, by simp [h4], by simpa using h2.1 h4⟩)
    · exact .inr (.inr ⟨by omega, by simp [h3], by simpa using fun h5 => h4 (h2.2 h5)⟩)

theorem sv_cap {w : World} {v : Value} {base : Nat} {ls : List Bs} (h : SV w v base ls) : ∃ a c, v = .slice a ls.length c ∧ ls.length ≤ c ∧ Rd w a base ls := by
  rcases h with ⟨rfl, h⟩ | ⟨h0, g, c, h1, h2, h3, h4, h5, h6⟩
  · exact ⟨none, 0, h, Nat.le_refl _, Rd.nil _ _ _⟩
  · exact ⟨_, c, h1, h2, fun j x hx => ⟨g, 0, rfl, h4, h5, by rw [Nat.zero_add]; exact h6 j x hx⟩⟩
theorem take_rev {ls : List Bs} {i : Nat} {x : Bs} (h : ls[i]? = some x) : ((ls.take (i + 1)).map lowL).reverse = lowL x :: ((ls.take i).map lowL).reverse := by
  obtain ⟨h3, h4⟩ := List.getElem?_eq_some_iff.1 h
  rw [List.take_add_one, List.getElem?_eq_getElem h3, h4]; simp

theorem keep3 {wr w w' : World} {p1 p2 : Addr} {v1 v2 : Value} (h : w.cell? p1 = some v1 ∧ w.cell? p2 = some v2 ∧ Below wr.heap.size wr w) (hB : Below w.heap.size w w') (h1 : p1.block < wr.heap.size) (h2 : p2.block < wr.heap.size) : w'.cell? p1 = some v1 ∧ w'.cell? p2 = some v2 ∧ Below wr.heap.size wr w' :=
  ⟨(hB.cell (p := p1) (Nat.lt_of_lt_of_le h1 h.2.2.size)).trans h.1, (hB.cell (p := p2) (Nat.lt_of_lt_of_le h2 h.2.2.size)).trans h.2.1, h.2.2.trans (hB.mono h.2.2.size)⟩

end Go.Proofs.YtjejmgdpjfdhjaaGreatDoor.rcmp
namespace Go.Proofs.YtjejmgdpjfdhjaaGreatDoor.showB
open Go.RowKit Go.Proofs.YtjejmgdpjfdhjaaGreatDoor.kit Go.Proofs.YtjejmgdpjfdhjaaGreatDoor.check Go.Proofs.YtjejmgdpjfdhjaaGreatDoor.nspec Go.Proofs.YtjejmgdpjfdhjaaGreatDoor.rsplit Go.Proofs.YtjejmgdpjfdhjaaGreatDoor.low Go.Proofs.YtjejmgdpjfdhjaaGreatDoor.showA Go.Proofs.YtjejmgdpjfdhjaaGreatDoor.rcmp Go.Proofs.YtjejmgdpjfdhjaaGreatDoor.refA

def spec8 : Bs := [46, 92, 34, 40, 41, 59, 64, 36]
def escB (c : UInt8) : Bs := if spec8.contains c then [92, c] else if c.toNat < 33 ∨ 126 < c.toNat then 92 :: escL c else [c]
def labSh (x : Bs) : Bs := x.flatMap escB ++ [46]
def showL (ls : List Bs) : Bs := ls.flatMap labSh
def showS (l : Bs) : Bs := match split l with | none => [] | some [] => [46] | some ls => showL ls
theorem escB_len (c : UInt8) : (escB c).length ≤ 4 := by
  unfold escB
  split
  · simp
  · split
    · simp [escL]
    · simp
theorem esc_len (x : Bs) : (x.flatMap escB).length ≤ 4 * x.length := by
  induction x with
  | nil => simp
  | cons c r ih => have := escB_len c; simp only [List.flatMap_cons, List.length_append, List.length_cons]; omega
theorem show_len (ls : List Bs) : (showL ls).length ≤ 4 * room ls := by
  induction ls with
  | nil => simp [showL]
  | cons x r ih => have := esc_len x; simp only [showL, labSh, room, List.flatMap_cons, List.length_append, List.map_cons, List.sum_cons, List.length_cons, List.length_nil] at *; omega
theorem sh_end {A R : Bs} {ls : List Bs} {k : Nat} (h : A ++ showL (ls.drop k) = R) (hk : ls.length ≤ k) : A = R := by
  rw [List.drop_eq_nil_iff.2 hk] at h; simpa [showL] using h
theorem sh_go {A R x : Bs} {ls : List Bs} {k : Nat} (h : A ++ showL (ls.drop k) = R) (hx : ls[k]? = some x) : A ++ ((x.drop 0).flatMap escB ++ (46 :: showL (ls.drop (k + 1)))) = R := by
  obtain ⟨h3, h4⟩ := List.getElem?_eq_some_iff.1 hx
  rw [List.drop_eq_getElem_cons h3, h4] at h
  rw [← h]; simp [showL, labSh]
theorem in_end {A R T x : Bs} {k : Nat} (h : A ++ ((x.drop k).flatMap escB ++ 46 :: T) = R) (hk : x.length ≤ k) : (A ++ [46]) ++ T = R := by
  rw [List.drop_eq_nil_iff.2 hk] at h; rw [← h]; simp
theorem in_go {A R T x : Bs} {k : Nat} {c : UInt8} (h : A ++ ((x.drop k).flatMap escB ++ 46 :: T) = R) (hc : x[k]? = some c) : (A ++ escB c) ++ ((x.drop (k + 1)).flatMap escB ++ 46 :: T) = R := by
  obtain ⟨h3, h4⟩ := List.getElem?_eq_some_iff.1 hc
  rw [List.drop_eq_getElem_cons h3, h4] at h
  rw [← h]; simp
theorem pre_le {A T R : Bs} (h : A ++ T = R) : A.length ≤ R.length := by rw [← h]; simp

theorem sz1 (C : ByteArray) (c : UInt8) : (C ++ (⟨#[c]⟩ : ByteArray)).size = C.size + 1 := by rw [ByteArray.size_append]; rfl
theorem sz2 (C : ByteArray) (c d : UInt8) : (C ++ ((⟨#[c]⟩ : ByteArray) ++ ⟨#[d]⟩)).size = C.size + 2 := by rw [ByteArray.size_append]; rfl
theorem dt1 (C : ByteArray) (c : UInt8) : (C ++ (⟨#[c]⟩ : ByteArray)).data.toList = C.data.toList ++ [c] := by simp
theorem dt2 (C : ByteArray) (c d : UInt8) : (C ++ ((⟨#[c]⟩ : ByteArray) ++ ⟨#[d]⟩)).data.toList = C.data.toList ++ [c, d] := by simp
theorem dtE (C : ByteArray) (l : List UInt8) : (C ++ (⟨l.toArray⟩ : ByteArray)).data.toList = C.data.toList ++ l := by simp
theorem one_ext (X : ByteArray) (j : Nat) (c : UInt8) (h : X.data.toList[j]? = some c) : X.extract j (j + 1) = ⟨#[c]⟩ := by
  apply ba_ext
  obtain ⟨h1, h2⟩ := List.getElem?_eq_some_iff.1 h
  rw [ByteArray.data_extract, Array.toList_extract, List.extract_eq_take_drop]
  rw [List.drop_eq_getElem_cons h1, h2]
  simp
theorem escB_cases (c : UInt8) : (spec8.contains c = true ∧ escB c = [92, c]) ∨ (spec8.contains c = false ∧ escB c = 92 :: escL c ∧ ((c.toNat : Int) < 33 ∨ 126 < (c.toNat : Int))) ∨ (spec8.contains c = false ∧ escB c = [c] ∧ ¬ (c.toNat : Int) < 33 ∧ ¬ 126 < (c.toNat : Int)) := by
  unfold escB
  cases spec8.contains c with
  | true => exact .inl ⟨rfl, rfl⟩
  | false =>
    by_cases h : c.toNat < 33 ∨ 126 < c.toNat
    · exact .inr (.inl ⟨rfl, by rw [if_neg (by simp), if_pos h], by omega⟩)
    · exact .inr (.inr ⟨rfl, by rw [if_neg (by simp), if_neg h], by omega, by omega⟩)

set_option maxRecDepth 100000 in
set_option maxHeartbeats 4000000 in
theorem showName_yes (s : ByteArray) (ls : List Bs) (w : World) (h : IsN s.data.toList ls) (h0 : ls ≠ []) :
    Calls Tryz.prog 32 #[.string s] w fun e w' => e = .returned (.string ⟨(showL ls).toArray⟩) ∧ Below w.heap.size w w' := by
  obtain ⟨R, HR⟩ : ∃ R, Hid (showL ls = R) := ⟨_, Lib.hid rfl⟩
  have hR : R.length ≤ 1100 := by rw [← HR.out]; have := show_len ls; have := isN_room h; omega
  have HC : Hid ([] ++ showL (ls.drop 0) = R) := Lib.hid (by rw [← HR.out]; rfl)
  rw [HR.out]
  have hl := split_len h
  have hl0 : ((ls.length : Int) == 0) = false := by
    cases ls with
    | nil => exact absurd rfl h0
    | cons a b => simp; omega
  have L1 := Lib.hid h; clear h h0
  go_enter Tryz.func32, Tryz.ntmps32
  go_wp2_with fail
  refine (split_yes s ls _ L1.out).mono ?_
  rintro e w1 ⟨v1, rfl, hsv1, hB1⟩
  obtain ⟨a1, c1, rfl, hk1, hr1⟩ := sv_cap hsv1
  have HR1 := Lib.hid hr1
  clear hr1 hsv1
  go_wp2
  go_loopg [5, 21] (ls.length + 1) (fun gas sv kv wr => ∃ (k : Nat) (A : ByteArray), sv = .string A ∧ A.size ≤ 1100 ∧ kv = .int .i64 k ∧ k ≤ ls.length ∧ k + gas = ls.length + 1 ∧ Hid (A.data.toList ++ showL (ls.drop k) = R) ∧ Below w1.heap.size w1 wr)
  case atStart => exact ⟨0, _, rfl, by decide, rfl, by omega, by omega, HC, Below.refl _ _⟩
  case round =>
    obtain ⟨k, A, rfl, hA, rfl, hk, hkg, HW, hB⟩ := hrel
    obtain ⟨gk', hgk'⟩ : ∃ g, g = gk := ⟨_, rfl⟩
    rw [← hgk'] at hkg
    have HK := Lib.hid hkg; clear hkg
    by_cases hlt : k < ls.length
    · obtain ⟨x, hx⟩ : ∃ x, ls[k]? = some x := ⟨_, List.getElem?_eq_getElem hlt⟩
      obtain ⟨g1, o1, rfl, _, hg1, hcl1⟩ := HR1.out _ x hx
      have hcx := (hB.cell (p := ⟨g1, o1 + k, none⟩) hg1).trans hcl1
      have hxl := L1.out.2.1 x (List.mem_of_getElem? hx)
      have HG := Lib.hid (sh_go HW.out hx)
      clear hx hcl1
      unfold strV at hcx
      obtain ⟨X, hX⟩ : ∃ X : ByteArray, ⟨x.toArray⟩ = X := ⟨_, rfl⟩
      have hXx : x = X.data.toList := by rw [← hX]
      rw [hX] at hcx
      subst hXx
      clear hX
      rw [size_len] at hxl
      obtain ⟨hxl0, hxl1⟩ := hxl
      go_wp2
      go_loopg [5, 8] (X.size + 1) (fun gas sv jv wq => ∃ (j : Nat) (C : ByteArray), sv = .string C ∧ C.size ≤ 1100 ∧ jv = .int .i64 j ∧ j ≤ X.size ∧ j + gas = X.size + 1 ∧ Hid (C.data.toList ++ ((X.data.toList.drop j).flatMap escB ++ (46 :: showL (ls.drop (k + 1)))) = R) ∧ Below w1.heap.size w1 wq)
      case atStart => exact ⟨0, A, rfl, hA, rfl, by omega, by omega, HG, hB⟩
      case round =>
        obtain ⟨j, C, rfl, hC, rfl, hj, hjg, HV, hBq⟩ := hrel
        have HJ := Lib.hid hjg; clear hjg
        by_cases hjt : j < X.size
        · obtain ⟨c, hc⟩ : ∃ c, X[j] = c := ⟨_, rfl⟩
          have hcj : X.data.toList[j]? = some c := by rw [← hc]; exact List.getElem?_eq_getElem (by rw [size_len]; exact hjt)
          have HN := Lib.hid (in_go HV.out hcj)
          have hnl := pre_le HN.out
          have hX1 := one_ext X j c hcj
          obtain ⟨b, hb⟩ : ∃ b, spec8.contains c = b := ⟨_, rfl⟩
          have hE := escB_cases c
          rw [hb] at hE
          have HB := Lib.hid hb
          clear hb hcj
          go_wp2_with fail
          refine (among_any c _ _ (by decide)).mono ?_
          rintro e w2 ⟨rfl, hB2⟩
          have hBr := hBq.trans (hB2.mono hBq.size)
          rw [show (⟨#[46, 92, 34, 40, 41, 59, 64, 36]⟩ : ByteArray).data.toList.contains c = b from HB.out]
          rcases hE with ⟨rfl, hE⟩ | ⟨rfl, hE, hlo⟩ | ⟨rfl, hE, hlo, hhi⟩
          · rw [hE] at HN hnl
            have HM := HN; clear HN hE
            have hcs : C.size + 2 ≤ 1100 := by rw [List.length_append, size_len] at hnl; simp at hnl; omega
            clear hnl
            go_wp2
            have hjg := HJ.out
            go_roundg (gk - 1)
            case rel => exact ⟨j + 1, _, rfl, by rw [sz2]; exact hcs, by go_num, by omega, by omega, by rw [dt2]; exact HM, hBr⟩
            case measure => omega
          · rw [hE] at HN hnl
            have HM := HN; clear HN hE
            have hcs : C.size + 4 ≤ 1100 := by rw [List.length_append, size_len] at hnl; simp [escL] at hnl; omega
            clear hnl
            have ht4 : (⟨(92 :: escL c).toArray⟩ : ByteArray).size = 4 := rfl
            rcases hlo with hlo | hlo
            · have hlo' : decide ((c.toNat : Int) < 33) = true := by simpa using hlo
              go_wp2_with fail
              refine (escape_any c _).mono ?_
              rintro e w3 ⟨rfl, hB3⟩
              have hBs := hBr.trans (hB3.mono hBr.size)
              go_wp2
              have hjg := HJ.out
              go_roundg (gk - 1)
              case rel => exact ⟨j + 1, _, rfl, by rw [ByteArray.size_append, ht4]; exact hcs, by go_num, by omega, by omega, by rw [dtE]; exact HM, hBs⟩
              case measure => omega
            · have hlo' : ¬ (c.toNat : Int) < 33 := by omega
              go_wp2_with fail
              refine (escape_any c _).mono ?_
              rintro e w3 ⟨rfl, hB3⟩
              have hBs := hBr.trans (hB3.mono hBr.size)
              go_wp2
              have hjg := HJ.out
              go_roundg (gk - 1)
              case rel => exact ⟨j + 1, _, rfl, by rw [ByteArray.size_append, ht4]; exact hcs, by go_num, by omega, by omega, by rw [dtE]; exact HM, hBs⟩
              case measure => omega
          · rw [hE] at HN hnl
            have HM := HN; clear HN hE
            have hcs : C.size + 1 ≤ 1100 := by rw [List.length_append, size_len] at hnl; simp at hnl; omega
            clear hnl
            go_wp2
            have hjg := HJ.out
            go_roundg (gk - 1)
            case rel => exact ⟨j + 1, _, rfl, by rw [sz1]; exact hcs, by go_num, by omega, by omega, by rw [dt1]; exact HM, hBr⟩
            case measure => omega
        · have HN := Lib.hid (in_end HV.out (by rw [size_len]; omega))
          have hnl := pre_le HN.out
          have hcs : C.size + 1 ≤ 1100 := by rw [List.length_append, size_len] at hnl; simp at hnl; omega
          clear hnl
          go_wp2
          have hkg := HK.out
          go_roundg (gk' - 1)
          case rel => exact ⟨k + 1, _, rfl, by rw [sz1]; exact hcs, by go_num, by omega, by omega, by rw [dt1]; exact HN, hBq⟩
          case measure => omega
    · have HN := Lib.hid (sh_end HW.out (by omega))
      go_wp2
      go_ret
      exact ⟨ret_str (ba_ext HN.out), hB1.trans (hB.mono hB1.size)⟩
end Go.Proofs.YtjejmgdpjfdhjaaGreatDoor.showB
namespace Go.Proofs.YtjejmgdpjfdhjaaGreatDoor.nshow
open Go.RowKit Go.Shelf Go.Proofs.YtjejmgdpjfdhjaaGreatDoor.kit Go.Proofs.YtjejmgdpjfdhjaaGreatDoor.labels Go.Proofs.YtjejmgdpjfdhjaaGreatDoor.check Go.Proofs.YtjejmgdpjfdhjaaGreatDoor.nspec Go.Proofs.YtjejmgdpjfdhjaaGreatDoor.rsplit Go.Proofs.YtjejmgdpjfdhjaaGreatDoor.low Go.Proofs.YtjejmgdpjfdhjaaGreatDoor.refA Go.Proofs.YtjejmgdpjfdhjaaGreatDoor.nameA Go.Proofs.YtjejmgdpjfdhjaaGreatDoor.nameL Go.Proofs.YtjejmgdpjfdhjaaGreatDoor.showA Go.Proofs.YtjejmgdpjfdhjaaGreatDoor.showB Go.Proofs.YtjejmgdpjfdhjaaGreatDoor.bld Go.Proofs.YtjejmgdpjfdhjaaGreatDoor.bldN Go.Proofs.YtjejmgdpjfdhjaaGreatDoor.rcmp
attribute [local go_sem] Oper.semAt_some

theorem labs_room {N : Nat} (pre : List (Lab N)) : room (labsOf (raw pre)) ≤ 64 * pre.length := by
  induction pre with
  | nil => simp [labsOf, raw, room]
  | cons x r ih =>
    have hx := x.property.2
    have hx2 : x.val.2.data.toList.length ≤ 63 := by rw [size_len]; exact hx
    simp only [labsOf, raw, room, List.map_cons, List.filter_cons, List.length_cons] at ih ⊢
    split
    · simp only [List.map_cons, List.sum_cons]; omega
    · omega
theorem labs_stop : ∀ (k : Nat) (ls : List Bs) (l : List (Nat × ByteArray)) (y : Nat × ByteArray), okL ls → (l ++ [y]) <+: pairsL k ls → y.2.data.toList = [] → labsOf l = ls
  | k, [], l, y, _, h, hy => by
    simp only [pairsL] at h
    have := h.length_le
    simp at this
    obtain rfl : l = [] := by
      cases l with
      | nil => rfl
      | cons a b => simp at this
    rfl
  | k, x :: r, l, y, ho, h, hy => by
    obtain ⟨⟨h1, _⟩, h3⟩ := okL_cons.1 ho
    simp only [pairsL] at h
    cases l with
    | nil =>
      simp only [List.nil_append, List.cons_prefix_cons] at h
      rw [h.1] at hy
      simp at hy
      subst hy; simp at h1
    | cons a b =>
      rw [List.cons_append, List.cons_prefix_cons] at h
      have ih := labs_stop _ r b y h3 h.2 hy
      have hx : x.isEmpty = false := by
        cases x with
        | nil => simp at h1
        | cons a b => rfl
      rw [h.1]
      simp only [labsOf, List.map_cons, List.filter_cons, hx] at ih ⊢
      rw [ih]; rfl
theorem idx_all : ∀ (l : List UInt8) (c : UInt8), -1 ≤ Lib.indexByte l c ∧ ((0 ≤ Lib.indexByte l c) ↔ l.contains c = true)
  | [], c => by simp [Lib.indexByte]
  | b :: l, c => by
    have ih := idx_all l c
    simp only [Lib.indexByte]
    by_cases h : b = c
    · simp [h]
    · have h' : (b == c) = false := by simpa using h
      rw [h', if_neg (by simp)]
      have hc : (b :: l).contains c = l.contains c := by simp [Ne.symm h]
      rw [hc, ← ih.2]
      by_cases h2 : Lib.indexByte l c = -1
      · rw [if_pos (by simpa using h2), h2]; omega
      · rw [if_neg (by simpa using h2)]; omega
theorem idx_ge (c : UInt8) : (0 ≤ Lib.indexByte spec8 c) ↔ spec8.contains c = true := (idx_all spec8 c).2
theorem show_ne {ls : List Bs} (h : ls ≠ []) : showL ls ≠ [] := by
  cases ls with
  | nil => exact absurd rfl h
  | cons x r => simp [showL, labSh]
theorem show_snoc (ls : List Bs) (x : Bs) : showL (ls ++ [x]) = showL ls ++ (x.flatMap escB ++ [46]) := by simp [showL, labSh]

set_option maxRecDepth 100000 in
set_option maxHeartbeats 4000000 in
theorem nshow_yes (s : ByteArray) (ls : List Bs) (w : World) (h : IsN s.data.toList ls) (h0 : ls ≠ []) :
    CallsIn Fence.wide 3 Tryz.prog 26 #[.string s] w fun e w' => e = .returned (.string ⟨(showL ls).toArray⟩) ∧ Below w.heap.size w w' := by
  have hll := split_len h
  have hs : s.size ≤ 255 := by have := h.2.2; rwa [size_len] at this
  have HP := Lib.hid (pairs_isN h)
  have HO := Lib.hid h.2.1
  have HK := Lib.hid (chk_yes h)
  have hroot : (s.toList == [0]) = false := by
    rw [Lib.toList_data, h.1]
    cases ls with
    | nil => exact absurd rfl h0
    | cons x r =>
      have := put_pos r
      simp only [put, beq_eq_false_iff_ne, ne_eq, List.cons.injEq, List.append_eq_nil_iff, not_and]
      intro _ _ h; rw [h] at this; simp at this
  have H0 := Lib.hid h0
  clear h h0
  refine callsIn_of_wp_marks Tryz.func26 rfl trivial ?_ rfl
  simp only [Tryz.ntmps26, List.size_toArray, List.length_cons, List.length_nil, Nat.reduceAdd, Nat.reduceSub, Array.replicate_succ, Array.replicate_zero, List.push_toArray, List.append_toArray, List.nil_append, List.cons_append]
  gi_wp2_with fail
  refine ⟨trivial, ?_⟩
  refine (callsIn_wide.2 (check_any s _ (by omega))).mono ?_
  rintro e w1 ⟨rfl, hB1⟩
  rw [HK.out]
  have hz1' := hB1.size
  gi_wp2_with fail
  refine ⟨trivial, ?_⟩
  refine (labels_in Fence.wide _ trivial rfl _ _).mono ?_
  rintro e w' ⟨rfl, rfl⟩
  gi_wp2
  obtain ⟨w2, hw2⟩ : ∃ w2, (w1.alloc (.cells #[.pointer none, .slice none 0 0] 53)).alloc (.cells #[.string s] 9) = w2 := ⟨_, rfl⟩
  rw [hw2]
  have hz : w2.heap.size = w1.heap.size + 2 := by rw [← hw2]; simp
  have hB : Below w.heap.size w w2 := by rw [← hw2]; exact (hB1.alloc (by omega) _).alloc (by simp; omega) _
  have hbh : w2.heap[w1.heap.size]? = some (.cells #[.pointer none, .slice none 0 0] 53 (0, 0)) := by
    rw [← hw2, Lib.alloc_old _ _ _ (by rw [World.size_alloc]; omega)]; exact Array.getElem?_push_size
  have h1 : IsBN w2.heap.size w1.heap.size [] w2 := IsBN.fresh _ hbh (by omega)
  have h3 : w2.cell? ⟨w1.heap.size + 1, 0, none⟩ = some (.string s) := by
    rw [← hw2]; have := (Boxed.new (w1.alloc (.cells #[.pointer none, .slice none 0 0] 53)) 9 (.string s)).cell; rw [World.size_alloc] at this; exact this
  clear hw2 hbh
  refine wpIn_rangeFunc_ownG rfl (by omega) (gf := 63) (lb := #[.pointer (some ⟨w1.heap.size + 1, 0, none⟩)]) rfl trivial (enters_of Tryz.func63 (by kernel_rfl) rfl)
    (labels_stops Fence.wide _ trivial rfl (by omega) (w1.heap.size + 1) s (by omega) w2 (by omega) h3) (keepBox_t _) (fun W l o o' hl _ _ _ => keepBox_b W l o' (by omega)) (Below.refl _ _) (fun _ => rfl)
    (fun pre W => IsBN w2.heap.size w1.heap.size (showL (labsOf (raw pre))) W ∧ Below w.heap.size w W ∧ w2.heap.size ≤ W.heap.size ∧ (labsOf (raw pre)).length = pre.length)
    (fun c pre W => (c = .exit 0 ∧ ∃ p x, pre = p ++ [x] ∧ x.val.2.data.toList = [] ∧ IsBN w2.heap.size w1.heap.size (showL (labsOf (raw p))) W) ∧ Below w.heap.size w W)
    (((bn_own _ _ (fun pre : List (Lab s.size) => showL (labsOf (raw pre)))).from _).and ((ownFrom_below (Nat.le_refl _) (by omega)).and (OwnFrom.and (fun _ _ _ _ hs hg _ => Nat.le_trans hs hg.size) (ownFrom_pure _ _))))
    (fun c => OwnFrom.and (fun pre X Y row hs hg hr => by
      obtain ⟨h0, p, x, h1, h2, h3⟩ := hs
      exact ⟨h0, p, x, h1, h2, ((bn_own w2.heap.size w1.heap.size (fun _ : Unit => showL (labsOf (raw p)))).from w2.heap.size) () X Y row h3 hg hr⟩) (ownFrom_below (Nat.le_refl _) (by omega)))
    ⟨h1, hB, Nat.le_refl _, rfl⟩
    (fun x => { tmps := #[.string s, undef, .string ⟨#[]⟩, .pointer (some ⟨w1.heap.size, 0, none⟩), undef, .string x.val.2, undef, undef, .string s, .int .i64 0, .bool false, .string s, .bool false, .string s, .func (.func 63) #[] #[.pointer (some ⟨w1.heap.size + 1, 0, none⟩)], .int .i64 (x.val.1 : Int), .string x.val.2, undef, undef, undef, undef, undef, undef, undef, undef, undef, undef, undef, undef, undef, undef, undef, undef, undef, undef, undef, undef, undef, undef, undef, undef, undef, undef, undef, undef, undef, undef, undef, undef, undef, undef, undef, undef, undef, undef, undef, undef, undef, undef, undef], defers := [] }) ?assign ?body ?done ?stop
  case assign =>
    intro l x W K hK
    gi_wp2
    simpa using hK
  case body =>
    rintro l pre x W ⟨hbn, hBl, hW2, hcnt⟩ hlen
    have hx63 := x.property.2
    have hrm := labs_room pre
    have hsl := show_len (labsOf (raw pre))
    by_cases he : x.val.2.toList = []
    · have he' : x.val.2.data.toList = [] := by rw [← Lib.toList_data]; exact he
      gi_wp2
      exact ⟨KeepsFrom.refl _ _, ⟨rfl, pre, x, rfl, he', hbn⟩, hBl⟩
    · have he' : x.val.2.toList.isEmpty = false := by simpa using he
      have HY := Lib.hid (labsOf_yes (pre := pre) he')
      clear he
      obtain ⟨P, hP⟩ : ∃ P, showL (labsOf (raw pre)) = P := ⟨_, rfl⟩
      rw [hP] at hbn hsl
      have HPP := Lib.hid hP; clear hP
      have hPl : P.length ≤ 70000 := by omega
      clear hsl hrm
      gi_wp2
      obtain ⟨X, hX⟩ : ∃ X, x.val.2 = X := ⟨_, rfl⟩
      rw [hX] at hx63 HY
      rw [hX]
      have HXX := Lib.hid hX; clear hX he'
      have hP0 : P ++ (X.data.toList.take 0).flatMap escB = P := by rw [List.take_zero]; exact List.append_nil P
      gi_loopg [21] (X.size + 1) (fun gas kv wr => ∃ (k : Nat), kv = .int .i64 k ∧ k ≤ X.size ∧ k + gas = X.size + 1 ∧ IsBN w2.heap.size w1.heap.size (P ++ (X.data.toList.take k).flatMap escB) wr ∧ Eff w2.heap.size w1.heap.size W wr)
      case atStart => exact ⟨0, rfl, by omega, by omega, by rw [hP0]; exact hbn, Eff.refl _ _ _⟩
      case round =>
        clear hbn hP0
        obtain ⟨k, rfl, hk, hkg, hb0, hE0⟩ := hrel
        have HKG := Lib.hid hkg; clear hkg
        by_cases hlt : k < X.size
        · obtain ⟨c, hc⟩ : ∃ c, X[k] = c := ⟨_, rfl⟩
          have hck : X.data.toList[k]? = some c := by rw [← hc]; exact List.getElem?_eq_getElem (by rw [size_len]; exact hlt)
          have htk : (X.data.toList.take (k + 1)).flatMap escB = (X.data.toList.take k).flatMap escB ++ escB c := by
            rw [List.take_add_one, hck]; simp
          have HTK := Lib.hid htk
          have hql := esc_len (X.data.toList.take k)
          rw [List.length_take, size_len] at hql
          obtain ⟨Q, hQ⟩ : ∃ Q, P ++ (X.data.toList.take k).flatMap escB = Q := ⟨_, rfl⟩
          have hQl : Q.length ≤ 80000 := by rw [← hQ, List.length_append]; omega
          rw [hQ] at hb0
          have HQ := Lib.hid hQ
          clear htk hck hQ hql
          obtain ⟨i, hi⟩ : ∃ i, Lib.indexByte spec8 c = i := ⟨_, rfl⟩
          have hge := idx_ge c
          rw [hi] at hge
          have hix := Tryz.strings_IndexByte ⟨#[46, 92, 34, 40, 41, 59, 64, 36]⟩ (c.toNat : Int) wr
          rw [show Lib.indexByte (⟨#[46, 92, 34, 40, 41, 59, 64, 36]⟩ : ByteArray).data.toList ((c.toNat : Int).toNat.toUInt8) = i from by rw [← hi]; simp [spec8]] at hix
          have HIX := Lib.hid hix; clear hix hi
          have hEc := escB_cases c
          have d1 := Lib.hid (dig c)
          have hc256 := byte_lt c
          have hc0 : (0 : Int) ≤ (c.toNat : Int) := by omega
          gi_wp2_with fail
          refine ⟨trivial, ?_⟩
          refine ((callsIn_wide.2 HIX.out).inRound l).mono ?_
          rintro e v0 ⟨rfl, rfl⟩
          rcases hEc with ⟨hsp, hE⟩ | ⟨hsp, hE, hlo⟩ | ⟨hsp, hE, hlo, hhi⟩
          · have HE := Lib.hid hE; clear hE
            have hi0 : 0 ≤ i := hge.2 hsp
            clear hge hsp
            gi_wp2_with fail
            refine ⟨trivial, ?_⟩
            refine ((callsIn_wide.2 (wbN _ _ _ (92 : UInt8) _ hb0 (by omega) (by have := hE0.below.size; omega))).inRound l).mono ?_
            rintro e v1 ⟨rfl, hb1, hF1⟩
            have hE1 := hE0.trans hF1
            clear hF1 hb0 hE0
            gi_wp2_with fail
            refine ⟨trivial, ?_⟩
            refine ((callsIn_wide.2 (wbN _ _ _ c _ hb1 (by rw [List.length_append]; simp; omega) (by have := hE1.below.size; omega))).inRound l).mono ?_
            rintro e v2 ⟨rfl, hb2, hF2⟩
            have hE2 := hE1.trans hF2
            clear hF2 hb1 hE1
            gi_wp2
            have hkg := HKG.out
            gi_roundg (gk - 1)
            case rel => exact ⟨k + 1, by go_num, by omega, by omega, by rw [HTK.out, ← List.append_assoc, HQ.out, HE.out]; simpa only [List.append_assoc, List.cons_append, List.nil_append] using hb2, hE2⟩
            case measure => omega
          · have HE := Lib.hid hE; clear hE
            have hi0 : ¬ 0 ≤ i := fun h => by rw [hge.1 h] at hsp; cases hsp
            clear hge hsp
            rcases hlo with hlo | hlo
            · have hlo' : decide ((c.toNat : Int) < 33) = true := by simpa using hlo
              gi_wp2_with fail
              refine ⟨trivial, ?_⟩
              refine ((callsIn_wide.2 (wbN _ _ _ (92 : UInt8) _ hb0 (by omega) (by have := hE0.below.size; omega))).inRound l).mono ?_
              rintro e v1 ⟨rfl, hb1, hF1⟩
              have hE1 := hE0.trans hF1
              clear hF1 hb0 hE0
              have hw2 := wbN _ _ _ (48 + c / 100) _ hb1 (by simp only [List.length_append, List.length_cons, List.length_nil]; omega) (by have := hE1.below.size; omega)
              rw [d1.out.1] at hw2
              have HW2 := Lib.hid hw2
              clear hw2
              gi_wp2_with fail
              refine ⟨trivial, ?_⟩
              refine ((callsIn_wide.2 HW2.out).inRound l).mono ?_
              rintro e v2 ⟨rfl, hb2, hF2⟩
              have hE2 := hE1.trans hF2
              clear hF2 hb1 hE1 HW2
              have hw3 := wbN _ _ _ (48 + c / 10 % 10) _ hb2 (by simp only [List.length_append, List.length_cons, List.length_nil]; omega) (by have := hE2.below.size; omega)
              rw [d1.out.2.1] at hw3
              have HW3 := Lib.hid hw3
              clear hw3
              gi_wp2_with fail
              refine ⟨trivial, ?_⟩
              refine ((callsIn_wide.2 HW3.out).inRound l).mono ?_
              rintro e v3 ⟨rfl, hb3, hF3⟩
              have hE3 := hE2.trans hF3
              clear hF3 hb2 hE2 HW3
              have hw4 := wbN _ _ _ (48 + c % 10) _ hb3 (by simp only [List.length_append, List.length_cons, List.length_nil]; omega) (by have := hE3.below.size; omega)
              rw [d1.out.2.2] at hw4
              have HW4 := Lib.hid hw4
              clear hw4
              gi_wp2_with fail
              refine ⟨trivial, ?_⟩
              refine ((callsIn_wide.2 HW4.out).inRound l).mono ?_
              rintro e v4 ⟨rfl, hb4, hF4⟩
              have hE4 := hE3.trans hF4
              clear hF4 hb3 hE3 HW4
              gi_wp2
              have hkg := HKG.out
              gi_roundg (gk - 1)
              case rel => exact ⟨k + 1, by go_num, by omega, by omega, by rw [HTK.out, ← List.append_assoc, HQ.out, HE.out]; simpa only [List.append_assoc, List.cons_append, List.nil_append, escL] using hb4, hE4⟩
              case measure => omega
            · have hlo' : ¬ (c.toNat : Int) < 33 := by omega
              gi_wp2_with fail
              refine ⟨trivial, ?_⟩
              refine ((callsIn_wide.2 (wbN _ _ _ (92 : UInt8) _ hb0 (by omega) (by have := hE0.below.size; omega))).inRound l).mono ?_
              rintro e v1 ⟨rfl, hb1, hF1⟩
              have hE1 := hE0.trans hF1
              clear hF1 hb0 hE0
              have hw2 := wbN _ _ _ (48 + c / 100) _ hb1 (by simp only [List.length_append, List.length_cons, List.length_nil]; omega) (by have := hE1.below.size; omega)
              rw [d1.out.1] at hw2
              have HW2 := Lib.hid hw2
              clear hw2
              gi_wp2_with fail
              refine ⟨trivial, ?_⟩
              refine ((callsIn_wide.2 HW2.out).inRound l).mono ?_
              rintro e v2 ⟨rfl, hb2, hF2⟩
              have hE2 := hE1.trans hF2
              clear hF2 hb1 hE1 HW2
              have hw3 := wbN _ _ _ (48 + c / 10 % 10) _ hb2 (by simp only [List.length_append, List.length_cons, List.length_nil]; omega) (by have := hE2.below.size; omega)
              rw [d1.out.2.1] at hw3
              have HW3 := Lib.hid hw3
              clear hw3
              gi_wp2_with fail
              refine ⟨trivial, ?_⟩
              refine ((callsIn_wide.2 HW3.out).inRound l).mono ?_
              rintro e v3 ⟨rfl, hb3, hF3⟩
              have hE3 := hE2.trans hF3
              clear hF3 hb2 hE2 HW3
              have hw4 := wbN _ _ _ (48 + c % 10) _ hb3 (by simp only [List.length_append, List.length_cons, List.length_nil]; omega) (by have := hE3.below.size; omega)
              rw [d1.out.2.2] at hw4
              have HW4 := Lib.hid hw4
              clear hw4
              gi_wp2_with fail
              refine ⟨trivial, ?_⟩
              refine ((callsIn_wide.2 HW4.out).inRound l).mono ?_
              rintro e v4 ⟨rfl, hb4, hF4⟩
              have hE4 := hE3.trans hF4
              clear hF4 hb3 hE3 HW4
              gi_wp2
              have hkg := HKG.out
              gi_roundg (gk - 1)
              case rel => exact ⟨k + 1, by go_num, by omega, by omega, by rw [HTK.out, ← List.append_assoc, HQ.out, HE.out]; simpa only [List.append_assoc, List.cons_append, List.nil_append, escL] using hb4, hE4⟩
              case measure => omega
          · have HE := Lib.hid hE; clear hE
            have hi0 : ¬ 0 ≤ i := fun h => by rw [hge.1 h] at hsp; cases hsp
            clear hge hsp
            gi_wp2_with fail
            refine ⟨trivial, ?_⟩
            refine ((callsIn_wide.2 (wbN _ _ _ c _ hb0 (by omega) (by have := hE0.below.size; omega))).inRound l).mono ?_
            rintro e v1 ⟨rfl, hb1, hF1⟩
            have hE1 := hE0.trans hF1
            clear hF1 hb0 hE0
            gi_wp2
            have hkg := HKG.out
            gi_roundg (gk - 1)
            case rel => exact ⟨k + 1, by go_num, by omega, by omega, by rw [HTK.out, ← List.append_assoc, HQ.out, HE.out]; simpa only [List.append_assoc, List.cons_append, List.nil_append] using hb1, hE1⟩
            case measure => omega
        · have hkk : k = X.size := by omega
          subst hkk
          rw [show X.data.toList.take X.size = X.data.toList from by rw [← size_len]; exact List.take_length] at hb0
          have hql := esc_len X.data.toList
          rw [size_len] at hql
          have hsn := show_snoc (labsOf (raw pre)) X.data.toList
          rw [← HY.out, HPP.out, ← List.append_assoc] at hsn
          have HSN := Lib.hid hsn
          obtain ⟨Q, hQ⟩ : ∃ Q, P ++ X.data.toList.flatMap escB = Q := ⟨_, rfl⟩
          have hQl : Q.length ≤ 80000 := by rw [← hQ, List.length_append]; omega
          rw [hQ] at hb0
          have HQ := Lib.hid hQ
          clear hQ hql hsn
          gi_wp2_with fail
          refine ⟨trivial, ?_⟩
          refine ((callsIn_wide.2 (wbN _ _ _ (46 : UInt8) _ hb0 (by omega) (by have := hE0.below.size; omega))).inRound l).mono ?_
          rintro e v1 ⟨rfl, hb1, hF1⟩
          have hE1 := hE0.trans hF1
          clear hF1 hb0 hE0
          gi_wp2
          refine ⟨hE1.others.from _, World.cell?_of_block (hE1.low (w1.heap.size + 1) (by omega) (by omega)), ?_, hBl.trans (hE1.below.mono (by omega)), Nat.le_trans hW2 hE1.below.size, ?_⟩
          · rw [HSN.out, HQ.out]; exact hb1
          · rw [HY.out, List.length_append, List.length_append, hcnt]; rfl
  case done =>
    rintro D ys W hD hS ⟨hb1, hBl, hW2, hcnt⟩ hK
    rw [hS, HP.out, labsOf_pairs 0 ls HO.out] at hcnt
    have hlen : ys.length = ls.length + 1 := by rw [← raw_length, hS, HP.out, pairsL_length]
    exact absurd hcnt (by omega)
  case stop =>
    rintro D c pre W hD hS ⟨⟨rfl, p, x, rfl, hx0, hb4⟩, hBl⟩ hK
    rw [HP.out, raw_snoc] at hS
    have HT := Lib.hid (labs_stop 0 ls (raw p) x.val HO.out hS hx0)
    rw [HT.out] at hb4
    gi_wp2_with fail
    refine ⟨trivial, ?_⟩
    refine (callsIn_wide.2 (strN _ _ _ _ hb4 (show_ne H0.out))).mono ?_
    rintro e W2 ⟨rfl, hB2, hKO⟩
    have hK2 := hKO.same _ _ hK rfl
    have hBf := hBl.trans (hB2.mono (by omega))
    gi_wp2
    refine ⟨by simp, .inl ⟨_, _, rfl, run_takeDeferred hK2, ?_⟩⟩
    exact ⟨_, by simp [results, Tryz.results26, go_sem], rfl, below_putObj hBf (by omega) _⟩

set_option maxRecDepth 100000 in
theorem nshow_root (s : ByteArray) (w : World) (h : IsN s.data.toList []) :
    Calls Tryz.prog 26 #[.string s] w fun e w' => e = .returned (.string ⟨#[46]⟩) ∧ Below w.heap.size w w' := by
  have hs : s.size ≤ 255 := by have := h.2.2; rwa [size_len] at this
  have HK := Lib.hid (chk_yes h)
  have hroot : (s.toList == [0]) = true := by
    rw [Lib.toList_data, h.1]; rfl
  clear h
  go_enter Tryz.func26, Tryz.ntmps26
  go_wp2_with fail
  refine (check_any s _ (by omega)).mono ?_
  rintro e w1 ⟨rfl, hB1⟩
  rw [HK.out]
  go_wp2
  go_ret
  exact ⟨rfl, hB1⟩
set_option maxRecDepth 100000 in
theorem nshow_no (s : ByteArray) (w : World) (hs : s.size ≤ 1099511627776) (h : split s.data.toList = none) :
    Calls Tryz.prog 26 #[.string s] w fun e w' => e = .returned (.string ⟨#[]⟩) ∧ Below w.heap.size w w' := by
  have HK := Lib.hid (chk_no h)
  clear h
  go_enter Tryz.func26, Tryz.ntmps26
  go_wp2_with fail
  refine (check_any s _ hs).mono ?_
  rintro e w1 ⟨rfl, hB1⟩
  rw [HK.out]
  go_wp2
  go_ret
  exact ⟨rfl, hB1⟩
theorem showS_no {l : Bs} (h : split l = none) : showS l = [] := by unfold showS; rw [h]
theorem showS_root {l : Bs} (h : IsN l []) : showS l = [46] := by unfold showS; rw [split_iff.2 h]
theorem showS_yes {l : Bs} {ls : List Bs} (h : IsN l ls) (h0 : ls ≠ []) : showS l = showL ls := by
  unfold showS; rw [split_iff.2 h]
  cases ls with
  | nil => exact absurd rfl h0
  | cons a b => rfl
theorem nshow_any (s : ByteArray) (w : World) (hs : s.size ≤ 1099511627776) :
    Calls Tryz.prog 26 #[.string s] w fun e w' => e = .returned (.string ⟨(showS s.data.toList).toArray⟩) ∧ Below w.heap.size w w' := by
  rcases isB_or s with ⟨ls, h⟩ | h
  · cases ls with
    | nil => rw [showS_root h]; exact nshow_root s w h
    | cons a b => rw [showS_yes h (by simp)]; exact callsIn_wide.1 (nshow_yes s _ w h (by simp))
  · rw [showS_no h]; exact nshow_no s w hs h

set_option maxRecDepth 100000 in
theorem show_root (s : ByteArray) (w : World) (h : IsN s.data.toList []) :
    Calls Tryz.prog 32 #[.string s] w fun e w' => e = .returned (.string ⟨#[46]⟩) ∧ Below w.heap.size w w' := by
  go_enter Tryz.func32, Tryz.ntmps32
  go_wp2_with fail
  refine (split_yes s [] _ h).mono ?_
  rintro e w1 ⟨v1, rfl, hsv1, hB1⟩
  obtain ⟨a1, c1, rfl, hk1, hr1⟩ := sv_cap hsv1
  clear hsv1 hr1 h
  go_wp2
  go_ret
  exact ⟨rfl, hB1⟩
set_option maxRecDepth 100000 in
theorem show_no (s : ByteArray) (w : World) (hs : s.size ≤ 1099511627776) (h : split s.data.toList = none) :
    Calls Tryz.prog 32 #[.string s] w fun e w' => e = .returned (.string ⟨#[]⟩) ∧ Below w.heap.size w w' := by
  go_enter Tryz.func32, Tryz.ntmps32
  go_wp2_with fail
  refine (split_no s _ hs h).mono ?_
  rintro e w1 ⟨a1, n1, c1, rfl, hB1⟩
  clear h
  go_wp2
  go_ret
  exact ⟨rfl, hB1⟩
theorem show_any (s : ByteArray) (w : World) (hs : s.size ≤ 1099511627776) :
    Calls Tryz.prog 32 #[.string s] w fun e w' => e = .returned (.string ⟨(showS s.data.toList).toArray⟩) ∧ Below w.heap.size w w' := by
  rcases isB_or s with ⟨ls, h⟩ | h
  · cases ls with
    | nil => rw [showS_root h]; exact show_root s w h
    | cons a b => rw [showS_yes h (by simp)]; exact showName_yes s _ w h (by simp)
  · rw [showS_no h]; exact show_no s w hs h

end Go.Proofs.YtjejmgdpjfdhjaaGreatDoor.nshow
namespace Go.Proofs.YtjejmgdpjfdhjaaGreatDoor.bits

/-- the n bits of v, the highest first -/
def tob (v : Nat) : Nat → List Nat
  | 0 => []
  | n + 1 => (v / 2 ^ n % 2) :: tob v n
/-- the number of bits, the highest first -/
def ofb (l : List Nat) : Nat := l.foldl (fun a b => 2 * a + b) 0
def bitsL (d : List UInt8) : List Nat := d.flatMap (fun c => tob c.toNat 8)
theorem tob_length (v n : Nat) : (tob v n).length = n := by
  induction n with
  | zero => rfl
  | succ n ih => simp [tob, ih]
theorem foldl_add (l : List Nat) (a : Nat) : l.foldl (fun a b => 2 * a + b) a = a * 2 ^ l.length + l.foldl (fun a b => 2 * a + b) 0 := by
  induction l generalizing a with
  | nil => simp
  | cons b r ih =>
    simp only [List.foldl_cons, List.length_cons]
    rw [ih, ih (2 * 0 + b), Nat.pow_succ]
    have : (2 * a + b) * 2 ^ r.length = a * (2 ^ r.length * 2) + (2 * 0 + b) * 2 ^ r.length := by
      rw [Nat.add_mul, Nat.mul_comm 2 a, Nat.mul_assoc, Nat.mul_comm 2 (2 ^ r.length)]; simp
    omega
theorem ofb_cons (b : Nat) (r : List Nat) : ofb (b :: r) = b * 2 ^ r.length + ofb r := by
  unfold ofb; rw [List.foldl_cons, foldl_add]; simp
theorem ofb_tob (v n : Nat) : ofb (tob v n) = v % 2 ^ n := by
  induction n with
  | zero => simp [tob, ofb, Nat.mod_one]
  | succ n ih =>
    rw [tob, ofb_cons, tob_length, ih, Nat.pow_succ]
    have := Nat.mod_mul (x := v) (a := 2 ^ n) (b := 2)
    rw [this, Nat.mul_comm]; omega
theorem tob_mod (v n m : Nat) (h : n ≤ m) : tob (v % 2 ^ m) n = tob v n := by
  induction n with
  | zero => rfl
  | succ n ih =>
    rw [tob, tob, ih (by omega)]
    congr 1
    obtain ⟨d, rfl⟩ : ∃ d, m = n + 1 + d := ⟨m - (n + 1), by omega⟩
    rw [show n + 1 + d = n + (1 + d) by omega, Nat.pow_add, Nat.mod_mul_right_div_self, Nat.pow_add, Nat.pow_one, Nat.mod_mul_right_mod]
theorem tob_append (v w n m : Nat) (hw : w < 2 ^ m) : tob (v * 2 ^ m + w) (n + m) = tob v n ++ tob w m := by
  induction n with
  | zero =>
    rw [Nat.zero_add, tob, List.nil_append]
    rw [← tob_mod (v * 2 ^ m + w) m m (Nat.le_refl _), Nat.mul_comm, Nat.mul_add_mod, Nat.mod_eq_of_lt hw]
  | succ n ih =>
    rw [show n + 1 + m = (n + m) + 1 by omega, tob, ih, tob, List.cons_append]
    congr 1
    rw [Nat.add_comm n m, Nat.pow_add, ← Nat.div_div_eq_div_mul, Nat.mul_comm v, Nat.mul_add_div (Nat.two_pow_pos m), Nat.div_eq_of_lt hw, Nat.add_zero]

/-- n bits a letter, the last filled up with noughts -/
def encF (n : Nat) (al : List UInt8) : Nat → List Nat → List UInt8
  | 0, _ => []
  | f + 1, l => if l = [] then [] else al.getD (ofb ((l ++ List.replicate n 0).take n)) 0 :: encF n al f (l.drop n)
def enc (n : Nat) (al : List UInt8) (l : List Nat) : List UInt8 := encF n al l.length l
theorem encF_fuel (n : Nat) (al : List UInt8) (hn : 1 ≤ n) : ∀ (f g : Nat) (l : List Nat), l.length ≤ f → l.length ≤ g → encF n al f l = encF n al g l
  | 0, 0, _, _, _ => rfl
  | 0, g + 1, l, h, _ => by
    have : l = [] := List.eq_nil_of_length_eq_zero (by omega)
    subst this; simp [encF]
  | f + 1, 0, l, _, h => by
    have : l = [] := List.eq_nil_of_length_eq_zero (by omega)
    subst this; simp [encF]
  | f + 1, g + 1, l, h1, h2 => by
    simp only [encF]
    by_cases hl : l = []
    · simp [hl]
    · have hp : 0 < l.length := List.length_pos_iff.2 hl
      rw [if_neg hl, if_neg hl, encF_fuel n al hn f g (l.drop n) (by rw [List.length_drop]; omega) (by rw [List.length_drop]; omega)]
theorem enc_nil (n : Nat) (al : List UInt8) : enc n al [] = [] := rfl
theorem enc_step {n : Nat} (al : List UInt8) {l : List Nat} (hn : 1 ≤ n) (hl : l ≠ []) : enc n al l = al.getD (ofb ((l ++ List.replicate n 0).take n)) 0 :: enc n al (l.drop n) := by
  have hp : 0 < l.length := List.length_pos_iff.2 hl
  unfold enc
  obtain ⟨f, hf⟩ : ∃ f, l.length = f + 1 := ⟨l.length - 1, by omega⟩
  rw [hf, encF, if_neg hl, encF_fuel n al hn f (l.drop n).length (l.drop n) (by rw [List.length_drop]; omega) (Nat.le_refl _)]
theorem enc_full {n : Nat} (al : List UInt8) (l t : List Nat) (hn : 1 ≤ n) (hl : l.length = n) : enc n al (l ++ t) = al.getD (ofb l) 0 :: enc n al t := by
  have hne : l ++ t ≠ [] := by
    intro h
    have := congrArg List.length h
    rw [List.length_append, List.length_nil] at this; omega
  rw [enc_step al hn hne, List.append_assoc, List.take_left' hl, List.drop_left' hl]
theorem ofb_zero (k : Nat) : ofb (List.replicate k 0) = 0 := by
  induction k with
  | zero => rfl
  | succ k ih => rw [List.replicate_succ, ofb_cons, ih]; simp
theorem ofb_append (x y : List Nat) : ofb (x ++ y) = ofb x * 2 ^ y.length + ofb y := by
  unfold ofb; rw [List.foldl_append, foldl_add]
theorem enc_last {n : Nat} (al : List UInt8) (l : List Nat) (hl : 0 < l.length) (hn : l.length ≤ n) : enc n al l = [al.getD (ofb l * 2 ^ (n - l.length)) 0] := by
  have hne : l ≠ [] := List.length_pos_iff.1 hl
  rw [enc_step (n := n) al (by omega) hne, List.take_append, List.take_of_length_le hn, List.take_replicate, List.drop_eq_nil_iff.2 hn, enc_nil, ofb_append, ofb_zero, List.length_replicate]
  rw [show min (n - l.length) n = n - l.length by omega, Nat.add_zero]
theorem bits_cons (c : UInt8) (r : List UInt8) : bitsL (c :: r) = tob c.toNat 8 ++ bitsL r := rfl
theorem encF_len (n : Nat) (al : List UInt8) (hn : 1 ≤ n) : ∀ (f : Nat) (l : List Nat), (encF n al f l).length ≤ l.length
  | 0, l => by simp [encF]
  | f + 1, l => by
    simp only [encF]
    by_cases hl : l = []
    · simp [hl]
    · have hp : 0 < l.length := List.length_pos_iff.2 hl
      have := encF_len n al hn f (l.drop n)
      rw [List.length_drop] at this
      rw [if_neg hl, List.length_cons]; omega
theorem enc_len (n : Nat) (al : List UInt8) (hn : 1 ≤ n) (l : List Nat) : (enc n al l).length ≤ l.length := encF_len n al hn _ _
theorem bitsL_len (d : List UInt8) : (bitsL d).length = 8 * d.length := by
  induction d with
  | nil => rfl
  | cons c r ih => rw [bits_cons, List.length_append, tob_length, ih, List.length_cons]; omega
theorem to_step {n : Nat} {al : List UInt8} {A : List UInt8} {h b : Nat} {c : UInt8} {r l : List UInt8} {R : List UInt8} (h1 : A ++ enc n al (tob h b ++ bitsL l) = R) (hl : l = c :: r) (hb : b + 8 ≤ 12) {H : Nat} (hH : (h * 256 + c.toNat) % 4096 = H) :
    A ++ enc n al (tob H (b + 8) ++ bitsL r) = R := by
  subst hl
  have hc := c.toNat_lt
  have e1 : tob H (b + 8) = tob h b ++ tob c.toNat 8 := by
    rw [← hH, show (4096 : Nat) = 2 ^ 12 from rfl, tob_mod _ _ _ hb, show (256 : Nat) = 2 ^ 8 from rfl, tob_append _ _ _ _ (by omega)]
  rw [e1, List.append_assoc, ← bits_cons]
  exact h1
theorem to_letter {n : Nat} {al : List UInt8} {A : List UInt8} {H q : Nat} {l : List Nat} {R : List UInt8} (h1 : A ++ enc n al (tob H (q + n) ++ l) = R) (hn : 1 ≤ n) :
    (A ++ [al.getD (H / 2 ^ q % 2 ^ n) 0]) ++ enc n al (tob H q ++ l) = R := by
  have e : tob H (q + n) = tob (H / 2 ^ q) n ++ tob H q := by
    have h2 := tob_append (H / 2 ^ q) (H % 2 ^ q) n q (Nat.mod_lt _ (Nat.two_pow_pos q))
    rw [Nat.div_add_mod', tob_mod H q q (Nat.le_refl _), Nat.add_comm n q] at h2
    exact h2
  rw [e, List.append_assoc, enc_full al _ _ hn (tob_length _ _), ofb_tob] at h1
  rw [← h1]; simp
theorem to_last {n : Nat} {al : List UInt8} {A : List UInt8} {H b : Nat} {R : List UInt8} (h1 : A ++ enc n al (tob H b ++ bitsL []) = R) (hb : 0 < b) (hn : b ≤ n) :
    A ++ [al.getD (H * 2 ^ (n - b) % 2 ^ n) 0] = R := by
  have e : tob H b ++ bitsL [] = tob H b := by simp [bitsL]
  rw [e, enc_last al _ (by rw [tob_length]; exact hb) (by rw [tob_length]; exact hn), tob_length, ofb_tob] at h1
  rw [← h1]
  obtain ⟨d, rfl⟩ : ∃ d, n = b + d := ⟨n - b, by omega⟩
  rw [Nat.add_sub_cancel_left, Nat.pow_add, Nat.mul_mod_mul_right]
theorem to_end {n : Nat} {al : List UInt8} {A : List UInt8} {H : Nat} {R : List UInt8} (h1 : A ++ enc n al (tob H 0 ++ bitsL []) = R) : A = R := by
  rw [← h1]; simp [tob, bitsL, enc_nil]
end Go.Proofs.YtjejmgdpjfdhjaaGreatDoor.bits
namespace Go.Proofs.YtjejmgdpjfdhjaaGreatDoor.fld
open Go.Proofs.YtjejmgdpjfdhjaaGreatDoor.nspec Go.Proofs.YtjejmgdpjfdhjaaGreatDoor.bits

inductive Fld where
  | num (k : Nat) | ip4 | ip6 | host | text | texts | tail | hexes | b64 | kind | kinds | salt | hash

def hostS (d : Bs) : Int := match (List.range 256).find? (fun k => (split (d.take k)).isSome) with | some k => (k : Int) | none => -1
def textS : Bs → Int
  | [] => -1
  | c :: r => if r.length < c.toNat then -1 else 1 + (c.toNat : Int)
def textsF : Nat → Nat → Bs → Int
  | 0, _, _ => -1
  | _ + 1, at0, [] => if at0 = 0 then -1 else (at0 : Int)
  | f + 1, at0, c :: r => if r.length < c.toNat then -1 else textsF f (at0 + (1 + c.toNat)) (r.drop c.toNat)
def textsS (d : Bs) : Int := textsF (d.length + 1) 0 d
theorem texts_fuel : ∀ (f g at0 : Nat) (d : Bs), d.length < f → d.length < g → textsF f at0 d = textsF g at0 d
  | 0, _, _, _, h, _ => by omega
  | _ + 1, 0, _, _, _, h => by omega
  | f + 1, g + 1, at0, [], _, _ => rfl
  | f + 1, g + 1, at0, c :: r, h1, h2 => by
    simp only [List.length_cons] at h1 h2
    simp only [textsF]
    by_cases h : r.length < c.toNat
    · rw [if_pos h, if_pos h]
    · rw [if_neg h, if_neg h]; exact texts_fuel f g _ _ (by rw [List.length_drop]; omega) (by rw [List.length_drop]; omega)

/-- the types of one block's bits -/
def pickL (b : Nat) : Nat → List Nat → List Nat
  | _, [] => []
  | k, x :: l => if x = 1 then (b * 256 + k) :: pickL b (k + 1) l else pickL b (k + 1) l
def blockL (b : Nat) (m : Bs) : List Nat := pickL b 0 (bitsL m)
/-- a set's types: what comes behind the blocks up to 'last' -/
def typesF : Nat → Int → List Nat → Bs → Option (List Nat)
  | 0, _, _, _ => none
  | _ + 1, _, out, [] => some out
  | f + 1, last, out, b :: r => match r with
    | [] => none
    | n :: m => if (b.toNat : Int) ≤ last ∨ n.toNat < 1 ∨ 32 < n.toNat ∨ m.length < n.toNat ∨ m.getD (n.toNat - 1) 0 = 0 then none
      else typesF f (b.toNat : Int) (out ++ blockL b.toNat (m.take n.toNat)) (m.drop n.toNat)
def typesS (d : Bs) : Option (List Nat) := match typesF (d.length + 1) (-1) [] d with
  | none => none
  | some l => if 0 ∈ l then none else some l
theorem types_fuel : ∀ (f g : Nat) (last : Int) (out : List Nat) (d : Bs), d.length < f → d.length < g → typesF f last out d = typesF g last out d
  | 0, _, _, _, _, h, _ => by omega
  | _ + 1, 0, _, _, _, _, h => by omega
  | f + 1, g + 1, last, out, [], _, _ => rfl
  | f + 1, g + 1, last, out, [b], _, _ => rfl
  | f + 1, g + 1, last, out, b :: n :: m, h1, h2 => by
    simp only [List.length_cons] at h1 h2
    simp only [typesF]
    split
    · rfl
    · exact types_fuel f g _ _ _ (by rw [List.length_drop]; omega) (by rw [List.length_drop]; omega)

def someS (d : Bs) : Int := if d = [] then -1 else (d.length : Int)
def takeS : Fld → Bs → Int
  | .num k, d => if d.length < k then -1 else (k : Int)
  | .ip4, d => if d.length < 4 then -1 else 4
  | .ip6, d => if d.length < 16 then -1 else 16
  | .host, d => hostS d
  | .text, d => textS d
  | .texts, d => textsS d
  | .tail, d => (d.length : Int)
  | .hexes, d => someS d
  | .b64, d => someS d
  | .kind, d => if d.length < 2 ∨ (d.getD 0 0 = 0 ∧ d.getD 1 0 = 0) then -1 else 2
  | .kinds, d => if typesS d = none then -1 else (d.length : Int)
  | .salt, d => textS d
  | .hash, d => if d = [] ∨ d.getD 0 0 = 0 then -1 else textS d
theorem textS_le (d : Bs) : textS d ≤ d.length ∧ -1 ≤ textS d := by
  cases d with
  | nil => simp [textS]
  | cons c r =>
    simp only [textS, List.length_cons]; split
    · omega
    · omega
theorem textsF_le : ∀ (f at0 : Nat) (d : Bs), textsF f at0 d ≤ at0 + d.length ∧ -1 ≤ textsF f at0 d
  | 0, at0, d => by simp only [textsF]; omega
  | f + 1, at0, [] => by simp only [textsF, List.length_nil]; split <;> omega
  | f + 1, at0, c :: r => by
    simp only [textsF]
    split
    · simp only [List.length_cons]; omega
    · have := textsF_le f (at0 + (1 + c.toNat)) (r.drop c.toNat)
      rw [List.length_drop] at this
      simp only [List.length_cons]; omega
theorem hostS_le (d : Bs) : hostS d ≤ d.length ∧ -1 ≤ hostS d := by
  unfold hostS
  cases h : (List.range 256).find? (fun k => (split (d.take k)).isSome) with
  | none => simp
  | some k =>
    refine ⟨?_, by simp only; omega⟩
    rcases Nat.lt_or_ge d.length k with hk | hk
    · have h1 := List.find?_some h
      have hm := List.mem_of_find?_eq_some h
      rw [List.mem_range] at hm
      have e : d.take k = d.take d.length := by rw [List.take_of_length_le (by omega), List.take_of_length_le (Nat.le_refl _)]
      rw [e] at h1
      have h2 := (List.find?_range_eq_some.1 h).2.2 d.length hk
      simp only [Bool.not_eq_true', h1] at h2
      exact absurd h2 (by simp)
    · simp only; omega
theorem takeS_le (f : Fld) (d : Bs) : takeS f d ≤ d.length ∧ -1 ≤ takeS f d := by
  cases f <;> simp only [takeS, someS]
  case host => exact hostS_le d
  case text => exact textS_le d
  case salt => exact textS_le d
  case texts => exact (by have := textsF_le (d.length + 1) 0 d; unfold textsS; omega)
  case hash =>
    split
    · omega
    · exact textS_le d
  all_goals first | omega | (split <;> omega)

def formS (t : Int) : Option (List Fld) :=
  if t = 1 then some [.ip4] else if t = 2 then some [.host] else if t = 5 then some [.host] else if t = 12 then some [.host] else if t = 39 then some [.host]
  else if t = 6 then some [.host, .host, .num 4, .num 4, .num 4, .num 4, .num 4] else if t = 13 then some [.text, .text] else if t = 15 then some [.num 2, .host]
  else if t = 16 then some [.texts] else if t = 28 then some [.ip6] else if t = 33 then some [.num 2, .num 2, .num 2, .host]
  else if t = 35 then some [.num 2, .num 2, .text, .text, .text, .host] else if t = 43 then some [.num 2, .num 1, .num 1, .hexes]
  else if t = 46 then some [.kind, .num 1, .num 1, .num 4, .num 4, .num 4, .num 2, .host, .b64] else if t = 47 then some [.host, .kinds]
  else if t = 48 then some [.num 2, .num 1, .num 1, .b64] else if t = 50 then some [.num 1, .num 1, .num 2, .salt, .hash, .kinds]
  else if t = 51 then some [.num 1, .num 1, .num 2, .salt] else if t = 257 then some [.num 1, .text, .tail] else none
def holdsB (t : Int) : Bool := decide (1 ≤ t) && decide (t ≤ 65535) && (t != 41) && (decide (t < 128) || decide (255 < t))
/-- the parts of the fields, and what stands behind them; none: a field's bytes are not right -/
def splitS : List Fld → Bs → Option (List Bs × Bs)
  | [], d => some ([], d)
  | x :: f, d => if takeS x d < 0 then none else (splitS f (d.drop (takeS x d).toNat)).map (fun p => (d.take (takeS x d).toNat :: p.1, p.2))
/-- what Check says: of the fields, and the parts where all is right -/
def partsS (t : Int) (d : Bs) : Option (List Bs) := match formS t with
  | none => some []
  | some f => match splitS f d with
    | some (p, []) => some p
    | _ => none
def checkS (t : Int) (d : Bs) : Int := if holdsB t = false then 6 else if 65535 < d.length then 7 else if partsS t d = none then 7 else 0
def isHost : Fld → Bool
  | .host => true
  | _ => false
def namesL : List Fld → List Bs → List Bs
  | x :: f, p :: l => if isHost x then p :: namesL f l else namesL f l
  | _, _ => []
end Go.Proofs.YtjejmgdpjfdhjaaGreatDoor.fld

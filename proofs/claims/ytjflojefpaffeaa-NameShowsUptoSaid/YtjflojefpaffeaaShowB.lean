/- The reference's ShowName: walk. -/
import Derived.Test.YtjflojefpaffeaaShowA
import Derived.Test.YtjflojefpaffeaaRefCmp
namespace Go.Proofs.Ytjflojefpaffeaa.showB
open Go.RowKit Go.Proofs.Ytjflojefpaffeaa.kit Go.Proofs.Ytjflojefpaffeaa.check Go.Proofs.Ytjflojefpaffeaa.nspec Go.Proofs.Ytjflojefpaffeaa.rsplit Go.Proofs.Ytjflojefpaffeaa.low Go.Proofs.Ytjflojefpaffeaa.showA Go.Proofs.Ytjflojefpaffeaa.rcmp Go.Proofs.Ytjflojefpaffeaa.refA

def spec8 : Bs := [46, 92, 34, 40, 41, 59, 64, 36]
def escB (c : UInt8) : Bs := if spec8.contains c then [92, c] else if c.toNat < 33 ∨ 126 < c.toNat then 92 :: escL c else [c]
def labSh (x : Bs) : Bs := x.flatMap escB ++ [46]
def showL (ls : List Bs) : Bs := ls.flatMap labSh
def showS (l : Bs) : Bs := match split l with | none => [] | some [] => [46] | some ls => showL ls
theorem escB_len (c : UInt8) : (escB c).length ≤ 4 := by
  unfold escB
  split
  · simp
  · split
    · simp [escL]
    · simp
theorem esc_len (x : Bs) : (x.flatMap escB).length ≤ 4 * x.length := by
  induction x with
  | nil => simp
  | cons c r ih => have := escB_len c; simp only [List.flatMap_cons, List.length_append, List.length_cons]; omega
theorem show_len (ls : List Bs) : (showL ls).length ≤ 4 * room ls := by
  induction ls with
  | nil => simp [showL]
  | cons x r ih => have := esc_len x; simp only [showL, labSh, room, List.flatMap_cons, List.length_append, List.map_cons, List.sum_cons, List.length_cons, List.length_nil] at *; omega
theorem sh_end {A R : Bs} {ls : List Bs} {k : Nat} (h : A ++ showL (ls.drop k) = R) (hk : ls.length ≤ k) : A = R := by
  rw [List.drop_eq_nil_iff.2 hk] at h; simpa [showL] using h
theorem sh_go {A R x : Bs} {ls : List Bs} {k : Nat} (h : A ++ showL (ls.drop k) = R) (hx : ls[k]? = some x) : A ++ ((x.drop 0).flatMap escB ++ (46 :: showL (ls.drop (k + 1)))) = R := by
  obtain ⟨h3, h4⟩ := List.getElem?_eq_some_iff.1 hx
  rw [List.drop_eq_getElem_cons h3, h4] at h
  rw [← h]; simp [showL, labSh]
theorem in_end {A R T x : Bs} {k : Nat} (h : A ++ ((x.drop k).flatMap escB ++ 46 :: T) = R) (hk : x.length ≤ k) : (A ++ [46]) ++ T = R := by
  rw [List.drop_eq_nil_iff.2 hk] at h; rw [← h]; simp
theorem in_go {A R T x : Bs} {k : Nat} {c : UInt8} (h : A ++ ((x.drop k).flatMap escB ++ 46 :: T) = R) (hc : x[k]? = some c) : (A ++ escB c) ++ ((x.drop (k + 1)).flatMap escB ++ 46 :: T) = R := by
  obtain ⟨h3, h4⟩ := List.getElem?_eq_some_iff.1 hc
  rw [List.drop_eq_getElem_cons h3, h4] at h
  rw [← h]; simp
theorem pre_le {A T R : Bs} (h : A ++ T = R) : A.length ≤ R.length := by rw [← h]; simp

theorem sz1 (C : ByteArray) (c : UInt8) : (C ++ (⟨#[c]⟩ : ByteArray)).size = C.size + 1 := by rw [ByteArray.size_append]; rfl
theorem sz2 (C : ByteArray) (c d : UInt8) : (C ++ ((⟨#[c]⟩ : ByteArray) ++ ⟨#[d]⟩)).size = C.size + 2 := by rw [ByteArray.size_append]; rfl
theorem dt1 (C : ByteArray) (c : UInt8) : (C ++ (⟨#[c]⟩ : ByteArray)).data.toList = C.data.toList ++ [c] := by simp
theorem dt2 (C : ByteArray) (c d : UInt8) : (C ++ ((⟨#[c]⟩ : ByteArray) ++ ⟨#[d]⟩)).data.toList = C.data.toList ++ [c, d] := by simp
theorem dtE (C : ByteArray) (l : List UInt8) : (C ++ (⟨l.toArray⟩ : ByteArray)).data.toList = C.data.toList ++ l := by simp
theorem one_ext (X : ByteArray) (j : Nat) (c : UInt8) (h : X.data.toList[j]? = some c) : X.extract j (j + 1) = ⟨#[c]⟩ := by
  apply ba_ext
  obtain ⟨h1, h2⟩ := List.getElem?_eq_some_iff.1 h
  rw [ByteArray.data_extract, Array.toList_extract, List.extract_eq_take_drop]
  rw [List.drop_eq_getElem_cons h1, h2]
  simp
theorem escB_cases (c : UInt8) : (spec8.contains c = true ∧ escB c = [92, c]) ∨ (spec8.contains c = false ∧ escB c = 92 :: escL c ∧ ((c.toNat : Int) < 33 ∨ 126 < (c.toNat : Int))) ∨ (spec8.contains c = false ∧ escB c = [c] ∧ ¬ (c.toNat : Int) < 33 ∧ ¬ 126 < (c.toNat : Int)) := by
  unfold escB
  cases spec8.contains c with
  | true => exact .inl ⟨rfl, rfl⟩
  | false =>
    by_cases h : c.toNat < 33 ∨ 126 < c.toNat
    · exact .inr (.inl ⟨rfl, by rw [if_neg (by simp), if_pos h], by omega⟩)
    · exact .inr (.inr ⟨rfl, by rw [if_neg (by simp), if_neg h], by omega, by omega⟩)

set_option maxRecDepth 100000 in
set_option maxHeartbeats 4000000 in
theorem showName_yes (s : ByteArray) (ls : List Bs) (w : World) (h : IsN s.data.toList ls) (h0 : ls ≠ []) :
    Calls Try.prog 38 #[.string s] w fun e w' => e = .returned (.string ⟨(showL ls).toArray⟩) ∧ Below w.heap.size w w' := by
  obtain ⟨R, HR⟩ : ∃ R, Hid (showL ls = R) := ⟨_, Lib.hid rfl⟩
  have hR : R.length ≤ 1100 := by rw [← HR.out]; have := show_len ls; have := isN_room h; omega
  have HC : Hid ([] ++ showL (ls.drop 0) = R) := Lib.hid (by rw [← HR.out]; rfl)
  rw [HR.out]
  have hl := split_len h
  have hl0 : ((ls.length : Int) == 0) = false := by
    cases ls with
    | nil => exact absurd rfl h0
    | cons a b => simp; omega
  have L1 := Lib.hid h; clear h h0
  go_enter Try.func38, Try.ntmps38
  go_wp2_with fail
  refine (split_yes s ls _ L1.out).mono ?_
  rintro e w1 ⟨v1, rfl, hsv1, hB1⟩
  obtain ⟨a1, c1, rfl, hk1, hr1⟩ := sv_cap hsv1
  have HR1 := Lib.hid hr1
  clear hr1 hsv1
  go_wp2
  go_loopg [5, 21] (ls.length + 1) (fun gas sv kv wr => ∃ (k : Nat) (A : ByteArray), sv = .string A ∧ A.size ≤ 1100 ∧ kv = .int .i64 k ∧ k ≤ ls.length ∧ k + gas = ls.length + 1 ∧ Hid (A.data.toList ++ showL (ls.drop k) = R) ∧ Below w1.heap.size w1 wr)
  case atStart => exact ⟨0, _, rfl, by decide, rfl, by omega, by omega, HC, Below.refl _ _⟩
  case round =>
    obtain ⟨k, A, rfl, hA, rfl, hk, hkg, HW, hB⟩ := hrel
    obtain ⟨gk', hgk'⟩ : ∃ g, g = gk := ⟨_, rfl⟩
    rw [← hgk'] at hkg
    have HK := Lib.hid hkg; clear hkg
    by_cases hlt : k < ls.length
    · obtain ⟨x, hx⟩ : ∃ x, ls[k]? = some x := ⟨_, List.getElem?_eq_getElem hlt⟩
      obtain ⟨g1, o1, rfl, _, hg1, hcl1⟩ := HR1.out _ x hx
      have hcx := (hB.cell (p := ⟨g1, o1 + k, none⟩) hg1).trans hcl1
      have hxl := L1.out.2.1 x (List.mem_of_getElem? hx)
      have HG := Lib.hid (sh_go HW.out hx)
      clear hx hcl1
      unfold strV at hcx
      obtain ⟨X, hX⟩ : ∃ X : ByteArray, ⟨x.toArray⟩ = X := ⟨_, rfl⟩
      have hXx : x = X.data.toList := by rw [← hX]
      rw [hX] at hcx
      subst hXx
      clear hX
      rw [size_len] at hxl
      obtain ⟨hxl0, hxl1⟩ := hxl
      go_wp2
      go_loopg [5, 8] (X.size + 1) (fun gas sv jv wq => ∃ (j : Nat) (C : ByteArray), sv = .string C ∧ C.size ≤ 1100 ∧ jv = .int .i64 j ∧ j ≤ X.size ∧ j + gas = X.size + 1 ∧ Hid (C.data.toList ++ ((X.data.toList.drop j).flatMap escB ++ (46 :: showL (ls.drop (k + 1)))) = R) ∧ Below w1.heap.size w1 wq)
      case atStart => exact ⟨0, A, rfl, hA, rfl, by omega, by omega, HG, hB⟩
      case round =>
        obtain ⟨j, C, rfl, hC, rfl, hj, hjg, HV, hBq⟩ := hrel
        have HJ := Lib.hid hjg; clear hjg
        by_cases hjt : j < X.size
        · obtain ⟨c, hc⟩ : ∃ c, X[j] = c := ⟨_, rfl⟩
          have hcj : X.data.toList[j]? = some c := by rw [← hc]; exact List.getElem?_eq_getElem (by rw [size_len]; exact hjt)
          have HN := Lib.hid (in_go HV.out hcj)
          have hnl := pre_le HN.out
          have hX1 := one_ext X j c hcj
          obtain ⟨b, hb⟩ : ∃ b, spec8.contains c = b := ⟨_, rfl⟩
          have hE := escB_cases c
          rw [hb] at hE
          have HB := Lib.hid hb
          clear hb hcj
          go_wp2_with fail
          refine (among_any c _ _ (by decide)).mono ?_
          rintro e w2 ⟨rfl, hB2⟩
          have hBr := hBq.trans (hB2.mono hBq.size)
          rw [show (⟨#[46, 92, 34, 40, 41, 59, 64, 36]⟩ : ByteArray).data.toList.contains c = b from HB.out]
          rcases hE with ⟨rfl, hE⟩ | ⟨rfl, hE, hlo⟩ | ⟨rfl, hE, hlo, hhi⟩
          · rw [hE] at HN hnl
            have HM := HN; clear HN hE
            have hcs : C.size + 2 ≤ 1100 := by rw [List.length_append, size_len] at hnl; simp at hnl; omega
            clear hnl
            go_wp2
            have hjg := HJ.out
            go_roundg (gk - 1)
            case rel => exact ⟨j + 1, _, rfl, by rw [sz2]; exact hcs, by go_num, by omega, by omega, by rw [dt2]; exact HM, hBr⟩
            case measure => omega
          · rw [hE] at HN hnl
            have HM := HN; clear HN hE
            have hcs : C.size + 4 ≤ 1100 := by rw [List.length_append, size_len] at hnl; simp [escL] at hnl; omega
            clear hnl
            have ht4 : (⟨(92 :: escL c).toArray⟩ : ByteArray).size = 4 := rfl
            rcases hlo with hlo | hlo
            · have hlo' : decide ((c.toNat : Int) < 33) = true := by simpa using hlo
              go_wp2_with fail
              refine (escape_any c _).mono ?_
              rintro e w3 ⟨rfl, hB3⟩
              have hBs := hBr.trans (hB3.mono hBr.size)
              go_wp2
              have hjg := HJ.out
              go_roundg (gk - 1)
              case rel => exact ⟨j + 1, _, rfl, by rw [ByteArray.size_append, ht4]; exact hcs, by go_num, by omega, by omega, by rw [dtE]; exact HM, hBs⟩
              case measure => omega
            · have hlo' : ¬ (c.toNat : Int) < 33 := by omega
              go_wp2_with fail
              refine (escape_any c _).mono ?_
              rintro e w3 ⟨rfl, hB3⟩
              have hBs := hBr.trans (hB3.mono hBr.size)
              go_wp2
              have hjg := HJ.out
              go_roundg (gk - 1)
              case rel => exact ⟨j + 1, _, rfl, by rw [ByteArray.size_append, ht4]; exact hcs, by go_num, by omega, by omega, by rw [dtE]; exact HM, hBs⟩
              case measure => omega
          · rw [hE] at HN hnl
            have HM := HN; clear HN hE
            have hcs : C.size + 1 ≤ 1100 := by rw [List.length_append, size_len] at hnl; simp at hnl; omega
            clear hnl
            go_wp2
            have hjg := HJ.out
            go_roundg (gk - 1)
            case rel => exact ⟨j + 1, _, rfl, by rw [sz1]; exact hcs, by go_num, by omega, by omega, by rw [dt1]; exact HM, hBr⟩
            case measure => omega
        · have HN := Lib.hid (in_end HV.out (by rw [size_len]; omega))
          have hnl := pre_le HN.out
          have hcs : C.size + 1 ≤ 1100 := by rw [List.length_append, size_len] at hnl; simp at hnl; omega
          clear hnl
          go_wp2
          have hkg := HK.out
          go_roundg (gk' - 1)
          case rel => exact ⟨k + 1, _, rfl, by rw [sz1]; exact hcs, by go_num, by omega, by omega, by rw [dt1]; exact HN, hBq⟩
          case measure => omega
    · have HN := Lib.hid (sh_end HW.out (by omega))
      go_wp2
      go_ret
      exact ⟨ret_str (ba_ext HN.out), hB1.trans (hB.mono hB1.size)⟩
end Go.Proofs.Ytjflojefpaffeaa.showB

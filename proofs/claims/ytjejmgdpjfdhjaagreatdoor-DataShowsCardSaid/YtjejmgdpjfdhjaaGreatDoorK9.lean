/- The reference's Compare: walk. The reference's ShowName: walk. How data are written: plain. Lists of ints in memory; gazetteerref1.bits: walk. -/
import Derived.Test.YtjejmgdpjfdhjaaGreatDoorK8
import Derived.Test.YtjejmgdpjfdhjaaGreatDoorK7
import Derived.Test.YtjejmgdpjfdhjaaGreatDoorK5
import Derived.Test.YtjejmgdpjfdhjaaGreatDoorK4
import Derived.Test.YtjejmgdpjfdhjaaGreatDoorK2
import Derived.Deep.DeepCutAuto
import Derived.Maps.AppendAt
namespace Go.Proofs.YtjejmgdpjfdhjaaGreatDoor.rcmp
open Go.RowKit Go.Proofs.YtjejmgdpjfdhjaaGreatDoor.kit Go.Proofs.YtjejmgdpjfdhjaaGreatDoor.check Go.Proofs.YtjejmgdpjfdhjaaGreatDoor.nspec Go.Proofs.YtjejmgdpjfdhjaaGreatDoor.rsplit Go.Proofs.YtjejmgdpjfdhjaaGreatDoor.low Go.Proofs.YtjejmgdpjfdhjaaGreatDoor.refA Go.Proofs.YtjejmgdpjfdhjaaGreatDoor.nameL Go.Proofs.YtjejmgdpjfdhjaaGreatDoor.ncmp Go.Proofs.YtjejmgdpjfdhjaaGreatDoor.refC

theorem less_iff : ∀ (u v : List UInt8), Op.bytesLess u v = decide (Lib.compareBytes u v = -1)
  | [], [] => by simp [Op.bytesLess, Lib.compareBytes]
  | _ :: _, [] => by simp [Op.bytesLess, Lib.compareBytes]
  | [], _ :: _ => by simp [Op.bytesLess, Lib.compareBytes]
  | a :: x, b :: y => by
    rw [Op.bytesLess, less_iff x y, Lib.compareBytes]
    by_cases h1 : a < b
    · simp [h1]
    · by_cases h2 : b < a
      · have : a ≠ b := by rintro rfl; exact h1 h2
        simp [h1, h2, this]
      · have : a = b := by
          rw [UInt8.lt_iff_toNat_lt] at h1 h2
          exact UInt8.toNat.inj (by omega)
        simp [this]
theorem cmp_eq0 : ∀ (u v : List UInt8), Lib.compareBytes u v = 0 ↔ u = v
  | [], [] => by simp [Lib.compareBytes]
  | _ :: _, [] => by simp [Lib.compareBytes]
  | [], _ :: _ => by simp [Lib.compareBytes]
  | a :: x, b :: y => by
    rw [Lib.compareBytes]
    by_cases h1 : a < b
    · have : a ≠ b := by rintro rfl; rw [UInt8.lt_iff_toNat_lt] at h1; omega
      simp [h1, this]
    · by_cases h2 : b < a
      · have : a ≠ b := by rintro rfl; exact h1 h2
        simp [h1, h2, this]
      · have : a = b := by
          rw [UInt8.lt_iff_toNat_lt] at h1 h2
          exact UInt8.toNat.inj (by omega)
        simp [this, cmp_eq0 x y]
theorem cmp_cases (u v : List UInt8) : (Lib.compareBytes u v = -1 ∧ Op.bytesLess u v = true) ∨ (Lib.compareBytes u v = 0 ∧ Op.bytesLess u v = false ∧ (u == v) = true) ∨ (Lib.compareBytes u v = 1 ∧ Op.bytesLess u v = false ∧ (u == v) = false) := by
  have h := cmp_ge u v
  have h2 := cmp_eq0 u v
  rw [less_iff]
  by_cases h3 : Lib.compareBytes u v = -1
  · exact .inl ⟨h3, by simp [h3]⟩
  · by_cases h4 : Lib.compareBytes u v = 0
    · exact .inr (.inl ⟨h4, by simp [h4], by simpa using h2.1 h4⟩)
    · exact .inr (.inr ⟨by omega, by simp [h3], by simpa using fun h5 => h4 (h2.2 h5)⟩)

theorem sv_cap {w : World} {v : Value} {base : Nat} {ls : List Bs} (h : SV w v base ls) : ∃ a c, v = .slice a ls.length c ∧ ls.length ≤ c ∧ Rd w a base ls := by
  rcases h with ⟨rfl, h⟩ | ⟨h0, g, c, h1, h2, h3, h4, h5, h6⟩
  · exact ⟨none, 0, h, Nat.le_refl _, Rd.nil _ _ _⟩
  · exact ⟨_, c, h1, h2, fun j x hx => ⟨g, 0, rfl, h4, h5, by rw [Nat.zero_add]; exact h6 j x hx⟩⟩
theorem take_rev {ls : List Bs} {i : Nat} {x : Bs} (h : ls[i]? = some x) : ((ls.take (i + 1)).map lowL).reverse = lowL x :: ((ls.take i).map lowL).reverse := by
  obtain ⟨h3, h4⟩ := List.getElem?_eq_some_iff.1 h
  rw [List.take_add_one, List.getElem?_eq_getElem h3, h4]; simp

theorem keep3 {wr w w' : World} {p1 p2 : Addr} {v1 v2 : Value} (h : w.cell? p1 = some v1 ∧ w.cell? p2 = some v2 ∧ Below wr.heap.size wr w) (hB : Below w.heap.size w w') (h1 : p1.block < wr.heap.size) (h2 : p2.block < wr.heap.size) : w'.cell? p1 = some v1 ∧ w'.cell? p2 = some v2 ∧ Below wr.heap.size wr w' :=
  ⟨(hB.cell (p := p1) (Nat.lt_of_lt_of_le h1 h.2.2.size)).trans h.1, (hB.cell (p := p2) (Nat.lt_of_lt_of_le h2 h.2.2.size)).trans h.2.1, h.2.2.trans (hB.mono h.2.2.size)⟩

end Go.Proofs.YtjejmgdpjfdhjaaGreatDoor.rcmp
namespace Go.Proofs.YtjejmgdpjfdhjaaGreatDoor.showB
open Go.RowKit Go.Proofs.YtjejmgdpjfdhjaaGreatDoor.kit Go.Proofs.YtjejmgdpjfdhjaaGreatDoor.check Go.Proofs.YtjejmgdpjfdhjaaGreatDoor.nspec Go.Proofs.YtjejmgdpjfdhjaaGreatDoor.rsplit Go.Proofs.YtjejmgdpjfdhjaaGreatDoor.low Go.Proofs.YtjejmgdpjfdhjaaGreatDoor.showA Go.Proofs.YtjejmgdpjfdhjaaGreatDoor.rcmp Go.Proofs.YtjejmgdpjfdhjaaGreatDoor.refA

def spec8 : Bs := [46, 92, 34, 40, 41, 59, 64, 36]
def escB (c : UInt8) : Bs := if spec8.contains c then [92, c] else if c.toNat < 33 ∨ 126 < c.toNat then 92 :: escL c else [c]
def labSh (x : Bs) : Bs := x.flatMap escB ++ [46]
def showL (ls : List Bs) : Bs := ls.flatMap labSh
def showS (l : Bs) : Bs := match split l with | none => [] | some [] => [46] | some ls => showL ls
theorem escB_len (c : UInt8) : (escB c).length ≤ 4 := by
  unfold escB
  split
  · simp
  · split
    · simp [escL]
    · simp
theorem esc_len (x : Bs) : (x.flatMap escB).length ≤ 4 * x.length := by
  induction x with
  | nil => simp
  | cons c r ih => have := escB_len c; simp only [List.flatMap_cons, List.length_append, List.length_cons]; omega
theorem show_len (ls : List Bs) : (showL ls).length ≤ 4 * room ls := by
  induction ls with
  | nil => simp [showL]
  | cons x r ih => have := esc_len x; simp only [showL, labSh, room, List.flatMap_cons, List.length_append, List.map_cons, List.sum_cons, List.length_cons, List.length_nil] at *; omega
theorem sh_end {A R : Bs} {ls : List Bs} {k : Nat} (h : A ++ showL (ls.drop k) = R) (hk : ls.length ≤ k) : A = R := by
  rw [List.drop_eq_nil_iff.2 hk] at h; simpa [showL] using h
theorem sh_go {A R x : Bs} {ls : List Bs} {k : Nat} (h : A ++ showL (ls.drop k) = R) (hx : ls[k]? = some x) : A ++ ((x.drop 0).flatMap escB ++ (46 :: showL (ls.drop (k + 1)))) = R := by
  obtain ⟨h3, h4⟩ := List.getElem?_eq_some_iff.1 hx
  rw [List.drop_eq_getElem_cons h3, h4] at h
  rw [← h]; simp [showL, labSh]
theorem in_end {A R T x : Bs} {k : Nat} (h : A ++ ((x.drop k).flatMap escB ++ 46 :: T) = R) (hk : x.length ≤ k) : (A ++ [46]) ++ T = R := by
  rw [List.drop_eq_nil_iff.2 hk] at h; rw [← h]; simp
theorem in_go {A R T x : Bs} {k : Nat} {c : UInt8} (h : A ++ ((x.drop k).flatMap escB ++ 46 :: T) = R) (hc : x[k]? = some c) : (A ++ escB c) ++ ((x.drop (k + 1)).flatMap escB ++ 46 :: T) = R := by
  obtain ⟨h3, h4⟩ := List.getElem?_eq_some_iff.1 hc
  rw [List.drop_eq_getElem_cons h3, h4] at h
  rw [← h]; simp
theorem pre_le {A T R : Bs} (h : A ++ T = R) : A.length ≤ R.length := by rw [← h]; simp

theorem sz1 (C : ByteArray) (c : UInt8) : (C ++ (⟨#[c]⟩ : ByteArray)).size = C.size + 1 := by rw [ByteArray.size_append]; rfl
theorem sz2 (C : ByteArray) (c d : UInt8) : (C ++ ((⟨#[c]⟩ : ByteArray) ++ ⟨#[d]⟩)).size = C.size + 2 := by rw [ByteArray.size_append]; rfl
theorem dt1 (C : ByteArray) (c : UInt8) : (C ++ (⟨#[c]⟩ : ByteArray)).data.toList = C.data.toList ++ [c] := by simp
theorem dt2 (C : ByteArray) (c d : UInt8) : (C ++ ((⟨#[c]⟩ : ByteArray) ++ ⟨#[d]⟩)).data.toList = C.data.toList ++ [c, d] := by simp
theorem dtE (C : ByteArray) (l : List UInt8) : (C ++ (⟨l.toArray⟩ : ByteArray)).data.toList = C.data.toList ++ l := by simp
theorem one_ext (X : ByteArray) (j : Nat) (c : UInt8) (h : X.data.toList[j]? = some c) : X.extract j (j + 1) = ⟨#[c]⟩ := by
  apply ba_ext
  obtain ⟨h1, h2⟩ := List.getElem?_eq_some_iff.1 h
  rw [ByteArray.data_extract, Array.toList_extract, List.extract_eq_take_drop]
  rw [List.drop_eq_getElem_cons h1, h2]
  simp
theorem escB_cases (c : UInt8) : (spec8.contains c = true ∧ escB c = [92, c]) ∨ (spec8.contains c = false ∧ escB c = 92 :: escL c ∧ ((c.toNat : Int) < 33 ∨ 126 < (c.toNat : Int))) ∨ (spec8.contains c = false ∧ escB c = [c] ∧ ¬ (c.toNat : Int) < 33 ∧ ¬ 126 < (c.toNat : Int)) := by
  unfold escB
  cases spec8.contains c with
  | true => exact .inl ⟨rfl, rfl⟩
  | false =>
    by_cases h : c.toNat < 33 ∨ 126 < c.toNat
    · exact .inr (.inl ⟨rfl, by rw [if_neg (by simp), if_pos h], by omega⟩)
    · exact .inr (.inr ⟨rfl, by rw [if_neg (by simp), if_neg h], by omega, by omega⟩)

set_option maxRecDepth 100000 in
set_option maxHeartbeats 4000000 in
theorem showName_yes (s : ByteArray) (ls : List Bs) (w : World) (h : IsN s.data.toList ls) (h0 : ls ≠ []) :
    Calls Tryz.prog 32 #[.string s] w fun e w' => e = .returned (.string ⟨(showL ls).toArray⟩) ∧ Below w.heap.size w w' := by
  obtain ⟨R, HR⟩ : ∃ R, Hid (showL ls = R) := ⟨_, Lib.hid rfl⟩
  have hR : R.length ≤ 1100 := by rw [← HR.out]; have := show_len ls; have := isN_room h; omega
  have HC : Hid ([] ++ showL (ls.drop 0) = R) := Lib.hid (by rw [← HR.out]; rfl)
  rw [HR.out]
  have hl := split_len h
  have hl0 : ((ls.length : Int) == 0) = false := by
    cases ls with
    | nil => exact absurd rfl h0
    | cons a b => simp; omega
  have L1 := Lib.hid h; clear h h0
  go_enter Tryz.func32, Tryz.ntmps32
  go_wp2_with fail
  refine (split_yes s ls _ L1.out).mono ?_
  rintro e w1 ⟨v1, rfl, hsv1, hB1⟩
  obtain ⟨a1, c1, rfl, hk1, hr1⟩ := sv_cap hsv1
  have HR1 := Lib.hid hr1
  clear hr1 hsv1
  go_wp2
  go_loopg [5, 21] (ls.length + 1) (fun gas sv kv wr => ∃ (k : Nat) (A : ByteArray), sv = .string A ∧ A.size ≤ 1100 ∧ kv = .int .i64 k ∧ k ≤ ls.length ∧ k + gas = ls.length + 1 ∧ Hid (A.data.toList ++ showL (ls.drop k) = R) ∧ Below w1.heap.size w1 wr)
  case atStart => exact ⟨0, _, rfl, by decide, rfl, by omega, by omega, HC, Below.refl _ _⟩
  case round =>
    obtain ⟨k, A, rfl, hA, rfl, hk, hkg, HW, hB⟩ := hrel
    obtain ⟨gk', hgk'⟩ : ∃ g, g = gk := ⟨_, rfl⟩
    rw [← hgk'] at hkg
    have HK := Lib.hid hkg; clear hkg
    by_cases hlt : k < ls.length
    · obtain ⟨x, hx⟩ : ∃ x, ls[k]? = some x := ⟨_, List.getElem?_eq_getElem hlt⟩
      obtain ⟨g1, o1, rfl, _, hg1, hcl1⟩ := HR1.out _ x hx
      have hcx := (hB.cell (p := ⟨g1, o1 + k, none⟩) hg1).trans hcl1
      have hxl := L1.out.2.1 x (List.mem_of_getElem? hx)
      have HG := Lib.hid (sh_go HW.out hx)
      clear hx hcl1
      unfold strV at hcx
      obtain ⟨X, hX⟩ : ∃ X : ByteArray, ⟨x.toArray⟩ = X := ⟨_, rfl⟩
      have hXx : x = X.data.toList := by rw [← hX]
      rw [hX] at hcx
      subst hXx
      clear hX
      rw [size_len] at hxl
      obtain ⟨hxl0, hxl1⟩ := hxl
      go_wp2
      go_loopg [5, 8] (X.size + 1) (fun gas sv jv wq => ∃ (j : Nat) (C : ByteArray), sv = .string C ∧ C.size ≤ 1100 ∧ jv = .int .i64 j ∧ j ≤ X.size ∧ j + gas = X.size + 1 ∧ Hid (C.data.toList ++ ((X.data.toList.drop j).flatMap escB ++ (46 :: showL (ls.drop (k + 1)))) = R) ∧ Below w1.heap.size w1 wq)
      case atStart => exact ⟨0, A, rfl, hA, rfl, by omega, by omega, HG, hB⟩
      case round =>
        obtain ⟨j, C, rfl, hC, rfl, hj, hjg, HV, hBq⟩ := hrel
        have HJ := Lib.hid hjg; clear hjg
        by_cases hjt : j < X.size
        · obtain ⟨c, hc⟩ : ∃ c, X[j] = c := ⟨_, rfl⟩
          have hcj : X.data.toList[j]? = some c := by rw [← hc]; exact List.getElem?_eq_getElem (by rw [size_len]; exact hjt)
          have HN := Lib.hid (in_go HV.out hcj)
          have hnl := pre_le HN.out
          have hX1 := one_ext X j c hcj
          obtain ⟨b, hb⟩ : ∃ b, spec8.contains c = b := ⟨_, rfl⟩
          have hE := escB_cases c
          rw [hb] at hE
          have HB := Lib.hid hb
          clear hb hcj
          go_wp2_with fail
          refine (among_any c _ _ (by decide)).mono ?_
          rintro e w2 ⟨rfl, hB2⟩
          have hBr := hBq.trans (hB2.mono hBq.size)
          rw [show (⟨#[46, 92, 34, 40, 41, 59, 64, 36]⟩ : ByteArray).data.toList.contains c = b from HB.out]
          rcases hE with ⟨rfl, hE⟩ | ⟨rfl, hE, hlo⟩ | ⟨rfl, hE, hlo, hhi⟩
          · rw [hE] at HN hnl
            have HM := HN; clear HN hE
            have hcs : C.size + 2 ≤ 1100 := by rw [List.length_append, size_len] at hnl; simp at hnl; omega
            clear hnl
            go_wp2
            have hjg := HJ.out
            go_roundg (gk - 1)
            case rel => exact ⟨j + 1, _, rfl, by rw [sz2]; exact hcs, by go_num, by omega, by omega, by rw [dt2]; exact HM, hBr⟩
            case measure => omega
          · rw [hE] at HN hnl
            have HM := HN; clear HN hE
            have hcs : C.size + 4 ≤ 1100 := by rw [List.length_append, size_len] at hnl; simp [escL] at hnl; omega
            clear hnl
            have ht4 : (⟨(92 :: escL c).toArray⟩ : ByteArray).size = 4 := rfl
            rcases hlo with hlo | hlo
            · have hlo' : decide ((c.toNat : Int) < 33) = true := by simpa using hlo
              go_wp2_with fail
              refine (escape_any c _).mono ?_
              rintro e w3 ⟨rfl, hB3⟩
              have hBs := hBr.trans (hB3.mono hBr.size)
              go_wp2
              have hjg := HJ.out
              go_roundg (gk - 1)
              case rel => exact ⟨j + 1, _, rfl, by rw [ByteArray.size_append, ht4]; exact hcs, by go_num, by omega, by omega, by rw [dtE]; exact HM, hBs⟩
              case measure => omega
            · have hlo' : ¬ (c.toNat : Int) < 33 := by omega
              go_wp2_with fail
              refine (escape_any c _).mono ?_
              rintro e w3 ⟨rfl, hB3⟩
              have hBs := hBr.trans (hB3.mono hBr.size)
              go_wp2
              have hjg := HJ.out
              go_roundg (gk - 1)
              case rel => exact ⟨j + 1, _, rfl, by rw [ByteArray.size_append, ht4]; exact hcs, by go_num, by omega, by omega, by rw [dtE]; exact HM, hBs⟩
              case measure => omega
          · rw [hE] at HN hnl
            have HM := HN; clear HN hE
            have hcs : C.size + 1 ≤ 1100 := by rw [List.length_append, size_len] at hnl; simp at hnl; omega
            clear hnl
            go_wp2
            have hjg := HJ.out
            go_roundg (gk - 1)
            case rel => exact ⟨j + 1, _, rfl, by rw [sz1]; exact hcs, by go_num, by omega, by omega, by rw [dt1]; exact HM, hBr⟩
            case measure => omega
        · have HN := Lib.hid (in_end HV.out (by rw [size_len]; omega))
          have hnl := pre_le HN.out
          have hcs : C.size + 1 ≤ 1100 := by rw [List.length_append, size_len] at hnl; simp at hnl; omega
          clear hnl
          go_wp2
          have hkg := HK.out
          go_roundg (gk' - 1)
          case rel => exact ⟨k + 1, _, rfl, by rw [sz1]; exact hcs, by go_num, by omega, by omega, by rw [dt1]; exact HN, hBq⟩
          case measure => omega
    · have HN := Lib.hid (sh_end HW.out (by omega))
      go_wp2
      go_ret
      exact ⟨ret_str (ba_ext HN.out), hB1.trans (hB.mono hB1.size)⟩
end Go.Proofs.YtjejmgdpjfdhjaaGreatDoor.showB
namespace Go.Proofs.YtjejmgdpjfdhjaaGreatDoor.dshow
open Go.Proofs.YtjejmgdpjfdhjaaGreatDoor.nspec Go.Proofs.YtjejmgdpjfdhjaaGreatDoor.bits Go.Proofs.YtjejmgdpjfdhjaaGreatDoor.fld Go.Proofs.YtjejmgdpjfdhjaaGreatDoor.tname Go.Proofs.YtjejmgdpjfdhjaaGreatDoor.to32 Go.Proofs.YtjejmgdpjfdhjaaGreatDoor.showA Go.Proofs.YtjejmgdpjfdhjaaGreatDoor.showB Go.Proofs.YtjejmgdpjfdhjaaGreatDoor.val
set_option linter.unusedVariables false

def set16 : List UInt8 := [48, 49, 50, 51, 52, 53, 54, 55, 56, 57, 97, 98, 99, 100, 101, 102]
def set64 : List UInt8 := [65, 66, 67, 68, 69, 70, 71, 72, 73, 74, 75, 76, 77, 78, 79, 80, 81, 82, 83, 84, 85, 86, 87, 88, 89, 90, 97, 98, 99, 100, 101, 102, 103, 104, 105, 106, 107, 108, 109, 110, 111, 112, 113, 114, 115, 116, 117, 118, 119, 120, 121, 122, 48, 49, 50, 51, 52, 53, 54, 55, 56, 57, 43, 47]
def quoteB (c : UInt8) : Bs := if c = 34 ∨ c = 92 then [92, c] else if c.toNat < 32 ∨ 126 < c.toNat then 92 :: escL c else [c]
def quoteS (d : Bs) : Bs := 34 :: (d.flatMap quoteB ++ [34])
def hexS (d : Bs) : Bs := enc 4 set16 (bitsL d)
def padS (s : Bs) : Bs := s ++ List.replicate ((4 - s.length % 4) % 4) 61
def b64S (d : Bs) : Bs := padS (enc 6 set64 (bitsL d))

theorem quoteB_len (c : UInt8) : (quoteB c).length ≤ 4 := by
  unfold quoteB; split
  · simp
  · split
    · simp [escL]
    · simp
theorem quote_len (d : Bs) : (d.flatMap quoteB).length ≤ 4 * d.length := by
  induction d with
  | nil => simp
  | cons c r ih => have := quoteB_len c; simp only [List.flatMap_cons, List.length_append, List.length_cons]; omega
theorem quoteS_len (d : Bs) : (quoteS d).length ≤ 4 * d.length + 2 := by
  have := quote_len d; simp only [quoteS, List.length_cons, List.length_append, List.length_nil]; omega

theorem tob_split (v n m : Nat) : tob v (n + m) = tob (v / 2 ^ m) n ++ tob v m := by
  have h := tob_append (v / 2 ^ m) (v % 2 ^ m) n m (Nat.mod_lt _ (Nat.two_pow_pos m))
  rw [Nat.div_add_mod', tob_mod v m m (Nat.le_refl _)] at h
  exact h
theorem hex_step (c : UInt8) (r : Bs) : hexS (c :: r) = [set16.getD (c.toNat / 16) 0, set16.getD (c.toNat % 16) 0] ++ hexS r := by
  have hc := c.toNat_lt
  unfold hexS
  rw [bits_cons, show (8 : Nat) = 4 + 4 from rfl, tob_split, List.append_assoc, enc_full _ _ _ (by omega) (tob_length _ _), enc_full _ _ _ (by omega) (tob_length _ _), ofb_tob, ofb_tob]
  rw [show c.toNat / 2 ^ 4 % 2 ^ 4 = c.toNat / 16 by omega]
  rfl
theorem hex_nil : hexS [] = [] := rfl
theorem hex_len (d : Bs) : (hexS d).length = 2 * d.length := by
  induction d with
  | nil => rfl
  | cons c r ih => rw [hex_step, List.length_append, ih]; simp; omega

def sext (v k : Nat) : UInt8 := set64.getD (v / 2 ^ (18 - 6 * k) % 64) 0
theorem b64_three (a b c : UInt8) (r : Bs) : b64S (a :: b :: c :: r) = [sext (valL [a, b, c] 0) 0, sext (valL [a, b, c] 0) 1, sext (valL [a, b, c] 0) 2, sext (valL [a, b, c] 0) 3] ++ b64S r := by
  have ha := a.toNat_lt; have hb := b.toNat_lt; have hc := c.toNat_lt
  have e : bitsL (a :: b :: c :: r) = tob (valL [a, b, c] 0) 24 ++ bitsL r := by
    simp only [bits_cons, valL]
    have e1 := tob_append (a.toNat * 256 + b.toNat) c.toNat 16 8 hc
    have e2 := tob_append a.toNat b.toNat 8 8 hb
    simp only [show (2 : Nat) ^ 8 = 256 from rfl] at e1 e2
    rw [show (0 * 256 + a.toNat) = a.toNat by omega, show (24 : Nat) = 16 + 8 from rfl, e1, show (16 : Nat) = 8 + 8 from rfl, e2]
    simp
  unfold b64S
  rw [e]
  obtain ⟨v, hv⟩ : ∃ v, valL [a, b, c] 0 = v := ⟨_, rfl⟩
  rw [hv, show (24 : Nat) = 6 + 18 from rfl, tob_split, show (18 : Nat) = 6 + 12 from rfl, tob_split v 6 12, show (12 : Nat) = 6 + 6 from rfl, tob_split v 6 6]
  simp only [List.append_assoc]
  rw [enc_full _ _ _ (by omega) (tob_length _ _), enc_full _ _ _ (by omega) (tob_length _ _), enc_full _ _ _ (by omega) (tob_length _ _), enc_full _ _ _ (by omega) (tob_length _ _)]
  simp only [ofb_tob]
  unfold padS sext
  simp only [List.length_cons, List.cons_append, List.nil_append]
  rw [show (enc 6 set64 (bitsL r)).length + 1 + 1 + 1 + 1 = (enc 6 set64 (bitsL r)).length + 4 by omega, Nat.add_mod_right]
  simp
theorem b64_two (a b : UInt8) : b64S [a, b] = [sext (valL [a, b, 0] 0) 0, sext (valL [a, b, 0] 0) 1, sext (valL [a, b, 0] 0) 2, 61] := by
  have ha := a.toNat_lt; have hb := b.toNat_lt
  have e : bitsL [a, b] = tob (a.toNat * 256 + b.toNat) 16 := by
    have e2 := tob_append a.toNat b.toNat 8 8 hb
    simp only [show (2 : Nat) ^ 8 = 256 from rfl] at e2
    rw [show (16 : Nat) = 8 + 8 from rfl, e2]; simp [bitsL]
  unfold b64S
  rw [e]
  obtain ⟨v, hv⟩ : ∃ v, a.toNat * 256 + b.toNat = v := ⟨_, rfl⟩
  have hvl : valL [a, b, 0] 0 = v * 256 := by simp only [valL]; rw [← hv]; simp
  rw [hv, hvl, show (16 : Nat) = 6 + 10 from rfl, tob_split, show (10 : Nat) = 6 + 4 from rfl, tob_split v 6 4]
  rw [enc_full _ _ _ (by omega) (tob_length _ _), enc_full _ _ _ (by omega) (tob_length _ _), enc_last _ _ (by rw [tob_length]; omega) (by rw [tob_length]; omega)]
  simp only [ofb_tob, tob_length]
  unfold padS sext
  have h1 : v / 2 ^ (6 + 4) % 2 ^ 6 = v * 256 / 2 ^ (18 - 6 * 0) % 64 := by omega
  have h2 : v / 2 ^ 4 % 2 ^ 6 = v * 256 / 2 ^ (18 - 6 * 1) % 64 := by omega
  have h3 : v % 2 ^ 4 * 2 ^ (6 - 4) = v * 256 / 2 ^ (18 - 6 * 2) % 64 := by omega
  rw [h1, h2, h3]; rfl
theorem b64_one (a : UInt8) : b64S [a] = [sext (valL [a, 0, 0] 0) 0, sext (valL [a, 0, 0] 0) 1, 61, 61] := by
  have ha := a.toNat_lt
  have e : bitsL [a] = tob a.toNat 8 := by simp [bitsL]
  unfold b64S
  rw [e]
  obtain ⟨v, hv⟩ : ∃ v, a.toNat = v := ⟨_, rfl⟩
  have hvl : valL [a, 0, 0] 0 = v * 65536 := by simp only [valL]; rw [← hv]; simp; omega
  rw [hv, hvl, show (8 : Nat) = 6 + 2 from rfl, tob_split]
  rw [enc_full _ _ _ (by omega) (tob_length _ _), enc_last _ _ (by rw [tob_length]; omega) (by rw [tob_length]; omega)]
  simp only [ofb_tob, tob_length]
  unfold padS sext
  have h1 : v / 2 ^ 2 % 2 ^ 6 = v * 65536 / 2 ^ (18 - 6 * 0) % 64 := by omega
  have h2 : v % 2 ^ 2 * 2 ^ (6 - 2) = v * 65536 / 2 ^ (18 - 6 * 1) % 64 := by omega
  rw [h1, h2]; rfl
theorem b64_nil : b64S [] = [] := rfl

/-- the words of a row of texts, one after the other -/
def textsF2 : Nat → Bs → List Bs
  | 0, _ => []
  | _ + 1, [] => []
  | f + 1, c :: r => quoteS (r.take c.toNat) :: textsF2 f (r.drop c.toNat)
def textsW (d : Bs) : List Bs := textsF2 (d.length + 1) d
theorem texts2_fuel : ∀ (f g : Nat) (d : Bs), d.length < f → d.length < g → textsF2 f d = textsF2 g d
  | 0, _, _, h, _ => by omega
  | _ + 1, 0, _, _, h => by omega
  | f + 1, g + 1, [], _, _ => rfl
  | f + 1, g + 1, c :: r, h1, h2 => by
    simp only [List.length_cons] at h1 h2
    simp only [textsF2]
    rw [texts2_fuel f g _ (by rw [List.length_drop]; omega) (by rw [List.length_drop]; omega)]
theorem textsW_cons (c : UInt8) (r : Bs) : textsW (c :: r) = quoteS (r.take c.toNat) :: textsW (r.drop c.toNat) := by
  unfold textsW
  rw [textsF2, texts2_fuel _ ((r.drop c.toNat).length + 1) _ (by rw [List.length_drop, List.length_cons]; omega) (by omega)]
theorem textsW_nil : textsW [] = [] := rfl

/-- an address of sixteen bytes -/
def hexNF : Nat → Nat → Bs
  | 0, _ => []
  | f + 1, n => if n < 16 then [set16.getD n 0] else hexNF f (n / 16) ++ [set16.getD (n % 16) 0]
def hexN (n : Nat) : Bs := hexNF 4 n
def group (d : Bs) (k : Nat) : Nat := (d.getD (2 * k) 0).toNat * 256 + (d.getD (2 * k + 1) 0).toNat
def zeroG (d : Bs) (k : Nat) : Bool := d.getD (2 * k) 0 == 0 && d.getD (2 * k + 1) 0 == 0
def zAt (z : List Bool) (k : Nat) : Bool := z.getD k false
/-- how many noughts stand from k on -/
def runZ (z : List Bool) : Nat → Nat → Nat
  | 0, _ => 0
  | f + 1, k => if k < 8 ∧ zAt z k = true then 1 + runZ z f (k + 1) else 0
def bestF (z : List Bool) : Nat → Nat → Int → Nat → Int × Nat
  | 0, _, a, m => (a, m)
  | f + 1, k, a, m => if m < runZ z 8 k then bestF z f (k + 1) k (runZ z 8 k) else bestF z f (k + 1) a m
def bestS (z : List Bool) : Int × Nat := bestF z 8 0 (-1) 1
def allZ (z : List Bool) (k m : Nat) : Bool := ((z.drop k).take m).all id
def tryM (z : List Bool) (k : Nat) : Nat → Nat → Nat × Nat → Nat × Nat
  | 0, _, p => p
  | f + 1, m, p => if k + m ≤ 8 then tryM z k f (m + 1) (if allZ z k m = true ∧ p.2 < m then (k, m) else p) else p
def refF (z : List Bool) : Nat → Nat → Nat × Nat → Nat × Nat
  | 0, _, p => p
  | f + 1, k, p => refF z f (k + 1) (tryM z k 8 2 p)
def refZ (z : List Bool) : Nat × Nat := refF z 8 0 (0, 0)
def agree (z : List Bool) : Bool :=
  (decide ((bestS z).1 = -1) && decide ((refZ z).2 = 0) && decide ((bestS z).2 = 1)) || (decide ((bestS z).1 = ((refZ z).1 : Int)) && decide ((bestS z).2 = (refZ z).2) && decide (2 ≤ (refZ z).2) && decide ((refZ z).1 + (refZ z).2 ≤ 8))
set_option maxRecDepth 100000 in
theorem agree_all : ∀ a b c d e f g h : Bool, agree [a, b, c, d, e, f, g, h] = true := by decide +kernel

def colon (h : List Bs) : Bs := match h with
  | [] => []
  | x :: r => x ++ r.flatMap (fun y => 58 :: y)
/-- how the code goes over the groups -/
def outF (h : List Bs) (a : Int) (m : Nat) : Nat → Nat → Bs
  | 0, _ => []
  | f + 1, k => if 8 ≤ k then [] else if (k : Int) = a then [58, 58] ++ outF h a m f (k + m) else (if 0 < k ∧ (k : Int) ≠ a + m then [58] else if 0 < k ∧ a < 0 then [58] else []) ++ h.getD k [] ++ outF h a m f (k + 1)
def outS (h : List Bs) (a : Int) (m : Nat) : Bs := outF h a m 9 0
def refOut (h : List Bs) (a m : Nat) : Bs := if m = 0 then colon h else colon (h.take a) ++ [58, 58] ++ colon (h.drop (a + m))
theorem out_none (h0 h1 h2 h3 h4 h5 h6 h7 : Bs) : outS [h0, h1, h2, h3, h4, h5, h6, h7] (-1) 1 = refOut [h0, h1, h2, h3, h4, h5, h6, h7] 0 0 := by
  simp [outS, outF, refOut, colon]
theorem out_some (h0 h1 h2 h3 h4 h5 h6 h7 : Bs) : ∀ a m : Nat, 2 ≤ m → a + m ≤ 8 → outS [h0, h1, h2, h3, h4, h5, h6, h7] (a : Int) m = refOut [h0, h1, h2, h3, h4, h5, h6, h7] a m := by
  intro a m h2 h8
  have ha : a = 0 ∨ a = 1 ∨ a = 2 ∨ a = 3 ∨ a = 4 ∨ a = 5 ∨ a = 6 := by omega
  have hm : m = 2 ∨ m = 3 ∨ m = 4 ∨ m = 5 ∨ m = 6 ∨ m = 7 ∨ m = 8 := by omega
  rcases ha with rfl | rfl | rfl | rfl | rfl | rfl | rfl <;> rcases hm with rfl | rfl | rfl | rfl | rfl | rfl | rfl <;> first | (exfalso; omega) | simp [outS, outF, refOut, colon]
def stripF : Nat → Bs → Bs
  | f + 1, c :: d :: r => if c = 48 then stripF f (d :: r) else c :: d :: r
  | _, l => l
def stripS (l : Bs) : Bs := stripF l.length l
def grpS (d : Bs) (k : Nat) : Bs := hexN (group d k)
def hs6 (d : Bs) : List Bs := (List.range 8).map (grpS d)
def zs6 (d : Bs) : List Bool := (List.range 8).map (zeroG d)
def ip6S (d : Bs) : Bs := outS (hs6 d) (bestS (zs6 d)).1 (bestS (zs6 d)).2
theorem nib (n : Nat) (h : n < 16) : set16.getD n 0 = 48 ↔ n = 0 := by
  have : ∀ n : Fin 16, set16.getD n.val 0 = 48 ↔ n.val = 0 := by decide
  exact this ⟨n, h⟩
theorem strip_hex (a b : UInt8) : stripS (hexS [a, b]) = hexN (a.toNat * 256 + b.toNat) := by
  have ha := a.toNat_lt; have hb := b.toNat_lt
  rw [hex_step, hex_step, hex_nil]
  obtain ⟨n, hn⟩ : ∃ n, a.toNat * 256 + b.toNat = n := ⟨_, rfl⟩
  have n1 : a.toNat / 16 = n / 4096 := by omega
  have n2 : a.toNat % 16 = n / 256 % 16 := by omega
  have n3 : b.toNat / 16 = n / 16 % 16 := by omega
  have n4 : b.toNat % 16 = n % 16 := by omega
  rw [n1, n2, n3, n4, hn]
  have k1 := nib (n / 4096) (by omega)
  have k2 := nib (n / 256 % 16) (by omega)
  have k3 := nib (n / 16 % 16) (by omega)
  have k4 := nib (n % 16) (by omega)
  by_cases h1 : n < 16
  · have e1 : n / 4096 = 0 := by omega
    have e2 : n / 256 % 16 = 0 := by omega
    have e3 : n / 16 % 16 = 0 := by omega
    have e4 : n % 16 = n := by omega
    rw [e1, e2, e3, e4]
    simp [stripS, stripF, hexN, hexNF, h1, set16]
  · by_cases h2 : n < 256
    · have e1 : n / 4096 = 0 := by omega
      have e2 : n / 256 % 16 = 0 := by omega
      have e3 : n / 16 % 16 = n / 16 := by omega
      have e5 : ¬ n / 16 = 0 := by omega
      have e6 : n / 16 < 16 := by omega
      rw [e3] at k3 ⊢
      have z3 : set16.getD (n / 16) 0 ≠ 48 := fun h => e5 (k3.1 h)
      have z1 : set16.getD 0 0 = (48 : UInt8) := rfl
      rw [e1, e2, z1]
      simp [stripS, stripF, hexN, hexNF, h1, e6]
      intro h; exact absurd h (by simpa using z3)
    · by_cases h3 : n < 4096
      · have e1 : n / 4096 = 0 := by omega
        have e2 : n / 256 % 16 = n / 256 := by omega
        have e5 : ¬ n / 256 = 0 := by omega
        have e6 : n / 16 / 16 < 16 := by omega
        have e7 : ¬ n / 16 < 16 := by omega
        have e8 : n / 16 / 16 = n / 256 := by omega
        rw [e2] at k2 ⊢
        have z2 : set16.getD (n / 256) 0 ≠ 48 := fun h => e5 (k2.1 h)
        have z1 : set16.getD 0 0 = (48 : UInt8) := rfl
        rw [e1, z1]
        rw [e8] at e6
        simp [stripS, stripF, hexN, hexNF, h1, e7, e8, e6]
        intro h; exact absurd h (by simpa using z2)
      · have e5 : ¬ n / 4096 = 0 := by omega
        have e7 : ¬ n / 16 < 16 := by omega
        have e8 : n / 16 / 16 = n / 256 := by omega
        have e9 : ¬ n / 256 < 16 := by omega
        have e10 : n / 256 / 16 = n / 4096 := by omega
        have e11 : n / 4096 < 16 := by omega
        have z1 : set16.getD (n / 4096) 0 ≠ 48 := fun h => e5 (k1.1 h)
        simp [stripS, stripF, hexN, hexNF, h1, e7, e8, e9, e10, e11]
        intro h; exact absurd h (by simpa using z1)

def ip4S (d : Bs) : Bs := Lib.decDigits (d.getD 0 0).toNat ++ [46] ++ Lib.decDigits (d.getD 1 0).toNat ++ [46] ++ Lib.decDigits (d.getD 2 0).toNat ++ [46] ++ Lib.decDigits (d.getD 3 0).toNat
def saltS (d : Bs) : Bs := if d.length = 1 then [45] else hexS (d.drop 1)
/-- the words of one field -/
def showF : Fld → Bs → List Bs
  | .num _, d => [Lib.decDigits (valL d 0)]
  | .ip4, d => [ip4S d]
  | .ip6, d => [ip6S d]
  | .host, d => [showS d]
  | .text, d => [quoteS (d.drop 1)]
  | .texts, d => textsW d
  | .tail, d => [quoteS d]
  | .hexes, d => [hexS d]
  | .b64, d => [b64S d]
  | .kind, d => [tnameS ((valL d 0 : Nat) : Int)]
  | .kinds, d => ((typesS d).getD []).map (fun t => tnameS ((t : Nat) : Int))
  | .salt, d => [saltS d]
  | .hash, d => [to32S (d.drop 1)]
def wordsL : List Fld → List Bs → List Bs
  | f :: fs, x :: p => showF f x ++ wordsL fs p
  | _, _ => []
def joinS : List Bs → Bs
  | [] => []
  | x :: r => x ++ r.flatMap (fun y => 32 :: y)
def showDS (t : Int) (d : Bs) : Bs := if checkS t d = 0 then (match formS t, partsS t d with | some fs, some p => joinS (wordsL fs p) | _, _ => [92, 35, 32] ++ Lib.decDigits d.length ++ (if d = [] then [] else 32 :: hexS d)) else []

/-- a part is what its field takes -/
def OkP (f : Fld) (x : Bs) : Prop := takeS f x = (x.length : Int)
theorem ok_text {c : UInt8} {r : Bs} (h : ¬ r.length < c.toNat) : textS ((c :: r).take (1 + c.toNat)) = 1 + (c.toNat : Int) := by
  rw [Nat.add_comm 1, List.take_succ_cons]
  simp only [textS, List.length_take]
  rw [if_neg (by omega)]
theorem texts_whole : ∀ (f at0 : Nat) (d : Bs), 0 ≤ textsF f at0 d → textsF f at0 d = (at0 : Int) + d.length
  | 0, at0, d, h => by simp [textsF] at h
  | f + 1, at0, [], h => by
    simp only [textsF] at h ⊢
    split at h
    · omega
    · rename_i h0; rw [if_neg h0]; simp
  | f + 1, at0, c :: r, h => by
    simp only [textsF] at h ⊢
    split at h
    · omega
    · rename_i h0
      rw [if_neg h0, texts_whole f _ _ h]
      rw [List.length_drop, List.length_cons]; omega
theorem host_part {d : Bs} {m : Nat} (h : hostS d = (m : Int)) : hostS (d.take m) = (m : Int) ∧ m ≤ d.length := by
  have hle := (hostS_le d).1
  unfold hostS at h
  cases hf : (List.range 256).find? (fun k => (split (d.take k)).isSome) with
  | none => rw [hf] at h; simp at h
  | some k =>
    rw [hf] at h
    have hkm : k = m := by have h' : (k : Int) = m := by simpa using h
                           omega
    subst hkm
    obtain ⟨h1, h2, h3⟩ := List.find?_range_eq_some.1 hf
    refine ⟨?_, by unfold hostS at hle; rw [hf] at hle; simpa using hle⟩
    have : (List.range 256).find? (fun j => (split ((d.take k).take j)).isSome) = some k := by
      rw [List.find?_range_eq_some]
      refine ⟨by rw [List.take_take, Nat.min_self]; exact h1, h2, fun j hj => ?_⟩
      rw [List.take_take, Nat.min_eq_left (by omega)]; exact h3 j hj
    unfold hostS
    rw [this]
theorem ok_take {f : Fld} {d : Bs} {m : Nat} (h : takeS f d = (m : Int)) : OkP f (d.take m) := by
  have hle := (takeS_le f d).1
  rw [h] at hle
  have hl : (d.take m).length = m := by rw [List.length_take]; omega
  unfold OkP
  rw [hl]
  have whole : m = d.length → takeS f (d.take m) = (m : Int) := fun e => by rw [e, List.take_length, ← e]; exact h
  cases f with
  | num k => simp only [takeS] at h ⊢; rw [hl]; split at h <;> split <;> omega
  | ip4 => simp only [takeS] at h ⊢; rw [hl]; split at h <;> split <;> omega
  | ip6 => simp only [takeS] at h ⊢; rw [hl]; split at h <;> split <;> omega
  | host => exact (host_part h).1
  | text =>
    cases d with
    | nil => simp only [takeS, textS] at h; omega
    | cons c r =>
      simp only [takeS, textS] at h
      split at h
      · omega
      · rename_i h0
        obtain rfl : m = 1 + c.toNat := by omega
        show textS _ = _
        rw [ok_text h0]; omega
  | salt =>
    cases d with
    | nil => simp only [takeS, textS] at h; omega
    | cons c r =>
      simp only [takeS, textS] at h
      split at h
      · omega
      · rename_i h0
        obtain rfl : m = 1 + c.toNat := by omega
        show textS _ = _
        rw [ok_text h0]; omega
  | hash =>
    cases d with
    | nil => simp [takeS] at h
    | cons c r =>
      simp only [takeS] at h ⊢
      split at h
      · omega
      · rename_i hz
        simp only [textS] at h
        split at h
        · omega
        · rename_i h0
          obtain rfl : m = 1 + c.toNat := by omega
          rw [if_neg, ok_text h0]
          · omega
          · rw [Nat.add_comm 1, List.take_succ_cons]
            simpa using hz
  | texts =>
    refine whole ?_
    simp only [takeS, textsS] at h
    have := texts_whole _ _ _ (by rw [h]; omega)
    omega
  | tail => exact whole (by simp only [takeS] at h; omega)
  | hexes =>
    refine whole ?_
    simp only [takeS, someS] at h
    split at h <;> omega
  | b64 =>
    refine whole ?_
    simp only [takeS, someS] at h
    split at h <;> omega
  | kind =>
    simp only [takeS] at h ⊢
    split at h
    · omega
    · rename_i hz
      obtain rfl : m = 2 := by omega
      have h2 : 2 ≤ d.length := by
        rcases Nat.lt_or_ge d.length 2 with h' | h'
        · exact absurd (Or.inl h') hz
        · exact h'
      match d, h2, hz with
      | a :: b :: r, _, hz =>
        rw [if_neg]; · rfl
        intro hc; apply hz
        rcases hc with hc | hc
        · simp at hc
        · exact .inr (by simpa using hc)
  | kinds =>
    refine whole ?_
    simp only [takeS] at h
    split at h <;> omega
theorem ok_parts : ∀ (fs : List Fld) (d : Bs) (p : List Bs) (r : Bs), splitS fs d = some (p, r) → ∀ (k : Nat) (f : Fld) (x : Bs), fs[k]? = some f → p[k]? = some x → OkP f x
  | [], d, p, r, h, k, f, x, hf, hx => by simp at hf
  | g :: fs, d, p, r, h, k, f, x, hf, hx => by
    simp only [splitS] at h
    split at h
    · cases h
    · rename_i hn
      cases hs : splitS fs (d.drop (takeS g d).toNat) with
      | none => rw [hs] at h; cases h
      | some q =>
        rw [hs] at h
        simp only [Option.map_some, Option.some.injEq, Prod.mk.injEq] at h
        obtain ⟨rfl, rfl⟩ := h
        cases k with
        | zero =>
          simp only [List.getElem?_cons_zero, Option.some.injEq] at hf hx
          subst hf; subst hx
          exact ok_take (m := (takeS g d).toNat) (by omega)
        | succ k =>
          simp only [List.getElem?_cons_succ] at hf hx
          exact ok_parts fs _ _ _ hs k f x hf hx

/-- how long words are, put together with blanks -/
def totW (ls : List Bs) : Nat := (ls.map (fun x => x.length + 1)).sum
theorem totW_nil : totW [] = 0 := rfl
theorem totW_cons (x : Bs) (r : List Bs) : totW (x :: r) = x.length + 1 + totW r := rfl
theorem totW_append (a b : List Bs) : totW (a ++ b) = totW a + totW b := by simp [totW]
theorem totW_count (ls : List Bs) : ls.length ≤ totW ls := by
  induction ls with
  | nil => simp
  | cons x r ih => rw [totW_cons, List.length_cons]; omega
theorem totW_mem {ls : List Bs} {x : Bs} (h : x ∈ ls) : x.length + 1 ≤ totW ls := by
  induction ls with
  | nil => cases h
  | cons y r ih =>
    rw [totW_cons]
    rcases List.mem_cons.1 h with rfl | h
    · omega
    · have := ih h; omega
theorem flat_len (r : List Bs) : (r.flatMap (fun y => (32 : UInt8) :: y)).length = totW r := by
  induction r with
  | nil => rfl
  | cons x r ih => rw [totW_cons, List.flatMap_cons, List.length_append, ih, List.length_cons]
theorem join_len (ls : List Bs) : (joinS ls).length ≤ totW ls := by
  cases ls with
  | nil => simp [joinS]
  | cons x r => rw [totW_cons]; simp only [joinS, List.length_append, flat_len]; omega
theorem valL_lt : ∀ (l : Bs) (v : Nat), valL l v < (v + 1) * 256 ^ l.length
  | [], v => by simp [valL]
  | c :: r, v => by
    have h := valL_lt r (v * 256 + c.toNat)
    have hc := c.toNat_lt
    rw [valL, List.length_cons, Nat.pow_succ]
    refine Nat.lt_of_lt_of_le h ?_
    rw [Nat.mul_comm (256 ^ r.length) 256, ← Nat.mul_assoc]
    exact Nat.mul_le_mul_right _ (by omega)
theorem valL_four {l : Bs} (h : l.length ≤ 4) : valL l 0 < 4294967296 := by
  have h1 := valL_lt l 0
  have h2 : 256 ^ l.length ≤ 256 ^ 4 := Nat.pow_le_pow_right (by omega) h
  omega
theorem valL_two {l : Bs} (h : l.length ≤ 2) : valL l 0 < 65536 := by
  have h1 := valL_lt l 0
  have h2 : 256 ^ l.length ≤ 256 ^ 2 := Nat.pow_le_pow_right (by omega) h
  omega
theorem dec_byte (c : UInt8) : (Lib.decDigits c.toNat).length ≤ 3 := dec_len 2 _ (by have := c.toNat_lt; omega)
theorem ip4_len (d : Bs) : (ip4S d).length ≤ 15 := by
  have h0 := dec_byte (d.getD 0 0); have h1 := dec_byte (d.getD 1 0); have h2 := dec_byte (d.getD 2 0); have h3 := dec_byte (d.getD 3 0)
  simp only [ip4S, List.length_append, List.length_cons, List.length_nil]; omega
theorem hexN_len (n : Nat) : 1 ≤ (hexN n).length ∧ (hexN n).length ≤ 4 := by
  have h : ∀ f n, (hexNF f n).length ≤ f := by
    intro f
    induction f with
    | zero => intro n; simp [hexNF]
    | succ f ih => intro n; simp only [hexNF]; split
                   · simp
                   · have := ih (n / 16); simp; exact this
  refine ⟨?_, h 4 n⟩
  unfold hexN
  rw [hexNF]; split
  · simp
  · simp
theorem outF_len (h : List Bs) (hh : ∀ x ∈ h, x.length ≤ 4) (a : Int) (m : Nat) : ∀ f k, (outF h a m f k).length ≤ 5 * f
  | 0, k => by simp [outF]
  | f + 1, k => by
    have h1 := outF_len h hh a m f (k + m)
    have h2 := outF_len h hh a m f (k + 1)
    have h3 : (h.getD k []).length ≤ 4 := by
      rw [List.getD]
      cases e : h[k]? with
      | none => simp
      | some x => exact hh x (List.mem_of_getElem? e)
    simp only [outF]
    split
    · simp
    · split
      · simp only [List.length_append, List.length_cons, List.length_nil]; omega
      · simp only [List.length_append]
        split
        · simp only [List.length_cons, List.length_nil]; omega
        · split
          · simp only [List.length_cons, List.length_nil]; omega
          · simp only [List.length_nil]; omega
theorem hs6_len (d : Bs) : ∀ x ∈ hs6 d, x.length ≤ 4 := by
  intro x hx
  obtain ⟨k, _, rfl⟩ := List.mem_map.1 hx
  exact (hexN_len _).2
theorem ip6_len (d : Bs) : (ip6S d).length ≤ 45 := outF_len _ (hs6_len d) _ _ _ _
theorem mnem_len (t : Int) : (mnemS t).length ≤ 10 := by
  unfold mnemS
  cases h : mnemL.find? (·.1 == t) with
  | none => simp
  | some p =>
    have hm := List.mem_of_find?_eq_some h
    have : ∀ p ∈ mnemL, p.2.length ≤ 10 := by decide
    exact this p hm
theorem tname_len (t : Int) : (tnameS t).length ≤ 10 := by
  have h := mnem_len t
  unfold tnameS
  split
  · split
    · simp
    · rename_i ht
      have := itoa_len (t := t) (by omega) (by omega)
      simp; omega
  · exact h
theorem pick_len (b : Nat) : ∀ (l : List Nat) (k : Nat), (pickL b k l).length ≤ l.length
  | [], k => by simp [pickL]
  | x :: l, k => by
    have := pick_len b l (k + 1)
    simp only [pickL]; split
    · simp only [List.length_cons]; omega
    · simp only [List.length_cons]; omega
theorem types_len : ∀ (f : Nat) (last : Int) (out : List Nat) (d : Bs) (l : List Nat), typesF f last out d = some l → l.length ≤ out.length + 8 * d.length
  | 0, last, out, d, l, h => by simp [typesF] at h
  | f + 1, last, out, [], l, h => by
    have e : out = l := by simpa [typesF] using h
    rw [← e]; omega
  | f + 1, last, out, [b], l, h => by simp [typesF] at h
  | f + 1, last, out, b :: n :: m, l, h => by
    simp only [typesF] at h
    split at h
    · cases h
    · have h1 := types_len f _ _ _ _ h
      have h2 := pick_len b.toNat (bitsL (m.take n.toNat)) 0
      rw [bitsL_len] at h2
      rw [List.length_append, List.length_drop] at h1
      rw [List.length_take] at h2
      unfold blockL at h1
      simp only [List.length_cons]; omega
theorem types_count {d : Bs} {l : List Nat} (h : typesS d = some l) : l.length ≤ 8 * d.length := by
  unfold typesS at h
  cases e : typesF (d.length + 1) (-1) [] d with
  | none => rw [e] at h; cases h
  | some l' =>
    rw [e] at h
    simp only at h
    split at h
    · cases h
    · have : l' = l := by simpa using h
      subst this
      have := types_len _ _ _ _ _ e
      simpa using this
theorem pad_len (s : Bs) : (padS s).length ≤ s.length + 3 := by simp only [padS, List.length_append, List.length_replicate]; omega
theorem showS_len (d : Bs) : (showS d).length ≤ 1100 := by
  unfold showS
  split
  · simp
  · simp
  · rename_i ls h1 h2
    have hN := split_iff.1 h2
    have hr := isN_room hN
    have := show_len ls
    omega
theorem textsW_len : ∀ (f : Nat) (d : Bs), d.length < f → 0 ≤ textsF f 1 d → totW (textsF2 f d) ≤ 4 * d.length
  | 0, d, h, _ => by omega
  | f + 1, [], h, _ => by simp [textsF2, totW]
  | f + 1, c :: r, h, h0 => by
    simp only [List.length_cons] at h ⊢
    simp only [textsF] at h0
    split at h0
    · omega
    · rename_i hc
      have hany : ∀ (f : Nat) (a b : Nat) (d : Bs), 1 ≤ a → 1 ≤ b → 0 ≤ textsF f a d → 0 ≤ textsF f b d := by
        intro f
        induction f with
        | zero => intro a b d _ _ h; simp [textsF] at h
        | succ f ih =>
          intro a b d ha hb h
          cases d with
          | nil => simp only [textsF]; rw [if_neg (by omega)]; omega
          | cons c r =>
            simp only [textsF] at h ⊢
            split at h
            · omega
            · rename_i hc; rw [if_neg hc]; exact ih _ _ _ (by omega) (by omega) h
      have h1 := textsW_len f (r.drop c.toNat) (by rw [List.length_drop]; omega) (hany _ _ _ _ (by omega) (by omega) h0)
      have h2 := quoteS_len (r.take c.toNat)
      rw [List.length_take] at h2
      rw [List.length_drop] at h1
      rw [textsF2, totW_cons]
      omega
def Num4 (f : Fld) : Prop := ∀ k, f = .num k → k ≤ 4
theorem show_tot {f : Fld} {x : Bs} (h : OkP f x) (h4 : Num4 f) : totW (showF f x) ≤ 1200 + 100 * x.length := by
  have one : ∀ y : Bs, totW [y] = y.length + 1 := fun y => rfl
  unfold OkP at h
  cases f with
  | num k =>
    have hk := h4 k rfl
    simp only [takeS] at h
    have hl : x.length ≤ 4 := by split at h <;> omega
    have := dec_len 9 (valL x 0) (by have := valL_four hl; omega)
    rw [showF, one]; omega
  | ip4 => have := ip4_len x; rw [showF, one]; omega
  | ip6 => have := ip6_len x; rw [showF, one]; omega
  | host => have := showS_len x; rw [showF, one]; omega
  | text => have := quoteS_len (x.drop 1); rw [List.length_drop] at this; rw [showF, one]; omega
  | texts =>
    cases x with
    | nil => simp [showF, textsW, textsF2, totW]
    | cons c r =>
      have h0 : 0 ≤ textsF ((c :: r).length + 1) 1 (c :: r) := by
        simp only [takeS, textsS, textsF] at h ⊢
        split at h
        · omega
        · rename_i hc
          rw [if_neg hc]
          have hany : ∀ (f : Nat) (a b : Nat) (d : Bs), 1 ≤ a → 1 ≤ b → 0 ≤ textsF f a d → 0 ≤ textsF f b d := by
            intro f
            induction f with
            | zero => intro a b d _ _ h; simp [textsF] at h
            | succ f ih =>
              intro a b d ha hb h
              cases d with
              | nil => simp only [textsF]; rw [if_neg (by omega)]; omega
              | cons c r =>
                simp only [textsF] at h ⊢
                split at h
                · omega
                · rename_i hc; rw [if_neg hc]; exact ih _ _ _ (by omega) (by omega) h
          exact hany _ (0 + (1 + c.toNat)) (1 + (1 + c.toNat)) _ (by omega) (by omega) (by rw [h]; exact Int.natCast_nonneg _)
      have := textsW_len _ _ (by omega) h0
      rw [showF]; unfold textsW; omega
  | tail => have := quoteS_len x; rw [showF, one]; omega
  | hexes => have := hex_len x; rw [showF, one]; omega
  | b64 =>
    have h1 := pad_len (enc 6 set64 (bitsL x))
    have h2 := enc_len 6 set64 (by omega) (bitsL x)
    rw [bitsL_len] at h2
    rw [showF, one]; unfold b64S; omega
  | kind => have := tname_len ((valL x 0 : Nat) : Int); rw [showF, one]; omega
  | kinds =>
    rw [showF]
    cases e : typesS x with
    | none => simp [totW]
    | some l =>
      have h1 := types_count e
      have h2 : ∀ l : List Nat, totW (l.map (fun t => tnameS ((t : Nat) : Int))) ≤ 11 * l.length := by
        intro l
        induction l with
        | nil => simp [totW]
        | cons t r ih => have := tname_len ((t : Nat) : Int); rw [List.map_cons, totW_cons, List.length_cons]; omega
      have := h2 l
      simp only [Option.getD_some]; omega
  | salt =>
    rw [showF, one]
    unfold saltS
    split
    · simp; omega
    · have := hex_len (x.drop 1); rw [List.length_drop] at this; omega
  | hash =>
    have h2 := enc_len 5 set32 (by omega) (bitsL (x.drop 1))
    rw [bitsL_len, List.length_drop] at h2
    rw [showF, one]; unfold to32S; omega
theorem words_go {A : List Bs} {R : List Bs} {fs : List Fld} {p : List Bs} {k : Nat} {f : Fld} {x : Bs} (h : A ++ wordsL (fs.drop k) (p.drop k) = R) (hf : fs[k]? = some f) (hx : p[k]? = some x) : (A ++ showF f x) ++ wordsL (fs.drop (k + 1)) (p.drop (k + 1)) = R := by
  obtain ⟨h1, h2⟩ := List.getElem?_eq_some_iff.1 hf
  obtain ⟨h3, h4⟩ := List.getElem?_eq_some_iff.1 hx
  rw [List.drop_eq_getElem_cons h1, h2, List.drop_eq_getElem_cons h3, h4, wordsL] at h
  rw [← h]; simp
end Go.Proofs.YtjejmgdpjfdhjaaGreatDoor.dshow
namespace Go.Proofs.YtjejmgdpjfdhjaaGreatDoor.ints
open Go.RowKit Go.Proofs.YtjejmgdpjfdhjaaGreatDoor.kit Go.Proofs.YtjejmgdpjfdhjaaGreatDoor.bits

theorem infoInt : (Tryz.prog.info? 3).map (fun i => (i.zero, i.size, i.bytes)) = some (some (.int .i64 0), 1, 8) := by kernel_rfl
def bitV (x : Nat) : Value := .int .i64 (x : Int)

/-- a list of numbers can be read from address a on -/
def RdN (w : World) (a : Option Addr) (ls : List Nat) : Prop :=
  ∀ (j : Nat) (x : Nat), ls[j]? = some x → ∃ g o, a = some ⟨g, o, none⟩ ∧ g < w.heap.size ∧ w.cell? ⟨g, o + j, none⟩ = some (bitV x)
theorem RdN.nil (w : World) (a : Option Addr) : RdN w a [] := by intro j x h; simp at h
theorem RdN.below {w w' : World} {a : Option Addr} {B : Nat} {ls : List Nat} (h : RdN w a ls) (hB : Below B w w') (hz : B = w.heap.size) : RdN w' a ls := by
  intro j x hx
  obtain ⟨g, o, h1, h3, h4⟩ := h j x hx
  exact ⟨g, o, h1, Nat.lt_of_lt_of_le h3 hB.size, (hB.cell (p := ⟨g, o + j, none⟩) (by rw [hz]; exact h3)).trans h4⟩
theorem RdN.of_own {w : World} {base : Nat} {v : Value} {ls : List Nat} (h : w.ownsRow base 3 1 v ls.length (ls.map bitV)) : ∃ a c, v = .slice a ls.length c ∧ ls.length ≤ c ∧ c ≤ maxLen ∧ RdN w a ls := by
  rcases h.2 with ⟨rfl, h0⟩ | ⟨g, cap, cur, rfl, hb, hg, h1, h2, _, htake⟩
  · have : ls = [] := List.eq_nil_of_length_eq_zero h0
    subst this
    exact ⟨none, 0, rfl, Nat.le_refl _, Nat.zero_le _, RdN.nil _ _⟩
  · refine ⟨_, cap, rfl, h1, h2, ?_⟩
    intro j x hx
    refine ⟨g, 0, rfl, (Array.getElem?_eq_some_iff.1 hg).1, ?_⟩
    have := h.cells (g := g) rfl j (bitV x) (by rw [List.getElem?_map, hx]; rfl)
    have hadd : (⟨g, 0, none⟩ : Addr).add j = ⟨g, 0 + j, none⟩ := by unfold Addr.add; split <;> simp_all
    rw [hadd] at this
    exact this
theorem RdN.drop {w : World} {g o : Nat} {ls : List Nat} (h : RdN w (some ⟨g, o, none⟩) ls) (k : Nat) : RdN w (some ⟨g, o + k, none⟩) (ls.drop k) := by
  intro j x hx
  rw [List.getElem?_drop] at hx
  obtain ⟨g', o', h1, h2, h3⟩ := h _ x hx
  cases h1
  exact ⟨g, o + k, rfl, h2, by rw [Nat.add_assoc]; exact h3⟩
theorem RdN.addr {w : World} {a : Option Addr} {ls : List Nat} (h : RdN w a ls) (hl : 0 < ls.length) : ∃ g o, a = some ⟨g, o, none⟩ := by
  obtain ⟨g, o, h1, _⟩ := h 0 _ (List.getElem?_eq_getElem hl)
  exact ⟨g, o, h1⟩
theorem own_snocN {w1 : World} {base : Nat} {v' : Value} {acc : List Nat} {d : Nat} (h : w1.ownsRow base 3 1 v' (acc.length + 1) (acc.map bitV ++ [.int .i64 (d : Int)])) : w1.ownsRow base 3 1 v' (acc ++ [d]).length ((acc ++ [d]).map bitV) := by
  simpa [bitV] using h

/-- the mark of the highest of r bits -/
def mOf : Nat → Nat
  | 0 => 0
  | r + 1 => 2 ^ r
theorem mOf_half (r : Nat) : mOf (r + 1) / 2 = mOf r := by
  cases r with
  | zero => rfl
  | succ r => show 2 ^ (r + 1) / 2 = 2 ^ r; rw [Nat.pow_succ]; omega
theorem mOf_pos (r : Nat) : 1 ≤ mOf (r + 1) := Nat.two_pow_pos r
theorem mOf_le (r : Nat) (h : r ≤ 8) : mOf r ≤ 128 := by
  cases r with
  | zero => exact Nat.zero_le _
  | succ r => exact Nat.pow_le_pow_right (n := 2) (by omega) (show r ≤ 7 by omega)
theorem bit_step {v r : Nat} {A l R : List Nat} (h : A ++ (tob v (r + 1) ++ l) = R) : (A ++ [v / mOf (r + 1) % 2]) ++ (tob v r ++ l) = R := by
  rw [← h]; simp [tob, mOf]
theorem bit_done {v : Nat} {A l R : List Nat} (h : A ++ (tob v 0 ++ l) = R) : A ++ l = R := by
  rw [← h]; simp [tob]

set_option maxRecDepth 100000 in
set_option maxHeartbeats 2000000 in
theorem bits_own (s : ByteArray) (w : World) (hs : s.size ≤ 1099511627776) :
    Calls Tryz.prog 41 #[.string s] w fun e w' => ∃ v, e = .returned v ∧ w'.ownsRow w.heap.size 3 1 v (bitsL s.data.toList).length ((bitsL s.data.toList).map bitV) ∧ Below w.heap.size w w' := by
  obtain ⟨i0, hi, hz0, hz1, hz2⟩ := info_parts infoInt
  obtain ⟨R, HR⟩ : ∃ R, Hid (bitsL s.data.toList = R) := ⟨_, Lib.hid rfl⟩
  have hRl : R.length = 8 * s.size := by rw [← HR.out, bitsL_len, size_len]
  have HRL := Lib.hid hRl; clear hRl
  rw [HR.out]
  go_enter Tryz.func41, Tryz.ntmps41
  go_wp2
  go_loopg [3, 4, 5] (s.size + 1) (fun gas ov kv _ wr => ∃ (k : Nat) (A : List Nat), kv = .int .i64 k ∧ k ≤ s.size ∧ k + gas = s.size + 1 ∧ Hid (A ++ bitsL (s.data.toList.drop k) = R) ∧ wr.ownsRow w.heap.size 3 1 ov A.length (A.map bitV) ∧ Below w.heap.size w wr)
  case atStart => exact ⟨0, [], rfl, by omega, by omega, HR, World.ownsRow_nil _ _ _ _, Below.refl _ _⟩
  case round =>
    obtain ⟨k, A, rfl, hk, hkg, HW, hA, hB⟩ := hrel
    obtain ⟨gk', hgk'⟩ : ∃ g, g = gk := ⟨_, rfl⟩
    rw [← hgk'] at hkg
    have HK := Lib.hid hkg; clear hkg
    by_cases hlt : k < s.size
    · have hc256 := byte_lt s[k]
      obtain ⟨C, hC⟩ : ∃ C : Nat, s[k].toNat = C := ⟨_, rfl⟩
      have HSTEP : Hid (A ++ (tob C 8 ++ bitsL (s.data.toList.drop (k + 1))) = R) := Lib.hid (by
        have h1 := HW.out
        rw [drop_cons s k hlt, bits_cons, hC] at h1
        exact h1)
      go_wp2
      go_loopg [3, 5] 9 (fun gas ov mv wq => ∃ (r : Nat) (A : List Nat) (M : Nat), mv = .int .i64 M ∧ Hid (M = mOf r) ∧ r ≤ 8 ∧ r < gas ∧ Hid (A ++ (tob C r ++ bitsL (s.data.toList.drop (k + 1))) = R) ∧ wq.ownsRow w.heap.size 3 1 ov A.length (A.map bitV) ∧ Below w.heap.size w wq)
      case atStart => exact ⟨8, A, 128, rfl, Lib.hid rfl, by omega, by omega, HSTEP, hA, hB⟩
      case round =>
        clear hA hB HW
        obtain ⟨r, A', M, rfl, HM, hr, hrg, HV, hA', hB'⟩ := hrel
        cases r with
        | succ r =>
          have hM1 : (1 : Int) ≤ (M : Int) := by have := mOf_pos r; have := HM.out; omega
          have hMl : (M : Int) ≤ 128 := by have := mOf_le (r + 1) hr; have := HM.out; omega
          obtain ⟨M', hM'⟩ : ∃ M', M / 2 = M' := ⟨_, rfl⟩
          have HM' : Hid (M' = mOf r) := Lib.hid (by rw [← hM', HM.out, mOf_half])
          have hm2 : Value.int .i64 ((M : Int) / 2) = Value.int .i64 (M' : Int) := by congr 1; omega
          have HMM := Lib.hid hM'; clear hM'
          obtain ⟨q, hqq⟩ : ∃ q, C / M = q := ⟨_, rfl⟩
          have hq255 : (q : Int) ≤ 255 := by have := Nat.div_le_self C M; omega
          obtain ⟨d, hd⟩ : ∃ d, q % 2 = d := ⟨_, rfl⟩
          have HD : Hid ((A' ++ [d]) ++ (tob C r ++ bitsL (s.data.toList.drop (k + 1))) = R) := Lib.hid (by
            have h1 := bit_step HV.out
            rw [← HM.out, hqq, hd] at h1; exact h1)
          have hqv : Value.int .i64 (wrap64 ((s[k].toNat : Int) / (M : Int))) = Value.int .i64 (q : Int) := by
            have e : (s[k].toNat : Int) / (M : Int) = (q : Int) := by rw [← hqq, ← hC]; simp
            rw [e, IntWalk.wrap64_in _ (by omega)]
          have hdv : Value.int .i64 ((q : Int) % 2) = Value.int .i64 (d : Int) := by congr 1; omega
          have hAl : A'.length ≤ R.length := by rw [← HV.out]; simp
          have hRl := HRL.out
          have hAs : A'.length + 1 ≤ 8 * 1099511627776 + 1 := by omega
          have hsz := hB'.size
          clear hd hRl hC hqq
          go_wp2_with (at_builtin; refine wpList_append_own _ rfl _ _ 83 rfl w.heap.size 3 i0 (.int .i64 0) 1 8 Tryz.underlying83 hi hz0 hz1 hz2 rfl (by decide) _ _ _ rfl (hA'.alloc _) ⟨wr.heap.size, 0, none⟩ 1 1 [.int .i64 (d : Int)] rfl rfl ?c1 ?c2 ?c3 ?c4 ?c5 ?_)
          case c2 => simp [Value.oneCell']
          case c3 => unfold maxLen; omega
          case c4 => omega
          case c5 => omega
          intro v' w1 hown' hgrow _
          have hown2 := own_snocN hown'
          have hB2 := below_append hB' hsz hA' hgrow
          clear hown' hgrow hA' hqv hdv
          go_wp2
          go_roundg (gk - 1)
          case rel => exact ⟨r, _, _, rfl, HM', by omega, by omega, HD, hown2, hB2⟩
          case measure => omega
        | zero =>
          have hM0 : (M : Int) = 0 := by rw [HM.out]; rfl
          have hMd : decide (0 < (M : Int)) = false := by rw [hM0]; rfl
          have hm0 : M = 0 := by omega
          clear hM0
          subst hm0
          have HN := Lib.hid (bit_done HV.out)
          go_wp2
          have hkg := HK.out
          go_roundg (gk' - 1)
          case rel => exact ⟨k + 1, A', by go_num, by omega, by omega, HN, hA', hB'⟩
          case measure => omega
    · have HN := HW.out
      rw [drop_end s k (by omega)] at HN
      have e : A = R := by rw [← HN]; simp [bitsL]
      rw [e] at hA
      have HE := Lib.hid e
      clear e HN
      go_wp2
      go_ret
      exact ⟨_, rfl, hA, hB⟩
theorem bits_any (s : ByteArray) (w : World) (hs : s.size ≤ 1099511627776) :
    Calls Tryz.prog 41 #[.string s] w fun e w' => ∃ a c, e = .returned (.slice a (bitsL s.data.toList).length c) ∧ (bitsL s.data.toList).length ≤ c ∧ c ≤ maxLen ∧ RdN w' a (bitsL s.data.toList) ∧ Below w.heap.size w w' :=
  (bits_own s w hs).mono fun e w' ⟨v, h1, h2, h3⟩ => by
    obtain ⟨a, c, rfl, hc1, hc2, hrd⟩ := RdN.of_own h2
    exact ⟨a, c, h1, hc1, hc2, hrd, h3⟩
end Go.Proofs.YtjejmgdpjfdhjaaGreatDoor.ints

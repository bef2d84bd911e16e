/- name.Join, the reference's Join: walks. -/
import Derived.Test.YthblaldkpjilhaaBuilder
import Derived.Test.YthblaldkpjilhaaRefCmp
namespace Go.Proofs.Ythblaldkpjilhaa.join
open Go.RowKit Go.Proofs.Ythblaldkpjilhaa.kit Go.Proofs.Ythblaldkpjilhaa.check Go.Proofs.Ythblaldkpjilhaa.nspec Go.Proofs.Ythblaldkpjilhaa.rsplit Go.Proofs.Ythblaldkpjilhaa.refA Go.Proofs.Ythblaldkpjilhaa.bld Go.Proofs.Ythblaldkpjilhaa.rcmp Go.Proofs.Ythblaldkpjilhaa.rput

def badB (x : Bs) : Bool := decide (x.length < 1) || decide (63 < x.length)
theorem badB_no {x : Bs} : badB x = false ↔ 1 ≤ x.length ∧ x.length ≤ 63 := by
  unfold badB; rw [Bool.or_eq_false_iff, decide_eq_false_iff_not, decide_eq_false_iff_not]; omega
theorem badB_yes {x : Bs} (h : x.length < 1 ∨ 63 < x.length) : badB x = true := by
  unfold badB; rw [Bool.or_eq_true, decide_eq_true_eq, decide_eq_true_eq]; exact h
def badL (ls : List Bs) : Bool := ls.any badB
def joinS (ls : List Bs) : Bs × Int := if badL ls then ([], 3) else if 254 < room ls then ([], 4) else (put ls, 0)
theorem bad_ok {ls : List Bs} : badL ls = false ↔ okL ls := by
  unfold badL okL
  rw [List.any_eq_false]
  constructor
  · intro h x hx; exact badB_no.1 (by simpa using h x hx)
  · intro h x hx; rw [badB_no.2 (h x hx)]; simp
theorem bad_at {ls : List Bs} {k : Nat} {x : Bs} (h : ls[k]? = some x) (hx : badB x = true) : badL ls = true := by
  unfold badL; rw [List.any_eq_true]; exact ⟨x, List.mem_of_getElem? h, hx⟩
theorem take_room {ls : List Bs} {k : Nat} {x : Bs} (h : ls[k]? = some x) : room (ls.take (k + 1)) = room (ls.take k) + (x.length + 1) := by
  rw [List.take_add_one, h]; simp [room]
theorem take_bad {ls : List Bs} {k : Nat} {x : Bs} (h : ls[k]? = some x) (hb : badL (ls.take k) = false) (hx : badB x = false) : badL (ls.take (k + 1)) = false := by
  rw [List.take_add_one, h]; unfold badL at *; simp [hb, hx]
theorem join_bad {ls : List Bs} (h : badL ls = true) : joinS ls = ([], 3) := by unfold joinS; rw [if_pos h]
theorem join_long {ls : List Bs} (h : badL ls = false) (h2 : 254 < room ls) : joinS ls = ([], 4) := by unfold joinS; rw [h, if_neg (by simp), if_pos h2]
theorem join_ok {ls : List Bs} (h : badL ls = false) (h2 : ¬ 254 < room ls) : joinS ls = (put ls, 0) := by unfold joinS; rw [h, if_neg (by simp), if_neg h2]
def RetJ (r : Bs × Int) : Ending := .returned (.tuple #[.string ⟨r.1.toArray⟩, .int .i64 r.2])

theorem put_take {ls : List Bs} {k : Nat} {x : Bs} (h : ls[k]? = some x) : flat (ls.take (k + 1)) = flat (ls.take k) ++ (UInt8.ofNat x.length :: x) := by
  rw [List.take_add_one, h]; simp [flat]

set_option maxRecDepth 100000 in
set_option maxHeartbeats 4000000 in
theorem njoin_any (a : Option Addr) (c : Nat) (ls : List Bs) (w : World) (hr : Rd w a 0 ls) (hl : ls.length ≤ 1048576) (_hc : ls.length ≤ c) :
    Calls Try.prog 21 #[.slice a ls.length c] w fun e w' => e = RetJ (joinS ls) ∧ Below w.heap.size w w' := by
  obtain ⟨R, HR⟩ : ∃ R, Hid (joinS ls = R) := ⟨_, Lib.hid rfl⟩
  rw [HR.out]
  have H := Lib.hid hr
  clear hr
  go_enter Try.func21, Try.ntmps21
  go_wp2
  go_loopg [4, 12] (ls.length + 1) (fun gas zv kv wr => ∃ (k : Nat) (z : Int), zv = .int .i64 z ∧ kv = .int .i64 k ∧ 0 ≤ z ∧ z ≤ 256 ∧ k ≤ ls.length ∧ k + gas = ls.length + 1 ∧ Hid (z = min (1 + (room (ls.take k) : Int)) 256) ∧ Hid (badL (ls.take k) = false) ∧ Below w.heap.size w wr)
  case atStart => exact ⟨0, 1, rfl, rfl, by omega, by omega, by omega, by omega, Lib.hid rfl, Lib.hid rfl, Below.refl _ _⟩
  case round =>
    obtain ⟨k, z, rfl, rfl, hz0, hz1, hk, hkg, HZ, HW, hB⟩ := hrel
    have HK := Lib.hid hkg; clear hkg
    by_cases hlt : k < ls.length
    · obtain ⟨x, hx⟩ : ∃ x, ls[k]? = some x := ⟨_, List.getElem?_eq_getElem hlt⟩
      obtain ⟨g1, o1, rfl, _, hg1, hcl1⟩ := H.out _ x hx
      have hcx := (hB.cell (p := ⟨g1, o1 + k, none⟩) hg1).trans hcl1
      have HX := Lib.hid hx
      clear hx hcl1
      unfold strV at hcx
      obtain ⟨X, hX⟩ : ∃ X : ByteArray, ⟨x.toArray⟩ = X := ⟨_, rfl⟩
      have hXx : x = X.data.toList := by rw [← hX]
      rw [hX] at hcx
      subst hXx
      clear hX
      by_cases h1 : (X.size : Int) < 1
      · have HY := Lib.hid (join_bad (bad_at HX.out (badB_yes (by rw [size_len]; omega))))
        go_wp2
        go_ret2
        exact ⟨by rw [← HR.out, HY.out]; rfl, hB⟩
      · by_cases h2 : 63 < (X.size : Int)
        · have HY := Lib.hid (join_bad (bad_at HX.out (badB_yes (by rw [size_len]; omega))))
          go_wp2
          go_ret2
          exact ⟨by rw [← HR.out, HY.out]; rfl, hB⟩
        · have HT := Lib.hid (take_room HX.out)
          have HB := Lib.hid (take_bad HX.out HW.out (badB_no.2 (by rw [size_len]; omega)))
          go_wp2
          have hkg := HK.out
          have hzz := HZ.out
          have ht := HT.out
          rw [size_len] at ht
          go_roundg (gk - 1)
          case rel => exact ⟨k + 1, _, rfl, by go_num, by omega, by omega, by omega, by omega, Lib.hid (by omega), HB, hB⟩
          case measure => omega
    · have hkk : k = ls.length := by omega
      have hzz := HZ.out
      have hbb := HW.out
      rw [hkk, List.take_length] at hzz hbb
      by_cases h4 : 255 < z
      · have HY := Lib.hid (join_long hbb (by omega))
        clear hzz hbb hkk
        go_wp2
        go_ret2
        exact ⟨by rw [← HR.out, HY.out]; rfl, hB⟩
      · have HY := Lib.hid (join_ok hbb (by omega))
        have hrm : room ls ≤ 254 := by omega
        have HO := Lib.hid (bad_ok.1 hbb)
        clear hzz hbb hkk
        go_wp2_with fail
        obtain ⟨B, hBB⟩ : ∃ B, wr.heap.size = B := ⟨_, rfl⟩
        have hfb := Lib.fresh_isBuilder 101 5 wr
        have hBa := (Below.refl B wr).alloc (by omega) (.cells #[.pointer none, .slice none 0 0] 101)
        have hwB := hB.size
        rw [hBB] at hfb
        rw [hBB]
        go_loopg [35] (ls.length + 1) (fun gas kv wq => ∃ (k : Nat), kv = .int .i64 k ∧ k ≤ ls.length ∧ k + gas = ls.length + 1 ∧ Bld B B (flat (ls.take k)) wq ∧ Below B wr wq)
        case atStart => exact ⟨0, rfl, by omega, by omega, hfb, hBa⟩
        case round =>
          clear hfb hBa
          obtain ⟨j, rfl, hj, hjg, hbl, hBq⟩ := hrel
          have HJ := Lib.hid hjg; clear hjg
          have hqz := hBq.size
          have hBw := hB.trans (hBq.mono (by omega))
          have hfl : (flat (ls.take j)).length ≤ 254 := by
            rw [flat_length]; have := room_append (ls.take j) (ls.drop j); rw [List.take_append_drop] at this; omega
          by_cases hjt : j < ls.length
          · obtain ⟨x, hx⟩ : ∃ x, ls[j]? = some x := ⟨_, List.getElem?_eq_getElem hjt⟩
            obtain ⟨g1, o1, rfl, _, hg1, hcl1⟩ := H.out _ x hx
            have hcx := (hBw.cell (p := ⟨g1, o1 + j, none⟩) hg1).trans hcl1
            have HX := Lib.hid hx
            have hx63 := HO.out x (List.mem_of_getElem? hx)
            clear hx hcl1
            unfold strV at hcx
            obtain ⟨X, hX⟩ : ∃ X : ByteArray, ⟨x.toArray⟩ = X := ⟨_, rfl⟩
            have hXx : x = X.data.toList := by rw [← hX]
            rw [hX] at hcx
            subst hXx
            clear hX
            rw [size_len] at hx63
            obtain ⟨hx0, hx63⟩ := hx63
            have HF := Lib.hid (put_take HX.out)
            obtain ⟨Q, hQ⟩ : ∃ Q, flat (ls.take j) = Q := ⟨_, rfl⟩
            rw [hQ] at hbl hfl
            have HQ := Lib.hid hQ; clear hQ
            have hwb := wb B B Q (UInt8.ofNat X.size) wr hbl (by omega) (by omega)
            rw [nat_of (by omega)] at hwb
            have HWB := Lib.hid hwb
            clear hwb hbl
            go_wp2_with fail
            refine HWB.out.mono ?_
            rintro e v1 ⟨rfl, hb1, hE1⟩
            have hv1 := hE1.size
            go_wp2_with fail
            refine (ws B B _ X _ hb1 (by rw [List.length_append, List.length_singleton]; omega) (by omega)).mono ?_
            rintro e v2 ⟨rfl, hb2, hE2⟩
            go_wp2
            have hjg := HJ.out
            go_roundg (gk - 1)
            case rel => exact ⟨j + 1, by go_num, by omega, by omega, by rw [HF.out, HQ.out, size_len, ← List.singleton_append, ← List.append_assoc]; exact hb2, (hBq.trans hE1).trans hE2⟩
            case measure => omega
          · have hjj : j = ls.length := by omega
            rw [hjj, List.take_length] at hbl hfl
            clear hjj
            have hput : flat ls ++ [0] = put ls := (put_flat ls).symm
            have HPU := Lib.hid hput; clear hput
            have HWB := Lib.hid (wb B B (flat ls) 0 wr hbl (by omega) (by omega))
            clear hbl
            go_wp2_with fail
            refine HWB.out.mono ?_
            rintro e v1 ⟨rfl, hb1, hE1⟩
            have hv1 := hE1.size
            rw [HPU.out] at hb1
            go_wp2_with fail
            refine (Try.Builder_String_any B B (put ls) _ hb1 (by omega)).mono ?_
            rintro e v2 ⟨rfl, hE2⟩
            go_wp2
            go_ret2
            exact ⟨by rw [← HR.out, HY.out]; rfl, hBw.trans ((hE1.trans hE2).mono (by omega))⟩
end Go.Proofs.Ythblaldkpjilhaa.join

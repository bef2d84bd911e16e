/- The statement's split of a told line into words: walk. The law gazetteerlaw1.DataRounds: walk. -/
import Derived.Test.YtkcpbjoolfojjaaGreatDoorP27
import Derived.Test.YtkcpbjoolfojjaaGreatDoorP20
import Derived.Test.YtkcpbjoolfojjaaGreatDoorP28
import Derived.Test.YtkcpbjoolfojjaaGreatDoorP34
import Derived.Test.YtkcpbjoolfojjaaGreatDoorP32
import Derived.Deep.DeepCutAuto
namespace Go.Proofs.YtkcpbjoolfojjaaGreatDoor.spW
open Go.RowKit Go.Proofs.YtkcpbjoolfojjaaGreatDoor.kit Go.Proofs.YtkcpbjoolfojjaaGreatDoor.nspec Go.Proofs.YtkcpbjoolfojjaaGreatDoor.bld Go.Proofs.YtkcpbjoolfojjaaGreatDoor.rdP Go.Proofs.YtkcpbjoolfojjaaGreatDoor.spS Go.Proofs.YtkcpbjoolfojjaaGreatDoor.wd
set_option linter.unusedVariables false

theorem infoWord : (Tryz.prog.info? 24).map (fun i => (i.zero, i.size, i.bytes)) = some (some (.agg #[.string ByteArray.empty, .bool false]), 2, 24) := by kernel_rfl
/-- words so far, and what is left -/
def addS (A : List Wo) (o : Option (List Wo)) : Option (List Wo) := o.map (A ++ ·)
theorem addS_nil (o : Option (List Wo)) : addS [] o = o := by cases o <;> simp [addS]
theorem sp_blank {A : List Wo} {R : Option (List Wo)} {r : Bs} (h : addS A (splitS (32 :: r)) = R) : addS A (splitS r) = R := by rw [← h, split_blank]
theorem sp_open {A : List Wo} {R : Option (List Wo)} {r : Bs} (h : addS A (splitS (34 :: r)) = R) (hc : closeS r = none) : R = none := by rw [← h, split_open hc]; rfl
theorem sp_quote {A : List Wo} {R : Option (List Wo)} {r : Bs} {q : Bs × Bs} (h : addS A (splitS (34 :: r)) = R) (hc : closeS r = some q) : addS (A ++ [⟨mk q.1, true⟩]) (splitS q.2) = R := by
  rw [← h, split_quote hc]
  cases splitS q.2 <;> simp [addS]
theorem sp_word {A : List Wo} {R : Option (List Wo)} {c : UInt8} {r : Bs} (h : addS A (splitS (c :: r)) = R) (h1 : c ≠ 32) (h2 : c ≠ 34) : addS (A ++ [⟨mk ((c :: r).takeWhile plainB), false⟩]) (splitS ((c :: r).dropWhile plainB)) = R := by
  rw [← h, split_word h1 h2]
  cases splitS ((c :: r).dropWhile plainB) <;> simp [addS]
theorem sp_end {A : List Wo} {R : Option (List Wo)} (h : addS A (splitS []) = R) : R = some A := by rw [← h, split_nil]; simp [addS]

theorem own_slice2 {w : World} {base : Nat} {e : TypeId} {v : Value} {n m : Nat} {xs : List Value} (h : w.ownsRow base e m v n xs) : ∃ a c, v = .slice a n c := by
  rcases h.2 with ⟨rfl, rfl⟩ | ⟨g, cap, cur, rfl, _⟩
  · exact ⟨_, _, rfl⟩
  · exact ⟨_, _, rfl⟩
def wcells (A : List Wo) : List Value := A.flatMap (fun x => [Value.string x.s, .bool x.q])
theorem wcells_snoc (A : List Wo) (x : ByteArray) (q : Bool) : wcells (A ++ [⟨x, q⟩]) = wcells A ++ [.string x, .bool q] := by simp [wcells]
theorem cl_nil : closeS [] = none := rfl
theorem cl_quote (r : Bs) : closeS (34 :: r) = some ([], r) := by rw [closeS, close_def, if_pos rfl]
theorem cl_esc1 : closeS [92] = none := by rw [closeS, close_def, if_neg (by decide), if_pos rfl]
theorem cl_esc2 (d : UInt8) (t : Bs) : closeS (92 :: d :: t) = (closeS t).map fun p => (92 :: d :: p.1, p.2) := by
  rw [closeS, close_def, if_neg (by decide), if_pos rfl]
  simp only
  rw [closeS, close_fuel _ (t.length + 1) t (by simp only [List.length_cons]; omega) (by omega)]
theorem cl_plain {c : UInt8} {r : Bs} (h1 : c ≠ 34) (h2 : c ≠ 92) : closeS (c :: r) = (closeS r).map fun p => (c :: p.1, p.2) := by
  rw [closeS, close_def, if_neg h1, if_neg h2]
  rw [closeS, close_fuel _ (r.length + 1) r (by simp only [List.length_cons]; omega) (by omega)]
/-- what is told of the quote so far, and what is left -/
def addC (A : Bs) (o : Option (Bs × Bs)) : Option (Bs × Bs) := o.map fun p => (A ++ p.1, p.2)
theorem addC_map1 (A : Bs) (c : UInt8) (o : Option (Bs × Bs)) : addC A (o.map fun p => (c :: p.1, p.2)) = addC (A ++ [c]) o := by cases o <;> simp [addC]
theorem addC_map2 (A : Bs) (c d : UInt8) (o : Option (Bs × Bs)) : addC A (o.map fun p => (c :: d :: p.1, p.2)) = addC (A ++ [c, d]) o := by cases o <;> simp [addC]
theorem take_one (s : ByteArray) (i j : Nat) (hij : i ≤ j) (h : j < s.size) : (s.data.toList.drop i).take (j + 1 - i) = (s.data.toList.drop i).take (j - i) ++ [s[j]] := by
  rw [show j + 1 - i = (j - i) + 1 from by omega, List.take_add_one, List.getElem?_drop, show i + (j - i) = j from by omega]
  have hg : s.data.toList[j]? = some s[j] := by
    have := congrArg List.head? (drop_cons s j h)
    simpa using this
  rw [hg]; simp
theorem cl_step (s : ByteArray) (i j : Nat) (hij : i ≤ j) (h : j < s.size) (h1 : s[j] ≠ 34) (h2 : s[j] ≠ 92) : addC ((s.data.toList.drop i).take (j - i)) (closeS (s.data.toList.drop j)) = addC ((s.data.toList.drop i).take (j + 1 - i)) (closeS (s.data.toList.drop (j + 1))) := by
  rw [drop_cons s j h, cl_plain h1 h2, addC_map1, take_one s i j hij h]
theorem cl_step2 (s : ByteArray) (i j : Nat) (hij : i ≤ j) (h : j < s.size) (h2 : s[j] = 92) : addC ((s.data.toList.drop i).take (j - i)) (closeS (s.data.toList.drop j)) = addC ((s.data.toList.drop i).take (j + 2 - i)) (closeS (s.data.toList.drop (j + 2))) := by
  rw [drop_cons s j h, h2]
  by_cases hj : j + 1 < s.size
  · rw [drop_cons s (j + 1) hj, cl_esc2, addC_map2, show j + 2 - i = (j + 1) + 1 - i from rfl, take_one s i (j + 1) (by omega) hj, take_one s i j hij h, h2, List.append_assoc]; rfl
  · rw [show s.data.toList.drop (j + 1) = [] from List.drop_eq_nil_of_le (by rw [size_len]; omega), show s.data.toList.drop (j + 2) = [] from List.drop_eq_nil_of_le (by rw [size_len]; omega), cl_esc1, cl_nil]; rfl
def PostSp (w : World) (R : Option (List Wo)) (e : Ending) (w' : World) : Prop :=
  Below w.heap.size w w' ∧ ∃ v, e = .returned v ∧ w'.ownsRow w.heap.size 24 2 v (R.getD []).length (wcells (R.getD []))
set_option maxRecDepth 100000 in
set_option maxHeartbeats 4000000 in
theorem split_any (s : ByteArray) (w : World) (hs : s.size ≤ 1000000000) :
    Calls Tryz.prog 11 #[.string s] w (PostSp w (splitS s.data.toList)) := by
  obtain ⟨i0, hi, hz0, hz1, hz2⟩ := info_parts infoWord
  obtain ⟨R, hR⟩ : ∃ R, splitS s.data.toList = R := ⟨_, rfl⟩
  rw [hR]
  have HR0 : Hid (addS [] (splitS (s.data.toList.drop 0)) = R) := Lib.hid (by rw [addS_nil]; exact hR)
  have HO0 : Hid (w.ownsRow w.heap.size 24 2 (.slice none 0 0) 0 (wcells [])) := Lib.hid (World.ownsRow_nil _ _ _ _)
  clear hR
  go_enter Tryz.func11, Tryz.ntmps11
  go_wp2_with fail
  go_loopg [3, 4] (s.size + 1) (fun gas ov kv wr => ∃ (k : Nat) (A : List Wo), kv = .int .i64 (k : Int) ∧ k ≤ s.size ∧ s.size + 1 ≤ k + gas ∧ A.length ≤ k ∧ Hid (addS A (splitS (s.data.toList.drop k)) = R) ∧ Hid (wr.ownsRow w.heap.size 24 2 ov A.length (wcells A)) ∧ Hid (Below w.heap.size w wr))
  case atStart => exact ⟨0, [], rfl, by omega, by omega, by simp, HR0, HO0, Lib.hid (Below.refl _ _)⟩
  case round =>
    clear HR0 HO0
    obtain ⟨k, A, rfl, hk, hkg, hAl, HW, HO, HB⟩ := hrel
    have HKG := Lib.hid hkg; clear hkg
    by_cases hks : k < s.size
    · have hki : (k : Int) < (s.size : Int) := by omega
      have hW := HW.out
      rw [drop_cons s k hks] at hW
      by_cases h32 : s[k] = 32
      · have hb : ((s[k].toNat : Int) == 32) = true := by rw [h32]; rfl
        rw [h32] at hW
        have HN := Lib.hid (sp_blank hW)
        clear hW HW
        go_wp2_with fail
        have hkg := HKG.out
        go_roundg (gk - 1)
        case rel => exact ⟨k + 1, A, by go_num, by omega, by omega, by omega, HN, HO, HB⟩
        case measure => omega
      · have hb : ((s[k].toNat : Int) == 32) = false := by rw [beq_eq_false_iff_ne]; intro e; exact h32 (UInt8.toNat_inj.1 (by show s[k].toNat = 32; omega))
        by_cases h34 : s[k] = 34
        · have hb4 : ((s[k].toNat : Int) == 34) = true := by rw [h34]; rfl
          rw [h34] at hW
          obtain ⟨CL, hCL⟩ : ∃ CL, closeS (s.data.toList.drop (k + 1)) = CL := ⟨_, rfl⟩
          have HC0 : Hid (addC ((s.data.toList.drop (k + 1)).take (k + 1 - (k + 1))) (closeS (s.data.toList.drop (k + 1))) = CL) := Lib.hid (by rw [Nat.sub_self, hCL]; cases CL <;> simp [addC])
          have HNO : Hid (CL = none → R = none) := Lib.hid (fun e => sp_open hW (hCL.trans e))
          have HGO : Hid (∀ q, CL = some q → addS (A ++ [⟨mk q.1, true⟩]) (splitS q.2) = R) := Lib.hid (fun q e => sp_quote hW (hCL.trans e))
          clear hW HW hCL
          go_wp2_with fail
          obtain ⟨wo, rfl⟩ : ∃ wo, wo = wr := ⟨_, rfl⟩
          obtain ⟨go, rfl⟩ : ∃ go, go = gk := ⟨_, rfl⟩
          go_loopg [5] (s.size + 2) (fun gas jv wy => ∃ (j : Nat), jv = .int .i64 (j : Int) ∧ k + 1 ≤ j ∧ j ≤ s.size + 1 ∧ s.size + 2 ≤ j + gas ∧ Hid (addC ((s.data.toList.drop (k + 1)).take (j - (k + 1))) (closeS (s.data.toList.drop j)) = CL) ∧ wy = wo)
          case atStart => exact ⟨k + 1, by go_num, by omega, by omega, by omega, HC0, rfl⟩
          case round =>
            clear HC0
            obtain ⟨j, rfl, hkj, hj, hjg, HC, hwy⟩ := hrel
            subst hwy
            have HJG := Lib.hid hjg; clear hjg
            by_cases hjs : j < s.size
            · have hji : (j : Int) < (s.size : Int) := by omega
              have hji2 : ¬ (s.size : Int) ≤ (j : Int) := by omega
              have hj0 : 0 ≤ (j : Int) := by omega
              by_cases hj34 : s[j] = 34
              · have hbj : ((s[j].toNat : Int) == 34) = true := by rw [hj34]; rfl
                have hbn : ((s[j].toNat : Int) != 34) = false := by rw [bne, hbj]; rfl
                have hC := HC.out
                rw [drop_cons s j hjs, hj34, cl_quote] at hC
                have hN := HGO.out _ hC.symm
                simp only [List.append_nil] at hN
                have hmk : mk ((s.data.toList.drop (k + 1)).take (j - (k + 1))) = s.extract (k + 1) j := by
                  rw [← wdL.extract_list]; show (⟨_⟩ : ByteArray) = _; rw [Array.toArray_toList]
                rw [hmk] at hN
                have HN := Lib.hid hN
                obtain ⟨av, cv, rfl⟩ := own_slice2 HO.out
                have hi0 : 0 ≤ (k : Int) + 1 := by omega
                have hij' : (k : Int) + 1 ≤ (j : Int) := by omega
                have htn : ((k : Int) + 1).toNat = k + 1 := by omega
                have hjs' : (j : Int) ≤ (s.size : Int) := by omega
                have hsz := HB.out.size
                clear hC hN hmk hj34
                go_upto_region 15 with fail

                go_wp2_with (at_builtin; refine wpList_append_own _ rfl _ _ 22 rfl w.heap.size 24 i0 (.agg #[.string ByteArray.empty, .bool false]) 2 24 Tryz.underlying22 hi hz0 hz1 hz2 rfl (by decide) _ _ _ rfl (HO.out.alloc _) ⟨wr.heap.size, 0, none⟩ 1 1 [.string (s.extract (k + 1) j), .bool true] rfl rfl ?dc1 ?dc2 ?dc3 ?dc4 ?dc5 ?_)
                try (case dc1 => exact setW.cell_two_new _ _ _ _)
                case dc2 => simp [Value.oneCell']
                case dc3 => unfold maxLen; omega
                case dc4 => omega
                case dc5 => first | omega | (simp; omega) | (rw [World.size_alloc]; omega) | exact setW.cell_two_new _ _ _ _
                intro v' w6 hown' hgrow _
                rw [← wcells_snoc A (s.extract (k + 1) j) true] at hown'
                have hB6 : Below w.heap.size wr w6 := ((Below.refl w.heap.size wr).alloc hsz _).grown hgrow (by rw [World.size_alloc]; omega) (fun i hi => (HO.out.lt i hi).1)
                have HO6 : Hid (w6.ownsRow w.heap.size 24 2 v' (A ++ [(⟨s.extract (k + 1) j, true⟩ : Wo)]).length (wcells (A ++ [(⟨s.extract (k + 1) j, true⟩ : Wo)]))) := Lib.hid (by rw [List.length_append]; exact hown')
                have HB6 := Lib.hid (HB.out.trans hB6)
                clear hown' hgrow hB6
                have hl6 : (A ++ [(⟨s.extract (k + 1) j, true⟩ : Wo)]).length ≤ j + 1 := by rw [List.length_append]; simp; omega
                go_wp2_with fail
                have hkg := HKG.out
                go_roundg (go - 1)
                case rel => exact ⟨j + 1, _, by go_num, by omega, by omega, hl6, HN, HO6, HB6⟩
                case measure => omega
              · have hbj : ((s[j].toNat : Int) == 34) = false := by rw [beq_eq_false_iff_ne]; intro e; exact hj34 (UInt8.toNat_inj.1 (by show s[j].toNat = 34; omega))
                have hbn : ((s[j].toNat : Int) != 34) = true := by rw [bne, hbj]; rfl
                by_cases hj92 : s[j] = 92
                · have hb9 : ((s[j].toNat : Int) == 92) = true := by rw [hj92]; rfl
                  have HC2 := Lib.hid ((cl_step2 s (k + 1) j hkj hjs hj92).symm.trans HC.out)
                  go_wp2_with fail
                  have hjg := HJG.out
                  go_roundg (gk - 1)
                  case rel => exact ⟨j + 2, by go_num, by omega, by omega, by omega, HC2, rfl⟩
                  case measure => omega
                · have hb9 : ((s[j].toNat : Int) == 92) = false := by rw [beq_eq_false_iff_ne]; intro e; exact hj92 (UInt8.toNat_inj.1 (by show s[j].toNat = 92; omega))
                  have HC2 := Lib.hid ((cl_step s (k + 1) j hkj hjs hj34 hj92).symm.trans HC.out)
                  go_wp2_with fail
                  have hjg := HJG.out
                  go_roundg (gk - 1)
                  case rel => exact ⟨j + 1, by go_num, by omega, by omega, by omega, HC2, rfl⟩
                  case measure => omega
            · have hje : (s.size : Int) ≤ (j : Int) := by omega
              have hC := HC.out
              rw [show s.data.toList.drop j = [] from List.drop_eq_nil_of_le (by rw [size_len]; omega), cl_nil] at hC
              have hR := HNO.out hC.symm
              subst hR
              clear hC
              go_wp2_with fail
              go_ret
              exact ⟨HB.out, _, rfl, World.ownsRow_nil _ _ _ _⟩
        · have hb4 : ((s[k].toNat : Int) == 34) = false := by rw [beq_eq_false_iff_ne]; intro e; exact h34 (UInt8.toNat_inj.1 (by show s[k].toNat = 34; omega))
          have hN := sp_word hW h32 h34
          rw [← drop_cons s k hks] at hN
          have HN := Lib.hid hN
          clear hW HW hN
          obtain ⟨TW, hTW⟩ : ∃ TW, (s.data.toList.drop k).takeWhile plainB = TW := ⟨_, rfl⟩
          obtain ⟨DW, hDW⟩ : ∃ DW, (s.data.toList.drop k).dropWhile plainB = DW := ⟨_, rfl⟩
          rw [hTW, hDW] at HN
          have HT0 : Hid ((s.data.toList.drop k).take 0 ++ (s.data.toList.drop k).takeWhile plainB = TW) := Lib.hid (by rw [hTW]; rfl)
          have HD0 := Lib.hid hDW
          clear hTW hDW
          go_wp2_with fail
          obtain ⟨wo, rfl⟩ : ∃ wo, wo = wr := ⟨_, rfl⟩
          obtain ⟨go, rfl⟩ : ∃ go, go = gk := ⟨_, rfl⟩
          go_loopg [5] (s.size + 1) (fun gas jv wy => ∃ (j : Nat), jv = .int .i64 (j : Int) ∧ k ≤ j ∧ j ≤ s.size ∧ s.size + 1 ≤ j + gas ∧ Hid (j = k ∨ k < j) ∧ Hid ((s.data.toList.drop k).take (j - k) ++ (s.data.toList.drop j).takeWhile plainB = TW) ∧ Hid ((s.data.toList.drop j).dropWhile plainB = DW) ∧ wy = wo)
          case atStart => exact ⟨k, rfl, by omega, by omega, by omega, Lib.hid (.inl rfl), Lib.hid (by rw [Nat.sub_self]; exact HT0.out), HD0, rfl⟩
          case round =>
            clear HT0 HD0
            obtain ⟨j, rfl, hkj, hj, hjg, _, HT, HD, hwy⟩ := hrel
            subst hwy
            have HJG := Lib.hid hjg; clear hjg
            by_cases hjs : j < s.size
            · have hjc := drop_cons s j hjs
              have hji : (j : Int) < (s.size : Int) := by omega
              have hj0 : 0 ≤ (j : Int) := by omega
              by_cases hj32 : s[j] = 32
              · have hbj : ((s[j].toNat : Int) == 32) = true := by rw [hj32]; rfl
                have hbn : ((s[j].toNat : Int) != 32) = false := by rw [bne, hbj]; rfl
                have hend : (s.data.toList.drop j).takeWhile plainB = [] := by rw [hjc, hj32]; rfl
                have hendD : (s.data.toList.drop j).dropWhile plainB = s.data.toList.drop j := by rw [hjc, hj32]; rfl
                have hkj2 : k < j := (Nat.lt_or_eq_of_le hkj).elim id (fun h => by subst h; first | exact absurd hj32 h32 | omega)
                have hword : (s.extract k j).data.toList = TW := by
                  have h := HT.out
                  rw [hend, List.append_nil] at h
                  rw [wdL.extract_list]; exact h
                have hmk : mk TW = s.extract k j := by show (⟨TW.toArray⟩ : ByteArray) = _; rw [← hword, Array.toArray_toList]
                rw [hmk] at HN
                have hdw : s.data.toList.drop j = DW := by rw [← HD.out, hendD]
                rw [← hdw] at HN
                obtain ⟨av, cv, rfl⟩ := own_slice2 HO.out
                have hk0 : 0 ≤ (k : Int) := by omega
                have hkj' : (k : Int) ≤ (j : Int) := by omega
                have hjs' : (j : Int) ≤ (s.size : Int) := by omega
                have hsz := HB.out.size
                clear hword hmk hdw hend hendD
                go_wp2_with (at_builtin; refine wpList_append_own _ rfl _ _ 22 rfl w.heap.size 24 i0 (.agg #[.string ByteArray.empty, .bool false]) 2 24 Tryz.underlying22 hi hz0 hz1 hz2 rfl (by decide) _ _ _ rfl (HO.out.alloc _) ⟨wr.heap.size, 0, none⟩ 1 1 [.string (s.extract k j), .bool false] rfl rfl ?da1 ?da2 ?da3 ?da4 ?da5 ?_)
                case da1 => exact setW.cell_two_new _ _ _ _
                case da2 => simp [Value.oneCell']
                case da3 => unfold maxLen; omega
                case da4 => omega
                case da5 => simp; omega
                intro v' w6 hown' hgrow _
                rw [← wcells_snoc A (s.extract k j) false] at hown'
                have hB6 : Below w.heap.size wr w6 := ((Below.refl w.heap.size wr).alloc hsz _).grown hgrow (by rw [World.size_alloc]; omega) (fun i hi => (HO.out.lt i hi).1)
                have HO6 : Hid (w6.ownsRow w.heap.size 24 2 v' (A ++ [(⟨s.extract k j, false⟩ : Wo)]).length (wcells (A ++ [(⟨s.extract k j, false⟩ : Wo)]))) := Lib.hid (by rw [List.length_append]; exact hown')
                have HB6 := Lib.hid (HB.out.trans hB6)
                clear hown' hgrow hB6
                have hl6 : (A ++ [(⟨s.extract k j, false⟩ : Wo)]).length ≤ j := by rw [List.length_append]; simp; omega
                go_wp2_with fail
                have hkg := HKG.out
                go_roundg (go - 1)
                case rel => exact ⟨j, _, rfl, by omega, by omega, hl6, HN, HO6, HB6⟩
                case measure => omega

              · have hbj : ((s[j].toNat : Int) == 32) = false := by rw [beq_eq_false_iff_ne]; intro e; exact hj32 (UInt8.toNat_inj.1 (by show s[j].toNat = 32; omega))
                have hbn : ((s[j].toNat : Int) != 32) = true := by rw [bne, hbj]; rfl
                have hpl : plainB s[j] = true := by simp [plainB, hj32]
                have HT1 : Hid ((s.data.toList.drop k).take (j + 1 - k) ++ (s.data.toList.drop (j + 1)).takeWhile plainB = TW) := Lib.hid (by
                  have h := HT.out
                  rw [hjc, List.takeWhile_cons_of_pos hpl] at h
                  rw [← h, show j + 1 - k = (j - k) + 1 from by omega, List.take_add_one, List.getElem?_drop, show k + (j - k) = j from by omega]
                  have hg : s.data.toList[j]? = some s[j] := by
                    have := congrArg List.head? hjc
                    simpa using this
                  rw [hg]; simp)
                have HD1 : Hid ((s.data.toList.drop (j + 1)).dropWhile plainB = DW) := Lib.hid (by rw [← HD.out, hjc, List.dropWhile_cons_of_pos hpl])
                clear hjc hpl
                go_wp2_with fail
                have hjg := HJG.out
                go_roundg (gk - 1)
                case rel => exact ⟨j + 1, by go_num, by omega, by omega, by omega, Lib.hid (.inr (by omega)), HT1, HD1, rfl⟩
                case measure => omega
            · have hje : (s.size : Int) ≤ (j : Int) := by omega
              have hend : (s.data.toList.drop j).takeWhile plainB = [] := by rw [List.drop_eq_nil_of_le (by rw [size_len]; omega)]; rfl
              have hendD : (s.data.toList.drop j).dropWhile plainB = s.data.toList.drop j := by rw [List.drop_eq_nil_of_le (by rw [size_len]; omega)]; rfl
              have hkj2 : k < j := (Nat.lt_or_eq_of_le hkj).elim id (fun h => by subst h; first | exact absurd hj32 h32 | omega)
              have hword : (s.extract k j).data.toList = TW := by
                have h := HT.out
                rw [hend, List.append_nil] at h
                rw [wdL.extract_list]; exact h
              have hmk : mk TW = s.extract k j := by show (⟨TW.toArray⟩ : ByteArray) = _; rw [← hword, Array.toArray_toList]
              rw [hmk] at HN
              have hdw : s.data.toList.drop j = DW := by rw [← HD.out, hendD]
              rw [← hdw] at HN
              obtain ⟨av, cv, rfl⟩ := own_slice2 HO.out
              have hk0 : 0 ≤ (k : Int) := by omega
              have hkj' : (k : Int) ≤ (j : Int) := by omega
              have hjs' : (j : Int) ≤ (s.size : Int) := by omega
              have hsz := HB.out.size
              clear hword hmk hdw hend hendD
              go_wp2_with (at_builtin; refine wpList_append_own _ rfl _ _ 22 rfl w.heap.size 24 i0 (.agg #[.string ByteArray.empty, .bool false]) 2 24 Tryz.underlying22 hi hz0 hz1 hz2 rfl (by decide) _ _ _ rfl (HO.out.alloc _) ⟨wr.heap.size, 0, none⟩ 1 1 [.string (s.extract k j), .bool false] rfl rfl ?db1 ?db2 ?db3 ?db4 ?db5 ?_)
              case db1 => exact setW.cell_two_new _ _ _ _
              case db2 => simp [Value.oneCell']
              case db3 => unfold maxLen; omega
              case db4 => omega
              case db5 => simp; omega
              intro v' w6 hown' hgrow _
              rw [← wcells_snoc A (s.extract k j) false] at hown'
              have hB6 : Below w.heap.size wr w6 := ((Below.refl w.heap.size wr).alloc hsz _).grown hgrow (by rw [World.size_alloc]; omega) (fun i hi => (HO.out.lt i hi).1)
              have HO6 : Hid (w6.ownsRow w.heap.size 24 2 v' (A ++ [(⟨s.extract k j, false⟩ : Wo)]).length (wcells (A ++ [(⟨s.extract k j, false⟩ : Wo)]))) := Lib.hid (by rw [List.length_append]; exact hown')
              have HB6 := Lib.hid (HB.out.trans hB6)
              clear hown' hgrow hB6
              have hl6 : (A ++ [(⟨s.extract k j, false⟩ : Wo)]).length ≤ j := by rw [List.length_append]; simp; omega
              go_wp2_with fail
              have hkg := HKG.out
              go_roundg (go - 1)
              case rel => exact ⟨j, _, rfl, by omega, by omega, hl6, HN, HO6, HB6⟩
              case measure => omega

    · have hki : (s.size : Int) ≤ (k : Int) := by omega
      have hW := HW.out
      rw [List.drop_eq_nil_of_le (by rw [size_len]; omega)] at hW
      have hR := sp_end hW
      subst hR
      clear hW HW
      go_wp2_with fail
      go_ret
      exact ⟨HB.out, _, rfl, HO.out⟩
end Go.Proofs.YtkcpbjoolfojjaaGreatDoor.spW
namespace Go.Proofs.YtkcpbjoolfojjaaGreatDoor.dataRounds
open Go.RowKit Go.Proofs.YtkcpbjoolfojjaaGreatDoor.kit Go.Proofs.YtkcpbjoolfojjaaGreatDoor.check Go.Proofs.YtkcpbjoolfojjaaGreatDoor.nspec Go.Proofs.YtkcpbjoolfojjaaGreatDoor.rsplit Go.Proofs.YtkcpbjoolfojjaaGreatDoor.fld Go.Proofs.YtkcpbjoolfojjaaGreatDoor.dshow Go.Proofs.YtkcpbjoolfojjaaGreatDoor.rdP Go.Proofs.YtkcpbjoolfojjaaGreatDoor.rdQ Go.Proofs.YtkcpbjoolfojjaaGreatDoor.wdF Go.Proofs.YtkcpbjoolfojjaaGreatDoor.rdDoor Go.Proofs.YtkcpbjoolfojjaaGreatDoor.rdW Go.Proofs.YtkcpbjoolfojjaaGreatDoor.rdBk Go.Proofs.YtkcpbjoolfojjaaGreatDoor.spW
set_option linter.unusedVariables false

def addrD : Bs := [32, 1, 13, 184, 0, 0, 0, 0, 0, 0, 0, 0, 0, 0, 0, 1]
theorem k1 : showDS 28 addrD = [50, 48, 48, 49, 58, 100, 98, 56, 58, 58, 49] := by decide +kernel
theorem k2 : checkS 28 addrD = 0 := by decide +kernel
def OrgIs (v : Value) : Prop := ∃ (o : ByteArray) (base : List Bs), v = .string o ∧ IsN o.data.toList base
/-- the words that split laid, as data.Read takes them -/
theorem own_in {w : World} {base : Nat} {v : Value} {L : List Wo} (h : w.ownsRow base 24 2 v L.length (wcells L)) (h1 : L.length ≤ 1048576) (h2 : ∀ x ∈ L, x.s.size ≤ 1048576) :
    ∃ a c, v = .slice a L.length c ∧ In w a L c := by
  obtain ⟨a, c, e, hl, hm, _, hR⟩ := rows.rdc_own (fun x : Wo => [Value.string x.s, .bool x.q]) 2 (fun _ => rfl) rfl h
  refine ⟨a, c, e, ⟨fun j x hx => ?_, h1, h2, hl, hm⟩⟩
  obtain ⟨_, g, o, ha, hg, hc⟩ := hR j [Value.string x.s, .bool x.q] (by rw [List.getElem?_map, hx]; rfl)
  exact ⟨g, o, ha, hg, hc 0 _ rfl, hc 1 _ rfl⟩
theorem t_bd {t : Int} (h : holdsB t = true) : 1 ≤ t ∧ t ≤ 65535 := by
  unfold holdsB at h
  simp only [Bool.and_eq_true, decide_eq_true_eq] at h
  exact ⟨h.1.1.1, h.1.1.2⟩
theorem show_no {t : Int} {d : Bs} (h : checkS t d ≠ 0) : showDS t d = [] := by unfold showDS; rw [if_neg h]
set_option maxRecDepth 100000 in
set_option maxHeartbeats 4000000 in
theorem walk (t : Int) (s o : ByteArray) (w : World) (hs : s.size ≤ maxLen) (hT : fmt16.TzT w) (hS : TabS w) :
    Calls Tryz.prog 4 #[.int .i64 t, .string s, .string o] w fun e w' => e = .returned (.bool true) ∧ Below w.heap.size w w' := by
  have CA := Lib.hid (dshowT.show_any 28 ⟨addrD.toArray⟩ w (by decide) hS.pow hT)
  have e1 : showDS 28 (⟨addrD.toArray⟩ : ByteArray).data.toList = _ := k1
  have e2 : checkS 28 (⟨addrD.toArray⟩ : ByteArray).data.toList = _ := k2
  rw [e1, e2] at CA
  unfold addrD at CA
  clear e1 e2
  have HS0 := Lib.hid hS; have HT0 := Lib.hid hT
  clear hS hT
  go_enter Tryz.func4, Tryz.ntmps4
  go_wp2_with fail
  refine CA.out.mono ?_
  rintro e w1 ⟨rfl, hB1⟩
  have HB0 := Lib.hid hB1
  clear hB1 CA
  obtain ⟨K, hK⟩ : ∃ K, chkE o = K := ⟨_, rfl⟩
  have HK := Lib.hid hK; clear hK
  go_wp2_with fail
  refine (checkAll.check_all o _).mono ?_
  rintro e w3 ⟨rfl, hB3⟩
  rw [HK.out]
  have HB1 := Lib.hid (HB0.out.trans (hB3.mono HB0.out.size))
  clear hB3 HB0
  go_upto_if 23 with (fail)
  go_cut [2] (fun s1 wx => OrgIs s1 ∧ Below w.heap.size w wx)
  case first =>
    rcases isB_or o with ⟨base, hO⟩ | hO
    · have hK : K = 0 := by rw [← HK.out]; exact chk_yes hO
      subst hK
      have HO := Lib.hid hO
      clear hO HK
      go_wp2_with fail
      go_meet
      exact ⟨⟨o, base, rfl, HO.out⟩, HB1.out⟩
    · have hK : K = 1 := by rw [← HK.out]; exact chk_no hO
      subst hK
      clear hO HK
      go_wp2_with fail
      go_meet
      exact ⟨⟨⟨#[0]⟩, [], rfl, ⟨rfl, by simp [okL], by decide⟩⟩, HB1.out⟩
  case rest =>
    clear HB1 HK K
    obtain ⟨⟨org, base, rfl, hO⟩, hB⟩ := hcut
    have hos : org.size ≤ 255 := by have := hO.2.2; rwa [size_len] at this
    have HO := Lib.hid hO
    obtain ⟨D, hD⟩ : ∃ D : ByteArray, (⟨(showDS t s.data.toList).toArray⟩ : ByteArray) = D := ⟨_, rfl⟩
    have hDd : D.data.toList = showDS t s.data.toList := by rw [← hD]
    obtain ⟨z, hz⟩ : ∃ z, checkS t s.data.toList = z := ⟨_, rfl⟩
    have CS := Lib.hid (fun w h1 h2 => dshowT.show_any t s w hs h1 h2)
    have CC := Lib.hid (fun w => dcheck.dcheck_any t s w hs)
    rw [hD, hz] at CS
    rw [hz] at CC
    have HB := Lib.hid hB; clear hB hO
    have HS1 := Lib.hid (HS0.out.below HB.out)
    have HT1 := Lib.hid (fmt16.tz_below HT0.out HB.out)
    have hzz : (z == z) = true := by simp
    have HDD := Lib.hid hDd; have HZ := Lib.hid hz
    clear hD hDd hz
    go_wp2_with fail
    refine (CS.out _ HS1.out.pow HT1.out).mono ?_
    rintro e v1 ⟨rfl, hB1⟩
    have HB1 := Lib.hid (HB.out.trans (hB1.mono HB.out.size)); clear hB1
    go_wp2_with fail
    refine (CC.out _).mono ?_
    rintro e v2 ⟨rfl, hB1⟩
    have HB2 := Lib.hid (HB1.out.trans (hB1.mono HB1.out.size)); clear hB1
    clear CS CC HS1 HT1
    by_cases h0 : z = 0
    · subst h0
      have hb := (check_parts HZ.out).1
      have HTB := Lib.hid (t_bd hb)
      obtain ⟨W, hW⟩ : ∃ W, wosD t s.data.toList = W := ⟨_, rfl⟩
      have hDs : D.size ≤ 1000000000 := by rw [← size_len, HDD.out]; exact show_size HZ.out
      have CP := Lib.hid (fun w => split_any D w hDs)
      have hsp := split_words HZ.out
      rw [hW] at hsp
      rw [HDD.out, hsp] at CP
      have hrb := read_back HZ.out HO.out
      rw [hW] at hrb
      have hlen := wosD_len HZ.out
      rw [hW] at hlen
      have CR := Lib.hid (fun (a : Option Addr) (cap : Nat) (w : World) (hin : In w a W cap) (ht : TabS w) => read_any t a W cap org w hin (by omega) ht)
      rw [hrb] at CR
      unfold ReadE at CR
      have hself : (⟨s.data.toList.toArray⟩ : ByteArray) = s := ba_ext rfl
      simp only [hself] at CR
      obtain ⟨m, hm⟩ : ∃ m, W.length = m := ⟨_, rfl⟩
      have HL := Lib.hid hlen
      have HM := Lib.hid hm
      have hss : (s.toList == s.toList) = true := by simp
      clear hb hW hsp hrb hlen hm hself
      go_wp2_with fail
      refine (CP.out _).mono ?_
      rintro e v3 ⟨hB1, v, rfl, hown⟩
      simp only [Option.getD_some] at hown
      have HB3 := Lib.hid (HB2.out.trans (hB1.mono HB2.out.size)); clear hB1
      obtain ⟨a, c, rfl, hin⟩ := own_in hown HL.out.1 HL.out.2
      have HIN := Lib.hid hin
      clear hown hin
      have HS3 := Lib.hid (HS0.out.below HB3.out)
      rw [HM.out] at CR ⊢
      go_wp2_with fail
      refine (CR.out a c _ HIN.out HS3.out).mono ?_
      rintro e v4 ⟨rfl, hB1⟩
      have HB4 := Lib.hid (HB3.out.trans (hB1.mono HB3.out.size)); clear hB1
      have HS4 := Lib.hid (HS0.out.below HB4.out)
      clear CP CR HIN HS3 HB HB1 HB2 HB3 HL
      have CN := Lib.hid (tname.dtname_any t (by have := HTB.out; omega) (by have := HTB.out; omega) v4 HS4.out.pow)
      obtain ⟨N, hN⟩ : ∃ N : ByteArray, (⟨(tname.tnameS t).toArray⟩ : ByteArray) = N := ⟨_, rfl⟩
      have hNd : N.data.toList = tname.tnameS t := by rw [← hN]
      have hNs : N.size ≤ 10 := by rw [← size_len, hNd]; exact tname_len t
      rw [hN] at CN
      have CT := Lib.hid (fun w h1 h2 => typeofD.typeof_any N w (by omega) h1 h2)
      rw [hNd, rdE.type_back HTB.out.1 HTB.out.2] at CT
      have htt : (t == t) = true := by simp
      clear hN hNd
      go_wp2_with fail
      refine CN.out.mono ?_
      rintro e v5 ⟨rfl, hB1⟩
      have HB5 := Lib.hid (HB4.out.trans (hB1.mono HB4.out.size)); clear hB1
      have HS5 := Lib.hid (HS0.out.below HB5.out)
      go_wp2_with fail
      refine (CT.out _ HS5.out.utf HS5.out.pow).mono ?_
      rintro e v6 ⟨rfl, hB1⟩
      have HB6 := Lib.hid (HB5.out.trans (hB1.mono HB5.out.size)); clear hB1
      go_wp2_with fail
      go_ret
      exact ⟨rfl, HB6.out⟩
    · have b0 : (z == 0) = false := by rw [beq_eq_false_iff_ne]; exact h0
      have hDn : D = ⟨#[]⟩ := ba_ext (by rw [HDD.out, show_no (by rw [HZ.out]; exact h0)])
      subst hDn
      clear HDD HZ
      go_wp2_with fail
      go_ret
      exact ⟨rfl, HB2.out⟩
end Go.Proofs.YtkcpbjoolfojjaaGreatDoor.dataRounds

/- gazetteerref1.ReadName: walk. -/
import Derived.Test.YtjflojefpaffeaaPiece
import Derived.Test.YtjflojefpaffeaaCoded
import Derived.Test.YtjflojefpaffeaaRefC
namespace Go.Proofs.Ytjflojefpaffeaa.rread
open Go.RowKit Go.Proofs.Ytjflojefpaffeaa.kit Go.Proofs.Ytjflojefpaffeaa.nspec Go.Proofs.Ytjflojefpaffeaa.rsplit Go.Proofs.Ytjflojefpaffeaa.rput Go.Proofs.Ytjflojefpaffeaa.refA Go.Proofs.Ytjflojefpaffeaa.refC Go.Proofs.Ytjflojefpaffeaa.bld Go.Proofs.Ytjflojefpaffeaa.coded Go.Proofs.Ytjflojefpaffeaa.readS Go.Proofs.Ytjflojefpaffeaa.escaped Go.Proofs.Ytjflojefpaffeaa.piece
set_option linter.unusedVariables false

theorem own_ne {w : World} {B B' : Nat} {e e' : TypeId} {size size' n n' : Nat} {v v' : Value} {xs xs' : List Value} (h : w.ownsRow B e size v n xs) (h' : w.ownsRow B' e' size' v' n' xs') (hne : e ≠ e') : v.ownBlock = none ∨ v.ownBlock ≠ v'.ownBlock := by
  rcases h.2 with ⟨rfl, _⟩ | ⟨g, cap, cur, rfl, _, h3, _⟩
  · exact .inl rfl
  · right
    rcases h'.2 with ⟨rfl, _⟩ | ⟨g', cap', cur', rfl, _, h3', _⟩
    · simp [Value.ownBlock]
    · intro he
      have : g = g' := by simpa [Value.ownBlock] using he
      subst this
      rw [h3] at h3'
      injection h3' with h3'
      injection h3' with _ h5
      exact hne h5
theorem own_form {w : World} {B : Nat} {e : TypeId} {size n : Nat} {v : Value} {xs : List Value} (h : w.ownsRow B e size v n xs) : ∃ a c, v = .slice a n c := by
  rcases h.2 with ⟨rfl, rfl⟩ | ⟨g, cap, cur, rfl, _⟩
  · exact ⟨_, _, rfl⟩
  · exact ⟨_, _, rfl⟩
theorem room_snoc (l : List Bs) (x : Bs) : room (l ++ [x]) = room l + (x.length + 1) := by rw [room_append]; simp [room]
theorem len_room (l : List Bs) : l.length ≤ room l := by
  induction l with
  | nil => simp [room]
  | cons x r ih => simp [room] at ih ⊢; omega

set_option maxRecDepth 100000 in
set_option maxHeartbeats 4000000 in
theorem rread_any (text origin : ByteArray) (w : World) (ht : text.size ≤ 1099511600000) (ho : origin.size ≤ 1099511627776) :
    Calls Try.prog 50 #[.string text, .string origin] w fun e w' => e = Ret3 (readS text.data.toList origin.data.toList) ∧ Below w.heap.size w w' := by
  obtain ⟨i0, hi, hz0, hz1, hz2⟩ := info_parts infoByte
  obtain ⟨j0, ji, jz0, jz1, jz2⟩ := info_parts infoStr
  obtain ⟨R, HR⟩ : ∃ R, Hid (readS text.data.toList origin.data.toList = R) := ⟨_, Lib.hid rfl⟩
  rw [HR.out]
  rcases isB_or origin with ⟨base, hN⟩ | hN
  · have HO := Lib.hid hN
    have HRE : Hid ((if text.data.toList = [] then ([], 0, 2) else if text.data.toList = [64] then (origin.data.toList, 0, 0) else if text.data.toList = [46] then ([0], 0, 0) else resS base (rd [] [] 0 0 text.data.toList)) = R) := Lib.hid (by
      rw [← HR.out]; unfold readS; rw [split_iff.2 hN])
    have hbl := split_len hN
    have hbr := isN_room hN
    clear hN
    by_cases h0 : text.toList.isEmpty = true
    · have HRR : Hid (R = ([], 0, 2)) := Lib.hid (by
        rw [← HRE.out, if_pos (by rw [← Lib.toList_data]; simpa using h0)])
      go_enter Try.func50, Try.ntmps50
      go_wp2_with fail
      refine (split_yes origin base _ HO.out).mono ?_
      rintro e w1 ⟨v, rfl, hsv, hB1⟩
      obtain ⟨a, c, rfl, _⟩ := hsv.rd
      go_wp2
      go_ret3
      exact ⟨by rw [HRR.out]; rfl, hB1⟩
    · have h0' : text.toList.isEmpty = false := by simpa using h0
      have hne : text.data.toList ≠ [] := by rw [← Lib.toList_data]; simpa using h0'
      clear h0
      by_cases h64 : (text.toList == [64]) = true
      · have HRR : Hid (R = (origin.data.toList, 0, 0)) := Lib.hid (by
          rw [← HRE.out, if_neg hne, if_pos (by rw [← Lib.toList_data]; simpa using h64)])
        clear hne
        go_enter Try.func50, Try.ntmps50
        go_wp2_with fail
        refine (split_yes origin base _ HO.out).mono ?_
        rintro e w1 ⟨v, rfl, hsv, hB1⟩
        obtain ⟨a, c, rfl, _⟩ := hsv.rd
        go_wp2
        go_ret3
        exact ⟨by rw [HRR.out]; rfl, hB1⟩
      · have h64' : (text.toList == [64]) = false := by simpa using h64
        have hne64 : text.data.toList ≠ [64] := by rw [← Lib.toList_data]; simpa using h64'
        clear h64
        by_cases h46 : (text.toList == [46]) = true
        · have HRR : Hid (R = ([0], 0, 0)) := Lib.hid (by
            rw [← HRE.out, if_neg hne, if_neg hne64, if_pos (by rw [← Lib.toList_data]; simpa using h46)])
          clear hne hne64
          go_enter Try.func50, Try.ntmps50
          go_wp2_with fail
          refine (split_yes origin base _ HO.out).mono ?_
          rintro e w1 ⟨v, rfl, hsv, hB1⟩
          obtain ⟨a, c, rfl, _⟩ := hsv.rd
          go_wp2
          go_ret3
          exact ⟨by rw [HRR.out]; rfl, hB1⟩
        · have h46' : (text.toList == [46]) = false := by simpa using h46
          have hne46 : text.data.toList ≠ [46] := by rw [← Lib.toList_data]; simpa using h46'
          clear h46
          have HP : Hid (resS base (rd [] [] 0 0 (text.data.toList.drop 0)) = R) := Lib.hid (by
            rw [← HRE.out, if_neg hne, if_neg hne64, if_neg hne46]; rfl)
          clear hne hne64 hne46
          go_enter Try.func50, Try.ntmps50
          go_wp2_with fail
          refine (split_yes origin base _ HO.out).mono ?_
          rintro e w1 ⟨v, rfl, hsv, hB1⟩
          have HSV := Lib.hid hsv
          obtain ⟨a0, c0, rfl, _⟩ := hsv.rd
          clear hsv
          have hz1' := hB1.size
          go_wp2
          go_loopg [9, 10, 11, 12, 13, 14] (text.size + 1) (fun gas lv nv fv kv _ _ wr => ∃ (k first : Nat) (l : List Bs) (now : Bs), kv = .int .i64 k ∧ fv = .int .i64 first ∧ k ≤ text.size ∧ k < text.size + gas ∧ text.size < k + gas ∧ now.length ≤ 63 ∧ Hid (room l + now.length ≤ k) ∧ Hid (resS base (rd l now first k (text.data.toList.drop k)) = R) ∧ wr.ownsRow w1.heap.size 9 1 lv l.length (l.map strV) ∧ wr.ownsRow w1.heap.size 5 1 nv now.length (Lib.byteCells now) ∧ Below w1.heap.size w1 wr)
          case atStart => exact ⟨0, 0, [], [], rfl, rfl, by omega, by omega, by omega, by simp, Lib.hid (by simp [room]), HP, World.ownsRow_nil _ _ _ _, World.ownsRow_nil _ _ _ _, Below.refl _ _⟩
          case round =>
            clear HP
            obtain ⟨k, first, l, now, rfl, rfl, hk, hkg1, hkg2, hn63, HRM, HP, hL, hW, hB⟩ := hrel
            have HK2 := Lib.hid (And.intro hkg1 hkg2); clear hkg1 hkg2
            have hsz := hB.size
            have hll : l.length + now.length ≤ 1099511600000 := by have := HRM.out; have := len_room l; omega
            obtain ⟨an, cn, rfl⟩ := own_form hW
            obtain ⟨al, cl, rfl⟩ := own_form hL
            have hst := own_string (P := Try.prog) hW 73 9 5 Try.underlying73 Try.underlying5 Try.underlying9
            have hBw := hB1.trans (hB.mono hz1')
            by_cases hlt : k < text.size
            · obtain ⟨c, hc⟩ : ∃ c, text[k] = c := ⟨_, rfl⟩
              have HDR : Hid (text.data.toList.drop k = c :: text.data.toList.drop (k + 1)) := Lib.hid (by rw [drop_cons text k hlt, hc])
              have hc256 := byte_lt c
              by_cases hdot : c.toNat = 46
              · have hdotb : ((c.toNat : Int) == 46) = true := by rw [beq_iff_eq]; omega
                by_cases hnow : now = []
                · have HN : Hid (R = ([], (k : Int), 2)) := Lib.hid (by rw [← HP.out, HDR.out, rd_dot_no hdot hnow]; rfl)
                  have hn0 : (((now.length : Nat) : Int) == 0) = true := by rw [hnow]; rfl
                  clear hdot hnow
                  go_wp2
                  go_ret3
                  exact ⟨by rw [HN.out]; rfl, hBw⟩
                · have hpos : 1 ≤ now.length := List.length_pos_iff.2 hnow
                  have HP2 : Hid (resS base (rd (l ++ [now]) [] (k + 1) (k + 1) (text.data.toList.drop (k + 1))) = R) := Lib.hid (by rw [← HP.out, HDR.out, rd_dot hdot hnow])
                  have hn0 : (((now.length : Nat) : Int) == 0) = false := by rw [beq_eq_false_iff_ne]; omega
                  clear hdot hnow
                  go_wp2_with (at_builtin; refine wpList_append_own _ rfl _ _ 55 rfl w1.heap.size 9 j0 (.string ByteArray.empty) 1 16 Try.underlying55 ji jz0 jz1 jz2 rfl (by decide) _ _ _ rfl (hL.alloc _) ⟨wr.heap.size, 0, none⟩ 1 1 [.string ⟨now.toArray⟩] rfl rfl ?c1 ?c2 ?c3 ?c4 ?c5 ?_)
                  case c1 => exact cell_one_new _ _ _
                  case c2 => simp [Value.oneCell']
                  case c3 => unfold maxLen; omega
                  case c4 => omega
                  case c5 => simp; omega
                  intro v' w3 hown' hgrow _
                  have hown2 := own_snoc (y := now) rfl hown'
                  have hB2 := below_append hB hsz hL hgrow
                  clear hown' hgrow hst
                  go_wp2
                  have hkg := HK2.out
                  have hrm := HRM.out
                  go_roundg (gk - 1)
                  case rel => exact ⟨k + 1, k + 1, l ++ [now], [], by go_num, by go_num, by omega, by omega, by omega, by simp, Lib.hid (by rw [room_snoc]; simp; omega), HP2, hown2, World.ownsRow_nil _ _ _ _, hB2⟩
                  case measure => omega
              · have hdotb : ((c.toNat : Int) == 46) = false := by rw [beq_eq_false_iff_ne]; omega
                have hxd : (text.extract k text.size).data.toList = c :: text.data.toList.drop (k + 1) := by
                  rw [Lib.extract_data, ← HDR.out, List.take_of_length_le (by simp)]
                have hxs : (text.extract k text.size).size = text.size - k := by rw [ByteArray.size_extract]; omega
                have HC := Lib.hid (piece_any (text.extract k text.size) wr (by omega) (by omega))
                rw [hxd] at HC
                clear hxd hxs hst
                obtain ⟨E, hE⟩ : ∃ E, pieceS (c :: text.data.toList.drop (k + 1)) = E := ⟨_, rfl⟩
                rw [hE] at HC
                match E, hE, HC with
                | none, hE, HC =>
                  have HN : Hid (R = ([], (k : Int), 2)) := Lib.hid (by rw [← HP.out, HDR.out, rd_bad hdot hE]; rfl)
                  clear hdot hE
                  go_wp2_with fail
                  refine HC.out.mono ?_
                  rintro e w3 ⟨rfl, rfl⟩
                  unfold retE
                  go_wp2
                  go_ret3
                  exact ⟨by rw [HN.out]; rfl, hBw⟩
                | some (b', n'), hE, HC =>
                  have hnl := piece_len hE
                  have hnr : n' ≤ text.size - k := by have := hnl.2; rw [← HDR.out, List.length_drop, size_len] at this; exact this
                  have hn1 := hnl.1
                  have hn0 : ((n' : Int) == 0) = false := by rw [beq_eq_false_iff_ne]; omega
                  have hnk : (n' : Int) + (k : Int) ≤ (text.size : Int) := by omega
                  clear hnl
                  by_cases hfull : 63 ≤ now.length
                  · have HN : Hid (R = ([], (first : Int), 3)) := Lib.hid (by rw [← HP.out, HDR.out, rd_full hdot hE hfull]; rfl)
                    have hf : (((now.length : Nat) : Int) == 63) = true := by rw [beq_iff_eq]; omega
                    clear hdot hE
                    go_wp2_with fail
                    refine HC.out.mono ?_
                    rintro e w3 ⟨rfl, rfl⟩
                    unfold retE
                    go_wp2
                    go_ret3
                    exact ⟨by rw [HN.out]; rfl, hBw⟩
                  · have HP2 : Hid (resS base (rd l (now ++ [b']) first (k + n') (text.data.toList.drop (k + n'))) = R) := Lib.hid (by
                      rw [← HP.out, HDR.out, rd_go hdot hE (by omega), ← HDR.out, List.drop_drop])
                    have hf : (((now.length : Nat) : Int) == 63) = false := by rw [beq_eq_false_iff_ne]; omega
                    clear hdot hE
                    go_wp2_with fail
                    refine HC.out.mono ?_
                    rintro e w3 ⟨rfl, rfl⟩
                    unfold retE
                    go_wp2_with (at_builtin; refine wpList_append_own _ rfl _ _ 73 rfl w1.heap.size 5 i0 (.int .u8 0) 1 1 Try.underlying73 hi hz0 hz1 hz2 rfl (by decide) _ _ _ rfl (hW.alloc _) ⟨wr.heap.size, 0, none⟩ 1 1 [.int .u8 (b'.toNat : Int)] rfl rfl ?c1 ?c2 ?c3 ?c4 ?c5 ?_)
                    case c1 => exact cell_one_new _ _ _
                    case c2 => simp [Value.oneCell']
                    case c3 => unfold maxLen; omega
                    case c4 => omega
                    case c5 => simp; omega
                    intro v' w3 hown' hgrow _
                    have hown2 := own_snocB hown'
                    have hB2 := below_append hB hsz hW hgrow
                    have hL2 := (hL.alloc (.cells #[.int .u8 (b'.toNat : Int)] 5)).kept hgrow (own_ne hL hW (by decide))
                    clear hown' hgrow
                    go_wp2
                    have hkg := HK2.out
                    have hrm := HRM.out
                    go_roundg (gk - 1)
                    case rel => exact ⟨k + n', first, l, now ++ [b'], by go_num, rfl, by omega, by omega, by omega, by rw [List.length_append, List.length_singleton]; omega, Lib.hid (by rw [List.length_append, List.length_singleton]; omega), HP2, hL2, hown2, hB2⟩
                    case measure => omega
            · have hkk : text.data.toList.drop k = [] := drop_end text k (by omega)
              have HN : Hid (finS base l now = R) := Lib.hid (by rw [← HP.out, hkk, rd_nil]; rfl)
              have hrm := HRM.out
              have HST := Lib.hid hst
              clear hkk hst
              by_cases hnow : now = []
              · have hpd : decide (0 < now.length) = false := by rw [hnow]; rfl
                obtain ⟨Lf, hLfe0⟩ : ∃ Lf, endL base l now = Lf := ⟨_, rfl⟩
                have hLfl : l = Lf := by rw [← hLfe0, endL, if_pos hnow]
                subst hLfl
                have hLfe := hLfe0
                have HRF : Hid (room l ≤ 1099511600300) := Lib.hid (by omega)
                have hLf := hL
                have hBf := hBw
                have hn0 : ¬ 0 < now.length := by rw [hnow]; simp
                have HLFE := Lib.hid hLfe
                clear hL hW hrm hLfe0 hLfe hnow
                obtain ⟨af, cf, hvf, hrdf⟩ := Rd.of_own hLf
                cases hvf
                have HRD := Lib.hid hrdf
                clear hLf hrdf
                go_wp2
                go_loopg [15, 17, 86] (l.length + 1) (fun gas zv _ jv wq => ∃ (j z : Nat), zv = .int .i64 z ∧ jv = .int .i64 j ∧ j ≤ l.length ∧ j + gas = l.length + 1 ∧ z ≤ 1099511600400 ∧ Hid (z = 1 + room (l.take j)) ∧ wq = wr)
                case atStart => exact ⟨0, 1, rfl, rfl, by omega, by omega, by omega, Lib.hid rfl, rfl⟩
                case round =>
                  obtain ⟨j, z, rfl, rfl, hj, hjg, hz9, HZ, rfl⟩ := hrel
                  have HJG := Lib.hid hjg; clear hjg
                  by_cases hlj : j < l.length
                  · obtain ⟨x, hx⟩ : ∃ x, l[j]? = some x := ⟨_, List.getElem?_eq_getElem hlj⟩
                    obtain ⟨g1, o1, rfl, _, hg1, hcl1⟩ := HRD.out _ x hx
                    have htk : room (l.take (j + 1)) = room (l.take j) + (x.length + 1) := by
                      rw [List.take_add_one, hx]; simp [room]
                    have hle : room (l.take (j + 1)) ≤ room l := by
                      have := room_append (l.take (j + 1)) (l.drop (j + 1)); rw [List.take_append_drop] at this; omega
                    obtain ⟨Z, hZ⟩ : ∃ Z, room (l.take (j + 1)) = Z := ⟨_, rfl⟩
                    rw [hZ] at htk hle
                    have hzz := HZ.out
                    have hrf := HRF.out
                    have HZ2 : Hid (1 + Z = 1 + room (l.take (j + 1))) := Lib.hid (by rw [hZ])
                    unfold strV at hcl1
                    obtain ⟨X, hX⟩ : ∃ X : ByteArray, ⟨x.toArray⟩ = X := ⟨_, rfl⟩
                    have hXl : x.length = X.size := by rw [← hX, mk_size]
                    rw [hX] at hcl1
                    have hsum : Value.int .i64 ((z : Int) + (1 + (X.size : Int))) = Value.int .i64 ((1 + Z : Nat) : Int) := by congr 1; omega
                    have hXs : X.size ≤ 1099511600300 := by omega
                    have hZ9 : 1 + Z ≤ 1099511600400 := by omega
                    clear htk hle hzz hrf hX hXl hx hZ
                    go_wp2
                    have hjg := HJG.out
                    go_roundg (gk - 1)
                    case rel => exact ⟨j + 1, 1 + Z, (by first | exact hsum | rfl), by go_num, by omega, by omega, hZ9, HZ2, rfl⟩
                    case measure => omega
                  · have hzz := HZ.out
                    rw [List.take_of_length_le (by omega)] at hzz
                    by_cases hbig : 255 < z
                    · have hbi : (255 : Int) < (z : Int) := by omega
                      have HN2 : Hid (R = ([], 0, 4)) := Lib.hid (by rw [← HN.out, finS, HLFE.out, if_pos (by omega)])
                      clear hzz
                      go_wp2
                      go_ret3
                      exact ⟨by rw [HN2.out]; rfl, hBf⟩
                    · have hbi : (z : Int) ≤ 255 := by omega
                      have HN2 : Hid (R = (put l, 0, 0)) := Lib.hid (by rw [← HN.out, finS, HLFE.out, if_neg (by omega)])
                      have hrf := HRF.out
                      have hll9 := len_room l
                      clear hzz
                      go_wp2_with fail
                      refine (put_any _ _ l _ (HRD.out.mono (Nat.zero_le _)) (by omega) (by omega)).mono ?_
                      rintro e w7 ⟨rfl, hB7⟩
                      unfold strV
                      go_wp2
                      go_ret3
                      exact ⟨by rw [HN2.out]; rfl, hBf.trans (hB7.mono hBf.size)⟩
              · have hpos : 1 ≤ now.length := List.length_pos_iff.2 hnow
                have hpd : decide (0 < now.length) = true := by simp; omega
                obtain ⟨Lf, hLfe⟩ : ∃ Lf, endL base l now = Lf := ⟨_, rfl⟩
                have hLfs : Lf = l ++ [now] ++ base := by rw [← hLfe, endL, if_neg hnow]
                have HRF : Hid (room Lf ≤ 1099511600300) := Lib.hid (by rw [hLfs, room_append, room_snoc]; omega)
                have HLFE := Lib.hid hLfe
                have HLFS := Lib.hid hLfs
                have hst2 := HST.out
                clear hrm hLfe hLfs hnow
                go_wp2_with (at_builtin; refine wpList_append_own _ rfl (.tmp 76) (.tmp 79) 55 rfl w1.heap.size 9 j0 (.string ByteArray.empty) 1 16 Try.underlying55 ji jz0 jz1 jz2 rfl (by decide) _ _ _ rfl (hL.alloc _) ⟨wr.heap.size, 0, none⟩ 1 1 [.string ⟨now.toArray⟩] rfl rfl ?c1 ?c2 ?c3 ?c4 ?c5 ?_)
                case c1 => exact cell_one_new _ _ _
                case c2 => simp [Value.oneCell']
                case c3 => unfold maxLen; omega
                case c4 => omega
                case c5 => simp; omega
                intro v5 w5 hown5' hgrow5 _
                have hown5 := own_snoc (y := now) rfl hown5'
                have hB5 := below_append hB hsz hL hgrow5
                have hz5 := hB5.size
                clear hown5' hgrow5 hst2
                have hsvb := HSV.out.below hB5 rfl
                have hsrc : (a0 = none ∧ base.length = 0 ∧ c0 = 0) ∨ ∃ ad, a0 = some ad ∧ ∀ (j : Nat) (u : Value), (base.map strV)[j]? = some u → w5.cell? (ad.add j) = some u := by
                  rcases hsvb with ⟨h1, h2⟩ | ⟨_, g, c, h2, _, _, _, _, h5⟩
                  · injection h2 with e1 e2 e3; exact .inl ⟨e1, e2, e3⟩
                  · injection h2 with e1 e2 e3
                    subst e1
                    refine .inr ⟨_, rfl, fun j u hu => ?_⟩
                    rw [List.getElem?_map] at hu
                    cases hx : base[j]? with
                    | none => rw [hx] at hu; simp at hu
                    | some x =>
                      rw [hx] at hu
                      have hu2 : strV x = u := by simpa using hu
                      rw [addr_add, h5 j x hx, hu2]
                have HSRC := Lib.hid hsrc
                clear hsrc hsvb
                go_wp2_with (at_builtin; refine wpList_append_src rfl (.tmp 81) (.tmp 82) 55 rfl w1.heap.size 9 j0 (.string ByteArray.empty) 1 16 Try.underlying55 ji jz0 jz1 jz2 rfl (by decide) v5 _ _ rfl hown5 a0 base.length c0 (base.map strV) rfl ?b1 HSRC.out (one_str _) ?b3 ?b4 ?b5 ?_)
                case b1 => simp
                case b3 => rw [List.length_append, List.length_singleton]; unfold maxLen; omega
                case b4 => rw [List.length_append, List.length_singleton]; omega
                case b5 => omega
                intro v6 w6 hown6 hgr6
                have hB6 : Below w1.heap.size w1 w6 := below_append' hB5 hz5 hown5 hgr6
                have hLf : w6.ownsRow w1.heap.size 9 1 v6 Lf.length (Lf.map strV) := by
                  rw [HLFS.out]; simpa [Nat.add_assoc, Nat.add_comm, Nat.add_left_comm] using hown6
                have hBf := hB1.trans (hB6.mono hz1')
                clear hown6 hgr6 hown5 hB5 hW hL
                obtain ⟨af, cf, hvf, hrdf⟩ := Rd.of_own hLf
                have hLb := Nat.le_trans (len_room Lf) HRF.out
                cases hvf
                have HRD := Lib.hid hrdf
                clear hLf hrdf
                go_wp2
                go_loopg [15, 17, 86] (Lf.length + 1) (fun gas zv _ jv wq => ∃ (j z : Nat), zv = .int .i64 z ∧ jv = .int .i64 j ∧ j ≤ Lf.length ∧ j + gas = Lf.length + 1 ∧ z ≤ 1099511600400 ∧ Hid (z = 1 + room (Lf.take j)) ∧ wq = w6)
                case atStart => exact ⟨0, 1, rfl, rfl, by omega, by omega, by omega, Lib.hid rfl, rfl⟩
                case round =>
                  obtain ⟨j, z, rfl, rfl, hj, hjg, hz9, HZ, rfl⟩ := hrel
                  have HJG := Lib.hid hjg; clear hjg
                  by_cases hlj : j < Lf.length
                  · obtain ⟨x, hx⟩ : ∃ x, Lf[j]? = some x := ⟨_, List.getElem?_eq_getElem hlj⟩
                    obtain ⟨g1, o1, rfl, _, hg1, hcl1⟩ := HRD.out _ x hx
                    have htk : room (Lf.take (j + 1)) = room (Lf.take j) + (x.length + 1) := by
                      rw [List.take_add_one, hx]; simp [room]
                    have hle : room (Lf.take (j + 1)) ≤ room Lf := by
                      have := room_append (Lf.take (j + 1)) (Lf.drop (j + 1)); rw [List.take_append_drop] at this; omega
                    obtain ⟨Z, hZ⟩ : ∃ Z, room (Lf.take (j + 1)) = Z := ⟨_, rfl⟩
                    rw [hZ] at htk hle
                    have hzz := HZ.out
                    have hrf := HRF.out
                    have HZ2 : Hid (1 + Z = 1 + room (Lf.take (j + 1))) := Lib.hid (by rw [hZ])
                    unfold strV at hcl1
                    obtain ⟨X, hX⟩ : ∃ X : ByteArray, ⟨x.toArray⟩ = X := ⟨_, rfl⟩
                    have hXl : x.length = X.size := by rw [← hX, mk_size]
                    rw [hX] at hcl1
                    have hsum : Value.int .i64 ((z : Int) + (1 + (X.size : Int))) = Value.int .i64 ((1 + Z : Nat) : Int) := by congr 1; omega
                    have hXs : X.size ≤ 1099511600300 := by omega
                    have hZ9 : 1 + Z ≤ 1099511600400 := by omega
                    clear htk hle hzz hrf hX hXl hx hZ
                    go_wp2
                    have hjg := HJG.out
                    go_roundg (gk - 1)
                    case rel => exact ⟨j + 1, 1 + Z, (by first | exact hsum | rfl), by go_num, by omega, by omega, hZ9, HZ2, rfl⟩
                    case measure => omega
                  · have hzz := HZ.out
                    rw [List.take_of_length_le (by omega)] at hzz
                    by_cases hbig : 255 < z
                    · have hbi : (255 : Int) < (z : Int) := by omega
                      have HN2 : Hid (R = ([], 0, 4)) := Lib.hid (by rw [← HN.out, finS, HLFE.out, if_pos (by omega)])
                      clear hzz
                      go_wp2
                      go_ret3
                      exact ⟨by rw [HN2.out]; rfl, hBf⟩
                    · have hbi : (z : Int) ≤ 255 := by omega
                      have HN2 : Hid (R = (put Lf, 0, 0)) := Lib.hid (by rw [← HN.out, finS, HLFE.out, if_neg (by omega)])
                      have hrf := HRF.out
                      have hll9 := len_room Lf
                      clear hzz
                      go_wp2_with fail
                      refine (put_any _ _ Lf _ (HRD.out.mono (Nat.zero_le _)) (by omega) (by omega)).mono ?_
                      rintro e w7 ⟨rfl, hB7⟩
                      unfold strV
                      go_wp2
                      go_ret3
                      exact ⟨by rw [HN2.out]; rfl, hBf.trans (hB7.mono hBf.size)⟩
  · have HRR : Hid (R = ([], 0, 1)) := Lib.hid (by rw [← HR.out]; unfold readS; rw [hN])
    have HNN := Lib.hid hN
    clear hN
    go_enter Try.func50, Try.ntmps50
    go_wp2_with fail
    refine (split_no origin _ ho HNN.out).mono ?_
    rintro e w1 ⟨a, n, c, rfl, hB1⟩
    go_wp2
    go_ret3
    exact ⟨by rw [HRR.out]; rfl, hB1⟩
end Go.Proofs.Ytjflojefpaffeaa.rread

/- gazetteerref1.Set: walk. -/
import Derived.Test.YtjejmgdpjfdhjaaDoorSetJ
import Derived.Test.YtjejmgdpjfdhjaaDoorSetW
import Derived.Test.YtjejmgdpjfdhjaaDoorTwo
import Derived.Deep.AppendLies

namespace Go.Proofs.YtjejmgdpjfdhjaaDoor.rset
open Go.RowKit Go.Proofs.YtjejmgdpjfdhjaaDoor.kit Go.Proofs.YtjejmgdpjfdhjaaDoor.nspec Go.Proofs.YtjejmgdpjfdhjaaDoor.bits Go.Proofs.YtjejmgdpjfdhjaaDoor.ints Go.Proofs.YtjejmgdpjfdhjaaDoor.fld Go.Proofs.YtjejmgdpjfdhjaaDoor.typesP Go.Proofs.YtjejmgdpjfdhjaaDoor.setP Go.Proofs.YtjejmgdpjfdhjaaDoor.setW Go.Proofs.YtjejmgdpjfdhjaaDoor.setJ Go.Proofs.YtjejmgdpjfdhjaaDoor.bld Go.Proofs.YtjejmgdpjfdhjaaDoor.coded
set_option linter.unusedVariables false

theorem infoB : (Tryd.prog.info? 4).map (fun i => (i.zero, i.size, i.bytes)) = some (some (.bool false), 1, 1) := by kernel_rfl
/-- the row of marks -/
def TR (w : World) (g : Nat) (m : Nat → Bool) : Prop := g < w.heap.size ∧ ∀ t, t < 65536 → w.cell? ⟨g, t, none⟩ = some (.bool (m t)) ∧ w.frozen? ⟨g, t, none⟩ = false
section
variable {w w1 : World} {g : Nat} {m : Nat → Bool}
theorem TR.keep (h : TR w g m) (hs : w.heap.size ≤ w1.heap.size) (hb : w1.heap[g]? = w.heap[g]?) : TR w1 g m :=
  ⟨Nat.lt_of_lt_of_le h.1 hs, fun t ht => ⟨(two.cell_same (p := ⟨g, t, none⟩) hb).trans (h.2 t ht).1, (two.frozen_same (p := ⟨g, t, none⟩) hb).trans (h.2 t ht).2⟩⟩
theorem TR.below {B : Nat} (h : TR w g m) (hB : Below B w w1) (hg : g < B) : TR w1 g m := h.keep hB.size (hB.block g hg)
theorem TR.set (h : TR w g m) {t : Nat} (ht : t < 65536) : TR (w.setCell ⟨g, t, none⟩ (.bool true)) g (fun x => x == t || m x) := by
  refine ⟨by have := h.1; simp [World.setCell]; exact this, fun x hx => ⟨?_, by rw [World.frozen?_setCell]; exact (h.2 x hx).2⟩⟩
  by_cases e : x = t
  · subst e
    rw [World.cell?_setCell_same' _ _ _ (by rw [(h.2 x hx).1]; rfl)]
    simp
  · rw [World.cell?_setCell_other _ _ _ _ (by intro e'; injection e' with _ e2; exact e e2.symm), (h.2 x hx).1]
    simp [e]
end
set_option maxRecDepth 100000 in
set_option maxHeartbeats 4000000 in
theorem rset_any (a : Option Addr) (n c : Nat) (L : List Int) (w : World) (hn : n = L.length) (hr : RdI w a L) (hbig : n ≤ 1073741824) :
    Calls Tryd.prog 12 #[.slice a n c] w fun e w' => e = .returned (.string ⟨(setL (sortL L)).toArray⟩) ∧ Below w.heap.size w w' := by
  obtain ⟨i0, hi, hz0, hz1, hz2⟩ := info_parts infoB
  obtain ⟨i1, hj, hy0, hy1, hy2⟩ := info_parts infoByte
  have HN := Lib.hid hn; have HRD := Lib.hid hr
  clear hn hr
  go_enter Tryd.func12, Tryd.ntmps12
  go_wp2_with (refine wpList_make_full _ rfl (.const (.int .i64 65536)) (.const (.int .i64 65536)) 42 rfl w.heap.size 4 i0 (.bool false) 1 Tryd.underlying42 hi hz0 hz1 .i64 .i64 (65536 : Int) (65536 : Int) 65536 rfl rfl rfl rfl ?b2 ?b3 (Nat.le_refl _) ?_)
  case b2 => rw [hz2]; omega
  case b3 => unfold maxLen; omega
  intro w1 hown hgrow
  have HT1 : Hid (TR w1 w.heap.size (fun _ => false)) := Lib.hid (by
    refine ⟨(hown.lt _ rfl).2, fun t ht => ⟨?_, hown.frozenAt t⟩⟩
    rw [hown.cellAt t ht, toList_madeCells_one]
    rw [List.getElem?_replicate, if_pos ht])
  have HB1 : Hid (Below w.heap.size w w1) := Lib.hid ((Below.refl _ w).grown hgrow (Nat.le_refl _) (fun k hk => by cases hk))
  clear hown hgrow
  go_wp2_with fail
  go_loopg [16] (n + 1) (fun gas kv wr => ∃ (k : Nat) (m : Nat → Bool), kv = .int .i64 (k : Int) ∧ k ≤ n ∧ k + gas = n + 1 ∧ Hid (TR wr w.heap.size m) ∧ Hid (∀ t, t < 65536 → (m t = true ↔ ((t : Int) ∈ L.take k ∧ isT (t : Int)))) ∧ Hid (Below w.heap.size w wr))
  case atStart => exact ⟨0, _, rfl, by omega, by omega, HT1, Lib.hid (fun t _ => by simp), HB1⟩
  case round =>
    obtain ⟨k, m, rfl, hk, hkg, HT, HM, HB⟩ := hrel
    have HKG := Lib.hid hkg
    clear hkg
    by_cases hlt : k < n
    · obtain ⟨x, hx⟩ : ∃ x, L[k]? = some x := ⟨_, List.getElem?_eq_getElem (by have := HN.out; omega)⟩
      obtain ⟨g, o, rfl, hg, hcl⟩ := HRD.out k x hx
      have hcx := (HB.out.cell (p := ⟨g, o + k, none⟩) hg).trans hcl
      have HTK : Hid (L.take (k + 1) = L.take k ++ [x]) := Lib.hid (by rw [List.take_add_one, hx]; rfl)
      have zk : (0 : Int) ≤ (k : Int) := by omega
      have zl : (k : Int) < (n : Int) := by omega
      clear hcl hx
      by_cases hv : isT x
      · obtain ⟨t, rfl⟩ : ∃ t : Nat, x = (t : Int) := ⟨x.toNat, by unfold isT at hv; omega⟩
        have ht1 : (1 : Int) ≤ (t : Int) := hv.1
        have ht2 : (t : Int) ≤ 65535 := hv.2
        have ht3 : t < 65536 := by omega
        have ht4 : (t : Int) < 65536 := by omega
        have ht0 : (0 : Int) ≤ (t : Int) := by omega
        have c0 := (HT.out.2 t ht3).1
        have f0 := (HT.out.2 t ht3).2
        have hTl := HT.out.1
        have HT2 := Lib.hid (HT.out.set ht3)
        have HM2 : Hid (∀ y, y < 65536 → ((y == t || m y) = true ↔ ((y : Int) ∈ L.take (k + 1) ∧ isT (y : Int)))) := Lib.hid (fun y hy => by
          rw [HTK.out, List.mem_append, List.mem_singleton, Bool.or_eq_true, beq_iff_eq, HM.out y hy]
          constructor
          · rintro (rfl | ⟨h1, h2⟩)
            · exact ⟨.inr rfl, hv⟩
            · exact ⟨.inl h1, h2⟩
          · rintro ⟨h1 | h1, h2⟩
            · exact .inr ⟨h1, h2⟩
            · exact .inl (by omega))
        have HB2 := Lib.hid (HB.out.setCell (p := ⟨w.heap.size, t, none⟩) (Nat.le_refl _) (.bool true))
        clear hv
        go_wp2_with fail
        have hkg := HKG.out
        go_roundg (gk - 1)
        case rel => exact ⟨k + 1, _, by go_num, by omega, by omega, HT2, HM2, HB2⟩
        case measure => omega
      · have HM2 : Hid (∀ y, y < 65536 → (m y = true ↔ ((y : Int) ∈ L.take (k + 1) ∧ isT (y : Int)))) := Lib.hid (fun y hy => by
          rw [HTK.out, List.mem_append, List.mem_singleton, HM.out y hy]
          constructor
          · rintro ⟨h1, h2⟩; exact ⟨.inl h1, h2⟩
          · rintro ⟨h1 | h1, h2⟩
            · exact ⟨h1, h2⟩
            · rw [h1] at h2; exact absurd h2 hv)
        by_cases hlo : x < 1
        · clear hv
          go_wp2_with fail
          have hkg := HKG.out
          go_roundg (gk - 1)
          case rel => exact ⟨k + 1, _, by go_num, by omega, by omega, HT, HM2, HB⟩
          case measure => omega
        · have hlo2 : 1 ≤ x := by omega
          have hhi : 65535 < x := by unfold isT at hv; omega
          clear hv hlo
          go_wp2_with fail
          have hkg := HKG.out
          go_roundg (gk - 1)
          case rel => exact ⟨k + 1, _, by go_num, by omega, by omega, HT, HM2, HB⟩
          case measure => omega
    · have hkn : k = n := by omega
      have HMM : Hid (∀ t, t < 65536 → (m t = true ↔ ((t : Int) ∈ L ∧ isT (t : Int)))) := Lib.hid (fun t ht => by
        have := HM.out t ht
        rw [List.take_of_length_le (by have := HN.out; omega)] at this; exact this)
      clear HM HKG hk HRD HN hlt
      subst hkn
      have hN0 := HT.out.1
      go_wp2_with fail
      go_loopg [6, 7] 257 (fun gas ov bv wr => ∃ (b : Nat) (O : Bs) (v : Value), ov = v ∧ bv = .int .i64 (b : Int) ∧ b ≤ 256 ∧ b + gas = 257 ∧ Hid (TR wr w.heap.size m) ∧ Hid (wr.ownsRow (w.heap.size + 1) 5 1 v O.length (Lib.byteCells O)) ∧ Hid (O.length ≤ 34 * b) ∧ Hid (setJ.Told O b m) ∧ Hid (Below w.heap.size w wr))
      case atStart => exact ⟨0, [], _, rfl, rfl, by omega, by omega, HT, Lib.hid (World.ownsRow_nil _ _ _ _), Lib.hid (by simp), Lib.hid (setJ.told_0 m), HB⟩
      case round =>
        obtain ⟨b, O, v, rfl, rfl, hb, hbg, HT2, HO, HOL, HTO, HB2⟩ := hrel
        have HBG := Lib.hid hbg
        clear hbg HT HB hN0
        by_cases hbl : b < 256
        · obtain ⟨gq, rfl⟩ : ∃ gq, gk = gq + 1 := ⟨gk - 1, by have := HBG.out; omega⟩
          have hbl2 : (b : Int) < 256 := by omega
          have hN0 := HT2.out.1
          go_wp2_with fail
          go_loopg [8, 9] 257 (fun gas nv kv wx => ∃ (k nn : Nat), nv = .int .i64 (nn : Int) ∧ kv = .int .i64 (k : Int) ∧ k ≤ 256 ∧ k + gas = 257 ∧ nn ≤ 32 ∧ Hid (∀ j, j < k → m (256 * b + j) = true → j / 8 + 1 ≤ nn) ∧ Hid (nn = 0 ∨ ∃ j, j < k ∧ m (256 * b + j) = true ∧ nn = j / 8 + 1) ∧ wr = wx)
          case atStart => exact ⟨0, 0, rfl, rfl, by omega, by omega, by omega, Lib.hid (fun j h => by omega), Lib.hid (.inl rfl), rfl⟩
          case round =>
            obtain ⟨k, nn, rfl, rfl, hk2, hkg2, hnn, HMAX, HIS, rfl⟩ := hrel
            have HKG := Lib.hid hkg2
            clear hkg2
            by_cases hkl : k < 256
            · obtain ⟨t, ht⟩ : ∃ t, 256 * b + k = t := ⟨_, rfl⟩
              have ht3 : t < 65536 := by omega
              have ht0 : (0 : Int) ≤ (t : Int) := by omega
              have ht4 : (t : Int) < 65536 := by omega
              have c0 := (HT2.out.2 t ht3).1
              have hidx : Value.int .i64 (256 * (b : Int) + (k : Int)) = Value.int .i64 (t : Int) := by congr 1; omega
              have hkl2 : (k : Int) < 256 := by omega
              have HTT := Lib.hid ht
              cases hm : m t with
              | true =>
                rw [hm] at c0
                have HMAX2 : Hid (∀ j, j < k + 1 → m (256 * b + j) = true → j / 8 + 1 ≤ k / 8 + 1) := Lib.hid (fun j h _ => by omega)
                have HIS2 : Hid (k / 8 + 1 = 0 ∨ ∃ j, j < k + 1 ∧ m (256 * b + j) = true ∧ k / 8 + 1 = j / 8 + 1) := Lib.hid (.inr ⟨k, by omega, by rw [ht]; exact hm, rfl⟩)
                clear ht hm
                go_wp2_with fail
                have hkg := HKG.out
                go_roundg (gk - 1)
                case rel => exact ⟨k + 1, k / 8 + 1, congrArg (Value.int .i64) (by omega), by go_num, by omega, by omega, by omega, HMAX2, HIS2, rfl⟩
                case measure => omega
              | false =>
                rw [hm] at c0
                have HMAX2 : Hid (∀ j, j < k + 1 → m (256 * b + j) = true → j / 8 + 1 ≤ nn) := Lib.hid (fun j h h2 => by
                  by_cases e : j = k
                  · subst e; rw [ht, hm] at h2; cases h2
                  · exact HMAX.out j (by omega) h2)
                have HIS2 : Hid (nn = 0 ∨ ∃ j, j < k + 1 ∧ m (256 * b + j) = true ∧ nn = j / 8 + 1) := Lib.hid (HIS.out.imp id (fun ⟨j, h1, h2⟩ => ⟨j, by omega, h2⟩))
                clear ht hm
                go_wp2_with fail
                have hkg := HKG.out
                go_roundg (gk - 1)
                case rel => exact ⟨k + 1, nn, rfl, by go_num, by omega, by omega, by omega, HMAX2, HIS2, rfl⟩
                case measure => omega
            · have hke : k = 256 := by omega
              subst hke
              by_cases hz : nn = 0
              · subst hz
                have HT4 : Hid (setJ.Told O (b + 1) m) := Lib.hid (setJ.told_none HTO.out (fun j hj => by
                  cases h : m (256 * b + j) with
                  | false => rfl
                  | true => have := HMAX.out j hj h; omega))
                go_wp2_with fail
                have hbg := HBG.out
                go_roundg gq
                case rel => exact ⟨b + 1, O, _, rfl, by go_num, by omega, by omega, HT2, HO, Lib.hid (by have := HOL.out; omega), HT4, HB2⟩
                case measure => omega
              · obtain ⟨j0, hj0, hmj, hnj⟩ : ∃ j, j < 256 ∧ m (256 * b + j) = true ∧ nn = j / 8 + 1 := HIS.out.resolve_left hz
                have HJ0 : Hid (∃ j, j < 256 ∧ m (256 * b + j) = true ∧ nn = j / 8 + 1) := Lib.hid ⟨j0, hj0, hmj, hnj⟩
                have hnb : ((nn : Int) == 0) = false := by rw [beq_eq_false_iff_ne]; omega
                have hnn2 : (nn : Int) < 256 := by omega
                have hOl := HOL.out
                obtain ⟨q, hq⟩ : ∃ q, O.length = q := ⟨_, rfl⟩
                have HQ := Lib.hid hq
                have hO := HO.out
                rw [hq] at hO hOl
                have hlow : w.heap.size + 1 ≤ wr.heap.size := hN0
                clear hj0 hmj hnj hq hz
                go_upto_region 19 with fail
                go_wp2_with (at_builtin; refine wpList_append_lies _ rfl _ _ 38 rfl (w.heap.size + 1) 5 i1 _ 1 1 Tryd.underlying38 hj hy0 hy1 hy2 rfl (by decide) _ q (Lib.byteCells O) rfl (hO.alloc _) ⟨wr.heap.size, 0, none⟩ 2 2 [.int .u8 (b : Int), .int .u8 (nn : Int)] rfl rfl ?d1 ?d2 (by decide) ?d3 ?d4 ?d5 _ rfl ?_)
                case d1 => exact World.news_of_block (heap_alloc_new _ _)
                case d2 => intro u hu; simp only [List.mem_cons, List.not_mem_nil, or_false] at hu; rcases hu with rfl | rfl <;> rfl
                case d3 => unfold maxLen; omega
                case d4 => omega
                case d5 => first | omega | (simp; omega)
                intro g3 cp w7 hown7 hgr hat hlt7
                have HT7 : Hid (TR w7 w.heap.size m) := Lib.hid (HT2.out.keep (by have := hgr.size; rw [World.size_alloc] at this; omega) (two.block_kept hgr hN0 (fun e => by have := (hO.lt _ e).1; omega)))
                have HB7 : Hid (Below w.heap.size w w7) := Lib.hid ((HB2.out.alloc (by omega) _).grown hgr (by simp; omega) (fun k hk => by have := (hO.lt k hk).1; omega))
                have HO7 : Hid (w7.ownsRow (w.heap.size + 1) 5 1 (.slice (some ⟨g3, 0, none⟩) (q + 2) cp) (q + 2 + 0) (Lib.byteCells (O ++ (UInt8.ofNat b :: UInt8.ofNat nn :: rowS (fun k => m (256 * b + k)) 0)))) := Lib.hid (by
                  have e1 : ((UInt8.ofNat b).toNat : Int) = (b : Int) := by rw [UInt8.toNat_ofNat_of_lt' (by show b < 256; omega)]
                  have e2 : ((UInt8.ofNat nn).toNat : Int) = (nn : Int) := by rw [UInt8.toNat_ofNat_of_lt' (by show nn < 256; omega)]
                  have e3 : Lib.byteCells (O ++ (UInt8.ofNat b :: UInt8.ofNat nn :: rowS (fun k => m (256 * b + k)) 0)) = Lib.byteCells O ++ [.int .u8 (b : Int), .int .u8 (nn : Int)] := by
                    simp only [Lib.byteCells, rowS, List.range_zero, List.map_nil, List.map_append, List.map_cons, e1, e2]
                  rw [e3]; exact hown7)
                clear hown7 hgr hat hlt7 hO
                go_wp2_with fail
                go_loopg [6, 10] (nn + 1) (fun gas ov jv wx => ∃ (j : Nat) (v : Value), v = ov ∧ jv = .int .i64 (j : Int) ∧ j ≤ nn ∧ j + gas = nn + 1 ∧ Hid (TR wx w.heap.size m) ∧ Hid (wx.ownsRow (w.heap.size + 1) 5 1 v (q + 2 + j) (Lib.byteCells (O ++ (UInt8.ofNat b :: UInt8.ofNat nn :: rowS (fun k => m (256 * b + k)) j)))) ∧ Hid (Below w.heap.size w wx))
                case atStart => exact ⟨0, _, rfl, rfl, by omega, by omega, HT7, HO7, HB7⟩
                case round =>
                  obtain ⟨j, v, rfl, rfl, hjn, hjg, HT8, HO8, HB8⟩ := hrel
                  have HJG := Lib.hid hjg
                  clear hjg HT7 HO7 HB7
                  by_cases hjl : j < nn
                  · obtain ⟨gr, rfl⟩ : ∃ gr, gk = gr + 1 := ⟨gk - 1, by have := HJG.out; omega⟩
                    have hjl2 : (j : Int) < (nn : Int) := by omega
                    obtain ⟨F, hF⟩ : ∃ F : Nat → Bool, (fun i => m (256 * b + (8 * j + i))) = F := ⟨_, rfl⟩
                    have hN8 := HT8.out.1
                    go_wp2_with fail
                    go_loopg [11, 12] 9 (fun gas vv kv wy => ∃ k : Nat, vv = .int .i64 (vS F k : Int) ∧ kv = .int .i64 (k : Int) ∧ k ≤ 8 ∧ k + gas = 9 ∧ wr = wy)
                    case atStart => exact ⟨0, rfl, rfl, by omega, by omega, rfl⟩
                    case round =>
                      obtain ⟨k, rfl, rfl, hk8, hk8g, rfl⟩ := hrel
                      have HKG := Lib.hid hk8g
                      clear hk8g
                      obtain ⟨V, hV⟩ : ∃ V, vS F k = V := ⟨_, rfl⟩
                      have hVb : V ≤ 255 := by
                        have h1 := vS_lt F k
                        have h2 : 2 ^ k ≤ 2 ^ 8 := Nat.pow_le_pow_right (by omega) hk8
                        rw [hV] at h1; omega
                      by_cases hkl : k < 8
                      · have hkl2 : (k : Int) < 8 := by omega
                        have ht3 : 256 * b + 8 * j + k < 65536 := by omega
                        have c0 := (HT8.out.2 (256 * b + 8 * j + k) ht3).1
                        have hFk : F k = m (256 * b + 8 * j + k) := by rw [← hF]; show m (256 * b + (8 * j + k)) = _; rw [Nat.add_assoc]
                        have hS := vS_succ F k
                        rw [hV] at hS
                        have HSS : Hid (∃ W, vS F (k + 1) = W ∧ W = 2 * V + (if F k then 1 else 0)) := Lib.hid ⟨_, rfl, hS⟩
                        rw [hV]
                        cases hm : m (256 * b + 8 * j + k) with
                        | true =>
                          rw [hm] at c0
                          have hE : vS F (k + 1) = 2 * V + 1 := by rw [hS, hFk, hm]; rfl
                          have HE := Lib.hid hE
                          clear hm hFk hS hE hV
                          go_wp2_with fail
                          have hkg := HKG.out
                          go_roundg (gk - 1)
                          case rel => exact ⟨k + 1, congrArg (Value.int .i64) (by rw [HE.out]; omega), by go_num, by omega, by omega, rfl⟩
                          case measure => omega
                        | false =>
                          rw [hm] at c0
                          have hE : vS F (k + 1) = 2 * V := by rw [hS, hFk, hm]; rfl
                          have HE := Lib.hid hE
                          clear hm hFk hS hE hV
                          go_wp2_with fail
                          have hkg := HKG.out
                          go_roundg (gk - 1)
                          case rel => exact ⟨k + 1, congrArg (Value.int .i64) (by rw [HE.out]; omega), by go_num, by omega, by omega, rfl⟩
                          case measure => omega
                      · have hk8e : k = 8 := by omega
                        subst hk8e
                        have hO8 := HO8.out
                        have hlow8 : w.heap.size + 1 ≤ wr.heap.size := hN8
                        have HVV : Hid (vS (fun i => m (256 * b + (8 * j + i))) 8 = V) := Lib.hid (by rw [hF]; exact hV)
                        rw [hV]
                        clear hV HKG
                        go_upto_region 30 with fail
                        go_wp2_with (at_builtin; refine wpList_append_lies _ rfl _ _ 38 rfl (w.heap.size + 1) 5 i1 _ 1 1 Tryd.underlying38 hj hy0 hy1 hy2 rfl (by decide) _ (q + 2 + j) _ rfl (hO8.alloc _) ⟨wr.heap.size, 0, none⟩ 1 1 [.int .u8 (V : Int)] rfl rfl ?f1 ?f2 (by decide) ?f3 ?f4 ?f5 _ rfl ?_)
                        try (case f1 => exact World.news_of_block (heap_alloc_new _ _))
                        case f2 => first | rfl | (intro u hu; simp only [List.mem_singleton] at hu; subst hu; rfl)
                        case f3 => unfold maxLen; omega
                        case f4 => omega
                        case f5 => first | omega | (simp; omega)
                        intro g4 cp4 w9 hown9 hgr9 hat9 hlt9
                        have HT9 : Hid (TR w9 w.heap.size m) := Lib.hid (HT8.out.keep (by have := hgr9.size; rw [World.size_alloc] at this; omega) (two.block_kept hgr9 hN8 (fun e => by have := (hO8.lt _ e).1; omega)))
                        have HB9 : Hid (Below w.heap.size w w9) := Lib.hid ((HB8.out.alloc (by omega) _).grown hgr9 (by simp; omega) (fun k hk => by have := (hO8.lt k hk).1; omega))
                        have HO9 : Hid (w9.ownsRow (w.heap.size + 1) 5 1 (.slice (some ⟨g4, 0, none⟩) (q + 2 + j + 1) cp4) (q + 2 + (j + 1)) (Lib.byteCells (O ++ (UInt8.ofNat b :: UInt8.ofNat nn :: rowS (fun k => m (256 * b + k)) (j + 1))))) := Lib.hid (by
                          have e1 : ((UInt8.ofNat V).toNat : Int) = (V : Int) := by rw [UInt8.toNat_ofNat_of_lt' (by show V < 256; omega)]
                          have e3 : Lib.byteCells (O ++ (UInt8.ofNat b :: UInt8.ofNat nn :: rowS (fun k => m (256 * b + k)) (j + 1))) = Lib.byteCells (O ++ (UInt8.ofNat b :: UInt8.ofNat nn :: rowS (fun k => m (256 * b + k)) j)) ++ [.int .u8 (V : Int)] := by
                            rw [rowS_succ, HVV.out, ← List.cons_append, ← List.cons_append, ← List.append_assoc]
                            simp only [Lib.byteCells, List.map_append, List.map_cons, List.map_nil, e1]
                          rw [e3]; exact hown9)
                        clear hown9 hgr9 hat9 hlt9 hO8
                        go_wp2_with fail
                        have hjg := HJG.out
                        go_roundg gr
                        case rel => exact ⟨j + 1, _, rfl, by go_num, by omega, by omega, HT9, HO9, HB9⟩
                        case measure => omega
                  · have hje : j = nn := by omega
                    subst hje
                    have hol : (O ++ (UInt8.ofNat b :: UInt8.ofNat j :: rowS (fun k => m (256 * b + k)) j)).length = q + 2 + j := by
                      rw [List.length_append, HQ.out]; simp only [List.length_cons, rowS_len]; omega
                    have HT4 : Hid (setJ.Told (O ++ (UInt8.ofNat b :: UInt8.ofNat j :: rowS (fun k => m (256 * b + k)) j)) (b + 1) m) := Lib.hid (by
                      obtain ⟨j0, h1, h2, h3⟩ := HJ0.out
                      exact setJ.told_row HTO.out hbl h1 h3 h2 HMAX.out)
                    have HO4 : Hid (wr.ownsRow (w.heap.size + 1) 5 1 v (O ++ (UInt8.ofNat b :: UInt8.ofNat j :: rowS (fun k => m (256 * b + k)) j)).length (Lib.byteCells (O ++ (UInt8.ofNat b :: UInt8.ofNat j :: rowS (fun k => m (256 * b + k)) j)))) := Lib.hid (by rw [hol]; exact HO8.out)
                    have HOL4 : Hid ((O ++ (UInt8.ofNat b :: UInt8.ofNat j :: rowS (fun k => m (256 * b + k)) j)).length ≤ 34 * (b + 1)) := Lib.hid (by rw [hol]; omega)
                    clear hol
                    go_wp2_with fail
                    have hbg := HBG.out
                    go_roundg gq
                    case rel => exact ⟨b + 1, _, _, rfl, by go_num, by omega, by omega, HT8, HO4, HOL4, HT4, HB8⟩
                    case measure => omega
        · have hbe : b = 256 := by omega
          subst hbe
          have HFIN : Hid (O = setL (sortL L)) := Lib.hid (setJ.told_all HTO.out HMM.out)
          have hst := own_string (P := Tryd.prog) (l := O) (v := _) HO.out 38 9 5 Tryd.underlying38 Tryd.underlying5 Tryd.underlying9
          go_wp2_with fail
          go_ret
          exact ⟨ret_str (congrArg (fun l : Bs => (⟨l.toArray⟩ : ByteArray)) HFIN.out), HB2.out⟩
end Go.Proofs.YtjejmgdpjfdhjaaDoor.rset

/- append(a, make([]byte, m)...) to a list of one's own: law. data.ip6's reader: walk. -/
import Derived.Test.YtkcpbjoolfojjaaGreatDoorP1
import Derived.Test.YtkcpbjoolfojjaaGreatDoorP20
import Derived.Lib.AppendZeros
namespace Go.Proofs.YtkcpbjoolfojjaaGreatDoor.appZ
open Go.RowKit
set_option linter.unusedVariables false
set_option linter.unusedSimpArgs false

theorem zeros_list (m : Nat) : (Builtin.zeroCells #[.int .u8 0] m).toList = List.replicate m (.int .u8 0) := by
  unfold Builtin.zeroCells
  rw [Array.toList_map, Array.toList_range]
  apply List.ext_getElem
  · simp
  · intro i h1 h2
    simp [Nat.mod_one]
theorem zeros_arr (m : Nat) : Builtin.zeroCells #[.int .u8 0] m = (List.replicate m (Value.int .u8 0)).toArray := by
  apply Array.ext'
  rw [zeros_list]
section
variable {P : Program} (w : World)
set_option maxHeartbeats 1000000 in
theorem run_zeros (base : Nat) (t tn ty e : TypeId) (i : TypeInfo) (ht : P.underlying t = some (.slice e)) (htn : P.underlying tn = some (.int .i64)) (hi : P.info? e = some i) (hz : i.zero = some (.int .u8 0)) (hs : i.size = 1) (hb : i.bytes = 1)
    (v : Value) (n m : Nat) (xs : List Value) (hown : w.ownsRow base e 1 v n xs) (hnm : n + m ≤ 1048576) (hbase : base ≤ w.heap.size) :
    ∃ v' w', (Builtin.append_ #[t, tn] ty #[v, .int .i64 (m : Int)]).run P w = .ok v' w' ∧ w'.ownsRow base e 1 v' (n + m) (xs ++ List.replicate m (.int .u8 0)) ∧ w.grownBy w' v.ownBlock := by
  have hw : IntKind.i64.wrap (m : Int) = m := by rw [IntKind.wrap_i64]; omega
  have wrap0 : IntKind.i64.wrap 0 = 0 := by rw [IntKind.wrap_i64]; omega
  have hneg : ¬ ((m : Int) < 0) := by omega
  have h48i : ¬ (281474976710656 < (m : Int) * 1) := by omega
  have h48j : ¬ ((281474976710656 : Int) < (m : Int)) := by omega
  have h48k : ¬ (281474976710656 < m) := by omega
  have hlen : (xs ++ List.replicate m (Value.int .u8 0)).length = (n + m) * 1 := by rw [List.length_append, hown.1, List.length_replicate]; omega
  have grown : ∀ (old : Nat), old < n + m → ∀ (row : Option Nat),
      (w.drew.alloc (.cells (xs.toArray ++ (List.replicate m (Value.int .u8 0)).toArray ++ Builtin.zeroCells #[.int .u8 0] (grownCap w (n + m) old e - (n + m))) e)).ownsRow base e 1
        (.slice (some ⟨w.heap.size, 0, none⟩) (n + m) (grownCap w (n + m) old e)) (n + m) (xs ++ List.replicate m (.int .u8 0)) ∧
      w.grownBy (w.drew.alloc (.cells (xs.toArray ++ (List.replicate m (Value.int .u8 0)).toArray ++ Builtin.zeroCells #[.int .u8 0] (grownCap w (n + m) old e - (n + m))) e)) row := by
    intro old ho row
    have hge := grownCap_ge w (n + m) old e
    have hcm : grownCap w (n + m) old e ≤ maxLen := grownCap_le_maxLen w (n + m) old e (by unfold maxLen; omega)
    refine ⟨⟨hlen, .inr ⟨w.heap.size, _, _, rfl, hbase, heap_alloc_new w.drew _, hge, hcm, ?_, ?_⟩⟩, ⟨rfl, rfl, rfl, by simp, fun k hk _ => heap_alloc_old _ _ (show k < w.drew.heap.size from hk)⟩⟩
    · have h1 := hown.1
      simp only [Array.size_append, List.size_toArray, size_zeroCells, List.length_replicate, h1]
      simp
      omega
    · simp only [Array.toList_append, List.append_assoc]
      rw [← List.append_assoc, ← hlen]
      exact List.take_left
  rcases hown.2 with ⟨rfl, rfl⟩ | ⟨g, cap, cur, rfl, hbg, hg, hnc, hcm, hcs, htake⟩
  · have hx : xs = [] := List.eq_nil_of_length_eq_zero (by simpa using hown.1)
    subst hx
    by_cases hm : m = 0
    · subst hm
      refine ⟨.slice none 0 0, w, ?_, World.ownsRow_nil w base e 1, ⟨rfl, rfl, rfl, Nat.le_refl _, fun _ _ _ => rfl⟩⟩
      simp [Builtin.append_, run_underlying ht, run_underlying htn, sizeOf, typeInfo, hi, asInt, asIntOf, wrap0]
    · have hr := Lib.run_append_nil_zeros (P := P) w t tn ty e i (.int .u8 0) .i64 .i64 ht htn hi hz m (by omega) (by omega) (by omega) (by rw [hb]; omega)
      have hgr := grown 0 (by omega) (Value.ownBlock (.slice none 0 0))
      simp only [Nat.zero_add, List.nil_append, Array.empty_append] at hgr ⊢
      rw [show (Value.int .u8 0).cells = #[Value.int .u8 0] from rfl, zeros_arr m] at hr
      exact ⟨_, _, hr, hgr.1, hgr.2⟩
  · by_cases hroom : n + m ≤ cap
    · by_cases hm : m = 0
      · subst hm
        refine ⟨_, w, ?_, ⟨hlen, .inr ⟨g, cap, cur, rfl, hbg, hg, hroom, hcm, hcs, ?_⟩⟩, ⟨rfl, rfl, rfl, Nat.le_refl _, fun _ _ _ => rfl⟩⟩
        · simp [Builtin.append_, run_underlying ht, run_underlying htn, sizeOf, typeInfo, hi, asInt, asIntOf, hnc, storeCells, wrap0]
        · simpa using htake
      · have hst := run_storeCells_at P g n e (List.replicate m (.int .u8 0)) 0 cur w hg (by rw [hcs, List.length_replicate]; omega) (fun u hu => by rw [List.mem_replicate] at hu; rw [hu.2]; rfl)
        simp only [Nat.add_zero, List.length_replicate] at hst
        have hr : (Builtin.append_ #[t, tn] ty #[.slice (some ⟨g, 0, none⟩) n cap, .int .i64 (m : Int)]).run P w = .ok (.slice (some ⟨g, 0, none⟩) (n + m) cap) (w.setRow g (cur.toList.take n ++ List.replicate m (Value.int .u8 0) ++ cur.toList.drop (n + m)).toArray) := by
          simp [Builtin.append_, run_underlying ht, run_underlying htn, sizeOf, typeInfo, zeroValue, hi, hz, hs, hb, asInt, asIntOf, hw, hneg, h48i, h48j, h48k, hm, hroom, Addr.add_lit, hst, zeros_list, Value.cells]
        refine ⟨_, _, hr, ⟨hlen, .inr ⟨g, cap, _, rfl, hbg, setRow_heap w g cur _ e _ hg, hroom, hcm, ?_, ?_⟩⟩, ⟨rfl, rfl, rfl, by simp, fun k _ hk => setRow_other w g k _ (fun e => hk (by simp [Value.ownBlock, e]))⟩⟩
        · simp only [List.size_toArray, List.length_append, List.length_take, List.length_drop, Array.length_toList, List.length_replicate]
          omega
        · rw [Nat.mul_one] at htake
          rw [htake, ← hlen]
          exact List.take_left
    · have holds : ∀ j u, xs[j]? = some u → w.cell? ((⟨g, 0, none⟩ : Addr).add j) = some u := hown.cells (g := g) rfl
      have hm : m ≠ 0 := by omega
      have hn : ¬ (n + m ≤ cap) := hroom
      have h63' : ¬ (9223372036854775807 < ((n : Int) + (m : Int))) := by omega
      have h48' : ¬ (281474976710656 < Builtin.nextslicecap (n + m) cap) := by
        have := growslice_fits (need := n + m) (old := cap) (bytes := 1) (by omega) (by omega)
        omega
      have hfo := run_firstCells_some (P := P) w.drew 1 n ⟨g, 0, none⟩ n cap xs hown.1 (by simpa using holds)
      have hr : (Builtin.append_ #[t, tn] ty #[.slice (some ⟨g, 0, none⟩) n cap, .int .i64 (m : Int)]).run P w = .ok (.slice (some ⟨w.heap.size, 0, none⟩) (n + m) (grownCap w (n + m) cap e)) (w.drew.alloc (.cells (xs.toArray ++ (List.replicate m (Value.int .u8 0)).toArray ++ Builtin.zeroCells #[.int .u8 0] (grownCap w (n + m) cap e - (n + m))) e)) := by
        simp [Builtin.append_, run_underlying ht, run_underlying htn, sizeOf, typeInfo, zeroValue, hi, hz, hs, hb, asInt, asIntOf, hw, hneg, h48i, h48j, h48k, hm, hn, h63', h48', Question.forced, hfo, newRow, grownCap, Value.cells, zeros_arr]
      have hgr := grown cap (by omega) (Value.ownBlock (.slice (some ⟨g, 0, none⟩) n cap))
      exact ⟨_, _, hr, hgr.1, hgr.2⟩
end
end Go.Proofs.YtkcpbjoolfojjaaGreatDoor.appZ
namespace Go.Proofs.YtkcpbjoolfojjaaGreatDoor.wdM
open Go.RowKit Go.Proofs.YtkcpbjoolfojjaaGreatDoor.kit Go.Proofs.YtkcpbjoolfojjaaGreatDoor.nspec Go.Proofs.YtkcpbjoolfojjaaGreatDoor.fld Go.Proofs.YtkcpbjoolfojjaaGreatDoor.bits Go.Proofs.YtkcpbjoolfojjaaGreatDoor.bld Go.Proofs.YtkcpbjoolfojjaaGreatDoor.coded Go.Proofs.YtkcpbjoolfojjaaGreatDoor.rdP Go.Proofs.YtkcpbjoolfojjaaGreatDoor.rdQ Go.Proofs.YtkcpbjoolfojjaaGreatDoor.wd Go.Proofs.YtkcpbjoolfojjaaGreatDoor.wdA Go.Proofs.YtkcpbjoolfojjaaGreatDoor.wdB Go.Proofs.YtkcpbjoolfojjaaGreatDoor.wdC Go.Proofs.YtkcpbjoolfojjaaGreatDoor.wdD Go.Proofs.YtkcpbjoolfojjaaGreatDoor.wdE Go.Proofs.YtkcpbjoolfojjaaGreatDoor.wdF Go.Proofs.YtkcpbjoolfojjaaGreatDoor.wdG Go.Proofs.YtkcpbjoolfojjaaGreatDoor.wdI Go.Proofs.YtkcpbjoolfojjaaGreatDoor.wdJ
set_option linter.unusedVariables false

theorem group_len {g d : Bs} (h : groupS g = some d) : d.length = 2 := by
  by_cases hl : 1 ≤ g.length ∧ g.length ≤ 4
  · rw [group_val hl] at h
    obtain ⟨v, _, rfl⟩ := Option.map_eq_some_iff.1 h
    rfl
  · unfold groupS at h
    rw [if_pos (by omega)] at h; cases h
theorem groupsL_len : ∀ (P : List ByteArray) (d : Bs), groupsL P = some d → d.length = 2 * P.length
  | [], d, h => by simp [groupsL] at h; subst h; rfl
  | p :: r, d, h => by
    rw [groupsL] at h
    cases hp : groupS p.data.toList with
    | none => rw [hp] at h; cases h
    | some x =>
      rw [hp] at h
      simp only at h
      obtain ⟨u, hu, rfl⟩ := Option.map_eq_some_iff.1 h
      rw [List.length_append, group_len hp, groupsL_len r u hu, List.length_cons]; omega
theorem groupsR_len {s : ByteArray} {d : Bs} (h : groupsR s = some d) (hs : s.size ≤ 1048576) : d.length ≤ 2097154 := by
  unfold groupsR at h
  split at h
  · cases h; simp
  · have h1 := groupsL_len _ _ h
    rw [splitW_len] at h1
    have := count_small 58 s
    omega
theorem cut_size (s : ByteArray) : (Lib.cut s.data.toList [58, 58]).1.length ≤ s.size ∧ (Lib.cut s.data.toList [58, 58]).2.1.length ≤ s.size := by
  unfold Lib.cut
  split
  · rw [List.length_take, List.length_drop, size_len]; omega
  · rw [size_len]; simp
theorem src_own {w : World} {B n c : Nat} {e : TypeId} {av : Option Addr} {xs : List Value} (h : w.ownsRow B e 1 (.slice av n c) n xs) : (av = none ∧ n = 0 ∧ c = 0) ∨ ∃ ad, av = some ad ∧ B ≤ ad.block ∧ ∀ (j : Nat) (u : Value), xs[j]? = some u → w.cell? (ad.add j) = some u := by
  have hc := fun g hg => h.cells (g := g) hg
  rcases h.2 with ⟨e, h0⟩ | ⟨g, cap, cur, e, hb, hg, _⟩
  · cases e; exact .inl ⟨rfl, h0, rfl⟩
  · cases e; exact .inr ⟨⟨g, 0, none⟩, rfl, hb, hc g rfl⟩
theorem zero_cells (m : Nat) : List.replicate m (Value.int .u8 0) = Lib.byteCells (List.replicate m 0) := by simp [Lib.byteCells]
theorem cells_app (x y : Bs) : Lib.byteCells x ++ Lib.byteCells y = Lib.byteCells (x ++ y) := by simp [Lib.byteCells]
section
variable (C : Nat) (a : Option Addr) (L : List Wo) (cap : Nat) (O : ByteArray) (k : Nat) (w : World) (h : AtW w C a L cap O k) (org : Bs)
include h
set_option maxRecDepth 100000 in
set_option maxHeartbeats 2400000 in
theorem ip6_read (ht : TabW C w) : Calls Tryz.prog 159 #[.agg #[], .pointer (some ⟨C, 0, none⟩)] w (Post C a L cap O w (fieldR org L k .ip6)) := by
  obtain ⟨i0, hi, hz0, hz1, hz2⟩ := info_parts infoByte
  have CP := Lib.hid (fun wx hx => plain_any C a L cap O k wx hx)
  unfold PostP at CP
  have h1 := at_alloc h (boxO 87)
  have HE0 := Lib.hid (EffW.alloc C w (boxO 87))
  have HT := Lib.hid (ht.eff HE0.out)
  obtain ⟨W1, hW1⟩ : ∃ W1, w.alloc (boxO 87) = W1 := ⟨_, rfl⟩
  rw [hW1] at h1 HE0 HT
  have HW1 := Lib.hid hW1
  have H1 := Lib.hid h1
  cases hk : L[k]? with
  | none =>
    rw [hk] at CP
    have hR : fieldR org L k .ip6 = .error (L.length, 2) := by show oneW L k ip6R = _; unfold oneW; rw [hk]
    rw [hR]
    clear hk h h1 hR hW1 ht
    go_enter Tryz.func159, Tryz.ntmps159
    go_upto_region 1 with fail
    change Code.wp _ _ _ _ (w.alloc (boxO _))
    rw [HW1.out]
    go_wp2_with fail
    refine (CP.out _ H1.out).mono ?_
    rintro e w2 ⟨he, rfl⟩
    unfold faultE
    go_wp2_with fail
    exact ⟨rfl, post_err (x := ((L.length : Int), 2)) (HE0.out.trans he)⟩
  | some x =>
    rw [hk] at CP
    have hxs := h.sm x (List.mem_of_getElem? hk)
    obtain ⟨s, q⟩ := x
    simp only at CP hxs
    have CB := Lib.hid (fun w => bad_is C a L cap O k 2 w)
    cases q with
    | true =>
      have hR : fieldR org L k .ip6 = .error (k, 2) := by show oneW L k ip6R = _; unfold oneW; rw [hk]; rfl
      rw [hR]
      clear hk h h1 hR hW1 ht
      go_enter Tryz.func159, Tryz.ntmps159
      go_upto_region 1 with fail
      change Code.wp _ _ _ _ (w.alloc (boxO _))
      rw [HW1.out]
      go_wp2_with fail
      refine (CP.out _ H1.out).mono ?_
      rintro e w2 ⟨he, rfl⟩
      unfold faultE
      go_wp2_with fail
      exact ⟨rfl, post_err (x := ((k : Int), 2)) (HE0.out.trans he)⟩
    | false =>
      simp only [Bool.false_eq_true, if_false] at CP
      have HNO := Lib.hid (fun (e : ip6R s = none) => show fieldR org L k .ip6 = .error (k, 2) from oneW_no hk rfl e)
      have HYES := Lib.hid (fun d (e : ip6R s = some d) => show fieldR org L k .ip6 = .ok (d, k + 1) from oneW_yes hk rfl e)
      obtain ⟨cs1, cs2⟩ := cut_size s
      have CS := Lib.hid (fun w (ht : TabS w) => show Calls Tryz.prog 162 #[.string s, .string ⟨#[58, 58]⟩] w fun e w' => e = .returned (.tuple #[.string (mk (Lib.cut s.data.toList [58, 58]).1), .string (mk (Lib.cut s.data.toList [58, 58]).2.1), .bool (Lib.cut s.data.toList [58, 58]).2.2]) ∧ ∃ n, w' = w.drewN n from by
        obtain ⟨m, hm⟩ := ht.mx
        exact Tryz.strings_Cut s ⟨#[58, 58]⟩ m w (by omega) hm)
      obtain ⟨c, hc⟩ : ∃ c, Lib.cut s.data.toList [58, 58] = c := ⟨_, rfl⟩
      obtain ⟨f1, b1, gp⟩ := c
      rw [hc] at CS cs1 cs2
      simp only at CS cs1 cs2
      obtain ⟨F, hF⟩ : ∃ F, mk f1 = F := ⟨_, rfl⟩
      obtain ⟨B, hB⟩ : ∃ B, mk b1 = B := ⟨_, rfl⟩
      have hFs : F.size ≤ 1048576 := by rw [← hF]; show (⟨f1.toArray⟩ : ByteArray).size ≤ _; rw [mk_size]; omega
      have hBs : B.size ≤ 1048576 := by rw [← hB]; show (⟨b1.toArray⟩ : ByteArray).size ≤ _; rw [mk_size]; omega
      have HIA : Hid (groupsR F = none → ip6R s = none) := Lib.hid (fun e => by rw [← hF] at e; unfold ip6R; simp only [hc, e])
      have HIB : Hid (∀ a, groupsR F = some a → groupsR B = none → ip6R s = none) := Lib.hid (fun a e e2 => by rw [← hF] at e; rw [← hB] at e2; unfold ip6R; simp only [hc, e, e2])
      have HIC : Hid (∀ a b, groupsR F = some a → groupsR B = some b → ip6R s = if gp then (if 14 < a.length + b.length then none else some (a ++ List.replicate (16 - (a.length + b.length)) 0 ++ b)) else (if a.length + b.length = 16 then some (a ++ b) else none)) := Lib.hid (fun a b e e2 => by rw [← hF] at e; rw [← hB] at e2; unfold ip6R; simp only [hc, e, e2])
      simp only [hF, hB] at CS
      have CGF := Lib.hid (fun w ht => groups_any F w hFs ht)
      have CGB := Lib.hid (fun w ht => groups_any B w hBs ht)
      obtain ⟨oa, hoa⟩ : ∃ oa, groupsR F = oa := ⟨_, rfl⟩
      obtain ⟨ob, hob⟩ : ∃ ob, groupsR B = ob := ⟨_, rfl⟩
      have hla : ∀ d, oa = some d → d.length ≤ 2097154 := fun d e => groupsR_len (hoa.trans e) hFs
      have hlb : ∀ d, ob = some d → d.length ≤ 2097154 := fun d e => groupsR_len (hob.trans e) hBs
      rw [hoa] at HIA HIB HIC
      rw [hob] at HIB HIC
      rw [hoa] at CGF
      rw [hob] at CGB
      unfold PostGr at CGF CGB
      have HLA := Lib.hid hla; have HLB := Lib.hid hlb
      obtain ⟨PST, hPST⟩ : ∃ r, fieldR org L k .ip6 = r := ⟨_, rfl⟩
      rw [hPST] at HNO HYES
      rw [hPST]
      clear hk h h1 hW1 ht hc hF hB hoa hob hla hlb hPST cs1 cs2 hxs hFs hBs
      go_enter Tryz.func159, Tryz.ntmps159
      go_upto_region 1 with fail
      change Code.wp _ _ _ _ (w.alloc (boxO _))
      rw [HW1.out]
      go_wp2_with fail
      refine (CP.out _ H1.out).mono ?_
      rintro e w2 ⟨he, rfl, hA⟩
      have HE2 := Lib.hid he; have HA2 := Lib.hid hA
      have HT2 := Lib.hid (HT.out.eff he)
      clear he hA
      go_wp2_with fail
      refine (CS.out _ HT2.out.tab).mono ?_
      rintro e w3 ⟨rfl, nd, rfl⟩
      have HE3 := Lib.hid (HE2.out.trans (EffW.drewN C w2 nd))
      have HA3 := Lib.hid (HA2.out.drewN nd)
      have HT3 := Lib.hid (HT2.out.eff (EffW.drewN C w2 nd))
      obtain ⟨w3, hw3⟩ : ∃ w3, w2.drewN nd = w3 := ⟨_, rfl⟩
      rw [hw3] at HE3 HA3 HT3
      rw [hw3]
      clear hw3
      go_wp2_with fail
      refine (CGF.out _ HT3.out.tab).mono ?_
      rintro e w4 ⟨hB4, hra⟩
      have HE4 := Lib.hid (HE3.out.trans (EffW.of_below hB4))
      have HA4 := Lib.hid (HA3.out.below hB4)
      have HT4 := Lib.hid (HT3.out.below hB4)
      have hz4 := hB4.size
      clear hB4
      have noB : ∀ e w5, (ob = none ∧ e = Ending.returned (.tuple #[.slice none 0 0, .bool false])) ∨ (∃ d v, ob = some d ∧ e = .returned (.tuple #[v, .bool true]) ∧ World.ownsRow w5 w4.heap.size 5 1 v d.length (Lib.byteCells d)) → ∃ v b n c, e = .returned (.tuple #[.slice v n c, .bool b]) ∧ n ≤ 2097154 := by
        rintro e w5 (⟨_, rfl⟩ | ⟨d, v, hd, rfl, ho⟩)
        · exact ⟨none, false, 0, 0, rfl, by omega⟩
        · obtain ⟨a', c', rfl⟩ := setW.own_slice ho
          exact ⟨_, _, _, _, rfl, HLB.out d hd⟩
      have NOB := Lib.hid noB
      clear noB
      rcases hra with ⟨hna, rfl⟩ | ⟨da, va, hda, rfl, hoa⟩
      · have hno := HIA.out hna
        have hP := HNO.out hno
        subst hP
        clear hna hno
        go_wp2_with fail
        refine (CGB.out _ HT4.out.tab).mono ?_
        rintro e w5 ⟨hB5, hrb⟩
        obtain ⟨vb, bb, nb, cb, rfl, hnb⟩ := NOB.out e w5 hrb
        have HE5 := Lib.hid (HE4.out.trans (EffW.of_below hB5))
        have HA5 := Lib.hid (HA4.out.below hB5)
        clear hB5 hrb
        go_wp2_with fail
        refine (CB.out _ HA5.out).mono ?_
        rintro e w6 ⟨rfl, rfl⟩
        unfold faultE
        go_wp2_with fail
        exact ⟨rfl, post_err (x := ((k : Int), 2)) (HE0.out.trans HE5.out)⟩
      · have hdal := HLA.out da hda
        obtain ⟨aa, ca, rfl⟩ := setW.own_slice hoa
        have HOA := Lib.hid hoa
        clear hoa
        go_wp2_with fail
        refine (CGB.out _ HT4.out.tab).mono ?_
        rintro e w5 ⟨hB5, hrb⟩
        have HE5 := Lib.hid (HE4.out.trans (EffW.of_below hB5))
        have HA5 := Lib.hid (HA4.out.below hB5)
        have HOA5 := Lib.hid (own_below HOA.out hB5)
        have hz5 := hB5.size
        clear hB5
        rcases hrb with ⟨hnb, rfl⟩ | ⟨db, vb, hdb, rfl, hob⟩
        · have hno := HIB.out da hda hnb
          have hP := HNO.out hno
          subst hP
          clear hnb hno hda
          go_wp2_with fail
          refine (CB.out _ HA5.out).mono ?_
          rintro e w6 ⟨rfl, rfl⟩
          unfold faultE
          go_wp2_with fail
          exact ⟨rfl, post_err (x := ((k : Int), 2)) (HE0.out.trans HE5.out)⟩
        · have hdbl := HLB.out db hdb
          obtain ⟨ab, cb, rfl⟩ := setW.own_slice hob
          have HOB := Lib.hid hob
          have hIP : ip6R s = if gp then (if 14 < da.length + db.length then none else some (da ++ List.replicate (16 - (da.length + db.length)) 0 ++ db)) else (if da.length + db.length = 16 then some (da ++ db) else none) := HIC.out da db hda hdb
          have bad : ip6R s = none → PST = .error ((k : Int), 2) := HNO.out
          have HDA := Lib.hid hda
          clear hob hda hdb
          obtain ⟨la, hla⟩ : ∃ la, da.length = la := ⟨_, rfl⟩
          obtain ⟨lb, hlb⟩ : ∃ lb, db.length = lb := ⟨_, rfl⟩
          rw [hla, hlb] at hIP
          rw [hla] at HOA5 hdal ⊢
          rw [hlb] at HOB hdbl ⊢
          have HLAE := Lib.hid hla; have HLBE := Lib.hid hlb
          clear hla hlb
          by_cases hok : (gp = true ∧ la + lb ≤ 14) ∨ (gp = false ∧ la + lb = 16)
          · have hnl : la + lb ≤ 16 := by rcases hok with h | h <;> omega
            obtain ⟨m, hm⟩ : ∃ m : Nat, 16 - (la + lb) = m := ⟨_, rfl⟩
            have hmi : (16 : Int) - ((la : Int) + (lb : Int)) = (m : Int) := by omega
            have hyes : ip6R s = some (da ++ List.replicate m 0 ++ db) := by
              rw [hIP]
              rcases hok with ⟨h1, h2⟩ | ⟨h1, h2⟩
              · rw [h1, if_pos rfl, if_neg (by omega), hm]
              · have hm0 : m = 0 := by omega
                rw [h1, if_neg (by simp), if_pos h2, hm0]; simp
            have hP := HYES.out _ hyes
            subst hP
            have hsrc := src_own HOB.out
            have hbase3 : w3.heap.size ≤ w5.heap.size := Nat.le_trans hz4 hz5
            obtain ⟨v', w6, hr, hown6, hgr6⟩ := appZ.run_zeros (P := Tryz.prog) w5 w3.heap.size 50 3 50 5 i0 Tryz.underlying50 Tryz.underlying3 hi hz0 hz1 hz2 (.slice aa la ca) la m _ HOA5.out (by omega) hbase3
            rw [← hmi] at hr
            obtain ⟨a6, c6, rfl⟩ := setW.own_slice hown6
            have hB6 : Below w3.heap.size w5 w6 := (Below.refl _ _).grown hgr6 hbase3 (fun i hi => (HOA5.out.lt i hi).1)
            have hla4 : ∀ g, (Value.slice aa la ca).ownBlock = some g → g < w4.heap.size := fun g hg => (HOA.out.lt g (by rw [← hg]; cases aa <;> rfl)).2
            have hsrc6 : (ab = none ∧ lb = 0 ∧ cb = 0) ∨ ∃ ad, ab = some ad ∧ ∀ (j : Nat) (u : Value), (Lib.byteCells db)[j]? = some u → w6.cell? (ad.add j) = some u := by
              rcases hsrc with h0 | ⟨ad, e1, hbl, hcs⟩
              · exact .inl h0
              · refine .inr ⟨ad, e1, fun j u hj => ?_⟩
                refine hgr6.cell (hcs j u hj) ?_
                intro e2
                have h3 := hla4 _ e2.symm
                have h4 : (ad.add j).block = ad.block := by unfold Addr.add; split <;> rfl
                omega
            have hown6' : w6.ownsRow w3.heap.size 5 1 (.slice a6 (la + m) c6) (la + m) (Lib.byteCells (da ++ List.replicate m 0)) := by
              rw [← cells_app, ← zero_cells]; exact hown6
            have HOWN6 := Lib.hid hown6'; have HSRC6 := Lib.hid hsrc6; have HB6 := Lib.hid hB6; have HR := Lib.hid hr
            have hz6 := hB6.size
            have HCELL : Hid ((Lib.byteCells db).length = lb * 1) := Lib.hid (by rw [Lib.byteCells_length, HLBE.out, Nat.mul_one])
            have HONE : Hid (∀ u ∈ Lib.byteCells db, u.oneCell' = true) := Lib.hid (fun u hu => by
              simp only [Lib.byteCells, List.mem_map] at hu
              obtain ⟨c, _, rfl⟩ := hu; rfl)
            have hgp1 : gp = true → (la : Int) + (lb : Int) ≤ 14 := fun e => by
              rcases hok with h | h
              · omega
              · rw [h.1] at e; cases e
            have hgp2 : gp = false → (((la : Int) + (lb : Int)) == 16) = true := fun e => by
              rcases hok with h | h
              · rw [h.1] at e; cases e
              · rw [beq_iff_eq]; omega
            have hsum : la + m + lb ≤ 1048576 := by omega
            have hbase6 : w3.heap.size ≤ w6.heap.size := by omega
            clear hok hyes hsrc hr hown6 hown6' hgr6 hB6 hla4 hsrc6 hIP bad hm hmi
            have fin : True := trivial
            cases hgv : gp
            all_goals
              first
                | (have hq14 := hgp1 hgv)
                | (have hq16 := hgp2 hgv
                   have hq16n : (((la : Int) + (lb : Int)) != 16) = false := by rw [bne, hq16]; rfl)
              clear hgp1 hgp2
              go_wp2_with (at_builtin; first | (refine Lib.wpList_append_run _ rfl _ _ 50 3 rfl _ _ rfl rfl _ _ HR.out ?_) | (refine wpList_append_src rfl _ _ 50 rfl w3.heap.size 5 i0 (.int .u8 0) 1 1 Tryz.underlying50 hi hz0 hz1 hz2 rfl (by decide) (.slice a6 (la + m) c6) (la + m) _ rfl HOWN6.out ab lb cb (Lib.byteCells db) rfl HCELL.out HSRC6.out HONE.out (by unfold maxLen; omega) (by omega) (by omega) ?_))
              intro v7 w7 hown7 hgr7
              rw [cells_app] at hown7
              have hB7 : Below w3.heap.size w6 w7 := (Below.refl _ _).grown hgr7 hbase6 (fun i hi => (HOWN6.out.lt i hi).1)
              have hlen7 : (da ++ List.replicate m 0 ++ db).length = la + m + lb := by rw [List.length_append, List.length_append, List.length_replicate, HLAE.out, HLBE.out]
              obtain ⟨a7, c7, rfl⟩ := setW.own_slice hown7
              have hst := own_string (P := Tryz.prog) (l := da ++ List.replicate m 0 ++ db) (v := .slice a7 (la + m + lb) c7) (by rw [hlen7]; exact hown7) 50 9 5 Tryz.underlying50 Tryz.underlying5 Tryz.underlying9
              obtain ⟨Z, hZ⟩ : ∃ Z : ByteArray, (⟨(da ++ List.replicate m 0 ++ db).toArray⟩ : ByteArray) = Z := ⟨_, rfl⟩
              rw [hZ] at hst
              have HZ := Lib.hid hZ
              have hBB := HB6.out.trans hB7
              obtain ⟨hA7, he7⟩ := on_below H1.out HA5.out HE5.out (hBB.mono HE3.out.size)
              have HA7 := Lib.hid hA7; have HE7 := Lib.hid he7
              clear hown7 hgr7 hB7 hlen7 hZ hBB hA7 he7
              go_wp2_with fail
              go_ret
              rw [← HZ.out] at *
              exact post_ok (HE0.out.trans HE7.out) HA7.out
          · have hno : ip6R s = none := by
              rw [hIP]
              cases gp
              · rw [if_neg (by simp), if_neg (fun e => hok (.inr ⟨rfl, e⟩))]
              · rw [if_pos rfl, if_pos (by rcases Nat.lt_or_ge 14 (la + lb) with h | h
                                           · exact h
                                           · exact absurd (.inl ⟨rfl, h⟩) hok)]
            have hP := bad hno
            subst hP
            have hg1 : gp = true → 14 < (la : Int) + (lb : Int) := fun e => by
              rcases Nat.lt_or_ge 14 (la + lb) with h | h
              · omega
              · exact absurd (.inl ⟨e, h⟩) hok
            have hg2 : gp = false → (((la : Int) + (lb : Int)) == 16) = false := fun e => by rw [beq_eq_false_iff_ne]; intro e2; exact hok (.inr ⟨e, by omega⟩)
            clear hno hok hIP bad
            cases hgv : gp
            all_goals
              first
                | (have hq14 := hg1 hgv)
                | (have hq16 := hg2 hgv
                   have hq16n : (((la : Int) + (lb : Int)) != 16) = true := by rw [bne, hq16]; rfl)
              clear hg1 hg2
              go_wp2_with fail
              refine (CB.out _ HA5.out).mono ?_
              rintro e w6 ⟨rfl, rfl⟩
              unfold faultE
              go_wp2_with fail
              exact ⟨rfl, post_err (x := ((k : Int), 2)) (HE0.out.trans HE5.out)⟩
end
end Go.Proofs.YtkcpbjoolfojjaaGreatDoor.wdM

/- The law DataSets: walk. -/
import Derived.Test.YtabhiangjomaeaaSetW
import Derived.Test.YtabhiangjomaeaaTypesW
namespace Go.Proofs.Ytabhiangjomaeaa.dataSets
open Go.RowKit Go.Proofs.Ytabhiangjomaeaa.kit Go.Proofs.Ytabhiangjomaeaa.nspec Go.Proofs.Ytabhiangjomaeaa.bits Go.Proofs.Ytabhiangjomaeaa.ints Go.Proofs.Ytabhiangjomaeaa.fld Go.Proofs.Ytabhiangjomaeaa.typesP Go.Proofs.Ytabhiangjomaeaa.typesW Go.Proofs.Ytabhiangjomaeaa.setP Go.Proofs.Ytabhiangjomaeaa.setW
set_option linter.unusedVariables false

set_option maxRecDepth 100000 in
theorem same_ints (a b : Option Addr) (n c d : Nat) (L : List Int) (w : World) (hn : n = L.length) (hx : RdI w a L) (hy : RdI w b L) (hl : n ≤ 1073741824) :
    Calls Try.prog 35 #[.slice a n c, .slice b n d] w fun e w' => e = .returned (.bool true) ∧ Below w.heap.size w w' := by
  have HN := Lib.hid hn; have HX := Lib.hid hx; have HY := Lib.hid hy
  clear hn hx hy
  go_enter Try.func35, Try.ntmps35
  go_wp2
  go_loopg [5, 13] (n + 1) (fun gas _ kv wr => ∃ (k : Nat), kv = .int .i64 k ∧ k ≤ n ∧ k + gas = n + 1 ∧ Hid (Below w.heap.size w wr))
  case atStart => exact ⟨0, rfl, by omega, by omega, Lib.hid (Below.refl _ _)⟩
  case round =>
    obtain ⟨k, rfl, hk, hkg, hB⟩ := hrel
    have HK := Lib.hid hkg; clear hkg
    by_cases hlt : k < n
    · obtain ⟨p, hp⟩ : ∃ p, L[k]? = some p := ⟨_, List.getElem?_eq_getElem (by have := HN.out; omega)⟩
      obtain ⟨g1, o1, rfl, hg1, hcl1⟩ := HX.out _ p hp
      obtain ⟨g2, o2, rfl, hg2, hcl2⟩ := HY.out _ p hp
      have hcx := (hB.out.cell (p := ⟨g1, o1 + k, none⟩) hg1).trans hcl1
      have hcy := (hB.out.cell (p := ⟨g2, o2 + k, none⟩) hg2).trans hcl2
      clear hp hcl1 hcl2
      have zk : (0 : Int) ≤ (k : Int) := by omega
      have zl : (k : Int) < (n : Int) := by omega
      go_wp2_with fail
      go_quiet (fail)
      have hBn : Hid (Below w.heap.size w (wr.drewN nq)) := Lib.hid (below_drewN hB.out nq)
      go_wp2
      have hkg := HK.out
      go_roundg (gk - 1)
      case rel => exact ⟨k + 1, by go_num, by omega, by omega, hBn⟩
      case measure => omega
    · go_wp2_with fail
      go_ret
      exact ⟨rfl, hB.out⟩

theorem rdI_new (w : World) (e : TypeId) (L : List Int) : RdI (w.alloc (.cells (L.map (Value.int .i64)).toArray e)) (some ⟨w.heap.size, 0, none⟩) L := by
  intro j x h
  refine ⟨_, _, rfl, by simp, ?_⟩
  have hb : (w.alloc (.cells (L.map (Value.int .i64)).toArray e)).heap[w.heap.size]? = some (.cells (L.map (Value.int .i64)).toArray e (0, 0)) := heap_alloc_new _ _
  simp only [World.cell?, hb, Nat.zero_add]
  simp [h]
theorem rdI_four (w : World) (e : TypeId) : RdI (w.alloc (.cells #[.int .i64 46, .int .i64 1, .int .i64 15, .int .i64 1] e)) (some ⟨w.heap.size, 0, none⟩) [46, 1, 15, 1] := rdI_new w e [46, 1, 15, 1]
theorem rdI_three (w : World) (e : TypeId) : RdI (w.alloc (.cells #[.int .i64 1, .int .i64 15, .int .i64 46] e)) (some ⟨w.heap.size, 0, none⟩) [1, 15, 46] := rdI_new w e [1, 15, 46]
theorem typesS_len {d : Bs} {l : List Nat} (h : typesS d = some l) : l.length ≤ 8 * d.length := by
  rw [typesS_eq] at h
  cases hA : typesA (-1) [] d with
  | none => rw [hA] at h; simp at h
  | some m =>
    rw [hA] at h
    have := types_len _ _ _ _ _ hA
    simp only at h
    split at h
    · simp at h
    · cases h; simpa using this
def okT (t : Int) : Bool := decide (1 ≤ t) && decide (t ≤ 65535)
theorem okT_iff (t : Int) : okT t = true ↔ isT t := by simp [okT, isT]

set_option maxRecDepth 100000 in
set_option maxHeartbeats 4000000 in
theorem law (a : Option Addr) (n c : Nat) (L : List Int) (ask : Int) (w : World) (hn : n = L.length) (hr : RdI w a L) (ha : a = none → n = 0) (hbig : n ≤ 1073741824) (hw : ∀ x ∈ L, (Lit.int .i64 x).wf = true) (hask : (Lit.int .i64 ask).wf = true) :
    Calls Try.prog 8 #[.slice a n c, .int .i64 ask] w fun e w' => e = .returned (.bool true) ∧ Below w.heap.size w w' := by
  obtain ⟨l, ht, hm, hs, hsl⟩ := set_types L
  obtain ⟨l0, ht0, _, _, hsl0⟩ := set_types [46, 1, 15, 1]
  obtain rfl := types_first ht0
  have hag := set_again hm hs
  obtain ⟨D0, hD0⟩ : ∃ D : ByteArray, (⟨(setL (sortL [46, 1, 15, 1])).toArray⟩ : ByteArray) = D := ⟨_, rfl⟩
  obtain ⟨D, hD⟩ : ∃ D : ByteArray, (⟨(setL (sortL L)).toArray⟩ : ByteArray) = D := ⟨_, rfl⟩
  have hDs : D.size ≤ 1048576 := by rw [← hD, mk_size]; omega
  have hD0s : D0.size ≤ 1048576 := by rw [← hD0, mk_size]; omega
  have hDd : D.data.toList = setL (sortL L) := by rw [← hD]
  have hD0d : D0.data.toList = setL (sortL [46, 1, 15, 1]) := by rw [← hD0]
  have C0 := Lib.hid (fun (w : World) hr => set_any (some ⟨w.heap.size, 0, none⟩) 4 4 [46, 1, 15, 1] (w.alloc (.cells #[.int .i64 46, .int .i64 1, .int .i64 15, .int .i64 1] 3)) rfl hr (fun h => by cases h) (by omega) (by decide))
  have C1 := Lib.hid (fun (w : World) => types_any D0 w hD0s)
  have C2 := Lib.hid (fun w hr => set_any a n c L w hn hr ha hbig hw)
  have C3 := Lib.hid (fun (w : World) => types_any D w hDs)
  rw [hD0] at C0
  rw [hD] at C2
  have HT : Hid (typesS D.data.toList = some l) := Lib.hid (by rw [hDd]; exact ht)
  have HT0 : Hid (typesS D0.data.toList = some [1, 15, 46]) := Lib.hid (by rw [hD0d]; exact ht0)
  have hll : l.length ≤ 69632 := by have := typesS_len ht; omega
  obtain ⟨m, hml⟩ : ∃ m, l.length = m := ⟨_, rfl⟩
  rw [hml] at hll
  have C4 := Lib.hid (fun (a : Option Addr) (c : Nat) (w : World) hr (ha : a = none → m = 0) => set_any a m c (l.map fun x : Nat => (x : Int)) w (by rw [List.length_map, hml]) hr ha (by omega) (by
    intro x hx
    obtain ⟨y, hy, rfl⟩ := List.mem_map.1 hx
    have := ((hm y).1 hy).2
    unfold isT at this
    simp only [Lit.wf, Bool.and_eq_true, decide_eq_true_eq]
    exact ⟨by show (-9223372036854775808 : Int) ≤ _; omega, by show _ ≤ (9223372036854775807 : Int); omega⟩))
  rw [hag, hD] at C4
  have HM := Lib.hid hm; have HS := Lib.hid hs; have HML := Lib.hid hml; have HR := Lib.hid hr; have HN := Lib.hid hn
  clear hag ht ht0 hm hs hD hD0 hDd hD0d hsl hsl0 hml hr hn hw
  go_enter Try.func8, Try.ntmps8
  go_wp2_with fail
  refine (C0.out w (rdI_four _ _)).mono ?_
  rintro e w1 ⟨rfl, hB1⟩
  have HB1 := Lib.hid (((Below.refl w.heap.size w).alloc (Nat.le_refl _) _).trans (hB1.mono (by simp)))
  clear hB1
  go_wp2_with fail
  refine (C1.out _).mono ?_
  rintro e w2 ⟨hB2, h | h⟩
  · obtain ⟨v, l', h1, rfl, hown⟩ := h
    rw [HT0.out] at h1; cases h1
    obtain ⟨a1, c1, rfl, _, _, hr1⟩ := RdN.of_own hown
    have hr1 := Lib.hid (rdI_nat hr1)
    have HB2 := Lib.hid (HB1.out.trans (hB2.mono HB1.out.size))
    have CS := Lib.hid (fun w hx hy => same_ints a1 (some ⟨w2.heap.size, 0, none⟩) 3 c1 3 [1, 15, 46] w rfl hx hy (by omega))
    have HX := Lib.hid (hr1.out.below ((Below.refl w2.heap.size w2).alloc (Nat.le_refl _) (.cells #[.int .i64 1, .int .i64 15, .int .i64 46] 3)) rfl)
    clear hown hB2 hr1
    go_wp2_with fail
    refine (CS.out _ HX.out (rdI_three _ _)).mono ?_
    rintro e w3 ⟨rfl, hB3⟩
    have HB3 := Lib.hid ((HB2.out.alloc HB2.out.size (.cells #[.int .i64 1, .int .i64 15, .int .i64 46] 3)).trans (hB3.mono (by have := HB2.out.size; simp; omega)))
    clear hB3 CS
    go_wp2_with fail
    refine (C2.out _ (HR.out.below HB3.out rfl)).mono ?_
    rintro e w4 ⟨rfl, hB4⟩
    have HB4 := Lib.hid (HB3.out.trans (hB4.mono HB3.out.size)); clear hB4
    go_wp2_with fail
    refine (C3.out _).mono ?_
    rintro e w5 ⟨hB5, h | h⟩
    · obtain ⟨v5, l', h1, rfl, hown⟩ := h
      rw [HT.out] at h1; cases h1
      obtain ⟨a5, c5, rfl, _, _, hr5⟩ := RdN.of_own hown
      rw [HML.out]
      have ha5 : a5 = none → m = 0 := by
        rintro rfl
        rcases Nat.eq_zero_or_pos m with h | h
        · exact h
        · obtain ⟨g, o, h2, _⟩ := hr5 0 _ (List.getElem?_eq_getElem (by have := HML.out; omega))
          cases h2
      have HR5 := Lib.hid (rdI_nat hr5)
      have HB5 := Lib.hid (HB4.out.trans (hB5.mono HB4.out.size)); clear hB5 hown hr5
      go_wp2_with fail
      refine (C4.out _ _ _ HR5.out ha5).mono ?_
      rintro e w6 ⟨rfl, hB6⟩
      have HR6 := Lib.hid (HR5.out.below hB6 rfl)
      have HB6 := Lib.hid (HB5.out.trans (hB6.mono HB5.out.size)); clear hB6
      have hDD : (D.toList == D.toList) = true := by simp
      obtain ⟨A, hA⟩ : ∃ A : Bool, A = L.any (fun t => decide (t = ask) && okT t) := ⟨_, rfl⟩
      have HA := Lib.hid hA; clear hA
      have HRL := Lib.hid (HR.out.below HB6.out rfl)
      go_wp2_with fail
      go_loopg [8, 11, 45] (n + 1) (fun gas iv _ kv wr => ∃ (k : Nat) (B : Bool), kv = .int .i64 k ∧ iv = .bool B ∧ k ≤ n ∧ k + gas = n + 1 ∧ Hid ((B || (L.drop k).any (fun t => decide (t = ask) && okT t)) = A) ∧ wr = w6)
      case atStart => exact ⟨0, false, rfl, rfl, by omega, by omega, Lib.hid (by rw [Bool.false_or, List.drop_zero]; exact HA.out.symm), rfl⟩
      case round =>
        obtain ⟨k, B, rfl, rfl, hk, hkg, HW, rfl⟩ := hrel
        have HK := Lib.hid hkg; clear hkg
        by_cases hlt : k < n
        · obtain ⟨t, ht⟩ : ∃ t, L[k]? = some t := ⟨_, List.getElem?_eq_getElem (by have := HN.out; omega)⟩
          obtain ⟨g, o, rfl, hg, hcl⟩ := HRL.out _ t ht
          have hst : (B || (decide (t = ask) && okT t) || (L.drop (k + 1)).any (fun t => decide (t = ask) && okT t)) = A := by
            obtain ⟨h1, h2⟩ := List.getElem?_eq_some_iff.1 ht
            have h := HW.out
            rw [List.drop_eq_getElem_cons h1, h2, List.any_cons, ← Bool.or_assoc] at h
            exact h
          clear ht HW
          have zl : (k : Int) < (n : Int) := by omega
          cases B with
          | true =>
            have HST : Hid ((true || (L.drop (k + 1)).any (fun t => decide (t = ask) && okT t)) = A) := Lib.hid (by simpa using hst)
            clear hst
            go_wp2_with fail
            have hkg := HK.out
            go_roundg (gk - 1)
            case rel => exact ⟨k + 1, true, by go_num, rfl, by omega, by omega, HST, rfl⟩
            case measure => omega
          | false =>
            by_cases he : t = ask
            · by_cases h1 : 1 ≤ t
              · by_cases h2 : t ≤ 65535
                · have HST : Hid ((true || (L.drop (k + 1)).any (fun t => decide (t = ask) && okT t)) = A) := Lib.hid (by
                    rw [show (decide (t = ask) && okT t) = true by simp [okT, he]; rw [← he]; omega] at hst; simpa using hst)
                  have e1 : (t == ask) = true := by simpa using he
                  have e2 : decide (1 ≤ t) = true := by simpa using h1
                  have e3 : decide (t ≤ 65535) = true := by simpa using h2
                  clear hst he h1 h2
                  go_wp2_with fail
                  have hkg := HK.out
                  go_roundg (gk - 1)
                  case rel => exact ⟨k + 1, true, by go_num, rfl, by omega, by omega, HST, rfl⟩
                  case measure => omega
                · have HST : Hid ((false || (L.drop (k + 1)).any (fun t => decide (t = ask) && okT t)) = A) := Lib.hid (by
                    rw [show (decide (t = ask) && okT t) = false by simp [okT]; intro _ _; omega] at hst; simpa using hst)
                  have e1 : (t == ask) = true := by simpa using he
                  have e2 : decide (1 ≤ t) = true := by simpa using h1
                  have e3 : decide (t ≤ 65535) = false := by simpa using h2
                  clear hst he h1 h2
                  go_wp2_with fail
                  have hkg := HK.out
                  go_roundg (gk - 1)
                  case rel => exact ⟨k + 1, false, by go_num, rfl, by omega, by omega, HST, rfl⟩
                  case measure => omega
              · have HST : Hid ((false || (L.drop (k + 1)).any (fun t => decide (t = ask) && okT t)) = A) := Lib.hid (by
                  rw [show (decide (t = ask) && okT t) = false by simp [okT]; intro _ _; omega] at hst; simpa using hst)
                have e1 : (t == ask) = true := by simpa using he
                have e2 : decide (1 ≤ t) = false := by simpa using h1
                clear hst he h1
                go_wp2_with fail
                have hkg := HK.out
                go_roundg (gk - 1)
                case rel => exact ⟨k + 1, false, by go_num, rfl, by omega, by omega, HST, rfl⟩
                case measure => omega
            · have HST : Hid ((false || (L.drop (k + 1)).any (fun t => decide (t = ask) && okT t)) = A) := Lib.hid (by
                rw [show (decide (t = ask) && okT t) = false by simp [he]] at hst; simpa using hst)
              have e1 : (t == ask) = false := by simpa using he
              clear hst he
              go_wp2_with fail
              have hkg := HK.out
              go_roundg (gk - 1)
              case rel => exact ⟨k + 1, false, by go_num, rfl, by omega, by omega, HST, rfl⟩
              case measure => omega
        · have HBA : Hid (B = A) := Lib.hid (by
            have h := HW.out
            rw [List.drop_eq_nil_iff.2 (by have := HN.out; omega)] at h; simpa using h)
          clear HW
          go_wp2_with fail
          go_loopg [9, 12, 13, 66] (m + 1) (fun gas iv _ _ kv wq => ∃ (k : Nat) (E : Bool), kv = .int .i64 k ∧ iv = .bool E ∧ k ≤ m ∧ k + gas = m + 1 ∧ Hid ((E || (l.drop k).any (fun t => decide ((t : Int) = ask))) = B) ∧ Hid (Below wr.heap.size wr wq))
          case atStart =>
            refine ⟨0, false, rfl, rfl, by omega, by omega, Lib.hid ?_, Lib.hid (Below.refl _ _)⟩
            rw [Bool.false_or, List.drop_zero, HBA.out, HA.out, Bool.eq_iff_iff, List.any_eq_true, List.any_eq_true]
            constructor
            · rintro ⟨x, hx, h1⟩
              have h2 := (HM.out x).1 hx
              exact ⟨(x : Int), h2.1, by rw [Bool.and_eq_true]; exact ⟨h1, (okT_iff _).2 h2.2⟩⟩
            · rintro ⟨x, hx, h1⟩
              rw [Bool.and_eq_true] at h1
              have h3 := (okT_iff _).1 h1.2
              have e : ((x.toNat : Nat) : Int) = x := by unfold isT at h3; omega
              exact ⟨x.toNat, (HM.out _).2 ⟨by rw [e]; exact hx, by rw [e]; exact h3⟩, by rw [e]; exact h1.1⟩
          case round =>
            obtain ⟨k, E, rfl, rfl, hk, hkg, HW, HBr⟩ := hrel
            have HK := Lib.hid hkg; clear hkg
            by_cases hlt : k < m
            · obtain ⟨t, ht⟩ : ∃ t, l[k]? = some t := ⟨_, List.getElem?_eq_getElem (by have := HML.out; omega)⟩
              obtain ⟨g5, o5, rfl, hg, hcl⟩ := HR6.out k (t : Int) (by rw [List.getElem?_map, ht]; rfl)
              have hcell := (HBr.out.cell (p := ⟨g5, o5 + k, none⟩) hg).trans hcl
              have hst : (E || decide ((t : Int) = ask) || (l.drop (k + 1)).any (fun t => decide ((t : Int) = ask))) = B := by
                obtain ⟨h1, h2⟩ := List.getElem?_eq_some_iff.1 ht
                have h := HW.out
                rw [List.drop_eq_getElem_cons h1, h2, List.any_cons, ← Bool.or_assoc] at h
                exact h
              have zl : (k : Int) < (m : Int) := by omega
              have HGO : ∀ E2 : Bool, E2 = (E || decide ((t : Int) = ask)) → Hid ((E2 || (l.drop (k + 1)).any (fun t => decide ((t : Int) = ask))) = B) := fun E2 h => Lib.hid (by rw [h]; exact hst)
              have HGO := Lib.hid HGO
              obtain ⟨E2, hE2⟩ : ∃ E2, E2 = (E || decide ((t : Int) = ask)) := ⟨_, rfl⟩
              have HST := HGO.out E2 hE2
              have HE2 : Value.bool (E || decide ((t : Int) = ask)) = Value.bool E2 := by rw [hE2]
              clear hst HGO hcl HW
              by_cases hk0 : k = 0
              · subst hk0
                clear ht
                simp only [Nat.add_zero] at hcell
                cases E with
                | true =>
                  obtain rfl : E2 = true := by simpa using hE2
                  clear hE2 HE2
                  go_wp2_with fail
                  have hkg := HK.out
                  go_roundg (gk - 1)
                  case rel => exact ⟨1, true, by go_num, rfl, by omega, by omega, HST, HBr⟩
                  case measure => omega
                | false =>
                  have e1 : Value.bool ((t : Int) == ask) = Value.bool E2 := by rw [hE2]; simp [BEq.beq]
                  clear hE2 HE2
                  go_wp2_with fail
                  have hkg := HK.out
                  go_roundg (gk - 1)
                  case rel => exact ⟨1, _, by go_num, rfl, by omega, by omega, HST, HBr⟩
                  case measure => omega
              · obtain ⟨k0, hkk⟩ : ∃ k0, k = k0 + 1 := ⟨k - 1, by omega⟩
                obtain ⟨t0, ht0⟩ : ∃ t0, l[k0]? = some t0 := ⟨_, List.getElem?_eq_getElem (by have := HML.out; omega)⟩
                obtain ⟨g5', o5', hgg, _, hcl0⟩ := HR6.out k0 (t0 : Int) (by rw [List.getElem?_map, ht0]; rfl)
                cases hgg
                have hcell0 := (HBr.out.cell (p := ⟨g5, o5 + k0, none⟩) hg).trans hcl0
                have hlt0 : (t0 : Int) < (t : Int) := by
                  obtain ⟨h1, h2⟩ := List.getElem?_eq_some_iff.1 ht
                  obtain ⟨h3, h4⟩ := List.getElem?_eq_some_iff.1 ht0
                  have := List.pairwise_iff_getElem.1 HS.out k0 k h3 h1 (by omega)
                  omega
                have hk1 : Value.int .i64 ((k : Int) - 1) = Value.int .i64 (k0 : Int) := by congr 1; omega
                have hkp : (0 : Int) < (k : Int) := by omega
                have hkd : decide (0 < k) = true := by simp; omega
                have hk0m : (k0 : Int) < (m : Int) := by omega
                clear ht ht0 hcl0 hk0 hkk
                cases E with
                | true =>
                  obtain rfl : E2 = true := by simpa using hE2
                  clear hE2 HE2
                  go_wp2_with fail
                  have hkg := HK.out
                  go_roundg (gk - 1)
                  case rel => exact ⟨k + 1, true, by go_num, rfl, by omega, by omega, HST, HBr⟩
                  case measure => omega
                | false =>
                  have e1 : Value.bool ((t : Int) == ask) = Value.bool E2 := by rw [hE2]; simp [BEq.beq]
                  clear hE2 HE2
                  go_wp2_with fail
                  have hkg := HK.out
                  go_roundg (gk - 1)
                  case rel => exact ⟨k + 1, _, by go_num, rfl, by omega, by omega, HST, HBr⟩
                  case measure => omega
            · have HEB : Hid (E = B) := Lib.hid (by
                have h := HW.out
                rw [List.drop_eq_nil_iff.2 (by have := HML.out; omega)] at h; simpa using h)
              have hEB := HEB.out
              subst hEB
              clear HW
              go_wp2_with fail
              go_ret
              exact ⟨by simp, (HB6.out.trans (HBr.out.mono HB6.out.size))⟩
    · exact absurd h.1 (by rw [HT.out]; simp)
  · exact absurd h.1 (by rw [HT0.out]; simp)
end Go.Proofs.Ytabhiangjomaeaa.dataSets

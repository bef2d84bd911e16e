/- The fields' bytes: gazetteerref1.Parts: walk. -/
import Derived.Test.YthblaldkpjilhaaSplitD
import Derived.Test.YthblaldkpjilhaaRForm
namespace Go.Proofs.Ythblaldkpjilhaa.parts
open Go.RowKit Go.Proofs.Ythblaldkpjilhaa.kit Go.Proofs.Ythblaldkpjilhaa.nspec Go.Proofs.Ythblaldkpjilhaa.rsplit Go.Proofs.Ythblaldkpjilhaa.fld Go.Proofs.Ythblaldkpjilhaa.hostT Go.Proofs.Ythblaldkpjilhaa.textsT Go.Proofs.Ythblaldkpjilhaa.splitD Go.Proofs.Ythblaldkpjilhaa.rsize Go.Proofs.Ythblaldkpjilhaa.rsizeB Go.Proofs.Ythblaldkpjilhaa.rform
set_option linter.unusedVariables false

def Fair4 (fs : List Fld) : Prop := fs.length ≤ 20 ∧ ∀ k, Fld.num k ∈ fs → k = 1 ∨ k = 2 ∨ k = 4
theorem letter_lt (f : Fld) (h : ∀ k, f = .num k → k = 1 ∨ k = 2 ∨ k = 4) : letterOf f < 256 := by
  cases f with
  | num k => have := h k rfl; simp only [letterOf]; omega
  | _ => decide

set_option maxRecDepth 100000 in
set_option maxHeartbeats 8000000 in
theorem parts_any (fs : List Fld) (F s : ByteArray) (w : World) (hF : F.data.toList = lettersB fs) (hf : Fair4 fs) (hs : s.size ≤ 65535) (n : Nat) (hn : fs.length = n) :
    Calls Try.prog 71 #[.string F, .string s] w (SplitPost w fs s.data.toList) := by
  obtain ⟨i0, hi, hz0, hz1, hz2⟩ := info_parts infoStr
  obtain ⟨R, HR⟩ : ∃ R, Hid (splitS fs s.data.toList = R) := ⟨_, Lib.hid rfl⟩
  have HR0 : Hid (addP [] (splitS (fs.drop 0) s.data.toList) = R) := Lib.hid (by rw [addP_nil, List.drop_zero]; exact HR.out)
  have hn20 : n ≤ 20 := by rw [← hn]; exact hf.1
  have HN := Lib.hid hn; have HF := Lib.hid hf.2
  have hFn : F.size = n := by rw [← size_len, hF, ← hn]; simp [lettersB]
  have HFN := Lib.hid hFn
  have hFn1 : F.size ≤ n := by omega
  have hFn2 : n ≤ F.size := by omega
  have HFD := Lib.hid hF
  clear hn hf hF hFn
  go_enter Try.func71, Try.ntmps71
  go_wp2_with fail
  go_loopg [1, 6, 7, 8] (n + 1) (fun gas dv pv kv _ wr => ∃ (k : Nat) (u : ByteArray) (P : List Bs), kv = .int .i64 k ∧ dv = .string u ∧ k ≤ n ∧ n + 1 ≤ k + gas ∧ u.size ≤ 65535 ∧ P.length ≤ k ∧ Hid (addP P (splitS (fs.drop k) u.data.toList) = R) ∧ wr.ownsRow w.heap.size 9 1 pv P.length (P.map strV) ∧ Below w.heap.size w wr)
  case atStart => exact ⟨0, s, [], rfl, rfl, by omega, by omega, hs, by simp, HR0, World.ownsRow_nil _ _ _ _, Below.refl _ _⟩
  case round =>
    obtain ⟨k, u, P, rfl, rfl, hk, hkg, hu, hP, HW, hown, hB⟩ := hrel
    have HKG := Lib.hid hkg; clear hkg
    have HB := Lib.hid hB
    by_cases hlt : k < n
    · obtain ⟨f, hfk⟩ : ∃ f, fs[k]? = some f := ⟨_, List.getElem?_eq_getElem (by have := HN.out; omega)⟩
      have hkF : k < F.size := by omega
      have hletter : (F[k].toNat : Int) = ((letterOf f : Nat) : Int) := by
        have h1 : F.data.toList[k]? = some (UInt8.ofNat (letterOf f)) := by rw [HFD.out]; simp [lettersB, hfk]
        have h2 := at_some hkF (rfl : F[k] = F[k])
        rw [h1] at h2
        have h3 : UInt8.ofNat (letterOf f) = F[k] := by simpa using h2
        rw [← h3]
        rw [UInt8.toNat_ofNat']
        have := letter_lt f (fun j e => HF.out j (by rw [← e]; exact List.mem_of_getElem? hfk))
        omega
      obtain ⟨c, hc⟩ : ∃ c, F[k] = c := ⟨_, rfl⟩
      rw [hc] at hletter
      have hc256 := byte_lt c
      have hdr : fs.drop k = f :: fs.drop (k + 1) := by
        obtain ⟨h1, h2⟩ := List.getElem?_eq_some_iff.1 hfk
        rw [List.drop_eq_getElem_cons h1, h2]
      have hnum := fun j (e : f = .num j) => HF.out j (by rw [← e]; exact List.mem_of_getElem? hfk)
      have HD := Lib.hid hdr; have HNUM := Lib.hid hnum; have HOWN := Lib.hid hown
      have CZ := Lib.hid (fun w => size_any f u w hu (fun j e => HNUM.out j e))
      rw [← hletter] at CZ
      clear hdr hnum hfk hown hB hletter
      go_wp2_with fail
      refine (CZ.out _).mono ?_
      rintro e w9 ⟨rfl, hB2⟩
      · skip
        have hT := takeS_le f u.data.toList
        rw [size_len] at hT
        have HB3 := Lib.hid (HB.out.trans (hB2.mono HB.out.size))
        have HOWN2 := Lib.hid (ownsRow_below HOWN.out hB2)
        obtain ⟨T, hTT⟩ : ∃ T, takeS f u.data.toList = T := ⟨_, rfl⟩
        have HTT := Lib.hid hTT
        rw [hTT] at hT ⊢
        obtain ⟨hT1, hT2⟩ := hT
        clear hTT hB2 HOWN HB
        by_cases hneg : T < 0
        · have HBAD : Hid (splitS fs s.data.toList = none) := Lib.hid (by rw [HR.out, ← HW.out, HD.out, addP_bad (by rw [HTT.out]; exact hneg)])
          go_wp2_with fail
          go_ret2
          exact ⟨HB3.out, .inr ⟨HBAD.out, rfl⟩⟩
        · obtain ⟨m, rfl⟩ : ∃ m : Nat, T = m := ⟨T.toNat, by omega⟩
          have hms : m ≤ u.size := by omega
          have hmi : (m : Int) ≤ (u.size : Int) := by omega
          have HW2 : Hid (addP (P ++ [u.data.toList.take m]) (splitS (fs.drop (k + 1)) (u.data.toList.drop m)) = R) := Lib.hid (by rw [← addP_go HTT.out, ← HD.out]; exact HW.out)
          have hx : (u.extract 0 m).data.toList = u.data.toList.take m := ext0 u m
          have HX : Hid (Value.string (u.extract 0 m) = strV (u.data.toList.take m)) := Lib.hid (congrArg Value.string (ba_ext hx))
          have HU2 := Lib.hid (ext_end u m)
          have hus2 : (u.extract m u.size).size = u.size - m := by rw [ByteArray.size_extract]; omega
          have HUS2 := Lib.hid hus2
          have hown := HOWN2.out
          have hB' := HB3.out
          have hsz := hB'.size
          clear hneg hx hus2 hT1 hT2
          go_wp2_with (at_builtin; go_must (refine wpList_append_own _ rfl _ _ 29 rfl w.heap.size 9 i0 (.string ByteArray.empty) 1 16 Try.underlying29 hi hz0 hz1 hz2 rfl (by decide) _ _ _ rfl (hown.alloc _) ⟨_, 0, none⟩ 1 1 [.string (u.extract 0 m)] rfl rfl ?c1 ?c2 ?c3 ?c4 ?c5 ?_))
          case c1 => exact cell_one_new _ _ _
          case c2 => simp [Value.oneCell']
          case c3 => unfold maxLen; omega
          case c4 => omega
          case c5 => simp; omega
          intro v' w1 hown' hgrow hnil
          have hown2 := own_snoc HX.out hown'
          have hB4 := below_append hB' hsz hown hgrow
          clear hown' hgrow hown hnil
          go_wp2_with fail
          have hkg := HKG.out
          go_roundg (gk - 1)
          case rel =>
            have h2 := HUS2.out
            exact ⟨k + 1, _, _, by go_num, rfl, by omega, by omega, by omega, by simp; omega, Lib.hid (by rw [HU2.out]; exact HW2.out), hown2, hB4⟩
          case measure => omega
    · have hke : k = n := by omega
      subst hke
      have HE : Hid (R = some (P, u.data.toList)) := Lib.hid (by rw [← HW.out, List.drop_eq_nil_iff.2 (by have := HN.out; omega), addP_end])
      have HFIN : Hid (splitS fs s.data.toList = some (P, u.data.toList)) := Lib.hid (HR.out.trans HE.out)
      have hem : u.data.toList.isEmpty = u.toList.isEmpty := by rw [Lib.toList_data]
      have HEM := Lib.hid hem
      clear hlt hem
      go_wp2_with fail
      go_ret2
      refine ⟨HB.out, .inl ⟨_, P, u.data.toList, HFIN.out, ?_, hown⟩⟩
      rw [HEM.out]; rfl
end Go.Proofs.Ythblaldkpjilhaa.parts

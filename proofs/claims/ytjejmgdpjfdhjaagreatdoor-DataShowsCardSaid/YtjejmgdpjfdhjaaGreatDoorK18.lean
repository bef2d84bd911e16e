/- data.split: walk. How many bytes a name, a row of texts take: gazetteerref1.size: walk. data.holds, data.Check: walks. The fields of a type: gazetteerref1.Form: walk. The fields' bytes: gazetteerref1.Parts: walk. gazetteerref1.CheckData: walk. How a text tells a name: plain. -/
import Derived.Test.YtjejmgdpjfdhjaaGreatDoorK17
import Derived.Test.YtjejmgdpjfdhjaaGreatDoorK15
import Derived.Test.YtjejmgdpjfdhjaaGreatDoorK10
import Derived.Test.YtjejmgdpjfdhjaaGreatDoorK9
import Derived.Deep.DeepCutAuto
import Derived.Handy
namespace Go.Proofs.YtjejmgdpjfdhjaaGreatDoor.splitD
open Go.RowKit Go.Proofs.YtjejmgdpjfdhjaaGreatDoor.kit Go.Proofs.YtjejmgdpjfdhjaaGreatDoor.nspec Go.Proofs.YtjejmgdpjfdhjaaGreatDoor.rsplit Go.Proofs.YtjejmgdpjfdhjaaGreatDoor.fld Go.Proofs.YtjejmgdpjfdhjaaGreatDoor.formW Go.Proofs.YtjejmgdpjfdhjaaGreatDoor.takes Go.Proofs.YtjejmgdpjfdhjaaGreatDoor.kindsT Go.Proofs.YtjejmgdpjfdhjaaGreatDoor.hostT Go.Proofs.YtjejmgdpjfdhjaaGreatDoor.textsT
set_option linter.unusedVariables false

def RdF (w : World) (g : Nat) (fs : List Fld) : Prop := ∀ (j : Nat) (f : Fld), fs[j]? = some f → w.cell? ⟨g, j, none⟩ = some (fldV f)
def FairF (fs : List Fld) : Prop := fs.length ≤ 20 ∧ ∀ k, Fld.num k ∈ fs → k ≤ 100
/-- what split leaves -/
def SplitPost (w : World) (fs : List Fld) (d : Bs) (e : Ending) (w' : World) : Prop := Below w.heap.size w w' ∧ ((∃ (v : Value) (p : List Bs) (r : Bs), splitS fs d = some (p, r) ∧ e = .returned (.tuple #[v, .bool r.isEmpty]) ∧ w'.ownsRow w.heap.size 9 1 v p.length (p.map strV)) ∨ (splitS fs d = none ∧ e = .returned (.tuple #[.slice none 0 0, .bool false])))
def addP (P : List Bs) (o : Option (List Bs × Bs)) : Option (List Bs × Bs) := o.map (fun p => (P ++ p.1, p.2))
theorem addP_nil (o : Option (List Bs × Bs)) : addP [] o = o := by cases o <;> simp [addP]
theorem addP_end (P : List Bs) (d : Bs) : addP P (splitS [] d) = some (P, d) := by simp [addP, splitS]
theorem addP_bad {P : List Bs} {f : Fld} {fs : List Fld} {d : Bs} (h : takeS f d < 0) : addP P (splitS (f :: fs) d) = none := by simp [addP, splitS, h]
theorem addP_go {P : List Bs} {f : Fld} {fs : List Fld} {d : Bs} {m : Nat} (h : takeS f d = (m : Int)) : addP P (splitS (f :: fs) d) = addP (P ++ [d.take m]) (splitS fs (d.drop m)) := by
  simp only [addP, splitS, h]
  rw [if_neg (by omega), Int.toNat_natCast]
  cases splitS fs (d.drop m) <;> simp

theorem ownsRow_below {w w' : World} {base : Nat} {e : TypeId} {size n : Nat} {v : Value} {xs : List Value} (h : w.ownsRow base e size v n xs) (hB : Below w.heap.size w w') : w'.ownsRow base e size v n xs := by
  refine ⟨h.1, ?_⟩
  rcases h.2 with h1 | ⟨g, cap, cur, h1, h2, h3, h4⟩
  · exact .inl h1
  · exact .inr ⟨g, cap, cur, h1, h2, (hB.block g (Array.getElem?_eq_some_iff.1 h3).1).trans h3, h4⟩
set_option maxRecDepth 100000 in
set_option maxHeartbeats 8000000 in
theorem split_any (fs : List Fld) (g : Nat) (s : ByteArray) (w : World) (hr : RdF w g fs) (hg : g < w.heap.size) (hf : FairF fs) (hs : s.size ≤ 65535) (n : Nat) (hn : fs.length = n) :
    Calls Tryz.prog 15 #[.slice (some ⟨g, 0, none⟩) n n, .string s] w (SplitPost w fs s.data.toList) := by
  obtain ⟨i0, hi, hz0, hz1, hz2⟩ := info_parts infoStr
  obtain ⟨R, HR⟩ : ∃ R, Hid (splitS fs s.data.toList = R) := ⟨_, Lib.hid rfl⟩
  have HR0 : Hid (addP [] (splitS (fs.drop 0) s.data.toList) = R) := Lib.hid (by rw [addP_nil, List.drop_zero]; exact HR.out)
  have hn20 : n ≤ 20 := by rw [← hn]; exact hf.1
  have HN := Lib.hid hn; have HF := Lib.hid hf.2; have HRD := Lib.hid hr
  clear hn hf hr
  go_enter Tryz.func15, Tryz.ntmps15
  go_wp2_with fail
  go_loopg [1, 6, 8, 9, 12] (n + 1) (fun gas dv pv _ _ kv wr => ∃ (k : Nat) (u : ByteArray) (P : List Bs), kv = .int .i64 k ∧ dv = .string u ∧ k ≤ n ∧ n + 1 ≤ k + gas ∧ u.size ≤ 65535 ∧ P.length ≤ k ∧ Hid (addP P (splitS (fs.drop k) u.data.toList) = R) ∧ wr.ownsRow w.heap.size 9 1 pv P.length (P.map strV) ∧ Below w.heap.size w wr)
  case atStart => exact ⟨0, s, [], rfl, rfl, by omega, by omega, hs, by simp, HR0, World.ownsRow_nil _ _ _ _, Below.refl _ _⟩
  case round =>
    obtain ⟨k, u, P, rfl, rfl, hk, hkg, hu, hP, HW, hown, hB⟩ := hrel
    have HKG := Lib.hid hkg; clear hkg
    have HB := Lib.hid hB
    by_cases hlt : k < n
    · obtain ⟨f, hfk⟩ : ∃ f, fs[k]? = some f := ⟨_, List.getElem?_eq_getElem (by have := HN.out; omega)⟩
      have hcell := (hB.cell (p := ⟨g, k, none⟩) hg).trans (HRD.out k f hfk)
      have hdr : fs.drop k = f :: fs.drop (k + 1) := by
        obtain ⟨h1, h2⟩ := List.getElem?_eq_some_iff.1 hfk
        rw [List.drop_eq_getElem_cons h1, h2]
      have hnum := fun j (e : f = .num j) => HF.out j (by rw [← e]; exact List.mem_of_getElem? hfk)
      have HD := Lib.hid hdr; have HNUM := Lib.hid hnum; have HOWN := Lib.hid hown
      obtain ⟨fv, hfv⟩ : ∃ fv, fldV f = fv := ⟨_, rfl⟩
      have HFV := Lib.hid hfv
      rw [hfv] at hcell
      clear hdr hnum hfk hfv hown hB
      go_upto_region 5 with (fail)
      go_cut [9] (fun s9 wx => s9 = .int .i64 (takeS f u.data.toList) ∧ Below wr.heap.size wr wx)
      case first =>
        clear hcell
        have hfv := HFV.out
        subst hfv
        clear HFV HRD HF HD HW HN HR HR0 HOWN
        cases f with
        | num j =>
          simp only [fldV]
          go_wp2_with fail
          refine (num_any j u _ (HNUM.out j rfl) (by omega)).mono ?_
          rintro e w1 ⟨rfl, hB1⟩
          go_wp2_with fail
          go_meet
          exact ⟨rfl, hB1⟩
        | ip4 =>
          simp only [fldV]
          go_wp2_with fail
          refine (ip4_any u _ (by omega)).mono ?_
          rintro e w1 ⟨rfl, hB1⟩
          go_wp2_with fail
          go_meet
          exact ⟨rfl, hB1⟩
        | ip6 =>
          simp only [fldV]
          go_wp2_with fail
          refine (ip6_any u _ (by omega)).mono ?_
          rintro e w1 ⟨rfl, hB1⟩
          go_wp2_with fail
          go_meet
          exact ⟨rfl, hB1⟩
        | host =>
          simp only [fldV]
          go_wp2_with fail
          refine (host_any u _ (by omega)).mono ?_
          rintro e w1 ⟨rfl, hB1⟩
          go_wp2_with fail
          go_meet
          exact ⟨rfl, hB1⟩
        | text =>
          simp only [fldV]
          go_wp2_with fail
          refine (text_any u _ (by omega)).mono ?_
          rintro e w1 ⟨rfl, hB1⟩
          go_wp2_with fail
          go_meet
          exact ⟨rfl, hB1⟩
        | texts =>
          simp only [fldV]
          go_wp2_with fail
          refine (texts_any u _ (by omega)).mono ?_
          rintro e w1 ⟨rfl, hB1⟩
          go_wp2_with fail
          go_meet
          exact ⟨rfl, hB1⟩
        | tail =>
          simp only [fldV]
          go_wp2_with fail
          refine (tail_any u _ (by omega)).mono ?_
          rintro e w1 ⟨rfl, hB1⟩
          go_wp2_with fail
          go_meet
          exact ⟨rfl, hB1⟩
        | hexes =>
          simp only [fldV]
          go_wp2_with fail
          refine (hexes_any u _ (by omega)).mono ?_
          rintro e w1 ⟨rfl, hB1⟩
          go_wp2_with fail
          go_meet
          exact ⟨rfl, hB1⟩
        | b64 =>
          simp only [fldV]
          go_wp2_with fail
          refine (b64_any u _ (by omega)).mono ?_
          rintro e w1 ⟨rfl, hB1⟩
          go_wp2_with fail
          go_meet
          exact ⟨rfl, hB1⟩
        | kind =>
          simp only [fldV]
          go_wp2_with fail
          refine (kind_any u _ (by omega)).mono ?_
          rintro e w1 ⟨rfl, hB1⟩
          go_wp2_with fail
          go_meet
          exact ⟨rfl, hB1⟩
        | kinds =>
          simp only [fldV]
          go_wp2_with fail
          refine (kinds_any u _ (by omega)).mono ?_
          rintro e w1 ⟨rfl, hB1⟩
          go_wp2_with fail
          go_meet
          exact ⟨rfl, hB1⟩
        | salt =>
          simp only [fldV]
          go_wp2_with fail
          refine (salt_any u _ (by omega)).mono ?_
          rintro e w1 ⟨rfl, hB1⟩
          go_wp2_with fail
          go_meet
          exact ⟨rfl, hB1⟩
        | hash =>
          simp only [fldV]
          go_wp2_with fail
          refine (hash_any u _ (by omega)).mono ?_
          rintro e w1 ⟨rfl, hB1⟩
          go_wp2_with fail
          go_meet
          exact ⟨rfl, hB1⟩
      case rest =>
        obtain ⟨rfl, hB2⟩ := hcut
        have hT := takeS_le f u.data.toList
        rw [size_len] at hT
        have HB3 := Lib.hid (HB.out.trans (hB2.mono HB.out.size))
        have HOWN2 := Lib.hid (ownsRow_below HOWN.out hB2)
        obtain ⟨T, hTT⟩ : ∃ T, takeS f u.data.toList = T := ⟨_, rfl⟩
        have HTT := Lib.hid hTT
        rw [hTT] at hT ⊢
        obtain ⟨hT1, hT2⟩ := hT
        clear hTT hB2 HOWN HB hcell
        by_cases hneg : T < 0
        · have HBAD : Hid (splitS fs s.data.toList = none) := Lib.hid (by rw [HR.out, ← HW.out, HD.out, addP_bad (by rw [HTT.out]; exact hneg)])
          go_wp2_with fail
          go_ret2
          exact ⟨HB3.out, .inr ⟨HBAD.out, rfl⟩⟩
        · obtain ⟨m, rfl⟩ : ∃ m : Nat, T = m := ⟨T.toNat, by omega⟩
          have hms : m ≤ u.size := by omega
          have hmi : (m : Int) ≤ (u.size : Int) := by omega
          have HW2 : Hid (addP (P ++ [u.data.toList.take m]) (splitS (fs.drop (k + 1)) (u.data.toList.drop m)) = R) := Lib.hid (by rw [← addP_go HTT.out, ← HD.out]; exact HW.out)
          have hx : (u.extract 0 m).data.toList = u.data.toList.take m := ext0 u m
          have HX : Hid (Value.string (u.extract 0 m) = strV (u.data.toList.take m)) := Lib.hid (congrArg Value.string (ba_ext hx))
          have HU2 := Lib.hid (ext_end u m)
          have hus2 : (u.extract m u.size).size = u.size - m := by rw [ByteArray.size_extract]; omega
          have HUS2 := Lib.hid hus2
          have hown := HOWN2.out
          have hB' := HB3.out
          have hsz := hB'.size
          clear hneg hx hus2 hT1 hT2
          go_wp2_with (at_builtin; go_must (refine wpList_append_own _ rfl _ _ 37 rfl w.heap.size 9 i0 (.string ByteArray.empty) 1 16 Tryz.underlying37 hi hz0 hz1 hz2 rfl (by decide) _ _ _ rfl (hown.alloc _) ⟨_, 0, none⟩ 1 1 [.string (u.extract 0 m)] rfl rfl ?c1 ?c2 ?c3 ?c4 ?c5 ?_))
          case c1 => exact cell_one_new _ _ _
          case c2 => simp [Value.oneCell']
          case c3 => unfold maxLen; omega
          case c4 => omega
          case c5 => simp; omega
          intro v' w1 hown' hgrow hnil
          have hown2 := own_snoc HX.out hown'
          have hB4 := below_append hB' hsz hown hgrow
          clear hown' hgrow hown hnil
          go_wp2_with fail
          have hkg := HKG.out
          go_roundg (gk - 1)
          case rel =>
            have h2 := HUS2.out
            exact ⟨k + 1, _, _, by go_num, rfl, by omega, by omega, by omega, by simp; omega, Lib.hid (by rw [HU2.out]; exact HW2.out), hown2, hB4⟩
          case measure => omega
    · have hke : k = n := by omega
      subst hke
      have HE : Hid (R = some (P, u.data.toList)) := Lib.hid (by rw [← HW.out, List.drop_eq_nil_iff.2 (by have := HN.out; omega), addP_end])
      have HFIN : Hid (splitS fs s.data.toList = some (P, u.data.toList)) := Lib.hid (HR.out.trans HE.out)
      have hem : u.data.toList.isEmpty = u.toList.isEmpty := by rw [Lib.toList_data]
      have HEM := Lib.hid hem
      clear hlt hem
      go_wp2_with fail
      go_ret2
      refine ⟨HB.out, .inl ⟨_, P, u.data.toList, HFIN.out, ?_, hown⟩⟩
      rw [HEM.out]; rfl
end Go.Proofs.YtjejmgdpjfdhjaaGreatDoor.splitD
namespace Go.Proofs.YtjejmgdpjfdhjaaGreatDoor.rsizeB
open Go.RowKit Go.Proofs.YtjejmgdpjfdhjaaGreatDoor.kit Go.Proofs.YtjejmgdpjfdhjaaGreatDoor.nspec Go.Proofs.YtjejmgdpjfdhjaaGreatDoor.rsplit Go.Proofs.YtjejmgdpjfdhjaaGreatDoor.fld Go.Proofs.YtjejmgdpjfdhjaaGreatDoor.takes Go.Proofs.YtjejmgdpjfdhjaaGreatDoor.hostP Go.Proofs.YtjejmgdpjfdhjaaGreatDoor.hostT Go.Proofs.YtjejmgdpjfdhjaaGreatDoor.textsT Go.Proofs.YtjejmgdpjfdhjaaGreatDoor.rsize
set_option linter.unusedVariables false

set_option maxRecDepth 100000 in
set_option maxHeartbeats 2000000 in
theorem size_host (s : ByteArray) (w : World) (hs : s.size ≤ 65535) : Calls Tryz.prog 42 #[.int .u8 110, .string s] w (SaysSz .host s w) := by
  obtain ⟨R, HR⟩ : ∃ R, Hid (hostS s.data.toList = R) := ⟨_, Lib.hid rfl⟩
  have HT : Hid (takeS .host s.data.toList = R) := Lib.hid HR.out
  unfold SaysSz
  rw [HT.out]
  go_enter Tryz.func42, Tryz.ntmps42
  go_wp2_with fail
  go_loopg [5] 256 (fun gas kv wr => ∃ k : Nat, kv = .int .i64 k ∧ 1 ≤ k ∧ k ≤ 256 ∧ 257 ≤ k + gas ∧ Hid (∀ j, j < k → split (s.data.toList.take j) = none) ∧ Below w.heap.size w wr)
  case atStart => exact ⟨1, rfl, by omega, by omega, by omega, Lib.hid (fun j hj => by
    have : j = 0 := by omega
    subst this; rfl), Below.refl _ _⟩
  case round =>
    obtain ⟨k, rfl, hk1, hk2, hkg, HJ, hB⟩ := hrel
    have HKG := Lib.hid hkg; clear hkg
    have HB := Lib.hid hB; clear hB
    by_cases hle : k ≤ s.size
    · by_cases h255 : k ≤ 255
      · have hlei : (k : Int) ≤ (s.size : Int) := by omega
        have h255i : (k : Int) ≤ 255 := by omega
        have CK := Lib.hid (fun w => isName_any (s.extract 0 k) w (by rw [ByteArray.size_extract]; omega))
        rcases isB_or (s.extract 0 k) with ⟨ls, hN⟩ | hN
        · rw [isB_yes hN] at CK
          rw [ext0] at hN
          have HY := Lib.hid (host_some (by rw [size_len]; exact hle) hN (fun j l hj h => by have := HJ.out j hj; rw [split_iff.2 h] at this; simp at this))
          clear hN
          go_wp2_with fail
          refine (CK.out _).mono ?_
          rintro e w1 ⟨rfl, hB1⟩
          have HB1 := Lib.hid (HB.out.trans (hB1.mono HB.out.size)); clear hB1
          go_wp2_with fail
          go_ret
          exact ⟨by rw [← HR.out, HY.out]; rfl, HB1.out⟩
        · rw [isB_no hN] at CK
          rw [ext0] at hN
          have HJ2 : Hid (∀ j, j < k + 1 → split (s.data.toList.take j) = none) := Lib.hid (fun j hj => by
            rcases Nat.lt_or_ge j k with h | h
            · exact HJ.out j h
            · have : j = k := by omega
              subst this; exact hN)
          clear hN
          go_wp2_with fail
          refine (CK.out _).mono ?_
          rintro e w1 ⟨rfl, hB1⟩
          have HB1 := Lib.hid (HB.out.trans (hB1.mono HB.out.size)); clear hB1
          go_wp2_with fail
          have hkg := HKG.out
          go_roundg (gk - 1)
          case rel => exact ⟨k + 1, by go_num, by omega, by omega, by omega, HJ2, HB1.out⟩
          case measure => omega
      · have HY := Lib.hid (host_none (d := s.data.toList) (fun j l hj h => by
          rcases Nat.lt_or_ge j k with h1 | h1
          · have := HJ.out j h1; rw [split_iff.2 h] at this; simp at this
          · have := h.2.2; rw [List.length_take, size_len] at this; rw [size_len] at hj; omega))
        have hlei : (k : Int) ≤ (s.size : Int) := by omega
        have h255i : (255 : Int) < (k : Int) := by omega
        clear h255
        go_wp2_with fail
        go_ret
        exact ⟨by rw [← HR.out, HY.out]; rfl, HB.out⟩
    · have HY := Lib.hid (host_none (d := s.data.toList) (fun j l hj h => by
        rw [size_len] at hj
        have := HJ.out j (by omega); rw [split_iff.2 h] at this; simp at this))
      have hlei : (s.size : Int) < (k : Int) := by omega
      clear hle
      go_wp2_with fail
      go_ret
      exact ⟨by rw [← HR.out, HY.out]; rfl, HB.out⟩

set_option maxRecDepth 100000 in
set_option maxHeartbeats 2000000 in
theorem size_texts (s : ByteArray) (w : World) (hs : s.size ≤ 65535) : Calls Tryz.prog 42 #[.int .u8 84, .string s] w (SaysSz .texts s w) := by
  obtain ⟨R, HR⟩ : ∃ R, Hid (textsA 0 (s.data.toList.drop 0) = R) := ⟨_, Lib.hid rfl⟩
  have HT : Hid (takeS .texts s.data.toList = R) := Lib.hid HR.out
  unfold SaysSz
  rw [HT.out]
  go_enter Tryz.func42, Tryz.ntmps42
  go_wp2_with fail
  go_loopg [6, 7] (s.size + 1) (fun gas av _ wr => ∃ a : Nat, av = .int .i64 a ∧ a ≤ s.size ∧ s.size + 1 ≤ a + gas ∧ Hid (textsA a (s.data.toList.drop a) = R) ∧ Below w.heap.size w wr)
  case atStart => exact ⟨0, rfl, by omega, by omega, HR, Below.refl _ _⟩
  case round =>
    obtain ⟨a, rfl, ha, hgas, HS, hB⟩ := hrel
    have HG := Lib.hid hgas; clear hgas
    have HB := Lib.hid hB; clear hB
    by_cases hlt : a < s.size
    · obtain ⟨c, hc⟩ : ∃ c, s[a] = c := ⟨_, rfl⟩
      have hd := drop_cons s a hlt
      rw [hc] at hd
      have hl : (s.data.toList.drop (a + 1)).length = s.size - (a + 1) := by rw [List.length_drop, size_len]
      have CT := Lib.hid (fun w => size_text (s.extract a s.size) w (by rw [ByteArray.size_extract]; omega))
      unfold SaysSz at CT
      simp only [takeS] at CT
      rw [ext_end, hd] at CT
      have h1 : (a : Int) ≤ (s.size : Int) := by omega
      by_cases h2 : (s.data.toList.drop (a + 1)).length < c.toNat
      · have e1 : textS (c :: s.data.toList.drop (a + 1)) = -1 := by simp only [textS]; rw [if_pos h2]
        have HN : Hid (-1 = R) := Lib.hid (by rw [← HS.out, hd, texts_bad h2])
        rw [e1] at CT
        clear e1 h2 hd hl
        go_wp2_with fail
        refine (CT.out _).mono ?_
        rintro e w1 ⟨rfl, hB1⟩
        have HB1 := Lib.hid (HB.out.trans (hB1.mono HB.out.size)); clear hB1
        go_wp2_with fail
        go_ret
        exact ⟨by rw [← HN.out]; rfl, HB1.out⟩
      · have e1 : textS (c :: s.data.toList.drop (a + 1)) = ((1 + c.toNat : Nat) : Int) := by simp only [textS]; rw [if_neg h2]; simp
        obtain ⟨n, hn⟩ : ∃ n, 1 + c.toNat = n := ⟨_, rfl⟩
        have hns : a + n ≤ s.size := by omega
        have HN : Hid (textsA (a + n) (s.data.toList.drop (a + n)) = R) := Lib.hid (by
          rw [← HS.out, hd, texts_go (by omega), List.drop_drop, hn, show a + 1 + c.toNat = a + n by omega])
        rw [e1, hn] at CT
        have hn1 : 1 ≤ n := by omega
        clear e1 h2 hd hl hn
        go_wp2_with fail
        refine (CT.out _).mono ?_
        rintro e w1 ⟨rfl, hB1⟩
        have HB1 := Lib.hid (HB.out.trans (hB1.mono HB.out.size)); clear hB1
        go_wp2_with fail
        have hgas := HG.out
        go_roundg (gk - 1)
        case rel => exact ⟨a + n, by go_num, by omega, by omega, HN, HB1.out⟩
        case measure => omega
    · have hae : a = s.size := by omega
      subst hae
      have HN : Hid ((if s.size = 0 then -1 else (s.size : Int)) = R) := Lib.hid (by rw [← HS.out, drop_end s s.size (Nat.le_refl _), texts_end])
      clear hlt
      by_cases h0 : s.size = 0
      · have hz : ((s.size : Int) == 0) = true := by rw [beq_iff_eq]; omega
        rw [if_pos h0] at HN
        have H0 := Lib.hid h0; clear h0
        go_wp2_with fail
        go_ret
        exact ⟨by rw [← HN.out]; rfl, HB.out⟩
      · have hz : ((s.size : Int) == 0) = false := by rw [beq_eq_false_iff_ne]; omega
        rw [if_neg h0] at HN
        clear h0
        go_wp2_with fail
        go_ret
        exact ⟨by rw [← HN.out]; rfl, HB.out⟩

/-- of every field that a form can have -/
theorem size_any (f : Fld) (s : ByteArray) (w : World) (hs : s.size ≤ 65535) (hf : ∀ k, f = .num k → k = 1 ∨ k = 2 ∨ k = 4) : Calls Tryz.prog 42 #[.int .u8 (letterOf f : Nat), .string s] w (SaysSz f s w) := by
  cases f with
  | num k =>
    rcases hf k rfl with h | h | h <;> subst h
    · exact size_1 s w hs
    · exact size_2 s w hs
    · exact size_4 s w hs
  | ip4 => exact size_ip4 s w hs
  | ip6 => exact size_ip6 s w hs
  | host => exact size_host s w hs
  | text => exact size_text s w hs
  | texts => exact size_texts s w hs
  | tail => exact size_tail s w hs
  | hexes => exact size_hexes s w hs
  | b64 => exact size_b64 s w hs
  | kind => exact size_kind s w hs
  | kinds => exact size_kinds s w hs
  | salt => exact size_salt s w hs
  | hash => exact size_hash s w hs
end Go.Proofs.YtjejmgdpjfdhjaaGreatDoor.rsizeB
namespace Go.Proofs.YtjejmgdpjfdhjaaGreatDoor.dcheck
open Go.RowKit Go.Proofs.YtjejmgdpjfdhjaaGreatDoor.kit Go.Proofs.YtjejmgdpjfdhjaaGreatDoor.nspec Go.Proofs.YtjejmgdpjfdhjaaGreatDoor.fld Go.Proofs.YtjejmgdpjfdhjaaGreatDoor.formW Go.Proofs.YtjejmgdpjfdhjaaGreatDoor.splitD
set_option linter.unusedVariables false

theorem holds_no {t : Int} (h : t < 1 ∨ 65535 < t ∨ t = 41 ∨ (128 ≤ t ∧ t ≤ 255)) : holdsB t = false := by
  unfold holdsB
  rcases h with h | h | h | h
  · rw [decide_eq_false (by omega)]; rfl
  · rw [decide_eq_false (p := t ≤ 65535) (by omega)]; simp
  · subst h; rfl
  · rw [decide_eq_false (p := t < 128) (by omega), decide_eq_false (p := 255 < t) (by omega)]; simp
theorem holds_yes {t : Int} (h1 : 1 ≤ t) (h2 : t ≤ 65535) (h3 : t ≠ 41) (h4 : t < 128 ∨ 255 < t) : holdsB t = true := by
  unfold holdsB
  rw [decide_eq_true h1, decide_eq_true h2, (bne_iff_ne).2 h3]
  rcases h4 with h | h
  · rw [decide_eq_true h]; rfl
  · rw [decide_eq_true h]; simp

set_option maxRecDepth 100000 in
set_option maxHeartbeats 2000000 in
theorem holds_any (t : Int) (w : World) : Calls Tryz.prog 37 #[.int .i64 t] w fun e w' => e = .returned (.bool (holdsB t)) ∧ w = w' := by
  by_cases h1 : t < 1
  · have H := Lib.hid (holds_no (.inl h1))
    go_enter Tryz.func37, Tryz.ntmps37
    go_wp2_with fail
    go_ret
    exact ⟨by rw [H.out]; rfl, rfl⟩
  have h1i : 1 ≤ t := by omega
  clear h1
  by_cases h2 : 65535 < t
  · have H := Lib.hid (holds_no (.inr (.inl h2)))
    go_enter Tryz.func37, Tryz.ntmps37
    go_wp2_with fail
    go_ret
    exact ⟨by rw [H.out]; rfl, rfl⟩
  have h2i : t ≤ 65535 := by omega
  clear h2
  by_cases h3 : t = 41
  · subst h3
    go_enter Tryz.func37, Tryz.ntmps37
    go_wp2_with fail
    go_ret
    exact ⟨rfl, rfl⟩
  have h3b : (t != 41) = true := by rw [bne_iff_ne]; exact h3
  have H3 := Lib.hid h3; clear h3
  by_cases h4 : t < 128
  · have H := Lib.hid (holds_yes h1i h2i H3.out (.inl h4))
    go_enter Tryz.func37, Tryz.ntmps37
    go_wp2_with fail
    go_ret
    exact ⟨by rw [H.out]; rfl, rfl⟩
  have h4i : 128 ≤ t := by omega
  clear h4
  by_cases h5 : 255 < t
  · have H := Lib.hid (holds_yes h1i h2i H3.out (.inr h5))
    go_enter Tryz.func37, Tryz.ntmps37
    go_wp2_with fail
    go_ret
    exact ⟨by rw [H.out]; rfl, rfl⟩
  · have h5i : t ≤ 255 := by omega
    have H := Lib.hid (holds_no (.inr (.inr (.inr ⟨h4i, h5i⟩))))
    have d4 : decide (t < 128) = false := by rw [decide_eq_false_iff_not]; omega
    have d5 : decide (255 < t) = false := by rw [decide_eq_false_iff_not]; omega
    clear h5
    go_enter Tryz.func37, Tryz.ntmps37
    go_wp2_with fail
    go_ret
    exact ⟨by rw [H.out]; rfl, rfl⟩

theorem fair_of {fs gs : List Fld} (h : some gs = some fs) (hl : gs.length ≤ 20) (hk : gs.all (fun f => match f with | .num k => decide (k ≤ 100) | _ => true) = true) : FairF fs := by
  have e := Option.some.inj h
  subst e
  refine ⟨hl, fun k hm => ?_⟩
  have := List.all_eq_true.1 hk _ hm
  simpa using this
theorem form_fair {t : Int} {fs : List Fld} (h : formS t = some fs) : FairF fs := by
  by_cases h1 : t = 1
  · subst h1; exact fair_of h (by decide) (by decide)
  by_cases h2 : t = 2
  · subst h2; exact fair_of h (by decide) (by decide)
  by_cases h5 : t = 5
  · subst h5; exact fair_of h (by decide) (by decide)
  by_cases h12 : t = 12
  · subst h12; exact fair_of h (by decide) (by decide)
  by_cases h39 : t = 39
  · subst h39; exact fair_of h (by decide) (by decide)
  by_cases h6 : t = 6
  · subst h6; exact fair_of h (by decide) (by decide)
  by_cases h13 : t = 13
  · subst h13; exact fair_of h (by decide) (by decide)
  by_cases h15 : t = 15
  · subst h15; exact fair_of h (by decide) (by decide)
  by_cases h16 : t = 16
  · subst h16; exact fair_of h (by decide) (by decide)
  by_cases h28 : t = 28
  · subst h28; exact fair_of h (by decide) (by decide)
  by_cases h33 : t = 33
  · subst h33; exact fair_of h (by decide) (by decide)
  by_cases h35 : t = 35
  · subst h35; exact fair_of h (by decide) (by decide)
  by_cases h43 : t = 43
  · subst h43; exact fair_of h (by decide) (by decide)
  by_cases h46 : t = 46
  · subst h46; exact fair_of h (by decide) (by decide)
  by_cases h47 : t = 47
  · subst h47; exact fair_of h (by decide) (by decide)
  by_cases h48 : t = 48
  · subst h48; exact fair_of h (by decide) (by decide)
  by_cases h50 : t = 50
  · subst h50; exact fair_of h (by decide) (by decide)
  by_cases h51 : t = 51
  · subst h51; exact fair_of h (by decide) (by decide)
  by_cases h257 : t = 257
  · subst h257; exact fair_of h (by decide) (by decide)
  simp [formS, h1, h2, h5, h12, h39, h6, h13, h15, h16, h28, h33, h35, h43, h46, h47, h48, h50, h51, h257] at h
theorem fields_rd (fs : List Fld) (w : World) : RdF (w.alloc (fieldsO fs)) w.heap.size fs := by
  intro j f hf
  unfold fieldsO
  rw [World.cell?_alloc_new]
  simp [hf]

set_option maxRecDepth 100000 in
set_option maxHeartbeats 2000000 in
theorem dcheck_any (t : Int) (s : ByteArray) (w : World) (hs : s.size ≤ maxLen) :
    Calls Tryz.prog 11 #[.int .i64 t, .string s] w fun e w' => e = .returned (.int .i64 (checkS t s.data.toList)) ∧ Below w.heap.size w w' := by
  obtain ⟨R, HR⟩ : ∃ R, Hid (checkS t s.data.toList = R) := ⟨_, Lib.hid rfl⟩
  rw [HR.out]
  have CH := Lib.hid (fun w => holds_any t w)
  obtain ⟨b, hb⟩ : ∃ b, holdsB t = b := ⟨_, rfl⟩
  rw [hb] at CH
  cases b with
  | false =>
    have HN : Hid (6 = R) := Lib.hid (by rw [← HR.out, checkS, if_pos hb])
    clear hb
    go_enter Tryz.func11, Tryz.ntmps11
    go_wp2_with fail
    refine (CH.out _).mono ?_
    rintro e w1 ⟨rfl, rfl⟩
    go_wp2_with fail
    go_ret
    exact ⟨by rw [← HN.out]; rfl, Below.refl _ _⟩
  | true =>
    have hnb : ¬ holdsB t = false := by rw [hb]; simp
    by_cases hl : 65535 < s.size
    · have HN : Hid (7 = R) := Lib.hid (by rw [← HR.out, checkS, if_neg hnb, if_pos (by rw [size_len]; exact hl)])
      have hli : (65535 : Int) < (s.size : Int) := by omega
      clear hb hnb hl
      go_enter Tryz.func11, Tryz.ntmps11
      go_wp2_with fail
      refine (CH.out _).mono ?_
      rintro e w1 ⟨rfl, rfl⟩
      go_wp2_with fail
      go_ret
      exact ⟨by rw [← HN.out]; rfl, Below.refl _ _⟩
    · have hli : (s.size : Int) ≤ 65535 := by omega
      have hls : s.size ≤ 65535 := by omega
      have HC : Hid (R = if partsS t s.data.toList = none then 7 else 0) := Lib.hid (by rw [← HR.out, checkS, if_neg hnb, if_neg (by rw [size_len]; exact hl)])
      clear hb hnb hl
      cases hf : formS t with
      | none =>
        have HN : Hid (0 = R) := Lib.hid (by rw [HC.out]; unfold partsS; rw [hf]; rfl)
        have CF := Lib.hid (fun w => form_no t w hf)
        clear hf
        go_enter Tryz.func11, Tryz.ntmps11
        go_wp2_with fail
        refine (CH.out _).mono ?_
        rintro e w1 ⟨rfl, rfl⟩
        go_wp2_with fail
        refine (CF.out _).mono ?_
        rintro e w1 ⟨rfl, rfl⟩
        go_wp2_with fail
        go_ret
        exact ⟨by rw [← HN.out]; rfl, Below.refl _ _⟩
      | some fs =>
        have CF := Lib.hid (fun w => form_yes t fs w hf)
        have HFA := Lib.hid (form_fair hf)
        have HP : Hid (partsS t s.data.toList = match splitS fs s.data.toList with | some (p, []) => some p | _ => none) := Lib.hid (by unfold partsS; rw [hf]; rfl)
        obtain ⟨n, hn⟩ : ∃ n, fs.length = n := ⟨_, rfl⟩
        have CS := Lib.hid (fun w => split_any fs w.heap.size s (w.alloc (fieldsO fs)) (fields_rd fs w) (by rw [World.size_alloc]; omega) HFA.out hls n hn)
        unfold FormPost at CF
        rw [hn] at CF
        clear hf hn
        go_enter Tryz.func11, Tryz.ntmps11
        go_wp2_with fail
        refine (CH.out _).mono ?_
        rintro e w1 ⟨rfl, rfl⟩
        go_wp2_with fail
        refine (CF.out _).mono ?_
        rintro e w1 ⟨rfl, rfl⟩
        go_wp2_with fail
        refine (CS.out _).mono ?_
        rintro e w2 ⟨hB2, ⟨v, p, r, hsp, rfl, hown⟩ | ⟨hsp, rfl⟩⟩
        · have HB := Lib.hid (((Below.refl w.heap.size w).alloc (Nat.le_refl _) (fieldsO fs)).trans (hB2.mono (by rw [World.size_alloc]; omega)))
          have HQ : Hid (R = if r.isEmpty then 0 else 7) := Lib.hid (by rw [HC.out, HP.out, hsp]; cases r <;> simp)
          clear hB2 hsp hown
          cases r with
          | nil =>
            have HN : Hid (R = 0) := Lib.hid HQ.out
            simp only [List.isEmpty_nil]
            go_wp2_with fail
            go_ret
            exact ⟨by rw [HN.out]; rfl, HB.out⟩
          | cons x r =>
            have HN : Hid (R = 7) := Lib.hid HQ.out
            simp only [List.isEmpty_cons]
            go_wp2_with fail
            go_ret
            exact ⟨by rw [HN.out]; rfl, HB.out⟩
        · have HB := Lib.hid (((Below.refl w.heap.size w).alloc (Nat.le_refl _) (fieldsO fs)).trans (hB2.mono (by rw [World.size_alloc]; omega)))
          have HN : Hid (R = 7) := Lib.hid (by rw [HC.out, HP.out, hsp]; rfl)
          clear hB2 hsp
          go_wp2_with fail
          go_ret
          exact ⟨by rw [HN.out]; rfl, HB.out⟩
end Go.Proofs.YtjejmgdpjfdhjaaGreatDoor.dcheck
namespace Go.Proofs.YtjejmgdpjfdhjaaGreatDoor.rform
open Go.RowKit Go.Proofs.YtjejmgdpjfdhjaaGreatDoor.kit Go.Proofs.YtjejmgdpjfdhjaaGreatDoor.nspec Go.Proofs.YtjejmgdpjfdhjaaGreatDoor.fld Go.Proofs.YtjejmgdpjfdhjaaGreatDoor.rsize Go.Proofs.YtjejmgdpjfdhjaaGreatDoor.dcheck
set_option linter.unusedVariables false

def lettersB (fs : List Fld) : Bs := fs.map (fun f => UInt8.ofNat (letterOf f))
def formB (t : Int) : Bs := match formS t with | some fs => lettersB fs | none => if holdsB t = true then [45] else []
def FormIs (l : Bs) (w : World) (e : Ending) (w' : World) : Prop := e = .returned (.string ⟨l.toArray⟩) ∧ w = w'

set_option maxRecDepth 100000 in
set_option maxHeartbeats 1000000 in
theorem rform_1 (w : World) : Calls Tryz.prog 18 #[.int .i64 1] w (FormIs [97] w) := by
  go_enter Tryz.func18, Tryz.ntmps18
  go_wp2_with fail
  go_ret
  exact ⟨rfl, rfl⟩

set_option maxRecDepth 100000 in
set_option maxHeartbeats 1000000 in
theorem rform_2 (w : World) : Calls Tryz.prog 18 #[.int .i64 2] w (FormIs [110] w) := by
  go_enter Tryz.func18, Tryz.ntmps18
  go_wp2_with fail
  go_ret
  exact ⟨rfl, rfl⟩

set_option maxRecDepth 100000 in
set_option maxHeartbeats 1000000 in
theorem rform_5 (w : World) : Calls Tryz.prog 18 #[.int .i64 5] w (FormIs [110] w) := by
  go_enter Tryz.func18, Tryz.ntmps18
  go_wp2_with fail
  go_ret
  exact ⟨rfl, rfl⟩

set_option maxRecDepth 100000 in
set_option maxHeartbeats 1000000 in
theorem rform_12 (w : World) : Calls Tryz.prog 18 #[.int .i64 12] w (FormIs [110] w) := by
  go_enter Tryz.func18, Tryz.ntmps18
  go_wp2_with fail
  go_ret
  exact ⟨rfl, rfl⟩

set_option maxRecDepth 100000 in
set_option maxHeartbeats 1000000 in
theorem rform_39 (w : World) : Calls Tryz.prog 18 #[.int .i64 39] w (FormIs [110] w) := by
  go_enter Tryz.func18, Tryz.ntmps18
  go_wp2_with fail
  go_ret
  exact ⟨rfl, rfl⟩

set_option maxRecDepth 100000 in
set_option maxHeartbeats 1000000 in
theorem rform_6 (w : World) : Calls Tryz.prog 18 #[.int .i64 6] w (FormIs [110, 110, 52, 52, 52, 52, 52] w) := by
  go_enter Tryz.func18, Tryz.ntmps18
  go_wp2_with fail
  go_ret
  exact ⟨rfl, rfl⟩

set_option maxRecDepth 100000 in
set_option maxHeartbeats 1000000 in
theorem rform_13 (w : World) : Calls Tryz.prog 18 #[.int .i64 13] w (FormIs [116, 116] w) := by
  go_enter Tryz.func18, Tryz.ntmps18
  go_wp2_with fail
  go_ret
  exact ⟨rfl, rfl⟩

set_option maxRecDepth 100000 in
set_option maxHeartbeats 1000000 in
theorem rform_15 (w : World) : Calls Tryz.prog 18 #[.int .i64 15] w (FormIs [50, 110] w) := by
  go_enter Tryz.func18, Tryz.ntmps18
  go_wp2_with fail
  go_ret
  exact ⟨rfl, rfl⟩

set_option maxRecDepth 100000 in
set_option maxHeartbeats 1000000 in
theorem rform_16 (w : World) : Calls Tryz.prog 18 #[.int .i64 16] w (FormIs [84] w) := by
  go_enter Tryz.func18, Tryz.ntmps18
  go_wp2_with fail
  go_ret
  exact ⟨rfl, rfl⟩

set_option maxRecDepth 100000 in
set_option maxHeartbeats 1000000 in
theorem rform_28 (w : World) : Calls Tryz.prog 18 #[.int .i64 28] w (FormIs [54] w) := by
  go_enter Tryz.func18, Tryz.ntmps18
  go_wp2_with fail
  go_ret
  exact ⟨rfl, rfl⟩

set_option maxRecDepth 100000 in
set_option maxHeartbeats 1000000 in
theorem rform_33 (w : World) : Calls Tryz.prog 18 #[.int .i64 33] w (FormIs [50, 50, 50, 110] w) := by
  go_enter Tryz.func18, Tryz.ntmps18
  go_wp2_with fail
  go_ret
  exact ⟨rfl, rfl⟩

set_option maxRecDepth 100000 in
set_option maxHeartbeats 1000000 in
theorem rform_35 (w : World) : Calls Tryz.prog 18 #[.int .i64 35] w (FormIs [50, 50, 116, 116, 116, 110] w) := by
  go_enter Tryz.func18, Tryz.ntmps18
  go_wp2_with fail
  go_ret
  exact ⟨rfl, rfl⟩

set_option maxRecDepth 100000 in
set_option maxHeartbeats 1000000 in
theorem rform_43 (w : World) : Calls Tryz.prog 18 #[.int .i64 43] w (FormIs [50, 49, 49, 104] w) := by
  go_enter Tryz.func18, Tryz.ntmps18
  go_wp2_with fail
  go_ret
  exact ⟨rfl, rfl⟩

set_option maxRecDepth 100000 in
set_option maxHeartbeats 1000000 in
theorem rform_46 (w : World) : Calls Tryz.prog 18 #[.int .i64 46] w (FormIs [107, 49, 49, 52, 52, 52, 50, 110, 98] w) := by
  go_enter Tryz.func18, Tryz.ntmps18
  go_wp2_with fail
  go_ret
  exact ⟨rfl, rfl⟩

set_option maxRecDepth 100000 in
set_option maxHeartbeats 1000000 in
theorem rform_47 (w : World) : Calls Tryz.prog 18 #[.int .i64 47] w (FormIs [110, 75] w) := by
  go_enter Tryz.func18, Tryz.ntmps18
  go_wp2_with fail
  go_ret
  exact ⟨rfl, rfl⟩

set_option maxRecDepth 100000 in
set_option maxHeartbeats 1000000 in
theorem rform_48 (w : World) : Calls Tryz.prog 18 #[.int .i64 48] w (FormIs [50, 49, 49, 98] w) := by
  go_enter Tryz.func18, Tryz.ntmps18
  go_wp2_with fail
  go_ret
  exact ⟨rfl, rfl⟩

set_option maxRecDepth 100000 in
set_option maxHeartbeats 1000000 in
theorem rform_50 (w : World) : Calls Tryz.prog 18 #[.int .i64 50] w (FormIs [49, 49, 50, 115, 72, 75] w) := by
  go_enter Tryz.func18, Tryz.ntmps18
  go_wp2_with fail
  go_ret
  exact ⟨rfl, rfl⟩

set_option maxRecDepth 100000 in
set_option maxHeartbeats 1000000 in
theorem rform_51 (w : World) : Calls Tryz.prog 18 #[.int .i64 51] w (FormIs [49, 49, 50, 115] w) := by
  go_enter Tryz.func18, Tryz.ntmps18
  go_wp2_with fail
  go_ret
  exact ⟨rfl, rfl⟩

set_option maxRecDepth 100000 in
set_option maxHeartbeats 1000000 in
theorem rform_257 (w : World) : Calls Tryz.prog 18 #[.int .i64 257] w (FormIs [49, 116, 114] w) := by
  go_enter Tryz.func18, Tryz.ntmps18
  go_wp2_with fail
  go_ret
  exact ⟨rfl, rfl⟩

set_option maxRecDepth 100000 in
set_option maxHeartbeats 4000000 in
theorem rform_no (t : Int) (w : World) (h0 : formS t = none) : Calls Tryz.prog 18 #[.int .i64 t] w (FormIs (if holdsB t = true then [45] else []) w) := by
  have b1 : (t == 1) = false := by rw [beq_eq_false_iff_ne]; intro h; subst h; simp [formS] at h0
  have b2 : (t == 2) = false := by rw [beq_eq_false_iff_ne]; intro h; subst h; simp [formS] at h0
  have b5 : (t == 5) = false := by rw [beq_eq_false_iff_ne]; intro h; subst h; simp [formS] at h0
  have b12 : (t == 12) = false := by rw [beq_eq_false_iff_ne]; intro h; subst h; simp [formS] at h0
  have b39 : (t == 39) = false := by rw [beq_eq_false_iff_ne]; intro h; subst h; simp [formS] at h0
  have b6 : (t == 6) = false := by rw [beq_eq_false_iff_ne]; intro h; subst h; simp [formS] at h0
  have b13 : (t == 13) = false := by rw [beq_eq_false_iff_ne]; intro h; subst h; simp [formS] at h0
  have b15 : (t == 15) = false := by rw [beq_eq_false_iff_ne]; intro h; subst h; simp [formS] at h0
  have b16 : (t == 16) = false := by rw [beq_eq_false_iff_ne]; intro h; subst h; simp [formS] at h0
  have b28 : (t == 28) = false := by rw [beq_eq_false_iff_ne]; intro h; subst h; simp [formS] at h0
  have b33 : (t == 33) = false := by rw [beq_eq_false_iff_ne]; intro h; subst h; simp [formS] at h0
  have b35 : (t == 35) = false := by rw [beq_eq_false_iff_ne]; intro h; subst h; simp [formS] at h0
  have b43 : (t == 43) = false := by rw [beq_eq_false_iff_ne]; intro h; subst h; simp [formS] at h0
  have b46 : (t == 46) = false := by rw [beq_eq_false_iff_ne]; intro h; subst h; simp [formS] at h0
  have b47 : (t == 47) = false := by rw [beq_eq_false_iff_ne]; intro h; subst h; simp [formS] at h0
  have b48 : (t == 48) = false := by rw [beq_eq_false_iff_ne]; intro h; subst h; simp [formS] at h0
  have b50 : (t == 50) = false := by rw [beq_eq_false_iff_ne]; intro h; subst h; simp [formS] at h0
  have b51 : (t == 51) = false := by rw [beq_eq_false_iff_ne]; intro h; subst h; simp [formS] at h0
  have b257 : (t == 257) = false := by rw [beq_eq_false_iff_ne]; intro h; subst h; simp [formS] at h0
  have H0 := Lib.hid h0
  clear h0
  obtain ⟨l, hl⟩ : ∃ l, (if holdsB t = true then [45] else ([] : Bs)) = l := ⟨_, rfl⟩
  rw [hl]
  by_cases h1 : t < 1
  · have HL : Hid (l = []) := Lib.hid (by rw [← hl, holds_no (.inl h1)]; rfl)
    clear hl
    go_enter Tryz.func18, Tryz.ntmps18
    go_wp2_with fail
    go_ret
    rw [HL.out]
    exact ⟨rfl, rfl⟩
  have h1i : 1 ≤ t := by omega
  clear h1
  by_cases h2 : 65535 < t
  · have HL : Hid (l = []) := Lib.hid (by rw [← hl, holds_no (.inr (.inl h2))]; rfl)
    clear hl
    go_enter Tryz.func18, Tryz.ntmps18
    go_wp2_with fail
    go_ret
    rw [HL.out]
    exact ⟨rfl, rfl⟩
  have h2i : t ≤ 65535 := by omega
  clear h2
  by_cases h3 : t = 41
  · have HL : Hid (l = []) := Lib.hid (by rw [← hl, holds_no (.inr (.inr (.inl h3)))]; rfl)
    have h3b : (t == 41) = true := by rw [beq_iff_eq]; exact h3
    clear hl h3
    go_enter Tryz.func18, Tryz.ntmps18
    go_wp2_with fail
    go_ret
    rw [HL.out]
    exact ⟨rfl, rfl⟩
  have h3b : (t == 41) = false := by rw [beq_eq_false_iff_ne]; exact h3
  have H3 := Lib.hid h3; clear h3
  by_cases h4 : t < 128
  · have HL : Hid (l = [45]) := Lib.hid (by rw [← hl, holds_yes h1i h2i H3.out (.inl h4)]; rfl)
    have d4 : decide (128 ≤ t) = false := by rw [decide_eq_false_iff_not]; omega
    clear hl
    go_enter Tryz.func18, Tryz.ntmps18
    go_wp2_with fail
    go_ret
    rw [HL.out]
    exact ⟨rfl, rfl⟩
  have h4i : 128 ≤ t := by omega
  have d4 : decide (128 ≤ t) = true := by rw [decide_eq_true_eq]; omega
  clear h4
  by_cases h5 : 255 < t
  · have HL : Hid (l = [45]) := Lib.hid (by rw [← hl, holds_yes h1i h2i H3.out (.inr h5)]; rfl)
    have d5 : decide (t ≤ 255) = false := by rw [decide_eq_false_iff_not]; omega
    clear hl
    go_enter Tryz.func18, Tryz.ntmps18
    go_wp2_with fail
    go_ret
    rw [HL.out]
    exact ⟨rfl, rfl⟩
  · have h5i : t ≤ 255 := by omega
    have HL : Hid (l = []) := Lib.hid (by rw [← hl, holds_no (.inr (.inr (.inr ⟨h4i, h5i⟩)))]; rfl)
    have d5 : decide (t ≤ 255) = true := by rw [decide_eq_true_eq]; omega
    clear hl h5
    go_enter Tryz.func18, Tryz.ntmps18
    go_wp2_with fail
    go_ret
    rw [HL.out]
    exact ⟨rfl, rfl⟩
theorem rform_any (t : Int) (w : World) : Calls Tryz.prog 18 #[.int .i64 t] w (FormIs (formB t) w) := by
  by_cases h1 : t = 1
  · subst h1; exact rform_1 w
  by_cases h2 : t = 2
  · subst h2; exact rform_2 w
  by_cases h5 : t = 5
  · subst h5; exact rform_5 w
  by_cases h12 : t = 12
  · subst h12; exact rform_12 w
  by_cases h39 : t = 39
  · subst h39; exact rform_39 w
  by_cases h6 : t = 6
  · subst h6; exact rform_6 w
  by_cases h13 : t = 13
  · subst h13; exact rform_13 w
  by_cases h15 : t = 15
  · subst h15; exact rform_15 w
  by_cases h16 : t = 16
  · subst h16; exact rform_16 w
  by_cases h28 : t = 28
  · subst h28; exact rform_28 w
  by_cases h33 : t = 33
  · subst h33; exact rform_33 w
  by_cases h35 : t = 35
  · subst h35; exact rform_35 w
  by_cases h43 : t = 43
  · subst h43; exact rform_43 w
  by_cases h46 : t = 46
  · subst h46; exact rform_46 w
  by_cases h47 : t = 47
  · subst h47; exact rform_47 w
  by_cases h48 : t = 48
  · subst h48; exact rform_48 w
  by_cases h50 : t = 50
  · subst h50; exact rform_50 w
  by_cases h51 : t = 51
  · subst h51; exact rform_51 w
  by_cases h257 : t = 257
  · subst h257; exact rform_257 w
  have h : formS t = none := by simp [formS, h1, h2, h5, h12, h39, h6, h13, h15, h16, h28, h33, h35, h43, h46, h47, h48, h50, h51, h257]
  have := rform_no t w h
  unfold formB
  rw [h]
  exact this
end Go.Proofs.YtjejmgdpjfdhjaaGreatDoor.rform
namespace Go.Proofs.YtjejmgdpjfdhjaaGreatDoor.parts
open Go.RowKit Go.Proofs.YtjejmgdpjfdhjaaGreatDoor.kit Go.Proofs.YtjejmgdpjfdhjaaGreatDoor.nspec Go.Proofs.YtjejmgdpjfdhjaaGreatDoor.rsplit Go.Proofs.YtjejmgdpjfdhjaaGreatDoor.fld Go.Proofs.YtjejmgdpjfdhjaaGreatDoor.hostT Go.Proofs.YtjejmgdpjfdhjaaGreatDoor.textsT Go.Proofs.YtjejmgdpjfdhjaaGreatDoor.splitD Go.Proofs.YtjejmgdpjfdhjaaGreatDoor.rsize Go.Proofs.YtjejmgdpjfdhjaaGreatDoor.rsizeB Go.Proofs.YtjejmgdpjfdhjaaGreatDoor.rform
set_option linter.unusedVariables false

def Fair4 (fs : List Fld) : Prop := fs.length ≤ 20 ∧ ∀ k, Fld.num k ∈ fs → k = 1 ∨ k = 2 ∨ k = 4
theorem letter_lt (f : Fld) (h : ∀ k, f = .num k → k = 1 ∨ k = 2 ∨ k = 4) : letterOf f < 256 := by
  cases f with
  | num k => have := h k rfl; simp only [letterOf]; omega
  | _ => decide

set_option maxRecDepth 100000 in
set_option maxHeartbeats 8000000 in
theorem parts_any (fs : List Fld) (F s : ByteArray) (w : World) (hF : F.data.toList = lettersB fs) (hf : Fair4 fs) (hs : s.size ≤ 65535) (n : Nat) (hn : fs.length = n) :
    Calls Tryz.prog 21 #[.string F, .string s] w (SplitPost w fs s.data.toList) := by
  obtain ⟨i0, hi, hz0, hz1, hz2⟩ := info_parts infoStr
  obtain ⟨R, HR⟩ : ∃ R, Hid (splitS fs s.data.toList = R) := ⟨_, Lib.hid rfl⟩
  have HR0 : Hid (addP [] (splitS (fs.drop 0) s.data.toList) = R) := Lib.hid (by rw [addP_nil, List.drop_zero]; exact HR.out)
  have hn20 : n ≤ 20 := by rw [← hn]; exact hf.1
  have HN := Lib.hid hn; have HF := Lib.hid hf.2
  have hFn : F.size = n := by rw [← size_len, hF, ← hn]; simp [lettersB]
  have HFN := Lib.hid hFn
  have hFn1 : F.size ≤ n := by omega
  have hFn2 : n ≤ F.size := by omega
  have HFD := Lib.hid hF
  clear hn hf hF hFn
  go_enter Tryz.func21, Tryz.ntmps21
  go_wp2_with fail
  go_loopg [1, 6, 7, 8] (n + 1) (fun gas dv pv kv _ wr => ∃ (k : Nat) (u : ByteArray) (P : List Bs), kv = .int .i64 k ∧ dv = .string u ∧ k ≤ n ∧ n + 1 ≤ k + gas ∧ u.size ≤ 65535 ∧ P.length ≤ k ∧ Hid (addP P (splitS (fs.drop k) u.data.toList) = R) ∧ wr.ownsRow w.heap.size 9 1 pv P.length (P.map strV) ∧ Below w.heap.size w wr)
  case atStart => exact ⟨0, s, [], rfl, rfl, by omega, by omega, hs, by simp, HR0, World.ownsRow_nil _ _ _ _, Below.refl _ _⟩
  case round =>
    obtain ⟨k, u, P, rfl, rfl, hk, hkg, hu, hP, HW, hown, hB⟩ := hrel
    have HKG := Lib.hid hkg; clear hkg
    have HB := Lib.hid hB
    by_cases hlt : k < n
    · obtain ⟨f, hfk⟩ : ∃ f, fs[k]? = some f := ⟨_, List.getElem?_eq_getElem (by have := HN.out; omega)⟩
      have hkF : k < F.size := by omega
      have hletter : (F[k].toNat : Int) = ((letterOf f : Nat) : Int) := by
        have h1 : F.data.toList[k]? = some (UInt8.ofNat (letterOf f)) := by rw [HFD.out]; simp [lettersB, hfk]
        have h2 := at_some hkF (rfl : F[k] = F[k])
        rw [h1] at h2
        have h3 : UInt8.ofNat (letterOf f) = F[k] := by simpa using h2
        rw [← h3]
        rw [UInt8.toNat_ofNat']
        have := letter_lt f (fun j e => HF.out j (by rw [← e]; exact List.mem_of_getElem? hfk))
        omega
      obtain ⟨c, hc⟩ : ∃ c, F[k] = c := ⟨_, rfl⟩
      rw [hc] at hletter
      have hc256 := byte_lt c
      have hdr : fs.drop k = f :: fs.drop (k + 1) := by
        obtain ⟨h1, h2⟩ := List.getElem?_eq_some_iff.1 hfk
        rw [List.drop_eq_getElem_cons h1, h2]
      have hnum := fun j (e : f = .num j) => HF.out j (by rw [← e]; exact List.mem_of_getElem? hfk)
      have HD := Lib.hid hdr; have HNUM := Lib.hid hnum; have HOWN := Lib.hid hown
      have CZ := Lib.hid (fun w => size_any f u w hu (fun j e => HNUM.out j e))
      rw [← hletter] at CZ
      clear hdr hnum hfk hown hB hletter
      go_wp2_with fail
      refine (CZ.out _).mono ?_
      rintro e w9 ⟨rfl, hB2⟩
      · skip
        have hT := takeS_le f u.data.toList
        rw [size_len] at hT
        have HB3 := Lib.hid (HB.out.trans (hB2.mono HB.out.size))
        have HOWN2 := Lib.hid (ownsRow_below HOWN.out hB2)
        obtain ⟨T, hTT⟩ : ∃ T, takeS f u.data.toList = T := ⟨_, rfl⟩
        have HTT := Lib.hid hTT
        rw [hTT] at hT ⊢
        obtain ⟨hT1, hT2⟩ := hT
        clear hTT hB2 HOWN HB
        by_cases hneg : T < 0
        · have HBAD : Hid (splitS fs s.data.toList = none) := Lib.hid (by rw [HR.out, ← HW.out, HD.out, addP_bad (by rw [HTT.out]; exact hneg)])
          go_wp2_with fail
          go_ret2
          exact ⟨HB3.out, .inr ⟨HBAD.out, rfl⟩⟩
        · obtain ⟨m, rfl⟩ : ∃ m : Nat, T = m := ⟨T.toNat, by omega⟩
          have hms : m ≤ u.size := by omega
          have hmi : (m : Int) ≤ (u.size : Int) := by omega
          have HW2 : Hid (addP (P ++ [u.data.toList.take m]) (splitS (fs.drop (k + 1)) (u.data.toList.drop m)) = R) := Lib.hid (by rw [← addP_go HTT.out, ← HD.out]; exact HW.out)
          have hx : (u.extract 0 m).data.toList = u.data.toList.take m := ext0 u m
          have HX : Hid (Value.string (u.extract 0 m) = strV (u.data.toList.take m)) := Lib.hid (congrArg Value.string (ba_ext hx))
          have HU2 := Lib.hid (ext_end u m)
          have hus2 : (u.extract m u.size).size = u.size - m := by rw [ByteArray.size_extract]; omega
          have HUS2 := Lib.hid hus2
          have hown := HOWN2.out
          have hB' := HB3.out
          have hsz := hB'.size
          clear hneg hx hus2 hT1 hT2
          go_wp2_with (at_builtin; go_must (refine wpList_append_own _ rfl _ _ 37 rfl w.heap.size 9 i0 (.string ByteArray.empty) 1 16 Tryz.underlying37 hi hz0 hz1 hz2 rfl (by decide) _ _ _ rfl (hown.alloc _) ⟨_, 0, none⟩ 1 1 [.string (u.extract 0 m)] rfl rfl ?c1 ?c2 ?c3 ?c4 ?c5 ?_))
          case c1 => exact cell_one_new _ _ _
          case c2 => simp [Value.oneCell']
          case c3 => unfold maxLen; omega
          case c4 => omega
          case c5 => simp; omega
          intro v' w1 hown' hgrow hnil
          have hown2 := own_snoc HX.out hown'
          have hB4 := below_append hB' hsz hown hgrow
          clear hown' hgrow hown hnil
          go_wp2_with fail
          have hkg := HKG.out
          go_roundg (gk - 1)
          case rel =>
            have h2 := HUS2.out
            exact ⟨k + 1, _, _, by go_num, rfl, by omega, by omega, by omega, by simp; omega, Lib.hid (by rw [HU2.out]; exact HW2.out), hown2, hB4⟩
          case measure => omega
    · have hke : k = n := by omega
      subst hke
      have HE : Hid (R = some (P, u.data.toList)) := Lib.hid (by rw [← HW.out, List.drop_eq_nil_iff.2 (by have := HN.out; omega), addP_end])
      have HFIN : Hid (splitS fs s.data.toList = some (P, u.data.toList)) := Lib.hid (HR.out.trans HE.out)
      have hem : u.data.toList.isEmpty = u.toList.isEmpty := by rw [Lib.toList_data]
      have HEM := Lib.hid hem
      clear hlt hem
      go_wp2_with fail
      go_ret2
      refine ⟨HB.out, .inl ⟨_, P, u.data.toList, HFIN.out, ?_, hown⟩⟩
      rw [HEM.out]; rfl
end Go.Proofs.YtjejmgdpjfdhjaaGreatDoor.parts
namespace Go.Proofs.YtjejmgdpjfdhjaaGreatDoor.checkData
open Go.RowKit Go.Proofs.YtjejmgdpjfdhjaaGreatDoor.kit Go.Proofs.YtjejmgdpjfdhjaaGreatDoor.nspec Go.Proofs.YtjejmgdpjfdhjaaGreatDoor.fld Go.Proofs.YtjejmgdpjfdhjaaGreatDoor.takes Go.Proofs.YtjejmgdpjfdhjaaGreatDoor.splitD Go.Proofs.YtjejmgdpjfdhjaaGreatDoor.rsize Go.Proofs.YtjejmgdpjfdhjaaGreatDoor.rform Go.Proofs.YtjejmgdpjfdhjaaGreatDoor.parts
set_option linter.unusedVariables false

theorem fair4_of {fs gs : List Fld} (h : some gs = some fs) (hl : gs.length ≤ 20) (hk : gs.all (fun f => match f with | .num k => decide (k = 1 ∨ k = 2 ∨ k = 4) | _ => true) = true) : Fair4 fs := by
  have e := Option.some.inj h
  subst e
  refine ⟨hl, fun k hm => ?_⟩
  have := List.all_eq_true.1 hk _ hm
  simpa using this
theorem form_fair4 {t : Int} {fs : List Fld} (h : formS t = some fs) : Fair4 fs := by
  by_cases h1 : t = 1
  · subst h1; exact fair4_of h (by decide) (by decide)
  by_cases h2 : t = 2
  · subst h2; exact fair4_of h (by decide) (by decide)
  by_cases h5 : t = 5
  · subst h5; exact fair4_of h (by decide) (by decide)
  by_cases h12 : t = 12
  · subst h12; exact fair4_of h (by decide) (by decide)
  by_cases h39 : t = 39
  · subst h39; exact fair4_of h (by decide) (by decide)
  by_cases h6 : t = 6
  · subst h6; exact fair4_of h (by decide) (by decide)
  by_cases h13 : t = 13
  · subst h13; exact fair4_of h (by decide) (by decide)
  by_cases h15 : t = 15
  · subst h15; exact fair4_of h (by decide) (by decide)
  by_cases h16 : t = 16
  · subst h16; exact fair4_of h (by decide) (by decide)
  by_cases h28 : t = 28
  · subst h28; exact fair4_of h (by decide) (by decide)
  by_cases h33 : t = 33
  · subst h33; exact fair4_of h (by decide) (by decide)
  by_cases h35 : t = 35
  · subst h35; exact fair4_of h (by decide) (by decide)
  by_cases h43 : t = 43
  · subst h43; exact fair4_of h (by decide) (by decide)
  by_cases h46 : t = 46
  · subst h46; exact fair4_of h (by decide) (by decide)
  by_cases h47 : t = 47
  · subst h47; exact fair4_of h (by decide) (by decide)
  by_cases h48 : t = 48
  · subst h48; exact fair4_of h (by decide) (by decide)
  by_cases h50 : t = 50
  · subst h50; exact fair4_of h (by decide) (by decide)
  by_cases h51 : t = 51
  · subst h51; exact fair4_of h (by decide) (by decide)
  by_cases h257 : t = 257
  · subst h257; exact fair4_of h (by decide) (by decide)
  simp [formS, h1, h2, h5, h12, h39, h6, h13, h15, h16, h28, h33, h35, h43, h46, h47, h48, h50, h51, h257] at h
theorem form_holds {t : Int} {fs : List Fld} (h : formS t = some fs) : holdsB t = true := by
  by_cases h1 : t = 1
  · subst h1; decide
  by_cases h2 : t = 2
  · subst h2; decide
  by_cases h5 : t = 5
  · subst h5; decide
  by_cases h12 : t = 12
  · subst h12; decide
  by_cases h39 : t = 39
  · subst h39; decide
  by_cases h6 : t = 6
  · subst h6; decide
  by_cases h13 : t = 13
  · subst h13; decide
  by_cases h15 : t = 15
  · subst h15; decide
  by_cases h16 : t = 16
  · subst h16; decide
  by_cases h28 : t = 28
  · subst h28; decide
  by_cases h33 : t = 33
  · subst h33; decide
  by_cases h35 : t = 35
  · subst h35; decide
  by_cases h43 : t = 43
  · subst h43; decide
  by_cases h46 : t = 46
  · subst h46; decide
  by_cases h47 : t = 47
  · subst h47; decide
  by_cases h48 : t = 48
  · subst h48; decide
  by_cases h50 : t = 50
  · subst h50; decide
  by_cases h51 : t = 51
  · subst h51; decide
  by_cases h257 : t = 257
  · subst h257; decide
  simp [formS, h1, h2, h5, h12, h39, h6, h13, h15, h16, h28, h33, h35, h43, h46, h47, h48, h50, h51, h257] at h
theorem form_cons {t : Int} {fs : List Fld} (h : formS t = some fs) : lettersB fs ≠ [] ∧ lettersB fs ≠ [45] := by
  by_cases h1 : t = 1
  · subst h1; have e := Option.some.inj h; subst e; exact ⟨by decide, by decide⟩
  by_cases h2 : t = 2
  · subst h2; have e := Option.some.inj h; subst e; exact ⟨by decide, by decide⟩
  by_cases h5 : t = 5
  · subst h5; have e := Option.some.inj h; subst e; exact ⟨by decide, by decide⟩
  by_cases h12 : t = 12
  · subst h12; have e := Option.some.inj h; subst e; exact ⟨by decide, by decide⟩
  by_cases h39 : t = 39
  · subst h39; have e := Option.some.inj h; subst e; exact ⟨by decide, by decide⟩
  by_cases h6 : t = 6
  · subst h6; have e := Option.some.inj h; subst e; exact ⟨by decide, by decide⟩
  by_cases h13 : t = 13
  · subst h13; have e := Option.some.inj h; subst e; exact ⟨by decide, by decide⟩
  by_cases h15 : t = 15
  · subst h15; have e := Option.some.inj h; subst e; exact ⟨by decide, by decide⟩
  by_cases h16 : t = 16
  · subst h16; have e := Option.some.inj h; subst e; exact ⟨by decide, by decide⟩
  by_cases h28 : t = 28
  · subst h28; have e := Option.some.inj h; subst e; exact ⟨by decide, by decide⟩
  by_cases h33 : t = 33
  · subst h33; have e := Option.some.inj h; subst e; exact ⟨by decide, by decide⟩
  by_cases h35 : t = 35
  · subst h35; have e := Option.some.inj h; subst e; exact ⟨by decide, by decide⟩
  by_cases h43 : t = 43
  · subst h43; have e := Option.some.inj h; subst e; exact ⟨by decide, by decide⟩
  by_cases h46 : t = 46
  · subst h46; have e := Option.some.inj h; subst e; exact ⟨by decide, by decide⟩
  by_cases h47 : t = 47
  · subst h47; have e := Option.some.inj h; subst e; exact ⟨by decide, by decide⟩
  by_cases h48 : t = 48
  · subst h48; have e := Option.some.inj h; subst e; exact ⟨by decide, by decide⟩
  by_cases h50 : t = 50
  · subst h50; have e := Option.some.inj h; subst e; exact ⟨by decide, by decide⟩
  by_cases h51 : t = 51
  · subst h51; have e := Option.some.inj h; subst e; exact ⟨by decide, by decide⟩
  by_cases h257 : t = 257
  · subst h257; have e := Option.some.inj h; subst e; exact ⟨by decide, by decide⟩
  simp [formS, h1, h2, h5, h12, h39, h6, h13, h15, h16, h28, h33, h35, h43, h46, h47, h48, h50, h51, h257] at h

theorem notEmpty {F : ByteArray} (h : F.data.toList ≠ []) : F.toList.isEmpty = false := by
  rw [Lib.toList_data]
  cases hl : F.data.toList with
  | nil => exact absurd hl h
  | cons => rfl
theorem not45 {F : ByteArray} (h : F.data.toList ≠ [45]) : (F.toList == [45]) = false := by rw [Lib.toList_data]; simpa using h

set_option maxRecDepth 100000 in
set_option maxHeartbeats 2000000 in
theorem rdcheck_any (t : Int) (s : ByteArray) (w : World) (hs : s.size ≤ maxLen) :
    Calls Tryz.prog 17 #[.int .i64 t, .string s] w fun e w' => e = .returned (.int .i64 (checkS t s.data.toList)) ∧ Below w.heap.size w w' := by
  obtain ⟨R, HR⟩ : ∃ R, Hid (checkS t s.data.toList = R) := ⟨_, Lib.hid rfl⟩
  rw [HR.out]
  have CF := Lib.hid (fun w => rform_any t w)
  unfold FormIs at CF
  obtain ⟨F, hF⟩ : ∃ F : ByteArray, (⟨(formB t).toArray⟩ : ByteArray) = F := ⟨_, rfl⟩
  have hFd : F.data.toList = formB t := by rw [← hF]
  rw [hF] at CF
  cases hf : formS t with
  | none =>
    have hP : partsS t s.data.toList = some [] := by unfold partsS; rw [hf]
    obtain ⟨b, hb⟩ : ∃ b, holdsB t = b := ⟨_, rfl⟩
    cases b with
    | false =>
      have HN : Hid (6 = R) := Lib.hid (by rw [← HR.out, checkS, if_pos hb])
      have he : F.toList = [] := by rw [Lib.toList_data, hFd]; unfold formB; rw [hf, hb]; rfl
      clear hF hFd hf hP hb
      go_enter Tryz.func17, Tryz.ntmps17
      go_wp2_with fail
      refine (CF.out _).mono ?_
      rintro e w1 ⟨rfl, rfl⟩
      go_wp2_with fail
      go_ret
      exact ⟨by rw [← HN.out]; rfl, Below.refl _ _⟩
    | true =>
      have hl45 : F.data.toList = [45] := by rw [hFd]; unfold formB; rw [hf, hb]; rfl
      have he : F.toList.isEmpty = false := notEmpty (by rw [hl45]; simp)
      have h45 : (F.toList == [45]) = true := by rw [Lib.toList_data, hl45]; rfl
      by_cases hl : 65535 < s.size
      · have HN : Hid (7 = R) := Lib.hid (by rw [← HR.out, checkS, if_neg (by rw [hb]; simp), if_pos (by rw [size_len]; exact hl)])
        have hli : (65535 : Int) < (s.size : Int) := by omega
        clear hF hFd hf hP hb hl hl45
        go_enter Tryz.func17, Tryz.ntmps17
        go_wp2_with fail
        refine (CF.out _).mono ?_
        rintro e w1 ⟨rfl, rfl⟩
        go_wp2_with fail
        go_ret
        exact ⟨by rw [← HN.out]; rfl, Below.refl _ _⟩
      · have HN : Hid (0 = R) := Lib.hid (by rw [← HR.out, checkS, if_neg (by rw [hb]; simp), if_neg (by rw [size_len]; exact hl), hP]; rfl)
        have hli : (s.size : Int) ≤ 65535 := by omega
        clear hF hFd hf hP hb hl hl45
        go_enter Tryz.func17, Tryz.ntmps17
        go_wp2_with fail
        refine (CF.out _).mono ?_
        rintro e w1 ⟨rfl, rfl⟩
        go_wp2_with fail
        go_ret
        exact ⟨by rw [← HN.out]; rfl, Below.refl _ _⟩
  | some fs =>
    have hb := form_holds hf
    obtain ⟨c1, c2⟩ := form_cons hf
    have hFl : F.data.toList = lettersB fs := by rw [hFd]; unfold formB; rw [hf]
    have he : F.toList.isEmpty = false := notEmpty (by rw [hFl]; exact c1)
    have h45 : (F.toList == [45]) = false := not45 (by rw [hFl]; exact c2)
    by_cases hl : 65535 < s.size
    · have HN : Hid (7 = R) := Lib.hid (by rw [← HR.out, checkS, if_neg (by rw [hb]; simp), if_pos (by rw [size_len]; exact hl)])
      have hli : (65535 : Int) < (s.size : Int) := by omega
      clear hF hFd hf hb hl hFl c1 c2
      go_enter Tryz.func17, Tryz.ntmps17
      go_wp2_with fail
      refine (CF.out _).mono ?_
      rintro e w1 ⟨rfl, rfl⟩
      go_wp2_with fail
      go_ret
      exact ⟨by rw [← HN.out]; rfl, Below.refl _ _⟩
    · have HC : Hid (R = if partsS t s.data.toList = none then 7 else 0) := Lib.hid (by rw [← HR.out, checkS, if_neg (by rw [hb]; simp), if_neg (by rw [size_len]; exact hl)])
      have hli : (s.size : Int) ≤ 65535 := by omega
      have hls : s.size ≤ 65535 := by omega
      have HP : Hid (partsS t s.data.toList = match splitS fs s.data.toList with | some (p, []) => some p | _ => none) := Lib.hid (by unfold partsS; rw [hf]; rfl)
      have CP := Lib.hid (fun w => parts_any fs F s w hFl (form_fair4 hf) hls fs.length rfl)
      clear hF hFd hf hb hl hFl c1 c2
      go_enter Tryz.func17, Tryz.ntmps17
      go_wp2_with fail
      refine (CF.out _).mono ?_
      rintro e w1 ⟨rfl, rfl⟩
      go_wp2_with fail
      refine (CP.out _).mono ?_
      rintro e w2 ⟨hB2, ⟨v, p, r, hsp, rfl, hown⟩ | ⟨hsp, rfl⟩⟩
      · have HB := Lib.hid hB2
        have HQ : Hid (R = if r.isEmpty then 0 else 7) := Lib.hid (by rw [HC.out, HP.out, hsp]; cases r <;> simp)
        clear hB2 hsp hown
        cases r with
        | nil =>
          have HN : Hid (R = 0) := Lib.hid HQ.out
          simp only [List.isEmpty_nil]
          go_wp2_with fail
          go_ret
          exact ⟨by rw [HN.out]; rfl, HB.out⟩
        | cons x r =>
          have HN : Hid (R = 7) := Lib.hid HQ.out
          simp only [List.isEmpty_cons]
          go_wp2_with fail
          go_ret
          exact ⟨by rw [HN.out]; rfl, HB.out⟩
      · have HB := Lib.hid hB2
        have HN : Hid (R = 7) := Lib.hid (by rw [HC.out, HP.out, hsp]; rfl)
        clear hB2 hsp
        go_wp2_with fail
        go_ret
        exact ⟨by rw [HN.out]; rfl, HB.out⟩
end Go.Proofs.YtjejmgdpjfdhjaaGreatDoor.checkData
namespace Go.Proofs.YtjejmgdpjfdhjaaGreatDoor.readS
open Go.Proofs.YtjejmgdpjfdhjaaGreatDoor.kit Go.Proofs.YtjejmgdpjfdhjaaGreatDoor.nspec Go.Proofs.YtjejmgdpjfdhjaaGreatDoor.rput Go.Proofs.YtjejmgdpjfdhjaaGreatDoor.rsplit

def digB (c : UInt8) : Bool := decide (48 ≤ c.toNat) && decide (c.toNat ≤ 57)
theorem digB_yes {c : UInt8} (h : 48 ≤ c.toNat ∧ c.toNat ≤ 57) : digB c = true := by unfold digB; simp [h.1, h.2]
theorem digB_no {c : UInt8} (h : c.toNat < 48 ∨ 57 < c.toNat) : digB c = false := by
  unfold digB; rw [Bool.and_eq_false_iff, decide_eq_false_iff_not, decide_eq_false_iff_not]; omega
/-- what stands behind a backslash: the byte, and how many bytes it takes with it -/
def escS : Bs → Option (UInt8 × Nat)
  | [] => none
  | d :: r => if digB d = false then some (d, 2) else match r with
    | a :: b :: _ => if digB a && digB b then (if 255 < (d.toNat - 48) * 100 + (a.toNat - 48) * 10 + (b.toNat - 48) then none else some (UInt8.ofNat ((d.toNat - 48) * 100 + (a.toNat - 48) * 10 + (b.toNat - 48)), 4)) else none
    | _ => none
def pieceS : Bs → Option (UInt8 × Nat)
  | [] => none
  | c :: r => if c.toNat = 92 then escS r else some (c, 1)
theorem piece_len {l : Bs} {b : UInt8} {n : Nat} (h : pieceS l = some (b, n)) : 1 ≤ n ∧ n ≤ l.length := by
  unfold pieceS at h
  split at h
  · simp at h
  · rename_i c r
    split at h
    · unfold escS at h
      split at h
      · simp at h
      · rename_i d t
        split at h
        · injection h with h; injection h with h1 h2; subst h2; simp
        · split at h
          · split at h
            · split at h
              · simp at h
              · injection h with h; injection h with h1 h2; subst h2; simp
            · simp at h
          · simp at h
    · injection h with h; injection h with h1 h2; subst h2; simp

/-- the labels that are told, and the bytes of the last one; or the place and what is wrong -/
def rdF : Nat → List Bs → Bs → Nat → Nat → Bs → Except (Nat × Int) (List Bs × Bs)
  | 0, l, now, _, _, _ => .ok (l, now)
  | _ + 1, l, now, _, _, [] => .ok (l, now)
  | f + 1, l, now, first, k, c :: r =>
    if c.toNat = 46 then (if now = [] then .error (k, 2) else rdF f (l ++ [now]) [] (k + 1) (k + 1) r)
    else match pieceS (c :: r) with
      | none => .error (k, 2)
      | some (b, n) => if 63 ≤ now.length then .error (first, 3) else rdF f l (now ++ [b]) first (k + n) ((c :: r).drop n)
theorem rd_fuel : ∀ (f g : Nat) (l : List Bs) (now : Bs) (first k : Nat) (t : Bs), t.length ≤ f → t.length ≤ g → rdF f l now first k t = rdF g l now first k t
  | 0, 0, _, _, _, _, _, _, _ => rfl
  | 0, g + 1, l, now, first, k, t, h, _ => by
    have : t = [] := List.eq_nil_of_length_eq_zero (by omega)
    subst this; rfl
  | f + 1, 0, l, now, first, k, t, _, h => by
    have : t = [] := List.eq_nil_of_length_eq_zero (by omega)
    subst this; rfl
  | f + 1, g + 1, l, now, first, k, [], _, _ => rfl
  | f + 1, g + 1, l, now, first, k, c :: r, h1, h2 => by
    simp only [List.length_cons] at h1 h2
    simp only [rdF]
    by_cases hc : c.toNat = 46
    · rw [if_pos hc, if_pos hc, rd_fuel f g _ _ _ _ r (by omega) (by omega)]
    · rw [if_neg hc, if_neg hc]
      cases hp : pieceS (c :: r) with
      | none => rfl
      | some p =>
        obtain ⟨b, n⟩ := p
        have := piece_len hp
        simp only
        rw [rd_fuel f g _ _ _ _ _ (by rw [List.length_drop, List.length_cons]; omega) (by rw [List.length_drop, List.length_cons]; omega)]
def rd (l : List Bs) (now : Bs) (first k : Nat) (t : Bs) : Except (Nat × Int) (List Bs × Bs) := rdF t.length l now first k t
theorem rd_nil (l : List Bs) (now : Bs) (first k : Nat) : rd l now first k [] = .ok (l, now) := rfl
theorem rd_dot {l : List Bs} {now : Bs} {first k : Nat} {c : UInt8} {r : Bs} (hc : c.toNat = 46) (hn : now ≠ []) : rd l now first k (c :: r) = rd (l ++ [now]) [] (k + 1) (k + 1) r := by
  unfold rd; rw [List.length_cons, rdF, if_pos hc, if_neg hn]
theorem rd_dot_no {l : List Bs} {now : Bs} {first k : Nat} {c : UInt8} {r : Bs} (hc : c.toNat = 46) (hn : now = []) : rd l now first k (c :: r) = .error (k, 2) := by
  unfold rd; rw [List.length_cons, rdF, if_pos hc, if_pos hn]
theorem rd_bad {l : List Bs} {now : Bs} {first k : Nat} {c : UInt8} {r : Bs} (hc : c.toNat ≠ 46) (hp : pieceS (c :: r) = none) : rd l now first k (c :: r) = .error (k, 2) := by
  unfold rd; rw [List.length_cons, rdF, if_neg hc, hp]
theorem rd_full {l : List Bs} {now : Bs} {first k : Nat} {c : UInt8} {r : Bs} {b : UInt8} {n : Nat} (hc : c.toNat ≠ 46) (hp : pieceS (c :: r) = some (b, n)) (hn : 63 ≤ now.length) : rd l now first k (c :: r) = .error (first, 3) := by
  unfold rd; rw [List.length_cons, rdF, if_neg hc, hp]; simp only; rw [if_pos hn]
theorem rd_go {l : List Bs} {now : Bs} {first k : Nat} {c : UInt8} {r : Bs} {b : UInt8} {n : Nat} (hc : c.toNat ≠ 46) (hp : pieceS (c :: r) = some (b, n)) (hn : now.length < 63) : rd l now first k (c :: r) = rd l (now ++ [b]) first (k + n) ((c :: r).drop n) := by
  have hl := piece_len hp
  unfold rd; rw [List.length_cons, rdF, if_neg hc, hp]; simp only
  rw [if_neg (by omega)]
  exact rd_fuel _ _ _ _ _ _ _ (by rw [List.length_drop, List.length_cons]; omega) (Nat.le_refl _)

def endL (base : List Bs) (l : List Bs) (now : Bs) : List Bs := if now = [] then l else l ++ [now] ++ base
def finS (base : List Bs) (l : List Bs) (now : Bs) : Bs × Int × Int := if 254 < room (endL base l now) then ([], 0, 4) else (put (endL base l now), 0, 0)
def resS (base : List Bs) : Except (Nat × Int) (List Bs × Bs) → Bs × Int × Int
  | .error (k, e) => ([], (k : Int), e)
  | .ok (l, now) => finS base l now
def readS (text origin : Bs) : Bs × Int × Int := match split origin with
  | none => ([], 0, 1)
  | some base => if text = [] then ([], 0, 2) else if text = [64] then (origin, 0, 0) else if text = [46] then ([0], 0, 0) else resS base (rd [] [] 0 0 text)
def Ret3 (r : Bs × Int × Int) : Ending := .returned (.tuple #[.string ⟨r.1.toArray⟩, .int .i64 r.2.1, .int .i64 r.2.2])
end Go.Proofs.YtjejmgdpjfdhjaaGreatDoor.readS

/- data.Names: walk. data.Fold: walk. The order of names: plain laws of cmpS. Sorted texts in plain words: put in one by one, or sorted at once: one list. -/
import Derived.Test.YtflijhodlimjoaaGreatK13
import Derived.Test.YtflijhodlimjoaaGreatK14
import Derived.Test.YtflijhodlimjoaaGreatK16
import Derived.Test.YtflijhodlimjoaaGreatK12
import Derived.Test.YtflijhodlimjoaaGreatK2
import Derived.Test.YtflijhodlimjoaaGreatK5
import Derived.Test.YtflijhodlimjoaaGreatK8
import Derived.Test.YtflijhodlimjoaaGreatK6
import Derived.Outline
namespace Go.Proofs.YtflijhodlimjoaaGreat.dnames
open Go.RowKit Go.Proofs.YtflijhodlimjoaaGreat.kit Go.Proofs.YtflijhodlimjoaaGreat.nspec Go.Proofs.YtflijhodlimjoaaGreat.rsplit Go.Proofs.YtflijhodlimjoaaGreat.fld Go.Proofs.YtflijhodlimjoaaGreat.formW Go.Proofs.YtflijhodlimjoaaGreat.takes Go.Proofs.YtflijhodlimjoaaGreat.hostT Go.Proofs.YtflijhodlimjoaaGreat.splitD Go.Proofs.YtflijhodlimjoaaGreat.dcheck Go.Proofs.YtflijhodlimjoaaGreat.nread
set_option linter.unusedVariables false

def namesS (t : Int) (d : Bs) : List Bs := if checkS t d = 0 then (match formS t, partsS t d with | some fs, some p => namesL fs p | _, _ => []) else []
theorem own_mono {w : World} {base b' : Nat} {e : TypeId} {v : Value} {n size : Nat} {xs : List Value} (h : w.ownsRow base e size v n xs) (hb : b' ≤ base) : w.ownsRow b' e size v n xs := by
  refine ⟨h.1, ?_⟩
  rcases h.2 with h1 | ⟨g, cap, cur, h1, h2, h3⟩
  · exact .inl h1
  · exact .inr ⟨g, cap, cur, h1, Nat.le_trans hb h2, h3⟩
/-- what stands, where it is right: the fields and their bytes -/
theorem parts_ok {t : Int} {d : Bs} {fs : List Fld} (hc : checkS t d = 0) (hf : formS t = some fs) : ∃ p, partsS t d = some p ∧ splitS fs d = some (p, []) ∧ d.length ≤ 65535 := by
  unfold checkS at hc
  split at hc
  · simp at hc
  · split at hc
    · simp at hc
    · rename_i h1 h2
      cases hp : partsS t d with
      | none => rw [hp] at hc; simp at hc
      | some p =>
        refine ⟨p, rfl, ?_, by omega⟩
        unfold partsS at hp
        rw [hf] at hp
        simp only at hp
        cases hs : splitS fs d with
        | none => rw [hs] at hp; simp at hp
        | some q =>
          obtain ⟨q1, q2⟩ := q
          rw [hs] at hp
          cases q2 with
          | nil => simpa using hp
          | cons x r => simp at hp
theorem parts_len : ∀ (fs : List Fld) (d : Bs) (p : List Bs) (r : Bs), splitS fs d = some (p, r) → p.length = fs.length ∧ ∀ x ∈ p, x.length ≤ d.length
  | [], d, p, r, h => by simp only [splitS, Option.some.injEq, Prod.mk.injEq] at h; rw [← h.1]; simp
  | f :: fs, d, p, r, h => by
    simp only [splitS] at h
    split at h
    · simp at h
    · cases hs : splitS fs (d.drop (takeS f d).toNat) with
      | none => rw [hs] at h; simp at h
      | some q =>
        rw [hs] at h
        simp only [Option.map_some, Option.some.injEq, Prod.mk.injEq] at h
        have ih := parts_len fs _ _ _ hs
        rw [← h.1]
        refine ⟨by simp [ih.1], fun x hx => ?_⟩
        rcases List.mem_cons.1 hx with rfl | hx
        · rw [List.length_take]; omega
        · have := ih.2 x hx; rw [List.length_drop] at this; omega
theorem check_len {t : Int} {d : Bs} (hc : checkS t d = 0) : d.length ≤ 65535 := by
  unfold checkS at hc
  split at hc
  · simp at hc
  · split at hc
    · simp at hc
    · omega
theorem names_go {A R : List Bs} {fs : List Fld} {p : List Bs} {k : Nat} {f : Fld} {x : Bs} (h : A ++ namesL (fs.drop k) (p.drop k) = R) (hf : fs[k]? = some f) (hx : p[k]? = some x) : (A ++ (if isHost f then [x] else [])) ++ namesL (fs.drop (k + 1)) (p.drop (k + 1)) = R := by
  obtain ⟨h1, h2⟩ := List.getElem?_eq_some_iff.1 hf
  obtain ⟨h3, h4⟩ := List.getElem?_eq_some_iff.1 hx
  rw [List.drop_eq_getElem_cons h1, h2, List.drop_eq_getElem_cons h3, h4, namesL] at h
  rw [← h]
  split <;> simp

theorem asked (f : Fld) (w : World) : (Instr.typeAssert (fldV f) 162 164 true).run Tryz.prog w = .ok (.tuple #[.agg #[], .bool (isHost f)]) w := by
  cases f <;> kernel_rfl
set_option maxRecDepth 100000 in
theorem split_nil (s : ByteArray) (w : World) (hs : s.size ≤ 65535) :
    Calls Tryz.prog 138 #[.slice none 0 0, .string s] w fun e w' => ∃ b, e = .returned (.tuple #[.slice none 0 0, .bool b]) ∧ w = w' := by
  go_enter Tryz.func138, Tryz.ntmps138
  go_wp2_with fail
  go_loopg [1, 6, 12] 1 (fun gas dv pv kv wr => dv = .string s ∧ pv = .slice none 0 0 ∧ kv = .int .i64 0 ∧ 1 ≤ gas ∧ w = wr)
  case atStart => exact ⟨rfl, rfl, rfl, by omega, rfl⟩
  case round =>
    obtain ⟨rfl, rfl, rfl, hg, rfl⟩ := hrel
    go_wp2_with fail
    go_ret2
    exact ⟨_, rfl, rfl⟩

set_option maxRecDepth 100000 in
set_option maxHeartbeats 8000000 in
theorem names_any (t : Int) (s : ByteArray) (w : World) (hs : s.size ≤ maxLen) :
    Calls Tryz.prog 139 #[.int .i64 t, .string s] w fun e w' => ∃ v, e = .returned v ∧ w'.ownsRow w.heap.size 9 1 v (namesS t s.data.toList).length ((namesS t s.data.toList).map strV) ∧ Below w.heap.size w w' := by
  obtain ⟨i0, hi, hz0, hz1, hz2⟩ := info_parts infoStr
  obtain ⟨R, HR⟩ : ∃ R, Hid (namesS t s.data.toList = R) := ⟨_, Lib.hid rfl⟩
  rw [HR.out]
  have CC := Lib.hid (fun w => dcheck_any t s w hs)
  obtain ⟨C, hC⟩ : ∃ C, checkS t s.data.toList = C := ⟨_, rfl⟩
  rw [hC] at CC
  by_cases hc0 : C = 0
  · subst hc0
    have hls : s.size ≤ 65535 := by have := check_len hC; rwa [size_len] at this
    cases hf : formS t with
    | none =>
      have HN : Hid (R = []) := Lib.hid (by rw [← HR.out, namesS, if_pos hC, hf])
      have CF := Lib.hid (fun w => form_no t w hf)
      have CS := Lib.hid (fun w => split_nil s w hls)
      clear hf hC
      go_enter Tryz.func139, Tryz.ntmps139
      go_wp2_with fail
      refine (CC.out _).mono ?_
      rintro e w1 ⟨rfl, hB1⟩
      have HB1 := Lib.hid hB1; clear hB1
      go_wp2_with fail
      refine (CF.out _).mono ?_
      rintro e w2 ⟨rfl, rfl⟩
      go_wp2_with fail
      refine (CS.out _).mono ?_
      rintro e w3 ⟨b, rfl, rfl⟩
      go_wp2_with fail
      go_loopg [5, 31] 1 (fun gas ov kv wr => ov = .slice none 0 0 ∧ kv = .int .i64 0 ∧ 1 ≤ gas ∧ w1 = wr)
      case atStart => exact ⟨rfl, rfl, by omega, rfl⟩
      case round =>
        obtain ⟨rfl, rfl, hg, rfl⟩ := hrel
        go_wp2_with fail
        go_ret
        exact ⟨_, rfl, by rw [HN.out]; exact World.ownsRow_nil _ _ _ _, HB1.out⟩
    | some fs =>
      obtain ⟨p, hp1, hp2, hp3⟩ := parts_ok hC hf
      have HN : Hid (R = namesL fs p) := Lib.hid (by rw [← HR.out, namesS, if_pos hC, hf, hp1])
      obtain ⟨n, hn⟩ : ∃ n, fs.length = n := ⟨_, rfl⟩
      obtain ⟨hpl, hpx⟩ := parts_len _ _ _ _ hp2
      have CF := Lib.hid (fun w => form_yes t fs w hf)
      unfold FormPost at CF
      rw [hn] at CF
      have hfa := form_fair hf
      have hn20 : n ≤ 20 := by rw [← hn]; exact hfa.1
      have CS := Lib.hid (fun w => split_any fs w.heap.size s (w.alloc (fieldsO fs)) (fields_rd fs w) (by rw [World.size_alloc]; omega) hfa hls n hn)
      have HSP := Lib.hid hp2; have HNN := Lib.hid hn
      have HPL : Hid (p.length = n) := Lib.hid (by rw [hpl, hn])
      have HPX := Lib.hid hpx
      clear hf hC hp1 hp2 hp3 hpl hpx hfa hn
      go_enter Tryz.func139, Tryz.ntmps139
      go_wp2_with fail
      refine (CC.out _).mono ?_
      rintro e w1 ⟨rfl, hB1⟩
      have HB1 := Lib.hid hB1; clear hB1
      go_wp2_with fail
      refine (CF.out _).mono ?_
      rintro e w2 ⟨rfl, rfl⟩
      go_wp2_with fail
      refine (CS.out _).mono ?_
      rintro e w3 ⟨hB3, ⟨v, p', r', hsp, rfl, hown⟩ | ⟨hsp, _⟩⟩
      case inr => rw [HSP.out] at hsp; simp at hsp
      rw [HSP.out] at hsp
      simp only [Option.some.injEq, Prod.mk.injEq] at hsp
      obtain ⟨rfl, rfl⟩ := hsp
      obtain ⟨a, c, rfl, hrd⟩ := Rd.of_own hown
      rw [HPL.out]
      have HRD := Lib.hid hrd
      have HB3 := Lib.hid hB3
      have HRF : Hid (RdF w3 w1.heap.size fs) := Lib.hid (fun j f hj => (HB3.out.cell (p := ⟨w1.heap.size, j, none⟩) (by rw [World.size_alloc]; exact Nat.lt_succ_self _)).trans (fields_rd fs w1 j f hj))
      have hz3 : w1.heap.size < w3.heap.size := by have := HB3.out.size; rw [World.size_alloc] at this; omega
      have HBW : Hid (Below w.heap.size w w3) := Lib.hid (by
        have g1 := HB1.out.alloc HB1.out.size (fieldsO fs)
        exact g1.trans (HB3.out.mono g1.size))
      clear hB3 hown hrd
      go_wp2_with fail
      go_loopg [5, 31] (n + 1) (fun gas ov kv wr => ∃ (k : Nat) (A : List Bs), kv = .int .i64 k ∧ k ≤ n ∧ n + 1 ≤ k + gas ∧ A.length ≤ k ∧ Hid (A ++ namesL (fs.drop k) (p.drop k) = R) ∧ wr.ownsRow w3.heap.size 9 1 ov A.length (A.map strV) ∧ Below w3.heap.size w3 wr)
      case atStart => exact ⟨0, [], rfl, by omega, by omega, by simp, Lib.hid (by rw [HN.out]; simp), World.ownsRow_nil _ _ _ _, Below.refl _ _⟩
      case round =>
        obtain ⟨k, A, rfl, hk, hkg, hA, HW, hown, hB⟩ := hrel
        have HKG := Lib.hid hkg; clear hkg
        have HB := Lib.hid hB; clear hB
        by_cases hlt : k < n
        · obtain ⟨f, hfk⟩ : ∃ f, fs[k]? = some f := ⟨_, List.getElem?_eq_getElem (by have := HNN.out; omega)⟩
          obtain ⟨x, hxk⟩ : ∃ x, p[k]? = some x := ⟨_, List.getElem?_eq_getElem (by have := HPL.out; omega)⟩
          have hxs := HPX.out x (List.mem_of_getElem? hxk)
          rw [size_len] at hxs
          have HST := Lib.hid (names_go HW.out hfk hxk)
          have hcF := (HB.out.cell (p := ⟨w1.heap.size, k, none⟩) hz3).trans (HRF.out k f hfk)
          obtain ⟨g, o, rfl, _, hg, hcP0⟩ := HRD.out k x hxk
          have hcP := (HB.out.cell (p := ⟨g, o + k, none⟩) hg).trans hcP0
          unfold strV at hcP
          have HOWN := Lib.hid hown
          have HCP := Lib.hid hcP
          obtain ⟨fv, hfv⟩ : ∃ fv, fldV f = fv := ⟨_, rfl⟩
          have HFV := Lib.hid hfv
          rw [hfv] at hcF
          clear hcP0 hfk hxk hfv hown hcP
          obtain ⟨b, hb⟩ : ∃ b, isHost f = b := ⟨_, rfl⟩
          have HBB := Lib.hid hb
          have hta := asked f
          rw [HFV.out, hb] at hta
          have hcP := HCP.out
          clear hb
          cases b with
          | false =>
            have HST2 : Hid (A ++ namesL (fs.drop (k + 1)) (p.drop (k + 1)) = R) := Lib.hid (by have h := HST.out; rw [HBB.out] at h; simpa using h)
            go_wp2_with fail
            have hkg := HKG.out
            go_roundg (gk - 1)
            case rel => exact ⟨k + 1, A, by go_num, by omega, by omega, by omega, HST2, HOWN.out.alloc _, HB.out.alloc HB.out.size _⟩
            case measure => omega
          | true =>
            have HST2 : Hid ((A ++ [x]) ++ namesL (fs.drop (k + 1)) (p.drop (k + 1)) = R) := Lib.hid (by have h := HST.out; rw [HBB.out] at h; simpa using h)
            have CL := Lib.hid (fun w => clone_any ⟨x.toArray⟩ w (by rw [mk_size]; omega))
            have hok : 0 ≤ (k : Int) := by omega
            have hgw : g < wr.heap.size := Nat.lt_of_lt_of_le hg HB.out.size
            go_wp2_with fail
            refine (CL.out _).mono ?_
            rintro e w5 ⟨rfl, hB5⟩
            have hown := ownsRow_below (HOWN.out.alloc _) hB5
            have hBa := HB.out.alloc HB.out.size (.cells #[] 164)
            have hB' := hBa.trans (hB5.mono hBa.size)
            have hsz := hB'.size
            clear hB5 hcP
            go_wp2_with (at_builtin; go_must (refine wpList_append_own _ rfl _ _ 47 rfl w3.heap.size 9 i0 (.string ByteArray.empty) 1 16 Tryz.underlying47 hi hz0 hz1 hz2 rfl (by decide) _ _ _ rfl (hown.alloc _) ⟨_, 0, none⟩ 1 1 [.string ⟨x.toArray⟩] rfl rfl ?c1 ?c2 ?c3 ?c4 ?c5 ?_))
            case c1 => exact cell_one_new _ _ _
            case c2 => simp [Value.oneCell']
            case c3 => unfold maxLen; omega
            case c4 => omega
            case c5 => simp; omega
            intro v' w6 hown' hgrow hnil
            have hown2 := own_snoc (x := .string ⟨x.toArray⟩) rfl hown'
            have hB6 := below_append hB' hsz hown hgrow
            clear hown' hgrow hown hnil
            go_wp2_with fail
            have hkg := HKG.out
            go_roundg (gk - 1)
            case rel => exact ⟨k + 1, A ++ [x], by go_num, by omega, by omega, by simp; omega, HST2, hown2, hB6⟩
            case measure => omega
        · have hke : k = n := by omega
          have HE : Hid (A = R) := Lib.hid (by
            have h := HW.out
            rw [List.drop_eq_nil_iff.2 (show fs.length ≤ k by have := HNN.out; omega)] at h
            simpa [namesL] using h)
          subst hke
          go_wp2_with fail
          go_ret
          refine ⟨_, rfl, ?_, HBW.out.trans (HB.out.mono HBW.out.size)⟩
          rw [← HE.out]
          exact own_mono hown HBW.out.size
  · have HN : Hid (R = []) := Lib.hid (by rw [← HR.out, namesS, if_neg (by rw [hC]; exact hc0)])
    have hb : (C != 0) = true := by rw [bne_iff_ne]; exact hc0
    clear hC hc0
    go_enter Tryz.func139, Tryz.ntmps139
    go_wp2_with fail
    refine (CC.out _).mono ?_
    rintro e w1 ⟨rfl, hB1⟩
    go_wp2_with fail
    go_ret
    exact ⟨_, rfl, by rw [HN.out]; exact World.ownsRow_nil _ _ _ _, hB1⟩
end Go.Proofs.YtflijhodlimjoaaGreat.dnames
namespace Go.Proofs.YtflijhodlimjoaaGreat.dfold
open Go.RowKit Go.Proofs.YtflijhodlimjoaaGreat.kit Go.Proofs.YtflijhodlimjoaaGreat.nspec Go.Proofs.YtflijhodlimjoaaGreat.rsplit Go.Proofs.YtflijhodlimjoaaGreat.fld Go.Proofs.YtflijhodlimjoaaGreat.formW Go.Proofs.YtflijhodlimjoaaGreat.splitD Go.Proofs.YtflijhodlimjoaaGreat.dcheck Go.Proofs.YtflijhodlimjoaaGreat.dnames Go.Proofs.YtflijhodlimjoaaGreat.nread Go.Proofs.YtflijhodlimjoaaGreat.bld Go.Proofs.YtflijhodlimjoaaGreat.refA Go.Proofs.YtflijhodlimjoaaGreat.nameB
set_option linter.unusedVariables false

def foldOne (f : Fld) (x : Bs) : Bs := if isHost f then foldS x else x
def foldL : List Fld → List Bs → Bs
  | f :: fs, x :: p => foldOne f x ++ foldL fs p
  | _, _ => []
def foldDS (t : Int) (d : Bs) : Bs := if checkS t d = 0 then (match formS t, partsS t d with | some fs, some p => foldL fs p | _, _ => d) else []
theorem fold_short (x : Bs) : (foldS x).length ≤ 255 := by
  cases h : split x with
  | none => unfold foldS; rw [h]; simp
  | some ls =>
    have hN := split_iff.1 h
    have hr := isN_room hN
    rw [foldS_yes hN, put_length, room_low]; omega
theorem one_len {f : Fld} {x : Bs} (h : x.length ≤ 65535) : (foldOne f x).length ≤ 65535 := by
  unfold foldOne; split
  · have := fold_short x; omega
  · exact h
theorem fold_go {A R : Bs} {fs : List Fld} {p : List Bs} {k : Nat} {f : Fld} {x : Bs} (h : A ++ foldL (fs.drop k) (p.drop k) = R) (hf : fs[k]? = some f) (hx : p[k]? = some x) : (A ++ foldOne f x) ++ foldL (fs.drop (k + 1)) (p.drop (k + 1)) = R := by
  obtain ⟨h1, h2⟩ := List.getElem?_eq_some_iff.1 hf
  obtain ⟨h3, h4⟩ := List.getElem?_eq_some_iff.1 hx
  rw [List.drop_eq_getElem_cons h1, h2, List.drop_eq_getElem_cons h3, h4, foldL] at h
  rw [← h]; simp

set_option maxRecDepth 100000 in
set_option maxHeartbeats 8000000 in
theorem dfold_any (t : Int) (s : ByteArray) (w : World) (hs : s.size ≤ maxLen) :
    Calls Tryz.prog 120 #[.int .i64 t, .string s] w fun e w' => e = .returned (.string ⟨(foldDS t s.data.toList).toArray⟩) ∧ Below w.heap.size w w' := by
  obtain ⟨R, HR⟩ : ∃ R, Hid (foldDS t s.data.toList = R) := ⟨_, Lib.hid rfl⟩
  rw [HR.out]
  have CC := Lib.hid (fun w => dcheck_any t s w hs)
  obtain ⟨C, hC⟩ : ∃ C, checkS t s.data.toList = C := ⟨_, rfl⟩
  rw [hC] at CC
  by_cases hc0 : C = 0
  · subst hc0
    have hls : s.size ≤ 65535 := by have := check_len hC; rwa [size_len] at this
    cases hf : formS t with
    | none =>
      have HN : Hid ((⟨R.toArray⟩ : ByteArray) = s) := Lib.hid (by rw [← HR.out, foldDS, if_pos hC, hf])
      have CF := Lib.hid (fun w => form_no t w hf)
      have CL := Lib.hid (fun w => clone_any s w (by omega))
      clear hf hC
      go_enter Tryz.func120, Tryz.ntmps120
      go_wp2_with fail
      refine (CC.out _).mono ?_
      rintro e w1 ⟨rfl, hB1⟩
      have HB1 := Lib.hid hB1; clear hB1
      go_wp2_with fail
      refine (CF.out _).mono ?_
      rintro e w2 ⟨rfl, rfl⟩
      go_wp2_with fail
      refine (CL.out _).mono ?_
      rintro e w3 ⟨rfl, hB3⟩
      have HB3 := Lib.hid (HB1.out.trans (hB3.mono HB1.out.size)); clear hB3
      go_wp2_with fail
      go_ret
      exact ⟨by rw [HN.out]; rfl, HB3.out⟩
    | some fs =>
      obtain ⟨p, hp1, hp2, hp3⟩ := parts_ok hC hf
      have HN : Hid (R = foldL fs p) := Lib.hid (by rw [← HR.out, foldDS, if_pos hC, hf, hp1])
      obtain ⟨n, hn⟩ : ∃ n, fs.length = n := ⟨_, rfl⟩
      obtain ⟨hpl, hpx⟩ := parts_len _ _ _ _ hp2
      have CF := Lib.hid (fun w => form_yes t fs w hf)
      unfold FormPost at CF
      rw [hn] at CF
      have hfa := form_fair hf
      have hn20 : n ≤ 20 := by rw [← hn]; exact hfa.1
      have CS := Lib.hid (fun w => split_any fs w.heap.size s (w.alloc (fieldsO fs)) (fields_rd fs w) (by rw [World.size_alloc]; omega) hfa hls n hn)
      have HSP := Lib.hid hp2; have HNN := Lib.hid hn
      have HPL : Hid (p.length = n) := Lib.hid (by rw [hpl, hn])
      have HPX := Lib.hid hpx
      clear hf hC hp1 hp2 hp3 hpl hpx hfa hn
      go_enter Tryz.func120, Tryz.ntmps120
      go_wp2_with fail
      refine (CC.out _).mono ?_
      rintro e w1 ⟨rfl, hB1⟩
      have HB1 := Lib.hid hB1; clear hB1
      go_wp2_with fail
      refine (CF.out _).mono ?_
      rintro e w2 ⟨rfl, rfl⟩
      go_wp2_with fail
      refine (CS.out _).mono ?_
      rintro e w3 ⟨hB3, ⟨v, p', r', hsp, rfl, hown⟩ | ⟨hsp, _⟩⟩
      case inr => rw [HSP.out] at hsp; simp at hsp
      rw [HSP.out] at hsp
      simp only [Option.some.injEq, Prod.mk.injEq] at hsp
      obtain ⟨rfl, rfl⟩ := hsp
      obtain ⟨a, c, rfl, hrd⟩ := Rd.of_own hown
      rw [HPL.out]
      have HRD := Lib.hid hrd
      have HB3 := Lib.hid hB3
      have HRF : Hid (RdF w3 w1.heap.size fs) := Lib.hid (fun j f hj => (HB3.out.cell (p := ⟨w1.heap.size, j, none⟩) (by rw [World.size_alloc]; exact Nat.lt_succ_self _)).trans (fields_rd fs w1 j f hj))
      have hz3 : w1.heap.size < w3.heap.size := by have := HB3.out.size; rw [World.size_alloc] at this; omega
      have HBW : Hid (Below w.heap.size w w3) := Lib.hid (by
        have g1 := HB1.out.alloc HB1.out.size (fieldsO fs)
        exact g1.trans (HB3.out.mono g1.size))
      clear hB3 hown hrd
      have HFB : Hid (Bld w3.heap.size w3.heap.size [] (w3.alloc (.cells #[.pointer none, .slice none 0 0] 111))) := Lib.hid (Lib.fresh_isBuilder 111 5 w3)
      have HBb := Lib.hid ((Below.refl w3.heap.size w3).alloc (Nat.le_refl _) (.cells #[.pointer none, .slice none 0 0] 111))
      go_wp2_with fail
      go_loopg [35] (n + 1) (fun gas kv wr => ∃ (k : Nat) (A : Bs), kv = .int .i64 k ∧ k ≤ n ∧ n + 1 ≤ k + gas ∧ A.length ≤ 65535 * k ∧ Hid (A ++ foldL (fs.drop k) (p.drop k) = R) ∧ Hid (Bld w3.heap.size w3.heap.size A wr) ∧ Hid (Below w3.heap.size w3 wr))
      case atStart => exact ⟨0, [], rfl, by omega, by omega, by simp, Lib.hid (by rw [HN.out]; simp), HFB, HBb⟩
      case round =>
        clear HFB HBb
        obtain ⟨k, A, rfl, hk, hkg, hA, HW, HBD, HB⟩ := hrel
        have HKG := Lib.hid hkg; clear hkg
        have hsz := HB.out.size
        by_cases hlt : k < n
        · obtain ⟨f, hfk⟩ : ∃ f, fs[k]? = some f := ⟨_, List.getElem?_eq_getElem (by have := HNN.out; omega)⟩
          obtain ⟨x, hxk⟩ : ∃ x, p[k]? = some x := ⟨_, List.getElem?_eq_getElem (by have := HPL.out; omega)⟩
          have hxs := HPX.out x (List.mem_of_getElem? hxk)
          rw [size_len] at hxs
          have hx65 : x.length ≤ 65535 := by omega
          have HST := Lib.hid (fold_go HW.out hfk hxk)
          have hcF := (HB.out.cell (p := ⟨w1.heap.size, k, none⟩) hz3).trans (HRF.out k f hfk)
          obtain ⟨g, o, rfl, _, hg, hcP0⟩ := HRD.out k x hxk
          have hcP := (HB.out.cell (p := ⟨g, o + k, none⟩) hg).trans hcP0
          unfold strV at hcP
          have hgw : g < wr.heap.size := Nat.lt_of_lt_of_le hg hsz
          obtain ⟨fv, hfv⟩ : ∃ fv, fldV f = fv := ⟨_, rfl⟩
          have hta := asked f
          rw [hfv] at hcF hta
          obtain ⟨b, hb⟩ : ∃ b, isHost f = b := ⟨_, rfl⟩
          rw [hb] at hta
          have HON : Hid (foldOne f x = if b then foldS x else x) := Lib.hid (by unfold foldOne; rw [hb])
          have hok : 0 ≤ (k : Int) := by omega
          have hBal := (Below.refl wr.heap.size wr).alloc (Nat.le_refl _) (.cells #[] 164)
          have HBD2 := Lib.hid (bld_below HBD.out hBal)
          have HB2 := Lib.hid (HB.out.trans (hBal.mono hsz))
          have hsz2 := HB2.out.size
          have hl1 := one_len (f := f) hx65
          have HL1 := Lib.hid hl1
          clear hcP0 hfk hxk hfv hb hBal hxs hl1
          cases b with
          | false =>
            have HST2 : Hid ((A ++ x) ++ foldL (fs.drop (k + 1)) (p.drop (k + 1)) = R) := Lib.hid (by have h := HST.out; rw [HON.out] at h; simpa using h)
            have CW := Lib.hid (ws w3.heap.size w3.heap.size A ⟨x.toArray⟩ _ HBD2.out (by rw [mk_size]; omega) hsz2)
            rw [mk_data] at CW
            go_wp2_with fail
            refine CW.out.mono ?_
            rintro e w5 ⟨rfl, hb5, hB5⟩
            have HB5 := Lib.hid (HB2.out.trans hB5)
            have HBD5 := Lib.hid hb5
            clear hB5 hb5
            go_wp2_with fail
            have hkg := HKG.out
            go_roundg (gk - 1)
            case rel => exact ⟨k + 1, A ++ x, by go_num, by omega, by omega, by simp; omega, HST2, HBD5, HB5⟩
            case measure => omega
          | true =>
            have HST2 : Hid ((A ++ foldS x) ++ foldL (fs.drop (k + 1)) (p.drop (k + 1)) = R) := Lib.hid (by have h := HST.out; rw [HON.out] at h; simpa using h)
            have CN := Lib.hid (fun w => nfold_any ⟨x.toArray⟩ w (by rw [mk_size]; omega))
            rw [mk_data] at CN
            have hfl := fold_short x
            obtain ⟨D, hD⟩ : ∃ D : ByteArray, (⟨(foldS x).toArray⟩ : ByteArray) = D := ⟨_, rfl⟩
            have hDd : D.data.toList = foldS x := by rw [← hD]
            have hDs : D.size ≤ 255 := by rw [← size_len, hDd]; exact hfl
            rw [hD] at CN
            rw [← hDd] at HST2
            clear hD hDd hfl
            go_wp2_with fail
            refine (CN.out _).mono ?_
            rintro e w5 ⟨rfl, hB5⟩
            have HBD5 := Lib.hid (bld_below HBD2.out hB5)
            have HB5 := Lib.hid (HB2.out.trans (hB5.mono hsz2))
            have hsz5 := HB5.out.size
            have CW := Lib.hid (ws w3.heap.size w3.heap.size A D _ HBD5.out (by omega) hsz5)
            clear hB5
            go_wp2_with fail
            refine CW.out.mono ?_
            rintro e w6 ⟨rfl, hb6, hB6⟩
            have HB6 := Lib.hid (HB5.out.trans hB6)
            have HBD6 := Lib.hid hb6
            clear hB6 hb6
            go_wp2_with fail
            have hkg := HKG.out
            go_roundg (gk - 1)
            case rel => exact ⟨k + 1, A ++ D.data.toList, by go_num, by omega, by omega, by rw [List.length_append, size_len]; omega, HST2, HBD6, HB6⟩
            case measure => omega
        · have hke : k = n := by omega
          have HE : Hid (A = R) := Lib.hid (by
            have h := HW.out
            rw [List.drop_eq_nil_iff.2 (show fs.length ≤ k by have := HNN.out; omega)] at h
            simpa [foldL] using h)
          subst hke
          go_wp2_with fail
          refine (Tryz.Builder_String_any _ _ A _ HBD.out (by omega)).mono ?_
          rintro e w4 ⟨rfl, hE4⟩
          go_wp2_with fail
          go_ret
          exact ⟨by rw [← HE.out]; rfl, (HBW.out.trans (HB.out.mono HBW.out.size)).trans (hE4.mono (by have := HBW.out.size; have := HB.out.size; omega))⟩
  · have HN : Hid (R = []) := Lib.hid (by rw [← HR.out, foldDS, if_neg (by rw [hC]; exact hc0)])
    have hb : (C != 0) = true := by rw [bne_iff_ne]; exact hc0
    clear hC hc0
    go_enter Tryz.func120, Tryz.ntmps120
    go_wp2_with fail
    refine (CC.out _).mono ?_
    rintro e w1 ⟨rfl, hB1⟩
    go_wp2_with fail
    go_ret
    exact ⟨by rw [HN.out]; rfl, hB1⟩
end Go.Proofs.YtflijhodlimjoaaGreat.dfold
namespace Go.Proofs.YtflijhodlimjoaaGreat.ordl
open Go.RowKit Go.Proofs.YtflijhodlimjoaaGreat.kit Go.Proofs.YtflijhodlimjoaaGreat.check Go.Proofs.YtflijhodlimjoaaGreat.nspec Go.Proofs.YtflijhodlimjoaaGreat.rsplit Go.Proofs.YtflijhodlimjoaaGreat.low Go.Proofs.YtflijhodlimjoaaGreat.refA Go.Proofs.YtflijhodlimjoaaGreat.refB Go.Proofs.YtflijhodlimjoaaGreat.nameA Go.Proofs.YtflijhodlimjoaaGreat.nameB Go.Proofs.YtflijhodlimjoaaGreat.nameC Go.Proofs.YtflijhodlimjoaaGreat.ncmp Go.Proofs.YtflijhodlimjoaaGreat.rcmp Go.Proofs.YtflijhodlimjoaaGreat.refC

theorem cb_neg : ∀ u v : List UInt8, Lib.compareBytes v u = - Lib.compareBytes u v
  | [], [] => rfl
  | [], _ :: _ => rfl
  | _ :: _, [] => rfl
  | a :: u, b :: v => by
    simp only [Lib.compareBytes]
    by_cases h1 : a < b
    · have h2 : ¬ b < a := by rw [UInt8.lt_iff_toNat_lt] at h1 ⊢; omega
      simp [h1, h2]
    · by_cases h2 : b < a
      · simp [h1, h2]
      · simp [h1, h2, cb_neg u v]
theorem cb_trans : ∀ u v z : List UInt8, Lib.compareBytes u v = -1 → Lib.compareBytes v z = -1 → Lib.compareBytes u z = -1
  | [], _, [], h1, h2 => by
    rename_i v
    cases v <;> simp [Lib.compareBytes] at h1 h2
  | [], _, _ :: _, _, _ => rfl
  | _ :: _, [], _, h1, _ => by simp [Lib.compareBytes] at h1
  | _ :: _, _ :: _, [], _, h2 => by simp [Lib.compareBytes] at h2
  | a :: u, b :: v, c :: z, h1, h2 => by
    simp only [Lib.compareBytes] at h1 h2 ⊢
    by_cases ab : a < b
    · by_cases bc : b < c
      · have : a < c := by rw [UInt8.lt_iff_toNat_lt] at *; omega
        rw [if_pos this]
      · rw [if_neg bc] at h2
        by_cases cb : c < b
        · rw [if_pos cb] at h2; omega
        · have e : b = c := by
            rw [UInt8.lt_iff_toNat_lt] at bc cb
            exact UInt8.toNat.inj (by omega)
          rw [if_pos (e ▸ ab)]
    · rw [if_neg ab] at h1
      by_cases ba : b < a
      · rw [if_pos ba] at h1; omega
      · rw [if_neg ba] at h1
        have e : a = b := by
          rw [UInt8.lt_iff_toNat_lt] at ab ba
          exact UInt8.toNat.inj (by omega)
        subst e
        by_cases bc : a < c
        · rw [if_pos bc]
        · rw [if_neg bc] at h2 ⊢
          by_cases cb : c < a
          · rw [if_pos cb] at h2; omega
          · rw [if_neg cb] at h2 ⊢
            exact cb_trans u v z h1 h2

theorem cr_ge : ∀ x y : List Bs, -1 ≤ cmpR x y ∧ cmpR x y ≤ 1
  | [], [] => by simp [cmpR]
  | [], _ :: _ => by simp [cmpR]
  | _ :: _, [] => by simp [cmpR]
  | p :: x, q :: y => by
    simp only [cmpR]
    split
    · exact cr_ge x y
    · exact cmp_ge p q
theorem cr_neg : ∀ x y : List Bs, cmpR y x = - cmpR x y
  | [], [] => rfl
  | [], _ :: _ => rfl
  | _ :: _, [] => rfl
  | p :: x, q :: y => by
    simp only [cmpR]
    rw [cb_neg p q]
    by_cases h : Lib.compareBytes p q = 0
    · rw [if_pos h, if_pos (by omega), cr_neg x y]
    · rw [if_neg h, if_neg (by omega)]
theorem cr_eq0 : ∀ x y : List Bs, cmpR x y = 0 ↔ x = y
  | [], [] => by simp [cmpR]
  | [], _ :: _ => by simp [cmpR]
  | _ :: _, [] => by simp [cmpR]
  | p :: x, q :: y => by
    simp only [cmpR]
    by_cases h : Lib.compareBytes p q = 0
    · rw [if_pos h, cr_eq0 x y, (cmp_eq0 p q).1 h]; simp
    · rw [if_neg h]
      have : p ≠ q := fun e => h ((cmp_eq0 p q).2 e)
      simp [h, this]
theorem cr_trans : ∀ x y z : List Bs, cmpR x y = -1 → cmpR y z = -1 → cmpR x z = -1
  | [], y, [], h1, h2 => by cases y <;> simp [cmpR] at h1 h2
  | [], _, _ :: _, _, _ => rfl
  | _ :: _, [], _, h1, _ => by simp [cmpR] at h1
  | _ :: _, _ :: _, [], _, h2 => by simp [cmpR] at h2
  | p :: x, q :: y, r :: z, h1, h2 => by
    simp only [cmpR] at h1 h2 ⊢
    by_cases pq : Lib.compareBytes p q = 0
    · obtain rfl := (cmp_eq0 p q).1 pq
      rw [if_pos pq] at h1
      by_cases qr : Lib.compareBytes p r = 0
      · rw [if_pos qr] at h2 ⊢
        exact cr_trans x y z h1 h2
      · rw [if_neg qr] at h2 ⊢; exact h2
    · rw [if_neg pq] at h1
      by_cases qr : Lib.compareBytes q r = 0
      · obtain rfl := (cmp_eq0 q r).1 qr
        rw [if_neg pq]; exact h1
      · rw [if_neg qr] at h2
        have := cb_trans p q r h1 h2
        rw [if_neg (by omega)]; exact this
theorem cr_pre : ∀ x y : List Bs, x <+: y → cmpR x y ≤ 0
  | [], [], _ => by simp [cmpR]
  | [], _ :: _, _ => by simp [cmpR]
  | _ :: _, [], h => by simp at h
  | p :: x, q :: y, h => by
    obtain ⟨rfl, h2⟩ := List.cons_prefix_cons.1 h
    simp only [cmpR]
    rw [if_pos ((cmp_eq0 p p).2 rfl)]
    exact cr_pre x y h2
theorem cr_mid : ∀ x y z : List Bs, cmpR x y ≤ 0 → cmpR y z ≤ 0 → x <+: z → x <+: y
  | [], _, _, _, _, _ => List.nil_prefix
  | _ :: _, [], _, h1, _, _ => by simp [cmpR] at h1
  | _ :: _, _ :: _, [], _, _, h3 => by simp at h3
  | p :: x, q :: y, r :: z, h1, h2, h3 => by
    obtain ⟨rfl, h4⟩ := List.cons_prefix_cons.1 h3
    simp only [cmpR] at h1 h2
    have hn := cb_neg p q
    by_cases pq : Lib.compareBytes p q = 0
    · obtain rfl := (cmp_eq0 p q).1 pq
      rw [if_pos pq] at h1 h2
      exact List.cons_prefix_cons.2 ⟨rfl, cr_mid x y z h1 h2 h4⟩
    · rw [if_neg pq] at h1
      rw [if_neg (by omega)] at h2
      omega

theorem withinS_iff {n z : Bs} {l x : List Bs} (hn : IsN n l) (hz : IsN z x) : withinS n z = true ↔ (x.map lowL).reverse <+: (l.map lowL).reverse := by
  rw [List.reverse_prefix]
  constructor
  · intro h
    obtain ⟨h1, h2⟩ := within_len hn hz h
    rw [← h2, List.map_drop]
    exact List.drop_suffix _ _
  · intro h
    rw [← within_same]
    unfold withinP
    rw [countS_yes hz, decide_eq_true (by omega), Bool.true_and]
    have hle : x.length ≤ l.length := by simpa using h.length_le
    have ht := tail_isN hn x.length hle
    unfold equalS
    rw [split_iff.2 ht, split_iff.2 hz]
    simp only [decide_eq_true_eq]
    obtain ⟨t, ht⟩ := h
    have hd : (l.map lowL).drop (l.length - x.length) = x.map lowL := by
      rw [← ht]
      have : l.length - x.length = t.length := by
        have := congrArg List.length ht; simp at this; omega
      rw [this, List.drop_left]
    rw [List.map_drop, hd]
end Go.Proofs.YtflijhodlimjoaaGreat.ordl
namespace Go.Proofs.YtflijhodlimjoaaGreat.sortT
open Go.RowKit Go.Proofs.YtflijhodlimjoaaGreat.kit Go.Proofs.YtflijhodlimjoaaGreat.nspec
set_option linter.unusedVariables false

def ltT (a b : Bs) : Bool := decide (Lib.compareBytes a b < 0)
theorem ltT_neg {a b : Bs} : ltT a b = decide (Lib.compareBytes a b = -1) := by
  have h := ncmp.cmp_ge a b
  unfold ltT
  rw [decide_eq_decide]; omega
def leT (a b : Bs) : Bool := !ltT b a
theorem leT_iff {a b : Bs} : leT a b = true ↔ Lib.compareBytes a b ≤ 0 := by
  have h := ordl.cb_neg b a
  unfold leT ltT
  simp only [Bool.not_eq_true', decide_eq_false_iff_not]
  omega
theorem leT_anti {a b : Bs} (h1 : leT a b = true) (h2 : leT b a = true) : a = b := by
  have e1 := leT_iff.1 h1; have e2 := leT_iff.1 h2
  have h := ordl.cb_neg b a
  exact (rcmp.cmp_eq0 a b).1 (by omega)
theorem leT_total (a b : Bs) : (leT a b || leT b a) = true := by
  have h := ordl.cb_neg b a
  cases h1 : leT a b with
  | true => rfl
  | false =>
    have : ¬ Lib.compareBytes a b ≤ 0 := fun e => by rw [leT_iff.2 e] at h1; cases h1
    exact leT_iff.2 (by omega)
theorem leT_trans {a b c : Bs} (h1 : leT a b = true) (h2 : leT b c = true) : leT a c = true := by
  have e1 := leT_iff.1 h1; have e2 := leT_iff.1 h2
  have g1 := ncmp.cmp_ge a b; have g2 := ncmp.cmp_ge b c
  by_cases z1 : Lib.compareBytes a b = 0
  · rw [(rcmp.cmp_eq0 a b).1 z1]; exact h2
  · by_cases z2 : Lib.compareBytes b c = 0
    · rw [← (rcmp.cmp_eq0 b c).1 z2]; exact h1
    · exact leT_iff.2 (by rw [ordl.cb_trans a b c (by omega) (by omega)]; omega)
/-- one text put in its place -/
def insT (x : Bs) : List Bs → List Bs
  | [] => [x]
  | y :: r => if ltT y x = true then y :: insT x r else x :: y :: r
def sortedT (l : List Bs) : List Bs := l.foldl (fun o x => insT x o) []
theorem insT_perm (x : Bs) : ∀ l : List Bs, (insT x l).Perm (x :: l)
  | [] => List.Perm.refl _
  | y :: r => by
    unfold insT
    split
    · exact ((insT_perm x r).cons y).trans (List.Perm.swap x y r)
    · exact List.Perm.refl _
theorem insT_sorted (x : Bs) : ∀ l : List Bs, l.Pairwise (fun a b => leT a b = true) → (insT x l).Pairwise (fun a b => leT a b = true)
  | [], _ => List.pairwise_singleton _ _
  | y :: r, h => by
    obtain ⟨h1, h2⟩ := List.pairwise_cons.1 h
    unfold insT
    split
    · rename_i hlt
      refine List.pairwise_cons.2 ⟨fun z hz => ?_, insT_sorted x r h2⟩
      rcases List.mem_cons.1 ((insT_perm x r).mem_iff.1 hz) with e | e
      · subst e
        refine leT_iff.2 ?_
        unfold ltT at hlt
        have := of_decide_eq_true hlt; omega
      · exact h1 z e
    · rename_i hlt
      have hxy : leT x y = true := by unfold leT; simpa using hlt
      refine List.pairwise_cons.2 ⟨fun z hz => ?_, h⟩
      rcases List.mem_cons.1 hz with e | e
      · subst e; exact hxy
      · exact leT_trans hxy (h1 z e)
theorem fold_sorted : ∀ (l o : List Bs), o.Pairwise (fun a b => leT a b = true) → (l.foldl (fun o x => insT x o) o).Pairwise (fun a b => leT a b = true) ∧ (l.foldl (fun o x => insT x o) o).Perm (l ++ o)
  | [], o, h => ⟨h, List.Perm.refl _⟩
  | x :: l, o, h => by
    obtain ⟨h1, h2⟩ := fold_sorted l (insT x o) (insT_sorted x o h)
    exact ⟨h1, h2.trans (((insT_perm x o).append_left l).trans List.perm_middle)⟩
/-- the two are one -/
theorem sorted_is (l : List Bs) : sortedT l = l.mergeSort leT := by
  obtain ⟨h1, h2⟩ := fold_sorted l [] List.Pairwise.nil
  rw [List.append_nil] at h2
  exact List.Perm.eq_of_pairwise (le := fun a b => leT a b = true) (fun a b _ _ h1 h2 => leT_anti h1 h2) h1 (List.pairwise_mergeSort (le := leT) (fun a b c => leT_trans) leT_total l) (h2.trans (List.mergeSort_perm l leT).symm)
/-- among sorted texts two are alike only if neighbours are -/
def dupN : List Bs → Bool
  | a :: b :: r => decide (a = b) || dupN (b :: r)
  | _ => false
theorem dup_sorted : ∀ (l : List Bs), l.Pairwise (fun a b => leT a b = true) → (dupN l = false ↔ l.Nodup)
  | [], _ => by simp [dupN]
  | [a], _ => by simp [dupN]
  | a :: b :: r, h => by
    obtain ⟨h1, h2⟩ := List.pairwise_cons.1 h
    have ih := dup_sorted (b :: r) h2
    unfold dupN
    rw [Bool.or_eq_false_iff, List.nodup_cons, ih]
    constructor
    · rintro ⟨e, hn⟩
      refine ⟨fun hm => ?_, hn⟩
      have hab : a ≠ b := of_decide_eq_false e
      rcases List.mem_cons.1 hm with e2 | e2
      · exact hab e2
      · have h3 := (List.pairwise_cons.1 h2).1 a e2
        exact hab (leT_anti (h1 b List.mem_cons_self) h3)
    · rintro ⟨hm, hn⟩
      exact ⟨decide_eq_false fun e => hm (e ▸ List.mem_cons_self), hn⟩
theorem sorted_nodup (l : List Bs) : (sortedT l).Nodup ↔ l.Nodup := by
  obtain ⟨h1, h2⟩ := fold_sorted l [] List.Pairwise.nil
  rw [List.append_nil] at h2
  exact h2.nodup_iff
theorem sortedT_sorted (l : List Bs) : (sortedT l).Pairwise (fun a b => leT a b = true) := (fold_sorted l [] List.Pairwise.nil).1
theorem sortedT_len (l : List Bs) : (sortedT l).length = l.length := by
  have h := (fold_sorted l [] List.Pairwise.nil).2
  rw [List.append_nil] at h; exact h.length_eq
end Go.Proofs.YtflijhodlimjoaaGreat.sortT

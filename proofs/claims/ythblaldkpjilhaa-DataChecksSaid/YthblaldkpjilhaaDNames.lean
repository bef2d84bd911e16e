/- data.Names: walk. -/
import Derived.Test.YthblaldkpjilhaaDCheck
import Derived.Test.YthblaldkpjilhaaCheckData
import Derived.Test.YthblaldkpjilhaaNameRead
import Derived.Test.YthblaldkpjilhaaTwo
import Derived.Outline
namespace Go.Proofs.Ythblaldkpjilhaa.dnames
open Go.RowKit Go.Proofs.Ythblaldkpjilhaa.kit Go.Proofs.Ythblaldkpjilhaa.nspec Go.Proofs.Ythblaldkpjilhaa.rsplit Go.Proofs.Ythblaldkpjilhaa.fld Go.Proofs.Ythblaldkpjilhaa.formW Go.Proofs.Ythblaldkpjilhaa.takes Go.Proofs.Ythblaldkpjilhaa.hostT Go.Proofs.Ythblaldkpjilhaa.splitD Go.Proofs.Ythblaldkpjilhaa.dcheck Go.Proofs.Ythblaldkpjilhaa.nread
set_option linter.unusedVariables false

def namesS (t : Int) (d : Bs) : List Bs := if checkS t d = 0 then (match formS t, partsS t d with | some fs, some p => namesL fs p | _, _ => []) else []
theorem own_mono {w : World} {base b' : Nat} {e : TypeId} {v : Value} {n size : Nat} {xs : List Value} (h : w.ownsRow base e size v n xs) (hb : b' ≤ base) : w.ownsRow b' e size v n xs := by
  refine ⟨h.1, ?_⟩
  rcases h.2 with h1 | ⟨g, cap, cur, h1, h2, h3⟩
  · exact .inl h1
  · exact .inr ⟨g, cap, cur, h1, Nat.le_trans hb h2, h3⟩
/-- what stands, where it is right: the fields and their bytes -/
theorem parts_ok {t : Int} {d : Bs} {fs : List Fld} (hc : checkS t d = 0) (hf : formS t = some fs) : ∃ p, partsS t d = some p ∧ splitS fs d = some (p, []) ∧ d.length ≤ 65535 := by
  unfold checkS at hc
  split at hc
  · simp at hc
  · split at hc
    · simp at hc
    · rename_i h1 h2
      cases hp : partsS t d with
      | none => rw [hp] at hc; simp at hc
      | some p =>
        refine ⟨p, rfl, ?_, by omega⟩
        unfold partsS at hp
        rw [hf] at hp
        simp only at hp
        cases hs : splitS fs d with
        | none => rw [hs] at hp; simp at hp
        | some q =>
          obtain ⟨q1, q2⟩ := q
          rw [hs] at hp
          cases q2 with
          | nil => simpa using hp
          | cons x r => simp at hp
theorem parts_len : ∀ (fs : List Fld) (d : Bs) (p : List Bs) (r : Bs), splitS fs d = some (p, r) → p.length = fs.length ∧ ∀ x ∈ p, x.length ≤ d.length
  | [], d, p, r, h => by simp only [splitS, Option.some.injEq, Prod.mk.injEq] at h; rw [← h.1]; simp
  | f :: fs, d, p, r, h => by
    simp only [splitS] at h
    split at h
    · simp at h
    · cases hs : splitS fs (d.drop (takeS f d).toNat) with
      | none => rw [hs] at h; simp at h
      | some q =>
        rw [hs] at h
        simp only [Option.map_some, Option.some.injEq, Prod.mk.injEq] at h
        have ih := parts_len fs _ _ _ hs
        rw [← h.1]
        refine ⟨by simp [ih.1], fun x hx => ?_⟩
        rcases List.mem_cons.1 hx with rfl | hx
        · rw [List.length_take]; omega
        · have := ih.2 x hx; rw [List.length_drop] at this; omega
theorem check_len {t : Int} {d : Bs} (hc : checkS t d = 0) : d.length ≤ 65535 := by
  unfold checkS at hc
  split at hc
  · simp at hc
  · split at hc
    · simp at hc
    · omega
theorem names_go {A R : List Bs} {fs : List Fld} {p : List Bs} {k : Nat} {f : Fld} {x : Bs} (h : A ++ namesL (fs.drop k) (p.drop k) = R) (hf : fs[k]? = some f) (hx : p[k]? = some x) : (A ++ (if isHost f then [x] else [])) ++ namesL (fs.drop (k + 1)) (p.drop (k + 1)) = R := by
  obtain ⟨h1, h2⟩ := List.getElem?_eq_some_iff.1 hf
  obtain ⟨h3, h4⟩ := List.getElem?_eq_some_iff.1 hx
  rw [List.drop_eq_getElem_cons h1, h2, List.drop_eq_getElem_cons h3, h4, namesL] at h
  rw [← h]
  split <;> simp

theorem asked (f : Fld) (w : World) : (Instr.typeAssert (fldV f) 118 120 true).run Try.prog w = .ok (.tuple #[.agg #[], .bool (isHost f)]) w := by
  cases f <;> kernel_rfl
set_option maxRecDepth 100000 in
theorem split_nil (s : ByteArray) (w : World) (hs : s.size ≤ 65535) :
    Calls Try.prog 69 #[.slice none 0 0, .string s] w fun e w' => ∃ b, e = .returned (.tuple #[.slice none 0 0, .bool b]) ∧ w = w' := by
  go_enter Try.func69, Try.ntmps69
  go_wp2_with fail
  go_loopg [1, 6, 12] 1 (fun gas dv pv kv wr => dv = .string s ∧ pv = .slice none 0 0 ∧ kv = .int .i64 0 ∧ 1 ≤ gas ∧ w = wr)
  case atStart => exact ⟨rfl, rfl, rfl, by omega, rfl⟩
  case round =>
    obtain ⟨rfl, rfl, rfl, hg, rfl⟩ := hrel
    go_wp2_with fail
    go_ret2
    exact ⟨_, rfl, rfl⟩

set_option maxRecDepth 100000 in
set_option maxHeartbeats 8000000 in
theorem names_any (t : Int) (s : ByteArray) (w : World) (hs : s.size ≤ maxLen) :
    Calls Try.prog 25 #[.int .i64 t, .string s] w fun e w' => ∃ v, e = .returned v ∧ w'.ownsRow w.heap.size 9 1 v (namesS t s.data.toList).length ((namesS t s.data.toList).map strV) ∧ Below w.heap.size w w' := by
  obtain ⟨i0, hi, hz0, hz1, hz2⟩ := info_parts infoStr
  obtain ⟨R, HR⟩ : ∃ R, Hid (namesS t s.data.toList = R) := ⟨_, Lib.hid rfl⟩
  rw [HR.out]
  have CC := Lib.hid (fun w => dcheck_any t s w hs)
  obtain ⟨C, hC⟩ : ∃ C, checkS t s.data.toList = C := ⟨_, rfl⟩
  rw [hC] at CC
  by_cases hc0 : C = 0
  · subst hc0
    have hls : s.size ≤ 65535 := by have := check_len hC; rwa [size_len] at this
    cases hf : formS t with
    | none =>
      have HN : Hid (R = []) := Lib.hid (by rw [← HR.out, namesS, if_pos hC, hf])
      have CF := Lib.hid (fun w => form_no t w hf)
      have CS := Lib.hid (fun w => split_nil s w hls)
      clear hf hC
      go_enter Try.func25, Try.ntmps25
      go_wp2_with fail
      refine (CC.out _).mono ?_
      rintro e w1 ⟨rfl, hB1⟩
      have HB1 := Lib.hid hB1; clear hB1
      go_wp2_with fail
      refine (CF.out _).mono ?_
      rintro e w2 ⟨rfl, rfl⟩
      go_wp2_with fail
      refine (CS.out _).mono ?_
      rintro e w3 ⟨b, rfl, rfl⟩
      go_wp2_with fail
      go_loopg [5, 31] 1 (fun gas ov kv wr => ov = .slice none 0 0 ∧ kv = .int .i64 0 ∧ 1 ≤ gas ∧ w1 = wr)
      case atStart => exact ⟨rfl, rfl, by omega, rfl⟩
      case round =>
        obtain ⟨rfl, rfl, hg, rfl⟩ := hrel
        go_wp2_with fail
        go_ret
        exact ⟨_, rfl, by rw [HN.out]; exact World.ownsRow_nil _ _ _ _, HB1.out⟩
    | some fs =>
      obtain ⟨p, hp1, hp2, hp3⟩ := parts_ok hC hf
      have HN : Hid (R = namesL fs p) := Lib.hid (by rw [← HR.out, namesS, if_pos hC, hf, hp1])
      obtain ⟨n, hn⟩ : ∃ n, fs.length = n := ⟨_, rfl⟩
      obtain ⟨hpl, hpx⟩ := parts_len _ _ _ _ hp2
      have CF := Lib.hid (fun w => form_yes t fs w hf)
      unfold FormPost at CF
      rw [hn] at CF
      have hfa := form_fair hf
      have hn20 : n ≤ 20 := by rw [← hn]; exact hfa.1
      have CS := Lib.hid (fun w => split_any fs w.heap.size s (w.alloc (fieldsO fs)) (fields_rd fs w) (by rw [World.size_alloc]; omega) hfa hls n hn)
      have HSP := Lib.hid hp2; have HNN := Lib.hid hn
      have HPL : Hid (p.length = n) := Lib.hid (by rw [hpl, hn])
      have HPX := Lib.hid hpx
      clear hf hC hp1 hp2 hp3 hpl hpx hfa hn
      go_enter Try.func25, Try.ntmps25
      go_wp2_with fail
      refine (CC.out _).mono ?_
      rintro e w1 ⟨rfl, hB1⟩
      have HB1 := Lib.hid hB1; clear hB1
      go_wp2_with fail
      refine (CF.out _).mono ?_
      rintro e w2 ⟨rfl, rfl⟩
      go_wp2_with fail
      refine (CS.out _).mono ?_
      rintro e w3 ⟨hB3, ⟨v, p', r', hsp, rfl, hown⟩ | ⟨hsp, _⟩⟩
      case inr => rw [HSP.out] at hsp; simp at hsp
      rw [HSP.out] at hsp
      simp only [Option.some.injEq, Prod.mk.injEq] at hsp
      obtain ⟨rfl, rfl⟩ := hsp
      obtain ⟨a, c, rfl, hrd⟩ := Rd.of_own hown
      rw [HPL.out]
      have HRD := Lib.hid hrd
      have HB3 := Lib.hid hB3
      have HRF : Hid (RdF w3 w1.heap.size fs) := Lib.hid (fun j f hj => (HB3.out.cell (p := ⟨w1.heap.size, j, none⟩) (by rw [World.size_alloc]; exact Nat.lt_succ_self _)).trans (fields_rd fs w1 j f hj))
      have hz3 : w1.heap.size < w3.heap.size := by have := HB3.out.size; rw [World.size_alloc] at this; omega
      have HBW : Hid (Below w.heap.size w w3) := Lib.hid (by
        have g1 := HB1.out.alloc HB1.out.size (fieldsO fs)
        exact g1.trans (HB3.out.mono g1.size))
      clear hB3 hown hrd
      go_wp2_with fail
      go_loopg [5, 31] (n + 1) (fun gas ov kv wr => ∃ (k : Nat) (A : List Bs), kv = .int .i64 k ∧ k ≤ n ∧ n + 1 ≤ k + gas ∧ A.length ≤ k ∧ Hid (A ++ namesL (fs.drop k) (p.drop k) = R) ∧ wr.ownsRow w3.heap.size 9 1 ov A.length (A.map strV) ∧ Below w3.heap.size w3 wr)
      case atStart => exact ⟨0, [], rfl, by omega, by omega, by simp, Lib.hid (by rw [HN.out]; simp), World.ownsRow_nil _ _ _ _, Below.refl _ _⟩
      case round =>
        obtain ⟨k, A, rfl, hk, hkg, hA, HW, hown, hB⟩ := hrel
        have HKG := Lib.hid hkg; clear hkg
        have HB := Lib.hid hB; clear hB
        by_cases hlt : k < n
        · obtain ⟨f, hfk⟩ : ∃ f, fs[k]? = some f := ⟨_, List.getElem?_eq_getElem (by have := HNN.out; omega)⟩
          obtain ⟨x, hxk⟩ : ∃ x, p[k]? = some x := ⟨_, List.getElem?_eq_getElem (by have := HPL.out; omega)⟩
          have hxs := HPX.out x (List.mem_of_getElem? hxk)
          rw [size_len] at hxs
          have HST := Lib.hid (names_go HW.out hfk hxk)
          have hcF := (HB.out.cell (p := ⟨w1.heap.size, k, none⟩) hz3).trans (HRF.out k f hfk)
          obtain ⟨g, o, rfl, _, hg, hcP0⟩ := HRD.out k x hxk
          have hcP := (HB.out.cell (p := ⟨g, o + k, none⟩) hg).trans hcP0
          unfold strV at hcP
          have HOWN := Lib.hid hown
          have HCP := Lib.hid hcP
          obtain ⟨fv, hfv⟩ : ∃ fv, fldV f = fv := ⟨_, rfl⟩
          have HFV := Lib.hid hfv
          rw [hfv] at hcF
          clear hcP0 hfk hxk hfv hown hcP
          obtain ⟨b, hb⟩ : ∃ b, isHost f = b := ⟨_, rfl⟩
          have HBB := Lib.hid hb
          have hta := asked f
          rw [HFV.out, hb] at hta
          have hcP := HCP.out
          clear hb
          cases b with
          | false =>
            have HST2 : Hid (A ++ namesL (fs.drop (k + 1)) (p.drop (k + 1)) = R) := Lib.hid (by have h := HST.out; rw [HBB.out] at h; simpa using h)
            go_wp2_with fail
            have hkg := HKG.out
            go_roundg (gk - 1)
            case rel => exact ⟨k + 1, A, by go_num, by omega, by omega, by omega, HST2, HOWN.out.alloc _, HB.out.alloc HB.out.size _⟩
            case measure => omega
          | true =>
            have HST2 : Hid ((A ++ [x]) ++ namesL (fs.drop (k + 1)) (p.drop (k + 1)) = R) := Lib.hid (by have h := HST.out; rw [HBB.out] at h; simpa using h)
            have CL := Lib.hid (fun w => clone_any ⟨x.toArray⟩ w (by rw [mk_size]; omega))
            have hok : 0 ≤ (k : Int) := by omega
            have hgw : g < wr.heap.size := Nat.lt_of_lt_of_le hg HB.out.size
            go_wp2_with fail
            refine (CL.out _).mono ?_
            rintro e w5 ⟨rfl, hB5⟩
            have hown := ownsRow_below (HOWN.out.alloc _) hB5
            have hBa := HB.out.alloc HB.out.size (.cells #[] 120)
            have hB' := hBa.trans (hB5.mono hBa.size)
            have hsz := hB'.size
            clear hB5 hcP
            go_wp2_with (at_builtin; go_must (refine wpList_append_own _ rfl _ _ 29 rfl w3.heap.size 9 i0 (.string ByteArray.empty) 1 16 Try.underlying29 hi hz0 hz1 hz2 rfl (by decide) _ _ _ rfl (hown.alloc _) ⟨_, 0, none⟩ 1 1 [.string ⟨x.toArray⟩] rfl rfl ?c1 ?c2 ?c3 ?c4 ?c5 ?_))
            case c1 => exact cell_one_new _ _ _
            case c2 => simp [Value.oneCell']
            case c3 => unfold maxLen; omega
            case c4 => omega
            case c5 => simp; omega
            intro v' w6 hown' hgrow hnil
            have hown2 := own_snoc (x := .string ⟨x.toArray⟩) rfl hown'
            have hB6 := below_append hB' hsz hown hgrow
            clear hown' hgrow hown hnil
            go_wp2_with fail
            have hkg := HKG.out
            go_roundg (gk - 1)
            case rel => exact ⟨k + 1, A ++ [x], by go_num, by omega, by omega, by simp; omega, HST2, hown2, hB6⟩
            case measure => omega
        · have hke : k = n := by omega
          have HE : Hid (A = R) := Lib.hid (by
            have h := HW.out
            rw [List.drop_eq_nil_iff.2 (show fs.length ≤ k by have := HNN.out; omega)] at h
            simpa [namesL] using h)
          subst hke
          go_wp2_with fail
          go_ret
          refine ⟨_, rfl, ?_, HBW.out.trans (HB.out.mono HBW.out.size)⟩
          rw [← HE.out]
          exact own_mono hown HBW.out.size
  · have HN : Hid (R = []) := Lib.hid (by rw [← HR.out, namesS, if_neg (by rw [hC]; exact hc0)])
    have hb : (C != 0) = true := by rw [bne_iff_ne]; exact hc0
    clear hC hc0
    go_enter Try.func25, Try.ntmps25
    go_wp2_with fail
    refine (CC.out _).mono ?_
    rintro e w1 ⟨rfl, hB1⟩
    go_wp2_with fail
    go_ret
    exact ⟨_, rfl, by rw [HN.out]; exact World.ownsRow_nil _ _ _ _, hB1⟩
end Go.Proofs.Ythblaldkpjilhaa.dnames

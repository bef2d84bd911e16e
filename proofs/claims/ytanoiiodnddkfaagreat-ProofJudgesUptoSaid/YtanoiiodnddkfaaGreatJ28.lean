/- The reference's Judge: walk (gen_rjudge.py). -/
import Derived.Test.YtanoiiodnddkfaaGreatJ27
import Derived.Test.YtanoiiodnddkfaaGreatJ24
namespace Go.Proofs.YtanoiiodnddkfaaGreat.rjudge
open Go.RowKit Go.Proofs.YtanoiiodnddkfaaGreat.kit Go.Proofs.YtanoiiodnddkfaaGreat.nspec Go.Proofs.YtanoiiodnddkfaaGreat.refA Go.Proofs.YtanoiiodnddkfaaGreat.refB Go.Proofs.YtanoiiodnddkfaaGreat.rsplit Go.Proofs.YtanoiiodnddkfaaGreat.fld Go.Proofs.YtanoiiodnddkfaaGreat.timed Go.Proofs.YtanoiiodnddkfaaGreat.wireP Go.Proofs.YtanoiiodnddkfaaGreat.rows Go.Proofs.YtanoiiodnddkfaaGreat.gapP Go.Proofs.YtanoiiodnddkfaaGreat.bits Go.Proofs.YtanoiiodnddkfaaGreat.ints Go.Proofs.YtanoiiodnddkfaaGreat.gapA Go.Proofs.YtanoiiodnddkfaaGreat.gapB Go.Proofs.YtanoiiodnddkfaaGreat.gapC Go.Proofs.YtanoiiodnddkfaaGreat.gapN Go.Proofs.YtanoiiodnddkfaaGreat.gapR Go.Proofs.YtanoiiodnddkfaaGreat.gapS Go.Proofs.YtanoiiodnddkfaaGreat.useP Go.Proofs.YtanoiiodnddkfaaGreat.useM Go.Proofs.YtanoiiodnddkfaaGreat.judgeP Go.Proofs.YtanoiiodnddkfaaGreat.first Go.Proofs.YtanoiiodnddkfaaGreat.readN Go.Proofs.YtanoiiodnddkfaaGreat.gapM Go.Proofs.YtanoiiodnddkfaaGreat.clos Go.Proofs.YtanoiiodnddkfaaGreat.judgeH Go.Proofs.YtanoiiodnddkfaaGreat.judgeN Go.Proofs.YtanoiiodnddkfaaGreat.judgeT Go.Proofs.YtanoiiodnddkfaaGreat.gather Go.Proofs.YtanoiiodnddkfaaGreat.usable
set_option linter.unusedVariables false

theorem any_g {L : List Gr} {f : Gp → Bool} : (L.any fun r => f r.g) = (L.map Gr.g).any f := by rw [List.any_map]; rfl
theorem one_of_find {L : List Gp} {f : Gp → Bool} {k : Nat} {g : Gp} {R : Option Gp} (hk : L[k]? = some g) (h : (L.drop k).find? f = R) : (f g = true → R = some g) ∧ (f g = false → (L.drop (k + 1)).find? f = R) :=
  ⟨fun hf => find_yes hk hf h, fun hf => find_no hk hf h⟩
def endH (t : Int) : Option Gp → Int
  | some h => if lacksB h t = true then 2 else 0
  | none => 0
def endF (S : Bs) (J : Int) : Option Gp → Int
  | some h => if withinS h.nx.data.toList S = true then 2 else 1
  | none => J
theorem all_same {ap : Bs} {L : List Rc} {P : List Gr} (h : P.map Gr.g = if namesG ap L = [] then hashesG ap L else namesG ap L) : (namesG ap L = [] ∧ P.map Gr.g = hashesG ap L ∧ ∀ r ∈ P, r.g.hashed = true) ∨ (namesG ap L ≠ [] ∧ P.map Gr.g = namesG ap L ∧ ∀ r ∈ P, r.g.hashed = false) := by
  by_cases hn : namesG ap L = []
  · rw [if_pos hn] at h
    exact .inl ⟨hn, h, hashes_flag h⟩
  · rw [if_neg hn] at h
    exact .inr ⟨hn, h, names_flag h⟩
theorem useH_hs {ap : Bs} {x : Rc} {g : Gp} (h : useH ap x = some g) : HsOk g := by
  have ht := (useH_t h).1
  have hr : rgtB ap x = true := by
    cases hb : rgtB ap x with
    | true => rfl
    | false => rw [useH_bad hb] at h; cases h
  obtain ⟨hw, hck⟩ := rgt_owner hr
  rw [ht] at hck
  obtain ⟨a, b, c0, c1, sc, nc, s, n, k, l, hp⟩ := hs_parts hck
  rw [useH_at hr ht hp] at h
  split at h
  · rename_i hc
    split at h
    · split at h
      · cases h
        refine ⟨?_, ?_, hc.2.2.1⟩
        · show s.toArray.size ≤ 255
          rw [List.size_toArray, hp.salt]
          have := byte_lt sc; omega
        · simp only; omega
      · cases h
    · cases h
  · cases h
theorem take_hs : ∀ {acc : List Gp} {o : Option Gp}, (∀ g ∈ acc, HsOk g) → (∀ g, o = some g → HsOk g) → ∀ g ∈ takeH acc o, HsOk g := by
  intro acc o h1 h2 g hg
  unfold takeH at hg
  split at hg
  · exact h1 g hg
  · rename_i g'
    split at hg
    · rcases List.mem_singleton.1 hg with rfl
      exact h2 g rfl
    · split at hg
      · rcases List.mem_append.1 hg with hg | hg
        · exact h1 g hg
        · rcases List.mem_singleton.1 hg with rfl
          exact h2 g rfl
      · exact h1 g hg
theorem hashes_hs (ap : Bs) (L : List Rc) : ∀ g ∈ hashesG ap L, HsOk g := by
  unfold hashesG
  have : ∀ (L : List Rc) (acc : List Gp), (∀ g ∈ acc, HsOk g) → ∀ g ∈ L.foldl (fun acc x => takeH acc (useH ap x)) acc, HsOk g := by
    intro L
    induction L with
    | nil => intro acc h; exact h
    | cons x L ih =>
      intro acc h
      rw [List.foldl_cons]
      exact ih _ (take_hs h (fun g hg => useH_hs hg))
  exact this L [] (fun g hg => by cases hg)
theorem hs_of {ap : Bs} {L : List Rc} {P : List Gr} (h : P.map Gr.g = hashesG ap L) : ∀ r ∈ P, HsOk r.g := fun r hr => hashes_hs ap L _ (by rw [← h]; exact List.mem_map_of_mem hr)
attribute [local irreducible] wpList
set_option maxRecDepth 100000 in
set_option maxHeartbeats 8000000 in
theorem rjudge_any (ap : ByteArray) (a : Option Addr) (n c : Nat) (L : List Rc) (q : ByteArray) (t : Int) (w : World) (hap : ap.size ≤ 1048576) (hq : q.size ≤ 1048576) (hn : L.length = n) (hnl : n ≤ 1048576) (hr : RdC w a 5 (L.map Rc.cells)) (ho : ∀ x ∈ L, x.o.size ≤ 1048576 ∧ x.d.size ≤ maxLen) :
    Calls Tryz.prog 6 #[.string ap, .slice a n c, .string q, .int .i64 t] w fun e w' => e = .returned (.int .i64 (judgeI ap.data.toList L q.data.toList t)) ∧ Below w.heap.size w w' := by
  obtain ⟨R, HR⟩ : ∃ R, Hid (judgeI ap.data.toList L q.data.toList t = R) := ⟨_, Lib.hid rfl⟩
  rw [HR.out]
  have CW := Lib.hid (fun wx => refB.within_any q ap wx (by omega) (by omega))
  have CG := Lib.hid (fun (wx : World) (hB : Below w.heap.size w wx) => usable_any ap a n c L wx hap hn (by omega) (hr.below hB rfl) ho)
  obtain ⟨wi, hwi⟩ : ∃ b, withinS q.data.toList ap.data.toList = b := ⟨_, rfl⟩
  rw [hwi] at CW
  have HWI := Lib.hid hwi
  have HN := Lib.hid hn
  clear hwi hn hr ho
  go_enter Tryz.func6, Tryz.ntmps6
  go_wp2_with fail
  refine (CW.out w).mono ?_
  rintro e w2 ⟨rfl, hB2⟩
  have HB2 := Lib.hid hB2
  clear hB2
  cases wi with
  | false =>
    have HV : Hid (R = 0) := Lib.hid (by rw [← HR.out]; unfold judgeI; rw [if_pos (.inl HWI.out)])
    go_wp2_with fail
    go_ret
    exact ⟨by rw [HV.out]; rfl, HB2.out⟩
  | true =>
  by_cases h1 : t < 1
  · have HV : Hid (R = 0) := Lib.hid (by rw [← HR.out]; unfold judgeI; rw [if_pos (.inr (.inl h1))])
    have e1 : decide (t < 1) = true := decide_eq_true h1
    go_wp2_with fail
    go_ret
    exact ⟨by rw [HV.out]; rfl, HB2.out⟩
  have e1 : decide (t < 1) = false := decide_eq_false h1
  by_cases h2 : 65535 < t
  · have HV : Hid (R = 0) := Lib.hid (by rw [← HR.out]; unfold judgeI; rw [if_pos (.inr (.inr h2))])
    have e2 : decide (65535 < t) = true := decide_eq_true h2
    go_wp2_with fail
    go_ret
    exact ⟨by rw [HV.out]; rfl, HB2.out⟩
  have e2 : decide (65535 < t) = false := decide_eq_false h2
  have HRJ : Hid (R = if namesG ap.data.toList L = [] then judgeH ap.data.toList q.data.toList (hashesG ap.data.toList L) t else judgeN (namesG ap.data.toList L) q.data.toList t) := Lib.hid (by
    rw [← HR.out]; unfold judgeI; rw [if_neg]
    rintro (h | h | h)
    · rw [HWI.out] at h; cases h
    · exact h1 h
    · exact h2 h)
  obtain ⟨⟨ls, hls⟩, hc0, hc1⟩ := within_count HWI.out
  have HLS := Lib.hid hls
  clear hls
  go_wp2_with fail
  refine (CG.out w2 HB2.out).mono ?_
  rintro e w3 ⟨v, P, rfl, hown, hty, hP, hB3⟩
  have HB3 := Lib.hid (HB2.out.trans (hB3.mono HB2.out.size))
  have HFIN : Hid (∀ wz, Below w3.heap.size w3 wz → Below w.heap.size w wz) := Lib.hid (fun wz h => HB3.out.trans (h.mono HB3.out.size))
  obtain ⟨a1, c1, hv1, hpc, _, hg1⟩ := gaps_own (f := Gr.refL) (m := 11) (fun _ => rfl) hown hty
  subst hv1
  have HP := Lib.hid hP
  have hpl : P.length ≤ 1048576 := by
    have h9 := congrArg List.length hP
    rw [List.length_map] at h9
    have hN9 := HN.out
    split at h9
    · have := hashes_le ap.data.toList L; omega
    · unfold namesG at h9
      have := List.length_filterMap_le (useN ap.data.toList) L
      omega
  obtain ⟨p, hp⟩ : ∃ p, P.length = p := ⟨_, rfl⟩
  rw [hp] at hpl ⊢
  have HPL := Lib.hid hp
  have HG0 := Lib.hid hg1
  have HB0 : Hid (Below w3.heap.size w3 w3) := Lib.hid (Below.refl _ _)
  clear hown hty hP hB3 hpc hp hg1 CG CW
  by_cases hp0 : p = 0
  · have hPn : P = [] := List.eq_nil_of_length_eq_zero (by rw [HPL.out]; exact hp0)
    have HV : Hid (R = 0) := Lib.hid (by
      rcases all_same HP.out with ⟨h3, h4, _⟩ | ⟨h3, h4, _⟩
      · rw [HRJ.out, if_pos h3, ← h4, hPn]; exact judgeU_nil _ _ _ _ _
      · rw [hPn] at h4; exact absurd h4.symm h3)
    have e3 : ((p : Int) == 0) = true := by rw [hp0]; rfl
    clear hp0 hPn
    go_wp2_with fail
    go_ret
    exact ⟨by rw [HV.out]; rfl, HFIN.out _ HB0.out⟩
  have e3 : ((p : Int) == 0) = false := by rw [beq_eq_false_iff_ne]; omega
  have zp : (0 : Int) < (p : Int) := by omega
  obtain ⟨r0, hr0⟩ : ∃ r, P[0]? = some r := ⟨_, List.getElem?_eq_getElem (by have := HPL.out; omega)⟩
  obtain ⟨ga, oa, hae, _, hc9⟩ := HG0.out.at hr0
  subst hae
  have HG := HG0
  have q5 : w3.cell? ⟨ga, oa + 5, none⟩ = some (.bool r0.g.hashed) := by have := hc9 5 _ rfl; simpa using this
  have hr0m := List.mem_of_getElem? hr0
  clear hp0 hc9 hr0
  rcases all_same HP.out with ⟨h3, h4, h5⟩ | ⟨h3, h4, h5⟩
  · rw [h5 r0 hr0m] at q5
    have HJ : Hid (R = judgeH ap.data.toList q.data.toList (P.map Gr.g) t) := Lib.hid (by rw [HRJ.out, if_pos h3, h4])
    have HH := Lib.hid h5
    have HSO := Lib.hid (hs_of h4)
    clear h3 h4 h5 hr0m HRJ HR
    trace "H1"
    have hCb := countS_bd q.data.toList
    obtain ⟨C, hC⟩ : ∃ C, countS q.data.toList = C := ⟨_, rfl⟩
    obtain ⟨A, hA⟩ : ∃ A, countS ap.data.toList = A := ⟨_, rfl⟩
    have CC := Lib.hid (fun wx => refA.count_any q wx (by omega))
    have CA := Lib.hid (fun wx => refA.count_any ap wx (by omega))
    rw [hC] at CC hCb hc1
    rw [hA] at CA hc0 hc1
    have HC := Lib.hid hC; have HA := Lib.hid hA
    have HU0 : Hid (judgeU ap.data.toList q.data.toList (P.map Gr.g) t (C + 2).toNat C = R) := Lib.hid (by rw [HJ.out, ← hC]; rfl)
    obtain ⟨N0, hN0⟩ : ∃ N0 : Nat, (C + 3).toNat = N0 := ⟨_, rfl⟩
    have hN1 : (N0 : Int) = C + 3 := by omega
    clear hC hA hN0 HJ
    go_wp2_with fail
    refine (CC.out w3).mono ?_
    rintro e w4 ⟨rfl, hB⟩
    have HBw4 := Lib.hid hB
    clear hB q5
    go_wp2_with fail
    go_loopg [15] N0 (fun gas kv wr => ∃ (k : Int) (f : Nat), kv = .int .i64 k ∧ k ≤ C ∧ A - 1 ≤ k ∧ (f : Int) = k + 2 ∧ gas = f + 1 ∧ Hid (judgeU ap.data.toList q.data.toList (P.map Gr.g) t f k = R) ∧ Hid (Below w3.heap.size w3 wr))
    case atStart => exact ⟨C, (C + 2).toNat, rfl, by omega, by omega, by omega, by omega, HU0, HBw4⟩
    case round =>
      obtain ⟨k, f, rfl, hk, hkA, hf, hgas, HU, HBwr⟩ := hrel
      obtain ⟨f', rfl⟩ : ∃ f', f = f' + 1 := ⟨f - 1, by omega⟩
      have HF := Lib.hid hf; have HGAS := Lib.hid hgas
      clear hf hgas
      go_wp2_with fail
      refine (CA.out wr).mono ?_
      rintro e w5 ⟨rfl, hB⟩
      have HBw5 := Lib.hid (HBwr.out.trans (hB.mono HBwr.out.size))
      clear hB
      by_cases hka : k < A
      · have e5 : decide (A ≤ k) = false := decide_eq_false (by omega)
        have HV : Hid (R = 0) := Lib.hid (judgeU_end HU.out (by rw [HA.out]; exact hka))
        go_wp2_with fail
        go_ret
        exact ⟨by rw [HV.out]; rfl, HFIN.out _ HBw5.out⟩
      · have e5 : decide (A ≤ k) = true := decide_eq_true (by omega)
        have HKA : Hid (A ≤ k) := Lib.hid (by omega)
        have CT := Lib.hid (fun wx => refA.tail_any q k wx (by omega))
        obtain ⟨E, hE⟩ : ∃ B : ByteArray, (⟨(tailS q.data.toList k).toArray⟩ : ByteArray) = B := ⟨_, rfl⟩
        rw [hE] at CT
        have hEs : E.size ≤ 255 := by rw [← hE, kit.mk_size]; exact tailS_len q.data.toList k
        have HE : Hid (E.data.toList = tailS q.data.toList k) := Lib.hid (by rw [← hE])
        obtain ⟨D, hD⟩ : ∃ D, (P.map Gr.g).find? (fun g => matchB g E.data.toList) = D := ⟨_, rfl⟩
        have HD0 : Hid (((P.map Gr.g).drop 0).find? (fun g => matchB g E.data.toList) = D) := Lib.hid hD
        have HDE : Hid ((P.map Gr.g).find? (fun g => matchB g (tailS q.data.toList k)) = D) := Lib.hid (by rw [← HE.out]; exact hD)
        clear hE hka hD
        trace "H2"
        go_wp2_with fail
        refine (CT.out w5).mono ?_
        rintro e w6 ⟨rfl, hB⟩
        have HBw6 := Lib.hid (HBw5.out.trans (hB.mono HBw5.out.size))
        clear hB
        go_wp2_with fail
        obtain ⟨gkO, hgkO⟩ : ∃ g, g = gk := ⟨_, rfl⟩
        rw [← hgkO] at HGAS
        go_loopg [114] (p + 1) (fun gas kv wr => ∃ (j : Nat), kv = .int .i64 j ∧ j ≤ p ∧ j + gas = p + 1 ∧ Hid (((P.map Gr.g).drop j).find? (fun g => matchB g E.data.toList) = D) ∧ Hid (Below w3.heap.size w3 wr))
        case atStart => exact ⟨0, rfl, by omega, by omega, HD0, HBw6⟩
        case round =>
          obtain ⟨j, rfl, hj, hjg, HDJ, HBwj⟩ := hrel
          have HJG := Lib.hid hjg; clear hjg
          by_cases hjl : j < p
          · skip
            obtain ⟨r, hry⟩ : ∃ r, P[j]? = some r := ⟨_, List.getElem?_eq_getElem (by have := HPL.out; omega)⟩
            have hrm := List.mem_of_getElem? hry
            obtain ⟨g0, of, hae, hg, hcy⟩ := (HG.out.below HBwj.out).at hry
            simp only [Option.some.injEq, Addr.mk.injEq, and_true] at hae
            obtain ⟨rfl, rfl⟩ := hae
            have y0 : wr.cell? ⟨ga, oa + j * 11, none⟩ = some (.string r.g.x.o) := hcy 0 _ rfl
            have y1 : wr.cell? ⟨ga, oa + j * 11 + 1, none⟩ = some (.int .i64 r.g.x.t) := hcy 1 _ rfl
            have y2 : wr.cell? ⟨ga, oa + j * 11 + 2, none⟩ = some (.int .i64 r.g.x.c) := hcy 2 _ rfl
            have y3 : wr.cell? ⟨ga, oa + j * 11 + 3, none⟩ = some (.int .i64 r.g.x.l) := hcy 3 _ rfl
            have y4 : wr.cell? ⟨ga, oa + j * 11 + 4, none⟩ = some (.string r.g.x.d) := hcy 4 _ rfl
            have y5 : wr.cell? ⟨ga, oa + j * 11 + 5, none⟩ = some (.bool r.g.hashed) := hcy 5 _ rfl
            have y6 : wr.cell? ⟨ga, oa + j * 11 + 6, none⟩ = some (.string r.g.nx) := hcy 6 _ rfl
            have y7 : wr.cell? ⟨ga, oa + j * 11 + 7, none⟩ = some (.string r.g.own) := hcy 7 _ rfl
            have y8 : wr.cell? ⟨ga, oa + j * 11 + 8, none⟩ = some (.string r.g.salt) := hcy 8 _ rfl
            have y9 : wr.cell? ⟨ga, oa + j * 11 + 9, none⟩ = some (.int .i64 r.g.rounds) := hcy 9 _ rfl
            have y10 : wr.cell? ⟨ga, oa + j * 11 + 10, none⟩ = some (.slice r.a r.n r.c) := hcy 10 _ rfl
            have zkj : (0 : Int) ≤ (j : Int) := by omega
            have zlj : (j : Int) < (p : Int) := by omega
            have HTr := Lib.hid ((HG.out.below HBwj.out).ty r hrm)
            have HYr := Lib.hid (map_at hry)
            have HMr := Lib.hid hrm
            have hB7 := (Below.refl wr.heap.size wr).alloc (Nat.le_refl _) (.cells (gapC r.g r.v) 45)
            have hx7 : AtG (wr.alloc (.cells (gapC r.g r.v) 45)) wr.heap.size r := heap_alloc_new _ _
            obtain ⟨Z, hZ⟩ : ∃ X, wr.heap.size = X := ⟨_, rfl⟩
            obtain ⟨v7, hv7⟩ : ∃ W, wr.alloc (.cells (gapC r.g r.v) 45) = W := ⟨_, rfl⟩
            have HBv7 := Lib.hid (HBwj.out.trans (hB7.mono HBwj.out.size))
            rw [hv7] at hx7 HBv7
            rw [hZ] at hx7
            have HWv7 : Hid (wr.alloc (.cells #[.string r.g.x.o, .int .i64 r.g.x.t, .int .i64 r.g.x.c, .int .i64 r.g.x.l, .string r.g.x.d, .bool r.g.hashed, .string r.g.nx, .string r.g.own, .string r.g.salt, .int .i64 r.g.rounds, .slice r.a r.n r.c] 45) = v7) := Lib.hid hv7
            have HZZ := Lib.hid hZ; have HAv7 := Lib.hid hx7
            clear hg hcy hB7 hZ hv7 hry hrm
            go_upto_region 37 with fail
            try rw [HWv7.out]
            try rw [HZZ.out]
            clear y0 y1 y2 y3 y4 y5 y6 y7 y8 y9 y10
            have CM := Lib.hid (fun (wx : World) => matches_any r.g r.a r.n r.c E wx HTr.out.ok (by omega))
            obtain ⟨bm, hbm⟩ : ∃ b, matchB r.g E.data.toList = b := ⟨_, rfl⟩
            rw [hbm] at CM
            go_wp2_with (refine wpList_load_row rfl 45 _ rfl Z rfl 45 _ _ _ hx7 Tryz.underlying45 rfl (by rw [infoG]; rfl) ?_)
            refine (CM.out v7).mono ?_
            rintro e v8 ⟨rfl, hB⟩
            have HBm1 := Lib.hid hB
            have HBv8 := Lib.hid (HBv7.out.trans (hB.mono HBv7.out.size))
            have HA8 := Lib.hid (HAv7.out.below hB)
            clear hB
            have hx8 := HA8.out
            clear hx7
            obtain ⟨f1, f2⟩ := one_of_find HYr.out HDJ.out
            cases bm with
            | false =>
              have HDN := Lib.hid (f2 hbm)
              clear f1 f2 hbm
              go_wp2_with fail
              have hjg := HJG.out
              go_roundg (gk - 1)
              case rel => exact ⟨j + 1, by go_num, by omega, by omega, HDN, HBv8⟩
              case measure => omega
            | true =>
            have HDY := Lib.hid (f1 hbm)
            clear f1 f2 hbm
            have HV := Lib.hid (judgeU_at HU.out (by rw [HA.out]; have := HKA.out; omega) (HDE.out.trans HDY.out))
            have CL := Lib.hid (fun (wx : World) (hB : Below wr.heap.size wr wx) => lacks_any r.g r.a r.n r.c t wx HTr.out.len HTr.out.le (HTr.out.below hB).rd)
            have CY := Lib.hid (fun (wx : World) (hB : Below wr.heap.size wr wx) => away_any r.g r.a r.n r.c wx HTr.out.len HTr.out.le (HTr.out.below hB).rd)
            obtain ⟨lk, hlk⟩ : ∃ b, lacksB r.g t = b := ⟨_, rfl⟩
            obtain ⟨aw, haw⟩ : ∃ b, awayB r.g = b := ⟨_, rfl⟩
            rw [hlk] at CL HV
            rw [haw] at CY HV
            rw [HC.out] at HV
            clear hlk haw
            have HB78 : Hid (Below wr.heap.size wr v8) := Lib.hid (by
              have h1 : Below wr.heap.size wr v7 := by rw [← HWv7.out]; exact (Below.refl _ _).alloc (Nat.le_refl _) _
              exact h1.trans (HBm1.out.mono h1.size))
            trace "H3"
            go_wp2_with fail
            refine (CC.out v8).mono ?_
            rintro e v9 ⟨rfl, hB⟩
            have HB79 := Lib.hid (HB78.out.trans (hB.mono HB78.out.size))
            have HBv9 := Lib.hid (HBv8.out.trans (hB.mono HBv8.out.size))
            have HA9 := Lib.hid (HA8.out.below hB)
            clear hB
            have hx9 := HA9.out
            clear hx8
            by_cases hkc : k = C
            · have HV2 : Hid (R = if lk = true then 2 else 0) := Lib.hid (by rw [HV.out, if_pos hkc])
              have e6 : (k == C) = true := by rw [beq_iff_eq]; exact hkc
              clear hkc
              go_wp2_with (refine wpList_load_row rfl 45 _ rfl Z rfl 45 _ _ _ hx9 Tryz.underlying45 rfl (by rw [infoG]; rfl) ?_)
              refine (CL.out v9 HB79.out).mono ?_
              rintro e vA ⟨rfl, hB⟩
              have HBvA := Lib.hid (HBv9.out.trans (hB.mono HBv9.out.size))
              clear hB
              cases lk with
              | true =>
                go_wp2_with fail
                go_ret
                exact ⟨by rw [HV2.out]; rfl, HFIN.out _ HBvA.out⟩
              | false =>
                go_wp2_with fail
                go_ret
                exact ⟨by rw [HV2.out]; rfl, HFIN.out _ HBvA.out⟩
            · have e6 : (k == C) = false := by rw [beq_eq_false_iff_ne]; exact hkc
              have HV2 : Hid (R = if aw = true then 0 else belowI (P.map Gr.g) q.data.toList (tailS q.data.toList k) k t) := Lib.hid (by rw [HV.out, if_neg hkc])
              obtain ⟨kn, hkn⟩ : ∃ j : Nat, k = (j : Int) := ⟨k.toNat, by have := HKA.out; omega⟩
              have hcl : (ls.length : Int) = C := by rw [← HC.out]; exact (countS_yes HLS.out).symm
              have HKN : Hid (kn < ls.length) := Lib.hid (by omega)
              have HKE := Lib.hid hkn
              clear hkc hkn hcl
              trace "H4"
              go_wp2_with (refine wpList_load_row rfl 45 _ rfl Z rfl 45 _ _ _ hx9 Tryz.underlying45 rfl (by rw [infoG]; rfl) ?_)
              refine (CY.out v9 HB79.out).mono ?_
              rintro e vA ⟨rfl, hB⟩
              have HBvA := Lib.hid (HBv9.out.trans (hB.mono HBv9.out.size))
              clear hB
              clear hx9
              cases aw with
              | true =>
                have HV3 : Hid (R = 0) := Lib.hid (by rw [HV2.out, if_pos rfl])
                go_wp2_with fail
                go_ret
                exact ⟨by rw [HV3.out]; rfl, HFIN.out _ HBvA.out⟩
              | false =>
              have HV3 : Hid (R = belowI (P.map Gr.g) q.data.toList (tailS q.data.toList k) k t) := Lib.hid (by rw [HV2.out, if_neg (by simp)])
              have CT2 := Lib.hid (fun wx => refA.tail_any q (k + 1) wx (by omega))
              obtain ⟨T1, hT1⟩ : ∃ B : ByteArray, (⟨(tailS q.data.toList (k + 1)).toArray⟩ : ByteArray) = B := ⟨_, rfl⟩
              rw [hT1] at CT2
              have hT1s : T1.size ≤ 1048576 := by rw [← hT1, kit.mk_size]; have := tailS_len q.data.toList (k + 1); omega
              have HT1 : Hid (T1.data.toList = tailS q.data.toList (k + 1)) := Lib.hid (by rw [← hT1])
              have CS := Lib.hid (fun wx => star.star_any E wx (by omega))
              obtain ⟨SS, hSS⟩ : ∃ B : ByteArray, (⟨(star.starS E.data.toList).toArray⟩ : ByteArray) = B := ⟨_, rfl⟩
              rw [hSS] at CS
              have hSs : SS.size ≤ 1048576 := by rw [← hSS, kit.mk_size]; have := star_le E.data.toList; omega
              have HS : Hid (SS.data.toList = star.starS E.data.toList) := Lib.hid (by rw [← hSS])
              have HRE : Hid (R = if spannedB (P.map Gr.g) T1.data.toList = false then 0 else if spannedB (P.map Gr.g) SS.data.toList = true then 1 else endH t ((P.map Gr.g).find? (fun h => matchB h SS.data.toList))) := Lib.hid (by rw [HV3.out, HT1.out, HS.out, HE.out]; rfl)
              have HN1 : Hid (∃ l, IsN T1.data.toList l) := Lib.hid (by
                rw [HT1.out, HKE.out]
                have h9 := HKN.out
                exact ⟨_, by have := nameC.tail_isN HLS.out (kn + 1) (by omega); rw [Int.natCast_add] at this; exact this⟩)
              have HN2 : Hid (∃ l, IsN SS.data.toList l) := Lib.hid (by
                rw [HS.out, HE.out, HKE.out]
                exact star_name HLS.out HKN.out)
              clear hT1 hSS
              trace "H5"
              go_wp2_with fail
              refine (CT2.out vA).mono ?_
              rintro e vB ⟨rfl, hB⟩
              have HBvB := Lib.hid (HBvA.out.trans (hB.mono HBvA.out.size))
              clear hB
              go_wp2_with fail
              refine (spanned_any (some ⟨ga, oa, none⟩) p c1 P T1 vB HPL.out hpl (HG.out.below HBvB.out) hT1s (fun r hr _ => by obtain ⟨l, hl⟩ := HN1.out; exact hash_ok (HSO.out r hr) hl)).mono ?_
              rintro e vC ⟨rfl, hB⟩
              have HBvC := Lib.hid (HBvB.out.trans (hB.mono HBvB.out.size))
              clear hB
              rw [any_g (f := fun g => spanB g T1.data.toList)]
              obtain ⟨sp, hsp⟩ : ∃ b, (P.map Gr.g).any (fun g => spanB g T1.data.toList) = b := ⟨_, rfl⟩
              have hsp2 : spannedB (P.map Gr.g) T1.data.toList = sp := hsp
              rw [hsp]
              have HSP := Lib.hid hsp2
              clear hsp hsp2
              cases sp with
              | false =>
                have HV4 : Hid (R = 0) := Lib.hid (by rw [HRE.out, if_pos HSP.out])
                go_wp2_with fail
                go_ret
                exact ⟨by rw [HV4.out]; rfl, HFIN.out _ HBvC.out⟩
              | true =>
              trace "H6"
              go_wp2_with fail
              refine (CS.out vC).mono ?_
              rintro e vD ⟨rfl, hB⟩
              have HBvD := Lib.hid (HBvC.out.trans (hB.mono HBvC.out.size))
              clear hB
              go_wp2_with fail
              refine (spanned_any (some ⟨ga, oa, none⟩) p c1 P SS vD HPL.out hpl (HG.out.below HBvD.out) hSs (fun r hr _ => by obtain ⟨l, hl⟩ := HN2.out; exact hash_ok (HSO.out r hr) hl)).mono ?_
              rintro e vE ⟨rfl, hB⟩
              have HBvE := Lib.hid (HBvD.out.trans (hB.mono HBvD.out.size))
              clear hB
              rw [any_g (f := fun g => spanB g SS.data.toList)]
              obtain ⟨sq, hsq⟩ : ∃ b, (P.map Gr.g).any (fun g => spanB g SS.data.toList) = b := ⟨_, rfl⟩
              have hsq2 : spannedB (P.map Gr.g) SS.data.toList = sq := hsq
              rw [hsq]
              have HSQ := Lib.hid hsq2
              clear hsq hsq2
              cases sq with
              | true =>
                have HV4 : Hid (R = 1) := Lib.hid (by rw [HRE.out, if_neg (by rw [HSP.out]; simp), if_pos HSQ.out])
                go_wp2_with fail
                go_ret
                exact ⟨by rw [HV4.out]; rfl, HFIN.out _ HBvE.out⟩
              | false =>
              obtain ⟨D2, HD2⟩ : ∃ D, Hid ((P.map Gr.g).find? (fun h => matchB h SS.data.toList) = D) := ⟨_, Lib.hid rfl⟩
              have HV4 : Hid (R = endH t D2) := Lib.hid (by rw [HRE.out, if_neg (by rw [HSP.out]; simp), if_neg (by rw [HSQ.out]; simp), HD2.out])
              have HD20 : Hid (((P.map Gr.g).drop 0).find? (fun h => matchB h SS.data.toList) = D2) := Lib.hid HD2.out
              trace "H7"
              go_wp2_with fail
              go_loopg [146] (p + 1) (fun gas kv wr => ∃ (i : Nat), kv = .int .i64 i ∧ i ≤ p ∧ i + gas = p + 1 ∧ Hid (((P.map Gr.g).drop i).find? (fun h => matchB h SS.data.toList) = D2) ∧ Hid (Below w3.heap.size w3 wr))
              case atStart => exact ⟨0, rfl, by omega, by omega, HD20, HBvE⟩
              case round =>
                obtain ⟨i, rfl, hi, hig, HDI, HBwi⟩ := hrel
                have HIG := Lib.hid hig; clear hig
                by_cases hil : i < p
                · skip
                  obtain ⟨h, hhy⟩ : ∃ r, P[i]? = some r := ⟨_, List.getElem?_eq_getElem (by have := HPL.out; omega)⟩
                  have hhm := List.mem_of_getElem? hhy
                  obtain ⟨g0, of, hae, hg, hcy⟩ := (HG.out.below HBwi.out).at hhy
                  simp only [Option.some.injEq, Addr.mk.injEq, and_true] at hae
                  obtain ⟨rfl, rfl⟩ := hae
                  have y0 : wr.cell? ⟨ga, oa + i * 11, none⟩ = some (.string h.g.x.o) := hcy 0 _ rfl
                  have y1 : wr.cell? ⟨ga, oa + i * 11 + 1, none⟩ = some (.int .i64 h.g.x.t) := hcy 1 _ rfl
                  have y2 : wr.cell? ⟨ga, oa + i * 11 + 2, none⟩ = some (.int .i64 h.g.x.c) := hcy 2 _ rfl
                  have y3 : wr.cell? ⟨ga, oa + i * 11 + 3, none⟩ = some (.int .i64 h.g.x.l) := hcy 3 _ rfl
                  have y4 : wr.cell? ⟨ga, oa + i * 11 + 4, none⟩ = some (.string h.g.x.d) := hcy 4 _ rfl
                  have y5 : wr.cell? ⟨ga, oa + i * 11 + 5, none⟩ = some (.bool h.g.hashed) := hcy 5 _ rfl
                  have y6 : wr.cell? ⟨ga, oa + i * 11 + 6, none⟩ = some (.string h.g.nx) := hcy 6 _ rfl
                  have y7 : wr.cell? ⟨ga, oa + i * 11 + 7, none⟩ = some (.string h.g.own) := hcy 7 _ rfl
                  have y8 : wr.cell? ⟨ga, oa + i * 11 + 8, none⟩ = some (.string h.g.salt) := hcy 8 _ rfl
                  have y9 : wr.cell? ⟨ga, oa + i * 11 + 9, none⟩ = some (.int .i64 h.g.rounds) := hcy 9 _ rfl
                  have y10 : wr.cell? ⟨ga, oa + i * 11 + 10, none⟩ = some (.slice h.a h.n h.c) := hcy 10 _ rfl
                  have zki : (0 : Int) ≤ (i : Int) := by omega
                  have zli : (i : Int) < (p : Int) := by omega
                  have HTh := Lib.hid ((HG.out.below HBwi.out).ty h hhm)
                  have HYh := Lib.hid (map_at hhy)
                  have HMh := Lib.hid hhm
                  have hB7 := (Below.refl wr.heap.size wr).alloc (Nat.le_refl _) (.cells (gapC h.g h.v) 45)
                  have hx7 : AtG (wr.alloc (.cells (gapC h.g h.v) 45)) wr.heap.size h := heap_alloc_new _ _
                  obtain ⟨Z2, hZ2⟩ : ∃ X, wr.heap.size = X := ⟨_, rfl⟩
                  obtain ⟨u7, hu7⟩ : ∃ W, wr.alloc (.cells (gapC h.g h.v) 45) = W := ⟨_, rfl⟩
                  have HBu7 := Lib.hid (HBwi.out.trans (hB7.mono HBwi.out.size))
                  rw [hu7] at hx7 HBu7
                  rw [hZ2] at hx7
                  have HWu7 : Hid (wr.alloc (.cells #[.string h.g.x.o, .int .i64 h.g.x.t, .int .i64 h.g.x.c, .int .i64 h.g.x.l, .string h.g.x.d, .bool h.g.hashed, .string h.g.nx, .string h.g.own, .string h.g.salt, .int .i64 h.g.rounds, .slice h.a h.n h.c] 45) = u7) := Lib.hid hu7
                  have HZZ2 := Lib.hid hZ2; have HAu7 := Lib.hid hx7
                  clear hg hcy hB7 hZ2 hu7 hhy hhm
                  go_upto_region 49 with fail
                  try rw [HWu7.out]
                  try rw [HZZ2.out]
                  clear y0 y1 y2 y3 y4 y5 y6 y7 y8 y9 y10
                  trace "H8"
                  have CMh := Lib.hid (fun (wx : World) => matches_any h.g h.a h.n h.c SS wx HTh.out.ok hSs)
                  obtain ⟨dm, hdm⟩ : ∃ b, matchB h.g SS.data.toList = b := ⟨_, rfl⟩
                  rw [hdm] at CMh
                  have HBq7 : Hid (Below wr.heap.size wr u7) := Lib.hid (by rw [← HWu7.out]; exact (Below.refl _ _).alloc (Nat.le_refl _) _)
                  refine heldG.regionG (fun w' => AtG w' Z2 h ∧ Below wr.heap.size wr w' ∧ Below w3.heap.size w3 w') (fun _ => false) (by kernel_rfl) ?_
                  have hS0 : AtG u7.drew Z2 h ∧ Below wr.heap.size wr u7.drew ∧ Below w3.heap.size w3 u7.drew := ⟨hx7, HBq7.out.drew, HBu7.out.drew⟩
                  refine takeD (i := 0) (d := 150) (v := .agg #[.string h.g.x.o, .int .i64 h.g.x.t, .int .i64 h.g.x.c, .int .i64 h.g.x.l, .string h.g.x.d, .bool h.g.hashed, .string h.g.nx, .string h.g.own, .string h.g.salt, .int .i64 h.g.rounds, .slice h.a h.n h.c]) rfl rfl (by kernel_rfl) (by kernel_rfl) (by kernel_rfl) (fun _ _ _ h => h) (by kernel_rfl) rfl (Or.inl ⟨by kernel_rfl, ?_⟩) hS0 ?_
                  · intro wz hSw
                    obtain ⟨s0, s1, s2, s3, s4, s5, s6, s7, s8, s9, s10⟩ := cells11 (g := h.g) (a := h.a) (n := h.n) (c := h.c) hSw.1
                    go_simp
                  try simp only [Act.put, List.setIfInBounds_toArray, List.set_cons_zero, List.set_cons_succ]
                  refine takeD (i := 1) (d := 151) (v := .string E) rfl rfl (by kernel_rfl) (by kernel_rfl) (by kernel_rfl) (fun _ _ _ h => h) (by kernel_rfl) rfl (Or.inl ⟨by kernel_rfl, ?_⟩) hS0 ?_
                  · intro wz hSw
                    obtain ⟨s0, s1, s2, s3, s4, s5, s6, s7, s8, s9, s10⟩ := cells11 (g := h.g) (a := h.a) (n := h.n) (c := h.c) hSw.1
                    go_simp
                  try simp only [Act.put, List.setIfInBounds_toArray, List.set_cons_zero, List.set_cons_succ]
                  refine heldG.readyG (rs := [2]) (by kernel_rfl) (by simp) ?_
                  refine heldG.AllG.cons rfl (fun KK hKK => ?_) heldG.AllG.nil
                  go_simp
                  refine (CS.out _).mono ?_
                  rintro en whS1 ⟨rfl, hBz⟩
                  have hS1 : AtG whS1 Z2 h ∧ Below wr.heap.size wr whS1 ∧ Below w3.heap.size w3 whS1 := ⟨hS0.1.below hBz, hS0.2.1.trans (hBz.mono hS0.2.1.size), hS0.2.2.trans (hBz.mono hS0.2.2.size)⟩
                  dsimp only
                  refine hKK.out _ _ (fun _ => hS1) ?_; clear hKK KK hBz
                  try simp only [Act.put, List.setIfInBounds_toArray, List.set_cons_zero, List.set_cons_succ]
                  refine heldG.readyG (rs := [3]) (by kernel_rfl) (by simp) ?_
                  refine heldG.AllG.cons rfl (fun KK hKK => ?_) heldG.AllG.nil
                  go_simp
                  refine (CMh.out _).mono ?_
                  rintro en whS2 ⟨rfl, hBz⟩
                  have hS2 : AtG whS2 Z2 h ∧ Below wr.heap.size wr whS2 ∧ Below w3.heap.size w3 whS2 := ⟨hS1.1.below hBz, hS1.2.1.trans (hBz.mono hS1.2.1.size), hS1.2.2.trans (hBz.mono hS1.2.2.size)⟩
                  dsimp only
                  refine hKK.out _ _ (fun _ => hS2) ?_; clear hKK KK hBz
                  try simp only [Act.put, List.setIfInBounds_toArray, List.set_cons_zero, List.set_cons_succ]
                  refine heldG.doneG (by kernel_rfl) ?_ _
                  have HAy := Lib.hid hS2.1
                  have HBy := Lib.hid hS2.2.2
                  have HBqy := Lib.hid hS2.2.1
                  have hxy := HAy.out
                  clear hS0 hS1 hS2 hx7
                  obtain ⟨f1, f2⟩ := one_of_find HYh.out HDI.out
                  cases dm with
                  | false =>
                    have HDN := Lib.hid (f2 hdm)
                    clear f1 f2 hdm
                    go_wp2_with fail
                    have hig := HIG.out
                    go_roundg (gk - 1)
                    case rel => exact ⟨i + 1, by go_num, by omega, by omega, HDN, HBy⟩
                    case measure => omega
                  | true =>
                  have HDZ := Lib.hid (f1 hdm)
                  clear f1 f2 hdm
                  have CLh := Lib.hid (fun (wx : World) (hB : Below wr.heap.size wr wx) => lacks_any h.g h.a h.n h.c t wx HTh.out.len HTh.out.le (HTh.out.below hB).rd)
                  obtain ⟨ll, hll⟩ : ∃ b, lacksB h.g t = b := ⟨_, rfl⟩
                  rw [hll] at CLh
                  have HRV : Hid (R = if ll = true then 2 else 0) := Lib.hid (by rw [HV4.out, HDZ.out, ← hll]; rfl)
                  clear hll
                  trace "H9"
                  go_wp2_with (refine wpList_load_row rfl 45 _ rfl Z2 rfl 45 _ _ _ hxy Tryz.underlying45 rfl (by rw [infoG]; rfl) ?_)
                  refine (CLh.out _ HBqy.out).mono ?_
                  rintro e uA ⟨rfl, hB⟩
                  have HBuA := Lib.hid (HBy.out.trans (hB.mono HBy.out.size))
                  clear hB
                  cases ll with
                  | true =>
                    go_wp2_with fail
                    go_ret
                    exact ⟨by rw [HRV.out]; rfl, HFIN.out _ HBuA.out⟩
                  | false =>
                    go_wp2_with fail
                    go_ret
                    exact ⟨by rw [HRV.out]; rfl, HFIN.out _ HBuA.out⟩
                · have hil2 : ¬ (i : Int) < (p : Int) := by omega
                  have HD3 : Hid (D2 = none) := Lib.hid (by rw [← HDI.out, List.drop_eq_nil_of_le (by rw [List.length_map]; have := HPL.out; omega)]; rfl)
                  have HV5 : Hid (R = 0) := Lib.hid (by rw [HV4.out, HD3.out]; rfl)
                  go_wp2_with fail
                  go_ret
                  exact ⟨by rw [HV5.out]; rfl, HFIN.out _ HBwi.out⟩
          · have hjl2 : ¬ (j : Int) < (p : Int) := by omega
            have HDN : Hid (D = none) := Lib.hid (by rw [← HDJ.out, List.drop_eq_nil_of_le (by rw [List.length_map]; have := HPL.out; omega)]; rfl)
            have HT := Lib.hid (judgeU_go HU.out (by rw [HA.out]; have := HKA.out; omega) (HDE.out.trans HDN.out))
            go_wp2_with fail
            have hf := HF.out; have hgas := HGAS.out; have hka := HKA.out
            go_roundg (gkO - 1)
            case rel => exact ⟨k - 1, f', by go_num, by omega, by omega, by omega, by omega, HT, HBwj⟩
            case measure => omega
  · rw [h5 r0 hr0m] at q5
    have HJ : Hid (R = judgeN (P.map Gr.g) q.data.toList t) := Lib.hid (by rw [HRJ.out, if_neg h3, h4])
    have HH := Lib.hid h5
    clear h3 h4 h5 hr0m HRJ HR
    trace "N1"
    go_wp2_with fail
    have HBw3 := HB0
    refine (shown_any (some ⟨ga, oa, none⟩) p c1 P q t w3 HPL.out hpl HG.out hq).mono ?_
    rintro e w4 ⟨rfl, hB⟩
    have HBw4 := Lib.hid (HBw3.out.trans (hB.mono HBw3.out.size))
    clear hB q5
    rw [any_g (f := fun g => matchB g q.data.toList && lacksB g t)]
    obtain ⟨sh, hsh⟩ : ∃ b, (P.map Gr.g).any (fun g => matchB g q.data.toList && lacksB g t) = b := ⟨_, rfl⟩
    have hsh2 : shownB (P.map Gr.g) q.data.toList t = sh := hsh
    rw [hsh]
    have HSH := Lib.hid hsh2
    clear hsh hsh2
    cases sh with
    | true =>
      have HV : Hid (R = 2) := Lib.hid (by rw [HJ.out]; unfold judgeN; rw [if_pos HSH.out])
      go_wp2_with fail
      go_ret
      exact ⟨by rw [HV.out]; rfl, HFIN.out _ HBw4.out⟩
    | false =>
    have HF0 : Hid (judgeF (P.map Gr.g) q.data.toList t ((P.map Gr.g).drop 0) = R) := Lib.hid (by rw [HJ.out]; unfold judgeN; rw [if_neg (by rw [HSH.out]; simp)]; rfl)
    trace "N2"
    go_wp2_with fail
    go_loopg [50] (p + 1) (fun gas kv wr => ∃ (k : Nat), kv = .int .i64 k ∧ k ≤ p ∧ k + gas = p + 1 ∧ Hid (judgeF (P.map Gr.g) q.data.toList t ((P.map Gr.g).drop k) = R) ∧ Hid (Below w3.heap.size w3 wr))
    case atStart => exact ⟨0, rfl, by omega, by omega, HF0, HBw4⟩
    case round =>
      obtain ⟨k, rfl, hk, hkg, HW2, HBwr⟩ := hrel
      have HKG := Lib.hid hkg; clear hkg
      by_cases hlt : k < p
      · skip
        obtain ⟨r, hry⟩ : ∃ r, P[k]? = some r := ⟨_, List.getElem?_eq_getElem (by have := HPL.out; omega)⟩
        have hrm := List.mem_of_getElem? hry
        obtain ⟨g0, of, hae, hg, hcy⟩ := (HG.out.below HBwr.out).at hry
        simp only [Option.some.injEq, Addr.mk.injEq, and_true] at hae
        obtain ⟨rfl, rfl⟩ := hae
        have y0 : wr.cell? ⟨ga, oa + k * 11, none⟩ = some (.string r.g.x.o) := hcy 0 _ rfl
        have y1 : wr.cell? ⟨ga, oa + k * 11 + 1, none⟩ = some (.int .i64 r.g.x.t) := hcy 1 _ rfl
        have y2 : wr.cell? ⟨ga, oa + k * 11 + 2, none⟩ = some (.int .i64 r.g.x.c) := hcy 2 _ rfl
        have y3 : wr.cell? ⟨ga, oa + k * 11 + 3, none⟩ = some (.int .i64 r.g.x.l) := hcy 3 _ rfl
        have y4 : wr.cell? ⟨ga, oa + k * 11 + 4, none⟩ = some (.string r.g.x.d) := hcy 4 _ rfl
        have y5 : wr.cell? ⟨ga, oa + k * 11 + 5, none⟩ = some (.bool r.g.hashed) := hcy 5 _ rfl
        have y6 : wr.cell? ⟨ga, oa + k * 11 + 6, none⟩ = some (.string r.g.nx) := hcy 6 _ rfl
        have y7 : wr.cell? ⟨ga, oa + k * 11 + 7, none⟩ = some (.string r.g.own) := hcy 7 _ rfl
        have y8 : wr.cell? ⟨ga, oa + k * 11 + 8, none⟩ = some (.string r.g.salt) := hcy 8 _ rfl
        have y9 : wr.cell? ⟨ga, oa + k * 11 + 9, none⟩ = some (.int .i64 r.g.rounds) := hcy 9 _ rfl
        have y10 : wr.cell? ⟨ga, oa + k * 11 + 10, none⟩ = some (.slice r.a r.n r.c) := hcy 10 _ rfl
        have zkk : (0 : Int) ≤ (k : Int) := by omega
        have zlk : (k : Int) < (p : Int) := by omega
        have HTr := Lib.hid ((HG.out.below HBwr.out).ty r hrm)
        have HYr := Lib.hid (map_at hry)
        have HMr := Lib.hid hrm
        have hB7 := (Below.refl wr.heap.size wr).alloc (Nat.le_refl _) (.cells (gapC r.g r.v) 45)
        have hx7 : AtG (wr.alloc (.cells (gapC r.g r.v) 45)) wr.heap.size r := heap_alloc_new _ _
        obtain ⟨Z, hZ⟩ : ∃ X, wr.heap.size = X := ⟨_, rfl⟩
        obtain ⟨w7, hw7⟩ : ∃ W, wr.alloc (.cells (gapC r.g r.v) 45) = W := ⟨_, rfl⟩
        have HBw7 := Lib.hid (HBwr.out.trans (hB7.mono HBwr.out.size))
        rw [hw7] at hx7 HBw7
        rw [hZ] at hx7
        have HWw7 : Hid (wr.alloc (.cells #[.string r.g.x.o, .int .i64 r.g.x.t, .int .i64 r.g.x.c, .int .i64 r.g.x.l, .string r.g.x.d, .bool r.g.hashed, .string r.g.nx, .string r.g.own, .string r.g.salt, .int .i64 r.g.rounds, .slice r.a r.n r.c] 45) = w7) := Lib.hid hw7
        have HZZ := Lib.hid hZ; have HAw7 := Lib.hid hx7
        clear hg hcy hB7 hZ hw7 hry hrm
        go_upto_region 12 with fail
        try rw [HWw7.out]
        try rw [HZZ.out]
        clear y0 y1 y2 y3 y4 y5 y6 y7 y8 y9 y10
        obtain ⟨dn, hdn⟩ : ∃ b, denyB r.g q.data.toList = b := ⟨_, rfl⟩
        have CD := Lib.hid (fun (wx : World) (hB : Below wr.heap.size wr wx) => denies_any r.g r.a r.n r.c q wx HTr.out.ok hq (HH.out r HMr.out) HTr.out.len HTr.out.le (HTr.out.below hB).rd)
        rw [hdn] at CD
        have hB71 : Below wr.heap.size wr w7 := by rw [← HWw7.out]; exact (Below.refl _ _).alloc (Nat.le_refl _) _
        have CD7 := Lib.hid (CD.out w7 hB71)
        clear hB71
        go_wp2_with (refine wpList_load_row rfl 45 _ rfl Z rfl 45 _ _ _ hx7 Tryz.underlying45 rfl (by rw [infoG]; rfl) ?_)
        refine CD7.out.mono ?_
        rintro e w8 ⟨rfl, hB⟩
        have HBw8 := Lib.hid (HBw7.out.trans (hB.mono HBw7.out.size))
        have HA8 := Lib.hid (HAw7.out.below hB)
        clear hB
        have hx8 := HA8.out
        clear hx7
        cases dn with
        | false =>
          have HNX := Lib.hid (judgeF_no HW2.out HYr.out hdn)
          clear hdn
          go_wp2_with fail
          have hkg := HKG.out
          go_roundg (gk - 1)
          case rel => exact ⟨k + 1, by go_num, by omega, by omega, HNX, HBw8⟩
          case measure => omega
        | true =>
        have HJA := Lib.hid (judgeF_at HW2.out HYr.out hdn)
        clear hdn
        obtain ⟨NX, hNX⟩ : ∃ s, r.g.nx = s := ⟨_, rfl⟩
        obtain ⟨OW, hOW⟩ : ∃ s, r.g.x.o = s := ⟨_, rfl⟩
        have hNXs : NX.size ≤ 1048576 := by rw [← hNX]; exact HTr.out.ok.nx
        have hOWs : OW.size ≤ 1048576 := by rw [← hOW]; exact HTr.out.ok.o
        obtain ⟨EN, hEN⟩ : ∃ B : ByteArray, (⟨(encl r.g q.data.toList).toArray⟩ : ByteArray) = B := ⟨_, rfl⟩
        have hENd : EN.data.toList = encl r.g q.data.toList := by rw [← hEN]
        have CWI := Lib.hid (fun wx => refB.within_any NX q wx (by omega) (by omega))
        have CO := Lib.hid (fun wx => refB.common_any q OW wx (by omega) (by omega))
        have CX := Lib.hid (fun wx => refB.common_any q NX wx (by omega) (by omega))
        obtain ⟨EO, hEO⟩ : ∃ B : ByteArray, (⟨(commonS q.data.toList OW.data.toList).toArray⟩ : ByteArray) = B := ⟨_, rfl⟩
        obtain ⟨EX, hEX⟩ : ∃ B : ByteArray, (⟨(commonS q.data.toList NX.data.toList).toArray⟩ : ByteArray) = B := ⟨_, rfl⟩
        rw [hEO] at CO
        rw [hEX] at CX
        have hEOs : EO.size ≤ 255 := by rw [← hEO, kit.mk_size]; exact common_le _ _
        have hEXs : EX.size ≤ 255 := by rw [← hEX, kit.mk_size]; exact common_le _ _
        have CCO := Lib.hid (fun wx => refA.count_any EO wx (by omega))
        have CCX := Lib.hid (fun wx => refA.count_any EX wx (by omega))
        obtain ⟨ko, hko⟩ : ∃ k, countS EO.data.toList = k := ⟨_, rfl⟩
        obtain ⟨kx, hkx⟩ : ∃ k, countS EX.data.toList = k := ⟨_, rfl⟩
        rw [hko] at CCO
        rw [hkx] at CCX
        have hEOd : EO.data.toList = commonS q.data.toList OW.data.toList := by rw [← hEO]
        have hEXd : EX.data.toList = commonS q.data.toList NX.data.toList := by rw [← hEX]
        have henc : encl r.g q.data.toList = if ko < kx then EX.data.toList else EO.data.toList := by
          unfold encl
          rw [hOW, hNX, ← hEOd, ← hEXd, hko, hkx]
        have HEN : Hid (EN = if ko < kx then EX else EO) := Lib.hid (by
          rw [← hEN, henc]
          split
          · cases EX; simp
          · cases EO; simp)
        clear hEOd hEXd henc
        have hENs : EN.size ≤ 255 := by rw [HEN.out]; split <;> assumption
        have CS := Lib.hid (fun wx => star.star_any EN wx (by omega))
        obtain ⟨SS, hSS⟩ : ∃ B : ByteArray, (⟨(star.starS EN.data.toList).toArray⟩ : ByteArray) = B := ⟨_, rfl⟩
        rw [hSS] at CS
        have hSs : SS.size ≤ 1048576 := by rw [← hSS, kit.mk_size]; have := star_le EN.data.toList; omega
        have HJ2 : Hid (R = if withinS NX.data.toList q.data.toList = true then 2 else if shownB (P.map Gr.g) SS.data.toList t = true then 2 else endF SS.data.toList (judgeF (P.map Gr.g) q.data.toList t ((P.map Gr.g).drop (k + 1))) ((P.map Gr.g).find? (fun h => denyB h SS.data.toList))) := Lib.hid (by
          rw [HJA.out, hNX, ← hENd, ← hSS]
          rfl)
        have HNX := Lib.hid hNX; have HOW := Lib.hid hOW
        obtain ⟨wi, hwi⟩ : ∃ b, withinS NX.data.toList q.data.toList = b := ⟨_, rfl⟩
        rw [hwi] at CWI HJ2
        clear hEN hENd hEO hEX hSS hwi hNX hOW HJA hko hkx
        trace "N3"
        obtain ⟨d0, d1, d2, d3, d4, d5, d6, d7, d8, d9, d10⟩ := cells11 (g := r.g) (a := r.a) (n := r.n) (c := r.c) hx8
        rw [HNX.out] at d6
        rw [HOW.out] at d0
        go_wp2_with fail
        refine (CWI.out w8).mono ?_
        rintro e w9 ⟨rfl, hB⟩
        have HBw9 := Lib.hid (HBw8.out.trans (hB.mono HBw8.out.size))
        have HA9 := Lib.hid (HA8.out.below hB)
        clear hB
        clear hx8 d0 d1 d2 d3 d4 d5 d6 d7 d8 d9 d10
        cases wi with
        | true =>
          have HV : Hid (R = 2) := Lib.hid (by rw [HJ2.out, if_pos rfl])
          go_wp2_with fail
          go_ret
          exact ⟨by rw [HV.out]; rfl, HFIN.out _ HBw9.out⟩
        | false =>
        have HJ3 : Hid (R = if shownB (P.map Gr.g) SS.data.toList t = true then 2 else endF SS.data.toList (judgeF (P.map Gr.g) q.data.toList t ((P.map Gr.g).drop (k + 1))) ((P.map Gr.g).find? (fun h => denyB h SS.data.toList))) := Lib.hid (by rw [HJ2.out, if_neg (by simp)])
        obtain ⟨d0, d1, d2, d3, d4, d5, d6, d7, d8, d9, d10⟩ := cells11 (g := r.g) (a := r.a) (n := r.n) (c := r.c) HA9.out
        rw [HNX.out] at d6
        rw [HOW.out] at d0
        go_wp2_with fail
        refine (CO.out w9).mono ?_
        rintro e wA ⟨rfl, hB⟩
        have HBwA := Lib.hid (HBw9.out.trans (hB.mono HBw9.out.size))
        have HAA := Lib.hid (HA9.out.below hB)
        clear hB
        clear d0 d1 d2 d3 d4 d5 d6 d7 d8 d9 d10
        obtain ⟨d0, d1, d2, d3, d4, d5, d6, d7, d8, d9, d10⟩ := cells11 (g := r.g) (a := r.a) (n := r.n) (c := r.c) HAA.out
        rw [HNX.out] at d6
        rw [HOW.out] at d0
        go_wp2_with fail
        refine (CX.out wA).mono ?_
        rintro e wB ⟨rfl, hB⟩
        have HBwB := Lib.hid (HBwA.out.trans (hB.mono HBwA.out.size))
        have HAB := Lib.hid (HAA.out.below hB)
        clear hB
        clear d0 d1 d2 d3 d4 d5 d6 d7 d8 d9 d10
        trace "N4"
        go_wp2_with fail
        refine (CCX.out wB).mono ?_
        rintro e wC ⟨rfl, hB⟩
        have HBwC := Lib.hid (HBwB.out.trans (hB.mono HBwB.out.size))
        have HAC := Lib.hid (HAB.out.below hB)
        clear hB
        go_wp2_with fail
        refine (CCO.out wC).mono ?_
        rintro e wD ⟨rfl, hB⟩
        have HBwD := Lib.hid (HBwC.out.trans (hB.mono HBwC.out.size))
        have HAD := Lib.hid (HAC.out.below hB)
        clear hB
        by_cases hlen : ko < kx
        · have HEN2 : Hid (EN = EX) := Lib.hid (by rw [HEN.out, if_pos hlen])
          have e9 : decide (ko < kx) = true := decide_eq_true hlen
          rw [HEN2.out] at CS
          clear hlen
          obtain ⟨d0, d1, d2, d3, d4, d5, d6, d7, d8, d9, d10⟩ := cells11 (g := r.g) (a := r.a) (n := r.n) (c := r.c) HAD.out
          rw [HNX.out] at d6
          rw [HOW.out] at d0
          trace "N5"
          go_wp2_with fail
          refine (CX.out wD).mono ?_
          rintro e wE ⟨rfl, hB⟩
          have HBwE := Lib.hid (HBwD.out.trans (hB.mono HBwD.out.size))
          have HAE := Lib.hid (HAD.out.below hB)
          clear hB
          clear d0 d1 d2 d3 d4 d5 d6 d7 d8 d9 d10
          go_wp2_with fail
          refine (CS.out wE).mono ?_
          rintro e wF ⟨rfl, hB⟩
          have HBwF := Lib.hid (HBwE.out.trans (hB.mono HBwE.out.size))
          clear hB
          trace "N6"
          go_wp2_with fail
          refine (shown_any (some ⟨ga, oa, none⟩) p c1 P SS t wF HPL.out hpl (HG.out.below HBwF.out) hSs).mono ?_
          rintro e wG ⟨rfl, hB⟩
          have HBwG := Lib.hid (HBwF.out.trans (hB.mono HBwF.out.size))
          clear hB
          rw [any_g (f := fun g => matchB g SS.data.toList && lacksB g t)]
          obtain ⟨sh, hsh⟩ : ∃ b, (P.map Gr.g).any (fun g => matchB g SS.data.toList && lacksB g t) = b := ⟨_, rfl⟩
          have hsh2 : shownB (P.map Gr.g) SS.data.toList t = sh := hsh
          rw [hsh]
          have HSH := Lib.hid hsh2
          clear hsh hsh2
          cases sh with
          | true =>
            have HV : Hid (R = 2) := Lib.hid (by rw [HJ3.out, if_pos HSH.out])
            go_wp2_with fail
            go_ret
            exact ⟨by rw [HV.out]; rfl, HFIN.out _ HBwG.out⟩
          | false =>
          obtain ⟨D, HD⟩ : ∃ D, Hid ((P.map Gr.g).find? (fun h => denyB h SS.data.toList) = D) := ⟨_, Lib.hid rfl⟩
          have HJ4 : Hid (R = endF SS.data.toList (judgeF (P.map Gr.g) q.data.toList t ((P.map Gr.g).drop (k + 1))) D) := Lib.hid (by rw [HJ3.out, if_neg (by rw [HSH.out]; simp), HD.out])
          have HD0 : Hid (((P.map Gr.g).drop 0).find? (fun h => denyB h SS.data.toList) = D) := Lib.hid HD.out
          trace "N7"
          go_wp2_with fail
          obtain ⟨gkO, hgkO⟩ : ∃ g, g = gk := ⟨_, rfl⟩
          rw [← hgkO] at HKG
          go_loopg [86] (p + 1) (fun gas kv wr => ∃ (j : Nat), kv = .int .i64 j ∧ j ≤ p ∧ j + gas = p + 1 ∧ Hid (((P.map Gr.g).drop j).find? (fun h => denyB h SS.data.toList) = D) ∧ Hid (Below w3.heap.size w3 wr))
          case atStart => exact ⟨0, rfl, by omega, by omega, HD0, HBwG⟩
          case round =>
            obtain ⟨j, rfl, hj, hjg, HDJ, HBwq⟩ := hrel
            have HJG := Lib.hid hjg; clear hjg
            by_cases hjl : j < p
            · skip
              obtain ⟨h, hhy⟩ : ∃ r, P[j]? = some r := ⟨_, List.getElem?_eq_getElem (by have := HPL.out; omega)⟩
              have hhm := List.mem_of_getElem? hhy
              obtain ⟨g0, of, hae, hg, hcy⟩ := (HG.out.below HBwq.out).at hhy
              simp only [Option.some.injEq, Addr.mk.injEq, and_true] at hae
              obtain ⟨rfl, rfl⟩ := hae
              have y0 : wr.cell? ⟨ga, oa + j * 11, none⟩ = some (.string h.g.x.o) := hcy 0 _ rfl
              have y1 : wr.cell? ⟨ga, oa + j * 11 + 1, none⟩ = some (.int .i64 h.g.x.t) := hcy 1 _ rfl
              have y2 : wr.cell? ⟨ga, oa + j * 11 + 2, none⟩ = some (.int .i64 h.g.x.c) := hcy 2 _ rfl
              have y3 : wr.cell? ⟨ga, oa + j * 11 + 3, none⟩ = some (.int .i64 h.g.x.l) := hcy 3 _ rfl
              have y4 : wr.cell? ⟨ga, oa + j * 11 + 4, none⟩ = some (.string h.g.x.d) := hcy 4 _ rfl
              have y5 : wr.cell? ⟨ga, oa + j * 11 + 5, none⟩ = some (.bool h.g.hashed) := hcy 5 _ rfl
              have y6 : wr.cell? ⟨ga, oa + j * 11 + 6, none⟩ = some (.string h.g.nx) := hcy 6 _ rfl
              have y7 : wr.cell? ⟨ga, oa + j * 11 + 7, none⟩ = some (.string h.g.own) := hcy 7 _ rfl
              have y8 : wr.cell? ⟨ga, oa + j * 11 + 8, none⟩ = some (.string h.g.salt) := hcy 8 _ rfl
              have y9 : wr.cell? ⟨ga, oa + j * 11 + 9, none⟩ = some (.int .i64 h.g.rounds) := hcy 9 _ rfl
              have y10 : wr.cell? ⟨ga, oa + j * 11 + 10, none⟩ = some (.slice h.a h.n h.c) := hcy 10 _ rfl
              have zkj : (0 : Int) ≤ (j : Int) := by omega
              have zlj : (j : Int) < (p : Int) := by omega
              have HTh := Lib.hid ((HG.out.below HBwq.out).ty h hhm)
              have HYh := Lib.hid (map_at hhy)
              have HMh := Lib.hid hhm
              have hB7 := (Below.refl wr.heap.size wr).alloc (Nat.le_refl _) (.cells (gapC h.g h.v) 45)
              have hx7 : AtG (wr.alloc (.cells (gapC h.g h.v) 45)) wr.heap.size h := heap_alloc_new _ _
              obtain ⟨Z2, hZ2⟩ : ∃ X, wr.heap.size = X := ⟨_, rfl⟩
              obtain ⟨v7, hv7⟩ : ∃ W, wr.alloc (.cells (gapC h.g h.v) 45) = W := ⟨_, rfl⟩
              have HBv7 := Lib.hid (HBwq.out.trans (hB7.mono HBwq.out.size))
              rw [hv7] at hx7 HBv7
              rw [hZ2] at hx7
              have HWv7 : Hid (wr.alloc (.cells #[.string h.g.x.o, .int .i64 h.g.x.t, .int .i64 h.g.x.c, .int .i64 h.g.x.l, .string h.g.x.d, .bool h.g.hashed, .string h.g.nx, .string h.g.own, .string h.g.salt, .int .i64 h.g.rounds, .slice h.a h.n h.c] 45) = v7) := Lib.hid hv7
              have HZZ2 := Lib.hid hZ2; have HAv7 := Lib.hid hx7
              clear hg hcy hB7 hZ2 hv7 hhy hhm
              go_upto_region 23 with fail
              try rw [HWv7.out]
              try rw [HZZ2.out]
              clear y0 y1 y2 y3 y4 y5 y6 y7 y8 y9 y10
              trace "N8"
              have CDn := Lib.hid (fun (wx : World) (hB : Below wr.heap.size wr wx) => denies_any h.g h.a h.n h.c SS wx HTh.out.ok hSs (HH.out h HMh.out) HTh.out.len HTh.out.le (HTh.out.below hB).rd)
              obtain ⟨dm, hdm⟩ : ∃ b, denyB h.g SS.data.toList = b := ⟨_, rfl⟩
              rw [hdm] at CDn
              have HBq7 : Hid (Below wr.heap.size wr v7) := Lib.hid (by rw [← HWv7.out]; exact (Below.refl _ _).alloc (Nat.le_refl _) _)
              refine heldG.regionG (fun w' => AtG w' Z2 h ∧ Below wr.heap.size wr w' ∧ Below w3.heap.size w3 w') (fun _ => false) (by kernel_rfl) ?_
              have hS0 : AtG v7.drew Z2 h ∧ Below wr.heap.size wr v7.drew ∧ Below w3.heap.size w3 v7.drew := ⟨hx7, HBq7.out.drew, HBv7.out.drew⟩
              refine takeD (i := 0) (d := 90) (v := .agg #[.string h.g.x.o, .int .i64 h.g.x.t, .int .i64 h.g.x.c, .int .i64 h.g.x.l, .string h.g.x.d, .bool h.g.hashed, .string h.g.nx, .string h.g.own, .string h.g.salt, .int .i64 h.g.rounds, .slice h.a h.n h.c]) rfl rfl (by kernel_rfl) (by kernel_rfl) (by kernel_rfl) (fun _ _ _ h => h) (by kernel_rfl) rfl (Or.inl ⟨by kernel_rfl, ?_⟩) hS0 ?_
              · intro wz hSw
                obtain ⟨s0, s1, s2, s3, s4, s5, s6, s7, s8, s9, s10⟩ := cells11 (g := h.g) (a := h.a) (n := h.n) (c := h.c) hSw.1
                go_simp
              try simp only [Act.put, List.setIfInBounds_toArray, List.set_cons_zero, List.set_cons_succ]
              refine takeD (i := 1) (d := 91) (v := .string EX) rfl rfl (by kernel_rfl) (by kernel_rfl) (by kernel_rfl) (fun _ _ _ h => h) (by kernel_rfl) rfl (Or.inl ⟨by kernel_rfl, ?_⟩) hS0 ?_
              · intro wz hSw
                obtain ⟨s0, s1, s2, s3, s4, s5, s6, s7, s8, s9, s10⟩ := cells11 (g := h.g) (a := h.a) (n := h.n) (c := h.c) hSw.1
                go_simp
              try simp only [Act.put, List.setIfInBounds_toArray, List.set_cons_zero, List.set_cons_succ]
              refine heldG.readyG (rs := [2]) (by kernel_rfl) (by simp) ?_
              refine heldG.AllG.cons rfl (fun KK hKK => ?_) heldG.AllG.nil
              go_simp
              refine (CS.out _).mono ?_
              rintro en whS1 ⟨rfl, hBz⟩
              have hS1 : AtG whS1 Z2 h ∧ Below wr.heap.size wr whS1 ∧ Below w3.heap.size w3 whS1 := ⟨hS0.1.below hBz, hS0.2.1.trans (hBz.mono hS0.2.1.size), hS0.2.2.trans (hBz.mono hS0.2.2.size)⟩
              dsimp only
              refine hKK.out _ _ (fun _ => hS1) ?_; clear hKK KK hBz
              try simp only [Act.put, List.setIfInBounds_toArray, List.set_cons_zero, List.set_cons_succ]
              refine heldG.readyG (rs := [3]) (by kernel_rfl) (by simp) ?_
              refine heldG.AllG.cons rfl (fun KK hKK => ?_) heldG.AllG.nil
              go_simp
              refine (CDn.out _ hS1.2.1).mono ?_
              rintro en whS2 ⟨rfl, hBz⟩
              have hS2 : AtG whS2 Z2 h ∧ Below wr.heap.size wr whS2 ∧ Below w3.heap.size w3 whS2 := ⟨hS1.1.below hBz, hS1.2.1.trans (hBz.mono hS1.2.1.size), hS1.2.2.trans (hBz.mono hS1.2.2.size)⟩
              dsimp only
              refine hKK.out _ _ (fun _ => hS2) ?_; clear hKK KK hBz
              try simp only [Act.put, List.setIfInBounds_toArray, List.set_cons_zero, List.set_cons_succ]
              refine heldG.doneG (by kernel_rfl) ?_ _
              have HAy := Lib.hid hS2.1
              have HBy := Lib.hid hS2.2.2
              have HBqy := Lib.hid hS2.2.1
              clear hS0 hS1 hS2 hx7
              obtain ⟨f1, f2⟩ := one_of_find HYh.out HDJ.out
              cases dm with
              | false =>
                have HDN := Lib.hid (f2 hdm)
                clear f1 f2 hdm
                go_wp2_with fail
                have hjg := HJG.out
                go_roundg (gk - 1)
                case rel => exact ⟨j + 1, by go_num, by omega, by omega, HDN, HBy⟩
                case measure => omega
              | true =>
              have HDY := Lib.hid (f1 hdm)
              clear f1 f2 hdm
              have CWh := Lib.hid (fun wx => refB.within_any h.g.nx SS wx (by have := HTh.out.ok.nx; omega) (by omega))
              obtain ⟨wj, hwj⟩ : ∃ b, withinS h.g.nx.data.toList SS.data.toList = b := ⟨_, rfl⟩
              rw [hwj] at CWh
              have HRV : Hid (R = if wj = true then 2 else 1) := Lib.hid (by rw [HJ4.out, HDY.out, ← hwj]; rfl)
              clear hwj
              trace "N9"
              go_upto_region 24 with fail
              refine heldG.regionG (fun w' => AtG w' Z2 h ∧ Below wr.heap.size wr w' ∧ Below w3.heap.size w3 w') (fun _ => false) (by kernel_rfl) ?_
              have HBq : Hid (Below wr.heap.size wr whS2) := HBqy
              have hS0 : AtG whS2.drew Z2 h ∧ Below wr.heap.size wr whS2.drew ∧ Below w3.heap.size w3 whS2.drew := ⟨HAy.out, HBq.out.drew, HBy.out.drew⟩
              refine takeD (i := 0) (d := 94) (v := .pointer (some ⟨Z2, 6, none⟩)) rfl rfl (by kernel_rfl) (by kernel_rfl) (by kernel_rfl) (fun _ _ _ h => h) (by kernel_rfl) rfl (Or.inl ⟨by kernel_rfl, ?_⟩) hS0 ?_
              · intro wz hSw
                obtain ⟨s0, s1, s2, s3, s4, s5, s6, s7, s8, s9, s10⟩ := cells11 (g := h.g) (a := h.a) (n := h.n) (c := h.c) hSw.1
                go_simp
              try simp only [Act.put, List.setIfInBounds_toArray, List.set_cons_zero, List.set_cons_succ]
              refine takeD (i := 1) (d := 95) (v := .string h.g.nx) rfl rfl (by kernel_rfl) (by kernel_rfl) (by kernel_rfl) (fun _ _ _ h => h) (by kernel_rfl) rfl (Or.inl ⟨by kernel_rfl, ?_⟩) hS0 ?_
              · intro wz hSw
                obtain ⟨s0, s1, s2, s3, s4, s5, s6, s7, s8, s9, s10⟩ := cells11 (g := h.g) (a := h.a) (n := h.n) (c := h.c) hSw.1
                go_simp
              try simp only [Act.put, List.setIfInBounds_toArray, List.set_cons_zero, List.set_cons_succ]
              refine takeD (i := 2) (d := 96) (v := .string EX) rfl rfl (by kernel_rfl) (by kernel_rfl) (by kernel_rfl) (fun _ _ _ h => h) (by kernel_rfl) rfl (Or.inl ⟨by kernel_rfl, ?_⟩) hS0 ?_
              · intro wz hSw
                obtain ⟨s0, s1, s2, s3, s4, s5, s6, s7, s8, s9, s10⟩ := cells11 (g := h.g) (a := h.a) (n := h.n) (c := h.c) hSw.1
                go_simp
              try simp only [Act.put, List.setIfInBounds_toArray, List.set_cons_zero, List.set_cons_succ]
              refine heldG.readyG (rs := [3]) (by kernel_rfl) (by simp) ?_
              refine heldG.AllG.cons rfl (fun KK hKK => ?_) heldG.AllG.nil
              go_simp
              refine (CS.out _).mono ?_
              rintro en whT1 ⟨rfl, hBz⟩
              have hT1 : AtG whT1 Z2 h ∧ Below wr.heap.size wr whT1 ∧ Below w3.heap.size w3 whT1 := ⟨hS0.1.below hBz, hS0.2.1.trans (hBz.mono hS0.2.1.size), hS0.2.2.trans (hBz.mono hS0.2.2.size)⟩
              dsimp only
              refine hKK.out _ _ (fun _ => hT1) ?_; clear hKK KK hBz
              try simp only [Act.put, List.setIfInBounds_toArray, List.set_cons_zero, List.set_cons_succ]
              refine heldG.readyG (rs := [4]) (by kernel_rfl) (by simp) ?_
              refine heldG.AllG.cons rfl (fun KK hKK => ?_) heldG.AllG.nil
              go_simp
              refine (CWh.out _).mono ?_
              rintro en whT2 ⟨rfl, hBz⟩
              have hT2 : AtG whT2 Z2 h ∧ Below wr.heap.size wr whT2 ∧ Below w3.heap.size w3 whT2 := ⟨hT1.1.below hBz, hT1.2.1.trans (hBz.mono hT1.2.1.size), hT1.2.2.trans (hBz.mono hT1.2.2.size)⟩
              dsimp only
              refine hKK.out _ _ (fun _ => hT2) ?_; clear hKK KK hBz
              try simp only [Act.put, List.setIfInBounds_toArray, List.set_cons_zero, List.set_cons_succ]
              refine heldG.doneG (by kernel_rfl) ?_ _
              have HBy2 := Lib.hid hT2.2.2
              clear hS0 hT1 hT2
              cases wj with
              | true =>
                go_wp2_with fail
                go_ret
                exact ⟨by rw [HRV.out]; rfl, HFIN.out _ HBy2.out⟩
              | false =>
                go_wp2_with fail
                go_ret
                exact ⟨by rw [HRV.out]; rfl, HFIN.out _ HBy2.out⟩
            · have hjl2 : ¬ (j : Int) < (p : Int) := by omega
              have HDE : Hid (D = none) := Lib.hid (by rw [← HDJ.out, List.drop_eq_nil_of_le (by rw [List.length_map]; have := HPL.out; omega)]; rfl)
              have HNXT : Hid (judgeF (P.map Gr.g) q.data.toList t ((P.map Gr.g).drop (k + 1)) = R) := Lib.hid (by rw [HJ4.out, HDE.out]; rfl)
              go_wp2_with fail
              have hkg := HKG.out
              go_roundg (gkO - 1)
              case rel => exact ⟨k + 1, by go_num, by omega, by omega, HNXT, HBwq⟩
              case measure => omega
        · have HEN2 : Hid (EN = EO) := Lib.hid (by rw [HEN.out, if_neg hlen])
          have e9 : decide (ko < kx) = false := decide_eq_false hlen
          rw [HEN2.out] at CS
          clear hlen
          go_wp2_with fail
          refine (CS.out wD).mono ?_
          rintro e wF ⟨rfl, hB⟩
          have HBwF := Lib.hid (HBwD.out.trans (hB.mono HBwD.out.size))
          clear hB
          trace "N6"
          go_wp2_with fail
          refine (shown_any (some ⟨ga, oa, none⟩) p c1 P SS t wF HPL.out hpl (HG.out.below HBwF.out) hSs).mono ?_
          rintro e wG ⟨rfl, hB⟩
          have HBwG := Lib.hid (HBwF.out.trans (hB.mono HBwF.out.size))
          clear hB
          rw [any_g (f := fun g => matchB g SS.data.toList && lacksB g t)]
          obtain ⟨sh, hsh⟩ : ∃ b, (P.map Gr.g).any (fun g => matchB g SS.data.toList && lacksB g t) = b := ⟨_, rfl⟩
          have hsh2 : shownB (P.map Gr.g) SS.data.toList t = sh := hsh
          rw [hsh]
          have HSH := Lib.hid hsh2
          clear hsh hsh2
          cases sh with
          | true =>
            have HV : Hid (R = 2) := Lib.hid (by rw [HJ3.out, if_pos HSH.out])
            go_wp2_with fail
            go_ret
            exact ⟨by rw [HV.out]; rfl, HFIN.out _ HBwG.out⟩
          | false =>
          obtain ⟨D, HD⟩ : ∃ D, Hid ((P.map Gr.g).find? (fun h => denyB h SS.data.toList) = D) := ⟨_, Lib.hid rfl⟩
          have HJ4 : Hid (R = endF SS.data.toList (judgeF (P.map Gr.g) q.data.toList t ((P.map Gr.g).drop (k + 1))) D) := Lib.hid (by rw [HJ3.out, if_neg (by rw [HSH.out]; simp), HD.out])
          have HD0 : Hid (((P.map Gr.g).drop 0).find? (fun h => denyB h SS.data.toList) = D) := Lib.hid HD.out
          trace "N7"
          go_wp2_with fail
          obtain ⟨gkO, hgkO⟩ : ∃ g, g = gk := ⟨_, rfl⟩
          rw [← hgkO] at HKG
          go_loopg [86] (p + 1) (fun gas kv wr => ∃ (j : Nat), kv = .int .i64 j ∧ j ≤ p ∧ j + gas = p + 1 ∧ Hid (((P.map Gr.g).drop j).find? (fun h => denyB h SS.data.toList) = D) ∧ Hid (Below w3.heap.size w3 wr))
          case atStart => exact ⟨0, rfl, by omega, by omega, HD0, HBwG⟩
          case round =>
            obtain ⟨j, rfl, hj, hjg, HDJ, HBwq⟩ := hrel
            have HJG := Lib.hid hjg; clear hjg
            by_cases hjl : j < p
            · skip
              obtain ⟨h, hhy⟩ : ∃ r, P[j]? = some r := ⟨_, List.getElem?_eq_getElem (by have := HPL.out; omega)⟩
              have hhm := List.mem_of_getElem? hhy
              obtain ⟨g0, of, hae, hg, hcy⟩ := (HG.out.below HBwq.out).at hhy
              simp only [Option.some.injEq, Addr.mk.injEq, and_true] at hae
              obtain ⟨rfl, rfl⟩ := hae
              have y0 : wr.cell? ⟨ga, oa + j * 11, none⟩ = some (.string h.g.x.o) := hcy 0 _ rfl
              have y1 : wr.cell? ⟨ga, oa + j * 11 + 1, none⟩ = some (.int .i64 h.g.x.t) := hcy 1 _ rfl
              have y2 : wr.cell? ⟨ga, oa + j * 11 + 2, none⟩ = some (.int .i64 h.g.x.c) := hcy 2 _ rfl
              have y3 : wr.cell? ⟨ga, oa + j * 11 + 3, none⟩ = some (.int .i64 h.g.x.l) := hcy 3 _ rfl
              have y4 : wr.cell? ⟨ga, oa + j * 11 + 4, none⟩ = some (.string h.g.x.d) := hcy 4 _ rfl
              have y5 : wr.cell? ⟨ga, oa + j * 11 + 5, none⟩ = some (.bool h.g.hashed) := hcy 5 _ rfl
              have y6 : wr.cell? ⟨ga, oa + j * 11 + 6, none⟩ = some (.string h.g.nx) := hcy 6 _ rfl
              have y7 : wr.cell? ⟨ga, oa + j * 11 + 7, none⟩ = some (.string h.g.own) := hcy 7 _ rfl
              have y8 : wr.cell? ⟨ga, oa + j * 11 + 8, none⟩ = some (.string h.g.salt) := hcy 8 _ rfl
              have y9 : wr.cell? ⟨ga, oa + j * 11 + 9, none⟩ = some (.int .i64 h.g.rounds) := hcy 9 _ rfl
              have y10 : wr.cell? ⟨ga, oa + j * 11 + 10, none⟩ = some (.slice h.a h.n h.c) := hcy 10 _ rfl
              have zkj : (0 : Int) ≤ (j : Int) := by omega
              have zlj : (j : Int) < (p : Int) := by omega
              have HTh := Lib.hid ((HG.out.below HBwq.out).ty h hhm)
              have HYh := Lib.hid (map_at hhy)
              have HMh := Lib.hid hhm
              have hB7 := (Below.refl wr.heap.size wr).alloc (Nat.le_refl _) (.cells (gapC h.g h.v) 45)
              have hx7 : AtG (wr.alloc (.cells (gapC h.g h.v) 45)) wr.heap.size h := heap_alloc_new _ _
              obtain ⟨Z2, hZ2⟩ : ∃ X, wr.heap.size = X := ⟨_, rfl⟩
              obtain ⟨v7, hv7⟩ : ∃ W, wr.alloc (.cells (gapC h.g h.v) 45) = W := ⟨_, rfl⟩
              have HBv7 := Lib.hid (HBwq.out.trans (hB7.mono HBwq.out.size))
              rw [hv7] at hx7 HBv7
              rw [hZ2] at hx7
              have HWv7 : Hid (wr.alloc (.cells #[.string h.g.x.o, .int .i64 h.g.x.t, .int .i64 h.g.x.c, .int .i64 h.g.x.l, .string h.g.x.d, .bool h.g.hashed, .string h.g.nx, .string h.g.own, .string h.g.salt, .int .i64 h.g.rounds, .slice h.a h.n h.c] 45) = v7) := Lib.hid hv7
              have HZZ2 := Lib.hid hZ2; have HAv7 := Lib.hid hx7
              clear hg hcy hB7 hZ2 hv7 hhy hhm
              go_upto_region 23 with fail
              try rw [HWv7.out]
              try rw [HZZ2.out]
              clear y0 y1 y2 y3 y4 y5 y6 y7 y8 y9 y10
              trace "N8"
              have CDn := Lib.hid (fun (wx : World) (hB : Below wr.heap.size wr wx) => denies_any h.g h.a h.n h.c SS wx HTh.out.ok hSs (HH.out h HMh.out) HTh.out.len HTh.out.le (HTh.out.below hB).rd)
              obtain ⟨dm, hdm⟩ : ∃ b, denyB h.g SS.data.toList = b := ⟨_, rfl⟩
              rw [hdm] at CDn
              have HBq7 : Hid (Below wr.heap.size wr v7) := Lib.hid (by rw [← HWv7.out]; exact (Below.refl _ _).alloc (Nat.le_refl _) _)
              refine heldG.regionG (fun w' => AtG w' Z2 h ∧ Below wr.heap.size wr w' ∧ Below w3.heap.size w3 w') (fun _ => false) (by kernel_rfl) ?_
              have hS0 : AtG v7.drew Z2 h ∧ Below wr.heap.size wr v7.drew ∧ Below w3.heap.size w3 v7.drew := ⟨hx7, HBq7.out.drew, HBv7.out.drew⟩
              refine takeD (i := 0) (d := 90) (v := .agg #[.string h.g.x.o, .int .i64 h.g.x.t, .int .i64 h.g.x.c, .int .i64 h.g.x.l, .string h.g.x.d, .bool h.g.hashed, .string h.g.nx, .string h.g.own, .string h.g.salt, .int .i64 h.g.rounds, .slice h.a h.n h.c]) rfl rfl (by kernel_rfl) (by kernel_rfl) (by kernel_rfl) (fun _ _ _ h => h) (by kernel_rfl) rfl (Or.inl ⟨by kernel_rfl, ?_⟩) hS0 ?_
              · intro wz hSw
                obtain ⟨s0, s1, s2, s3, s4, s5, s6, s7, s8, s9, s10⟩ := cells11 (g := h.g) (a := h.a) (n := h.n) (c := h.c) hSw.1
                go_simp
              try simp only [Act.put, List.setIfInBounds_toArray, List.set_cons_zero, List.set_cons_succ]
              refine takeD (i := 1) (d := 91) (v := .string EO) rfl rfl (by kernel_rfl) (by kernel_rfl) (by kernel_rfl) (fun _ _ _ h => h) (by kernel_rfl) rfl (Or.inl ⟨by kernel_rfl, ?_⟩) hS0 ?_
              · intro wz hSw
                obtain ⟨s0, s1, s2, s3, s4, s5, s6, s7, s8, s9, s10⟩ := cells11 (g := h.g) (a := h.a) (n := h.n) (c := h.c) hSw.1
                go_simp
              try simp only [Act.put, List.setIfInBounds_toArray, List.set_cons_zero, List.set_cons_succ]
              refine heldG.readyG (rs := [2]) (by kernel_rfl) (by simp) ?_
              refine heldG.AllG.cons rfl (fun KK hKK => ?_) heldG.AllG.nil
              go_simp
              refine (CS.out _).mono ?_
              rintro en whS1 ⟨rfl, hBz⟩
              have hS1 : AtG whS1 Z2 h ∧ Below wr.heap.size wr whS1 ∧ Below w3.heap.size w3 whS1 := ⟨hS0.1.below hBz, hS0.2.1.trans (hBz.mono hS0.2.1.size), hS0.2.2.trans (hBz.mono hS0.2.2.size)⟩
              dsimp only
              refine hKK.out _ _ (fun _ => hS1) ?_; clear hKK KK hBz
              try simp only [Act.put, List.setIfInBounds_toArray, List.set_cons_zero, List.set_cons_succ]
              refine heldG.readyG (rs := [3]) (by kernel_rfl) (by simp) ?_
              refine heldG.AllG.cons rfl (fun KK hKK => ?_) heldG.AllG.nil
              go_simp
              refine (CDn.out _ hS1.2.1).mono ?_
              rintro en whS2 ⟨rfl, hBz⟩
              have hS2 : AtG whS2 Z2 h ∧ Below wr.heap.size wr whS2 ∧ Below w3.heap.size w3 whS2 := ⟨hS1.1.below hBz, hS1.2.1.trans (hBz.mono hS1.2.1.size), hS1.2.2.trans (hBz.mono hS1.2.2.size)⟩
              dsimp only
              refine hKK.out _ _ (fun _ => hS2) ?_; clear hKK KK hBz
              try simp only [Act.put, List.setIfInBounds_toArray, List.set_cons_zero, List.set_cons_succ]
              refine heldG.doneG (by kernel_rfl) ?_ _
              have HAy := Lib.hid hS2.1
              have HBy := Lib.hid hS2.2.2
              have HBqy := Lib.hid hS2.2.1
              clear hS0 hS1 hS2 hx7
              obtain ⟨f1, f2⟩ := one_of_find HYh.out HDJ.out
              cases dm with
              | false =>
                have HDN := Lib.hid (f2 hdm)
                clear f1 f2 hdm
                go_wp2_with fail
                have hjg := HJG.out
                go_roundg (gk - 1)
                case rel => exact ⟨j + 1, by go_num, by omega, by omega, HDN, HBy⟩
                case measure => omega
              | true =>
              have HDY := Lib.hid (f1 hdm)
              clear f1 f2 hdm
              have CWh := Lib.hid (fun wx => refB.within_any h.g.nx SS wx (by have := HTh.out.ok.nx; omega) (by omega))
              obtain ⟨wj, hwj⟩ : ∃ b, withinS h.g.nx.data.toList SS.data.toList = b := ⟨_, rfl⟩
              rw [hwj] at CWh
              have HRV : Hid (R = if wj = true then 2 else 1) := Lib.hid (by rw [HJ4.out, HDY.out, ← hwj]; rfl)
              clear hwj
              trace "N9"
              go_upto_region 24 with fail
              refine heldG.regionG (fun w' => AtG w' Z2 h ∧ Below wr.heap.size wr w' ∧ Below w3.heap.size w3 w') (fun _ => false) (by kernel_rfl) ?_
              have HBq : Hid (Below wr.heap.size wr whS2) := HBqy
              have hS0 : AtG whS2.drew Z2 h ∧ Below wr.heap.size wr whS2.drew ∧ Below w3.heap.size w3 whS2.drew := ⟨HAy.out, HBq.out.drew, HBy.out.drew⟩
              refine takeD (i := 0) (d := 94) (v := .pointer (some ⟨Z2, 6, none⟩)) rfl rfl (by kernel_rfl) (by kernel_rfl) (by kernel_rfl) (fun _ _ _ h => h) (by kernel_rfl) rfl (Or.inl ⟨by kernel_rfl, ?_⟩) hS0 ?_
              · intro wz hSw
                obtain ⟨s0, s1, s2, s3, s4, s5, s6, s7, s8, s9, s10⟩ := cells11 (g := h.g) (a := h.a) (n := h.n) (c := h.c) hSw.1
                go_simp
              try simp only [Act.put, List.setIfInBounds_toArray, List.set_cons_zero, List.set_cons_succ]
              refine takeD (i := 1) (d := 95) (v := .string h.g.nx) rfl rfl (by kernel_rfl) (by kernel_rfl) (by kernel_rfl) (fun _ _ _ h => h) (by kernel_rfl) rfl (Or.inl ⟨by kernel_rfl, ?_⟩) hS0 ?_
              · intro wz hSw
                obtain ⟨s0, s1, s2, s3, s4, s5, s6, s7, s8, s9, s10⟩ := cells11 (g := h.g) (a := h.a) (n := h.n) (c := h.c) hSw.1
                go_simp
              try simp only [Act.put, List.setIfInBounds_toArray, List.set_cons_zero, List.set_cons_succ]
              refine takeD (i := 2) (d := 96) (v := .string EO) rfl rfl (by kernel_rfl) (by kernel_rfl) (by kernel_rfl) (fun _ _ _ h => h) (by kernel_rfl) rfl (Or.inl ⟨by kernel_rfl, ?_⟩) hS0 ?_
              · intro wz hSw
                obtain ⟨s0, s1, s2, s3, s4, s5, s6, s7, s8, s9, s10⟩ := cells11 (g := h.g) (a := h.a) (n := h.n) (c := h.c) hSw.1
                go_simp
              try simp only [Act.put, List.setIfInBounds_toArray, List.set_cons_zero, List.set_cons_succ]
              refine heldG.readyG (rs := [3]) (by kernel_rfl) (by simp) ?_
              refine heldG.AllG.cons rfl (fun KK hKK => ?_) heldG.AllG.nil
              go_simp
              refine (CS.out _).mono ?_
              rintro en whT1 ⟨rfl, hBz⟩
              have hT1 : AtG whT1 Z2 h ∧ Below wr.heap.size wr whT1 ∧ Below w3.heap.size w3 whT1 := ⟨hS0.1.below hBz, hS0.2.1.trans (hBz.mono hS0.2.1.size), hS0.2.2.trans (hBz.mono hS0.2.2.size)⟩
              dsimp only
              refine hKK.out _ _ (fun _ => hT1) ?_; clear hKK KK hBz
              try simp only [Act.put, List.setIfInBounds_toArray, List.set_cons_zero, List.set_cons_succ]
              refine heldG.readyG (rs := [4]) (by kernel_rfl) (by simp) ?_
              refine heldG.AllG.cons rfl (fun KK hKK => ?_) heldG.AllG.nil
              go_simp
              refine (CWh.out _).mono ?_
              rintro en whT2 ⟨rfl, hBz⟩
              have hT2 : AtG whT2 Z2 h ∧ Below wr.heap.size wr whT2 ∧ Below w3.heap.size w3 whT2 := ⟨hT1.1.below hBz, hT1.2.1.trans (hBz.mono hT1.2.1.size), hT1.2.2.trans (hBz.mono hT1.2.2.size)⟩
              dsimp only
              refine hKK.out _ _ (fun _ => hT2) ?_; clear hKK KK hBz
              try simp only [Act.put, List.setIfInBounds_toArray, List.set_cons_zero, List.set_cons_succ]
              refine heldG.doneG (by kernel_rfl) ?_ _
              have HBy2 := Lib.hid hT2.2.2
              clear hS0 hT1 hT2
              cases wj with
              | true =>
                go_wp2_with fail
                go_ret
                exact ⟨by rw [HRV.out]; rfl, HFIN.out _ HBy2.out⟩
              | false =>
                go_wp2_with fail
                go_ret
                exact ⟨by rw [HRV.out]; rfl, HFIN.out _ HBy2.out⟩
            · have hjl2 : ¬ (j : Int) < (p : Int) := by omega
              have HDE : Hid (D = none) := Lib.hid (by rw [← HDJ.out, List.drop_eq_nil_of_le (by rw [List.length_map]; have := HPL.out; omega)]; rfl)
              have HNXT : Hid (judgeF (P.map Gr.g) q.data.toList t ((P.map Gr.g).drop (k + 1)) = R) := Lib.hid (by rw [HJ4.out, HDE.out]; rfl)
              go_wp2_with fail
              have hkg := HKG.out
              go_roundg (gkO - 1)
              case rel => exact ⟨k + 1, by go_num, by omega, by omega, HNXT, HBwq⟩
              case measure => omega
      · have hnl : ¬ (k : Int) < (p : Int) := by omega
        have HF : Hid (R = 0) := Lib.hid (judgeF_nil HW2.out (by rw [List.length_map]; have := HPL.out; omega))
        go_wp2_with fail
        go_ret
        exact ⟨by rw [HF.out]; rfl, HFIN.out _ HBwr.out⟩
end Go.Proofs.YtanoiiodnddkfaaGreat.rjudge

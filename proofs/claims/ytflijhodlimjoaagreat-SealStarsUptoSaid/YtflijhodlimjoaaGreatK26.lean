/- slices.Compact at lines: whether all is left: walk. slices.Clone of lines: walk. seal.lines: walk. Keys: plain: primes, the inverse. Primes and the greatest common divisor: walks. -/
import Derived.Test.YtflijhodlimjoaaGreatK24
import Derived.Test.YtflijhodlimjoaaGreatK21
import Derived.Test.YtflijhodlimjoaaGreatK25
import Derived.Test.YtflijhodlimjoaaGreatK13
import Derived.Test.YtflijhodlimjoaaGreatRows
import Derived.Test.YtflijhodlimjoaaGreatK1
import Derived.Shelf.RegionOpenPlain
import Derived.Sort.WalkB12
import Derived.Lib.SliceRun
import Derived.Laws.StructEq
import Derived.BigQuiet
import Derived.Deep.AppendLies
namespace Go.Proofs.YtflijhodlimjoaaGreat.compactL
open Go.RowKit Go.Proofs.YtflijhodlimjoaaGreat.kit Go.Proofs.YtflijhodlimjoaaGreat.nspec Go.Proofs.YtflijhodlimjoaaGreat.sortT Go.Proofs.YtflijhodlimjoaaGreat.sorted Go.Proofs.YtflijhodlimjoaaGreat.rows Go.Proofs.YtflijhodlimjoaaGreat.timed Go.Proofs.YtflijhodlimjoaaGreat.lnP
set_option linter.unusedVariables false

theorem clear_ln (g o n c : Nat) (hn : 0 < n) (ty : TypeId) (w : World) (hc : ∀ j, j < n → (w.cell? ⟨g, o + j, none⟩).isSome = true) (hf : ∀ j, j < n → w.frozen? ⟨g, o + j, none⟩ = false) :
    (Builtin.clear_ #[86] ty #[.slice (some ⟨g, o, none⟩) n c]).run Tryz.prog w = .ok (.tuple #[]) (w.setCells g o (List.replicate n (strV []))) := by
  have ht := Tryz.underlying86
  have hv := Tryz.zeroValue137
  have hzc : (Builtin.zeroCells (Value.agg #[.string ⟨#[]⟩]).cells n).toList = List.replicate n (strV []) := by
    simp only [Value.cells]
    simp [Builtin.zeroCells]
    apply List.ext_getElem
    · simp
    · intro i h1 h2
      simp [Nat.mod_one]
      rfl
  have hst := run_storeCells_cells (P := Tryz.prog) g o (List.replicate n (strV [])) 0 w (by simpa using hc) (by simpa using hf) (by intro v hv'; rw [List.eq_of_mem_replicate hv']; rfl)
  simp only [Nat.add_zero] at hst
  obtain ⟨m, rfl⟩ : ∃ m, n = m + 1 := ⟨n - 1, by omega⟩
  simp only [Builtin.clear_]
  simp [run_underlying ht, hv]
  rw [hzc, hst]
  rfl
/-- a slice that is as long as n where R is not so -/
def CutTo (n : Nat) (R : Bool) (e : Ending) : Prop := ∃ a k c, e = .returned (.slice a k c) ∧ decide (k = n) = !R
theorem CutTo.mk {n : Nat} {R : Bool} {e : Ending} (a : Option Addr) (k c : Nat) (h : e = .returned (.slice a k c)) (hd : decide (k = n) = !R) : CutTo n R e := ⟨a, k, c, h, hd⟩
theorem ln_size : (Tryz.prog.info? 137).map (·.size) = some 1 := by kernel_rfl
theorem ln_to (g len cap hi : Nat) (h1 : hi ≤ cap) (h2 : ¬ cap = 0) (w : World) :
    Sem.run Tryz.prog (Instr.slice 86 (.slice (some ⟨g, 0, none⟩) len cap) none (some (.int .i64 (hi : Int))) none) w = .ok (.slice (some ⟨g, 0, none⟩) hi cap) w := by
  have hu := Tryz.underlying86
  obtain ⟨i, hi1, hi2⟩ := Option.map_eq_some_iff.1 ln_size
  simp [Instr.slice, Instr.sliceBounds, Instr.sliceBound, asIntOf, run_underlying hu, go_sem, h1]
theorem ln_from (g len cap lo : Nat) (h0 : lo ≤ len) (h1 : len ≤ cap) (h2 : ¬ cap = lo) (w : World) :
    Sem.run Tryz.prog (Instr.slice 86 (.slice (some ⟨g, 0, none⟩) len cap) (some (.int .i64 (lo : Int))) none none) w = .ok (.slice (some ⟨g, lo, none⟩) (len - lo) (cap - lo)) w := by
  have hu := Tryz.underlying86
  obtain ⟨i, hi1, hi2⟩ := Option.map_eq_some_iff.1 ln_size
  simp [Instr.slice, Instr.sliceBounds, Instr.sliceBound, asIntOf, run_underlying hu, go_sem, h0, h2]
set_option maxRecDepth 100000 in
set_option maxHeartbeats 8000000 in
theorem compact_any (v : Value) (n : Nat) (ds : List Bs) (w : World) (base : Nat) (hbase : base ≤ w.heap.size) (hn : n = ds.length) (hv : w.ownsRow base 137 1 v n (ds.flatMap lnC)) (hbig : n ≤ 1099511627776) :
    Calls Tryz.prog 124 #[v] w fun e w' => CutTo n (dupN ds) e ∧ Below base w w' := by
  obtain ⟨R, hR⟩ : ∃ R, dupN ds = R := ⟨_, rfl⟩
  rw [hR]
  have HR := Lib.hid hR; have HN := Lib.hid hn
  by_cases h2 : n < 2
  · obtain ⟨a, c, rfl⟩ : ∃ a c, v = .slice a n c := by
      rcases own_open hv with ⟨h1, h2⟩ | ⟨g, c, h1, _⟩
      · exact ⟨none, 0, by rw [h1, h2]⟩
      · exact ⟨_, _, h1⟩
    have hd : Hid (R = false) := Lib.hid (by rw [← hR]; have := dup_end (l := ds) (k := 0) (by omega); rwa [List.drop_zero] at this)
    clear hv hR hn
    go_enter Tryz.func124, Tryz.ntmps124
    go_wp2_with fail
    go_ret
    exact ⟨CutTo.mk a n c rfl (by rw [hd.out]; simp), Below.refl _ _⟩
  obtain ⟨g, c, rfl, hg, hgs, hnc, hcm⟩ : ∃ g c, v = .slice (some ⟨g, 0, none⟩) n c ∧ base ≤ g ∧ g < w.heap.size ∧ n ≤ c ∧ c ≤ maxLen := by
    rcases own_open hv with ⟨h1, h2⟩ | h
    · omega
    · exact h
  have HV := Lib.hid hv
  clear hv hR hn
  go_enter Tryz.func124, Tryz.ntmps124
  go_wp2_with fail
  go_loopg [3] n (fun gas kv wr => ∃ j q : Nat, kv = .int .i64 ((j : Int) + 1) ∧ j + 1 ≤ n ∧ j + 1 + gas = n + 1 ∧ Hid (dupN (ds.drop j) = R) ∧ Hid (wr = w.drewN q))
  case atStart => exact ⟨0, 0, rfl, by omega, by omega, Lib.hid (by rw [List.drop_zero]; exact HR.out), Lib.hid rfl⟩
  case round =>
    obtain ⟨j, q, rfl, hj, hjg, HD, HW⟩ := hrel
    have HK := Lib.hid hjg; clear hjg
    obtain ⟨gk', hgk'⟩ : ∃ g, g = gk := ⟨_, rfl⟩
    rw [← hgk'] at HK
    by_cases hlt : j + 1 < n
    · obtain ⟨x, hx⟩ : ∃ x, ds[j]? = some x := ⟨_, List.getElem?_eq_getElem (by have := HN.out; omega)⟩
      obtain ⟨y, hy⟩ : ∃ y, ds[j + 1]? = some y := ⟨_, List.getElem?_eq_getElem (by have := HN.out; omega)⟩
      have HO : Hid (wr.ownsRow base 137 1 (.slice (some ⟨g, 0, none⟩) n c) n (ds.flatMap lnC)) := Lib.hid (by rw [HW.out]; exact own_drewN HV.out q)
      have cx := own_ln HO.out j x hx
      have cy := own_ln HO.out (j + 1) y hy
      unfold strV at cx cy
      obtain ⟨XB, hXB⟩ : ∃ XB : ByteArray, (⟨x.toArray⟩ : ByteArray) = XB := ⟨_, rfl⟩
      obtain ⟨YB, hYB⟩ : ∃ YB : ByteArray, (⟨y.toArray⟩ : ByteArray) = YB := ⟨_, rfl⟩
      have hbd := refA.beq_dec y x
      rw [hXB] at cx hbd; rw [hYB] at cy hbd
      have zw : IntKind.i64.wrap ((j : Int) + 1) = (j : Int) + 1 := IntWalk.i64_in _ (by omega)
      have zw2 : IntKind.i64.wrap ((j : Int) + 1 - 1) = (j : Int) := by rw [IntWalk.i64_in _ (by omega)]; omega
      have zj : (0 : Int) ≤ (j : Int) := by omega
      have zl : (j : Int) + 1 < (n : Int) := by omega
      have zl2 : (j : Int) < (n : Int) := by omega
      by_cases hxy : y = x
      · subst hxy
        have HRT : Hid (R = true) := Lib.hid (by rw [← HD.out]; exact dup_yes hx hy)
        rw [hXB] at hYB; subst hYB
        rw [decide_eq_true rfl] at hbd
        clear hx hy hXB
        have s1 := ln_from g n c (j + 1) (by omega) hnc (by omega)
        obtain ⟨q1, hq1⟩ : ∃ q1, n - (j + 1) = q1 := ⟨_, rfl⟩
        obtain ⟨q2, hq2⟩ : ∃ q2, c - (j + 1) = q2 := ⟨_, rfl⟩
        rw [hq1, hq2, show ((j + 1 : Nat) : Int) = (j : Int) + 1 by omega] at s1
        have hkg := HK.out
        go_wp2_with fail
        go_quiet (fail)
        have HOq := Lib.hid (own_drewN HO.out nq)
        have HBq : Hid (Below base w (wr.drewN nq)) := Lib.hid (by rw [HW.out]; exact bel_drewN (bel_drewN (Below.refl _ _) q) nq)
        obtain ⟨wz, hwz⟩ : ∃ wz, wr.drewN nq = wz := ⟨_, rfl⟩
        rw [hwz] at HOq HBq
        rw [hwz]
        clear hwz cx cy hbd HO HW HD zw zw2
        go_wp2_with fail
        go_loopg [3, 5] (n - (j + 1)) (fun gas s3 s5 wy => ∃ (kk m : Nat) (es : List Bs), s3 = .int .i64 (kk : Int) ∧ s5 = .int .i64 ((m : Int) + 1) ∧ j + 1 ≤ kk ∧ kk ≤ j + m + 1 ∧ j + m + 2 ≤ n ∧ j + m + 1 + gas = n ∧ Hid (es.length = n) ∧ Hid (wy.ownsRow base 137 1 (.slice (some ⟨g, 0, none⟩) n c) n (es.flatMap lnC)) ∧ Hid (Below base w wy))
        case atStart => exact ⟨j + 1, 0, ds, by go_num, by go_num, Nat.le_refl _, by omega, by omega, by omega, Lib.hid HN.out.symm, HOq, HBq⟩
        case round =>
          clear HOq HBq
          obtain ⟨kk, m, es, rfl, rfl, hk1, hk2, hm1, hmg, HEL, HO, HB⟩ := hrel
          have HMG := Lib.hid hmg; clear hmg
          by_cases hl2 : j + m + 2 < n
          · obtain ⟨x, hx⟩ : ∃ x, es[j + 1 + m]? = some x := ⟨_, List.getElem?_eq_getElem (by have := HEL.out; omega)⟩
            obtain ⟨y', hy'⟩ : ∃ y', es[j + 1 + (m + 1)]? = some y' := ⟨_, List.getElem?_eq_getElem (by have := HEL.out; omega)⟩
            obtain ⟨z, hz⟩ : ∃ z, es[kk]? = some z := ⟨_, List.getElem?_eq_getElem (by have := HEL.out; omega)⟩
            have cx := own_ln HO.out _ x hx
            have cy := own_ln HO.out _ y' hy'
            have cz := own_ln HO.out _ z hz
            have fz : wr.frozen? ⟨g, kk, none⟩ = false := own_thaw HO.out kk
            unfold strV at cx cy cz
            obtain ⟨U, hU⟩ : ∃ U : ByteArray, (⟨x.toArray⟩ : ByteArray) = U := ⟨_, rfl⟩
            obtain ⟨V, hV⟩ : ∃ V : ByteArray, (⟨y'.toArray⟩ : ByteArray) = V := ⟨_, rfl⟩
            have hbd := refA.beq_dec y' x
            rw [hU] at cx hbd; rw [hV] at cy hbd
            have zw : IntKind.i64.wrap ((m : Int) + 1) = (m : Int) + 1 := IntWalk.i64_in _ (by omega)
            have zw2 : IntKind.i64.wrap ((m : Int) + 1 - 1) = (m : Int) := by rw [IntWalk.i64_in _ (by omega)]; omega
            have zm : (0 : Int) ≤ (m : Int) := by omega
            have zl1 : (m : Int) + 1 < (q1 : Int) := by omega
            have zl3 : (m : Int) < (q1 : Int) := by omega
            have zk : (0 : Int) ≤ (kk : Int) := by omega
            have zkn : (kk : Int) < (n : Int) := by omega
            have hmg := HMG.out
            by_cases hxy : y' = x
            · rw [decide_eq_true hxy] at hbd
              have hUV : V = U := by rw [← hU, ← hV, hxy]
              subst hUV
              clear hx hy' hz hU hV hxy
              trace "e1"
              go_wp2_with fail
              go_quiet (fail)
              go_wp2_with fail
              go_roundg (gk - 1)
              case rel => exact ⟨kk, m + 1, es, rfl, by go_num, by omega, by omega, by omega, by omega, HEL, Lib.hid (own_drewN HO.out _), Lib.hid (bel_drewN HB.out _)⟩
              case measure => omega
            · rw [decide_eq_false hxy] at hbd
              have HST := Lib.hid (own_set HO.out (k := kk) y')
              rw [show strV y' = Value.string V by unfold strV; rw [hV]] at HST
              clear hx hy' hz hU hV hxy
              trace "e2"
              go_wp2_with fail
              go_quiet (fail)
              go_wp2_with fail
              go_roundg (gk - 1)
              case rel => exact ⟨kk + 1, m + 1, es.set kk y', by go_num, by go_num, by omega, by omega, by omega, by omega, Lib.hid (by rw [List.length_set]; exact HEL.out), Lib.hid (own_drewN HST.out.1 _), Lib.hid (bel_drewN (HB.out.grown HST.out.2 (Nat.le_trans hbase HB.out.size) (fun j e => by cases e; exact hg)) _)⟩
              case measure => omega
          · have hme : j + m + 2 = n := by omega
            have s2 := ln_from g n c kk (by omega) hnc (by omega)
            have s3 := ln_to g n c kk (by omega) (by omega)
            obtain ⟨q3, hq3⟩ : ∃ q3, n - kk = q3 := ⟨_, rfl⟩
            obtain ⟨q4, hq4⟩ : ∃ q4, c - kk = q4 := ⟨_, rfl⟩
            have hcl := fun ty => clear_ln g kk q3 q4 (by omega) ty wr (fun i hi => own_some HO.out (kk + i) (by omega)) (fun i hi => own_thaw HO.out (kk + i))
            have HG := Lib.hid (own_clear HO.out kk (List.replicate q3 (strV [])))
            rw [hq3, hq4] at s2
            clear hq3 hq4
            trace "e3"
            go_wp2_with fail
            go_ret
            exact ⟨CutTo.mk (some ⟨g, 0, none⟩) kk c rfl (by rw [HRT.out, decide_eq_false (by omega)]; rfl), HB.out.grown HG.out (Nat.le_trans hbase HB.out.size) (fun j e => by cases e; exact hg)⟩
      · have HD2 : Hid (dupN (ds.drop (j + 1)) = R) := Lib.hid (by rw [← HD.out]; exact (dup_go hx hy (fun e => hxy e.symm)).symm)
        rw [decide_eq_false hxy] at hbd
        clear hx hy hXB hYB hxy
        trace "2"
        go_wp2_with fail
        go_quiet (fail)
        go_wp2_with fail
        have hkg := HK.out
        go_roundg (gk' - 1)
        case rel => exact ⟨j + 1, q + nq, by go_num, by omega, by omega, HD2, Lib.hid (by rw [HW.out]; exact drewN_add _ _ _)⟩
        case measure => omega
    · have hje : j + 1 = n := by omega
      have HRF : Hid (R = false) := Lib.hid (by rw [← HD.out]; exact dup_end (by have := HN.out; omega))
      have zl : ¬ (j : Int) + 1 < (n : Int) := by omega
      trace "3"
      go_wp2_with fail
      go_ret
      exact ⟨CutTo.mk (some ⟨g, 0, none⟩) n c rfl (by rw [HRF.out]; simp), by rw [HW.out]; exact bel_drewN (Below.refl _ _) q⟩
end Go.Proofs.YtflijhodlimjoaaGreat.compactL
namespace Go.Proofs.YtflijhodlimjoaaGreat.cloneL
open Go.RowKit Go.Proofs.YtflijhodlimjoaaGreat.kit Go.Proofs.YtflijhodlimjoaaGreat.timed Go.Proofs.YtflijhodlimjoaaGreat.rows Go.Proofs.YtflijhodlimjoaaGreat.nspec Go.Proofs.YtflijhodlimjoaaGreat.lnP
set_option linter.unusedVariables false

set_option maxRecDepth 100000 in
set_option maxHeartbeats 4000000 in
theorem clone_ln (a : Option Addr) (n c : Nat) (L : List Bs) (w : World) (hn : n = L.length) (hr : RdC w a 1 (L.map lnC)) (ha : a = none → L.length = 0 ∧ c = 0) (hl : n ≤ 1099511627776) :
    Calls Tryz.prog 125 #[.slice a n c] w fun e w' => ∃ a' c', e = .returned (.slice a' n c') ∧ w'.ownsRow w.heap.size 137 1 (.slice a' n c') n (L.flatMap lnC) ∧ Below w.heap.size w w' := by
  obtain ⟨i0, hif, hz0, hz1, hz2⟩ := info_parts infoLn
  have q22 : ∀ (w : World) (a : Option Addr) (n c n' c' : Nat), (binOp .eql 86 (.slice a n c) (.slice none n' c')).run Tryz.prog w = .ok (.bool a.isNone) w := fun w a n c n' c' => Lib.run_eql_slice_nil w _ _ a n c n' c' Tryz.underlying86
  cases a with
  | none =>
    obtain ⟨h0, h1⟩ := ha rfl
    subst hn
    have hL : L = [] := List.eq_nil_of_length_eq_zero h0
    subst hL; subst h1
    clear hr ha
    go_enter Tryz.func125, Tryz.ntmps125
    go_wp2_with fail
    go_ret
    exact ⟨none, 0, rfl, World.ownsRow_nil _ _ _ _, Below.refl _ _⟩
  | some ad =>
    have S1 : Hid (∀ (j : Nat) (u : Value), (L.flatMap lnC)[j]? = some u → w.cell? (ad.add j) = some u) := Lib.hid (by
      rcases cells_rd lnC 1 (by decide) (fun _ => rfl) hr c (fun h => by cases h) with ⟨h, _⟩ | ⟨ad', h1, h2⟩
      · cases h
      · cases h1; exact h2)
    have HN := Lib.hid hn
    clear hr ha hn
    go_enter Tryz.func125, Tryz.ntmps125
    go_wp2_with (at_builtin; refine wpList_append_src rfl _ _ 86 rfl w.heap.size 137 i0 _ 1 16 Tryz.underlying86 hif hz0 hz1 hz2 rfl (by decide) _ 0 [] rfl (World.ownsRow_made w #[] 0 (Nat.le_refl _) (Nat.zero_le _) rfl) (some ad) n c (L.flatMap lnC) rfl (by rw [flat_len lnC 1 (fun _ => rfl), HN.out]) (.inr ⟨ad, rfl, fun j u hj => Lib.cell?_alloc_some _ (S1.out j u hj)⟩) (one_cells ln_one) (by unfold maxLen; omega) (by omega) (by simp) ?_)
    intro v' w1 hown hgr
    have hB : Below w.heap.size w w1 := ((Below.refl _ w).alloc (Nat.le_refl _) _).grown hgr (by simp) (by intro k hk; simp [Value.ownBlock] at hk; omega)
    have ho : w1.ownsRow w.heap.size 137 1 v' n (L.flatMap lnC) := by first | exact hown | simpa using hown
    obtain ⟨a', c', rfl⟩ : ∃ a' c', v' = .slice a' n c' := by
      rcases ho.2 with ⟨h1, h2⟩ | ⟨g, cap, cur, h1, _⟩
      · exact ⟨none, 0, by rw [h1, h2]⟩
      · exact ⟨_, _, h1⟩
    have HO := Lib.hid ho; have HB := Lib.hid hB
    clear hown hgr ho hB hif hz0 hz1 hz2
    go_wp2_with fail
    go_ret
    exact ⟨a', c', rfl, HO.out, HB.out⟩
end Go.Proofs.YtflijhodlimjoaaGreat.cloneL
namespace Go.Proofs.YtflijhodlimjoaaGreat.lines
open Go.RowKit Go.Proofs.YtflijhodlimjoaaGreat.kit Go.Proofs.YtflijhodlimjoaaGreat.timed Go.Proofs.YtflijhodlimjoaaGreat.nspec Go.Proofs.YtflijhodlimjoaaGreat.rsplit Go.Proofs.YtflijhodlimjoaaGreat.fld Go.Proofs.YtflijhodlimjoaaGreat.dfold Go.Proofs.YtflijhodlimjoaaGreat.refA Go.Proofs.YtflijhodlimjoaaGreat.nameB Go.Proofs.YtflijhodlimjoaaGreat.wireP Go.Proofs.YtflijhodlimjoaaGreat.wireM Go.Proofs.YtflijhodlimjoaaGreat.rows Go.Proofs.YtflijhodlimjoaaGreat.sealA Go.Proofs.YtflijhodlimjoaaGreat.sealS Go.Proofs.YtflijhodlimjoaaGreat.sortT Go.Proofs.YtflijhodlimjoaaGreat.sorted Go.Proofs.YtflijhodlimjoaaGreat.lnP Go.Proofs.YtflijhodlimjoaaGreat.isSet Go.Proofs.YtflijhodlimjoaaGreat.check
set_option linter.unusedVariables false

/-- what lines answers -/
def LinesE (w : World) (L : List Rc) (e : Ending) (w' : World) : Prop :=
  ∃ v, e = .returned (.tuple #[v, .bool (setB L)]) ∧ (setB L = true → w'.ownsRow w.heap.size 137 1 v L.length ((sortedT (L.map foldX)).flatMap lnC)) ∧ Below w.heap.size w w'
theorem LinesE.no {w w' : World} {L : List Rc} {e : Ending} (v : Value) (h : setB L = false) (he : e = .returned (.tuple #[v, .bool false])) (hB : Below w.heap.size w w') : LinesE w L e w' :=
  ⟨v, by rw [h]; exact he, fun h' => (by rw [h] at h'; cases h'), hB⟩
theorem LinesE.yes {w w' : World} {L : List Rc} {e : Ending} (v : Value) (b : Bool) (h : setB L = b) (he : e = .returned (.tuple #[v, .bool b])) (hr : w'.ownsRow w.heap.size 137 1 v L.length ((sortedT (L.map foldX)).flatMap lnC)) (hB : Below w.heap.size w w') : LinesE w L e w' :=
  ⟨v, by rw [h]; exact he, fun _ => hr, hB⟩
theorem keep5 {W w w' : World} {X g o : Nat} {v0 v1 u0 u1 : Value} (h : w.cell? ⟨X, 0, none⟩ = some v0 ∧ w.cell? ⟨X, 1, none⟩ = some v1 ∧ w.cell? ⟨g, o, none⟩ = some u0 ∧ w.cell? ⟨g, o + 1, none⟩ = some u1 ∧ Below W.heap.size W w) (hB : Below w.heap.size w w') :
    w'.cell? ⟨X, 0, none⟩ = some v0 ∧ w'.cell? ⟨X, 1, none⟩ = some v1 ∧ w'.cell? ⟨g, o, none⟩ = some u0 ∧ w'.cell? ⟨g, o + 1, none⟩ = some u1 ∧ Below W.heap.size W w' := by
  obtain ⟨a0, a1, b0, b1, h9⟩ := h
  exact ⟨isSet.cell_kept hB a0, isSet.cell_kept hB a1, isSet.cell_kept hB b0, isSet.cell_kept hB b1, h9.trans (hB.mono h9.size)⟩
theorem chk_isB (s : ByteArray) : chkE s = if isB s then 0 else 1 := chk_eq s
theorem one_zon {h x : Rc} (hz : zonB x = false) : oneX h x = false := by unfold oneX; rw [hz]; rfl
/-- the folded data so far -/
theorem take_fold {L : List Rc} {k : Nat} {x : Rc} (hx : L[k]? = some x) : ((L.take (k + 1)).map foldX).flatMap lnC = ((L.take k).map foldX).flatMap lnC ++ [strV (foldX x)] := by
  obtain ⟨h1, h2⟩ := List.getElem?_eq_some_iff.1 hx
  rw [List.take_succ_eq_append_getElem h1, h2, List.map_append, List.flatMap_append]
  rfl
set_option maxRecDepth 100000 in
set_option maxHeartbeats 16000000 in
theorem lines_any (a : Option Addr) (n c : Nat) (L : List Rc) (w : World) (hn : n = L.length) (hr : RdC w a 5 (L.map Rc.cells)) (ho : ∀ x ∈ L, OkR x) (hbig : n ≤ 16777216) :
    Calls Tryz.prog 51 #[.slice a n c] w (LinesE w L) := by
  obtain ⟨i0, hif, hz0, hz1, hz2⟩ := info_parts infoLn
  have HN := Lib.hid hn; have HRD := Lib.hid hr; have HO := Lib.hid ho
  clear hn hr ho
  go_enter Tryz.func51, Tryz.ntmps51
  go_wp2_with fail
  go_loopg [4, 9] (n + 1) (fun gas ov kv wr => ∃ k : Nat, kv = .int .i64 (k : Int) ∧ k ≤ n ∧ k + gas = n + 1 ∧ Hid (∀ h j x, L[0]? = some h → j < k → L[j]? = some x → oneX h x = true) ∧ Hid (wr.ownsRow w.heap.size 137 1 ov k (((L.take k).map foldX).flatMap lnC)) ∧ Hid (k = 0 → ov = .slice none 0 0) ∧ Hid (Below w.heap.size w wr))
  case atStart => exact ⟨0, rfl, by omega, by omega, Lib.hid (fun h j x _ hj => by omega), Lib.hid (World.ownsRow_nil _ _ _ _), Lib.hid (fun _ => rfl), Lib.hid (Below.refl _ _)⟩
  case round =>
    obtain ⟨k, rfl, hk, hkg, HU, HOW, HZ, HB⟩ := hrel
    have HK := Lib.hid hkg; clear hkg
    have hbz : w.heap.size ≤ wr.heap.size := HB.out.size
    obtain ⟨ov, hov⟩ : ∃ ov, u4 = ov := ⟨_, rfl⟩
    subst hov
    by_cases hlt : k < n
    · obtain ⟨x, hx⟩ : ∃ x, L[k]? = some x := ⟨_, List.getElem?_eq_getElem (by have := HN.out; omega)⟩
      obtain ⟨h, h0⟩ : ∃ h, L[0]? = some h := ⟨_, List.getElem?_eq_getElem (by have := HN.out; omega)⟩
      have HX := Lib.hid hx; have H0 := Lib.hid h0
      have hox := HO.out x (List.mem_of_getElem? hx); have hoh := HO.out h (List.mem_of_getElem? h0)
      obtain ⟨g1, o1, rfl, hg1, hc1⟩ := at_r HRD.out hx
      obtain ⟨g2, o2, ha2, hg2, hc2⟩ := at_r HRD.out h0
      cases ha2
      obtain ⟨x0, x1, x2, x3, x4⟩ := hc1.below HB.out hg1
      have hh := hc2.below HB.out hg2
      have hB4 := (Below.refl wr.heap.size wr).alloc (Nat.le_refl _) (.cells #[.string x.o, .int .i64 x.t, .int .i64 x.c, .int .i64 x.l, .string x.d] 34)
      have hy := heap_alloc_new wr (.cells #[.string x.o, .int .i64 x.t, .int .i64 x.c, .int .i64 x.l, .string x.d] 34)
      have h0c := isSet.cell_kept hB4 (a := ⟨g1, o1, none⟩) (v := .string h.o) (by simpa using hh.1)
      have h1c := isSet.cell_kept hB4 (a := ⟨g1, o1 + 1, none⟩) (v := .int .i64 h.t) (by simpa using hh.2.1)
      have CK := Lib.hid (fun wx => check_any x.o wx hox.o)
      have CD := Lib.hid (fun wx => dcheck.dcheck_any x.t x.d wx (Nat.le_trans hox.d (by unfold maxLen; omega)))
      have CE := Lib.hid (fun wx => nequal_any x.o h.o wx hox.o hoh.o)
      have CF := Lib.hid (fun wx => dfold_any x.t x.d wx (Nat.le_trans hox.d (by unfold maxLen; omega)))
      obtain ⟨X, hX⟩ : ∃ X, wr.heap.size = X := ⟨_, rfl⟩
      obtain ⟨w4, hw4⟩ : ∃ w4, wr.alloc (.cells #[.string x.o, .int .i64 x.t, .int .i64 x.c, .int .i64 x.l, .string x.d] 34) = w4 := ⟨_, rfl⟩
      rw [hw4] at hB4 hy h0c h1c
      rw [hX] at hy
      have HB4 := Lib.hid (HB.out.trans (hB4.mono hbz))
      have HBR4 := Lib.hid hB4
      have HW4 := Lib.hid hw4; have HXX := Lib.hid hX
      have y0 : w4.cell? ⟨X, 0, none⟩ = some (.string x.o) := by simp only [World.cell?, hy]; rfl
      have HY := Lib.hid hy
      have zk : (0 : Int) ≤ (k : Int) := by omega
      have zl : (k : Int) < (n : Int) := by omega
      have zn : (0 : Int) < (n : Int) := by omega
      obtain ⟨ck, hck⟩ : ∃ ck, chkE x.o = ck := ⟨_, rfl⟩
      rw [hck] at CK
      rw [chk_isB] at hck
      have HCK := Lib.hid hck
      have HH0 := Lib.hid h0c; have HH1 := Lib.hid h1c
      clear hx h0 hc1 hc2 hh hB4 hy hX hw4 hlt hox hoh hck h0c h1c
      trace "1"
      go_upto_region 5 with fail
      rw [HW4.out]
      try rw [HXX.out]
      clear x0 x1 x2 x3 x4
      go_wp2_with fail
      refine (CK.out _).mono ?_
      rintro e w5 ⟨rfl, hB5⟩
      have hy5 := (hB5.block X (Array.getElem?_eq_some_iff.1 HY.out).1).trans HY.out
      have HB5 := Lib.hid (HB4.out.trans (hB5.mono HB4.out.size))
      have HBR5 := Lib.hid (HBR4.out.trans (hB5.mono HBR4.out.size))
      have HH05 := Lib.hid (isSet.cell_kept hB5 HH0.out); have HH15 := Lib.hid (isSet.cell_kept hB5 HH1.out)
      have y1 : w5.cell? ⟨X, 1, none⟩ = some (.int .i64 x.t) := by simp only [World.cell?, hy5]; rfl
      have y2 : w5.cell? ⟨X, 2, none⟩ = some (.int .i64 x.c) := by simp only [World.cell?, hy5]; rfl
      have y3 : w5.cell? ⟨X, 3, none⟩ = some (.int .i64 x.l) := by simp only [World.cell?, hy5]; rfl
      have y4 : w5.cell? ⟨X, 4, none⟩ = some (.string x.d) := by simp only [World.cell?, hy5]; rfl
      have HY5 := Lib.hid hy5
      have hbz5 : w.heap.size ≤ w5.heap.size := HB5.out.size
      have HZO : Hid (zonB x = (isB x.o && (decide (x.c = 1) && (decide (0 ≤ x.l) && (decide (x.l ≤ 2147483647) && decide (checkS x.t x.d.data.toList = 0)))))) := Lib.hid rfl
      obtain ⟨ce, hce⟩ : ∃ ce, checkS x.t x.d.data.toList = ce := ⟨_, rfl⟩
      rw [hce] at CD HZO
      obtain ⟨xo, hxo⟩ : ∃ z, x.o = z := ⟨_, rfl⟩
      obtain ⟨xt, hxt⟩ : ∃ z, x.t = z := ⟨_, rfl⟩
      obtain ⟨xc, hxc⟩ : ∃ z, x.c = z := ⟨_, rfl⟩
      obtain ⟨xl, hxl⟩ : ∃ z, x.l = z := ⟨_, rfl⟩
      obtain ⟨xd, hxd⟩ : ∃ z, x.d = z := ⟨_, rfl⟩
      rw [hxo] at HZO HCK CE HY5; rw [hxt] at y1 CD CF HY5; rw [hxc] at y2 HZO HY5; rw [hxl] at y3 HZO HY5; rw [hxd] at y4 CD CF HY5
      have HFD : Hid (foldX x = foldDS xt xd.data.toList) := Lib.hid (by rw [← hxt, ← hxd]; rfl)
      have HXT := Lib.hid hxt; have HXO := Lib.hid hxo
      clear hy5 hB5 hce HY HB4 HBR4 y0 HH0 HH1 CK hxo hxt hxc hxl hxd

      cases hib : isB xo with
      | false =>
        have HNO : Hid (setB L = false) := Lib.hid (set_one H0.out HX.out (one_zon (by rw [HZO.out, hib]; rfl)))
        have hck : ck = 1 := by rw [← HCK.out, hib]; rfl
        subst hck
        clear hib
        trace "no"
        go_wp2_with fail
        go_ret2
        exact LinesE.no _ HNO.out rfl HB5.out
      | true =>
      have hck : ck = 0 := by rw [← HCK.out, hib]; rfl
      subst hck
      have HIB := Lib.hid hib
      clear hib
      by_cases h1 : ¬ xc = 1
      · have e1 : (xc == 1) = false := by rw [beq_eq_false_iff_ne]; exact h1
        have HNO : Hid (setB L = false) := Lib.hid (set_one H0.out HX.out (one_zon (by rw [HZO.out, decide_eq_false h1]; simp)))
        trace "no"
        go_wp2_with fail
        go_ret2
        exact LinesE.no _ HNO.out rfl HB5.out
      obtain rfl : xc = 1 := by omega
      by_cases h2 : xl < 0
      · have e2 : decide (0 ≤ xl) = false := decide_eq_false (by omega)
        have HNO : Hid (setB L = false) := Lib.hid (set_one H0.out HX.out (one_zon (by rw [HZO.out, e2]; simp)))
        trace "no"
        go_wp2_with fail
        go_ret2
        exact LinesE.no _ HNO.out rfl HB5.out
      by_cases h3 : 2147483647 < xl
      · have e3 : decide (xl ≤ 2147483647) = false := decide_eq_false (by omega)
        have HNO : Hid (setB L = false) := Lib.hid (set_one H0.out HX.out (one_zon (by rw [HZO.out, e3]; simp)))
        trace "no"
        go_wp2_with fail
        go_ret2
        exact LinesE.no _ HNO.out rfl HB5.out
      by_cases h46 : xt = 46
      · have HNO : Hid (setB L = false) := Lib.hid (set_one H0.out HX.out (by unfold oneX; rw [HXT.out, h46]; simp))
        have HT := Lib.hid h46
        subst h46
        trace "no"
        go_wp2_with fail
        go_ret2
        exact LinesE.no _ HNO.out rfl HB5.out
      have HT := Lib.hid h46
      have b2 : decide (xl < 0) = false := decide_eq_false h2
      have b3 : decide (2147483647 < xl) = false := decide_eq_false h3
      have b46 : (xt == 46) = false := beq_eq_false_iff_ne.2 h46
      have HZ2 : Hid (zonB x = decide (ce = 0)) := Lib.hid (by rw [HZO.out, HIB.out, decide_eq_true (show 0 ≤ xl by omega), decide_eq_true (show xl ≤ 2147483647 by omega)]; simp)
      trace "2"
      go_wp2_with fail
      refine (CD.out _).mono ?_
      rintro e w6 ⟨rfl, hB6⟩
      have hy6 := (hB6.block X (Array.getElem?_eq_some_iff.1 HY5.out).1).trans HY5.out
      have HB6 := Lib.hid (HB5.out.trans (hB6.mono HB5.out.size))
      have HBR6 := Lib.hid (HBR5.out.trans (hB6.mono HBR5.out.size))
      have q0 := isSet.cell_kept hB6 HH05.out; have q1 := isSet.cell_kept hB6 HH15.out
      have z0 : w6.cell? ⟨X, 0, none⟩ = some (.string xo) := by simp only [World.cell?, hy6]; rfl
      have z1 : w6.cell? ⟨X, 1, none⟩ = some (.int .i64 xt) := by simp only [World.cell?, hy6]; rfl
      have HY6 := Lib.hid hy6
      clear hy6 hB6 y1 y2 y3 y4 HB5 HBR5 HH05 HH15 HY5
      by_cases hc0 : ¬ ce = 0
      · have HNO : Hid (setB L = false) := Lib.hid (set_one H0.out HX.out (one_zon (by rw [HZ2.out, decide_eq_false hc0])))
        have bce : (ce != 0) = true := bne_iff_ne.2 hc0
        trace "no"
        go_wp2_with fail
        go_ret2
        exact LinesE.no _ HNO.out rfl HB6.out
      obtain rfl : ce = 0 := by omega
      have HZT : Hid (zonB x = true) := HZ2
      have hBd : Below w6.heap.size w6 w6.drew := (Below.refl _ _).drew
      have hbz6 : w.heap.size ≤ w6.heap.size := HB6.out.size
      have HE : Hid (oneX h x = (xt == h.t && equalS xo.data.toList h.o.data.toList)) := Lib.hid (by unfold oneX; rw [HZT.out, HXT.out, HXO.out, show (xt == 46) = false from beq_eq_false_iff_ne.2 HT.out]; rfl)
      obtain ⟨eq, heq⟩ : ∃ eq, equalS xo.data.toList h.o.data.toList = eq := ⟨_, rfl⟩
      rw [heq] at CE HE
      clear heq h1 h2 h3 h46 b2 b3 b46 hc0 HZ2 HZO HIB HCK CD
      by_cases hth : xt = h.t
      case neg =>
        have HNO : Hid (setB L = false) := Lib.hid (set_one H0.out HX.out (HE.out.trans (by rw [show (xt == h.t) = false from beq_eq_false_iff_ne.2 hth]; rfl)))
        have HTH := Lib.hid hth
        clear hth
        trace "3"
        go_upto_region 7 with fail
        refine heldG.regionG (fun w' => w'.cell? ⟨X, 0, none⟩ = some (.string xo) ∧ w'.cell? ⟨X, 1, none⟩ = some (.int .i64 xt) ∧ w'.cell? ⟨g1, o1, none⟩ = some (.string h.o) ∧ w'.cell? ⟨g1, o1 + 1, none⟩ = some (.int .i64 h.t) ∧ Below w6.heap.size w6 w') (fun _ => false) (by kernel_rfl) ?_
        have hS0 := keep5 (W := w6) ⟨z0, z1, q0, q1, Below.refl _ _⟩ hBd
        refine isSet.takeD (i := 0) (d := 45) (v := .pointer (some ⟨X, 1, none⟩)) rfl rfl (by kernel_rfl) (by kernel_rfl) (by kernel_rfl) (fun _ _ _ h => h) (by kernel_rfl) rfl (Or.inl ⟨by kernel_rfl, ?_⟩) hS0 ?_
        · intro wz hSw
          obtain ⟨s0, s1, s2, s3, s4⟩ := hSw
          go_simp
        try simp only [Act.put, List.setIfInBounds_toArray, List.set_cons_zero, List.set_cons_succ]
        refine isSet.takeD (i := 1) (d := 46) (v := .int .i64 xt) rfl rfl (by kernel_rfl) (by kernel_rfl) (by kernel_rfl) (fun _ _ _ h => h) (by kernel_rfl) rfl (Or.inl ⟨by kernel_rfl, ?_⟩) hS0 ?_
        · intro wz hSw
          obtain ⟨s0, s1, s2, s3, s4⟩ := hSw
          go_simp
        try simp only [Act.put, List.setIfInBounds_toArray, List.set_cons_zero, List.set_cons_succ]
        refine isSet.takeD (i := 2) (d := 47) (v := .slice (some ⟨g1, o1, none⟩) n c) rfl rfl (by kernel_rfl) (by kernel_rfl) (by kernel_rfl) (fun _ _ _ h => h) (by kernel_rfl) rfl (Or.inl ⟨by kernel_rfl, ?_⟩) hS0 ?_
        · intro wz hSw
          obtain ⟨s0, s1, s2, s3, s4⟩ := hSw
          go_simp
        try simp only [Act.put, List.setIfInBounds_toArray, List.set_cons_zero, List.set_cons_succ]
        refine isSet.takeD (i := 3) (d := 48) (v := .pointer (some ⟨g1, o1, none⟩)) rfl rfl (by kernel_rfl) (by kernel_rfl) (by kernel_rfl) (fun _ _ _ h => h) (by kernel_rfl) rfl (Or.inl ⟨by kernel_rfl, ?_⟩) hS0 ?_
        · intro wz hSw
          obtain ⟨s0, s1, s2, s3, s4⟩ := hSw
          go_simp; try (intro h0; exfalso; omega)
        try simp only [Act.put, List.setIfInBounds_toArray, List.set_cons_zero, List.set_cons_succ]
        refine isSet.takeD (i := 4) (d := 49) (v := .pointer (some ⟨g1, o1 + 1, none⟩)) rfl rfl (by kernel_rfl) (by kernel_rfl) (by kernel_rfl) (fun _ _ _ h => h) (by kernel_rfl) rfl (Or.inl ⟨by kernel_rfl, ?_⟩) hS0 ?_
        · intro wz hSw
          obtain ⟨s0, s1, s2, s3, s4⟩ := hSw
          go_simp
        try simp only [Act.put, List.setIfInBounds_toArray, List.set_cons_zero, List.set_cons_succ]
        refine isSet.takeD (i := 5) (d := 50) (v := .int .i64 h.t) rfl rfl (by kernel_rfl) (by kernel_rfl) (by kernel_rfl) (fun _ _ _ h => h) (by kernel_rfl) rfl (Or.inl ⟨by kernel_rfl, ?_⟩) hS0 ?_
        · intro wz hSw
          obtain ⟨s0, s1, s2, s3, s4⟩ := hSw
          go_simp
        try simp only [Act.put, List.setIfInBounds_toArray, List.set_cons_zero, List.set_cons_succ]
        refine isSet.takeD (i := 6) (d := 51) (v := .bool true) rfl rfl (by kernel_rfl) (by kernel_rfl) (by kernel_rfl) (fun _ _ _ h => h) (by kernel_rfl) rfl (Or.inl ⟨by kernel_rfl, ?_⟩) hS0 ?_
        · intro wz hSw
          obtain ⟨s0, s1, s2, s3, s4⟩ := hSw
          go_simp; first | done | exact HTH.out | simp [HTH.out]
        try simp only [Act.put, List.setIfInBounds_toArray, List.set_cons_zero, List.set_cons_succ]
        refine isSet.takeD (i := 7) (d := 52) (v := .bool true) rfl rfl (by kernel_rfl) (by kernel_rfl) (by kernel_rfl) (fun _ _ _ h => h) (by kernel_rfl) rfl (Or.inl ⟨by kernel_rfl, ?_⟩) hS0 ?_
        · intro wz hSw
          obtain ⟨s0, s1, s2, s3, s4⟩ := hSw
          go_simp
        try simp only [Act.put, List.setIfInBounds_toArray, List.set_cons_zero, List.set_cons_succ]
        refine isSet.takeD (i := 8) (d := 53) (v := undef) rfl rfl (by kernel_rfl) (by kernel_rfl) (by kernel_rfl) (fun _ _ _ h => h) (by kernel_rfl) rfl (Or.inr ⟨by kernel_rfl, rfl⟩) hS0 ?_
        try simp only [Act.put, List.setIfInBounds_toArray, List.set_cons_zero, List.set_cons_succ]
        refine isSet.takeD (i := 9) (d := 54) (v := undef) rfl rfl (by kernel_rfl) (by kernel_rfl) (by kernel_rfl) (fun _ _ _ h => h) (by kernel_rfl) rfl (Or.inr ⟨by kernel_rfl, rfl⟩) hS0 ?_
        try simp only [Act.put, List.setIfInBounds_toArray, List.set_cons_zero, List.set_cons_succ]
        refine isSet.takeD (i := 10) (d := 55) (v := undef) rfl rfl (by kernel_rfl) (by kernel_rfl) (by kernel_rfl) (fun _ _ _ h => h) (by kernel_rfl) rfl (Or.inr ⟨by kernel_rfl, rfl⟩) hS0 ?_
        try simp only [Act.put, List.setIfInBounds_toArray, List.set_cons_zero, List.set_cons_succ]
        refine isSet.takeD (i := 11) (d := 56) (v := undef) rfl rfl (by kernel_rfl) (by kernel_rfl) (by kernel_rfl) (fun _ _ _ h => h) (by kernel_rfl) rfl (Or.inr ⟨by kernel_rfl, rfl⟩) hS0 ?_
        try simp only [Act.put, List.setIfInBounds_toArray, List.set_cons_zero, List.set_cons_succ]
        refine isSet.takeD (i := 12) (d := 57) (v := undef) rfl rfl (by kernel_rfl) (by kernel_rfl) (by kernel_rfl) (fun _ _ _ h => h) (by kernel_rfl) rfl (Or.inr ⟨by kernel_rfl, rfl⟩) hS0 ?_
        try simp only [Act.put, List.setIfInBounds_toArray, List.set_cons_zero, List.set_cons_succ]
        refine isSet.takeD (i := 13) (d := 58) (v := undef) rfl rfl (by kernel_rfl) (by kernel_rfl) (by kernel_rfl) (fun _ _ _ h => h) (by kernel_rfl) rfl (Or.inr ⟨by kernel_rfl, rfl⟩) hS0 ?_
        try simp only [Act.put, List.setIfInBounds_toArray, List.set_cons_zero, List.set_cons_succ]
        refine isSet.takeD (i := 14) (d := 59) (v := undef) rfl rfl (by kernel_rfl) (by kernel_rfl) (by kernel_rfl) (fun _ _ _ h => h) (by kernel_rfl) rfl (Or.inr ⟨by kernel_rfl, rfl⟩) hS0 ?_
        try simp only [Act.put, List.setIfInBounds_toArray, List.set_cons_zero, List.set_cons_succ]
        refine isSet.takeD (i := 15) (d := 60) (v := undef) rfl rfl (by kernel_rfl) (by kernel_rfl) (by kernel_rfl) (fun _ _ _ h => h) (by kernel_rfl) rfl (Or.inr ⟨by kernel_rfl, rfl⟩) hS0 ?_
        try simp only [Act.put, List.setIfInBounds_toArray, List.set_cons_zero, List.set_cons_succ]
        refine isSet.takeD (i := 16) (d := 61) (v := .bool true) rfl rfl (by kernel_rfl) (by kernel_rfl) (by kernel_rfl) (fun _ _ _ h => h) (by kernel_rfl) rfl (Or.inl ⟨by kernel_rfl, ?_⟩) hS0 ?_
        · intro wz hSw
          obtain ⟨s0, s1, s2, s3, s4⟩ := hSw
          go_simp
        try simp only [Act.put, List.setIfInBounds_toArray, List.set_cons_zero, List.set_cons_succ]
        have hSF := hS0
        refine heldG.doneG (by kernel_rfl) ?_ _
        have HBN := Lib.hid (HB6.out.trans (hSF.2.2.2.2.mono hbz6))
        trace "no"
        go_wp2_with fail
        go_ret2
        exact LinesE.no _ HNO.out rfl HBN.out
      have HTH := Lib.hid hth
      clear hth
      trace "4"
      go_upto_region 7 with fail
      refine heldG.regionG (fun w' => w'.cell? ⟨X, 0, none⟩ = some (.string xo) ∧ w'.cell? ⟨X, 1, none⟩ = some (.int .i64 xt) ∧ w'.cell? ⟨g1, o1, none⟩ = some (.string h.o) ∧ w'.cell? ⟨g1, o1 + 1, none⟩ = some (.int .i64 h.t) ∧ Below w6.heap.size w6 w') (fun _ => false) (by kernel_rfl) ?_
      have hS0 := keep5 (W := w6) ⟨z0, z1, q0, q1, Below.refl _ _⟩ hBd
      refine isSet.takeD (i := 0) (d := 45) (v := .pointer (some ⟨X, 1, none⟩)) rfl rfl (by kernel_rfl) (by kernel_rfl) (by kernel_rfl) (fun _ _ _ h => h) (by kernel_rfl) rfl (Or.inl ⟨by kernel_rfl, ?_⟩) hS0 ?_
      · intro wz hSw
        obtain ⟨s0, s1, s2, s3, s4⟩ := hSw
        go_simp
      try simp only [Act.put, List.setIfInBounds_toArray, List.set_cons_zero, List.set_cons_succ]
      refine isSet.takeD (i := 1) (d := 46) (v := .int .i64 xt) rfl rfl (by kernel_rfl) (by kernel_rfl) (by kernel_rfl) (fun _ _ _ h => h) (by kernel_rfl) rfl (Or.inl ⟨by kernel_rfl, ?_⟩) hS0 ?_
      · intro wz hSw
        obtain ⟨s0, s1, s2, s3, s4⟩ := hSw
        go_simp
      try simp only [Act.put, List.setIfInBounds_toArray, List.set_cons_zero, List.set_cons_succ]
      refine isSet.takeD (i := 2) (d := 47) (v := .slice (some ⟨g1, o1, none⟩) n c) rfl rfl (by kernel_rfl) (by kernel_rfl) (by kernel_rfl) (fun _ _ _ h => h) (by kernel_rfl) rfl (Or.inl ⟨by kernel_rfl, ?_⟩) hS0 ?_
      · intro wz hSw
        obtain ⟨s0, s1, s2, s3, s4⟩ := hSw
        go_simp
      try simp only [Act.put, List.setIfInBounds_toArray, List.set_cons_zero, List.set_cons_succ]
      refine isSet.takeD (i := 3) (d := 48) (v := .pointer (some ⟨g1, o1, none⟩)) rfl rfl (by kernel_rfl) (by kernel_rfl) (by kernel_rfl) (fun _ _ _ h => h) (by kernel_rfl) rfl (Or.inl ⟨by kernel_rfl, ?_⟩) hS0 ?_
      · intro wz hSw
        obtain ⟨s0, s1, s2, s3, s4⟩ := hSw
        go_simp; try (intro h0; exfalso; omega)
      try simp only [Act.put, List.setIfInBounds_toArray, List.set_cons_zero, List.set_cons_succ]
      refine isSet.takeD (i := 4) (d := 49) (v := .pointer (some ⟨g1, o1 + 1, none⟩)) rfl rfl (by kernel_rfl) (by kernel_rfl) (by kernel_rfl) (fun _ _ _ h => h) (by kernel_rfl) rfl (Or.inl ⟨by kernel_rfl, ?_⟩) hS0 ?_
      · intro wz hSw
        obtain ⟨s0, s1, s2, s3, s4⟩ := hSw
        go_simp
      try simp only [Act.put, List.setIfInBounds_toArray, List.set_cons_zero, List.set_cons_succ]
      refine isSet.takeD (i := 5) (d := 50) (v := .int .i64 h.t) rfl rfl (by kernel_rfl) (by kernel_rfl) (by kernel_rfl) (fun _ _ _ h => h) (by kernel_rfl) rfl (Or.inl ⟨by kernel_rfl, ?_⟩) hS0 ?_
      · intro wz hSw
        obtain ⟨s0, s1, s2, s3, s4⟩ := hSw
        go_simp
      try simp only [Act.put, List.setIfInBounds_toArray, List.set_cons_zero, List.set_cons_succ]
      refine isSet.takeD (i := 6) (d := 51) (v := .bool false) rfl rfl (by kernel_rfl) (by kernel_rfl) (by kernel_rfl) (fun _ _ _ h => h) (by kernel_rfl) rfl (Or.inl ⟨by kernel_rfl, ?_⟩) hS0 ?_
      · intro wz hSw
        obtain ⟨s0, s1, s2, s3, s4⟩ := hSw
        go_simp; first | done | exact HTH.out | simp [HTH.out]
      try simp only [Act.put, List.setIfInBounds_toArray, List.set_cons_zero, List.set_cons_succ]
      refine isSet.takeD (i := 7) (d := 52) (v := .bool false) rfl rfl (by kernel_rfl) (by kernel_rfl) (by kernel_rfl) (fun _ _ _ h => h) (by kernel_rfl) rfl (Or.inl ⟨by kernel_rfl, ?_⟩) hS0 ?_
      · intro wz hSw
        obtain ⟨s0, s1, s2, s3, s4⟩ := hSw
        go_simp
      try simp only [Act.put, List.setIfInBounds_toArray, List.set_cons_zero, List.set_cons_succ]
      refine isSet.takeD (i := 8) (d := 53) (v := .pointer (some ⟨X, 0, none⟩)) rfl rfl (by kernel_rfl) (by kernel_rfl) (by kernel_rfl) (fun _ _ _ h => h) (by kernel_rfl) rfl (Or.inl ⟨by kernel_rfl, ?_⟩) hS0 ?_
      · intro wz hSw
        obtain ⟨s0, s1, s2, s3, s4⟩ := hSw
        go_simp
      try simp only [Act.put, List.setIfInBounds_toArray, List.set_cons_zero, List.set_cons_succ]
      refine isSet.takeD (i := 9) (d := 54) (v := .string xo) rfl rfl (by kernel_rfl) (by kernel_rfl) (by kernel_rfl) (fun _ _ _ h => h) (by kernel_rfl) rfl (Or.inl ⟨by kernel_rfl, ?_⟩) hS0 ?_
      · intro wz hSw
        obtain ⟨s0, s1, s2, s3, s4⟩ := hSw
        go_simp
      try simp only [Act.put, List.setIfInBounds_toArray, List.set_cons_zero, List.set_cons_succ]
      refine isSet.takeD (i := 10) (d := 55) (v := .slice (some ⟨g1, o1, none⟩) n c) rfl rfl (by kernel_rfl) (by kernel_rfl) (by kernel_rfl) (fun _ _ _ h => h) (by kernel_rfl) rfl (Or.inl ⟨by kernel_rfl, ?_⟩) hS0 ?_
      · intro wz hSw
        obtain ⟨s0, s1, s2, s3, s4⟩ := hSw
        go_simp
      try simp only [Act.put, List.setIfInBounds_toArray, List.set_cons_zero, List.set_cons_succ]
      refine isSet.takeD (i := 11) (d := 56) (v := .pointer (some ⟨g1, o1, none⟩)) rfl rfl (by kernel_rfl) (by kernel_rfl) (by kernel_rfl) (fun _ _ _ h => h) (by kernel_rfl) rfl (Or.inl ⟨by kernel_rfl, ?_⟩) hS0 ?_
      · intro wz hSw
        obtain ⟨s0, s1, s2, s3, s4⟩ := hSw
        go_simp; try (intro h0; exfalso; omega)
      try simp only [Act.put, List.setIfInBounds_toArray, List.set_cons_zero, List.set_cons_succ]
      refine isSet.takeD (i := 12) (d := 57) (v := .pointer (some ⟨g1, o1, none⟩)) rfl rfl (by kernel_rfl) (by kernel_rfl) (by kernel_rfl) (fun _ _ _ h => h) (by kernel_rfl) rfl (Or.inl ⟨by kernel_rfl, ?_⟩) hS0 ?_
      · intro wz hSw
        obtain ⟨s0, s1, s2, s3, s4⟩ := hSw
        go_simp
      try simp only [Act.put, List.setIfInBounds_toArray, List.set_cons_zero, List.set_cons_succ]
      refine isSet.takeD (i := 13) (d := 58) (v := .string h.o) rfl rfl (by kernel_rfl) (by kernel_rfl) (by kernel_rfl) (fun _ _ _ h => h) (by kernel_rfl) rfl (Or.inl ⟨by kernel_rfl, ?_⟩) hS0 ?_
      · intro wz hSw
        obtain ⟨s0, s1, s2, s3, s4⟩ := hSw
        go_simp
      try simp only [Act.put, List.setIfInBounds_toArray, List.set_cons_zero, List.set_cons_succ]
      refine heldG.readyG (rs := [14]) (by kernel_rfl) (by simp) ?_
      refine heldG.AllG.cons rfl (fun KK hKK => ?_) heldG.AllG.nil
      go_simp
      refine (CE.out _).mono ?_
      rintro en wb ⟨rfl, hBz⟩
      have hS1 := keep5 hS0 hBz
      dsimp only
      refine hKK.out _ _ (fun _ => hS1) ?_; clear hKK KK hBz
      try simp only [Act.put, List.setIfInBounds_toArray, List.set_cons_zero, List.set_cons_succ]
      refine isSet.takeD (i := 15) (d := 60) (v := .bool !eq) rfl rfl (by kernel_rfl) (by kernel_rfl) (by kernel_rfl) (fun _ _ _ h => h) (by kernel_rfl) rfl (Or.inl ⟨by kernel_rfl, ?_⟩) hS1 ?_
      · intro wz hSw
        obtain ⟨s0, s1, s2, s3, s4⟩ := hSw
        go_simp
      try simp only [Act.put, List.setIfInBounds_toArray, List.set_cons_zero, List.set_cons_succ]
      refine isSet.takeD (i := 16) (d := 61) (v := .bool !eq) rfl rfl (by kernel_rfl) (by kernel_rfl) (by kernel_rfl) (fun _ _ _ h => h) (by kernel_rfl) rfl (Or.inl ⟨by kernel_rfl, ?_⟩) hS1 ?_
      · intro wz hSw
        obtain ⟨s0, s1, s2, s3, s4⟩ := hSw
        go_simp
      try simp only [Act.put, List.setIfInBounds_toArray, List.set_cons_zero, List.set_cons_succ]
      have hSF := hS1
      refine heldG.doneG (by kernel_rfl) ?_ _
      have HBN := Lib.hid (HB6.out.trans (hSF.2.2.2.2.mono hbz6))
      cases eq with
      | false =>
        have HNO : Hid (setB L = false) := Lib.hid (set_one H0.out HX.out (HE.out.trans (by simp)))
        trace "no"
        go_wp2_with fail
        go_ret2
        exact LinesE.no _ HNO.out rfl HBN.out
      | true =>
      have HONE : Hid (oneX h x = true) := Lib.hid (HE.out.trans (by rw [HTH.out]; simp))
      have hy7 := (hSF.2.2.2.2.block X (Array.getElem?_eq_some_iff.1 HY6.out).1).trans HY6.out
      have HBR7 := Lib.hid (HBR6.out.trans (hSF.2.2.2.2.mono HBR6.out.size))
      have t1 : wb.cell? ⟨X, 1, none⟩ = some (.int .i64 xt) := by simp only [World.cell?, hy7]; rfl
      have t4 : wb.cell? ⟨X, 4, none⟩ = some (.string xd) := by simp only [World.cell?, hy7]; rfl
      obtain ⟨D, hD⟩ : ∃ D : ByteArray, (⟨(foldDS xt xd.data.toList).toArray⟩ : ByteArray) = D := ⟨_, rfl⟩
      rw [hD] at CF
      have HTF := Lib.hid (take_fold HX.out)
      rw [HFD.out, show strV (foldDS xt xd.data.toList) = .string D by unfold strV; rw [hD]] at HTF
      obtain ⟨a1, c1, ha1⟩ : ∃ a c, u4 = .slice a k c := by
        rcases own_open HOW.out with ⟨h1, h2⟩ | ⟨g, c, h1, _⟩
        · exact ⟨none, 0, by rw [h1, h2]⟩
        · exact ⟨_, _, h1⟩
      subst ha1
      have HO1 := Lib.hid (bld.own_below HOW.out HBR7.out)
      have hbz7 : w.heap.size ≤ wb.heap.size := HBN.out.size
      clear hD hSF hS0 hS1 hy7 z0 z1 q0 q1 HOW CE HE HY6
      trace "5"
      go_wp2_with fail
      refine (CF.out _).mono ?_
      rintro e w8 ⟨rfl, hB8⟩
      have HO8 := Lib.hid (bld.own_below HO1.out hB8)
      have HB8 := Lib.hid (HBN.out.trans (hB8.mono HBN.out.size))
      have hbz8 : w.heap.size ≤ w8.heap.size := HB8.out.size
      clear hB8 t1 t4 HO1
      trace "6"
      go_wp2_with (at_builtin; refine wpList_append_lies _ rfl _ _ 86 rfl w.heap.size 137 i0 _ 1 16 Tryz.underlying86 hif hz0 hz1 hz2 rfl (by decide) (.slice a1 k c1) k (((L.take k).map foldX).flatMap lnC) rfl (HO8.out.alloc _) ⟨w8.heap.size, 0, none⟩ 1 1 [.string D] rfl rfl ?d1 ?d2 (by decide) ?d3 ?d4 ?d5 _ rfl ?_)
      case d1 => exact World.news_of_block (heap_alloc_new _ _)
      case d2 => intro u hu; simp only [List.mem_singleton] at hu; subst hu; rfl
      case d3 => unfold maxLen; omega
      case d4 => omega
      case d5 => first | omega | (simp; omega)
      intro g3 cp w9 hown9 hgr9 hat9 hlt9
      have HB9 : Hid (Below w.heap.size w w9) := Lib.hid (below_append' (HB8.out.alloc hbz8 _) (by simp; omega) (HO8.out.alloc _) hgr9)
      have HO9 : Hid (w9.ownsRow w.heap.size 137 1 (.slice (some ⟨g3, 0, none⟩) (k + 1) cp) (k + 1) (((L.take (k + 1)).map foldX).flatMap lnC)) := Lib.hid (by rw [HTF.out]; first | exact hown9 | (rw [List.map_take]; exact hown9))
      have HU9 : Hid (∀ h j x, L[0]? = some h → j < k + 1 → L[j]? = some x → oneX h x = true) := Lib.hid (by
        intro h' j z h0' hj hz
        rw [H0.out] at h0'
        cases h0'
        by_cases e : j = k
        · subst e; rw [HX.out] at hz; cases hz; exact HONE.out
        · exact HU.out h j z H0.out (by omega) hz)
      clear hown9 hgr9 hat9 hlt9
      trace "7"
      go_wp2_with fail
      have hkg := HK.out
      go_roundg (gk - 1)
      case rel => exact ⟨k + 1, by go_num, by omega, by omega, HU9, HO9, Lib.hid (fun h => by omega), HB9⟩
      case measure => omega
    · have hke : k = n := by omega
      have HDS : Hid (((L.take k).map foldX) = L.map foldX) := Lib.hid (by rw [List.take_of_length_le (by rw [hke, HN.out]; exact Nat.le_refl _)])
      rw [HDS.out] at HOW
      have zz : ¬ (k : Int) < (n : Int) := by omega
      by_cases hn0 : n = 0
      · have hL : L = [] := List.eq_nil_of_length_eq_zero (by have := HN.out; omega)
        have HNO : Hid (setB L = false) := Lib.hid (by rw [hL]; rfl)
        have hu : u4 = .slice none 0 0 := HZ.out (by omega)
        subst hu
        subst hke
        subst hn0
        have CS := Lib.hid (fun wx => sortL.sortln_none wx)
        trace "8"
        go_wp2_with fail
        refine (CS.out _).mono ?_
        rintro e w6 ⟨rfl, rfl⟩
        go_wp2_with fail
        go_ret2
        exact LinesE.no _ HNO.out rfl HB.out
      · obtain ⟨g, cc, hu, hg, hgs, hkc, hcm⟩ : ∃ g cc, u4 = .slice (some ⟨g, 0, none⟩) k cc ∧ w.heap.size ≤ g ∧ g < wr.heap.size ∧ k ≤ cc ∧ cc ≤ maxLen := by
          rcases own_open HOW.out with ⟨_, h2⟩ | h
          · omega
          · exact h
        subst hu
        subst hke
        have hkL := HN.out
        have CS := Lib.hid (sortL.sortln_any g k cc w.heap.size (L.map foldX) wr (by rw [List.length_map]; exact hkL) (by omega) hbz (by omega) HOW.out)
        have HON : Hid (∀ h, L[0]? = some h → setB L = !dupN (sortedT (L.map foldX))) := Lib.hid (by
          intro h h0
          have hN := lines_nodup L
          cases hd : dupN (sortedT (L.map foldX)) with
          | false =>
            refine (show Upto L h L.length from ⟨fun j x hj hx => HU.out h j x h0 (by rw [hkL]; exact hj) hx, fun i j x y hij hj hx hy he => ?_⟩).all h0
            have h1 := List.pairwise_iff_getElem.1 (hN.1 hd) i j (by simp; omega) (by simpa using hj) hij
            rw [List.getElem_map, List.getElem_map] at h1
            rw [List.getElem?_eq_some_iff.1 hx |>.2, List.getElem?_eq_some_iff.1 hy |>.2] at h1
            exact h1 he.symm
          | true =>
            cases hs : setB L with
            | false => rfl
            | true =>
              have := hN.2 (set_facts hs h0).2
              rw [hd] at this; cases this)
        have hk1 : 1 ≤ k := by omega
        clear hkL hn0
        trace "9"
        go_wp2_with fail
        refine CS.out.mono ?_
        rintro e w6 ⟨rfl, hO6, hB6⟩
        have HO6 := Lib.hid hO6
        have HB6 := Lib.hid (HB.out.trans hB6)
        have hg6 : g < w6.heap.size := Nat.lt_of_lt_of_le hgs hB6.size
        have hlen : Hid (k = (sortedT (L.map foldX)).length) := Lib.hid (by rw [sortedT_len, List.length_map]; exact HN.out)
        obtain ⟨a6, c6, hv6, _, _, _, hrd6⟩ := rdc_own lnC 1 (fun _ => rfl) hlen.out hO6
        cases hv6
        have CC := Lib.hid (fun (wx : World) (hx : Below w6.heap.size w6 wx) => cloneL.clone_ln (some ⟨g, 0, none⟩) k cc (sortedT (L.map foldX)) wx hlen.out (hrd6.below hx rfl) (fun h => by cases h) (by omega))
        clear hO6 hB6 CS hrd6 HOW
        trace "10"
        go_wp2_with fail
        refine (CC.out _ (by first | exact Below.refl _ _ | assumption)).mono ?_
        rintro e w7 ⟨a7, c7, rfl, hO7, hB7⟩
        have HO7 := Lib.hid hO7
        have HB7 := Lib.hid hB7
        have CP := Lib.hid (compactL.compact_any (.slice a7 k c7) k (sortedT (L.map foldX)) w7 w6.heap.size hB7.size hlen.out hO7 (by omega))
        clear hO7 hB7
        trace "11"
        go_wp2_with fail
        refine CP.out.mono ?_
        rintro e w8 ⟨⟨a8, k8, c8, rfl, hd8⟩, hB8⟩
        have HB8 := Lib.hid (HB7.out.trans hB8)
        have HBF := Lib.hid (HB6.out.trans (HB8.out.mono HB6.out.size))
        have HOF : Hid (w8.ownsRow w.heap.size 137 1 (.slice (some ⟨g, 0, none⟩) k cc) k ((sortedT (L.map foldX)).flatMap lnC)) := Lib.hid (bld.own_below HO6.out HB8.out)
        obtain ⟨h, h0⟩ : ∃ h, L[0]? = some h := ⟨_, List.getElem?_eq_getElem (by have := HN.out; omega)⟩
        have HSB := Lib.hid (HON.out h h0)
        clear h0 hB8
        have zk0 : (0 : Int) < (k : Int) := by omega
        cases hdd : dupN (sortedT (L.map foldX)) with
        | true =>
          rw [hdd] at hd8
          have hne : ¬ k8 = k := by
            intro e; rw [decide_eq_true e] at hd8; cases hd8
          have HNO : Hid (setB L = false) := Lib.hid (by rw [HSB.out, hdd]; rfl)
          have e8 : ((k8 : Int) == (k : Int)) = false := beq_eq_false_iff_ne.2 (by omega)
          have e8n : (k8 == k) = false := beq_eq_false_iff_ne.2 hne
          clear hdd hd8
          trace "12"
          go_wp2_with fail
          go_ret2
          exact LinesE.no _ HNO.out rfl HBF.out
        | false =>
          rw [hdd] at hd8
          have he : k8 = k := by simpa using hd8
          subst he
          have HYS : Hid (setB L = true) := Lib.hid (by rw [HSB.out, hdd]; rfl)
          clear hdd hd8
          have HKL := HN
          trace "13"
          go_wp2_with fail
          go_ret2
          refine LinesE.yes _ true HYS.out rfl ?_ HBF.out
          rw [← HKL.out]; exact HOF.out
end Go.Proofs.YtflijhodlimjoaaGreat.lines
namespace Go.Proofs.YtflijhodlimjoaaGreat.keysP
set_option linter.unusedVariables false

def PrimeP (n : Nat) : Prop := 2 ≤ n ∧ ∀ j, 2 ≤ j → j * j ≤ n → n % j ≠ 0
theorem prime_even {n : Nat} (h2 : 2 ≤ n) (he : n % 2 = 0) : PrimeP n ↔ n = 2 := by
  constructor
  · rintro ⟨_, h⟩
    rcases Nat.lt_or_ge n 4 with h4 | h4
    · omega
    · exact absurd he (h 2 (by omega) h4)
  · rintro rfl
    refine ⟨by omega, fun j hj hjj => ?_⟩
    have := Nat.mul_le_mul hj hj
    omega
theorem prime_odd {n : Nat} (h2 : 2 ≤ n) (ho : n % 2 = 1) : PrimeP n ↔ ∀ j, 3 ≤ j → j % 2 = 1 → j * j ≤ n → n % j ≠ 0 := by
  constructor
  · rintro ⟨_, h⟩ j hj _ hjj
    exact h j (by omega) hjj
  · intro h
    refine ⟨h2, fun j hj hjj hz => ?_⟩
    rcases Nat.mod_two_eq_zero_or_one j with hj2 | hj2
    · have hd : j ∣ n := Nat.dvd_of_mod_eq_zero hz
      have h2d : 2 ∣ n := Nat.dvd_trans (Nat.dvd_of_mod_eq_zero hj2) hd
      have := Nat.mod_eq_zero_of_dvd h2d
      omega
    · exact h j (by omega) hj2 hjj hz

/-- d is the inverse of e -/
def Inv (e m d : Nat) : Prop := d < m ∧ (e * d) % m = 1 % m
/-- the number behind which the reference stops -/
theorem first_k {e m d : Nat} (he : 1 ≤ e) (hm : 2 ≤ m) (h : Inv e m d) : ∃ k0, e * d = 1 + k0 * m ∧ k0 < e := by
  obtain ⟨h1, h2⟩ := h
  rw [Nat.mod_eq_of_lt (show 1 < m by omega)] at h2
  refine ⟨e * d / m, ?_, ?_⟩
  · have := Nat.div_add_mod (e * d) m
    rw [h2, Nat.mul_comm m] at this
    omega
  · rw [Nat.div_lt_iff_lt_mul (by omega)]
    exact Nat.mul_lt_mul_of_pos_left h1 he
theorem first_only {e m k k0 d : Nat} (hg : Nat.gcd e m = 1) (h : e * d = 1 + k0 * m) (hk : k ≤ k0) (hk0 : k0 < e) (hz : (1 + k * m) % e = 0) : k = k0 := by
  have h1 : e ∣ 1 + k * m := Nat.dvd_of_mod_eq_zero hz
  have h2 : e ∣ 1 + k0 * m := ⟨d, h.symm⟩
  have h3 : e ∣ (1 + k0 * m) - (1 + k * m) := Nat.dvd_sub h2 h1
  have h4 : (1 + k0 * m) - (1 + k * m) = (k0 - k) * m := by rw [Nat.sub_mul]; omega
  rw [h4] at h3
  have h5 : e ∣ k0 - k := Nat.Coprime.dvd_of_dvd_mul_right hg h3
  rcases Nat.eq_zero_or_pos (k0 - k) with h6 | h6
  · omega
  · have := Nat.le_of_dvd h6 h5; omega
theorem first_d {e m k0 d : Nat} (he : 1 ≤ e) (h : e * d = 1 + k0 * m) : (1 + k0 * m) / e = d := by
  rw [← h]; exact Nat.mul_div_cancel_left d he

/-- Euclid's way: r0, r1 the rests; the factors are neg-ative by turns: a of r0, b of r1 -/
structure Euc (e m r0 r1 : Nat) (s0 s1 : Int) : Prop where
  gcd : Nat.gcd r0 r1 = Nat.gcd e m
  c0 : ((e : Int) * s0 - r0) % m = 0
  c1 : ((e : Int) * s1 - r1) % m = 0
  row : (s1.natAbs) * r0 + s0.natAbs * r1 = m
  sign : (0 ≤ s1 ∧ s0 ≤ 0) ∨ (s1 ≤ 0 ∧ 0 ≤ s0)
  a0 : s0.natAbs ≤ m
  pos : 1 ≤ r0
theorem Euc.start {e m : Nat} (hm : 1 ≤ m) : Euc e m m (e % m) 0 1 where
  gcd := by rw [Nat.gcd_comm m, ← Nat.gcd_rec, Nat.gcd_comm]
  c0 := by simp
  c1 := by
    rw [Int.mul_one, Int.natCast_emod]
    have := Int.emod_add_mul_ediv (e : Int) (m : Int)
    have h : (e : Int) - (e : Int) % (m : Int) = m * ((e : Int) / m) := by omega
    rw [h]; exact Int.mul_emod_right _ _
  row := by simp
  sign := .inl ⟨by omega, by omega⟩
  a0 := by simp
  pos := by omega
theorem mod_sub {a b k m : Int} (h0 : a % m = 0) (h1 : b % m = 0) : (a - k * b) % m = 0 := by
  have d0 := Int.dvd_of_emod_eq_zero h0
  have d1 := Int.dvd_of_emod_eq_zero h1
  exact Int.emod_eq_zero_of_dvd (Int.dvd_sub d0 (Int.dvd_trans d1 (Int.dvd_mul_left k b)))
theorem Euc.step {e m r0 r1 : Nat} {s0 s1 : Int} (h : Euc e m r0 r1 s0 s1) (h1 : 1 ≤ r1) : Euc e m r1 (r0 % r1) s1 (s0 - (r0 / r1 : Nat) * s1) where
  gcd := by rw [← h.gcd, Nat.gcd_comm r1, ← Nat.gcd_rec, Nat.gcd_comm]
  c0 := h.c1
  c1 := by
    have e1 : ((e : Int) * (s0 - (r0 / r1 : Nat) * s1) - ((r0 % r1 : Nat) : Int)) = ((e : Int) * s0 - r0) - ((r0 / r1 : Nat) : Int) * ((e : Int) * s1 - r1) := by
      have := Nat.div_add_mod r0 r1
      have h2 : ((r0 : Nat) : Int) = (r1 : Int) * ((r0 / r1 : Nat) : Int) + ((r0 % r1 : Nat) : Int) := by exact_mod_cast this.symm
      rw [h2, Int.mul_sub, Int.mul_sub, ← Int.mul_assoc, ← Int.mul_assoc, Int.mul_comm (e : Int) ((r0 / r1 : Nat) : Int), Int.mul_comm (r1 : Int)]
      omega
    rw [e1]; exact mod_sub h.c0 h.c1
  row := by
    have hab : (s0 - (r0 / r1 : Nat) * s1).natAbs = s0.natAbs + (r0 / r1) * s1.natAbs := by
      obtain ⟨q, hq⟩ : ∃ q, r0 / r1 = q := ⟨_, rfl⟩
      rw [hq]
      have e2 : ((q : Int) * s1).natAbs = q * s1.natAbs := by rw [Int.natAbs_mul]; rfl
      rcases h.sign with ⟨a, b⟩ | ⟨a, b⟩
      · have : 0 ≤ (q : Int) * s1 := Int.mul_nonneg (by omega) a
        rw [← e2]; omega
      · have : (q : Int) * s1 ≤ 0 := Int.mul_nonpos_of_nonneg_of_nonpos (by omega) a
        rw [← e2]; omega
    have hr := h.row
    rw [hab]
    have hd := Nat.div_add_mod r0 r1
    obtain ⟨q, hq⟩ : ∃ q, r0 / r1 = q := ⟨_, rfl⟩
    obtain ⟨t, ht⟩ : ∃ t, r0 % r1 = t := ⟨_, rfl⟩
    rw [hq, ht] at hd
    rw [hq, ht, ← hr, ← hd, Nat.add_mul, Nat.mul_add, ← Nat.mul_assoc]
    rw [Nat.mul_comm q s1.natAbs, Nat.mul_assoc s1.natAbs q r1, Nat.mul_comm q r1, ← Nat.mul_assoc]
    omega
  sign := by
    rcases h.sign with ⟨a, b⟩ | ⟨a, b⟩
    · right
      have : 0 ≤ ((r0 / r1 : Nat) : Int) * s1 := Int.mul_nonneg (Int.natCast_nonneg _) a
      exact ⟨by omega, a⟩
    · left
      have : ((r0 / r1 : Nat) : Int) * s1 ≤ 0 := Int.mul_nonpos_of_nonneg_of_nonpos (Int.natCast_nonneg _) a
      exact ⟨by omega, a⟩
  a0 := by
    have hr := h.row
    have : s1.natAbs * 1 ≤ s1.natAbs * r0 := Nat.mul_le_mul_left _ h.pos
    omega
  pos := h1
theorem Euc.bound {e m r0 r1 : Nat} {s0 s1 : Int} (h : Euc e m r0 r1 s0 s1) : s1.natAbs ≤ m := by
  have hr := h.row
  have : s1.natAbs * 1 ≤ s1.natAbs * r0 := Nat.mul_le_mul_left _ h.pos
  omega
theorem Euc.next {e m r0 r1 : Nat} {s0 s1 : Int} (h : Euc e m r0 r1 s0 s1) (h1 : 1 ≤ r1) : (((r0 / r1 : Nat) : Int) * s1).natAbs ≤ m := by
  have h2 := (h.step h1).bound
  obtain ⟨q, hq⟩ : ∃ q, r0 / r1 = q := ⟨_, rfl⟩
  rw [hq] at h2 ⊢
  rcases h.sign with ⟨a, b⟩ | ⟨a, b⟩
  · have : 0 ≤ (q : Int) * s1 := Int.mul_nonneg (Int.natCast_nonneg _) a
    omega
  · have : (q : Int) * s1 ≤ 0 := Int.mul_nonpos_of_nonneg_of_nonpos (Int.natCast_nonneg _) a
    omega
theorem Euc.no {e m r0 : Nat} {s0 s1 : Int} (h : Euc e m r0 0 s0 s1) : Nat.gcd e m = r0 := by rw [← h.gcd]; simp
theorem Euc.yes {e m : Nat} {s0 s1 : Int} (h : Euc e m 1 0 s0 s1) (hm : 2 ≤ m) : Inv e m (s0 % (m : Int)).toNat := by
  have hm0 : (0 : Int) < (m : Int) := by omega
  have h1 := Int.emod_nonneg s0 (show (m : Int) ≠ 0 by omega)
  have h2 := Int.emod_lt_of_pos s0 hm0
  obtain ⟨d, hd⟩ : ∃ d : Nat, s0 % (m : Int) = d := ⟨(s0 % (m : Int)).toNat, by omega⟩
  rw [hd, Int.toNat_natCast]
  refine ⟨by omega, ?_⟩
  have hc := h.c0
  have e1 : ((e : Int) * s0) % m = 1 % m := by
    have := Int.emod_emod_of_dvd ((e : Int) * s0 - (1 : Nat)) (Int.dvd_refl (m : Int))
    have h3 := Int.dvd_of_emod_eq_zero hc
    exact Int.emod_eq_emod_iff_emod_sub_eq_zero.2 (by simpa using hc)
  rw [Int.mul_emod, hd] at e1
  have e2 : ((e : Int) * (d : Int)) % m = 1 % m := by
    rw [Int.mul_emod, show (d : Int) % (m : Int) = d from Int.emod_eq_of_lt (by omega) (by omega)]
    exact e1
  exact_mod_cast e2
end Go.Proofs.YtflijhodlimjoaaGreat.keysP
namespace Go.Proofs.YtflijhodlimjoaaGreat.keyW
open Go.RowKit Go.Proofs.YtflijhodlimjoaaGreat.kit Go.Proofs.YtflijhodlimjoaaGreat.keysP
set_option linter.unusedVariables false

/-- what is said of a number is whether it is a prime -/
def Says (n : Nat) (w : World) (e : Ending) (w' : World) : Prop := ∃ b : Bool, e = .returned (.bool b) ∧ (b = true ↔ PrimeP n) ∧ w = w'
theorem says_yes {n : Nat} {w : World} (h : PrimeP n) : Says n w (.returned (.bool true)) w := ⟨true, rfl, ⟨fun _ => h, fun _ => rfl⟩, rfl⟩
theorem says_no {n : Nat} {w : World} (h : ¬ PrimeP n) : Says n w (.returned (.bool false)) w := ⟨false, rfl, ⟨fun h' => (by cases h'), fun h' => absurd h' h⟩, rfl⟩
theorem sq_le {k n : Nat} (h : k * k ≤ n) (hn : n ≤ 2147483648) : k ≤ 46341 := by
  rcases Nat.lt_or_ge k 46342 with h1 | h1
  · omega
  · have := Nat.mul_le_mul h1 h1; omega

set_option maxRecDepth 100000 in
set_option maxHeartbeats 1000000 in
theorem nprime_any (n : Nat) (w : World) (h2 : 2 ≤ n) (hn : n ≤ 2147483648) :
    Calls Tryz.prog 88 #[.int .i64 (n : Int)] w (Says n w) := by
  go_enter Tryz.func88, Tryz.ntmps88
  go_wp2
  go_loopg [3] (46343) (fun gas kv wr => ∃ (k : Nat), kv = .int .i64 k ∧ 2 ≤ k ∧ k ≤ 46342 ∧ k + gas = 46345 ∧ Hid (∀ j, 2 ≤ j → j < k → n % j ≠ 0) ∧ w = wr)
  case atStart => exact ⟨2, rfl, by omega, by omega, by omega, Lib.hid (by omega), rfl⟩
  case round =>
    obtain ⟨k, rfl, hk2, hk, hkg, HJ, rfl⟩ := hrel
    have HK := Lib.hid hkg; clear hkg
    obtain ⟨S, hS⟩ : ∃ S, k * k = S := ⟨_, rfl⟩
    have hSb : S ≤ 46342 * 46342 := by rw [← hS]; exact Nat.mul_le_mul hk hk
    have e1 : Value.int .i64 (wrap64 ((k : Int) * (k : Int))) = Value.int .i64 (S : Int) := by
      have e : (k : Int) * (k : Int) = (S : Int) := by rw [← hS]; simp
      rw [e, IntWalk.wrap64_in _ (by omega)]
    have hk2i : (2 : Int) ≤ (k : Int) := by omega
    by_cases hle : S ≤ n
    · have hk1 := sq_le (by rw [hS]; exact hle) hn
      obtain ⟨t, ht⟩ : ∃ t, n % k = t := ⟨_, rfl⟩
      have e2 : Value.int .i64 ((n : Int) % (k : Int)) = Value.int .i64 (t : Int) := by congr 1; rw [← ht]; simp
      have hlei : (S : Int) ≤ (n : Int) := by omega
      by_cases ht0 : t = 0
      · have HN : Hid (¬ PrimeP n) := Lib.hid (fun h => h.2 k hk2 (by rw [hS]; exact hle) (by rw [ht]; exact ht0))
        have hb : ((t : Int) == 0) = true := by rw [beq_iff_eq]; omega
        clear hS ht ht0
        go_wp2
        go_ret
        exact says_no HN.out
      · have HJ2 : Hid (∀ j, 2 ≤ j → j < k + 1 → n % j ≠ 0) := Lib.hid (by
          intro j a b
          rcases Nat.lt_or_ge j k with h | h
          · exact HJ.out j a h
          · have : j = k := by omega
            subst this; rw [ht]; exact ht0)
        have hb : ((t : Int) == 0) = false := by rw [beq_eq_false_iff_ne]; omega
        clear hS ht ht0
        go_wp2
        have hkg := HK.out
        go_roundg (gk - 1)
        case rel => exact ⟨k + 1, by go_num, by omega, by omega, by omega, HJ2, rfl⟩
        case measure => omega
    · have HN : Hid (PrimeP n) := Lib.hid (by
        refine ⟨h2, fun j a b => ?_⟩
        refine HJ.out j a ?_
        rcases Nat.lt_or_ge j k with h | h
        · exact h
        · have := Nat.mul_le_mul h h; omega)
      have hlei : (n : Int) < (S : Int) := by omega
      clear hS
      go_wp2
      go_ret
      exact says_yes HN.out

end Go.Proofs.YtflijhodlimjoaaGreat.keyW

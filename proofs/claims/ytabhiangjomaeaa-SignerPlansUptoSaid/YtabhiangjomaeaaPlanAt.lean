/- signer.PlanAt, gazetteerref4.PlanAt: walks. -/
import Derived.Test.YtabhiangjomaeaaTimed
namespace Go.Proofs.Ytabhiangjomaeaa.planAt
open Go.RowKit Go.Proofs.Ytabhiangjomaeaa.kit Go.Proofs.Ytabhiangjomaeaa.timed
set_option linter.unusedVariables false

def keyAt (now : Int) (x : Tm) : List Pk := if x.p ≤ now ∧ now < x.v then [⟨x.f, x.m, x.e, x.s, decide (x.a ≤ now) && decide (now < x.r)⟩] else []
def keysAt (now : Int) (L : List Tm) : List Pk := L.flatMap (keyAt now)
def flat (L : List Pk) : List Value := L.flatMap Pk.cells
theorem flat_len (L : List Pk) : (flat L).length = L.length * 5 := by
  induction L with
  | nil => rfl
  | cons x L ih => simp only [flat, List.flatMap_cons, List.length_append, List.length_cons] at *; rw [ih]; simp [Pk.cells]; omega
theorem keysAt_go {now : Int} {L : List Tm} {k : Nat} {x : Tm} {A R : List Pk} (h : A ++ keysAt now (L.drop k) = R) (hx : L[k]? = some x) : (A ++ keyAt now x) ++ keysAt now (L.drop (k + 1)) = R := by
  obtain ⟨h1, h2⟩ := List.getElem?_eq_some_iff.1 hx
  rw [List.drop_eq_getElem_cons h1, h2] at h
  rw [← h]; simp [keysAt]
theorem keysAt_end {now : Int} {L : List Tm} {k : Nat} {A R : List Pk} (h : A ++ keysAt now (L.drop k) = R) (hk : L.length ≤ k) : A = R := by
  rw [List.drop_eq_nil_iff.2 hk] at h; simpa [keysAt] using h

theorem infoPk : (Try.prog.info? 32).map (fun i => (i.zero, i.size, i.bytes)) = some (some (.agg #[.int .i64 0, .int .i64 0, .int .i64 0, .int .i64 0, .bool false]), 5, 40) := by kernel_rfl

/-- a plan's cells -/
structure AtP (w : World) (B : Nat) (v : Value) (h : Bool) (s : ByteArray) (r f u k : Int) : Prop where
  lt : B < w.heap.size
  c0 : w.cell? ⟨B, 0, none⟩ = some v
  c1 : w.cell? ⟨B, 1, none⟩ = some (.bool h)
  c2 : w.cell? ⟨B, 2, none⟩ = some (.string s)
  c3 : w.cell? ⟨B, 3, none⟩ = some (.int .i64 r)
  c4 : w.cell? ⟨B, 4, none⟩ = some (.int .i64 f)
  c5 : w.cell? ⟨B, 5, none⟩ = some (.int .i64 u)
  c6 : w.cell? ⟨B, 6, none⟩ = some (.int .i64 k)
  z : ∀ j, w.frozen? ⟨B, j, none⟩ = false

theorem AtP.below {w w' : World} {B N : Nat} {v : Value} {h : Bool} {s : ByteArray} {r f u k : Int} (p : AtP w B v h s r f u k) (hB : Below N w w') (hl : B < N) : AtP w' B v h s r f u k :=
  ⟨Nat.lt_of_lt_of_le p.lt hB.size, (hB.cell (p := ⟨B, 0, none⟩) hl).trans p.c0, (hB.cell (p := ⟨B, 1, none⟩) hl).trans p.c1, (hB.cell (p := ⟨B, 2, none⟩) hl).trans p.c2, (hB.cell (p := ⟨B, 3, none⟩) hl).trans p.c3, (hB.cell (p := ⟨B, 4, none⟩) hl).trans p.c4, (hB.cell (p := ⟨B, 5, none⟩) hl).trans p.c5, (hB.cell (p := ⟨B, 6, none⟩) hl).trans p.c6,
    fun j => by have := p.z j; simp only [World.frozen?, hB.block B hl] at this ⊢; exact this⟩
theorem AtP.set {w : World} {B : Nat} {v : Value} {h : Bool} {s : ByteArray} {r f u k : Int} (p : AtP w B v h s r f u k) (v' : Value) : AtP (w.setCell ⟨B, 0, none⟩ v') B v' h s r f u k := by
  have o : ∀ j, j ≠ 0 → (w.setCell ⟨B, 0, none⟩ v').cell? ⟨B, j, none⟩ = w.cell? ⟨B, j, none⟩ := fun j hj => World.cell?_setCell_other _ _ _ _ (by intro e; injection e with _ e2; exact hj e2.symm)
  exact ⟨by simpa using p.lt, World.cell?_setCell_same' _ _ _ (by rw [p.c0]; rfl), (o 1 (by omega)).trans p.c1, (o 2 (by omega)).trans p.c2, (o 3 (by omega)).trans p.c3, (o 4 (by omega)).trans p.c4, (o 5 (by omega)).trans p.c5, (o 6 (by omega)).trans p.c6, fun j => by rw [World.frozen?_setCell]; exact p.z j⟩
theorem size_alloc (w : World) (o : Obj) : (w.alloc o).heap.size = w.heap.size + 1 := by simp
theorem AtP.new (w : World) (t : TypeId) (v : Value) (h : Bool) (s : ByteArray) (r f u k : Int) : AtP (w.alloc (.cells #[v, .bool h, .string s, .int .i64 r, .int .i64 f, .int .i64 u, .int .i64 k] t)) w.heap.size v h s r f u k := by
  have hb : (w.alloc (.cells #[v, .bool h, .string s, .int .i64 r, .int .i64 f, .int .i64 u, .int .i64 k] t)).heap[w.heap.size]? = some (.cells #[v, .bool h, .string s, .int .i64 r, .int .i64 f, .int .i64 u, .int .i64 k] t (0, 0)) := heap_alloc_new _ _
  constructor
  · simp
  · simp only [World.cell?, hb]; rfl
  · simp only [World.cell?, hb]; rfl
  · simp only [World.cell?, hb]; rfl
  · simp only [World.cell?, hb]; rfl
  · simp only [World.cell?, hb]; rfl
  · simp only [World.cell?, hb]; rfl
  · simp only [World.cell?, hb]; rfl
  · intro j; simp only [World.frozen?, hb]; simp
theorem AtP.fresh (w : World) (t : TypeId) (b : Nat) (hb : b = w.heap.size) (v : Value) (h : Bool) (s : ByteArray) (r f u k : Int) : AtP (w.alloc (.cells #[v, .bool h, .string s, .int .i64 r, .int .i64 f, .int .i64 u, .int .i64 k] t)) b v h s r f u k := by
  subst hb; exact AtP.new _ _ _ _ _ _ _ _ _
theorem AtP.alloc {w : World} {B : Nat} {v : Value} {h : Bool} {s : ByteArray} {r f u k : Int} (p : AtP w B v h s r f u k) (o : Obj) : AtP (w.alloc o) B v h s r f u k :=
  p.below ((Below.refl w.heap.size w).alloc (Nat.le_refl _) o) p.lt
theorem AtP.other {w : World} {B : Nat} {v : Value} {h : Bool} {s : ByteArray} {r f u k : Int} (p : AtP w B v h s r f u k) (b : Nat) (hb : b ≠ B) (v' : Value) : AtP (w.setCell ⟨b, 0, none⟩ v') B v h s r f u k := by
  have o : ∀ j, (w.setCell ⟨b, 0, none⟩ v').cell? ⟨B, j, none⟩ = w.cell? ⟨B, j, none⟩ := fun j => World.cell?_setCell_other _ _ _ _ (by intro e; injection e with e1 e2; first | exact hb e1 | exact hb e1.symm)
  exact ⟨by simpa using p.lt, (o 0).trans p.c0, (o 1).trans p.c1, (o 2).trans p.c2, (o 3).trans p.c3, (o 4).trans p.c4, (o 5).trans p.c5, (o 6).trans p.c6, fun j => by rw [World.frozen?_setCell]; exact p.z j⟩
theorem cells_new (w : World) (e : TypeId) (b : Nat) (hb : b = w.heap.size) (cs : List Value) : ∀ (j : Nat) (u : Value), cs[j]? = some u → (w.alloc (.cells cs.toArray e)).cell? ((⟨b, 0, none⟩ : Addr).add j) = some u := by
  intro j u h
  subst hb
  have h1 : (w.alloc (.cells cs.toArray e)).heap[w.heap.size]? = some (.cells cs.toArray e (0, 0)) := heap_alloc_new _ _
  rw [addr_add]
  simp only [World.cell?, h1]
  simp [h]

theorem own_base {w : World} {base base' : Nat} {e : TypeId} {size : Nat} {v : Value} {n : Nat} {xs : List Value} (hb : base' ≤ base) (h : w.ownsRow base e size v n xs) : w.ownsRow base' e size v n xs := by
  refine ⟨h.1, ?_⟩
  rcases h.2 with h | ⟨g, cap, cur, h1, h2, h3⟩
  · exact .inl h
  · exact .inr ⟨g, cap, cur, h1, Nat.le_trans hb h2, h3⟩
theorem own_slice5 {w : World} {base : Nat} {e : TypeId} {size : Nat} {v : Value} {n : Nat} {xs : List Value} (h : w.ownsRow base e size v n xs) : ∃ a c, v = .slice a n c := by
  rcases h.2 with ⟨rfl, rfl⟩ | ⟨g, cap, cur, rfl, _⟩
  · exact ⟨_, _, rfl⟩
  · exact ⟨_, _, rfl⟩

set_option maxRecDepth 100000 in
set_option maxHeartbeats 4000000 in
theorem plan_any (a : Option Addr) (n c : Nat) (L : List Tm) (a0 : Option Addr) (n0 c0 : Nat) (hd : Bool) (sl : ByteArray) (ro fr un kt now : Int) (w : World) (hn : n = L.length) (hr : RdC w a 8 (L.map Tm.cells)) (hbig : n ≤ 1099511627776) :
    Calls Try.prog 13 #[.slice a n c, .agg #[.slice a0 n0 c0, .bool hd, .string sl, .int .i64 ro, .int .i64 fr, .int .i64 un, .int .i64 kt], .int .i64 now] w fun e w' =>
      ∃ v, e = .returned (.agg #[v, .bool hd, .string sl, .int .i64 ro, .int .i64 fr, .int .i64 un, .int .i64 kt]) ∧ w'.ownsRow w.heap.size 32 5 v (keysAt now L).length (flat (keysAt now L)) ∧ Below w.heap.size w w' := by
  obtain ⟨i0, hi, hz0, hz1, hz2⟩ := info_parts infoPk
  obtain ⟨R, HR⟩ : ∃ R, Hid (keysAt now L = R) := ⟨_, Lib.hid rfl⟩
  rw [HR.out]
  have HN := Lib.hid hn; have HRD := Lib.hid hr
  clear hn hr
  go_enter Try.func13, Try.ntmps13
  go_wp2_with fail
  go_loopg [8, 12] (n + 1) (fun gas _ kv wr => ∃ (k : Nat) (A : List Pk) (v : Value), kv = .int .i64 k ∧ k ≤ n ∧ k + gas = n + 1 ∧ Hid (A.length ≤ k) ∧ Hid (A ++ keysAt now (L.drop k) = R) ∧ Hid (AtP wr w.heap.size v hd sl ro fr un kt) ∧ Hid (AtP wr (w.heap.size + 1) (.slice none 0 0) false ⟨#[]⟩ 0 0 0 0) ∧ Hid (wr.ownsRow (w.heap.size + 2) 32 5 v A.length (flat A)) ∧ Hid (Below w.heap.size w wr))
  case atStart =>
    refine ⟨0, [], .slice none 0 0, rfl, by omega, by omega, Lib.hid (by simp), Lib.hid (by rw [List.drop_zero]; exact HR.out), Lib.hid ?_, Lib.hid ?_, Lib.hid (World.ownsRow_nil _ _ _ _), Lib.hid ?_⟩
    · exact (AtP.new _ _ _ _ _ _ _ _ _).alloc _
    · have h := AtP.new (w.alloc (.cells #[.slice none 0 0, .bool hd, .string sl, .int .i64 ro, .int .i64 fr, .int .i64 un, .int .i64 kt] 25)) 25 (.slice none 0 0) false ⟨#[]⟩ 0 0 0 0
      rw [size_alloc] at h; exact h
    · exact ((Below.refl _ _).alloc (Nat.le_refl _) _).alloc (by simp) _
  case round =>
    obtain ⟨k, A, v, rfl, hk, hkg, HAk, HW, HP, HQ, HO, HB⟩ := hrel
    have HK := Lib.hid hkg; clear hkg
    by_cases hlt : k < n
    · obtain ⟨x, hx⟩ : ∃ x, L[k]? = some x := ⟨_, List.getElem?_eq_getElem (by have := HN.out; omega)⟩
      obtain ⟨g1, o1, rfl, hg1, hcl1⟩ := HRD.out.at_t hx
      obtain ⟨x0, x1, x2, x3, x4, x5, x6, x7⟩ := hcl1.below HB.out hg1
      have HST := Lib.hid (keysAt_go HW.out hx)
      have zk : (0 : Int) ≤ (k : Int) := by omega
      have zl : (k : Int) < (n : Int) := by omega
      have HX := Lib.hid hcl1
      clear hx hcl1 hlt
      by_cases h1 : x.p ≤ now
      · by_cases h2 : now < x.v
        · have e1 : decide (x.p ≤ now) = true := by simpa using h1
          have e2 : decide (now < x.v) = true := by simpa using h2
          by_cases h3 : x.a ≤ now
          · by_cases h4 : now < x.r
            · have e3 : decide (x.a ≤ now) = true := by simpa using h3
              have e4 : decide (now < x.r) = true := by simpa using h4
              have hlt := HP.out.lt
              have hlt2 : w.heap.size + 2 ≤ wr.heap.size := HQ.out.lt
              have hlt3 : w.heap.size + 2 ≤ wr.heap.size + 1 := by omega
              have hcc0 := HP.out.c0
              have hz := HP.out.z 0
              have HST2 : Hid ((A ++ [⟨x.f, x.m, x.e, x.s, true⟩]) ++ keysAt now (L.drop (k + 1)) = R) := Lib.hid (by
                have h := HST.out
                unfold keyAt at h
                rw [if_pos ⟨h1, h2⟩] at h
                rw [show (⟨x.f, x.m, x.e, x.s, true⟩ : Pk) = ⟨x.f, x.m, x.e, x.s, decide (x.a ≤ now) && decide (now < x.r)⟩ by congr 1; simp [h3, h4]]
                exact h)
              have hAb : A.length ≤ 1099511627776 := by have := HAk.out; omega
              clear h1 h2
              go_wp2_with (at_builtin; refine wpList_append_own _ rfl _ _ 23 rfl (w.heap.size + 2) 32 i0 _ 5 40 Try.underlying23 hi hz0 hz1 hz2 rfl (by decide) _ _ _ rfl ((HO.out.alloc _).alloc _) ⟨wr.heap.size + 1, 0, none⟩ 1 1 [.int .i64 x.f, .int .i64 x.m, .int .i64 x.e, .int .i64 x.s, .bool true] rfl rfl ?cx1 ?cx2 ?cx3 ?cx4 ?cx5 ?_)
              try (case cx1 => exact cells_new _ _ _ (by simp) [.int .i64 x.f, .int .i64 x.m, .int .i64 x.e, .int .i64 x.s, .bool true])
              case cx2 => simp [Value.oneCell']
              case cx3 => unfold maxLen; omega
              case cx4 => omega
              case cx5 => first | omega | (simp; omega)
              intro v' w1 hown' hgrow _
              obtain ⟨av, cv, rfl⟩ := own_slice5 hown'
              have hB2 := below_append ((Below.refl (w.heap.size + 2) wr).alloc hlt2 (.cells #[.int .i64 x.f, .int .i64 x.m, .int .i64 x.e, .int .i64 x.s, .int .i64 x.p, .int .i64 x.a, .int .i64 x.r, .int .i64 x.v] 79))  (by simp; omega) (HO.out.alloc _) hgrow
              have HP2 := Lib.hid ((HP.out.below hB2 (by omega)).set (.slice av (A.length + 1) cv))
              have HQ2 := Lib.hid ((HQ.out.below hB2 (by omega)).other w.heap.size (by omega) (.slice av (A.length + 1) cv))
              have HO2 : Hid ((w1.setCell ⟨w.heap.size, 0, none⟩ (.slice av (A.length + 1) cv)).ownsRow (w.heap.size + 2) 32 5 (.slice av (A.length + 1) cv) (A ++ [(⟨x.f, x.m, x.e, x.s, true⟩ : Pk)]).length (flat (A ++ [(⟨x.f, x.m, x.e, x.s, true⟩ : Pk)]))) := Lib.hid (by
                refine ownsRow_setCell_below ?_ (show w.heap.size < w.heap.size + 2 by omega) _
                simpa [flat, Pk.cells] using hown')
              have HB2 : Hid (Below w.heap.size w (w1.setCell ⟨w.heap.size, 0, none⟩ (.slice av (A.length + 1) cv))) := Lib.hid ((HB.out.trans (hB2.mono (by omega))).setCell (p := ⟨w.heap.size, 0, none⟩) (Nat.le_refl _) _)
              have hc1 := (HP.out.below hB2 (by omega)).c0
              have hz1 := (HP.out.below hB2 (by omega)).z 0
              have hlt1 := (HP.out.below hB2 (by omega)).lt
              clear hown' hgrow hB2 hcc0 hz
              go_wp2_with fail
              have hkg := HK.out
              go_roundg (gk - 1)
              case rel => exact ⟨k + 1, _, _, by go_num, by omega, by omega, Lib.hid (by simp; exact HAk.out), HST2, HP2, HQ2, HO2, HB2⟩
              case measure => omega
            · have e3 : decide (x.a ≤ now) = true := by simpa using h3
              have e4 : decide (now < x.r) = false := by simpa using h4
              have hlt := HP.out.lt
              have hlt2 : w.heap.size + 2 ≤ wr.heap.size := HQ.out.lt
              have hlt3 : w.heap.size + 2 ≤ wr.heap.size + 1 := by omega
              have hcc0 := HP.out.c0
              have hz := HP.out.z 0
              have HST2 : Hid ((A ++ [⟨x.f, x.m, x.e, x.s, false⟩]) ++ keysAt now (L.drop (k + 1)) = R) := Lib.hid (by
                have h := HST.out
                unfold keyAt at h
                rw [if_pos ⟨h1, h2⟩] at h
                rw [show (⟨x.f, x.m, x.e, x.s, false⟩ : Pk) = ⟨x.f, x.m, x.e, x.s, decide (x.a ≤ now) && decide (now < x.r)⟩ by congr 1; simp [h3, h4]]
                exact h)
              have hAb : A.length ≤ 1099511627776 := by have := HAk.out; omega
              clear h1 h2
              go_wp2_with (at_builtin; refine wpList_append_own _ rfl _ _ 23 rfl (w.heap.size + 2) 32 i0 _ 5 40 Try.underlying23 hi hz0 hz1 hz2 rfl (by decide) _ _ _ rfl ((HO.out.alloc _).alloc _) ⟨wr.heap.size + 1, 0, none⟩ 1 1 [.int .i64 x.f, .int .i64 x.m, .int .i64 x.e, .int .i64 x.s, .bool false] rfl rfl ?cy1 ?cy2 ?cy3 ?cy4 ?cy5 ?_)
              try (case cy1 => exact cells_new _ _ _ (by simp) [.int .i64 x.f, .int .i64 x.m, .int .i64 x.e, .int .i64 x.s, .bool false])
              case cy2 => simp [Value.oneCell']
              case cy3 => unfold maxLen; omega
              case cy4 => omega
              case cy5 => first | omega | (simp; omega)
              intro v' w1 hown' hgrow _
              obtain ⟨av, cv, rfl⟩ := own_slice5 hown'
              have hB2 := below_append ((Below.refl (w.heap.size + 2) wr).alloc hlt2 (.cells #[.int .i64 x.f, .int .i64 x.m, .int .i64 x.e, .int .i64 x.s, .int .i64 x.p, .int .i64 x.a, .int .i64 x.r, .int .i64 x.v] 79))  (by simp; omega) (HO.out.alloc _) hgrow
              have HP2 := Lib.hid ((HP.out.below hB2 (by omega)).set (.slice av (A.length + 1) cv))
              have HQ2 := Lib.hid ((HQ.out.below hB2 (by omega)).other w.heap.size (by omega) (.slice av (A.length + 1) cv))
              have HO2 : Hid ((w1.setCell ⟨w.heap.size, 0, none⟩ (.slice av (A.length + 1) cv)).ownsRow (w.heap.size + 2) 32 5 (.slice av (A.length + 1) cv) (A ++ [(⟨x.f, x.m, x.e, x.s, false⟩ : Pk)]).length (flat (A ++ [(⟨x.f, x.m, x.e, x.s, false⟩ : Pk)]))) := Lib.hid (by
                refine ownsRow_setCell_below ?_ (show w.heap.size < w.heap.size + 2 by omega) _
                simpa [flat, Pk.cells] using hown')
              have HB2 : Hid (Below w.heap.size w (w1.setCell ⟨w.heap.size, 0, none⟩ (.slice av (A.length + 1) cv))) := Lib.hid ((HB.out.trans (hB2.mono (by omega))).setCell (p := ⟨w.heap.size, 0, none⟩) (Nat.le_refl _) _)
              have hc1 := (HP.out.below hB2 (by omega)).c0
              have hz1 := (HP.out.below hB2 (by omega)).z 0
              have hlt1 := (HP.out.below hB2 (by omega)).lt
              clear hown' hgrow hB2 hcc0 hz
              go_wp2_with fail
              have hkg := HK.out
              go_roundg (gk - 1)
              case rel => exact ⟨k + 1, _, _, by go_num, by omega, by omega, Lib.hid (by simp; exact HAk.out), HST2, HP2, HQ2, HO2, HB2⟩
              case measure => omega
          · have e3 : decide (x.a ≤ now) = false := by simpa using h3
            have hlt := HP.out.lt
            have hlt2 : w.heap.size + 2 ≤ wr.heap.size := HQ.out.lt
            have hlt3 : w.heap.size + 2 ≤ wr.heap.size + 1 := by omega
            have hcc0 := HP.out.c0
            have hz := HP.out.z 0
            have HST2 : Hid ((A ++ [⟨x.f, x.m, x.e, x.s, false⟩]) ++ keysAt now (L.drop (k + 1)) = R) := Lib.hid (by
              have h := HST.out
              unfold keyAt at h
              rw [if_pos ⟨h1, h2⟩] at h
              rw [show (⟨x.f, x.m, x.e, x.s, false⟩ : Pk) = ⟨x.f, x.m, x.e, x.s, decide (x.a ≤ now) && decide (now < x.r)⟩ by congr 1; simp [h3]]
              exact h)
            have hAb : A.length ≤ 1099511627776 := by have := HAk.out; omega
            clear h1 h2
            go_wp2_with (at_builtin; refine wpList_append_own _ rfl _ _ 23 rfl (w.heap.size + 2) 32 i0 _ 5 40 Try.underlying23 hi hz0 hz1 hz2 rfl (by decide) _ _ _ rfl ((HO.out.alloc _).alloc _) ⟨wr.heap.size + 1, 0, none⟩ 1 1 [.int .i64 x.f, .int .i64 x.m, .int .i64 x.e, .int .i64 x.s, .bool false] rfl rfl ?cz1 ?cz2 ?cz3 ?cz4 ?cz5 ?_)
            try (case cz1 => exact cells_new _ _ _ (by simp) [.int .i64 x.f, .int .i64 x.m, .int .i64 x.e, .int .i64 x.s, .bool false])
            case cz2 => simp [Value.oneCell']
            case cz3 => unfold maxLen; omega
            case cz4 => omega
            case cz5 => first | omega | (simp; omega)
            intro v' w1 hown' hgrow _
            obtain ⟨av, cv, rfl⟩ := own_slice5 hown'
            have hB2 := below_append ((Below.refl (w.heap.size + 2) wr).alloc hlt2 (.cells #[.int .i64 x.f, .int .i64 x.m, .int .i64 x.e, .int .i64 x.s, .int .i64 x.p, .int .i64 x.a, .int .i64 x.r, .int .i64 x.v] 79))  (by simp; omega) (HO.out.alloc _) hgrow
            have HP2 := Lib.hid ((HP.out.below hB2 (by omega)).set (.slice av (A.length + 1) cv))
            have HQ2 := Lib.hid ((HQ.out.below hB2 (by omega)).other w.heap.size (by omega) (.slice av (A.length + 1) cv))
            have HO2 : Hid ((w1.setCell ⟨w.heap.size, 0, none⟩ (.slice av (A.length + 1) cv)).ownsRow (w.heap.size + 2) 32 5 (.slice av (A.length + 1) cv) (A ++ [(⟨x.f, x.m, x.e, x.s, false⟩ : Pk)]).length (flat (A ++ [(⟨x.f, x.m, x.e, x.s, false⟩ : Pk)]))) := Lib.hid (by
              refine ownsRow_setCell_below ?_ (show w.heap.size < w.heap.size + 2 by omega) _
              simpa [flat, Pk.cells] using hown')
            have HB2 : Hid (Below w.heap.size w (w1.setCell ⟨w.heap.size, 0, none⟩ (.slice av (A.length + 1) cv))) := Lib.hid ((HB.out.trans (hB2.mono (by omega))).setCell (p := ⟨w.heap.size, 0, none⟩) (Nat.le_refl _) _)
            have hc1 := (HP.out.below hB2 (by omega)).c0
            have hz1 := (HP.out.below hB2 (by omega)).z 0
            have hlt1 := (HP.out.below hB2 (by omega)).lt
            clear hown' hgrow hB2 hcc0 hz
            go_wp2_with fail
            have hkg := HK.out
            go_roundg (gk - 1)
            case rel => exact ⟨k + 1, _, _, by go_num, by omega, by omega, Lib.hid (by simp; exact HAk.out), HST2, HP2, HQ2, HO2, HB2⟩
            case measure => omega
        · have HST2 : Hid (A ++ keysAt now (L.drop (k + 1)) = R) := Lib.hid (by
            have h := HST.out
            unfold keyAt at h
            rw [if_neg (by omega), List.append_nil] at h; exact h)
          have e1 : decide (x.p ≤ now) = true := by simpa using h1
          have e2 : decide (now < x.v) = false := by simpa using h2
          have hlt2 : w.heap.size + 2 ≤ wr.heap.size := HQ.out.lt
          have hB2 := (Below.refl (w.heap.size + 2) wr).alloc hlt2 (.cells #[.int .i64 x.f, .int .i64 x.m, .int .i64 x.e, .int .i64 x.s, .int .i64 x.p, .int .i64 x.a, .int .i64 x.r, .int .i64 x.v] 79)
          have HP2 := Lib.hid (HP.out.below hB2 (by omega))
          have HQ2 := Lib.hid (HQ.out.below hB2 (by omega))
          have HO2 := Lib.hid (HO.out.alloc (.cells #[.int .i64 x.f, .int .i64 x.m, .int .i64 x.e, .int .i64 x.s, .int .i64 x.p, .int .i64 x.a, .int .i64 x.r, .int .i64 x.v] 79))
          have HB2 := Lib.hid (HB.out.trans (hB2.mono (by omega)))
          clear hB2 h1 h2
          go_wp2_with fail
          have hkg := HK.out
          go_roundg (gk - 1)
          case rel => exact ⟨k + 1, _, v, by go_num, by omega, by omega, Lib.hid (Nat.le_succ_of_le HAk.out), HST2, HP2, HQ2, HO2, HB2⟩
          case measure => omega
      · have HST2 : Hid (A ++ keysAt now (L.drop (k + 1)) = R) := Lib.hid (by
          have h := HST.out
          unfold keyAt at h
          rw [if_neg (by omega), List.append_nil] at h; exact h)
        have e1 : decide (x.p ≤ now) = false := by simpa using h1
        have hlt2 : w.heap.size + 2 ≤ wr.heap.size := HQ.out.lt
        have hB2 := (Below.refl (w.heap.size + 2) wr).alloc hlt2 (.cells #[.int .i64 x.f, .int .i64 x.m, .int .i64 x.e, .int .i64 x.s, .int .i64 x.p, .int .i64 x.a, .int .i64 x.r, .int .i64 x.v] 79)
        have HP2 := Lib.hid (HP.out.below hB2 (by omega))
        have HQ2 := Lib.hid (HQ.out.below hB2 (by omega))
        have HO2 := Lib.hid (HO.out.alloc (.cells #[.int .i64 x.f, .int .i64 x.m, .int .i64 x.e, .int .i64 x.s, .int .i64 x.p, .int .i64 x.a, .int .i64 x.r, .int .i64 x.v] 79))
        have HB2 := Lib.hid (HB.out.trans (hB2.mono (by omega)))
        clear hB2 h1
        go_wp2_with fail
        have hkg := HK.out
        go_roundg (gk - 1)
        case rel => exact ⟨k + 1, _, v, by go_num, by omega, by omega, Lib.hid (Nat.le_succ_of_le HAk.out), HST2, HP2, HQ2, HO2, HB2⟩
        case measure => omega
    · have hAR := Lib.hid (keysAt_end HW.out (by have := HN.out; omega))
      have hO := HO.out
      have hP := HP.out
      rw [hAR.out] at hO
      have hlt := hP.lt
      have hc0 := hP.c0; have hc1 := hP.c1; have hc2 := hP.c2; have hc3 := hP.c3; have hc4 := hP.c4; have hc5 := hP.c5; have hc6 := hP.c6
      obtain ⟨av, cv, rfl⟩ := own_slice5 hO
      have hlt1 : w.heap.size + 1 < wr.heap.size := HQ.out.lt
      have hQ := HQ.out
      have hd0 := hQ.c0; have hd1 := hQ.c1; have hd2 := hQ.c2; have hd3 := hQ.c3; have hd4 := hQ.c4; have hd5 := hQ.c5; have hd6 := hQ.c6
      have hy0 := hQ.z 0; have hy1 := hQ.z 1; have hy2 := hQ.z 2; have hy3 := hQ.z 3; have hy4 := hQ.z 4; have hy5 := hQ.z 5; have hy6 := hQ.z 6
      clear hP hQ
      go_wp2_with fail
      refine bodyPost_ret (v := .agg #[.slice av R.length cv, .bool hd, .string sl, .int .i64 ro, .int .i64 fr, .int .i64 un, .int .i64 kt]) (by simp [results, Try.results13, go_sem, hd0, hd1, hd2, hd3, hd4, hd5, hd6]) rfl ⟨_, rfl, ?_, ?_⟩
      · have st : ∀ {w1 : World} {xs : List Value} {v : Value} {m : Nat} (j : Nat) (u : Value), w1.ownsRow (w.heap.size + 2) 32 5 v m xs → (w1.setCell ⟨w.heap.size + 1, j, none⟩ u).ownsRow (w.heap.size + 2) 32 5 v m xs := fun j u h => ownsRow_setCell_below h (show w.heap.size + 1 < w.heap.size + 2 by omega) u
        exact own_base (by omega) (st 6 _ (st 5 _ (st 4 _ (st 3 _ (st 2 _ (st 1 _ (st 0 _ hO)))))))
      · exact ((((((HB.out.setCell (by simp) _).setCell (by simp) _).setCell (by simp) _).setCell (by simp) _).setCell (by simp) _).setCell (by simp) _).setCell (by simp) _
set_option maxRecDepth 100000 in
set_option maxHeartbeats 4000000 in
theorem rplan_any (a : Option Addr) (n c : Nat) (L : List Tm) (a0 : Option Addr) (n0 c0 : Nat) (hd : Bool) (sl : ByteArray) (ro fr un kt now : Int) (w : World) (hn : n = L.length) (hr : RdC w a 8 (L.map Tm.cells)) (hbig : n ≤ 1099511627776) :
    Calls Try.prog 14 #[.slice a n c, .agg #[.slice a0 n0 c0, .bool hd, .string sl, .int .i64 ro, .int .i64 fr, .int .i64 un, .int .i64 kt], .int .i64 now] w fun e w' =>
      ∃ v, e = .returned (.agg #[v, .bool hd, .string sl, .int .i64 ro, .int .i64 fr, .int .i64 un, .int .i64 kt]) ∧ w'.ownsRow w.heap.size 32 5 v (keysAt now L).length (flat (keysAt now L)) ∧ Below w.heap.size w w' := by
  obtain ⟨i0, hi, hz0, hz1, hz2⟩ := info_parts infoPk
  obtain ⟨R, HR⟩ : ∃ R, Hid (keysAt now L = R) := ⟨_, Lib.hid rfl⟩
  rw [HR.out]
  have HN := Lib.hid hn; have HRD := Lib.hid hr
  clear hn hr
  go_enter Try.func14, Try.ntmps14
  go_wp2_with fail
  go_loopg [9, 14] (n + 1) (fun gas _ kv wr => ∃ (k : Nat) (A : List Pk) (v : Value), kv = .int .i64 k ∧ k ≤ n ∧ k + gas = n + 1 ∧ Hid (A.length ≤ k) ∧ Hid (A ++ keysAt now (L.drop k) = R) ∧ Hid (AtP wr (w.heap.size + 2) v hd sl ro fr un kt) ∧ Hid (AtP wr (w.heap.size + 1) (.slice none 0 0) false ⟨#[]⟩ 0 0 0 0) ∧ Hid (wr.ownsRow (w.heap.size + 3) 32 5 v A.length (flat A)) ∧ Hid (Below w.heap.size w wr))
  case atStart =>
    refine ⟨0, [], .slice none 0 0, rfl, by omega, by omega, Lib.hid (by simp), Lib.hid (by rw [List.drop_zero]; exact HR.out), Lib.hid ?_, Lib.hid ?_, Lib.hid (World.ownsRow_nil _ _ _ _), Lib.hid ?_⟩
    · exact AtP.fresh _ _ _ (by simp) _ _ _ _ _ _ _
    · exact (AtP.fresh _ _ _ (by simp) _ _ _ _ _ _ _).alloc _
    · exact (((Below.refl _ _).alloc (Nat.le_refl _) _).alloc (by simp) _).alloc (by simp; omega) _
  case round =>
    obtain ⟨k, A, v, rfl, hk, hkg, HAk, HW, HP, HQ, HO, HB⟩ := hrel
    have HK := Lib.hid hkg; clear hkg
    by_cases hlt : k < n
    · obtain ⟨x, hx⟩ : ∃ x, L[k]? = some x := ⟨_, List.getElem?_eq_getElem (by have := HN.out; omega)⟩
      obtain ⟨g1, o1, rfl, hg1, hcl1⟩ := HRD.out.at_t hx
      obtain ⟨x0, x1, x2, x3, x4, x5, x6, x7⟩ := hcl1.below HB.out hg1
      have HST := Lib.hid (keysAt_go HW.out hx)
      have zk : (0 : Int) ≤ (k : Int) := by omega
      have zl : (k : Int) < (n : Int) := by omega
      have HX := Lib.hid hcl1
      clear hx hcl1 hlt
      by_cases h1 : x.p ≤ now
      · by_cases h2 : now < x.v
        · have e1 : decide (x.p ≤ now) = true := by simpa using h1
          have e2 : decide (now < x.v) = true := by simpa using h2
          by_cases h3 : x.a ≤ now
          · by_cases h4 : now < x.r
            · have e3 : decide (x.a ≤ now) = true := by simpa using h3
              have e4 : decide (now < x.r) = true := by simpa using h4
              have hlt := HP.out.lt
              have hlt2 : w.heap.size + 3 ≤ wr.heap.size := HP.out.lt
              have hlt3 : w.heap.size + 3 ≤ wr.heap.size + 1 := by omega
              have hcc0 := HP.out.c0
              have hz := HP.out.z 0
              have HST2 : Hid ((A ++ [⟨x.f, x.m, x.e, x.s, true⟩]) ++ keysAt now (L.drop (k + 1)) = R) := Lib.hid (by
                have h := HST.out
                unfold keyAt at h
                rw [if_pos ⟨h1, h2⟩] at h
                rw [show (⟨x.f, x.m, x.e, x.s, true⟩ : Pk) = ⟨x.f, x.m, x.e, x.s, decide (x.a ≤ now) && decide (now < x.r)⟩ by congr 1; simp [h3, h4]]
                exact h)
              have hAb : A.length ≤ 1099511627776 := by have := HAk.out; omega
              clear h1 h2
              go_wp2_with (at_builtin; refine wpList_append_own _ rfl _ _ 23 rfl (w.heap.size + 3) 32 i0 _ 5 40 Try.underlying23 hi hz0 hz1 hz2 rfl (by decide) _ _ _ rfl ((HO.out.alloc _).alloc _) ⟨wr.heap.size + 1, 0, none⟩ 1 1 [.int .i64 x.f, .int .i64 x.m, .int .i64 x.e, .int .i64 x.s, .bool true] rfl rfl ?cx1 ?cx2 ?cx3 ?cx4 ?cx5 ?_)
              try (case cx1 => exact cells_new _ _ _ (by simp) [.int .i64 x.f, .int .i64 x.m, .int .i64 x.e, .int .i64 x.s, .bool true])
              case cx2 => simp [Value.oneCell']
              case cx3 => unfold maxLen; omega
              case cx4 => omega
              case cx5 => first | omega | (simp; omega)
              intro v' w1 hown' hgrow _
              obtain ⟨av, cv, rfl⟩ := own_slice5 hown'
              have hB2 := below_append ((Below.refl (w.heap.size + 3) wr).alloc hlt2 (.cells #[.int .i64 x.f, .int .i64 x.m, .int .i64 x.e, .int .i64 x.s, .int .i64 x.p, .int .i64 x.a, .int .i64 x.r, .int .i64 x.v] 79))  (by simp; omega) (HO.out.alloc _) hgrow
              have HP2 := Lib.hid ((HP.out.below hB2 (by omega)).set (.slice av (A.length + 1) cv))
              have HQ2 := Lib.hid ((HQ.out.below hB2 (by omega)).other (w.heap.size + 2) (by omega) (.slice av (A.length + 1) cv))
              have HO2 : Hid ((w1.setCell ⟨w.heap.size + 2, 0, none⟩ (.slice av (A.length + 1) cv)).ownsRow (w.heap.size + 3) 32 5 (.slice av (A.length + 1) cv) (A ++ [(⟨x.f, x.m, x.e, x.s, true⟩ : Pk)]).length (flat (A ++ [(⟨x.f, x.m, x.e, x.s, true⟩ : Pk)]))) := Lib.hid (by
                refine ownsRow_setCell_below ?_ (show w.heap.size + 2 < w.heap.size + 3 by omega) _
                simpa [flat, Pk.cells] using hown')
              have HB2 : Hid (Below w.heap.size w (w1.setCell ⟨w.heap.size + 2, 0, none⟩ (.slice av (A.length + 1) cv))) := Lib.hid ((HB.out.trans (hB2.mono (by omega))).setCell (p := ⟨w.heap.size + 2, 0, none⟩) (by simp) _)
              have hc1 := (HP.out.below hB2 (by omega)).c0
              have hz1 := (HP.out.below hB2 (by omega)).z 0
              have hlt1 := (HP.out.below hB2 (by omega)).lt
              clear hown' hgrow hB2 hcc0 hz
              go_wp2_with fail
              have hkg := HK.out
              go_roundg (gk - 1)
              case rel => exact ⟨k + 1, _, _, by go_num, by omega, by omega, Lib.hid (by simp; exact HAk.out), HST2, HP2, HQ2, HO2, HB2⟩
              case measure => omega
            · have e3 : decide (x.a ≤ now) = true := by simpa using h3
              have e4 : decide (now < x.r) = false := by simpa using h4
              have hlt := HP.out.lt
              have hlt2 : w.heap.size + 3 ≤ wr.heap.size := HP.out.lt
              have hlt3 : w.heap.size + 3 ≤ wr.heap.size + 1 := by omega
              have hcc0 := HP.out.c0
              have hz := HP.out.z 0
              have HST2 : Hid ((A ++ [⟨x.f, x.m, x.e, x.s, false⟩]) ++ keysAt now (L.drop (k + 1)) = R) := Lib.hid (by
                have h := HST.out
                unfold keyAt at h
                rw [if_pos ⟨h1, h2⟩] at h
                rw [show (⟨x.f, x.m, x.e, x.s, false⟩ : Pk) = ⟨x.f, x.m, x.e, x.s, decide (x.a ≤ now) && decide (now < x.r)⟩ by congr 1; simp [h3, h4]]
                exact h)
              have hAb : A.length ≤ 1099511627776 := by have := HAk.out; omega
              clear h1 h2
              go_wp2_with (at_builtin; refine wpList_append_own _ rfl _ _ 23 rfl (w.heap.size + 3) 32 i0 _ 5 40 Try.underlying23 hi hz0 hz1 hz2 rfl (by decide) _ _ _ rfl ((HO.out.alloc _).alloc _) ⟨wr.heap.size + 1, 0, none⟩ 1 1 [.int .i64 x.f, .int .i64 x.m, .int .i64 x.e, .int .i64 x.s, .bool false] rfl rfl ?cy1 ?cy2 ?cy3 ?cy4 ?cy5 ?_)
              try (case cy1 => exact cells_new _ _ _ (by simp) [.int .i64 x.f, .int .i64 x.m, .int .i64 x.e, .int .i64 x.s, .bool false])
              case cy2 => simp [Value.oneCell']
              case cy3 => unfold maxLen; omega
              case cy4 => omega
              case cy5 => first | omega | (simp; omega)
              intro v' w1 hown' hgrow _
              obtain ⟨av, cv, rfl⟩ := own_slice5 hown'
              have hB2 := below_append ((Below.refl (w.heap.size + 3) wr).alloc hlt2 (.cells #[.int .i64 x.f, .int .i64 x.m, .int .i64 x.e, .int .i64 x.s, .int .i64 x.p, .int .i64 x.a, .int .i64 x.r, .int .i64 x.v] 79))  (by simp; omega) (HO.out.alloc _) hgrow
              have HP2 := Lib.hid ((HP.out.below hB2 (by omega)).set (.slice av (A.length + 1) cv))
              have HQ2 := Lib.hid ((HQ.out.below hB2 (by omega)).other (w.heap.size + 2) (by omega) (.slice av (A.length + 1) cv))
              have HO2 : Hid ((w1.setCell ⟨w.heap.size + 2, 0, none⟩ (.slice av (A.length + 1) cv)).ownsRow (w.heap.size + 3) 32 5 (.slice av (A.length + 1) cv) (A ++ [(⟨x.f, x.m, x.e, x.s, false⟩ : Pk)]).length (flat (A ++ [(⟨x.f, x.m, x.e, x.s, false⟩ : Pk)]))) := Lib.hid (by
                refine ownsRow_setCell_below ?_ (show w.heap.size + 2 < w.heap.size + 3 by omega) _
                simpa [flat, Pk.cells] using hown')
              have HB2 : Hid (Below w.heap.size w (w1.setCell ⟨w.heap.size + 2, 0, none⟩ (.slice av (A.length + 1) cv))) := Lib.hid ((HB.out.trans (hB2.mono (by omega))).setCell (p := ⟨w.heap.size + 2, 0, none⟩) (by simp) _)
              have hc1 := (HP.out.below hB2 (by omega)).c0
              have hz1 := (HP.out.below hB2 (by omega)).z 0
              have hlt1 := (HP.out.below hB2 (by omega)).lt
              clear hown' hgrow hB2 hcc0 hz
              go_wp2_with fail
              have hkg := HK.out
              go_roundg (gk - 1)
              case rel => exact ⟨k + 1, _, _, by go_num, by omega, by omega, Lib.hid (by simp; exact HAk.out), HST2, HP2, HQ2, HO2, HB2⟩
              case measure => omega
          · have e3 : decide (x.a ≤ now) = false := by simpa using h3
            have hlt := HP.out.lt
            have hlt2 : w.heap.size + 3 ≤ wr.heap.size := HP.out.lt
            have hlt3 : w.heap.size + 3 ≤ wr.heap.size + 1 := by omega
            have hcc0 := HP.out.c0
            have hz := HP.out.z 0
            have HST2 : Hid ((A ++ [⟨x.f, x.m, x.e, x.s, false⟩]) ++ keysAt now (L.drop (k + 1)) = R) := Lib.hid (by
              have h := HST.out
              unfold keyAt at h
              rw [if_pos ⟨h1, h2⟩] at h
              rw [show (⟨x.f, x.m, x.e, x.s, false⟩ : Pk) = ⟨x.f, x.m, x.e, x.s, decide (x.a ≤ now) && decide (now < x.r)⟩ by congr 1; simp [h3]]
              exact h)
            have hAb : A.length ≤ 1099511627776 := by have := HAk.out; omega
            clear h1 h2
            go_wp2_with (at_builtin; refine wpList_append_own _ rfl _ _ 23 rfl (w.heap.size + 3) 32 i0 _ 5 40 Try.underlying23 hi hz0 hz1 hz2 rfl (by decide) _ _ _ rfl ((HO.out.alloc _).alloc _) ⟨wr.heap.size + 1, 0, none⟩ 1 1 [.int .i64 x.f, .int .i64 x.m, .int .i64 x.e, .int .i64 x.s, .bool false] rfl rfl ?cz1 ?cz2 ?cz3 ?cz4 ?cz5 ?_)
            try (case cz1 => exact cells_new _ _ _ (by simp) [.int .i64 x.f, .int .i64 x.m, .int .i64 x.e, .int .i64 x.s, .bool false])
            case cz2 => simp [Value.oneCell']
            case cz3 => unfold maxLen; omega
            case cz4 => omega
            case cz5 => first | omega | (simp; omega)
            intro v' w1 hown' hgrow _
            obtain ⟨av, cv, rfl⟩ := own_slice5 hown'
            have hB2 := below_append ((Below.refl (w.heap.size + 3) wr).alloc hlt2 (.cells #[.int .i64 x.f, .int .i64 x.m, .int .i64 x.e, .int .i64 x.s, .int .i64 x.p, .int .i64 x.a, .int .i64 x.r, .int .i64 x.v] 79))  (by simp; omega) (HO.out.alloc _) hgrow
            have HP2 := Lib.hid ((HP.out.below hB2 (by omega)).set (.slice av (A.length + 1) cv))
            have HQ2 := Lib.hid ((HQ.out.below hB2 (by omega)).other (w.heap.size + 2) (by omega) (.slice av (A.length + 1) cv))
            have HO2 : Hid ((w1.setCell ⟨w.heap.size + 2, 0, none⟩ (.slice av (A.length + 1) cv)).ownsRow (w.heap.size + 3) 32 5 (.slice av (A.length + 1) cv) (A ++ [(⟨x.f, x.m, x.e, x.s, false⟩ : Pk)]).length (flat (A ++ [(⟨x.f, x.m, x.e, x.s, false⟩ : Pk)]))) := Lib.hid (by
              refine ownsRow_setCell_below ?_ (show w.heap.size + 2 < w.heap.size + 3 by omega) _
              simpa [flat, Pk.cells] using hown')
            have HB2 : Hid (Below w.heap.size w (w1.setCell ⟨w.heap.size + 2, 0, none⟩ (.slice av (A.length + 1) cv))) := Lib.hid ((HB.out.trans (hB2.mono (by omega))).setCell (p := ⟨w.heap.size + 2, 0, none⟩) (by simp) _)
            have hc1 := (HP.out.below hB2 (by omega)).c0
            have hz1 := (HP.out.below hB2 (by omega)).z 0
            have hlt1 := (HP.out.below hB2 (by omega)).lt
            clear hown' hgrow hB2 hcc0 hz
            go_wp2_with fail
            have hkg := HK.out
            go_roundg (gk - 1)
            case rel => exact ⟨k + 1, _, _, by go_num, by omega, by omega, Lib.hid (by simp; exact HAk.out), HST2, HP2, HQ2, HO2, HB2⟩
            case measure => omega
        · have HST2 : Hid (A ++ keysAt now (L.drop (k + 1)) = R) := Lib.hid (by
            have h := HST.out
            unfold keyAt at h
            rw [if_neg (by omega), List.append_nil] at h; exact h)
          have e1 : decide (x.p ≤ now) = true := by simpa using h1
          have e2 : decide (now < x.v) = false := by simpa using h2
          have hlt2 : w.heap.size + 3 ≤ wr.heap.size := HP.out.lt
          have hB2 := (Below.refl (w.heap.size + 3) wr).alloc hlt2 (.cells #[.int .i64 x.f, .int .i64 x.m, .int .i64 x.e, .int .i64 x.s, .int .i64 x.p, .int .i64 x.a, .int .i64 x.r, .int .i64 x.v] 79)
          have HP2 := Lib.hid (HP.out.below hB2 (by omega))
          have HQ2 := Lib.hid (HQ.out.below hB2 (by omega))
          have HO2 := Lib.hid (HO.out.alloc (.cells #[.int .i64 x.f, .int .i64 x.m, .int .i64 x.e, .int .i64 x.s, .int .i64 x.p, .int .i64 x.a, .int .i64 x.r, .int .i64 x.v] 79))
          have HB2 := Lib.hid (HB.out.trans (hB2.mono (by omega)))
          clear hB2 h1 h2
          go_wp2_with fail
          have hkg := HK.out
          go_roundg (gk - 1)
          case rel => exact ⟨k + 1, _, v, by go_num, by omega, by omega, Lib.hid (Nat.le_succ_of_le HAk.out), HST2, HP2, HQ2, HO2, HB2⟩
          case measure => omega
      · have HST2 : Hid (A ++ keysAt now (L.drop (k + 1)) = R) := Lib.hid (by
          have h := HST.out
          unfold keyAt at h
          rw [if_neg (by omega), List.append_nil] at h; exact h)
        have e1 : decide (x.p ≤ now) = false := by simpa using h1
        have hlt2 : w.heap.size + 3 ≤ wr.heap.size := HP.out.lt
        have hB2 := (Below.refl (w.heap.size + 3) wr).alloc hlt2 (.cells #[.int .i64 x.f, .int .i64 x.m, .int .i64 x.e, .int .i64 x.s, .int .i64 x.p, .int .i64 x.a, .int .i64 x.r, .int .i64 x.v] 79)
        have HP2 := Lib.hid (HP.out.below hB2 (by omega))
        have HQ2 := Lib.hid (HQ.out.below hB2 (by omega))
        have HO2 := Lib.hid (HO.out.alloc (.cells #[.int .i64 x.f, .int .i64 x.m, .int .i64 x.e, .int .i64 x.s, .int .i64 x.p, .int .i64 x.a, .int .i64 x.r, .int .i64 x.v] 79))
        have HB2 := Lib.hid (HB.out.trans (hB2.mono (by omega)))
        clear hB2 h1
        go_wp2_with fail
        have hkg := HK.out
        go_roundg (gk - 1)
        case rel => exact ⟨k + 1, _, v, by go_num, by omega, by omega, Lib.hid (Nat.le_succ_of_le HAk.out), HST2, HP2, HQ2, HO2, HB2⟩
        case measure => omega
    · have hAR := Lib.hid (keysAt_end HW.out (by have := HN.out; omega))
      have hO := HO.out
      have hP := HP.out
      rw [hAR.out] at hO
      have hlt := hP.lt
      have hc0 := hP.c0; have hc1 := hP.c1; have hc2 := hP.c2; have hc3 := hP.c3; have hc4 := hP.c4; have hc5 := hP.c5; have hc6 := hP.c6
      obtain ⟨av, cv, rfl⟩ := own_slice5 hO
      have hlt1 : w.heap.size + 1 < wr.heap.size := HQ.out.lt
      have hQ := HQ.out
      have hd0 := hQ.c0; have hd1 := hQ.c1; have hd2 := hQ.c2; have hd3 := hQ.c3; have hd4 := hQ.c4; have hd5 := hQ.c5; have hd6 := hQ.c6
      have hy0 := hQ.z 0; have hy1 := hQ.z 1; have hy2 := hQ.z 2; have hy3 := hQ.z 3; have hy4 := hQ.z 4; have hy5 := hQ.z 5; have hy6 := hQ.z 6
      clear hP hQ
      go_wp2_with fail
      refine bodyPost_ret (v := .agg #[.slice av R.length cv, .bool hd, .string sl, .int .i64 ro, .int .i64 fr, .int .i64 un, .int .i64 kt]) (by simp [results, Try.results14, go_sem, hd0, hd1, hd2, hd3, hd4, hd5, hd6]) rfl ⟨_, rfl, ?_, ?_⟩
      · have st : ∀ {w1 : World} {xs : List Value} {v : Value} {m : Nat} (j : Nat) (u : Value), w1.ownsRow (w.heap.size + 3) 32 5 v m xs → (w1.setCell ⟨w.heap.size + 1, j, none⟩ u).ownsRow (w.heap.size + 3) 32 5 v m xs := fun j u h => ownsRow_setCell_below h (show w.heap.size + 1 < w.heap.size + 3 by omega) u
        exact own_base (by omega) (st 6 _ (st 5 _ (st 4 _ (st 3 _ (st 2 _ (st 1 _ (st 0 _ hO)))))))
      · exact ((((((HB.out.setCell (by simp) _).setCell (by simp) _).setCell (by simp) _).setCell (by simp) _).setCell (by simp) _).setCell (by simp) _).setCell (by simp) _
end Go.Proofs.Ytabhiangjomaeaa.planAt

/- gazetteerref2: whole, brief, (*paper).record: walks. gazetteerref2.CheckMessage: walk (printed by gen_checkm.py). -/
import Derived.Test.YtnamkladeaohoaaGreatK19
import Derived.Test.YtnamkladeaohoaaGreatK20
import Derived.Deep.RegionHeld3
import Derived.Deep.DeepCutAuto
namespace Go.Proofs.YtnamkladeaohoaaGreat.rrec
open Go.RowKit Go.Proofs.YtnamkladeaohoaaGreat.kit Go.Proofs.YtnamkladeaohoaaGreat.takes Go.Proofs.YtnamkladeaohoaaGreat.nspec Go.Proofs.YtnamkladeaohoaaGreat.rsplit Go.Proofs.YtnamkladeaohoaaGreat.bits Go.Proofs.YtnamkladeaohoaaGreat.bld Go.Proofs.YtnamkladeaohoaaGreat.coded Go.Proofs.YtnamkladeaohoaaGreat.fld Go.Proofs.YtnamkladeaohoaaGreat.wireP Go.Proofs.YtnamkladeaohoaaGreat.packP Go.Proofs.YtnamkladeaohoaaGreat.buf Go.Proofs.YtnamkladeaohoaaGreat.big Go.Proofs.YtnamkladeaohoaaGreat.psmall Go.Proofs.YtnamkladeaohoaaGreat.fits Go.Proofs.YtnamkladeaohoaaGreat.rpaper Go.Proofs.YtnamkladeaohoaaGreat.rpname
set_option linter.unusedVariables false

set_option maxRecDepth 100000 in
set_option maxHeartbeats 2000000 in
theorem whole_any (s : ByteArray) (ls : List Bs) (t : Bs) (w : World) (hs : s.data.toList = put ls ++ t) (ho : okL ls) (hl : s.size ≤ 1099511627776) :
    Calls Tryz.prog 184 #[.string s] w fun e w' => e = .returned (.int .i64 ((put ls).length : Int)) ∧ w' = w := by
  obtain ⟨N, hN⟩ : ∃ N, (put ls).length = N := ⟨_, rfl⟩
  rw [hN]
  have HN0 : Hid (0 + (put ls).length = N) := Lib.hid (by omega)
  have HD0 : Hid (s.data.toList.drop 0 = put ls ++ t) := Lib.hid (by rw [List.drop_zero]; exact hs)
  have HO := Lib.hid ho
  have hNs : Hid (N + t.length = s.size) := Lib.hid (by rw [← size_len, hs, List.length_append, hN])
  clear hs ho hN
  go_enter Tryz.func184, Tryz.ntmps184
  go_wp2_with fail
  go_loopg [3] (ls.length + 1) (fun gas kv wr => ∃ (ls' : List Bs) (k : Nat), kv = .int .i64 (k : Int) ∧ Hid (ls'.length < gas) ∧ Hid (okL ls') ∧ Hid (k + (put ls').length = N) ∧ Hid (s.data.toList.drop k = put ls' ++ t) ∧ wr = w)
  case atStart => exact ⟨ls, 0, rfl, Lib.hid (by omega), HO, HN0, HD0, rfl⟩
  case round =>
    obtain ⟨ls', k, rfl, HG, HOK, HK, HD, rfl⟩ := hrel
    have hpos : 1 ≤ (put ls').length := by cases ls' <;> simp [put]
    have hks : k < s.size := by have := HK.out; have := hNs.out; omega
    obtain ⟨c, hc⟩ : ∃ c, s[k]'hks = c := ⟨_, rfl⟩
    have hcd := drop_cons s k hks
    rw [HD.out, hc] at hcd
    have hki : (k : Int) < (s.size : Int) := by omega
    cases ls' with
    | nil =>
      have hc0 : c = 0 := by
        simp only [put, List.cons_append, List.nil_append] at hcd
        exact (List.cons.inj hcd).1.symm
      have hres : Value.int .i64 ((k : Int) + 1) = Value.int .i64 (N : Int) := by
        have := HK.out; simp only [put, List.length_cons, List.length_nil] at this; congr 1; omega
      subst hc0
      clear hpos hcd
      go_wp2_with fail
      go_ret
      exact ⟨by first | rfl | rw [hres], rfl⟩
    | cons x r =>
      have hx := (okL_cons.1 HOK.out).1
      have hcx : c = UInt8.ofNat x.length := by
        simp only [put, List.cons_append] at hcd
        exact (List.cons.inj hcd).1.symm
      have hcn : c.toNat = x.length := by rw [hcx, UInt8.toNat_ofNat_of_lt' (by show x.length < 256; omega)]
      have hcb : ((c.toNat : Int) != 0) = true := by simp; omega
      have HOKr := Lib.hid (okL_cons.1 HOK.out).2
      have HK2 : Hid (k + (1 + x.length) + (put r).length = N) := Lib.hid (by have := HK.out; simp only [put, List.length_cons, List.length_append] at this; omega)
      have HD2 : Hid (s.data.toList.drop (k + (1 + x.length)) = put r ++ t) := Lib.hid (by
        rw [← List.drop_drop, HD.out]
        simp only [put, List.cons_append, List.append_assoc]
        rw [Nat.add_comm 1, List.drop_succ_cons, List.drop_left])
      have hx63 : (x.length : Int) ≤ 63 := by omega
      have hkv : Value.int .i64 ((k : Int) + (1 + (c.toNat : Int))) = Value.int .i64 ((k + (1 + x.length) : Nat) : Int) := by rw [hcn]; congr 1
      have HKV := Lib.hid hkv
      have hc255 := byte_lt c
      clear hpos hcd hx hcx hkv hcn
      go_wp2_with fail
      have hg := HG.out
      rw [List.length_cons] at hg
      go_roundg (gk - 1)
      case rel => exact ⟨r, _, HKV.out, Lib.hid (by omega), HOKr, HK2, HD2, rfl⟩
      case measure => omega

/-- the parts of data, as numbers -/
def briefL (t : Int) : List Nat := if t = 2 ∨ t = 5 ∨ t = 12 then [0] else if t = 15 then [2, 0] else if t = 6 then [0, 0, 20] else []
def partN (k : Nat) : Option Nat := if k = 0 then none else some k
theorem brief_short (t : Int) : (briefL t).map partN = shortL t := by
  unfold briefL shortL
  by_cases h2 : t = 2 ∨ t = 5 ∨ t = 12
  · rw [if_pos h2, if_pos h2]; rfl
  rw [if_neg h2, if_neg h2]
  by_cases h15 : t = 15
  · rw [if_pos h15, if_pos h15]; rfl
  rw [if_neg h15, if_neg h15]
  by_cases h6 : t = 6
  · rw [if_pos h6, if_pos h6]; rfl
  rw [if_neg h6, if_neg h6]; rfl
theorem fits_short {t : Int} {d : Bs} (h : Fits (fieldsW t) d) : Fits (shortL t) d := by
  by_cases h2 : t = 2 ∨ t = 5 ∨ t = 12
  · have e : fieldsW t = [none] := by simp only [fieldsW, shortB, if_pos h2]; rfl
    rw [e] at h; simp only [shortL, if_pos h2]; exact h
  by_cases h15 : t = 15
  · subst h15; exact h
  by_cases h6 : t = 6
  · subst h6
    obtain ⟨l1, d1, a1, a2, a3, l2, d2, b1, b2, b3, c1, c2, c3⟩ := h
    refine ⟨l1, d1, a1, a2, a3, l2, d2, b1, b2, b3, ?_, trivial⟩
    have hc : 2 * (UInt8.toNat 53 - 48) = 10 := rfl
    rw [hc] at c1 c2
    rw [List.length_drop] at c2; omega
  · simp only [shortL, if_neg h2, if_neg h15, if_neg h6]; trivial
def natC (k : Nat) : Value := .int .i64 (k : Int)
theorem built_row (w : World) (e : TypeId) (xs : List Value) (v : Value) (n : Nat) (hv : v = .slice (some ⟨w.heap.size, 0, none⟩) n n) (hx : xs.length = n) (hn : n ≤ 1000) : (w.alloc (.cells xs.toArray e)).ownsRow w.heap.size e 1 v n xs := by
  subst hv
  refine ⟨by omega, .inr ⟨w.heap.size, n, xs.toArray, rfl, Nat.le_refl _, heap_alloc_new _ _, Nat.le_refl _, by unfold maxLen; omega, by simp [hx], ?_⟩⟩
  rw [Nat.mul_one, ← hx]; simp
set_option maxRecDepth 100000 in
theorem brief_any (t : Int) (w : World) : Calls Tryz.prog 183 #[.int .i64 t] w fun e w' => ∃ v, e = .returned v ∧ w'.ownsRow w.heap.size 3 1 v (briefL t).length ((briefL t).map natC) ∧ Below w.heap.size w w' := by
  obtain ⟨R, HR⟩ : ∃ R, Hid (briefL t = R) := ⟨_, Lib.hid rfl⟩
  rw [HR.out]
  by_cases h2 : t = 2
  · subst h2
    obtain rfl : R = [0] := by rw [← HR.out]; simp [briefL]
    go_enter Tryz.func183, Tryz.ntmps183
    go_wp2_with fail
    go_ret
    exact ⟨_, rfl, built_row w 3 [natC 0] _ 1 rfl rfl (by decide), (Below.refl _ _).alloc (Nat.le_refl _) _⟩
  have e2 : (t == 2) = false := by simpa using h2
  by_cases h5 : t = 5
  · subst h5
    obtain rfl : R = [0] := by rw [← HR.out]; simp [briefL]
    go_enter Tryz.func183, Tryz.ntmps183
    go_wp2_with fail
    go_ret
    exact ⟨_, rfl, built_row w 3 [natC 0] _ 1 rfl rfl (by decide), (Below.refl _ _).alloc (Nat.le_refl _) _⟩
  have e5 : (t == 5) = false := by simpa using h5
  by_cases h12 : t = 12
  · subst h12
    obtain rfl : R = [0] := by rw [← HR.out]; simp [briefL]
    go_enter Tryz.func183, Tryz.ntmps183
    go_wp2_with fail
    go_ret
    exact ⟨_, rfl, built_row w 3 [natC 0] _ 1 rfl rfl (by decide), (Below.refl _ _).alloc (Nat.le_refl _) _⟩
  have e12 : (t == 12) = false := by simpa using h12
  by_cases h15 : t = 15
  · subst h15
    obtain rfl : R = [2, 0] := by rw [← HR.out]; simp [briefL]
    go_enter Tryz.func183, Tryz.ntmps183
    go_wp2_with fail
    go_ret
    exact ⟨_, rfl, built_row w 3 [natC 2, natC 0] _ 2 rfl rfl (by decide), (Below.refl _ _).alloc (Nat.le_refl _) _⟩
  have e15 : (t == 15) = false := by simpa using h15
  by_cases h6 : t = 6
  · subst h6
    obtain rfl : R = [0, 0, 20] := by rw [← HR.out]; simp [briefL]
    go_enter Tryz.func183, Tryz.ntmps183
    go_wp2_with fail
    go_ret
    exact ⟨_, rfl, built_row w 3 [natC 0, natC 0, natC 20] _ 3 rfl rfl (by decide), (Below.refl _ _).alloc (Nat.le_refl _) _⟩
  have e6 : (t == 6) = false := by simpa using h6
  obtain rfl : R = [] := by rw [← HR.out]; simp [briefL, h2, h5, h12, h15, h6]
  clear h2 h5 h12 h15 h6
  go_enter Tryz.func183, Tryz.ntmps183
  go_wp2_with fail
  go_ret
  exact ⟨_, rfl, World.ownsRow_nil _ _ _ _, Below.refl _ _⟩

theorem _root_.Go.Proofs.YtnamkladeaohoaaGreat.rpname.RPx.low {w : World} {b0 B : Nat} {Z : Nat → Prop} {q : Pp} (h : RPx w b0 B Z q) : b0 ≤ w.heap.size := by
  obtain ⟨_, v1, v2, v3, h⟩ := h
  have := h.low; have := h.lt; omega
theorem _root_.Go.Proofs.YtnamkladeaohoaaGreat.rpname.RPx.kept {w w1 : World} {b0 B : Nat} {Z : Nat → Prop} {q : Pp} (h : RPx w b0 B Z q) (hB : Below w.heap.size w w1) : RPx w1 b0 B Z q := by
  obtain ⟨hn, v1, v2, v3, h⟩ := h
  exact ⟨hn, v1, v2, v3, h.kept hB⟩
theorem _root_.Go.Proofs.YtnamkladeaohoaaGreat.rpname.RPx.weak {w : World} {b0 B : Nat} {Z Z' : Nat → Prop} {q : Pp} (h : RPx w b0 B Z' q) (hz : ∀ k, Z k → Z' k) : RPx w b0 B Z q := by
  obtain ⟨hn, v1, v2, v3, h⟩ := h
  exact ⟨hn, v1, v2, v3, h.blk, h.o1, h.o2, h.o3, h.low, fun k hk => h.zl k (hz k hk), fun k hk => h.z3 k (hz k hk)⟩
theorem _root_.Go.Proofs.YtnamkladeaohoaaGreat.rpaper.EffR.weak {w w1 : World} {b0 B : Nat} {Z Z' : Nat → Prop} (h : EffR b0 B Z' w w1) (hz : ∀ k, Z k → Z' k) : EffR b0 B Z w w1 :=
  ⟨h.os, h.tape, h.output, h.size, h.low, fun k o hk hn hT => h.kept k o hk ⟨hn.1, hn.2.1, hn.2.2.imp id (hz k)⟩ hT⟩
/-- a new row is kept apart -/
theorem _root_.Go.Proofs.YtnamkladeaohoaaGreat.rpname.RPx.guard {w w1 : World} {b0 B : Nat} {Z : Nat → Prop} {q : Pp} (h : RPx w b0 B Z q) (hB : Below w.heap.size w w1) {v : Value} {n : Nat} {e : TypeId} {xs : List Value} (ho : w1.ownsRow w.heap.size e 1 v n xs) : RPx w1 b0 B (fun k => Z k ∨ some k = v.ownBlock) q := by
  obtain ⟨hn, v1, v2, v3, h⟩ := h
  have hk := h.kept hB
  have hg : ∀ k, some k = v.ownBlock → w.heap.size ≤ k ∧ k < w1.heap.size := by
    intro k e
    rcases ho.2 with ⟨rfl, _⟩ | ⟨g, cap, cur, rfl, h1, h2, _⟩
    · cases e
    · simp only [Value.ownBlock, Option.some.injEq] at e
      subst e; exact ⟨h1, (Array.getElem?_eq_some_iff.1 h2).1⟩
  refine ⟨hn, v1, v2, v3, hk.blk, hk.o1, hk.o2, hk.o3, hk.low, ?_, ?_⟩
  · rintro k (hz | hz)
    · exact hk.zl k hz
    · exact (hg k hz).2
  · rintro k (hz | hz)
    · exact h.z3 k hz
    · intro e
      have h1 := (hg k hz).1
      rcases h.o3.2 with ⟨rfl, _⟩ | ⟨g, cap, cur, rfl, _, h2, _⟩
      · cases e
      · simp only [Value.ownBlock, Option.some.injEq] at e
        subst e
        have := (Array.getElem?_eq_some_iff.1 h2).1
        omega
/-- a guarded row of numbers is kept -/
theorem own_guard {w w1 : World} {b0 B base : Nat} {Z : Nat → Prop} {v : Value} {n : Nat} {xs : List Value} (ho : w.ownsRow base 3 1 v n xs) (he : EffR b0 B Z w w1) (hz : ∀ k, some k = v.ownBlock → Z k ∧ k ≠ B) : w1.ownsRow base 3 1 v n xs := by
  refine ⟨ho.1, ?_⟩
  rcases ho.2 with h1 | ⟨g, cap, cur, h1, h2, h3, h4⟩
  · exact .inl h1
  · have hg := hz g (by rw [h1]; rfl)
    exact .inr ⟨g, cap, cur, h1, h2, he.kept _ _ h3 ⟨notT_cells (by decide), notT_cells (by decide), .inr hg.1⟩ hg.2, h4⟩
theorem notR_rec {Z : Nat → Prop} {k : Nat} {c : Array Value} {f : Nat × Nat} : NotR Z k (.cells c 43 f) := notR_cells (by decide) (by decide) (by decide)
theorem _root_.Go.Proofs.YtnamkladeaohoaaGreat.wpack.RAt.effR {w w1 : World} {b0 B b : Nat} {Z : Nat → Prop} {x : Rc} (h : wpack.RAt w b x) (he : EffR b0 B Z w w1) (hb : b ≠ B) : wpack.RAt w1 b x := he.kept _ _ h notR_rec hb
/-- one byte of the row written over -/
theorem _root_.Go.Proofs.YtnamkladeaohoaaGreat.rpaper.RP.set1 {w : World} {b0 B g cap : Nat} {Z : Nat → Prop} {v2 v3 : Value} {q : Pp} (h : RP w b0 B Z (.slice (some ⟨g, 0, none⟩) q.out.length cap) v2 v3 q) (k : Nat) (hk : k < q.out.length) (c : UInt8) :
    RP (w.setCell ⟨g, k, none⟩ (.int .u8 (c.toNat : Int))) b0 B Z (.slice (some ⟨g, 0, none⟩) (q.out.set k c).length cap) v2 v3 ⟨q.out.set k c, q.N⟩ ∧ EffR b0 B Z w (w.setCell ⟨g, k, none⟩ (.int .u8 (c.toNat : Int))) := by
  have hgh : ∃ cur, w.heap[g]? = some (.cells cur 5 (0, 0)) ∧ b0 ≤ g := by
    rcases h.o1.2 with ⟨h1, _⟩ | ⟨g', cap', cur, hv, hb, hh, _⟩
    · cases h1
    · cases hv; exact ⟨cur, hh, hb⟩
  obtain ⟨cur, hgh, hgb⟩ := hgh
  have hne : ∀ (j : Nat) (o : Obj), w.heap[j]? = some o → NotT 5 o → j ≠ g := by
    intro j o hj hn e
    subst e
    rw [hgh] at hj; cases hj; exact hn _ _ rfl
  have hkp : ∀ (j : Nat) (o : Obj), w.heap[j]? = some o → NotT 5 o → (w.setCell ⟨g, k, none⟩ (.int .u8 (c.toNat : Int))).heap[j]? = some o := by
    intro j o hj hn
    rw [Below.heap_setCell _ _ _ _ (by show j ≠ g; exact hne j o hj hn)]; exact hj
  have ho := pdata.own_set h.o1 k (by omega) (.int .u8 (c.toNat : Int))
  refine ⟨⟨by rw [List.length_set]; exact hkp _ _ h.blk (notT_cells (by decide)), ?_, own_kept h.o2 (fun j cu hj => hkp j _ hj (notT_cells (by decide))), own_kept h.o3 (fun j cu hj => hkp j _ hj (notT_cells (by decide))), h.low, fun j hj => by have := h.zl j hj; simpa using this, h.z3⟩, rfl, rfl, rfl, by simp, fun j hj => ?_, fun j o hj hn hT => hkp j o hj hn.1⟩
  · have e : (Lib.byteCells q.out).set k (.int .u8 (c.toNat : Int)) = Lib.byteCells (q.out.set k c) := by
      unfold Lib.byteCells; rw [List.map_set]
    simp only [List.length_set]
    rw [← e]; exact ho
  · rw [Below.heap_setCell _ _ _ _ (by show j ≠ g; omega)]

theorem putx (b0 B : Nat) (Z : Nat → Prop) (q : Pp) (s : ByteArray) (w : World) (h : RPx w b0 B Z q) (hl : q.out.length ≤ 1099511627776) (hs : s.size ≤ 1099511627776) :
    Calls Tryz.prog 122 #[.pointer (some ⟨B, 0, none⟩), .string s] w fun e w' => e = .returned (.tuple #[]) ∧ RPx w' b0 B Z ⟨q.out ++ s.data.toList, q.N⟩ ∧ EffR b0 B Z w w' := by
  obtain ⟨hn, v1, v2, v3, hp⟩ := h
  exact (put_any b0 B Z v1 v2 v3 q s w hp hl hs).mono fun e w' ⟨h1, v', h2, h3⟩ => ⟨h1, ⟨hn, v', v2, v3, h2⟩, h3⟩
theorem keep_mk {w w' : World} {b0 B X : Nat} {Z : Nat → Prop} {x : Rc} (h : wpack.RAt w' X x) (he : EffR b0 B Z w w') : w'.cell? ⟨X, 1, none⟩ = some (.int .i64 x.t) ∧ w'.cell? ⟨X, 2, none⟩ = some (.int .i64 x.c) ∧ w'.cell? ⟨X, 3, none⟩ = some (.int .i64 x.l) ∧ wpack.RAt w' X x ∧ EffR b0 B Z w w' :=
  ⟨h.c.2.1, h.c.2.2.1, h.c.2.2.2.1, h, he⟩
theorem keep_step {w w1 w' : World} {b0 B X : Nat} {Z : Nat → Prop} {x : Rc} {t c l : Int} (h : w1.cell? ⟨X, 1, none⟩ = some (.int .i64 t) ∧ w1.cell? ⟨X, 2, none⟩ = some (.int .i64 c) ∧ w1.cell? ⟨X, 3, none⟩ = some (.int .i64 l) ∧ wpack.RAt w1 X x ∧ EffR b0 B Z w w1) (he : EffR b0 B Z w1 w') (hX : X ≠ B) :
    w'.cell? ⟨X, 1, none⟩ = some (.int .i64 t) ∧ w'.cell? ⟨X, 2, none⟩ = some (.int .i64 c) ∧ w'.cell? ⟨X, 3, none⟩ = some (.int .i64 l) ∧ wpack.RAt w' X x ∧ EffR b0 B Z w w' := by
  obtain ⟨h1, h2, h3, h4, h5⟩ := h
  have h4' := h4.effR he hX
  exact ⟨h4'.c.2.1.trans (h4.c.2.1.symm.trans h1), h4'.c.2.2.1.trans (h4.c.2.2.1.symm.trans h2), h4'.c.2.2.2.1.trans (h4.c.2.2.2.1.symm.trans h3), h4', h5.trans he⟩

set_option maxRecDepth 100000 in
set_option maxHeartbeats 8000000 in
theorem rrec_any (b0 B : Nat) (Z : Nat → Prop) (p : Pp) (x : Rc) (ls : List Bs) (w : World) (h : RPx w b0 B Z p) (hl : p.out.length ≤ 274877906944) (hfew : p.N.length ≤ p.out.length) (hn : IsN x.o.data.toList ls) (ht0 : 0 ≤ x.t) (ht1 : x.t ≤ 65535) (hc0 : 0 ≤ x.c) (hc1 : x.c ≤ 65535) (hl0 : 0 ≤ x.l) (hl1 : x.l ≤ 4294967295) (hds : x.d.size ≤ 65535) (hfit : x.d.size ≠ 0 → Fits (fieldsW x.t) x.d.data.toList) :
    Calls Tryz.prog 125 #[.pointer (some ⟨B, 0, none⟩), .agg #[.string x.o, .int .i64 x.t, .int .i64 x.c, .int .i64 x.l, .string x.d]] w fun e w' => e = .returned (.tuple #[]) ∧ RPx w' b0 B Z (recP x p) ∧ EffR b0 B Z w w' := by
  obtain ⟨R, hR⟩ : ∃ R, dataP ((if x.d.size = 0 then [] else briefL x.t).map partN) x.d.data.toList ⟨(nameP x.o.data.toList p).out ++ (be2 x.t ++ be2 x.c ++ be4 x.l) ++ [0, 0], (nameP x.o.data.toList p).N⟩ = R := ⟨_, rfl⟩
  have hrec : recP x p = ⟨patch R.out ((nameP x.o.data.toList p).out ++ (be2 x.t ++ be2 x.c ++ be4 x.l)).length ((R.out.length : Int) - ((nameP x.o.data.toList p).out ++ (be2 x.t ++ be2 x.c ++ be4 x.l)).length - 2), R.N⟩ := by
    rw [← hR]
    unfold recP
    by_cases hd : x.d.size = 0
    · simp only [if_pos hd, List.map_nil]
    · simp only [if_neg hd, brief_short]
  have hRlen : ((nameP x.o.data.toList p).out ++ (be2 x.t ++ be2 x.c ++ be4 x.l)).length + 2 ≤ R.out.length := by
    rw [← hR]; refine Nat.le_trans ?_ (pdata.dataP_len _ _ _); simp only [List.length_append, List.length_cons, List.length_nil]; omega
  have hFit : x.d.size ≠ 0 → Fits ((briefL x.t).map partN) x.d.data.toList := fun h => by rw [brief_short]; exact fits_short (hfit h)
  rw [hrec]
  obtain ⟨q, hq⟩ : ∃ q, nameP x.o.data.toList p = q := ⟨_, rfl⟩
  have hqn := nameF_len (x.o.data.toList.length + 1) x.o.data.toList p
  have hql : q.out.length ≤ p.out.length + 257 := by rw [← hq]; unfold nameP; have := hn.2.2; omega
  have hqf : q.N.length ≤ q.out.length := by rw [← hq]; exact wpack.nameP_few' hn hfew
  rw [hq] at hR hRlen ⊢
  have HR := Lib.hid hR; have HRL := Lib.hid hRlen; have HFit := Lib.hid hFit
  have HX : Hid (w.heap.size ≠ B) := Lib.hid (by obtain ⟨_, v1, v2, v3, h⟩ := h; have := h.lt; omega)
  have hbel := (Below.refl w.heap.size w).alloc (Nat.le_refl _) (.cells #[.string x.o, .int .i64 x.t, .int .i64 x.c, .int .i64 x.l, .string x.d] 43)
  have HLOW := Lib.hid h.low
  have HPA := Lib.hid (h.kept hbel)
  have HEA : Hid (EffR b0 B Z w (w.alloc (.cells #[.string x.o, .int .i64 x.t, .int .i64 x.c, .int .i64 x.l, .string x.d] 43))) := Lib.hid (EffR.of_below hbel h.low)
  have HRA : Hid (wpack.RAt (w.alloc (.cells #[.string x.o, .int .i64 x.t, .int .i64 x.c, .int .i64 x.l, .string x.d] 43)) w.heap.size x) := Lib.hid (heap_alloc_new _ _)
  have CN := Lib.hid (rname_any b0 B Z p x.o ls _ HPA.out hn (by omega) hfew)
  rw [hq] at CN
  have hx0 := HRA.out.c.1
  have HQL := Lib.hid hql; have HQF := Lib.hid hqf
  obtain ⟨T, hT⟩ : ∃ T : Nat, x.t = T := ⟨x.t.toNat, by omega⟩
  obtain ⟨C, hC⟩ : ∃ C : Nat, x.c = C := ⟨x.c.toNat, by omega⟩
  obtain ⟨L, hL⟩ : ∃ L : Nat, x.l = L := ⟨x.l.toNat, by omega⟩
  have N1 := Lib.hid (fun w => number_any T 2 w (by omega) (by decide))
  have N2 := Lib.hid (fun w => number_any C 2 w (by omega) (by decide))
  have N3 := Lib.hid (fun w => number_any L 4 w (by omega) (by decide))
  obtain ⟨D1, hD1⟩ : ∃ D : ByteArray, (⟨(bigS T 2).toArray⟩ : ByteArray) = D := ⟨_, rfl⟩
  obtain ⟨D2, hD2⟩ : ∃ D : ByteArray, (⟨(bigS C 2).toArray⟩ : ByteArray) = D := ⟨_, rfl⟩
  obtain ⟨D3, hD3⟩ : ∃ D : ByteArray, (⟨(bigS L 4).toArray⟩ : ByteArray) = D := ⟨_, rfl⟩
  rw [hD1] at N1; rw [hD2] at N2; rw [hD3] at N3
  have hD : (D1 ++ D2 ++ D3).data.toList = be2 x.t ++ be2 x.c ++ be4 x.l := by
    rw [← hD1, ← hD2, ← hD3, hT, hC, hL, ← big2, ← big2, ← big4]; simp
  have s1 : D1.size = 2 := by rw [← hD1, mk_size, bigS_len]
  have s2 : D2.size = 2 := by rw [← hD2, mk_size, bigS_len]
  have s3 : D3.size = 4 := by rw [← hD3, mk_size, bigS_len]
  have HD := Lib.hid hD
  have hbr := Lib.hid (fun w => brief_any x.t w)
  have HT := Lib.hid hT; have HC := Lib.hid hC; have HL := Lib.hid hL
  clear h hq hqn hql hqf hR hRlen hFit hfit hrec hbel hD1 hD2 hD3 hD ht0 ht1 hc0 hc1 hl0 hl1 hT hC hL hn
  obtain ⟨q1, hq1⟩ : ∃ q1 : Pp, (⟨q.out ++ (be2 x.t ++ be2 x.c ++ be4 x.l), q.N⟩ : Pp) = q1 := ⟨_, rfl⟩
  have ho1 : q.out ++ (be2 x.t ++ be2 x.c ++ be4 x.l) = q1.out := by rw [← hq1]
  have hN1 : q.N = q1.N := by rw [← hq1]
  have hl1 : q1.out.length = q.out.length + 8 := by rw [← ho1]; simp [be2, be4]
  rw [ho1, hN1] at HR
  rw [ho1] at HRL ⊢
  have HQ1 := Lib.hid hq1
  obtain ⟨K, hK⟩ : ∃ K, q1.out.length = K := ⟨_, rfl⟩
  have HKQ : Hid (q1.out.length = K) := Lib.hid hK
  have HK : Hid (K = q.out.length + 8) := Lib.hid (by rw [← hK]; exact hl1)
  have HNF1 : Hid (q1.N.length ≤ K) := Lib.hid (by rw [← hK, hl1, ← hN1]; have := HQF.out; omega)
  rw [hK] at HRL ⊢
  clear hq1 ho1 hN1 hl1 hK
  go_enter Tryz.func125, Tryz.ntmps125
  go_wp2_with fail
  refine CN.out.mono ?_
  rintro e w1 ⟨rfl, hp1, he1⟩
  have HP1 := Lib.hid hp1
  have HE1 := Lib.hid (HEA.out.trans he1)
  have HR1 := Lib.hid (HRA.out.effR he1 HX.out)
  clear hp1 he1 hx0
  obtain ⟨X, hX⟩ : ∃ X, w.heap.size = X := ⟨_, rfl⟩
  rw [hX] at HX HR1 ⊢
  have c1 := HR1.out.c.2.1; have c2 := HR1.out.c.2.2.1; have c3 := HR1.out.c.2.2.2.1
  rw [HT.out] at c1
  rw [HC.out] at c2
  rw [HL.out] at c3
  go_wp2_with fail
  have n1 : ¬ 9223372036854775807 < D1.size + D2.size := by omega
  have n2 : ¬ 9223372036854775807 < D1.size + D2.size + D3.size := by omega
  have m1 : D1.size + D2.size ≤ 9223372036854775807 := by omega
  have m2 : D1.size + D2.size + D3.size ≤ 9223372036854775807 := by omega
  have HLQ : Hid (q.out.length ≤ 1099511627776) := Lib.hid (by have := HQL.out; omega)
  have HD8 : Hid ((D1 ++ D2 ++ D3).size ≤ 1099511627776) := Lib.hid (by simp [ByteArray.size_append]; omega)
  have hS0 : w1.drew.cell? ⟨X, 1, none⟩ = some (.int .i64 (T : Int)) ∧ w1.drew.cell? ⟨X, 2, none⟩ = some (.int .i64 (C : Int)) ∧ w1.drew.cell? ⟨X, 3, none⟩ = some (.int .i64 (L : Int)) ∧ wpack.RAt w1.drew X x ∧ EffR b0 B Z w1 w1.drew := ⟨c1, c2, c3, HR1.out, EffR.drewN b0 B Z w1 1⟩
  have hP0 : RPx w1.drew b0 B Z q := HP1.out.kept (Below.refl _ _).drew
  clear s1 s2 s3
  have CP1 := Lib.hid (fun w h => putx b0 B Z q (D1 ++ D2 ++ D3) w h HLQ.out HD8.out)
  rw [HD.out, HQ1.out] at CP1
  go_region_held3 (fun w' => w'.cell? ⟨X, 1, none⟩ = some (.int .i64 (T : Int)) ∧ w'.cell? ⟨X, 2, none⟩ = some (.int .i64 (C : Int)) ∧ w'.cell? ⟨X, 3, none⟩ = some (.int .i64 (L : Int)) ∧ wpack.RAt w' X x ∧ EffR b0 B Z w1 w') (first | assumption | (refine ⟨?_, ?_, ?_, ?_, ?_⟩ <;> assumption))
    (first
      | (go_at_call_of 123 (Value.int .i64 (T : Int)); refine (N1.out _).mono ?_; rintro e w' ⟨rfl, hBz⟩; have hPz := RPx.kept (by assumption) hBz; have hSz := keep_step (by assumption) (EffR.of_below hBz (RPx.low (by assumption))) HX.out; clear hBz)
      | (go_at_call_of 123 (Value.int .i64 (C : Int)); refine (N2.out _).mono ?_; rintro e w' ⟨rfl, hBz⟩; have hPz := RPx.kept (by assumption) hBz; have hSz := keep_step (by assumption) (EffR.of_below hBz (RPx.low (by assumption))) HX.out; clear hBz)
      | (go_at_call_of 123 (Value.int .i64 (L : Int)); refine (N3.out _).mono ?_; rintro e w' ⟨rfl, hBz⟩; have hPz := RPx.kept (by assumption) hBz; have hSz := keep_step (by assumption) (EffR.of_below hBz (RPx.low (by assumption))) HX.out; clear hBz)
      | (go_at_call 122; refine (CP1.out _ (by assumption)).mono ?_; rintro e w' ⟨rfl, hPz, hEz⟩; have hSz := keep_step (by assumption) hEz HX.out; clear hEz))
  have HP2 := Lib.hid hPz
  have HE2 := Lib.hid (HE1.out.trans hSz.2.2.2.2)
  have HR2 := Lib.hid hSz.2.2.2.1
  clear hPz hSz hS0 hP0 c1 c2 c3 n1 n2 m1 m2 N1 N2 N3 CP1 HD8
  have HKB : Hid (K ≤ 274877907300) := Lib.hid (by have := HK.out; have := HQL.out; omega)
  obtain ⟨hnear, v1, v2, v3, hp⟩ := HP2.out
  obtain ⟨a1, cc1, rfl⟩ := own_slice1 hp.o1
  have k0 := hp.c0
  have hltB := hp.lt
  rw [HKQ.out] at k0
  have CZ := Lib.hid (putx b0 B Z q1 ⟨#[0, 0]⟩ w' HP2.out (by have := HKQ.out; have := HKB.out; omega) (by decide))
  clear hp hnear
  go_wp2_with fail
  refine CZ.out.mono ?_
  rintro e w3 ⟨rfl, hp3, he3⟩
  have HP3 : Hid (RPx w3 b0 B Z ⟨q1.out ++ [0, 0], q1.N⟩) := Lib.hid hp3
  have HE3 := Lib.hid (HE2.out.trans he3)
  have HR3 := Lib.hid (HR2.out.effR he3 HX.out)
  have c4 := HR3.out.c.2.2.2.2
  have c1 := HR3.out.c.2.1
  clear hp3 he3 k0 hltB
  go_upto_if 37 with fail
  go_cut [5, 7, 8] (fun s5 _ _ wx => ∃ (u : ByteArray) (q : Pp), s5 = .string u ∧ u.size ≤ 65535 ∧ Hid (R = ⟨q.out ++ u.data.toList, q.N⟩) ∧ Hid (q.out.length ≤ 549755813888) ∧ Hid (RPx wx b0 B Z q) ∧ Hid (EffR b0 B Z w wx))
  case first =>
    by_cases hd0 : x.d.size = 0
    · have hemp : x.d.toList.isEmpty = true := by rw [emp_yes hd0]; rfl
      have HRv : Hid (R = ⟨q1.out ++ [0, 0] ++ x.d.data.toList, q1.N⟩) := Lib.hid (by
        rw [← HR.out, if_pos hd0]; rfl)
      simp only [hemp]
      go_wp2_with fail
      go_meet
      exact ⟨x.d, ⟨q1.out ++ [0, 0], q1.N⟩, rfl, hds, HRv, Lib.hid (by have := HKQ.out; have := HKB.out; simp only [List.length_append, List.length_cons, List.length_nil]; omega), HP3, HE3⟩
    · have hemp := emp_no (Nat.pos_of_ne_zero hd0)
      have HFI0 := Lib.hid (HFit.out hd0)
      have HRI0 := HR
      rw [if_neg hd0] at HRI0
      obtain ⟨bl, hbl⟩ : ∃ bl, briefL x.t = bl := ⟨_, rfl⟩
      rw [hbl] at HFI0 HRI0 hbr
      have hbl3 : bl.length ≤ 3 := by
        rw [← hbl]; unfold briefL; (repeat' split) <;> simp
      clear hbl
      simp only [hemp]
      go_wp2_with fail
      refine (hbr.out _).mono ?_
      rintro e w4 ⟨vb, rfl, hob, hB4⟩
      have HP4 := Lib.hid (HP3.out.guard hB4 hob)
      have HE4 := Lib.hid (HE3.out.trans (EffR.of_below hB4 HP3.out.low))
      have HVB : Hid (∀ k, some k = vb.ownBlock → k ≠ B) := Lib.hid (by
        intro k e
        obtain ⟨_, _, _, _, hp⟩ := HP3.out
        have hlt := hp.lt
        rcases hob.2 with ⟨rfl, _⟩ | ⟨g, cap, cur, rfl, h1, _⟩
        · cases e
        · simp only [Value.ownBlock, Option.some.injEq] at e; omega)
      obtain ⟨Z', hZ'⟩ : ∃ Z' : Nat → Prop, (fun k => Z k ∨ some k = vb.ownBlock) = Z' := ⟨_, rfl⟩
      rw [hZ'] at HP4
      have HZ : Hid (∀ k, Z k → Z' k) := Lib.hid (by rw [← hZ']; exact fun k h => .inl h)
      have HZ2 : Hid (∀ k, some k = vb.ownBlock → Z' k ∧ k ≠ B) := Lib.hid (fun k h => ⟨by rw [← hZ']; exact .inr h, HVB.out k h⟩)
      have HOB := Lib.hid hob
      obtain ⟨ab, cb, rfl⟩ := own_slice1 hob
      obtain ⟨n, hn⟩ : ∃ n, bl.length = n := ⟨_, rfl⟩
      have HN := Lib.hid hn
      have HBL3 := Lib.hid hbl3
      have hn3 : n ≤ 3 := by omega
      rw [hn] at HOB HZ2
      clear hob hB4 HVB hZ' c4 c1
      simp only [hn]
      clear hn
      go_wp2_with fail
      go_loopg [5, 7, 8, 42] (n + 1) (fun gas dv _ _ kv wr => ∃ (k : Nat) (u : ByteArray) (q : Pp), kv = .int .i64 (k : Int) ∧ dv = .string u ∧ u.size ≤ 65535 ∧ k ≤ n ∧ k + gas = n + 1 ∧ Hid (dataP ((bl.drop k).map partN) u.data.toList q = R) ∧ Hid (Fits ((bl.drop k).map partN) u.data.toList) ∧ Hid (q.out.length ≤ K + 2 + 70000 * k) ∧ Hid (q.N.length ≤ q.out.length) ∧ Hid (RPx wr b0 B Z' q) ∧ Hid (EffR b0 B Z w wr) ∧ Hid (wr.ownsRow w3.heap.size 3 1 (.slice ab n cb) n (bl.map natC)))
      case atStart => exact ⟨0, x.d, _, rfl, rfl, hds, by omega, by omega, HRI0, HFI0, Lib.hid (by have := HKQ.out; simp only [List.length_append, List.length_cons, List.length_nil]; omega), Lib.hid (by have := HNF1.out; have := HKQ.out; simp only [List.length_append]; omega), HP4, HE4, HOB⟩
      case round =>
        clear HP4 HE4 HOB HRI0 HFI0
        obtain ⟨k, u, q2, rfl, rfl, hus, hk, hkg, HRI, HFI, HLE, HFE, HPP, HEE, HOW⟩ := hrel
        have HKG := Lib.hid hkg; clear hkg
        have hlenq : q2.out.length ≤ 549755813888 := by have := HLE.out; have := HKB.out; have := HBL3.out; have := HN.out; omega
        by_cases hlt : k < n
        · obtain ⟨m, hm⟩ : ∃ m, bl[k]? = some m := ⟨_, List.getElem?_eq_getElem (by rw [HN.out]; exact hlt)⟩
          have hdr : bl.drop k = m :: bl.drop (k + 1) := by
            obtain ⟨h1, h2⟩ := List.getElem?_eq_some_iff.1 hm
            rw [List.drop_eq_getElem_cons h1, h2]
          obtain ⟨g, cap, hv, _, _, _, _, _⟩ := pdata.own_cells HOW.out (by omega)
          cases hv
          have e3 := HOW.out.cells (g := g) rfl k (natC m) (by rw [List.getElem?_map, hm]; rfl)
          rw [addr_add] at e3
          have e4 : wr.cell? ⟨g, k, none⟩ = some (.int .i64 (m : Int)) := e3
          have HF2 := HFI.out
          have HR2 := HRI.out
          rw [hdr, List.map_cons] at HF2 HR2
          have zl : (k : Int) < (n : Int) := by omega
          clear e3 hdr hm
          by_cases hm0 : m = 0
          · subst hm0
            have hp0 : partN 0 = none := rfl
            rw [hp0] at HF2 HR2
            obtain ⟨ls', d', g1, g2, g3, g4⟩ := HF2
            have hus' : u.size = (put ls').length + d'.length := by rw [← size_len, g3, List.length_append]
            have CN := Lib.hid (fun w => whole_any u ls' d' w g3 g1 (by omega))
            obtain ⟨L2, hL2⟩ : ∃ L2, (put ls').length = L2 := ⟨_, rfl⟩
            have hex : (u.extract 0 L2).data.toList = put ls' := by
              rw [Lib.extract_data, g3, ← hL2]; simp
            have hdr : (u.extract L2 u.size).data.toList = d' := by
              rw [Lib.extract_data, List.take_of_length_le (by rw [List.length_drop, size_len]; exact Nat.le_refl _), g3, ← hL2, List.drop_left]
            have hdrs : (u.extract L2 u.size).size = d'.length := by rw [← size_len, hdr]
            have CP := Lib.hid (rname_any b0 B Z' q2 (u.extract 0 L2) ls' wr HPP.out (by rw [hex]; exact ⟨rfl, g1, g2⟩) hlenq HFE.out)
            rw [hex] at CP
            rw [hL2] at CN hus' g2
            have HR3 : Hid (dataP ((bl.drop (k + 1)).map partN) d' (nameP (put ls') q2) = R) := Lib.hid (by
              rw [← HR2]; simp only [dataP]
              rw [g3, nameSz_put ls' d' g1, List.drop_left, List.take_left])
            have HF3 := Lib.hid g4
            have hlen2 := nameF_len ((put ls').length + 1) (put ls') q2
            have HL2 : Hid ((nameP (put ls') q2).out.length ≤ q2.out.length + L2 + 2 ∧ q2.out.length ≤ (nameP (put ls') q2).out.length) := Lib.hid (by rw [← hL2]; exact hlen2)
            have HDR := Lib.hid hdr; have HDRS := Lib.hid hdrs; have HU := Lib.hid hus'
            have hLu : (L2 : Int) ≤ (u.size : Int) := by omega
            have hL0 : (0 : Int) ≤ (L2 : Int) := by omega
            have HN2 : Hid ((nameP (put ls') q2).N.length ≤ (nameP (put ls') q2).out.length) := Lib.hid (pdata.nameP_few _ q2 g1 HFE.out)
            have HL255 := Lib.hid g2
            clear hex hdr hdrs hlen2 g1 g2 g3 g4 hL2 HR2 HFI HRI hus' hp0
            go_wp2_with fail
            refine (CN.out _).mono ?_
            rintro e w5 ⟨rfl, rfl⟩
            go_wp2_with fail
            refine CP.out.mono ?_
            rintro e w6 ⟨rfl, hp6, he6⟩
            have HP6 := Lib.hid hp6
            have HE6 := Lib.hid (HEE.out.trans (he6.weak HZ.out))
            have HO6 := Lib.hid (own_guard HOW.out he6 HZ2.out)
            clear hp6 he6
            go_wp2_with fail
            have hkg := HKG.out
            go_roundg (gk - 1)
            case rel => exact ⟨k + 1, _, _, by go_num, rfl, by rw [HDRS.out]; have := HU.out; omega, by omega, by omega, by rw [HDR.out]; exact HR3, by rw [HDR.out]; exact HF3, Lib.hid (by have := HL2.out; have := HLE.out; have := HL255.out; omega), HN2, HP6, HE6, HO6⟩
            case measure => omega
          · have hp0 : partN m = some m := by unfold partN; rw [if_neg hm0]
            rw [hp0] at HF2 HR2
            obtain ⟨g1, g2⟩ := HF2
            rw [size_len] at g1
            have hex : (u.extract 0 m).data.toList = u.data.toList.take m := by
              rw [Lib.extract_data]; simp
            have hexs : (u.extract 0 m).size = m := by rw [← size_len, hex, List.length_take, size_len]; omega
            have hdr : (u.extract m u.size).data.toList = u.data.toList.drop m := by
              rw [Lib.extract_data, List.take_of_length_le (by rw [List.length_drop, size_len]; exact Nat.le_refl _)]
            have hdrs : (u.extract m u.size).size = u.size - m := by rw [← size_len, hdr, List.length_drop, size_len]
            have CP := Lib.hid (putx b0 B Z' q2 (u.extract 0 m) wr HPP.out (by omega) (by rw [hexs]; omega))
            rw [hex] at CP
            have HR3 : Hid (dataP ((bl.drop (k + 1)).map partN) (u.data.toList.drop m) ⟨q2.out ++ u.data.toList.take m, q2.N⟩ = R) := Lib.hid (by
              rw [← HR2]; rfl)
            have HF3 := Lib.hid g2
            have HDR := Lib.hid hdr; have HDRS := Lib.hid hdrs
            have hLu : (m : Int) ≤ (u.size : Int) := by omega
            have hm1 : (0 : Int) < (m : Int) := by omega
            have HTL : Hid ((u.data.toList.take m).length ≤ 65535) := Lib.hid (by rw [List.length_take, size_len]; omega)
            have HG1 := Lib.hid g1
            clear hex hexs hdr hdrs g1 g2 HR2 HFI HRI hp0 hm0
            go_wp2_with fail
            refine CP.out.mono ?_
            rintro e w6 ⟨rfl, hp6, he6⟩
            have HP6 := Lib.hid hp6
            have HE6 := Lib.hid (HEE.out.trans (he6.weak HZ.out))
            have HO6 := Lib.hid (own_guard HOW.out he6 HZ2.out)
            clear hp6 he6
            go_wp2_with fail
            have hkg := HKG.out
            go_roundg (gk - 1)
            case rel => exact ⟨k + 1, _, _, by go_num, rfl, by rw [HDRS.out]; omega, by omega, by omega, by rw [HDR.out]; exact HR3, by rw [HDR.out]; exact HF3, Lib.hid (by have h1 := HTL.out; have h2 := HLE.out; simp only [List.length_append]; omega), Lib.hid (by have h1 := HFE.out; simp only [List.length_append]; omega), HP6, HE6, HO6⟩
            case measure => omega
        · have HRv : Hid (R = ⟨q2.out ++ u.data.toList, q2.N⟩) := Lib.hid (by
            have h := HRI.out
            rw [List.drop_of_length_le (by have := HN.out; omega)] at h
            exact h.symm)
          go_wp2_with fail
          go_meet
          exact ⟨u, q2, rfl, hus, HRv, Lib.hid hlenq, Lib.hid (HPP.out.weak HZ.out), HEE⟩
  case rest =>
    obtain ⟨u, q2, rfl, hus, HRv, HLE, HPP, HEE⟩ := hcut
    have CD := Lib.hid (putx b0 B Z q2 u wc HPP.out (by have := HLE.out; omega) (by omega))
    rw [← HRv.out] at CD
    clear c4 c1
    go_wp2_with fail
    refine CD.out.mono ?_
    rintro e w5 ⟨rfl, hp5, he5⟩
    have HP5 := Lib.hid hp5
    have HE5 := Lib.hid (HEE.out.trans he5)
    clear hp5 he5
    obtain ⟨hnear, v4, v5, v6, hp⟩ := HP5.out
    have hpos : 1 ≤ R.out.length := by have := HRL.out; omega
    obtain ⟨g, cap, rfl, hgb, hgl, hgc, hgf, cur, hgh⟩ := pdata.own_cells hp.o1 hpos
    have hkk0 := hp.c0
    have hltB := hp.lt
    have hgB : B ≠ g := by
      intro e
      have h1 := hp.blk
      rw [e, hgh] at h1; cases h1
    obtain ⟨T2, hT2⟩ : ∃ T2, R.out.length = T2 := ⟨_, rfl⟩
    have HTT := Lib.hid hT2
    simp only [hT2] at hkk0 hgc
    have hTK : K + 2 ≤ T2 := by have := HRL.out; omega
    have hTs : T2 ≤ 549755813888 + 65535 := by have h1 := HRv.out; have h2 := HLE.out; rw [← hT2, h1]; simp only [List.length_append, size_len]; omega
    obtain ⟨n, hn⟩ : ∃ n : Nat, T2 - K - 2 = n := ⟨_, rfl⟩
    have HN : Hid ((T2 : Int) - K - 2 = (n : Int)) := Lib.hid (by omega)
    have hnv : Value.int .i64 ((T2 : Int) - K - 2) = Value.int .i64 (n : Int) := by rw [HN.out]
    have hKT : (K : Int) + 2 ≤ (T2 : Int) := by omega
    have hnb : n ≤ 1099511627776 := by omega
    clear hT2 hn hpos
    go_upto_region 19 with fail
    obtain ⟨K1, hK1⟩ : ∃ K1, K + 1 = K1 := ⟨_, rfl⟩
    have hkv : Value.int .i64 ((K : Int) + 1) = Value.int .i64 (K1 : Int) := by congr 1; omega
    have HK1 := Lib.hid hK1
    have hKl : (K : Int) < (T2 : Int) := by omega
    have hK1l : (K1 : Int) < (T2 : Int) := by omega
    obtain ⟨u0, hu0⟩ := hgc K (by omega)
    obtain ⟨u1, hu1⟩ := hgc K1 (by omega)
    have hf0 := hgf K
    have hf1 := hgf K1
    obtain ⟨c1, hc1⟩ : ∃ c, byte ((n : Int) / 256) = c := ⟨_, rfl⟩
    obtain ⟨c2, hc2⟩ : ∃ c, byte (n : Int) = c := ⟨_, rfl⟩
    have hv1 : Value.int .u8 (IntKind.u8.wrap ((n : Int) / 256)) = Value.int .u8 (c1.toNat : Int) := by rw [byte_wrap, hc1]
    have hv2 : Value.int .u8 (IntKind.u8.wrap ((n : Int) % 256)) = Value.int .u8 (c2.toNat : Int) := by rw [byte_wrap, ← hc2]; congr 2; unfold byte; simp
    have hv3 : Value.int .u8 (IntKind.u8.wrap ((n : Int).tmod 256)) = Value.int .u8 (c2.toNat : Int) := by rw [Int.tmod_eq_emod_of_nonneg (by omega)]; exact hv2
    have hv4 : Value.int .u8 (IntKind.u8.wrap ((n : Int).tdiv 256)) = Value.int .u8 (c1.toNat : Int) := by rw [Int.tdiv_eq_ediv_of_nonneg (by omega)]; exact hv1
    have HC1 := Lib.hid hc1; have HC2 := Lib.hid hc2
    have hne : K ≠ K1 := by omega
    have hu1' : (w5.setCell ⟨g, K, none⟩ (.int .u8 (c1.toNat : Int))).cell? ⟨g, K1, none⟩ = some u1 := by
      rw [World.cell?_setCell_other _ _ _ _ (by intro e; injection e with _ e _; exact hne e)]; exact hu1
    have HKL := Lib.hid hKl
    have HK1L := Lib.hid hK1l
    have HPH := Lib.hid hp
    have HNR := Lib.hid hnear
    clear hc1 hc2 hK1 hgc hgf hne hp hnear
    go_region
    clear hkk0 hu0 hu1 hu1' hf0 hf1
    have hs1 := HPH.out.set1 K (by have := HTT.out; have := HKL.out; omega) c1
    have hs2 := RP.set1 (q := ⟨R.out.set K c1, R.N⟩) hs1.1 K1 (by show K1 < (R.out.set K c1).length; rw [List.length_set]; have := HTT.out; have := HK1L.out; omega) c2
    have HKK := HK1.out
    subst HKK
    have hpat : (R.out.set K c1).set (K + 1) c2 = patch R.out K ((R.out.length : Int) - K - 2) := by
      rw [HTT.out, HN.out]; unfold patch; rw [HC1.out, HC2.out]
    have hf := hs2.1
    simp only at hf
    rw [hpat] at hf
    have HF : RPx _ b0 B Z ⟨patch R.out K ((R.out.length : Int) - K - 2), R.N⟩ := ⟨HNR.out, _, _, _, hf⟩
    go_end0
    exact ⟨rfl, HF.kept (Below.refl _ _).drew, ((HE5.out.trans hs1.2).trans hs2.2).trans (EffR.drewN b0 B Z _ 1)⟩
end Go.Proofs.YtnamkladeaohoaaGreat.rrec
namespace Go.Proofs.YtnamkladeaohoaaGreat.wireD
open Go.RowKit Go.Proofs.YtnamkladeaohoaaGreat.kit Go.Proofs.YtnamkladeaohoaaGreat.timed Go.Proofs.YtnamkladeaohoaaGreat.nspec Go.Proofs.YtnamkladeaohoaaGreat.rsplit Go.Proofs.YtnamkladeaohoaaGreat.check Go.Proofs.YtnamkladeaohoaaGreat.checkAll Go.Proofs.YtnamkladeaohoaaGreat.fld Go.Proofs.YtnamkladeaohoaaGreat.wireP Go.Proofs.YtnamkladeaohoaaGreat.wireR Go.Proofs.YtnamkladeaohoaaGreat.wireM Go.Proofs.YtnamkladeaohoaaGreat.wireC
set_option linter.unusedVariables false

theorem drop_all {α : Type} {f : α → Bool} {L : List α} {k : Nat} {x : α} {B Q : Bool} (h : (B && (L.drop k).all f) = Q) (hx : L[k]? = some x) : ((B && f x) && (L.drop (k + 1)).all f) = Q := by
  obtain ⟨h1, h2⟩ := List.getElem?_eq_some_iff.1 hx
  rw [List.drop_eq_getElem_cons h1, h2, List.all_cons] at h
  rw [Bool.and_assoc]; exact h
theorem drop_end {α : Type} {f : α → Bool} {L : List α} {k : Nat} {B Q : Bool} (h : (B && (L.drop k).all f) = Q) (hk : L.length ≤ k) : B = Q := by
  rw [List.drop_eq_nil_iff.2 hk] at h; simpa using h

set_option maxRecDepth 100000 in
set_option maxHeartbeats 8000000 in
theorem rcheck_any (p : Pl) (m : Mg) (w : World) (hm : RdM w p m) (ho : OkM m) :
    Calls Tryz.prog 37 #[.agg #[.int .i64 m.id, .bool m.rs, .int .i64 m.op, .bool m.aa, .bool m.tc, .bool m.rd, .bool m.ra, .bool m.ad, .bool m.cd, .int .i64 m.rc, .slice p.qa m.qs.length p.qc, .slice p.na m.an.length p.nc, .slice p.ua m.au.length p.uc, .slice p.ra m.ar.length p.rc]] w fun e w' =>
      e = .returned (.int .i64 (if checkB m then 0 else 8)) ∧ Below w.heap.size w w' := by
  obtain ⟨qa, qc, na, nc, ua, uc, ra, rcc⟩ := p
  dsimp only
  obtain ⟨R, HR⟩ : ∃ R, Hid (checkB m = R) := ⟨_, Lib.hid rfl⟩
  rw [HR.out]
  have HM := Lib.hid hm; have HO := Lib.hid ho
  have hbox := BoxM.fresh w 25 _ rfl ⟨qa, qc, na, nc, ua, uc, ra, rcc⟩ m
  dsimp only at hbox
  have hbel := (Below.refl w.heap.size w).alloc (Nat.le_refl _) (.cells #[.int .i64 m.id, .bool m.rs, .int .i64 m.op, .bool m.aa, .bool m.tc, .bool m.rd, .bool m.ra, .bool m.ad, .bool m.cd, .int .i64 m.rc, .slice qa m.qs.length qc, .slice na m.an.length nc, .slice ua m.au.length uc, .slice ra m.ar.length rcc] 25)
  clear hm ho
  go_enter Tryz.func37, Tryz.ntmps37
  go_upto_region 1 with (fail)
  obtain ⟨w0, hw0⟩ : ∃ w0, w.alloc (.cells #[.int .i64 m.id, .bool m.rs, .int .i64 m.op, .bool m.aa, .bool m.tc, .bool m.rd, .bool m.ra, .bool m.ad, .bool m.cd, .int .i64 m.rc, .slice qa m.qs.length qc, .slice na m.an.length nc, .slice ua m.au.length uc, .slice ra m.ar.length rcc] 25) = w0 := ⟨_, rfl⟩
  rw [hw0] at hbox hbel ⊢
  have HBOX := Lib.hid hbox; have HBEL := Lib.hid hbel
  have b0 := hbox.c0; have b2 := hbox.c2; have b9 := hbox.c9; have b10 := hbox.c10; have b11 := hbox.c11; have b12 := hbox.c12; have b13 := hbox.c13
  dsimp only at b10 b11 b12 b13
  obtain ⟨nq, hnq⟩ : ∃ nq, m.qs.length = nq := ⟨_, rfl⟩
  obtain ⟨nn, hnn⟩ : ∃ nn, m.an.length = nn := ⟨_, rfl⟩
  obtain ⟨nu, hnu⟩ : ∃ nu, m.au.length = nu := ⟨_, rfl⟩
  obtain ⟨nr, hnr⟩ : ∃ nr, m.ar.length = nr := ⟨_, rfl⟩
  rw [hnq] at b10
  rw [hnn] at b11
  rw [hnu] at b12
  rw [hnr] at b13
  have hql : nq ≤ 1099511627776 := by rw [← hnq]; exact HO.out.ql
  have hnl : nn ≤ 1099511627776 := by rw [← hnn]; exact HO.out.nl
  have hul : nu ≤ 1099511627776 := by rw [← hnu]; exact HO.out.ul
  have hrl : nr ≤ 1099511627776 := by rw [← hnr]; exact HO.out.rl
  have HNQ := Lib.hid hnq; have HNN := Lib.hid hnn; have HNU := Lib.hid hnu; have HNR := Lib.hid hnr
  clear hbox hbel hw0 hnq hnn hnu hnr
  go_cut [3] (fun s3 wx => ∃ b : Bool, s3 = .bool b ∧ Hid (b = (inB m.id 65535 && (inB m.op 15 && inB m.rc 15))) ∧ wx = w0)
  case first =>
    by_cases lid : 0 ≤ m.id
    · have eid : decide (0 ≤ m.id) = true := by simpa using lid
      by_cases hid : m.id ≤ 65535
      · have gid : decide (m.id ≤ 65535) = true := by simpa using hid
        by_cases lop : 0 ≤ m.op
        · have eop : decide (0 ≤ m.op) = true := by simpa using lop
          by_cases hop : m.op ≤ 15
          · have gop : decide (m.op ≤ 15) = true := by simpa using hop
            by_cases lrc : 0 ≤ m.rc
            · have erc : decide (0 ≤ m.rc) = true := by simpa using lrc
              by_cases hrc : m.rc ≤ 15
              · have grc : decide (m.rc ≤ 15) = true := by simpa using hrc
                have HV : Hid (true = (inB m.id 65535 && (inB m.op 15 && inB m.rc 15))) := Lib.hid (by rw [inB_yes (v := m.id) (top := 65535) lid hid, inB_yes (v := m.op) (top := 15) lop hop, inB_yes (v := m.rc) (top := 15) lrc hrc]; rfl)
                clear lid hid lop hop lrc hrc
                go_wp2_with fail
                go_meet
                exact ⟨true, rfl, HV, rfl⟩
              · have grc : decide (m.rc ≤ 15) = false := by simpa using hrc
                have HV : Hid (false = (inB m.id 65535 && (inB m.op 15 && inB m.rc 15))) := Lib.hid (by simp [inB_high (v := m.rc) (top := 15) (by omega)])
                clear lid hid lop hop lrc hrc
                go_wp2_with fail
                go_meet
                exact ⟨false, rfl, HV, rfl⟩
            · have erc : decide (0 ≤ m.rc) = false := by simpa using lrc
              have HV : Hid (false = (inB m.id 65535 && (inB m.op 15 && inB m.rc 15))) := Lib.hid (by simp [inB_low (v := m.rc) (top := 15) (by omega)])
              clear lid hid lop hop lrc
              go_wp2_with fail
              go_meet
              exact ⟨false, rfl, HV, rfl⟩
          · have gop : decide (m.op ≤ 15) = false := by simpa using hop
            have HV : Hid (false = (inB m.id 65535 && (inB m.op 15 && inB m.rc 15))) := Lib.hid (by simp [inB_high (v := m.op) (top := 15) (by omega)])
            clear lid hid lop hop
            go_wp2_with fail
            go_meet
            exact ⟨false, rfl, HV, rfl⟩
        · have eop : decide (0 ≤ m.op) = false := by simpa using lop
          have HV : Hid (false = (inB m.id 65535 && (inB m.op 15 && inB m.rc 15))) := Lib.hid (by simp [inB_low (v := m.op) (top := 15) (by omega)])
          clear lid hid lop
          go_wp2_with fail
          go_meet
          exact ⟨false, rfl, HV, rfl⟩
      · have gid : decide (m.id ≤ 65535) = false := by simpa using hid
        have HV : Hid (false = (inB m.id 65535 && (inB m.op 15 && inB m.rc 15))) := Lib.hid (by simp [inB_high (v := m.id) (top := 65535) (by omega)])
        clear  lid hid
        go_wp2_with fail
        go_meet
        exact ⟨false, rfl, HV, rfl⟩
    · have eid : decide (0 ≤ m.id) = false := by simpa using lid
      have HV : Hid (false = (inB m.id 65535 && (inB m.op 15 && inB m.rc 15))) := Lib.hid (by simp [inB_low (v := m.id) (top := 65535) (by omega)])
      clear  lid
      go_wp2_with fail
      go_meet
      exact ⟨false, rfl, HV, rfl⟩
  case rest =>
    obtain ⟨b, rfl, HB1, rfl⟩ := hcut
    go_upto_region 2 with (fail)
    go_cut [3] (fun s3 wx => ∃ c : Bool, s3 = .bool c ∧ Hid (c = (b && decide (nq ≤ 65535 ∧ nn ≤ 65535 ∧ nu ≤ 65535 ∧ nr ≤ 65535))) ∧ wx = wc)
    case first =>
      cases b with
      | false =>
        go_wp2_with fail
        go_meet
        exact ⟨false, rfl, Lib.hid rfl, rfl⟩
      | true =>
        by_cases hnq : nq ≤ 65535
        · have enq : decide ((nq : Int) ≤ 65535) = true := by simp; omega
          have dnq : decide (nq ≤ 65535) = true := by simp; omega
          by_cases hnn : nn ≤ 65535
          · have enn : decide ((nn : Int) ≤ 65535) = true := by simp; omega
            have dnn : decide (nn ≤ 65535) = true := by simp; omega
            by_cases hnu : nu ≤ 65535
            · have enu : decide ((nu : Int) ≤ 65535) = true := by simp; omega
              have dnu : decide (nu ≤ 65535) = true := by simp; omega
              by_cases hnr : nr ≤ 65535
              · have enr : decide ((nr : Int) ≤ 65535) = true := by simp; omega
                have dnr : decide (nr ≤ 65535) = true := by simp; omega
                have HV : Hid (true = (true && decide (nq ≤ 65535 ∧ nn ≤ 65535 ∧ nu ≤ 65535 ∧ nr ≤ 65535))) := Lib.hid (by simp; omega)
                clear hnq hnn hnu hnr
                go_wp2_with fail
                go_meet
                exact ⟨true, rfl, HV, rfl⟩
              · have enr : decide ((nr : Int) ≤ 65535) = false := by simp; omega
                have dnr : decide (nr ≤ 65535) = false := by simp; omega
                have HV : Hid (false = (true && decide (nq ≤ 65535 ∧ nn ≤ 65535 ∧ nu ≤ 65535 ∧ nr ≤ 65535))) := Lib.hid (by rw [decide_eq_false (by omega)]; rfl)
                clear hnq hnn hnu hnr
                go_wp2_with fail
                go_meet
                exact ⟨false, rfl, HV, rfl⟩
            · have enu : decide ((nu : Int) ≤ 65535) = false := by simp; omega
              have dnu : decide (nu ≤ 65535) = false := by simp; omega
              have HV : Hid (false = (true && decide (nq ≤ 65535 ∧ nn ≤ 65535 ∧ nu ≤ 65535 ∧ nr ≤ 65535))) := Lib.hid (by rw [decide_eq_false (by omega)]; rfl)
              clear hnq hnn hnu
              go_wp2_with fail
              go_meet
              exact ⟨false, rfl, HV, rfl⟩
          · have enn : decide ((nn : Int) ≤ 65535) = false := by simp; omega
            have dnn : decide (nn ≤ 65535) = false := by simp; omega
            have HV : Hid (false = (true && decide (nq ≤ 65535 ∧ nn ≤ 65535 ∧ nu ≤ 65535 ∧ nr ≤ 65535))) := Lib.hid (by rw [decide_eq_false (by omega)]; rfl)
            clear hnq hnn
            go_wp2_with fail
            go_meet
            exact ⟨false, rfl, HV, rfl⟩
        · have enq : decide ((nq : Int) ≤ 65535) = false := by simp; omega
          have dnq : decide (nq ≤ 65535) = false := by simp; omega
          have HV : Hid (false = (true && decide (nq ≤ 65535 ∧ nn ≤ 65535 ∧ nu ≤ 65535 ∧ nr ≤ 65535))) := Lib.hid (by rw [decide_eq_false (by omega)]; rfl)
          clear hnq
          go_wp2_with fail
          go_meet
          exact ⟨false, rfl, HV, rfl⟩
    case rest =>
      obtain ⟨c, rfl, HC, rfl⟩ := hcut
      obtain ⟨Q, hQ⟩ : ∃ Q, (c && m.qs.all rightQ) = Q := ⟨_, rfl⟩
      have HQ := Lib.hid hQ; clear hQ
      go_wp2_with fail
      go_loopg [3, 5, 68] (nq + 1) (fun gas bv _ kv wr => ∃ (k : Nat) (B : Bool), kv = .int .i64 (k : Int) ∧ bv = .bool B ∧ k ≤ nq ∧ k + gas = nq + 1 ∧ Hid ((B && (m.qs.drop k).all rightQ) = Q) ∧ Hid (Below w.heap.size w wr) ∧ Hid (BoxM wr w.heap.size ⟨qa, qc, na, nc, ua, uc, ra, rcc⟩ m))
      case atStart => exact ⟨0, c, rfl, rfl, by omega, by omega, Lib.hid (by rw [List.drop_zero]; exact HQ.out), HBEL, HBOX⟩
      case round =>
        clear b0 b2 b9 b10 b11 b12 b13 HBOX
        obtain ⟨k, B, rfl, rfl, hk, hkg, HW, HBr, HBX⟩ := hrel
        have HK := Lib.hid hkg; clear hkg
        by_cases hlt : k < nq
        · obtain ⟨x, hx⟩ : ∃ x, m.qs[k]? = some x := ⟨_, List.getElem?_eq_getElem (by have := HNQ.out; omega)⟩
          obtain ⟨g, o, hqa, hg, hat⟩ := at_q HM.out.q hx
          have hpq : qa = some ⟨g, o, none⟩ := hqa
          obtain ⟨x0, x1, x2⟩ := hat.below HBr.out hg
          have hST := drop_all HW.out hx
          have hxs := HO.out.q x (List.mem_of_getElem? hx)
          have HST := Lib.hid hST
          have HB1 := Lib.hid ((Below.refl wr.heap.size wr).alloc (Nat.le_refl _) (.cells #[.string x.n, .int .i64 x.t, .int .i64 x.c] 35))
          have CN := Lib.hid (isName_any x.n (wr.alloc (.cells #[.string x.n, .int .i64 x.t, .int .i64 x.c] 35)) hxs)
          have zl : (k : Int) < (nq : Int) := by omega
          clear hx hat hqa hST hxs
          subst hpq
          cases B with
          | false =>
            have HWA := Lib.hid (HBr.out.trans (HB1.out.mono HBr.out.size))
            have HBXA := Lib.hid (HBX.out.below HB1.out HBX.out.lt)
            go_wp2_with fail
            have hkg := HK.out
            go_roundg (gk - 1)
            case rel => exact ⟨k + 1, false, by go_num, rfl, by omega, by omega, Lib.hid (by rw [← HST.out]; rfl), HWA, HBXA⟩
            case measure => omega
          | true =>
            have NXT : ∀ v, rightQ x = v → Hid ((v && (m.qs.drop (k + 1)).all rightQ) = Q) := fun v h => Lib.hid (by rw [← HST.out, h, Bool.true_and])
            have NXT := Lib.hid NXT
            go_wp2_with fail
            refine CN.out.mono ?_
            rintro e w1 ⟨rfl, hB1⟩
            obtain ⟨k0, k1, k2⟩ := q_cells hB1
            have HX1 := Lib.hid (HBX.out.below (HB1.out.trans (hB1.mono HB1.out.size)) HBX.out.lt)
            have HW1 := Lib.hid (HBr.out.trans ((HB1.out.trans (hB1.mono HB1.out.size)).mono HBr.out.size))
            clear hB1 HB1 CN x0 x1 x2
            cases hn : isB x.n with
            | false =>
              have HY := NXT.out false (by simp [rightQ, hn])
              clear hn
              go_wp2_with fail
              have hkg := HK.out
              go_roundg (gk - 1)
              case rel => exact ⟨k + 1, false, by go_num, rfl, by omega, by omega, HY, HW1, HX1⟩
              case measure => omega
            | true =>
              by_cases lt : 0 ≤ x.t
              · have et : decide (0 ≤ x.t) = true := by simpa using lt
                by_cases ht : x.t ≤ 65535
                · have gt : decide (x.t ≤ 65535) = true := by simpa using ht
                  by_cases lc : 0 ≤ x.c
                  · have ec : decide (0 ≤ x.c) = true := by simpa using lc
                    by_cases hc : x.c ≤ 65535
                    · have gc : decide (x.c ≤ 65535) = true := by simpa using hc
                      have HY := NXT.out true (by simp [rightQ, hn, inB_yes (v := x.t) (top := 65535) lt ht, inB_yes (v := x.c) (top := 65535) lc hc])
                      clear hn lt ht lc hc
                      go_wp2_with fail
                      have hkg := HK.out
                      go_roundg (gk - 1)
                      case rel => exact ⟨k + 1, true, by go_num, rfl, by omega, by omega, HY, HW1, HX1⟩
                      case measure => omega
                    · have gc : decide (x.c ≤ 65535) = false := by simpa using hc
                      have HY := NXT.out false (by simp [rightQ, hn, inB_high (v := x.c) (top := 65535) (by omega)])
                      clear hn lt ht lc hc
                      go_wp2_with fail
                      have hkg := HK.out
                      go_roundg (gk - 1)
                      case rel => exact ⟨k + 1, false, by go_num, rfl, by omega, by omega, HY, HW1, HX1⟩
                      case measure => omega
                  · have ec : decide (0 ≤ x.c) = false := by simpa using lc
                    have HY := NXT.out false (by simp [rightQ, hn, inB_low (v := x.c) (top := 65535) (by omega)])
                    clear hn lt ht lc
                    go_wp2_with fail
                    have hkg := HK.out
                    go_roundg (gk - 1)
                    case rel => exact ⟨k + 1, false, by go_num, rfl, by omega, by omega, HY, HW1, HX1⟩
                    case measure => omega
                · have gt : decide (x.t ≤ 65535) = false := by simpa using ht
                  have HY := NXT.out false (by simp [rightQ, hn, inB_high (v := x.t) (top := 65535) (by omega)])
                  clear hn lt ht
                  go_wp2_with fail
                  have hkg := HK.out
                  go_roundg (gk - 1)
                  case rel => exact ⟨k + 1, false, by go_num, rfl, by omega, by omega, HY, HW1, HX1⟩
                  case measure => omega
              · have et : decide (0 ≤ x.t) = false := by simpa using lt
                have HY := NXT.out false (by simp [rightQ, hn, inB_low (v := x.t) (top := 65535) (by omega)])
                clear hn lt
                go_wp2_with fail
                have hkg := HK.out
                go_roundg (gk - 1)
                case rel => exact ⟨k + 1, false, by go_num, rfl, by omega, by omega, HY, HW1, HX1⟩
                case measure => omega
        · have hBQ := drop_end HW.out (by have := HNQ.out; omega)
          subst hBQ
          have HBn := HBr; have HXn := HBX
          clear HW HBr HBX
          obtain ⟨Q0, hQ0⟩ : ∃ Z, (B && m.an.all rightB) = Z := ⟨_, rfl⟩
          have HQ0 := Lib.hid hQ0; clear hQ0
          have d0 := HXn.out.c11
          dsimp only at d0
          rw [HNN.out] at d0
          go_wp2_with fail
          go_loopg [3, 7, 102] (nn + 1) (fun gas bv _ kv wr => ∃ (k : Nat) (B : Bool), kv = .int .i64 (k : Int) ∧ bv = .bool B ∧ k ≤ nn ∧ k + gas = nn + 1 ∧ Hid ((B && (m.an.drop k).all rightB) = Q0) ∧ Hid (Below w.heap.size w wr) ∧ Hid (BoxM wr w.heap.size ⟨qa, qc, na, nc, ua, uc, ra, rcc⟩ m))
          case atStart => exact ⟨0, B, rfl, rfl, by omega, by omega, Lib.hid (by rw [List.drop_zero]; exact HQ0.out), HBn, HXn⟩
          case round =>
            clear d0 HXn HBn
            obtain ⟨k, B, rfl, rfl, hk, hkg, HW, HBr, HBX⟩ := hrel
            have HK := Lib.hid hkg; clear hkg
            by_cases hlt : k < nn
            · obtain ⟨x, hx⟩ : ∃ x, m.an[k]? = some x := ⟨_, List.getElem?_eq_getElem (by have := HNN.out; omega)⟩
              obtain ⟨g, o, hqa, hg, hat⟩ := at_r HM.out.n hx
              have hpq : na = some ⟨g, o, none⟩ := hqa
              obtain ⟨x0, x1, x2, x3, x4⟩ := hat.below HBr.out hg
              have hST := drop_all HW.out hx
              have HST := Lib.hid hST
              have hox := HO.out.n x (List.mem_of_getElem? hx)
              have HB1 := Lib.hid ((Below.refl wr.heap.size wr).alloc (Nat.le_refl _) (.cells #[.string x.o, .int .i64 x.t, .int .i64 x.c, .int .i64 x.l, .string x.d] 43))
              have CR := Lib.hid (fun w => rright_any x w hox.o (by unfold maxLen; have := hox.d; omega))
              have zl : (k : Int) < (nn : Int) := by omega
              clear hx hat hqa hST hox
              subst hpq
              cases B with
              | false =>
                have HWA := Lib.hid (HBr.out.trans (HB1.out.mono HBr.out.size))
                have HBXA := Lib.hid (HBX.out.below HB1.out HBX.out.lt)
                go_wp2_with fail
                have hkg := HK.out
                go_roundg (gk - 1)
                case rel => exact ⟨k + 1, false, by go_num, rfl, by omega, by omega, Lib.hid (by rw [← HST.out]; rfl), HWA, HBXA⟩
                case measure => omega
              | true =>
                obtain ⟨v, hv⟩ : ∃ v, rightB x = v := ⟨_, rfl⟩
                have HY : Hid ((v && (m.an.drop (k + 1)).all rightB) = Q0) := Lib.hid (by rw [← HST.out, hv, Bool.true_and])
                rw [hv] at CR
                clear hv
                go_wp2_with fail
                refine (CR.out _).mono ?_
                rintro e w1 ⟨rfl, hB1⟩
                have HX1 := Lib.hid (HBX.out.below (HB1.out.trans (hB1.mono HB1.out.size)) HBX.out.lt)
                have HW1 := Lib.hid (HBr.out.trans ((HB1.out.trans (hB1.mono HB1.out.size)).mono HBr.out.size))
                clear hB1
                go_wp2_with fail
                have hkg := HK.out
                go_roundg (gk - 1)
                case rel => exact ⟨k + 1, v, by go_num, rfl, by omega, by omega, HY, HW1, HX1⟩
                case measure => omega
            · have hBQ := drop_end HW.out (by have := HNN.out; omega)
              subst hBQ
              have HBn := HBr; have HXn := HBX
              clear HW HBr HBX
              obtain ⟨Q1, hQ1⟩ : ∃ Z, (B && m.au.all rightB) = Z := ⟨_, rfl⟩
              have HQ1 := Lib.hid hQ1; clear hQ1
              have d1 := HXn.out.c12
              dsimp only at d1
              rw [HNU.out] at d1
              go_wp2_with fail
              go_loopg [3, 9, 115] (nu + 1) (fun gas bv _ kv wr => ∃ (k : Nat) (B : Bool), kv = .int .i64 (k : Int) ∧ bv = .bool B ∧ k ≤ nu ∧ k + gas = nu + 1 ∧ Hid ((B && (m.au.drop k).all rightB) = Q1) ∧ Hid (Below w.heap.size w wr) ∧ Hid (BoxM wr w.heap.size ⟨qa, qc, na, nc, ua, uc, ra, rcc⟩ m))
              case atStart => exact ⟨0, B, rfl, rfl, by omega, by omega, Lib.hid (by rw [List.drop_zero]; exact HQ1.out), HBn, HXn⟩
              case round =>
                clear d1 HXn HBn
                obtain ⟨k, B, rfl, rfl, hk, hkg, HW, HBr, HBX⟩ := hrel
                have HK := Lib.hid hkg; clear hkg
                by_cases hlt : k < nu
                · obtain ⟨x, hx⟩ : ∃ x, m.au[k]? = some x := ⟨_, List.getElem?_eq_getElem (by have := HNU.out; omega)⟩
                  obtain ⟨g, o, hqa, hg, hat⟩ := at_r HM.out.u hx
                  have hpq : ua = some ⟨g, o, none⟩ := hqa
                  obtain ⟨x0, x1, x2, x3, x4⟩ := hat.below HBr.out hg
                  have hST := drop_all HW.out hx
                  have HST := Lib.hid hST
                  have hox := HO.out.u x (List.mem_of_getElem? hx)
                  have HB1 := Lib.hid ((Below.refl wr.heap.size wr).alloc (Nat.le_refl _) (.cells #[.string x.o, .int .i64 x.t, .int .i64 x.c, .int .i64 x.l, .string x.d] 43))
                  have CR := Lib.hid (fun w => rright_any x w hox.o (by unfold maxLen; have := hox.d; omega))
                  have zl : (k : Int) < (nu : Int) := by omega
                  clear hx hat hqa hST hox
                  subst hpq
                  cases B with
                  | false =>
                    have HWA := Lib.hid (HBr.out.trans (HB1.out.mono HBr.out.size))
                    have HBXA := Lib.hid (HBX.out.below HB1.out HBX.out.lt)
                    go_wp2_with fail
                    have hkg := HK.out
                    go_roundg (gk - 1)
                    case rel => exact ⟨k + 1, false, by go_num, rfl, by omega, by omega, Lib.hid (by rw [← HST.out]; rfl), HWA, HBXA⟩
                    case measure => omega
                  | true =>
                    obtain ⟨v, hv⟩ : ∃ v, rightB x = v := ⟨_, rfl⟩
                    have HY : Hid ((v && (m.au.drop (k + 1)).all rightB) = Q1) := Lib.hid (by rw [← HST.out, hv, Bool.true_and])
                    rw [hv] at CR
                    clear hv
                    go_wp2_with fail
                    refine (CR.out _).mono ?_
                    rintro e w1 ⟨rfl, hB1⟩
                    have HX1 := Lib.hid (HBX.out.below (HB1.out.trans (hB1.mono HB1.out.size)) HBX.out.lt)
                    have HW1 := Lib.hid (HBr.out.trans ((HB1.out.trans (hB1.mono HB1.out.size)).mono HBr.out.size))
                    clear hB1
                    go_wp2_with fail
                    have hkg := HK.out
                    go_roundg (gk - 1)
                    case rel => exact ⟨k + 1, v, by go_num, rfl, by omega, by omega, HY, HW1, HX1⟩
                    case measure => omega
                · have hBQ := drop_end HW.out (by have := HNU.out; omega)
                  subst hBQ
                  have HBn := HBr; have HXn := HBX
                  clear HW HBr HBX
                  obtain ⟨Q2, hQ2⟩ : ∃ Z, (B && m.ar.all rightB) = Z := ⟨_, rfl⟩
                  have HQ2 := Lib.hid hQ2; clear hQ2
                  have d2 := HXn.out.c13
                  dsimp only at d2
                  rw [HNR.out] at d2
                  go_wp2_with fail
                  go_loopg [3, 11, 128] (nr + 1) (fun gas bv _ kv wr => ∃ (k : Nat) (B : Bool), kv = .int .i64 (k : Int) ∧ bv = .bool B ∧ k ≤ nr ∧ k + gas = nr + 1 ∧ Hid ((B && (m.ar.drop k).all rightB) = Q2) ∧ Hid (Below w.heap.size w wr) ∧ Hid (BoxM wr w.heap.size ⟨qa, qc, na, nc, ua, uc, ra, rcc⟩ m))
                  case atStart => exact ⟨0, B, rfl, rfl, by omega, by omega, Lib.hid (by rw [List.drop_zero]; exact HQ2.out), HBn, HXn⟩
                  case round =>
                    clear d2 HXn HBn
                    obtain ⟨k, B, rfl, rfl, hk, hkg, HW, HBr, HBX⟩ := hrel
                    have HK := Lib.hid hkg; clear hkg
                    by_cases hlt : k < nr
                    · obtain ⟨x, hx⟩ : ∃ x, m.ar[k]? = some x := ⟨_, List.getElem?_eq_getElem (by have := HNR.out; omega)⟩
                      obtain ⟨g, o, hqa, hg, hat⟩ := at_r HM.out.r hx
                      have hpq : ra = some ⟨g, o, none⟩ := hqa
                      obtain ⟨x0, x1, x2, x3, x4⟩ := hat.below HBr.out hg
                      have hST := drop_all HW.out hx
                      have HST := Lib.hid hST
                      have hox := HO.out.r x (List.mem_of_getElem? hx)
                      have HB1 := Lib.hid ((Below.refl wr.heap.size wr).alloc (Nat.le_refl _) (.cells #[.string x.o, .int .i64 x.t, .int .i64 x.c, .int .i64 x.l, .string x.d] 43))
                      have CR := Lib.hid (fun w => rright_any x w hox.o (by unfold maxLen; have := hox.d; omega))
                      have zl : (k : Int) < (nr : Int) := by omega
                      clear hx hat hqa hST hox
                      subst hpq
                      cases B with
                      | false =>
                        have HWA := Lib.hid (HBr.out.trans (HB1.out.mono HBr.out.size))
                        have HBXA := Lib.hid (HBX.out.below HB1.out HBX.out.lt)
                        go_wp2_with fail
                        have hkg := HK.out
                        go_roundg (gk - 1)
                        case rel => exact ⟨k + 1, false, by go_num, rfl, by omega, by omega, Lib.hid (by rw [← HST.out]; rfl), HWA, HBXA⟩
                        case measure => omega
                      | true =>
                        obtain ⟨v, hv⟩ : ∃ v, rightB x = v := ⟨_, rfl⟩
                        have HY : Hid ((v && (m.ar.drop (k + 1)).all rightB) = Q2) := Lib.hid (by rw [← HST.out, hv, Bool.true_and])
                        rw [hv] at CR
                        clear hv
                        go_wp2_with fail
                        refine (CR.out _).mono ?_
                        rintro e w1 ⟨rfl, hB1⟩
                        have HX1 := Lib.hid (HBX.out.below (HB1.out.trans (hB1.mono HB1.out.size)) HBX.out.lt)
                        have HW1 := Lib.hid (HBr.out.trans ((HB1.out.trans (hB1.mono HB1.out.size)).mono HBr.out.size))
                        clear hB1
                        go_wp2_with fail
                        have hkg := HK.out
                        go_roundg (gk - 1)
                        case rel => exact ⟨k + 1, v, by go_num, rfl, by omega, by omega, HY, HW1, HX1⟩
                        case measure => omega
                    · have hBQ := drop_end HW.out (by have := HNR.out; omega)
                      subst hBQ
                      have HBn := HBr; have HXn := HBX
                      clear HW HBr HBX
                      have HF : Hid (B = R) := Lib.hid (by
                        rw [← HR.out]
                        simp only [checkB, HNQ.out, HNN.out, HNU.out, HNR.out]
                        rw [← HQ2.out, ← HQ1.out, ← HQ0.out, ← HQ.out, HC.out, HB1.out]
                        simp only [Bool.and_assoc])
                      cases B with
                      | true =>
                        have hF := HF.out
                        subst hF
                        go_wp2_with fail
                        go_ret
                        exact ⟨rfl, HBn.out⟩
                      | false =>
                        have hF := HF.out
                        subst hF
                        go_wp2_with fail
                        go_ret
                        exact ⟨rfl, HBn.out⟩
end Go.Proofs.YtnamkladeaohoaaGreat.wireD

/- proof.readHash: walk (gen_readh.py). -/
import Derived.Test.YtanoiiodnddkfaaGreatJ22
namespace Go.Proofs.YtanoiiodnddkfaaGreat.readH
open Go.RowKit Go.Proofs.YtanoiiodnddkfaaGreat.kit Go.Proofs.YtanoiiodnddkfaaGreat.nspec Go.Proofs.YtanoiiodnddkfaaGreat.refA Go.Proofs.YtanoiiodnddkfaaGreat.refB Go.Proofs.YtanoiiodnddkfaaGreat.rsplit Go.Proofs.YtanoiiodnddkfaaGreat.fld Go.Proofs.YtanoiiodnddkfaaGreat.timed Go.Proofs.YtanoiiodnddkfaaGreat.wireP Go.Proofs.YtanoiiodnddkfaaGreat.gapP Go.Proofs.YtanoiiodnddkfaaGreat.bits Go.Proofs.YtanoiiodnddkfaaGreat.ints Go.Proofs.YtanoiiodnddkfaaGreat.gapA Go.Proofs.YtanoiiodnddkfaaGreat.gapC Go.Proofs.YtanoiiodnddkfaaGreat.gapN Go.Proofs.YtanoiiodnddkfaaGreat.gapR Go.Proofs.YtanoiiodnddkfaaGreat.useP Go.Proofs.YtanoiiodnddkfaaGreat.useM Go.Proofs.YtanoiiodnddkfaaGreat.judgeP Go.Proofs.YtanoiiodnddkfaaGreat.first Go.Proofs.YtanoiiodnddkfaaGreat.textsT Go.Proofs.YtanoiiodnddkfaaGreat.typesW Go.Proofs.YtanoiiodnddkfaaGreat.readN
set_option linter.unusedVariables false

/-- what readHash answers -/
def ReadHE (ap : Bs) (x : Rc) (w : World) (e : Ending) (w' : World) : Prop :=
  (∃ (r : Gr) (b : Bool), e = .returned (.tuple #[.agg (hashC r.g r.v), .bool b]) ∧ (b = true → useH ap x = some r.g ∧ TyO w' w.heap.size r) ∧ (b = false → useH ap x = none)) ∧ Below w.heap.size w w'
theorem ext_list (s : ByteArray) (a b : Nat) : (s.extract a b).data.toList = (s.data.toList.drop a).take (b - a) := by
  rw [Lib.extract_data]
theorem get_of {s : ByteArray} {k : Nat} (h : k < s.size) {c : UInt8} (hc : s.data.toList[k]? = some c) : s[k] = c := by
  have e := drop_cons s k h
  have : s.data.toList[k]? = some s[k] := by
    have h2 := congrArg (fun l => l[0]?) e
    simpa using h2
  rw [this] at hc
  exact Option.some.inj hc
/-- what stands while the last region runs -/
def ReadS (X Z : Nat) (x : Rc) (a : Option Addr) (n c : Nat) (l : List Nat) (w w' : World) : Prop := w'.heap[X]? = some (.cells #[.string x.o, .int .i64 x.t, .int .i64 x.c, .int .i64 x.l, .string x.d] 32 (0, 0)) ∧ (∃ y, AtH w' Z y) ∧ w'.ownsRow w.heap.size 3 1 (.slice a n c) n (l.map bitV) ∧ Below w.heap.size w w'
theorem keepS {X Z : Nat} {x : Rc} {a : Option Addr} {n c : Nat} {l : List Nat} {w w1 w2 : World} (h : ReadS X Z x a n c l w w1) (hB : Below w1.heap.size w1 w2) : ReadS X Z x a n c l w w2 := by
  obtain ⟨h1, ⟨y, h2⟩, h3, h4⟩ := h
  exact ⟨(hB.block X (blk_lt h1)).trans h1, ⟨y, h2.below hB⟩, own_keptB h3 (fun k hk => hB.block k (h3.lt k hk).2), h4.trans (hB.mono h4.size)⟩
theorem row_kept {X Z : Nat} {x : Rc} {a : Option Addr} {n c : Nat} {l : List Nat} {y : Gr} {w w1 : World} (h : ReadS X Z x a n c l w w1) (hz : AtH w1 Z y) (hXZ : X < Z) (hl : w.heap.size ≤ Z) (r2 : Gr) : ReadS X Z x a n c l w (w1.setRow Z (hashC r2.g r2.v)) := by
  obtain ⟨h1, _, h3, h4⟩ := h
  refine ⟨(setRow_other _ _ _ _ (by omega)).trans h1, ⟨r2, setRow_heap _ _ _ _ _ _ hz⟩, own_keptB h3 fun k hk => setRow_other _ _ _ _ ?_, below_setRow h4 hl _⟩
  rintro rfl
  rcases h3.2 with ⟨e, _⟩ | ⟨g, cap, cur, e, _, hg, _⟩
  · rw [e] at hk; simp [Value.ownBlock] at hk
  · rw [e] at hk
    simp only [Value.ownBlock, Option.some.injEq] at hk
    subst hk
    unfold AtH at hz
    rw [hz] at hg
    simp only [Option.some.injEq, Obj.cells.injEq] at hg
    exact absurd hg.2.1 (by decide)
theorem res {w : World} {B : Nat} {r : Gr} {j : Value} (tmps : Array Value) (h4 : tmps[4]?.getD undef = .pointer (some ⟨B, 0, none⟩)) (h5 : tmps[5]?.getD undef = j) (hx : AtH w B r) :
    (results Tryz.f39 tmps).run Tryz.prog w = .ok (.tuple #[.agg (hashC r.g r.v), j]) w := by
  rw [show results Tryz.f39 tmps = results Tryz.f30 tmps from by unfold results; rw [Tryz.results39, Tryz.results30]]
  exact resH tmps h4 h5 hx
theorem fin {w1 : World} {B : Nat} {r : Gr} {j : Value} {Q : Ending → World → Prop} (tmps : Array Value) (h4 : tmps[4]?.getD undef = .pointer (some ⟨B, 0, none⟩)) (h5 : tmps[5]?.getD undef = j) (hx : AtH w1 B r) (hR : Q (.returned (.tuple #[.agg (hashC r.g r.v), j])) w1) :
    bodyPost Tryz.prog Tryz.f39 Q .ret { tmps := tmps, defers := [] } w1 :=
  bodyPost_ret (v := .tuple #[.agg (hashC r.g r.v), j]) (res tmps h4 h5 hx) rfl hR
theorem parent_len (l : Bs) : (parentS l).length ≤ 255 := by
  unfold parentS
  split
  · rename_i x r h
    have h1 := isN_room (split_iff.1 h)
    rw [put_length]
    rw [room_cons] at h1; omega
  · simp
theorem pre_two (a b : UInt8) (r : Bs) : Lib.hasPrefix (a :: b :: r) [1, 0] = decide (a = 1 ∧ b = 0) := by
  rw [Bool.eq_iff_iff, decide_eq_true_eq]
  simp only [Lib.hasPrefix, List.isPrefixOf, Bool.and_eq_true, beq_iff_eq, and_true]
  exact ⟨fun h => ⟨h.1.symm, h.2.symm⟩, fun h => ⟨h.1.symm, h.2.symm⟩⟩
theorem parent_lab {l ap : Bs} (h : equalS (parentS l) ap = true) : ∃ x r, nameL.labS l = x :: r := by
  unfold nameL.labS
  cases hs : split l with
  | none =>
    rw [show parentS l = [] by unfold parentS; rw [hs]] at h
    unfold equalS at h
    rw [Go.Proofs.YtanoiiodnddkfaaGreat.nameC.split_nil] at h
    simp at h
  | some ls =>
    cases ls with
    | nil =>
      rw [show parentS l = [] by unfold parentS; rw [hs]] at h
      unfold equalS at h
      rw [Go.Proofs.YtanoiiodnddkfaaGreat.nameC.split_nil] at h
      simp at h
    | cons x r => exact ⟨x, r, rfl⟩
theorem lab_le {l x : Bs} {r : List Bs} (h : nameL.labS l = x :: r) : x.length ≤ 63 := by
  unfold nameL.labS at h
  split at h
  · rename_i ls hs
    subst h
    exact ((split_iff.1 hs).2.1 x (List.mem_cons_self ..)).2
  · cases h
theorem rounds_val (c0 c1 : UInt8) : Value.int .i64 (bits BinOp.or IntKind.i64 (wrap64 (wrap64 (c0.toNat : Int) * 256)) (wrap64 (c1.toNat : Int))) = Value.int .i64 ((val.valL [c0, c1] 0 : Nat) : Int) := by
  have q0 := byte_lt c0; have q1 := byte_lt c1
  have v1 : wrap64 (c0.toNat : Int) = (c0.toNat : Int) := IntWalk.wrap64_in _ (by omega)
  have v2 : wrap64 ((c0.toNat : Int) * 256) = (c0.toNat : Int) * 256 := IntWalk.wrap64_in _ (by omega)
  have v3 : wrap64 (c1.toNat : Int) = (c1.toNat : Int) := IntWalk.wrap64_in _ (by omega)
  rw [v1, v2, v3, val.or8b (by omega) (by omega) (by omega) (by omega) (by omega)]
  simp [val.valL]
theorem from32_len {l r : Bs} (h : back.from32S l = some r) : r.length ≤ 5 * l.length := by
  unfold back.from32S back.backS at h
  cases hs : back.spreadS 5 back.val32 l with
  | none => rw [hs] at h; simp at h
  | some b =>
    rw [hs] at h
    simp only [Option.bind_some, List.nil_append] at h
    rw [Option.map_eq_some_iff] at h
    obtain ⟨u, hu, e⟩ := h
    subst e
    unfold back.whole at hu
    have h1 := back.whole_len _ _ _ _ hu
    rw [back.spread_len _ _ _ _ hs] at h1
    simpa using h1
theorem own_size {l : Bs} {O : ByteArray} {ok : Bool} (he : back.two (back.from32S l) = .returned (.tuple #[.string O, .bool ok])) (h : if ok = true then back.from32S l = some O.data.toList else back.from32S l = none) (hl : l.length ≤ 63) : O.size ≤ 1048576 := by
  cases ok with
  | true =>
    simp only [if_true] at h
    have := from32_len h
    rw [size_len] at this
    omega
  | false =>
    simp only [Bool.false_eq_true, if_false] at h
    rw [h] at he
    simp only [back.two, Ending.returned.injEq, Value.tuple.injEq, Array.mk.injEq, List.cons.injEq, Value.string.injEq] at he
    rw [← he.1]
    exact Nat.zero_le _
theorem two_is (o : Option Bs) : ∃ (O : ByteArray) (ok : Bool), back.two o = .returned (.tuple #[.string O, .bool ok]) ∧ (if ok then o = some O.data.toList else o = none) := by
  cases o with
  | none => exact ⟨⟨#[]⟩, false, rfl, rfl⟩
  | some d => exact ⟨⟨d.toArray⟩, true, rfl, rfl⟩
attribute [local irreducible] wpList
set_option maxRecDepth 100000 in
set_option maxHeartbeats 4800000 in
theorem readH_any (ap : ByteArray) (x : Rc) (w : World) (hap : ap.size ≤ 1048576) (ho : x.o.size ≤ 1048576) (hd : x.d.size ≤ maxLen) :
    Calls Tryz.prog 39 #[.string ap, .agg #[.string x.o, .int .i64 x.t, .int .i64 x.c, .int .i64 x.l, .string x.d]] w (ReadHE ap.data.toList x w) := by
  have hB1 := (Below.refl w.heap.size w).alloc (Nat.le_refl _) (.cells #[.string x.o, .int .i64 x.t, .int .i64 x.c, .int .i64 x.l, .string x.d] 32 (0, 0))
  have hx1 := heap_alloc_new w (.cells #[.string x.o, .int .i64 x.t, .int .i64 x.c, .int .i64 x.l, .string x.d] 32 (0, 0))
  obtain ⟨X, hX⟩ : ∃ X, w.heap.size = X := ⟨_, rfl⟩
  obtain ⟨w1, hw1⟩ : ∃ W, w.alloc (.cells #[.string x.o, .int .i64 x.t, .int .i64 x.c, .int .i64 x.l, .string x.d] 32 (0, 0)) = W := ⟨_, rfl⟩
  have hsz : w1.heap.size = X + 1 := by rw [← hw1, World.size_alloc, hX]
  rw [hw1] at hB1 hx1
  rw [hX] at hx1
  have hB2 := hB1.alloc (by omega) (.cells (hashC zGr.g zGr.v) 63)
  have hz2 : AtH (w1.alloc (.cells (hashC zGr.g zGr.v) 63)) w1.heap.size zGr := heap_alloc_new _ _
  have hx2 := (heap_alloc_old w1 (.cells (hashC zGr.g zGr.v) 63) (by rw [hsz]; omega)).trans hx1
  obtain ⟨Z, hZ⟩ : ∃ Z, w1.heap.size = Z := ⟨_, rfl⟩
  obtain ⟨W, hW⟩ : ∃ W, w1.alloc (.cells (hashC zGr.g zGr.v) 63) = W := ⟨_, rfl⟩
  rw [hW] at hB2 hz2 hx2
  rw [hZ] at hz2
  have hXZ : X < Z := by omega
  have HZ1 : Hid (X + 1 = Z) := Lib.hid (by omega)
  have HW1 := Lib.hid hw1; have HX := Lib.hid hX; have HZ := Lib.hid hZ
  have HW : Hid (w1.alloc (.cells #[.slice none 0 0, .string ⟨#[]⟩, .int .i64 0, .int .i64 0, .int .i64 0, .string ⟨#[]⟩, .string ⟨#[]⟩, .string ⟨#[]⟩, .string ⟨#[]⟩, .int .i64 0] 63) = W) := Lib.hid hW
  have HB2 := Lib.hid hB2; have HZ2 := Lib.hid hz2; have HX2 := Lib.hid hx2
  obtain ⟨x0, x1, x2, x3, x4⟩ := cells5 hx2
  have CR := Lib.hid (fun wx => right_any ap x wx hap (by omega) hd)
  clear hX hw1 hsz hB1 hx1 hB2 hZ hW
  by_cases ht : ¬ x.t = 50
  · have et : (x.t != 50) = true := bne_iff_ne.2 ht
    have HU : Hid (useH ap.data.toList x = none) := Lib.hid (useH_no ht)
    obtain ⟨z0, z1, z2, z3, z4, z5, z6, z7, z8, z9⟩ := cells10 (g := zGr.g) (a := none) (n := 0) (c := 0) hz2
    have f0 := fzH hz2 0; have f1 := fzH hz2 1; have f2 := fzH hz2 2; have f3 := fzH hz2 3; have f4 := fzH hz2 4; have f5 := fzH hz2 5; have f6 := fzH hz2 6; have f7 := fzH hz2 7; have f8 := fzH hz2 8; have f9 := fzH hz2 9
    go_enter Tryz.func39, Tryz.ntmps39
    go_upto_region 1 with fail
    try rw [HW1.out]
    try rw [HX.out]
    try rw [HW.out]
    try rw [HZ1.out]
    go_wp2_with fail
    exact fin _ rfl rfl (putH_at zGr hz2) ⟨⟨zGr, false, rfl, fun h => (by cases h), fun _ => HU.out⟩, putH_below HB2.out (by have := HX.out; omega) zGr⟩
  have et : (x.t != 50) = false := by simpa using ht
  have ht : x.t = 50 := Classical.not_not.1 ht
  obtain ⟨rb, hrb⟩ : ∃ rb, rgtB ap.data.toList x = rb := ⟨_, rfl⟩
  rw [hrb] at CR
  cases rb with
  | false =>
    have HU : Hid (useH ap.data.toList x = none) := Lib.hid (useH_bad hrb)
    clear hrb ht
    go_enter Tryz.func39, Tryz.ntmps39
    go_upto_region 1 with fail
    try rw [HW1.out]
    try rw [HX.out]
    try rw [HW.out]
    try rw [HZ1.out]
    go_wp2_with (refine wpList_load_row rfl 32 _ rfl X rfl 32 _ _ _ hx2 Tryz.underlying32 rfl (by rw [infoR]; rfl) ?_)
    refine (CR.out _).mono ?_
    rintro e w3 ⟨rfl, hB3⟩
    have hz3 := HZ2.out.below hB3
    have HB3 := Lib.hid (HB2.out.trans (hB3.mono HB2.out.size))
    clear hB3 hx2 hz2
    obtain ⟨z0, z1, z2, z3, z4, z5, z6, z7, z8, z9⟩ := cells10 (g := zGr.g) (a := none) (n := 0) (c := 0) hz3
    have f0 := fzH hz3 0; have f1 := fzH hz3 1; have f2 := fzH hz3 2; have f3 := fzH hz3 3; have f4 := fzH hz3 4; have f5 := fzH hz3 5; have f6 := fzH hz3 6; have f7 := fzH hz3 7; have f8 := fzH hz3 8; have f9 := fzH hz3 9
    go_wp2_with fail
    exact fin _ rfl rfl (putH_at zGr hz3) ⟨⟨zGr, false, rfl, fun h => (by cases h), fun _ => HU.out⟩, putH_below HB3.out (by have := HX.out; omega) zGr⟩
  | true =>
    obtain ⟨hwi, hck⟩ := rgt_owner hrb
    rw [ht] at hck
    obtain ⟨a, b, c0, c1, sc, nc, s, n, k, l, hp⟩ := hs_parts hck
    have HUA := Lib.hid (useH_at hrb ht hp)
    have HP := Lib.hid hp
    have HCK := Lib.hid hck
    have hds : x.d.size ≤ 65535 := by rw [← size_len]; exact hp.small
    have CP := Lib.hid (fun wx => nameB.nparent_any x.o wx (by omega))
    obtain ⟨PA, hPA⟩ : ∃ B : ByteArray, (⟨(parentS x.o.data.toList).toArray⟩ : ByteArray) = B := ⟨_, rfl⟩
    rw [hPA] at CP
    have hPAs : PA.size ≤ 255 := by
      rw [← hPA]
      show (parentS x.o.data.toList).toArray.size ≤ 255
      rw [List.size_toArray]
      exact parent_len _
    have CE := Lib.hid (fun wx => nameB.nequal_any PA ap wx (by omega) (by omega))
    rw [show PA.data.toList = parentS x.o.data.toList by rw [← hPA]] at CE
    obtain ⟨eq, heq⟩ : ∃ eq, equalS (parentS x.o.data.toList) ap.data.toList = eq := ⟨_, rfl⟩
    rw [heq] at CE HUA
    have HEQ := Lib.hid heq
    have CH := Lib.hid (fun wx => Tryz.strings_HasPrefix x.d ⟨#[1, 0]⟩ wx)
    obtain ⟨pre, hpre⟩ : ∃ pre, Lib.hasPrefix x.d.data.toList [1, 0] = pre := ⟨_, rfl⟩
    have hpre2 : pre = decide (a = 1 ∧ b = 0) := by rw [← hpre, hp.all]; exact pre_two _ _ _
    rw [show (⟨#[1, 0]⟩ : ByteArray).data.toList = [1, 0] from rfl, hpre] at CH
    have HPRE := Lib.hid hpre2
    have HXT := Lib.hid ht
    clear hpre hpre2 hPA heq hp hwi hck hrb ht
    go_enter Tryz.func39, Tryz.ntmps39
    go_upto_region 1 with fail
    try rw [HW1.out]
    try rw [HX.out]
    try rw [HW.out]
    try rw [HZ1.out]
    go_wp2_with (refine wpList_load_row rfl 32 _ rfl X rfl 32 _ _ _ hx2 Tryz.underlying32 rfl (by rw [infoR]; rfl) ?_)
    refine (CR.out _).mono ?_
    rintro e w3 ⟨rfl, hB3⟩
    have hz3 := HZ2.out.below hB3
    have hx3 := (hB3.block X (blk_lt HX2.out)).trans HX2.out
    have HB3 := Lib.hid (HB2.out.trans (hB3.mono HB2.out.size))
    have HZ3 := Lib.hid hz3; have HX3 := Lib.hid hx3
    clear hB3 hx2 hz2 x0 x1 x2 x3 x4 hx3
    obtain ⟨x0, x1, x2, x3, x4⟩ := cells5 HX3.out
    cases pre with
    | false =>
      have HU : Hid (useH ap.data.toList x = none) := Lib.hid (by rw [HUA.out, if_neg]; rintro ⟨hh, _⟩; have := HPRE.out; simp [hh] at this)
      obtain ⟨z0, z1, z2, z3, z4, z5, z6, z7, z8, z9⟩ := cells10 (g := zGr.g) (a := none) (n := 0) (c := 0) hz3
      have f0 := fzH hz3 0; have f1 := fzH hz3 1; have f2 := fzH hz3 2; have f3 := fzH hz3 3; have f4 := fzH hz3 4; have f5 := fzH hz3 5; have f6 := fzH hz3 6; have f7 := fzH hz3 7; have f8 := fzH hz3 8; have f9 := fzH hz3 9
      go_wp2_with fail
      refine (CH.out _).mono ?_
      rintro e wq ⟨rfl, rfl⟩
      go_wp2_with fail
      exact fin _ rfl rfl (putH_at zGr hz3) ⟨⟨zGr, false, rfl, fun h => (by cases h), fun _ => HU.out⟩, putH_below HB3.out (by have := HX.out; omega) zGr⟩
    | true =>
    cases eq with
    | false =>
      have HU : Hid (useH ap.data.toList x = none) := Lib.hid (by rw [HUA.out, if_neg]; rintro ⟨_, hh, _⟩; cases hh)
      go_wp2_with fail
      refine (CH.out _).mono ?_
      rintro e wq ⟨rfl, rfl⟩
      go_wp2_with fail
      refine (CP.out _).mono ?_
      rintro e w4 ⟨rfl, hB4⟩
      have HZ4 := Lib.hid (HZ3.out.below hB4)
      have HB4 := Lib.hid (HB3.out.trans (hB4.mono HB3.out.size))
      clear hB4 hz3
      go_wp2_with fail
      refine (CE.out _).mono ?_
      rintro e w5 ⟨rfl, hB5⟩
      have hz5 := HZ4.out.below hB5
      have HB5 := Lib.hid (HB4.out.trans (hB5.mono HB4.out.size))
      clear hB5
      obtain ⟨z0, z1, z2, z3, z4, z5, z6, z7, z8, z9⟩ := cells10 (g := zGr.g) (a := none) (n := 0) (c := 0) hz5
      have f0 := fzH hz5 0; have f1 := fzH hz5 1; have f2 := fzH hz5 2; have f3 := fzH hz5 3; have f4 := fzH hz5 4; have f5 := fzH hz5 5; have f6 := fzH hz5 6; have f7 := fzH hz5 7; have f8 := fzH hz5 8; have f9 := fzH hz5 9
      go_wp2_with fail
      exact fin _ rfl rfl (putH_at zGr hz5) ⟨⟨zGr, false, rfl, fun h => (by cases h), fun _ => HU.out⟩, putH_below HB5.out (by have := HX.out; omega) zGr⟩
    | true =>
    go_wp2_with fail
    refine (CH.out _).mono ?_
    rintro e wq ⟨rfl, rfl⟩
    go_wp2_with fail
    refine (CP.out _).mono ?_
    rintro e w4 ⟨rfl, hB4⟩
    have HZ4 := Lib.hid (HZ3.out.below hB4)
    have HX4 := Lib.hid ((hB4.block X (blk_lt HX3.out)).trans HX3.out)
    have HB4 := Lib.hid (HB3.out.trans (hB4.mono HB3.out.size))
    clear hB4 hz3 x0 x1 x2 x3 x4
    go_wp2_with fail
    refine (CE.out _).mono ?_
    rintro e w5 ⟨rfl, hB5⟩
    have HZ5 := Lib.hid (HZ4.out.below hB5)
    have HX5 := Lib.hid ((hB5.block X (blk_lt HX4.out)).trans HX4.out)
    have HB5 := Lib.hid (HB4.out.trans (hB5.mono HB4.out.size))
    clear hB5
    obtain ⟨x0, x1, x2, x3, x4⟩ := cells5 HX5.out
    obtain ⟨lb, lr, hlab⟩ : ∃ lb lr, nameL.labS x.o.data.toList = lb :: lr := parent_lab HEQ.out
    have HLB := Lib.hid hlab
    have CLB := Lib.hid (fun wx => nameL.nlabels_any x.o wx (by omega))
    rw [hlab] at CLB
    have hlb63 : lb.length ≤ 63 := lab_le hlab
    obtain ⟨LB, hLB⟩ : ∃ B : ByteArray, (⟨lb.toArray⟩ : ByteArray) = B := ⟨_, rfl⟩
    have hLBd : LB.data.toList = lb := by rw [← hLB]
    have HLBA := Lib.hid hLB
    have CF := Lib.hid (fun wx => from32.nfrom32_any LB wx (by rw [← size_len, hLBd]; omega))
    rw [hLBd] at CF
    have HOW : Hid (ownH x = back.from32S lb) := Lib.hid (by unfold ownH; rw [hlab]; rfl)
    clear hlab hLB hLBd
    trace "3"
    go_wp2_with fail
    refine (CLB.out _).mono ?_
    rintro e w6 ⟨v, rfl, hsv, hB6⟩
    rcases hsv with ⟨hno, _⟩ | ⟨_, gl, cl, rfl, hl1, hl2, _, hgl, hcl⟩
    · cases hno
    have hc6 : w6.cell? ⟨gl, 0, none⟩ = some (.string LB) := by rw [hcl 0 lb rfl, ← HLBA.out]; rfl
    have HZ6 := Lib.hid (HZ5.out.below hB6)
    have HX6 := Lib.hid ((hB6.block X (blk_lt HX5.out)).trans HX5.out)
    have HB6 := Lib.hid (HB5.out.trans (hB6.mono HB5.out.size))
    obtain ⟨nlb, hnlb⟩ : ∃ n : Nat, (lb :: lr).length = n := ⟨_, rfl⟩
    have hn0 : 0 < nlb := by rw [← hnlb]; simp
    rw [hnlb]
    have zl : (0 : Int) < (nlb : Int) := by omega
    clear hB6 hcl hnlb x0 x1 x2 x3 x4 hl1
    trace "3b"
    go_wp2_with fail
    obtain ⟨O, ok, hO, hok⟩ : ∃ (O : ByteArray) (ok : Bool), back.two (back.from32S lb) = .returned (.tuple #[.string O, .bool ok]) ∧ (if ok then back.from32S lb = some O.data.toList else back.from32S lb = none) := two_is _
    have HOS : Hid (O.size ≤ 1048576) := Lib.hid (own_size hO hok hlb63)
    rw [hO] at CF
    have HOK := Lib.hid hok
    refine (CF.out _).mono ?_
    rintro e w7 ⟨rfl, hB7⟩
    have HZ7 := Lib.hid (HZ6.out.below hB7)
    have HX7 := Lib.hid ((hB7.block X (blk_lt HX6.out)).trans HX6.out)
    have HB7 := Lib.hid (HB6.out.trans (hB7.mono HB6.out.size))
    clear hB7 hO hok hc6
    obtain ⟨x0, x1, x2, x3, x4⟩ := cells5 HX7.out
    have hall := HP.out.all
    have HLEN : Hid (x.d.size = 6 + s.length + n.length + k.length) := Lib.hid (by rw [← size_len, hall]; simp; omega)
    have k2 : 2 < x.d.size := by have := HLEN.out; omega
    have k3 : 3 < x.d.size := by have := HLEN.out; omega
    have k4 : 4 < x.d.size := by have := HLEN.out; omega
    have e2 : x.d[2] = c0 := get_of (by have := HLEN.out; omega) (by rw [hall]; rfl)
    have e3 : x.d[3] = c1 := get_of (by have := HLEN.out; omega) (by rw [hall]; rfl)
    have e4 : x.d[4] = sc := get_of (by have := HLEN.out; omega) (by rw [hall]; rfl)
    clear hall
    trace "4"
    go_upto_region 4 with fail
    go_quiet (fail)
    obtain ⟨R, hR⟩ : ∃ R, val.valL [c0, c1] 0 = R := ⟨_, rfl⟩
    have q0 := byte_lt c0; have q1 := byte_lt c1; have qs := byte_lt sc; have qn := byte_lt nc
    have hor : Value.int .i64 (bits BinOp.or IntKind.i64 (wrap64 (wrap64 (c0.toNat : Int) * 256)) (wrap64 (c1.toNat : Int))) = Value.int .i64 (R : Int) := by
      rw [rounds_val, hR]
    rw [hor]
    have HRR := Lib.hid hR
    clear hor e2 e3 hR
    obtain ⟨w8, hw8⟩ : ∃ z, w7.drewN nq = z := ⟨_, rfl⟩
    have hB8 : Below w7.heap.size w7 w8 := by rw [← hw8]; exact bel_drewN (Below.refl _ _) nq
    rw [hw8]
    have HZ8 := Lib.hid (HZ7.out.below hB8)
    have HX8 := Lib.hid ((hB8.block X (blk_lt HX7.out)).trans HX7.out)
    have HB8 := Lib.hid (HB7.out.trans (hB8.mono HB7.out.size))
    clear hw8 hB8 x0 x1 x2 x3 x4
    obtain ⟨x0, x1, x2, x3, x4⟩ := cells5 HX8.out
    have hsl : 5 + sc.toNat ≤ x.d.size := by rw [← HP.out.salt]; have := HLEN.out; omega
    trace "5"
    go_upto_region 5 with fail
    go_quiet (fail)
    obtain ⟨S, hS⟩ : ∃ S, x.d.extract 5 (5 + sc.toNat) = S := ⟨_, rfl⟩
    have hSd : S.data.toList = s := by
      rw [← hS, ext_list, HP.out.all]
      show List.take (5 + sc.toNat - 5) (s ++ nc :: (n ++ k)) = s
      rw [Nat.add_sub_cancel_left, ← HP.out.salt, List.take_left]
    have HSS : Hid (S.size = sc.toNat) := Lib.hid (by rw [← size_len, hSd, HP.out.salt])
    rw [hS]
    have HSD := Lib.hid hSd
    clear hS hSd e4
    obtain ⟨w9, hw9⟩ : ∃ z, w8.drewN nq = z := ⟨_, rfl⟩
    have hB9 : Below w8.heap.size w8 w9 := by rw [← hw9]; exact bel_drewN (Below.refl _ _) nq
    rw [hw9]
    have HZ9 := Lib.hid (HZ8.out.below hB9)
    have HX9 := Lib.hid ((hB9.block X (blk_lt HX8.out)).trans HX8.out)
    have HB9 := Lib.hid (HB8.out.trans (hB9.mono HB8.out.size))
    clear hw9 hB9 x0 x1 x2 x3 x4
    obtain ⟨x0, x1, x2, x3, x4⟩ := cells5 HX9.out
    have hs0 : (0 : Int) ≤ (S.size : Int) := by omega
    have hs1 : (5 : Int) + (S.size : Int) ≤ (x.d.size : Int) := by have := HSS.out; omega
    have hs2 : S.size ≤ 255 := by have := HSS.out; omega
    trace "6"
    go_upto_region 7 with fail
    obtain ⟨RS, hRS⟩ : ∃ S', x.d.extract (5 + S.size) x.d.size = S' := ⟨_, rfl⟩
    have hRd : RS.data.toList = nc :: (n ++ k) := by
      rw [← hRS, ext_end, HP.out.all, HSS.out, ← HP.out.salt]
      show List.drop (5 + s.length) (a :: b :: c0 :: c1 :: sc :: (s ++ nc :: (n ++ k))) = _
      rw [Nat.add_comm]
      simp only [List.drop_succ_cons]
      rw [List.drop_left]
    have HRZ : Hid (RS.size = 1 + n.length + k.length) := Lib.hid (by rw [← size_len, hRd]; simp; omega)
    rw [hRS]
    have e0 : RS[0]'(by have := HRZ.out; omega) = nc := get_of (by have := HRZ.out; omega) (by rw [hRd]; rfl)
    have HNN := Lib.hid HP.out.nx
    have k0 : 0 < RS.size := by have := HRZ.out; omega
    have kn : (1 : Int) + (nc.toNat : Int) ≤ (RS.size : Int) := by have := HRZ.out; have := HNN.out; omega
    have HRD := Lib.hid hRd
    have hkt : (RS.extract (1 + nc.toNat) RS.size).data.toList = k := by
      rw [ext_end, hRd, ← HNN.out, Nat.add_comm]
      simp only [List.drop_succ_cons]
      rw [List.drop_left]
    have hkz : (RS.extract (1 + nc.toNat) RS.size).size ≤ 65535 := by rw [← size_len, hkt]; have := HLEN.out; omega
    have CT := Lib.hid (fun wx => types_any (RS.extract (1 + nc.toNat) RS.size) wx (by omega))
    rw [hkt] at CT
    have hll : l.length ≤ 1048576 := by have h1 := types_len HP.out.ty; have := HLEN.out; omega
    clear hRS hRd hkt hkz hs0 hs1
    trace "7"
    go_wp2_with fail
    refine (CT.out w9).mono ?_
    rintro e wt ⟨hBt, ⟨v, l', hl', rfl, hownt⟩ | ⟨hno, _⟩⟩
    rotate_left
    · rw [HP.out.ty] at hno; cases hno
    rw [HP.out.ty] at hl'
    cases hl'
    obtain ⟨nl, hnl⟩ : ∃ nl, l.length = nl := ⟨_, rfl⟩
    have HNL := Lib.hid hnl
    rw [hnl] at hownt hll
    obtain ⟨at_, ct, rfl, _, _⟩ := own_slice hownt
    have hownt := own_mono hownt HB9.out.size
    have HZt := Lib.hid (HZ9.out.below hBt)
    have HXt := Lib.hid ((hBt.block X (blk_lt HX9.out)).trans HX9.out)
    have HBt := Lib.hid (HB9.out.trans (hBt.mono HB9.out.size))
    have HOt := Lib.hid hownt
    clear hBt hownt x0 x1 x2 x3 x4 hnl
    obtain ⟨NN, hNN⟩ : ∃ S', RS.extract 1 (1 + nc.toNat) = S' := ⟨_, rfl⟩
    have hNd : NN.data.toList = n := by
      rw [← hNN, ext_list, HRD.out]
      show List.take (1 + nc.toNat - 1) (n ++ k) = n
      rw [Nat.add_sub_cancel_left, ← HNN.out, List.take_left]
    have HND := Lib.hid hNd
    have HNE := Lib.hid hNN
    obtain ⟨r, hr⟩ : ∃ r : Gr, (⟨⟨x, true, NN, O, S, (R : Int), l⟩, at_, nl, ct⟩ : Gr) = r := ⟨_, rfl⟩
    have HRG : Hid (r.g = ⟨x, true, NN, O, S, (R : Int), l⟩) := Lib.hid (by rw [← hr])
    have HNC : Hid (hashC r.g r.v = #[.slice at_ nl ct, .string x.o, .int .i64 x.t, .int .i64 x.c, .int .i64 x.l, .string x.d, .string O, .string NN, .string S, .int .i64 (R : Int)]) := Lib.hid (by rw [← hr]; rfl)
    have HTY : Hid (∀ wz : World, wz.ownsRow w.heap.size 3 1 (.slice at_ nl ct) nl (l.map bitV) → O.size = 10 → TyO wz w.heap.size r) := Lib.hid (fun wz h1 h2 => by
      rw [← hr]
      refine ⟨HNL.out, hll, h1, ⟨ho, ?_, fun _ => h2, by show S.size ≤ 1048576; omega⟩⟩
      show NN.size ≤ 1048576
      rw [← size_len, hNd, HNN.out]
      have := byte_lt nc
      omega)
    clear hNN hNd hr
    clear CR CP CE CH CLB CF CT HW1 HW HZ HZ1 HB2 HB3 HB4 HB5 HB6 HB7 HB8 HB9 HX2 HX3 HX4 HX5 HX6 HX7 HX8 HX9 HZ2 HZ3 HZ4 HZ5 HZ6 HZ7 HZ8 HZ9 HLB HLBA HCK HEQ et hPAs hlb63 zl hs2 hsl k2 k3 k4 q0 q1 qs qn e0 hds hap
    trace "9"
    go_upto_region 9 with fail
    refine heldG.regionG (fun w' => ReadS X Z x at_ nl ct l w w') (fun _ => false) (by kernel_rfl) ?_
    obtain ⟨wd, hwd⟩ : ∃ z, wt.drew = z := ⟨_, rfl⟩
    have hBd : Below wt.heap.size wt wd := by rw [← hwd]; exact (Below.refl _ _).drew
    rw [hwd]
    have hS0 : ReadS X Z x at_ nl ct l w wd := keepS ⟨HXt.out, ⟨_, HZt.out⟩, HOt.out, HBt.out⟩ hBd
    clear hwd hBd
    have qn := byte_lt nc
    have HNS : Hid (IntKind.i64.wrap ((1 : Int) + (nc.toNat : Int)) = (1 : Int) + (nc.toNat : Int)) := Lib.hid (by rw [IntWalk.i64_in]; omega)
    have HOZ : Hid (IntKind.i64.wrap (O.size : Int) = (O.size : Int)) := Lib.hid (by rw [IntWalk.i64_in]; have := HOS.out; omega)
    have HUB : Hid (useH ap.data.toList x = if (val.valL [c0, c1] 0 : Int) ≤ 50 ∧ n.length = 10 then (match ownH x with | some o => if o.length = 10 then some ⟨x, true, ⟨n.toArray⟩, ⟨o.toArray⟩, ⟨s.toArray⟩, val.valL [c0, c1] 0, l⟩ else none | none => none) else none) := Lib.hid (by
      rw [HUA.out]
      have := HPRE.out
      simp only [eq_comm (a := true), decide_eq_true_eq] at this
      simp only [this, and_self, true_and]
      rfl)
    refine takeD (i := 0) (d := 82) (v := .slice at_ nl ct) rfl rfl (by kernel_rfl) (by kernel_rfl) (by kernel_rfl) (fun _ _ _ h => h) (by kernel_rfl) rfl (Or.inl ⟨by kernel_rfl, ?_⟩) hS0 ?_
    · intro wz hSw
      obtain ⟨s0, s1, s2, s3, s4⟩ := cells5 hSw.1
      go_simp
    try simp only [Act.put, List.setIfInBounds_toArray, List.set_cons_zero, List.set_cons_succ]
    refine takeD (i := 1) (d := 83) (v := .agg #[.string x.o, .int .i64 x.t, .int .i64 x.c, .int .i64 x.l, .string x.d]) rfl rfl (by kernel_rfl) (by kernel_rfl) (by kernel_rfl) (fun _ _ _ h => h) (by kernel_rfl) rfl (Or.inl ⟨by kernel_rfl, ?_⟩) hS0 ?_
    · intro wz hSw
      obtain ⟨s0, s1, s2, s3, s4⟩ := cells5 hSw.1
      go_simp
    try simp only [Act.put, List.setIfInBounds_toArray, List.set_cons_zero, List.set_cons_succ]
    refine takeD (i := 2) (d := 84) (v := .agg #[.slice at_ nl ct, .string x.o, .int .i64 x.t, .int .i64 x.c, .int .i64 x.l, .string x.d]) rfl rfl (by kernel_rfl) (by kernel_rfl) (by kernel_rfl) (fun _ _ _ h => h) (by kernel_rfl) rfl (Or.inl ⟨by kernel_rfl, ?_⟩) hS0 ?_
    · intro wz hSw
      obtain ⟨s0, s1, s2, s3, s4⟩ := cells5 hSw.1
      go_simp
    try simp only [Act.put, List.setIfInBounds_toArray, List.set_cons_zero, List.set_cons_succ]
    refine takeD (i := 3) (d := 85) (v := .string O) rfl rfl (by kernel_rfl) (by kernel_rfl) (by kernel_rfl) (fun _ _ _ h => h) (by kernel_rfl) rfl (Or.inl ⟨by kernel_rfl, ?_⟩) hS0 ?_
    · intro wz hSw
      obtain ⟨s0, s1, s2, s3, s4⟩ := cells5 hSw.1
      go_simp
    try simp only [Act.put, List.setIfInBounds_toArray, List.set_cons_zero, List.set_cons_succ]
    refine takeD (i := 4) (d := 86) (v := .string RS) rfl rfl (by kernel_rfl) (by kernel_rfl) (by kernel_rfl) (fun _ _ _ h => h) (by kernel_rfl) rfl (Or.inl ⟨by kernel_rfl, ?_⟩) hS0 ?_
    · intro wz hSw
      obtain ⟨s0, s1, s2, s3, s4⟩ := cells5 hSw.1
      go_simp
    try simp only [Act.put, List.setIfInBounds_toArray, List.set_cons_zero, List.set_cons_succ]
    refine takeD (i := 5) (d := 87) (v := .int .i64 (nc.toNat : Int)) rfl rfl (by kernel_rfl) (by kernel_rfl) (by kernel_rfl) (fun _ _ _ h => h) (by kernel_rfl) rfl (Or.inl ⟨by kernel_rfl, ?_⟩) hS0 ?_
    · intro wz hSw
      obtain ⟨s0, s1, s2, s3, s4⟩ := cells5 hSw.1
      go_simp
    try simp only [Act.put, List.setIfInBounds_toArray, List.set_cons_zero, List.set_cons_succ]
    refine takeD (i := 6) (d := 88) (v := .int .i64 ((1 : Int) + (nc.toNat : Int))) rfl rfl (by kernel_rfl) (by kernel_rfl) (by kernel_rfl) (fun _ _ _ h => h) (by kernel_rfl) rfl (Or.inl ⟨by kernel_rfl, ?_⟩) hS0 ?_
    · intro wz hSw
      obtain ⟨s0, s1, s2, s3, s4⟩ := cells5 hSw.1
      go_simp; first | done | exact HNS.out | simp [HOZ.out]
    try simp only [Act.put, List.setIfInBounds_toArray, List.set_cons_zero, List.set_cons_succ]
    refine takeD (i := 7) (d := 89) (v := .string NN) rfl rfl (by kernel_rfl) (by kernel_rfl) (by kernel_rfl) (fun _ _ _ h => h) (by kernel_rfl) rfl (Or.inl ⟨by kernel_rfl, ?_⟩) hS0 ?_
    · intro wz hSw
      obtain ⟨s0, s1, s2, s3, s4⟩ := cells5 hSw.1
      go_simp; rw [if_pos (by omega), if_pos (by omega), show ((1 : Int) + (nc.toNat : Int)).toNat = 1 + nc.toNat by omega, HNE.out]
    try simp only [Act.put, List.setIfInBounds_toArray, List.set_cons_zero, List.set_cons_succ]
    refine takeD (i := 8) (d := 90) (v := .string S) rfl rfl (by kernel_rfl) (by kernel_rfl) (by kernel_rfl) (fun _ _ _ h => h) (by kernel_rfl) rfl (Or.inl ⟨by kernel_rfl, ?_⟩) hS0 ?_
    · intro wz hSw
      obtain ⟨s0, s1, s2, s3, s4⟩ := cells5 hSw.1
      go_simp
    try simp only [Act.put, List.setIfInBounds_toArray, List.set_cons_zero, List.set_cons_succ]
    refine takeD (i := 9) (d := 91) (v := .int .i64 (R : Int)) rfl rfl (by kernel_rfl) (by kernel_rfl) (by kernel_rfl) (fun _ _ _ h => h) (by kernel_rfl) rfl (Or.inl ⟨by kernel_rfl, ?_⟩) hS0 ?_
    · intro wz hSw
      obtain ⟨s0, s1, s2, s3, s4⟩ := cells5 hSw.1
      go_simp
    try simp only [Act.put, List.setIfInBounds_toArray, List.set_cons_zero, List.set_cons_succ]
    refine takeD (i := 10) (d := 92) (v := .agg #[.slice at_ nl ct, .string x.o, .int .i64 x.t, .int .i64 x.c, .int .i64 x.l, .string x.d, .string O, .string NN, .string S, .int .i64 (R : Int)]) rfl rfl (by kernel_rfl) (by kernel_rfl) (by kernel_rfl) (fun _ _ _ h => h) (by kernel_rfl) rfl (Or.inl ⟨by kernel_rfl, ?_⟩) hS0 ?_
    · intro wz hSw
      obtain ⟨s0, s1, s2, s3, s4⟩ := cells5 hSw.1
      go_simp
    try simp only [Act.put, List.setIfInBounds_toArray, List.set_cons_zero, List.set_cons_succ]
    refine takeD (i := 11) (d := 93) (v := .bool ok) rfl rfl (by kernel_rfl) (by kernel_rfl) (by kernel_rfl) (fun _ _ _ h => h) (by kernel_rfl) rfl (Or.inl ⟨by kernel_rfl, ?_⟩) hS0 ?_
    · intro wz hSw
      obtain ⟨s0, s1, s2, s3, s4⟩ := cells5 hSw.1
      go_simp
    try simp only [Act.put, List.setIfInBounds_toArray, List.set_cons_zero, List.set_cons_succ]
    refine takeD (i := 12) (d := 94) (v := .bool ok) rfl rfl (by kernel_rfl) (by kernel_rfl) (by kernel_rfl) (fun _ _ _ h => h) (by kernel_rfl) rfl (Or.inl ⟨by kernel_rfl, ?_⟩) hS0 ?_
    · intro wz hSw
      obtain ⟨s0, s1, s2, s3, s4⟩ := cells5 hSw.1
      go_simp
    try simp only [Act.put, List.setIfInBounds_toArray, List.set_cons_zero, List.set_cons_succ]
    cases ok with
    | false =>
      have HUR : Hid (useH ap.data.toList x = none) := Lib.hid (by
        have h := HOK.out
        simp only [Bool.false_eq_true, if_false] at h
        rw [HUB.out, HOW.out, h]; split <;> rfl)
      refine takeD (i := 13) (d := 95) (v := undef) rfl rfl (by kernel_rfl) (by kernel_rfl) (by kernel_rfl) (fun _ _ _ h => h) (by kernel_rfl) rfl (Or.inr ⟨by kernel_rfl, rfl⟩) hS0 ?_
      try simp only [Act.put, List.setIfInBounds_toArray, List.set_cons_zero, List.set_cons_succ]
      refine takeD (i := 14) (d := 96) (v := undef) rfl rfl (by kernel_rfl) (by kernel_rfl) (by kernel_rfl) (fun _ _ _ h => h) (by kernel_rfl) rfl (Or.inr ⟨by kernel_rfl, rfl⟩) hS0 ?_
      try simp only [Act.put, List.setIfInBounds_toArray, List.set_cons_zero, List.set_cons_succ]
      refine takeD (i := 15) (d := 97) (v := undef) rfl rfl (by kernel_rfl) (by kernel_rfl) (by kernel_rfl) (fun _ _ _ h => h) (by kernel_rfl) rfl (Or.inr ⟨by kernel_rfl, rfl⟩) hS0 ?_
      try simp only [Act.put, List.setIfInBounds_toArray, List.set_cons_zero, List.set_cons_succ]
      refine takeD (i := 16) (d := 98) (v := .bool false) rfl rfl (by kernel_rfl) (by kernel_rfl) (by kernel_rfl) (fun _ _ _ h => h) (by kernel_rfl) rfl (Or.inl ⟨by kernel_rfl, ?_⟩) hS0 ?_
      · intro wz hSw
        obtain ⟨s0, s1, s2, s3, s4⟩ := cells5 hSw.1
        go_simp
      try simp only [Act.put, List.setIfInBounds_toArray, List.set_cons_zero, List.set_cons_succ]
      refine takeD (i := 17) (d := 99) (v := .bool false) rfl rfl (by kernel_rfl) (by kernel_rfl) (by kernel_rfl) (fun _ _ _ h => h) (by kernel_rfl) rfl (Or.inl ⟨by kernel_rfl, ?_⟩) hS0 ?_
      · intro wz hSw
        obtain ⟨s0, s1, s2, s3, s4⟩ := cells5 hSw.1
        go_simp
      try simp only [Act.put, List.setIfInBounds_toArray, List.set_cons_zero, List.set_cons_succ]
      refine takeD (i := 18) (d := 100) (v := undef) rfl rfl (by kernel_rfl) (by kernel_rfl) (by kernel_rfl) (fun _ _ _ h => h) (by kernel_rfl) rfl (Or.inr ⟨by kernel_rfl, rfl⟩) hS0 ?_
      try simp only [Act.put, List.setIfInBounds_toArray, List.set_cons_zero, List.set_cons_succ]
      refine takeD (i := 19) (d := 101) (v := undef) rfl rfl (by kernel_rfl) (by kernel_rfl) (by kernel_rfl) (fun _ _ _ h => h) (by kernel_rfl) rfl (Or.inr ⟨by kernel_rfl, rfl⟩) hS0 ?_
      try simp only [Act.put, List.setIfInBounds_toArray, List.set_cons_zero, List.set_cons_succ]
      refine takeD (i := 20) (d := 102) (v := .bool false) rfl rfl (by kernel_rfl) (by kernel_rfl) (by kernel_rfl) (fun _ _ _ h => h) (by kernel_rfl) rfl (Or.inl ⟨by kernel_rfl, ?_⟩) hS0 ?_
      · intro wz hSw
        obtain ⟨s0, s1, s2, s3, s4⟩ := cells5 hSw.1
        go_simp
      try simp only [Act.put, List.setIfInBounds_toArray, List.set_cons_zero, List.set_cons_succ]
      refine takeD (i := 21) (d := 103) (v := .bool false) rfl rfl (by kernel_rfl) (by kernel_rfl) (by kernel_rfl) (fun _ _ _ h => h) (by kernel_rfl) rfl (Or.inl ⟨by kernel_rfl, ?_⟩) hS0 ?_
      · intro wz hSw
        obtain ⟨s0, s1, s2, s3, s4⟩ := cells5 hSw.1
        go_simp
      try simp only [Act.put, List.setIfInBounds_toArray, List.set_cons_zero, List.set_cons_succ]
      refine takeD (i := 22) (d := 104) (v := undef) rfl rfl (by kernel_rfl) (by kernel_rfl) (by kernel_rfl) (fun _ _ _ h => h) (by kernel_rfl) rfl (Or.inr ⟨by kernel_rfl, rfl⟩) hS0 ?_
      try simp only [Act.put, List.setIfInBounds_toArray, List.set_cons_zero, List.set_cons_succ]
      refine takeD (i := 23) (d := 105) (v := undef) rfl rfl (by kernel_rfl) (by kernel_rfl) (by kernel_rfl) (fun _ _ _ h => h) (by kernel_rfl) rfl (Or.inr ⟨by kernel_rfl, rfl⟩) hS0 ?_
      try simp only [Act.put, List.setIfInBounds_toArray, List.set_cons_zero, List.set_cons_succ]
      refine takeD (i := 24) (d := 106) (v := .bool false) rfl rfl (by kernel_rfl) (by kernel_rfl) (by kernel_rfl) (fun _ _ _ h => h) (by kernel_rfl) rfl (Or.inl ⟨by kernel_rfl, ?_⟩) hS0 ?_
      · intro wz hSw
        obtain ⟨s0, s1, s2, s3, s4⟩ := cells5 hSw.1
        go_simp
      try simp only [Act.put, List.setIfInBounds_toArray, List.set_cons_zero, List.set_cons_succ]
      refine heldG.readyG (rs := [25]) (by kernel_rfl) (by simp) ?_
      refine heldG.AllG.cons rfl (fun KK hKK => ?_) heldG.AllG.nil
      rw [if_pos (by kernel_rfl)]
      obtain ⟨y, hyz⟩ := hS0.2.1
      refine wp_store_row 63 _ _ rfl Z _ rfl rfl 63 _ hyz (by rw [infoH]; rfl) rfl (by rw [← HNC.out]; exact oneH r) ?_
      rw [← HNC.out]
      have hS2 : ReadS X Z x at_ nl ct l w (wd.setRow Z (hashC r.g r.v)) := row_kept hS0 hyz hXZ (by have := HX.out; omega) _
      refine hKK.out _ _ (fun _ => hS2) ?_; clear hKK KK
      try simp only [Act.put, List.setIfInBounds_toArray]
      refine takeD (i := 26) (d := 5) (v := .bool false) rfl rfl (by kernel_rfl) (by kernel_rfl) (by kernel_rfl) (fun _ _ _ h => h) (by kernel_rfl) rfl (Or.inl ⟨by kernel_rfl, ?_⟩) hS2 ?_
      · intro wz hSw
        obtain ⟨s0, s1, s2, s3, s4⟩ := cells5 hSw.1
        go_simp
      try simp only [Act.put]
      refine heldG.doneG (by kernel_rfl) ?_ _
      go_wp2_with fail
      exact fin _ rfl rfl (setRow_heap _ _ _ _ _ _ hyz) ⟨⟨r, false, rfl, fun h => (by cases h), fun _ => HUR.out⟩, hS2.2.2.2⟩
    | true =>
    have HOV : Hid (ownH x = some O.data.toList) := Lib.hid (by
      have h := HOK.out
      simp only [if_true] at h
      rw [HOW.out, h])
    by_cases h1 : ¬ O.size = 10
    · have H1 : Hid (((O.size : Int) == 10) = false) := Lib.hid (by rw [beq_eq_false_iff_ne]; omega)
      have HUR : Hid (useH ap.data.toList x = none) := Lib.hid (by
        rw [HUB.out, HOV.out]
        split
        · simp only [size_len]; rw [if_neg h1]
        · rfl)
      refine takeD (i := 13) (d := 95) (v := .string O) rfl rfl (by kernel_rfl) (by kernel_rfl) (by kernel_rfl) (fun _ _ _ h => h) (by kernel_rfl) rfl (Or.inl ⟨by kernel_rfl, ?_⟩) hS0 ?_
      · intro wz hSw
        obtain ⟨s0, s1, s2, s3, s4⟩ := cells5 hSw.1
        go_simp
      try simp only [Act.put, List.setIfInBounds_toArray, List.set_cons_zero, List.set_cons_succ]
      refine takeD (i := 14) (d := 96) (v := .int .i64 (O.size : Int)) rfl rfl (by kernel_rfl) (by kernel_rfl) (by kernel_rfl) (fun _ _ _ h => h) (by kernel_rfl) rfl (Or.inl ⟨by kernel_rfl, ?_⟩) hS0 ?_
      · intro wz hSw
        obtain ⟨s0, s1, s2, s3, s4⟩ := cells5 hSw.1
        go_simp; first | done | omega | exact HOZ.out
      try simp only [Act.put, List.setIfInBounds_toArray, List.set_cons_zero, List.set_cons_succ]
      refine takeD (i := 15) (d := 97) (v := .bool false) rfl rfl (by kernel_rfl) (by kernel_rfl) (by kernel_rfl) (fun _ _ _ h => h) (by kernel_rfl) rfl (Or.inl ⟨by kernel_rfl, ?_⟩) hS0 ?_
      · intro wz hSw
        obtain ⟨s0, s1, s2, s3, s4⟩ := cells5 hSw.1
        go_simp; first | done | omega | exact HOZ.out
      try simp only [Act.put, List.setIfInBounds_toArray, List.set_cons_zero, List.set_cons_succ]
      refine takeD (i := 16) (d := 98) (v := .bool false) rfl rfl (by kernel_rfl) (by kernel_rfl) (by kernel_rfl) (fun _ _ _ h => h) (by kernel_rfl) rfl (Or.inl ⟨by kernel_rfl, ?_⟩) hS0 ?_
      · intro wz hSw
        obtain ⟨s0, s1, s2, s3, s4⟩ := cells5 hSw.1
        go_simp
      try simp only [Act.put, List.setIfInBounds_toArray, List.set_cons_zero, List.set_cons_succ]
      refine takeD (i := 17) (d := 99) (v := .bool false) rfl rfl (by kernel_rfl) (by kernel_rfl) (by kernel_rfl) (fun _ _ _ h => h) (by kernel_rfl) rfl (Or.inl ⟨by kernel_rfl, ?_⟩) hS0 ?_
      · intro wz hSw
        obtain ⟨s0, s1, s2, s3, s4⟩ := cells5 hSw.1
        go_simp
      try simp only [Act.put, List.setIfInBounds_toArray, List.set_cons_zero, List.set_cons_succ]
      refine takeD (i := 18) (d := 100) (v := undef) rfl rfl (by kernel_rfl) (by kernel_rfl) (by kernel_rfl) (fun _ _ _ h => h) (by kernel_rfl) rfl (Or.inr ⟨by kernel_rfl, rfl⟩) hS0 ?_
      try simp only [Act.put, List.setIfInBounds_toArray, List.set_cons_zero, List.set_cons_succ]
      refine takeD (i := 19) (d := 101) (v := undef) rfl rfl (by kernel_rfl) (by kernel_rfl) (by kernel_rfl) (fun _ _ _ h => h) (by kernel_rfl) rfl (Or.inr ⟨by kernel_rfl, rfl⟩) hS0 ?_
      try simp only [Act.put, List.setIfInBounds_toArray, List.set_cons_zero, List.set_cons_succ]
      refine takeD (i := 20) (d := 102) (v := .bool false) rfl rfl (by kernel_rfl) (by kernel_rfl) (by kernel_rfl) (fun _ _ _ h => h) (by kernel_rfl) rfl (Or.inl ⟨by kernel_rfl, ?_⟩) hS0 ?_
      · intro wz hSw
        obtain ⟨s0, s1, s2, s3, s4⟩ := cells5 hSw.1
        go_simp
      try simp only [Act.put, List.setIfInBounds_toArray, List.set_cons_zero, List.set_cons_succ]
      refine takeD (i := 21) (d := 103) (v := .bool false) rfl rfl (by kernel_rfl) (by kernel_rfl) (by kernel_rfl) (fun _ _ _ h => h) (by kernel_rfl) rfl (Or.inl ⟨by kernel_rfl, ?_⟩) hS0 ?_
      · intro wz hSw
        obtain ⟨s0, s1, s2, s3, s4⟩ := cells5 hSw.1
        go_simp
      try simp only [Act.put, List.setIfInBounds_toArray, List.set_cons_zero, List.set_cons_succ]
      refine takeD (i := 22) (d := 104) (v := undef) rfl rfl (by kernel_rfl) (by kernel_rfl) (by kernel_rfl) (fun _ _ _ h => h) (by kernel_rfl) rfl (Or.inr ⟨by kernel_rfl, rfl⟩) hS0 ?_
      try simp only [Act.put, List.setIfInBounds_toArray, List.set_cons_zero, List.set_cons_succ]
      refine takeD (i := 23) (d := 105) (v := undef) rfl rfl (by kernel_rfl) (by kernel_rfl) (by kernel_rfl) (fun _ _ _ h => h) (by kernel_rfl) rfl (Or.inr ⟨by kernel_rfl, rfl⟩) hS0 ?_
      try simp only [Act.put, List.setIfInBounds_toArray, List.set_cons_zero, List.set_cons_succ]
      refine takeD (i := 24) (d := 106) (v := .bool false) rfl rfl (by kernel_rfl) (by kernel_rfl) (by kernel_rfl) (fun _ _ _ h => h) (by kernel_rfl) rfl (Or.inl ⟨by kernel_rfl, ?_⟩) hS0 ?_
      · intro wz hSw
        obtain ⟨s0, s1, s2, s3, s4⟩ := cells5 hSw.1
        go_simp
      try simp only [Act.put, List.setIfInBounds_toArray, List.set_cons_zero, List.set_cons_succ]
      refine heldG.readyG (rs := [25]) (by kernel_rfl) (by simp) ?_
      refine heldG.AllG.cons rfl (fun KK hKK => ?_) heldG.AllG.nil
      rw [if_pos (by kernel_rfl)]
      obtain ⟨y, hyz⟩ := hS0.2.1
      refine wp_store_row 63 _ _ rfl Z _ rfl rfl 63 _ hyz (by rw [infoH]; rfl) rfl (by rw [← HNC.out]; exact oneH r) ?_
      rw [← HNC.out]
      have hS2 : ReadS X Z x at_ nl ct l w (wd.setRow Z (hashC r.g r.v)) := row_kept hS0 hyz hXZ (by have := HX.out; omega) _
      refine hKK.out _ _ (fun _ => hS2) ?_; clear hKK KK
      try simp only [Act.put, List.setIfInBounds_toArray]
      refine takeD (i := 26) (d := 5) (v := .bool false) rfl rfl (by kernel_rfl) (by kernel_rfl) (by kernel_rfl) (fun _ _ _ h => h) (by kernel_rfl) rfl (Or.inl ⟨by kernel_rfl, ?_⟩) hS2 ?_
      · intro wz hSw
        obtain ⟨s0, s1, s2, s3, s4⟩ := cells5 hSw.1
        go_simp
      try simp only [Act.put]
      refine heldG.doneG (by kernel_rfl) ?_ _
      go_wp2_with fail
      exact fin _ rfl rfl (setRow_heap _ _ _ _ _ _ hyz) ⟨⟨r, false, rfl, fun h => (by cases h), fun _ => HUR.out⟩, hS2.2.2.2⟩
    have HOT : Hid (O.size = 10) := Lib.hid (Classical.not_not.1 h1)
    have H1 : Hid (((O.size : Int) == 10) = true) := Lib.hid (by rw [beq_iff_eq]; omega)
    by_cases h2 : ¬ nc.toNat = 10
    · have H2 : Hid (((nc.toNat : Int) == 10) = false) := Lib.hid (by rw [beq_eq_false_iff_ne]; omega)
      have HUR : Hid (useH ap.data.toList x = none) := Lib.hid (by
        rw [HUB.out, if_neg]
        rintro ⟨_, hh⟩
        exact h2 (HNN.out ▸ hh))
      refine takeD (i := 13) (d := 95) (v := .string O) rfl rfl (by kernel_rfl) (by kernel_rfl) (by kernel_rfl) (fun _ _ _ h => h) (by kernel_rfl) rfl (Or.inl ⟨by kernel_rfl, ?_⟩) hS0 ?_
      · intro wz hSw
        obtain ⟨s0, s1, s2, s3, s4⟩ := cells5 hSw.1
        go_simp
      try simp only [Act.put, List.setIfInBounds_toArray, List.set_cons_zero, List.set_cons_succ]
      refine takeD (i := 14) (d := 96) (v := .int .i64 (O.size : Int)) rfl rfl (by kernel_rfl) (by kernel_rfl) (by kernel_rfl) (fun _ _ _ h => h) (by kernel_rfl) rfl (Or.inl ⟨by kernel_rfl, ?_⟩) hS0 ?_
      · intro wz hSw
        obtain ⟨s0, s1, s2, s3, s4⟩ := cells5 hSw.1
        go_simp; first | done | omega | exact HOZ.out
      try simp only [Act.put, List.setIfInBounds_toArray, List.set_cons_zero, List.set_cons_succ]
      refine takeD (i := 15) (d := 97) (v := .bool true) rfl rfl (by kernel_rfl) (by kernel_rfl) (by kernel_rfl) (fun _ _ _ h => h) (by kernel_rfl) rfl (Or.inl ⟨by kernel_rfl, ?_⟩) hS0 ?_
      · intro wz hSw
        obtain ⟨s0, s1, s2, s3, s4⟩ := cells5 hSw.1
        go_simp; first | done | omega | exact HOZ.out
      try simp only [Act.put, List.setIfInBounds_toArray, List.set_cons_zero, List.set_cons_succ]
      refine takeD (i := 16) (d := 98) (v := .bool true) rfl rfl (by kernel_rfl) (by kernel_rfl) (by kernel_rfl) (fun _ _ _ h => h) (by kernel_rfl) rfl (Or.inl ⟨by kernel_rfl, ?_⟩) hS0 ?_
      · intro wz hSw
        obtain ⟨s0, s1, s2, s3, s4⟩ := cells5 hSw.1
        go_simp
      try simp only [Act.put, List.setIfInBounds_toArray, List.set_cons_zero, List.set_cons_succ]
      refine takeD (i := 17) (d := 99) (v := .bool true) rfl rfl (by kernel_rfl) (by kernel_rfl) (by kernel_rfl) (fun _ _ _ h => h) (by kernel_rfl) rfl (Or.inl ⟨by kernel_rfl, ?_⟩) hS0 ?_
      · intro wz hSw
        obtain ⟨s0, s1, s2, s3, s4⟩ := cells5 hSw.1
        go_simp
      try simp only [Act.put, List.setIfInBounds_toArray, List.set_cons_zero, List.set_cons_succ]
      refine takeD (i := 18) (d := 100) (v := .int .i64 (nc.toNat : Int)) rfl rfl (by kernel_rfl) (by kernel_rfl) (by kernel_rfl) (fun _ _ _ h => h) (by kernel_rfl) rfl (Or.inl ⟨by kernel_rfl, ?_⟩) hS0 ?_
      · intro wz hSw
        obtain ⟨s0, s1, s2, s3, s4⟩ := cells5 hSw.1
        go_simp
      try simp only [Act.put, List.setIfInBounds_toArray, List.set_cons_zero, List.set_cons_succ]
      refine takeD (i := 19) (d := 101) (v := .bool false) rfl rfl (by kernel_rfl) (by kernel_rfl) (by kernel_rfl) (fun _ _ _ h => h) (by kernel_rfl) rfl (Or.inl ⟨by kernel_rfl, ?_⟩) hS0 ?_
      · intro wz hSw
        obtain ⟨s0, s1, s2, s3, s4⟩ := cells5 hSw.1
        go_simp; first | done | omega | exact HOZ.out
      try simp only [Act.put, List.setIfInBounds_toArray, List.set_cons_zero, List.set_cons_succ]
      refine takeD (i := 20) (d := 102) (v := .bool false) rfl rfl (by kernel_rfl) (by kernel_rfl) (by kernel_rfl) (fun _ _ _ h => h) (by kernel_rfl) rfl (Or.inl ⟨by kernel_rfl, ?_⟩) hS0 ?_
      · intro wz hSw
        obtain ⟨s0, s1, s2, s3, s4⟩ := cells5 hSw.1
        go_simp
      try simp only [Act.put, List.setIfInBounds_toArray, List.set_cons_zero, List.set_cons_succ]
      refine takeD (i := 21) (d := 103) (v := .bool false) rfl rfl (by kernel_rfl) (by kernel_rfl) (by kernel_rfl) (fun _ _ _ h => h) (by kernel_rfl) rfl (Or.inl ⟨by kernel_rfl, ?_⟩) hS0 ?_
      · intro wz hSw
        obtain ⟨s0, s1, s2, s3, s4⟩ := cells5 hSw.1
        go_simp
      try simp only [Act.put, List.setIfInBounds_toArray, List.set_cons_zero, List.set_cons_succ]
      refine takeD (i := 22) (d := 104) (v := undef) rfl rfl (by kernel_rfl) (by kernel_rfl) (by kernel_rfl) (fun _ _ _ h => h) (by kernel_rfl) rfl (Or.inr ⟨by kernel_rfl, rfl⟩) hS0 ?_
      try simp only [Act.put, List.setIfInBounds_toArray, List.set_cons_zero, List.set_cons_succ]
      refine takeD (i := 23) (d := 105) (v := undef) rfl rfl (by kernel_rfl) (by kernel_rfl) (by kernel_rfl) (fun _ _ _ h => h) (by kernel_rfl) rfl (Or.inr ⟨by kernel_rfl, rfl⟩) hS0 ?_
      try simp only [Act.put, List.setIfInBounds_toArray, List.set_cons_zero, List.set_cons_succ]
      refine takeD (i := 24) (d := 106) (v := .bool false) rfl rfl (by kernel_rfl) (by kernel_rfl) (by kernel_rfl) (fun _ _ _ h => h) (by kernel_rfl) rfl (Or.inl ⟨by kernel_rfl, ?_⟩) hS0 ?_
      · intro wz hSw
        obtain ⟨s0, s1, s2, s3, s4⟩ := cells5 hSw.1
        go_simp
      try simp only [Act.put, List.setIfInBounds_toArray, List.set_cons_zero, List.set_cons_succ]
      refine heldG.readyG (rs := [25]) (by kernel_rfl) (by simp) ?_
      refine heldG.AllG.cons rfl (fun KK hKK => ?_) heldG.AllG.nil
      rw [if_pos (by kernel_rfl)]
      obtain ⟨y, hyz⟩ := hS0.2.1
      refine wp_store_row 63 _ _ rfl Z _ rfl rfl 63 _ hyz (by rw [infoH]; rfl) rfl (by rw [← HNC.out]; exact oneH r) ?_
      rw [← HNC.out]
      have hS2 : ReadS X Z x at_ nl ct l w (wd.setRow Z (hashC r.g r.v)) := row_kept hS0 hyz hXZ (by have := HX.out; omega) _
      refine hKK.out _ _ (fun _ => hS2) ?_; clear hKK KK
      try simp only [Act.put, List.setIfInBounds_toArray]
      refine takeD (i := 26) (d := 5) (v := .bool false) rfl rfl (by kernel_rfl) (by kernel_rfl) (by kernel_rfl) (fun _ _ _ h => h) (by kernel_rfl) rfl (Or.inl ⟨by kernel_rfl, ?_⟩) hS2 ?_
      · intro wz hSw
        obtain ⟨s0, s1, s2, s3, s4⟩ := cells5 hSw.1
        go_simp
      try simp only [Act.put]
      refine heldG.doneG (by kernel_rfl) ?_ _
      go_wp2_with fail
      exact fin _ rfl rfl (setRow_heap _ _ _ _ _ _ hyz) ⟨⟨r, false, rfl, fun h => (by cases h), fun _ => HUR.out⟩, hS2.2.2.2⟩
    have HNT : Hid (nc.toNat = 10) := Lib.hid (Classical.not_not.1 h2)
    have H2 : Hid (((nc.toNat : Int) == 10) = true) := Lib.hid (by rw [beq_iff_eq]; omega)
    by_cases h3 : 50 < R
    · have H3 : Hid (decide ((R : Int) ≤ 50) = false) := Lib.hid (decide_eq_false (by omega))
      have HUR : Hid (useH ap.data.toList x = none) := Lib.hid (by
        rw [HUB.out, if_neg]
        rintro ⟨hh, _⟩
        rw [HRR.out] at hh
        omega)
      refine takeD (i := 13) (d := 95) (v := .string O) rfl rfl (by kernel_rfl) (by kernel_rfl) (by kernel_rfl) (fun _ _ _ h => h) (by kernel_rfl) rfl (Or.inl ⟨by kernel_rfl, ?_⟩) hS0 ?_
      · intro wz hSw
        obtain ⟨s0, s1, s2, s3, s4⟩ := cells5 hSw.1
        go_simp
      try simp only [Act.put, List.setIfInBounds_toArray, List.set_cons_zero, List.set_cons_succ]
      refine takeD (i := 14) (d := 96) (v := .int .i64 (O.size : Int)) rfl rfl (by kernel_rfl) (by kernel_rfl) (by kernel_rfl) (fun _ _ _ h => h) (by kernel_rfl) rfl (Or.inl ⟨by kernel_rfl, ?_⟩) hS0 ?_
      · intro wz hSw
        obtain ⟨s0, s1, s2, s3, s4⟩ := cells5 hSw.1
        go_simp; first | done | omega | exact HOZ.out
      try simp only [Act.put, List.setIfInBounds_toArray, List.set_cons_zero, List.set_cons_succ]
      refine takeD (i := 15) (d := 97) (v := .bool true) rfl rfl (by kernel_rfl) (by kernel_rfl) (by kernel_rfl) (fun _ _ _ h => h) (by kernel_rfl) rfl (Or.inl ⟨by kernel_rfl, ?_⟩) hS0 ?_
      · intro wz hSw
        obtain ⟨s0, s1, s2, s3, s4⟩ := cells5 hSw.1
        go_simp; first | done | omega | exact HOZ.out
      try simp only [Act.put, List.setIfInBounds_toArray, List.set_cons_zero, List.set_cons_succ]
      refine takeD (i := 16) (d := 98) (v := .bool true) rfl rfl (by kernel_rfl) (by kernel_rfl) (by kernel_rfl) (fun _ _ _ h => h) (by kernel_rfl) rfl (Or.inl ⟨by kernel_rfl, ?_⟩) hS0 ?_
      · intro wz hSw
        obtain ⟨s0, s1, s2, s3, s4⟩ := cells5 hSw.1
        go_simp
      try simp only [Act.put, List.setIfInBounds_toArray, List.set_cons_zero, List.set_cons_succ]
      refine takeD (i := 17) (d := 99) (v := .bool true) rfl rfl (by kernel_rfl) (by kernel_rfl) (by kernel_rfl) (fun _ _ _ h => h) (by kernel_rfl) rfl (Or.inl ⟨by kernel_rfl, ?_⟩) hS0 ?_
      · intro wz hSw
        obtain ⟨s0, s1, s2, s3, s4⟩ := cells5 hSw.1
        go_simp
      try simp only [Act.put, List.setIfInBounds_toArray, List.set_cons_zero, List.set_cons_succ]
      refine takeD (i := 18) (d := 100) (v := .int .i64 (nc.toNat : Int)) rfl rfl (by kernel_rfl) (by kernel_rfl) (by kernel_rfl) (fun _ _ _ h => h) (by kernel_rfl) rfl (Or.inl ⟨by kernel_rfl, ?_⟩) hS0 ?_
      · intro wz hSw
        obtain ⟨s0, s1, s2, s3, s4⟩ := cells5 hSw.1
        go_simp
      try simp only [Act.put, List.setIfInBounds_toArray, List.set_cons_zero, List.set_cons_succ]
      refine takeD (i := 19) (d := 101) (v := .bool true) rfl rfl (by kernel_rfl) (by kernel_rfl) (by kernel_rfl) (fun _ _ _ h => h) (by kernel_rfl) rfl (Or.inl ⟨by kernel_rfl, ?_⟩) hS0 ?_
      · intro wz hSw
        obtain ⟨s0, s1, s2, s3, s4⟩ := cells5 hSw.1
        go_simp; first | done | omega | exact HOZ.out
      try simp only [Act.put, List.setIfInBounds_toArray, List.set_cons_zero, List.set_cons_succ]
      refine takeD (i := 20) (d := 102) (v := .bool true) rfl rfl (by kernel_rfl) (by kernel_rfl) (by kernel_rfl) (fun _ _ _ h => h) (by kernel_rfl) rfl (Or.inl ⟨by kernel_rfl, ?_⟩) hS0 ?_
      · intro wz hSw
        obtain ⟨s0, s1, s2, s3, s4⟩ := cells5 hSw.1
        go_simp
      try simp only [Act.put, List.setIfInBounds_toArray, List.set_cons_zero, List.set_cons_succ]
      refine takeD (i := 21) (d := 103) (v := .bool true) rfl rfl (by kernel_rfl) (by kernel_rfl) (by kernel_rfl) (fun _ _ _ h => h) (by kernel_rfl) rfl (Or.inl ⟨by kernel_rfl, ?_⟩) hS0 ?_
      · intro wz hSw
        obtain ⟨s0, s1, s2, s3, s4⟩ := cells5 hSw.1
        go_simp
      try simp only [Act.put, List.setIfInBounds_toArray, List.set_cons_zero, List.set_cons_succ]
      refine takeD (i := 22) (d := 104) (v := .int .i64 (R : Int)) rfl rfl (by kernel_rfl) (by kernel_rfl) (by kernel_rfl) (fun _ _ _ h => h) (by kernel_rfl) rfl (Or.inl ⟨by kernel_rfl, ?_⟩) hS0 ?_
      · intro wz hSw
        obtain ⟨s0, s1, s2, s3, s4⟩ := cells5 hSw.1
        go_simp
      try simp only [Act.put, List.setIfInBounds_toArray, List.set_cons_zero, List.set_cons_succ]
      refine takeD (i := 23) (d := 105) (v := .bool false) rfl rfl (by kernel_rfl) (by kernel_rfl) (by kernel_rfl) (fun _ _ _ h => h) (by kernel_rfl) rfl (Or.inl ⟨by kernel_rfl, ?_⟩) hS0 ?_
      · intro wz hSw
        obtain ⟨s0, s1, s2, s3, s4⟩ := cells5 hSw.1
        go_simp; first | done | omega | exact HOZ.out
      try simp only [Act.put, List.setIfInBounds_toArray, List.set_cons_zero, List.set_cons_succ]
      refine takeD (i := 24) (d := 106) (v := .bool false) rfl rfl (by kernel_rfl) (by kernel_rfl) (by kernel_rfl) (fun _ _ _ h => h) (by kernel_rfl) rfl (Or.inl ⟨by kernel_rfl, ?_⟩) hS0 ?_
      · intro wz hSw
        obtain ⟨s0, s1, s2, s3, s4⟩ := cells5 hSw.1
        go_simp
      try simp only [Act.put, List.setIfInBounds_toArray, List.set_cons_zero, List.set_cons_succ]
      refine heldG.readyG (rs := [25]) (by kernel_rfl) (by simp) ?_
      refine heldG.AllG.cons rfl (fun KK hKK => ?_) heldG.AllG.nil
      rw [if_pos (by kernel_rfl)]
      obtain ⟨y, hyz⟩ := hS0.2.1
      refine wp_store_row 63 _ _ rfl Z _ rfl rfl 63 _ hyz (by rw [infoH]; rfl) rfl (by rw [← HNC.out]; exact oneH r) ?_
      rw [← HNC.out]
      have hS2 : ReadS X Z x at_ nl ct l w (wd.setRow Z (hashC r.g r.v)) := row_kept hS0 hyz hXZ (by have := HX.out; omega) _
      refine hKK.out _ _ (fun _ => hS2) ?_; clear hKK KK
      try simp only [Act.put, List.setIfInBounds_toArray]
      refine takeD (i := 26) (d := 5) (v := .bool false) rfl rfl (by kernel_rfl) (by kernel_rfl) (by kernel_rfl) (fun _ _ _ h => h) (by kernel_rfl) rfl (Or.inl ⟨by kernel_rfl, ?_⟩) hS2 ?_
      · intro wz hSw
        obtain ⟨s0, s1, s2, s3, s4⟩ := cells5 hSw.1
        go_simp
      try simp only [Act.put]
      refine heldG.doneG (by kernel_rfl) ?_ _
      go_wp2_with fail
      exact fin _ rfl rfl (setRow_heap _ _ _ _ _ _ hyz) ⟨⟨r, false, rfl, fun h => (by cases h), fun _ => HUR.out⟩, hS2.2.2.2⟩
    have H3 : Hid (decide ((R : Int) ≤ 50) = true) := Lib.hid (decide_eq_true (by omega))
    have HUR : Hid (useH ap.data.toList x = some ⟨x, true, NN, O, S, (R : Int), l⟩) := Lib.hid (by
      rw [HUB.out, if_pos ⟨by rw [HRR.out]; omega, by rw [HNN.out, HNT.out]⟩, HOV.out]
      simp only [size_len]
      rw [if_pos HOT.out, HRR.out, ← HND.out, ← HSD.out])
    refine takeD (i := 13) (d := 95) (v := .string O) rfl rfl (by kernel_rfl) (by kernel_rfl) (by kernel_rfl) (fun _ _ _ h => h) (by kernel_rfl) rfl (Or.inl ⟨by kernel_rfl, ?_⟩) hS0 ?_
    · intro wz hSw
      obtain ⟨s0, s1, s2, s3, s4⟩ := cells5 hSw.1
      go_simp
    try simp only [Act.put, List.setIfInBounds_toArray, List.set_cons_zero, List.set_cons_succ]
    refine takeD (i := 14) (d := 96) (v := .int .i64 (O.size : Int)) rfl rfl (by kernel_rfl) (by kernel_rfl) (by kernel_rfl) (fun _ _ _ h => h) (by kernel_rfl) rfl (Or.inl ⟨by kernel_rfl, ?_⟩) hS0 ?_
    · intro wz hSw
      obtain ⟨s0, s1, s2, s3, s4⟩ := cells5 hSw.1
      go_simp; first | done | omega | exact HOZ.out
    try simp only [Act.put, List.setIfInBounds_toArray, List.set_cons_zero, List.set_cons_succ]
    refine takeD (i := 15) (d := 97) (v := .bool true) rfl rfl (by kernel_rfl) (by kernel_rfl) (by kernel_rfl) (fun _ _ _ h => h) (by kernel_rfl) rfl (Or.inl ⟨by kernel_rfl, ?_⟩) hS0 ?_
    · intro wz hSw
      obtain ⟨s0, s1, s2, s3, s4⟩ := cells5 hSw.1
      go_simp; first | done | omega | exact HOZ.out
    try simp only [Act.put, List.setIfInBounds_toArray, List.set_cons_zero, List.set_cons_succ]
    refine takeD (i := 16) (d := 98) (v := .bool true) rfl rfl (by kernel_rfl) (by kernel_rfl) (by kernel_rfl) (fun _ _ _ h => h) (by kernel_rfl) rfl (Or.inl ⟨by kernel_rfl, ?_⟩) hS0 ?_
    · intro wz hSw
      obtain ⟨s0, s1, s2, s3, s4⟩ := cells5 hSw.1
      go_simp
    try simp only [Act.put, List.setIfInBounds_toArray, List.set_cons_zero, List.set_cons_succ]
    refine takeD (i := 17) (d := 99) (v := .bool true) rfl rfl (by kernel_rfl) (by kernel_rfl) (by kernel_rfl) (fun _ _ _ h => h) (by kernel_rfl) rfl (Or.inl ⟨by kernel_rfl, ?_⟩) hS0 ?_
    · intro wz hSw
      obtain ⟨s0, s1, s2, s3, s4⟩ := cells5 hSw.1
      go_simp
    try simp only [Act.put, List.setIfInBounds_toArray, List.set_cons_zero, List.set_cons_succ]
    refine takeD (i := 18) (d := 100) (v := .int .i64 (nc.toNat : Int)) rfl rfl (by kernel_rfl) (by kernel_rfl) (by kernel_rfl) (fun _ _ _ h => h) (by kernel_rfl) rfl (Or.inl ⟨by kernel_rfl, ?_⟩) hS0 ?_
    · intro wz hSw
      obtain ⟨s0, s1, s2, s3, s4⟩ := cells5 hSw.1
      go_simp
    try simp only [Act.put, List.setIfInBounds_toArray, List.set_cons_zero, List.set_cons_succ]
    refine takeD (i := 19) (d := 101) (v := .bool true) rfl rfl (by kernel_rfl) (by kernel_rfl) (by kernel_rfl) (fun _ _ _ h => h) (by kernel_rfl) rfl (Or.inl ⟨by kernel_rfl, ?_⟩) hS0 ?_
    · intro wz hSw
      obtain ⟨s0, s1, s2, s3, s4⟩ := cells5 hSw.1
      go_simp; first | done | omega | exact HOZ.out
    try simp only [Act.put, List.setIfInBounds_toArray, List.set_cons_zero, List.set_cons_succ]
    refine takeD (i := 20) (d := 102) (v := .bool true) rfl rfl (by kernel_rfl) (by kernel_rfl) (by kernel_rfl) (fun _ _ _ h => h) (by kernel_rfl) rfl (Or.inl ⟨by kernel_rfl, ?_⟩) hS0 ?_
    · intro wz hSw
      obtain ⟨s0, s1, s2, s3, s4⟩ := cells5 hSw.1
      go_simp
    try simp only [Act.put, List.setIfInBounds_toArray, List.set_cons_zero, List.set_cons_succ]
    refine takeD (i := 21) (d := 103) (v := .bool true) rfl rfl (by kernel_rfl) (by kernel_rfl) (by kernel_rfl) (fun _ _ _ h => h) (by kernel_rfl) rfl (Or.inl ⟨by kernel_rfl, ?_⟩) hS0 ?_
    · intro wz hSw
      obtain ⟨s0, s1, s2, s3, s4⟩ := cells5 hSw.1
      go_simp
    try simp only [Act.put, List.setIfInBounds_toArray, List.set_cons_zero, List.set_cons_succ]
    refine takeD (i := 22) (d := 104) (v := .int .i64 (R : Int)) rfl rfl (by kernel_rfl) (by kernel_rfl) (by kernel_rfl) (fun _ _ _ h => h) (by kernel_rfl) rfl (Or.inl ⟨by kernel_rfl, ?_⟩) hS0 ?_
    · intro wz hSw
      obtain ⟨s0, s1, s2, s3, s4⟩ := cells5 hSw.1
      go_simp
    try simp only [Act.put, List.setIfInBounds_toArray, List.set_cons_zero, List.set_cons_succ]
    refine takeD (i := 23) (d := 105) (v := .bool true) rfl rfl (by kernel_rfl) (by kernel_rfl) (by kernel_rfl) (fun _ _ _ h => h) (by kernel_rfl) rfl (Or.inl ⟨by kernel_rfl, ?_⟩) hS0 ?_
    · intro wz hSw
      obtain ⟨s0, s1, s2, s3, s4⟩ := cells5 hSw.1
      go_simp; first | done | omega | exact HOZ.out
    try simp only [Act.put, List.setIfInBounds_toArray, List.set_cons_zero, List.set_cons_succ]
    refine takeD (i := 24) (d := 106) (v := .bool true) rfl rfl (by kernel_rfl) (by kernel_rfl) (by kernel_rfl) (fun _ _ _ h => h) (by kernel_rfl) rfl (Or.inl ⟨by kernel_rfl, ?_⟩) hS0 ?_
    · intro wz hSw
      obtain ⟨s0, s1, s2, s3, s4⟩ := cells5 hSw.1
      go_simp
    try simp only [Act.put, List.setIfInBounds_toArray, List.set_cons_zero, List.set_cons_succ]
    refine heldG.readyG (rs := [25]) (by kernel_rfl) (by simp) ?_
    refine heldG.AllG.cons rfl (fun KK hKK => ?_) heldG.AllG.nil
    rw [if_pos (by kernel_rfl)]
    obtain ⟨y, hyz⟩ := hS0.2.1
    refine wp_store_row 63 _ _ rfl Z _ rfl rfl 63 _ hyz (by rw [infoH]; rfl) rfl (by rw [← HNC.out]; exact oneH r) ?_
    rw [← HNC.out]
    have hS2 : ReadS X Z x at_ nl ct l w (wd.setRow Z (hashC r.g r.v)) := row_kept hS0 hyz hXZ (by have := HX.out; omega) _
    refine hKK.out _ _ (fun _ => hS2) ?_; clear hKK KK
    try simp only [Act.put, List.setIfInBounds_toArray]
    refine takeD (i := 26) (d := 5) (v := .bool true) rfl rfl (by kernel_rfl) (by kernel_rfl) (by kernel_rfl) (fun _ _ _ h => h) (by kernel_rfl) rfl (Or.inl ⟨by kernel_rfl, ?_⟩) hS2 ?_
    · intro wz hSw
      obtain ⟨s0, s1, s2, s3, s4⟩ := cells5 hSw.1
      go_simp
    try simp only [Act.put]
    refine heldG.doneG (by kernel_rfl) ?_ _
    go_wp2_with fail
    exact fin _ rfl rfl (setRow_heap _ _ _ _ _ _ hyz) ⟨⟨r, true, rfl, fun _ => ⟨HUR.out.trans (congrArg some HRG.out.symm), HTY.out _ hS2.2.2.1 HOT.out⟩, fun h => (by cases h)⟩, hS2.2.2.2⟩
end Go.Proofs.YtanoiiodnddkfaaGreat.readH

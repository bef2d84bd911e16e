/- The text that is signed, by the document: gazetteerref4.Signed: walk. -/
import Derived.Test.YtflijhodlimjoaaGreatK18
import Derived.Test.YtflijhodlimjoaaGreatK23
import Derived.Test.YtflijhodlimjoaaGreatK20
import Derived.Test.YtflijhodlimjoaaGreatK19
import Derived.Test.YtflijhodlimjoaaGreatK11
import Derived.Test.YtflijhodlimjoaaGreatK21
import Derived.Deep.RegionHeld3
import Derived.Deep.AppendLies
namespace Go.Proofs.YtflijhodlimjoaaGreat.signed
open Go.RowKit Go.Proofs.YtflijhodlimjoaaGreat.kit Go.Proofs.YtflijhodlimjoaaGreat.timed Go.Proofs.YtflijhodlimjoaaGreat.nspec Go.Proofs.YtflijhodlimjoaaGreat.rsplit Go.Proofs.YtflijhodlimjoaaGreat.fld Go.Proofs.YtflijhodlimjoaaGreat.dfold Go.Proofs.YtflijhodlimjoaaGreat.refA Go.Proofs.YtflijhodlimjoaaGreat.big Go.Proofs.YtflijhodlimjoaaGreat.val Go.Proofs.YtflijhodlimjoaaGreat.star Go.Proofs.YtflijhodlimjoaaGreat.wireP Go.Proofs.YtflijhodlimjoaaGreat.wireM Go.Proofs.YtflijhodlimjoaaGreat.rows Go.Proofs.YtflijhodlimjoaaGreat.sealA Go.Proofs.YtflijhodlimjoaaGreat.sealS Go.Proofs.YtflijhodlimjoaaGreat.sortT Go.Proofs.YtflijhodlimjoaaGreat.sorted
set_option linter.unusedVariables false

theorem keep8 {W w w' : World} {pg po : Nat} {P0 P1 P2 P3 P4 P5 P6 P7 : ByteArray} (h : w.cell? ⟨pg, po, none⟩ = some (.string P0) ∧ w.cell? ⟨pg, po + 1, none⟩ = some (.string P1) ∧ w.cell? ⟨pg, po + 2, none⟩ = some (.string P2) ∧ w.cell? ⟨pg, po + 3, none⟩ = some (.string P3) ∧ w.cell? ⟨pg, po + 4, none⟩ = some (.string P4) ∧ w.cell? ⟨pg, po + 5, none⟩ = some (.string P5) ∧ w.cell? ⟨pg, po + 6, none⟩ = some (.string P6) ∧ w.cell? ⟨pg, po + 7, none⟩ = some (.string P7) ∧ Below W.heap.size W w) (hB : Below w.heap.size w w') :
    w'.cell? ⟨pg, po, none⟩ = some (.string P0) ∧ w'.cell? ⟨pg, po + 1, none⟩ = some (.string P1) ∧ w'.cell? ⟨pg, po + 2, none⟩ = some (.string P2) ∧ w'.cell? ⟨pg, po + 3, none⟩ = some (.string P3) ∧ w'.cell? ⟨pg, po + 4, none⟩ = some (.string P4) ∧ w'.cell? ⟨pg, po + 5, none⟩ = some (.string P5) ∧ w'.cell? ⟨pg, po + 6, none⟩ = some (.string P6) ∧ w'.cell? ⟨pg, po + 7, none⟩ = some (.string P7) ∧ Below W.heap.size W w' := by
  obtain ⟨a0, a1, a2, a3, a4, a5, a6, a7, h9⟩ := h
  exact ⟨isSet.cell_kept hB a0, isSet.cell_kept hB a1, isSet.cell_kept hB a2, isSet.cell_kept hB a3, isSet.cell_kept hB a4, isSet.cell_kept hB a5, isSet.cell_kept hB a6, isSet.cell_kept hB a7, h9.trans (hB.mono h9.size)⟩
theorem keep2 {W w w' : World} {X g o o' : Nat} {v1 u : Value} (h : w.cell? ⟨X, o', none⟩ = some v1 ∧ w.cell? ⟨g, o, none⟩ = some u ∧ Below W.heap.size W w) (hB : Below w.heap.size w w') :
    w'.cell? ⟨X, o', none⟩ = some v1 ∧ w'.cell? ⟨g, o, none⟩ = some u ∧ Below W.heap.size W w' := by
  obtain ⟨a1, b0, h9⟩ := h
  exact ⟨isSet.cell_kept hB a1, isSet.cell_kept hB b0, h9.trans (hB.mono h9.size)⟩
/-- a row of eight texts and more -/
structure Rd8 (w : World) (pa : Option Addr) (P0 P1 P2 P3 P4 P5 P6 P7 : ByteArray) (pg po : Nat) : Prop where
  at_ : pa = some ⟨pg, po, none⟩
  lt : pg < w.heap.size
  c : w.cell? ⟨pg, po, none⟩ = some (.string P0) ∧ w.cell? ⟨pg, po + 1, none⟩ = some (.string P1) ∧ w.cell? ⟨pg, po + 2, none⟩ = some (.string P2) ∧ w.cell? ⟨pg, po + 3, none⟩ = some (.string P3) ∧ w.cell? ⟨pg, po + 4, none⟩ = some (.string P4) ∧ w.cell? ⟨pg, po + 5, none⟩ = some (.string P5) ∧ w.cell? ⟨pg, po + 6, none⟩ = some (.string P6) ∧ w.cell? ⟨pg, po + 7, none⟩ = some (.string P7)
theorem Rd8.of {w : World} {pa : Option Addr} {ps : List Bs} {P0 P1 P2 P3 P4 P5 P6 P7 : ByteArray} (h : Rd w pa 0 ps) (h0 : ps.take 8 = [P0.data.toList, P1.data.toList, P2.data.toList, P3.data.toList, P4.data.toList, P5.data.toList, P6.data.toList, P7.data.toList]) : ∃ pg po, Rd8 w pa P0 P1 P2 P3 P4 P5 P6 P7 pg po := by
  have key : ∀ (j : Nat) (x : Bs), j < 8 → [P0.data.toList, P1.data.toList, P2.data.toList, P3.data.toList, P4.data.toList, P5.data.toList, P6.data.toList, P7.data.toList][j]? = some x → ps[j]? = some x := by
    intro j x hj hx
    rw [← h0, List.getElem?_take_of_lt hj] at hx
    exact hx
  obtain ⟨pg, po, e0, _, lt, c0⟩ := h 0 _ (key 0 _ (by decide) rfl)

  obtain ⟨g1, o1, e1, _, _, c1⟩ := h 1 _ (key 1 _ (by decide) rfl)
  rw [e0] at e1
  cases e1

  obtain ⟨g2, o2, e2, _, _, c2⟩ := h 2 _ (key 2 _ (by decide) rfl)
  rw [e0] at e2
  cases e2

  obtain ⟨g3, o3, e3, _, _, c3⟩ := h 3 _ (key 3 _ (by decide) rfl)
  rw [e0] at e3
  cases e3

  obtain ⟨g4, o4, e4, _, _, c4⟩ := h 4 _ (key 4 _ (by decide) rfl)
  rw [e0] at e4
  cases e4

  obtain ⟨g5, o5, e5, _, _, c5⟩ := h 5 _ (key 5 _ (by decide) rfl)
  rw [e0] at e5
  cases e5

  obtain ⟨g6, o6, e6, _, _, c6⟩ := h 6 _ (key 6 _ (by decide) rfl)
  rw [e0] at e6
  cases e6

  obtain ⟨g7, o7, e7, _, _, c7⟩ := h 7 _ (key 7 _ (by decide) rfl)
  rw [e0] at e7
  cases e7

  exact ⟨pg, po, e0, lt, c0, c1, c2, c3, c4, c5, c6, c7⟩
theorem idxS (g o n c j : Nat) (h : j < n) (w : World) : Sem.run Tryz.prog (Instr.indexAt 47 (.slice (some ⟨g, o, none⟩) n c) (.int .i64 (j : Int))) w = .ok (.pointer (some ⟨g, o + j, none⟩)) w := by
  have hu := Tryz.underlying47
  obtain ⟨i, hi1, hi2⟩ := Option.map_eq_some_iff.1 str_size
  have h1 : (0 : Int) ≤ (j : Int) := by omega
  have h2 : (j : Int) < (n : Int) := by omega
  simp [Instr.indexAt, asIntOf, run_underlying hu, go_sem, h]
theorem rec_size : (Tryz.prog.info? 34).map (·.size) = some 5 := by kernel_rfl
theorem idxR (g o n c : Nat) (h : 0 < n) (w : World) : Sem.run Tryz.prog (Instr.indexAt 22 (.slice (some ⟨g, o, none⟩) n c) (.int .i64 0)) w = .ok (.pointer (some ⟨g, o, none⟩)) w := by
  have hu := Tryz.underlying22
  obtain ⟨i, hi1, hi2⟩ := Option.map_eq_some_iff.1 rec_size
  simp [Instr.indexAt, asIntOf, run_underlying hu, go_sem, h]
theorem bulk_takeS (ds : List Bs) (k : Nat) : bulk (ds.take k) ≤ bulk ds := by
  have := bulk_append (ds.take k) (ds.drop k)
  rw [List.take_append_drop] at this; omega
theorem bulk_atS {ds : List Bs} {k : Nat} {d : Bs} (h : ds[k]? = some d) : d.length ≤ bulk ds := by
  obtain ⟨h1, h2⟩ := List.getElem?_eq_some_iff.1 h
  have e1 := bulk_append (ds.take k) (ds.drop k)
  rw [List.take_append_drop, List.drop_eq_getElem_cons h1, h2, bulk_cons] at e1
  omega
theorem str_new {k : Nat} {L : List Rc} {x : Rc} (hx : L[k]? = some x) : ((L.take (k + 1)).map foldX).map strV = ((L.take k).map foldX).map strV ++ [strV (foldX x)] := by
  obtain ⟨h1, h2⟩ := List.getElem?_eq_some_iff.1 hx
  rw [List.take_succ_eq_append_getElem h1, h2, List.map_append, List.map_append]
  rfl
theorem valS_lt : ∀ (l : List UInt8) (v : Nat), valL l v < (v + 1) * 256 ^ l.length
  | [], v => by simp [valL]
  | c :: r, v => by
    have h := valS_lt r (v * 256 + c.toNat)
    have hc := c.toNat_lt
    rw [valL, List.length_cons, Nat.pow_succ]
    refine Nat.lt_of_lt_of_le h ?_
    rw [Nat.mul_comm (256 ^ r.length) 256, ← Nat.mul_assoc]
    exact Nat.mul_le_mul_right _ (by omega)
theorem val4S {l : List UInt8} (h : l.length ≤ 4) : valL l 0 < 4294967296 := by
  have h1 := valS_lt l 0
  have h2 : 256 ^ l.length ≤ 256 ^ 4 := Nat.pow_le_pow_right (by omega) h
  omega
theorem body_more {own t2 ttl : Bs} {ds : List Bs} {k : Nat} {d : Bs} (hd : ds[k]? = some d) : bodyS own t2 ttl (ds.take k) ++ pieceT own t2 ttl d = bodyS own t2 ttl (ds.take (k + 1)) := by
  obtain ⟨h1, h2⟩ := List.getElem?_eq_some_iff.1 hd
  rw [List.take_succ_eq_append_getElem h1, h2, body_snoc]
set_option maxRecDepth 100000 in
set_option maxHeartbeats 16000000 in
theorem signed_any (pa : Option Addr) (pn pc : Nat) (P0 P1 P2 P3 P4 P5 P6 P7 : ByteArray) (pg po : Nat) (a : Option Addr) (n c : Nat) (L : List Rc) (h : Rc) (T : Nat) (OW : Bs) (w : World)
    (hp : Rd8 w pa P0 P1 P2 P3 P4 P5 P6 P7 pg po) (hpn : 8 ≤ pn) (s0 : P0.size ≤ 4) (s1 : P1.size ≤ 4) (s2 : P2.size ≤ 4) (s3 : P3.size ≤ 4) (s4 : P4.size ≤ 4) (s5 : P5.size ≤ 4) (s6 : P6.size ≤ 4) (s7 : P7.size ≤ 1099511627776)
    (hn : n = L.length) (hr : RdC w a 5 (L.map Rc.cells)) (ho : ∀ x ∈ L, OkR x) (hbig : n ≤ 16777216) (h0 : L[0]? = some h) (hT : h.t = (T : Int)) (hT2 : T ≤ 65535) (hbk : bulk (L.map foldX) ≤ 68719476736)
    (hO : (if ((valL P2.data.toList 0 : Nat) : Int) < lessS (foldS h.o.data.toList) then starS (tailS (foldS h.o.data.toList) ((valL P2.data.toList 0 : Nat) : Int)) else foldS h.o.data.toList) = OW) (hOl : OW.length ≤ 255) :
    Calls Tryz.prog 71 #[.slice pa pn pc, .slice a n c] w fun e w' => e = .returned (.string ⟨((P0.data.toList ++ P1.data.toList ++ P2.data.toList ++ P3.data.toList ++ P4.data.toList ++ P5.data.toList ++ P6.data.toList ++ foldS P7.data.toList) ++ bodyS OW (bigS T 2) P3.data.toList (sortedT (L.map foldX))).toArray⟩) ∧ Below w.heap.size w w' := by
  obtain ⟨i0, hif, hz0, hz1, hz2⟩ := info_parts sorted.infoStr
  have hoh := ho h (List.mem_of_getElem? h0)
  have CF7 := Lib.hid (fun wx => fold_any P7 wx s7)
  have hf7 := fold_short P7.data.toList
  obtain ⟨FP, hFP⟩ : ∃ FP : ByteArray, (⟨(foldS P7.data.toList).toArray⟩ : ByteArray) = FP := ⟨_, rfl⟩
  have hFPd : foldS P7.data.toList = FP.data.toList := by rw [← hFP]
  rw [hFP] at CF7
  rw [hFPd] at hf7
  rw [size_len] at hf7
  rw [hFPd]
  have CO := Lib.hid (fun wx => fold_any h.o wx hoh.o)
  have hfo := fold_short h.o.data.toList
  obtain ⟨FO, hFO⟩ : ∃ FO : ByteArray, (⟨(foldS h.o.data.toList).toArray⟩ : ByteArray) = FO := ⟨_, rfl⟩
  have hFOd : foldS h.o.data.toList = FO.data.toList := by rw [← hFO]
  rw [hFO] at CO
  rw [hFOd] at hfo hO
  rw [size_len] at hfo
  have CV := Lib.hid (fun wx => rvalue_any P2 wx s2)
  obtain ⟨V, hV⟩ : ∃ V, valL P2.data.toList 0 = V := ⟨_, rfl⟩
  have hVb : V < 4294967296 := by rw [← hV]; exact val4S (by rw [size_len]; exact s2)
  rw [hV] at CV hO
  have CSL := Lib.hid (fun wx => starless_any FO wx (by omega))
  obtain ⟨K, hK⟩ : ∃ K, lessS FO.data.toList = K := ⟨_, rfl⟩
  rw [hK] at CSL hO
  have CT := Lib.hid (fun wx => refA.tail_any FO (V : Int) wx (by omega))
  obtain ⟨TB, hTB⟩ : ∃ TB : ByteArray, (⟨(tailS FO.data.toList (V : Int)).toArray⟩ : ByteArray) = TB := ⟨_, rfl⟩
  have hTBd : tailS FO.data.toList (V : Int) = TB.data.toList := by rw [← hTB]
  have hTBs : TB.size ≤ 255 := by rw [← size_len, ← hTBd]; exact refB.tailS_len _ _
  rw [hTB] at CT
  rw [hTBd] at hO
  have CST := Lib.hid (fun wx => star.star_any TB wx (by omega))
  have CBT := Lib.hid (fun wx => rbytes_any 2 T wx (by omega) (by decide))
  obtain ⟨BT, hBT⟩ : ∃ BT : ByteArray, (⟨(bigS T 2).toArray⟩ : ByteArray) = BT := ⟨_, rfl⟩
  have hBTd : bigS T 2 = BT.data.toList := by rw [← hBT]
  have hBTs : BT.size ≤ 2 := by rw [← size_len, ← hBTd, bigS_len]; exact Nat.le_refl _
  rw [hBT] at CBT
  rw [hBTd]
  obtain ⟨HD, hHD⟩ : ∃ HD : ByteArray, P0 ++ P1 ++ P2 ++ P3 ++ P4 ++ P5 ++ P6 ++ FP = HD := ⟨_, rfl⟩
  have hHDd : P0.data.toList ++ P1.data.toList ++ P2.data.toList ++ P3.data.toList ++ P4.data.toList ++ P5.data.toList ++ P6.data.toList ++ FP.data.toList = HD.data.toList := by
    rw [← hHD]; simp only [ByteArray.data_append, Array.toList_append]
  rw [hHDd]
  have hHDs : HD.size ≤ 300 := by
    rw [← hHD]; simp only [ByteArray.size_append]; omega
  have HHD := Lib.hid hHD
  have HN := Lib.hid hn; have HRD := Lib.hid hr; have HOK := Lib.hid ho; have H0 := Lib.hid h0; have HT := Lib.hid hT; have HOW := Lib.hid hO; have HOL := Lib.hid hOl; have HBK := Lib.hid hbk
  obtain ⟨pe, plt, c0, c1, c2, c3, c4, c5, c6, c7⟩ := hp
  subst pe
  have HC2 := Lib.hid c2; have HC3 := Lib.hid c3
  have hS0 : w.drew.cell? ⟨pg, po, none⟩ = some (.string P0) ∧ w.drew.cell? ⟨pg, po + 1, none⟩ = some (.string P1) ∧ w.drew.cell? ⟨pg, po + 2, none⟩ = some (.string P2) ∧ w.drew.cell? ⟨pg, po + 3, none⟩ = some (.string P3) ∧ w.drew.cell? ⟨pg, po + 4, none⟩ = some (.string P4) ∧ w.drew.cell? ⟨pg, po + 5, none⟩ = some (.string P5) ∧ w.drew.cell? ⟨pg, po + 6, none⟩ = some (.string P6) ∧ w.drew.cell? ⟨pg, po + 7, none⟩ = some (.string P7) ∧ Below w.heap.size w w.drew := ⟨c0, c1, c2, c3, c4, c5, c6, c7, (Below.refl _ _).drew⟩
  have n1 : ¬ 9223372036854775807 < P0.size + P1.size := by omega
  have n2 : ¬ 9223372036854775807 < P0.size + P1.size + P2.size := by omega
  have n3 : ¬ 9223372036854775807 < P0.size + P1.size + P2.size + P3.size := by omega
  have n4 : ¬ 9223372036854775807 < P0.size + P1.size + P2.size + P3.size + P4.size := by omega
  have n5 : ¬ 9223372036854775807 < P0.size + P1.size + P2.size + P3.size + P4.size + P5.size := by omega
  have n6 : ¬ 9223372036854775807 < P0.size + P1.size + P2.size + P3.size + P4.size + P5.size + P6.size := by omega
  have n7 : ¬ 9223372036854775807 < P0.size + P1.size + P2.size + P3.size + P4.size + P5.size + P6.size + FP.size := by omega
  have i0 : ∀ w : World, Sem.run Tryz.prog (Instr.indexAt 47 (.slice (some ⟨pg, po, none⟩) pn pc) (.int .i64 0)) w = .ok (.pointer (some ⟨pg, po, none⟩)) w := fun w => idxS pg po pn pc 0 (by omega) w
  have i1 : ∀ w : World, Sem.run Tryz.prog (Instr.indexAt 47 (.slice (some ⟨pg, po, none⟩) pn pc) (.int .i64 1)) w = .ok (.pointer (some ⟨pg, po + 1, none⟩)) w := fun w => idxS pg po pn pc 1 (by omega) w
  have i2 : ∀ w : World, Sem.run Tryz.prog (Instr.indexAt 47 (.slice (some ⟨pg, po, none⟩) pn pc) (.int .i64 2)) w = .ok (.pointer (some ⟨pg, po + 2, none⟩)) w := fun w => idxS pg po pn pc 2 (by omega) w
  have i3 : ∀ w : World, Sem.run Tryz.prog (Instr.indexAt 47 (.slice (some ⟨pg, po, none⟩) pn pc) (.int .i64 3)) w = .ok (.pointer (some ⟨pg, po + 3, none⟩)) w := fun w => idxS pg po pn pc 3 (by omega) w
  have i4 : ∀ w : World, Sem.run Tryz.prog (Instr.indexAt 47 (.slice (some ⟨pg, po, none⟩) pn pc) (.int .i64 4)) w = .ok (.pointer (some ⟨pg, po + 4, none⟩)) w := fun w => idxS pg po pn pc 4 (by omega) w
  have i5 : ∀ w : World, Sem.run Tryz.prog (Instr.indexAt 47 (.slice (some ⟨pg, po, none⟩) pn pc) (.int .i64 5)) w = .ok (.pointer (some ⟨pg, po + 5, none⟩)) w := fun w => idxS pg po pn pc 5 (by omega) w
  have i6 : ∀ w : World, Sem.run Tryz.prog (Instr.indexAt 47 (.slice (some ⟨pg, po, none⟩) pn pc) (.int .i64 6)) w = .ok (.pointer (some ⟨pg, po + 6, none⟩)) w := fun w => idxS pg po pn pc 6 (by omega) w
  have i7 : ∀ w : World, Sem.run Tryz.prog (Instr.indexAt 47 (.slice (some ⟨pg, po, none⟩) pn pc) (.int .i64 7)) w = .ok (.pointer (some ⟨pg, po + 7, none⟩)) w := fun w => idxS pg po pn pc 7 (by omega) w
  clear hFP hFPd hFO hFOd hV hK hTB hTBd hBT hBTd hHD hHDd hn hr ho h0 hT hO hOl hbk
  go_enter Tryz.func71, Tryz.ntmps71
  trace "1"
  go_upto_region 1 with fail
  trace "2"
  go_region_held3 (fun w' => w'.cell? ⟨pg, po, none⟩ = some (.string P0) ∧ w'.cell? ⟨pg, po + 1, none⟩ = some (.string P1) ∧ w'.cell? ⟨pg, po + 2, none⟩ = some (.string P2) ∧ w'.cell? ⟨pg, po + 3, none⟩ = some (.string P3) ∧ w'.cell? ⟨pg, po + 4, none⟩ = some (.string P4) ∧ w'.cell? ⟨pg, po + 5, none⟩ = some (.string P5) ∧ w'.cell? ⟨pg, po + 6, none⟩ = some (.string P6) ∧ w'.cell? ⟨pg, po + 7, none⟩ = some (.string P7) ∧ Below w.heap.size w w') (first | assumption | (refine ⟨?_, ?_, ?_, ?_, ?_, ?_, ?_, ?_, ?_⟩ <;> assumption))
    (first | (go_at_call 68; refine (CF7.out _).mono ?_; rintro e w' ⟨rfl, hBz⟩; have hSz := keep8 (by assumption) hBz; clear hBz))
  trace "3"
  rw [HHD.out]
  obtain ⟨w1, hw1⟩ : ∃ w1, w' = w1 := ⟨_, rfl⟩
  rw [hw1] at hSz ⊢
  have HB1 := Lib.hid hSz.2.2.2.2.2.2.2.2
  have hbz1 : w.heap.size ≤ w1.heap.size := HB1.out.size
  obtain ⟨g1, o1, rfl, hg1, hcl⟩ := at_r HRD.out H0.out
  rw [Nat.zero_mul, Nat.add_zero] at hcl
  have HCL := Lib.hid hcl; have HG1 := Lib.hid hg1; have HPG := Lib.hid plt
  clear hw1 hSz hS0 c0 c1 c2 c3 c4 c5 c6 c7 n1 n2 n3 n4 n5 n6 n7 i0 i1 i3 i4 i5 i6 i7 hcl hg1 plt CF7
  have hd0 := (HCL.out.below HB1.out HG1.out).1
  have zn : (0 : Int) < (n : Int) := by
    have := HN.out
    have h1 := (List.getElem?_eq_some_iff.1 H0.out).1
    omega
  have zn0 : ¬ n = 0 := by omega
  trace "4"
  go_wp2_with fail
  refine (CO.out _).mono ?_
  rintro e w2 ⟨rfl, hB2⟩
  have HB2 := Lib.hid (HB1.out.trans (hB2.mono hbz1))
  have hbz2 : w.heap.size ≤ w2.heap.size := HB2.out.size
  have hd2 := (HB2.out.cell (p := ⟨pg, po + 2, none⟩) HPG.out).trans HC2.out
  clear hB2 hd0
  trace "5"
  go_wp2_with fail
  refine (CV.out _).mono ?_
  rintro e w3 ⟨rfl, rfl⟩
  clear hd2 i2
  trace "6"
  go_wp2_with fail
  refine (CSL.out _).mono ?_
  rintro e w4 ⟨rfl, hB4⟩
  have HB4 := Lib.hid (HB2.out.trans (hB4.mono hbz2))
  have hbz4 : w.heap.size ≤ w4.heap.size := HB4.out.size
  clear hB4
  trace "7"
  by_cases hlk : (V : Int) < K
  · have HOX : Hid (starS TB.data.toList = OW) := Lib.hid (by rw [← HOW.out, if_pos hlk])
    go_wp2_with fail
    refine (CT.out _).mono ?_
    rintro e w5 ⟨rfl, hB5⟩
    have HB5 := Lib.hid (HB4.out.trans (hB5.mono hbz4))
    have hbz5 : w.heap.size ≤ w5.heap.size := HB5.out.size
    clear hB5
    go_wp2_with fail
    refine (CST.out _).mono ?_
    rintro e w6 ⟨rfl, hB6⟩
    have HB6 := Lib.hid (HB5.out.trans (hB6.mono hbz5))
    have hbz6 : w.heap.size ≤ w6.heap.size := HB6.out.size
    clear hB6
    rw [HOX.out]
    obtain ⟨OB, hOB⟩ : ∃ OB : ByteArray, (⟨OW.toArray⟩ : ByteArray) = OB := ⟨_, rfl⟩
    have HOB : Hid (OB.data.toList = OW) := Lib.hid (by rw [← hOB])
    rw [hOB]
    clear hOB
    trace "8"
    go_wp2_with fail
    go_loopg [8, 64] (n + 1) (fun gas ov kv wr => ∃ k : Nat, kv = .int .i64 (k : Int) ∧ k ≤ n ∧ k + gas = n + 1 ∧ Hid (wr.ownsRow w.heap.size 9 1 ov k (((L.take k).map foldX).map strV)) ∧ Hid (Below w.heap.size w wr))
    case atStart => exact ⟨0, rfl, by omega, by omega, Lib.hid (World.ownsRow_nil _ _ _ _), HB6⟩
    case round =>
      obtain ⟨k, rfl, hk, hkg, HR8, HB⟩ := hrel
      have HK := Lib.hid hkg; clear hkg
      have hbz : w.heap.size ≤ wr.heap.size := HB.out.size
      by_cases hlt : k < n
      · obtain ⟨x, hx⟩ : ∃ x, L[k]? = some x := ⟨_, List.getElem?_eq_getElem (by have := HN.out; omega)⟩
        obtain ⟨g2, o2, ha2, hg2, hc2⟩ := at_r HRD.out hx
        cases ha2
        have HX := Lib.hid hx
        obtain ⟨x0, x1, x2, x3, x4⟩ := hc2.below HB.out hg2
        have CF := Lib.hid (fun wx => rfold.rfold_any x.t x.d wx (Nat.le_trans (HOK.out x (List.mem_of_getElem? hx)).d (by unfold maxLen; omega)))
        have HTF := Lib.hid (str_new hx)
        obtain ⟨D, hD⟩ : ∃ D : ByteArray, (⟨(foldDS x.t x.d.data.toList).toArray⟩ : ByteArray) = D := ⟨_, rfl⟩
        rw [hD] at CF
        rw [show strV (foldX x) = .string D by unfold strV foldX; rw [hD]] at HTF
        obtain ⟨a1, c1, ha1⟩ : ∃ a c, u8 = .slice a k c := by
          rcases own_open HR8.out with ⟨h1, h2⟩ | ⟨g, c, h1, _⟩
          · exact ⟨none, 0, by rw [h1, h2]⟩
          · exact ⟨_, _, h1⟩
        subst ha1
        have hy := heap_alloc_new wr (.cells #[.string x.o, .int .i64 x.t, .int .i64 x.c, .int .i64 x.l, .string x.d] 34)
        have hB4 := (Below.refl wr.heap.size wr).alloc (Nat.le_refl _) (.cells #[.string x.o, .int .i64 x.t, .int .i64 x.c, .int .i64 x.l, .string x.d] 34)
        have HRB := Lib.hid (bld.own_below HR8.out hB4)
        obtain ⟨X, hX⟩ : ∃ X, wr.heap.size = X := ⟨_, rfl⟩
        obtain ⟨w7, hw7⟩ : ∃ w7, wr.alloc (.cells #[.string x.o, .int .i64 x.t, .int .i64 x.c, .int .i64 x.l, .string x.d] 34) = w7 := ⟨_, rfl⟩
        rw [hw7] at hy hB4 HRB
        rw [hX] at hy
        have HB7 := Lib.hid (HB.out.trans (hB4.mono hbz))
        have hbz7 : w.heap.size ≤ w7.heap.size := HB7.out.size
        have t1 : w7.cell? ⟨X, 1, none⟩ = some (.int .i64 x.t) := by simp only [World.cell?, hy]; rfl
        have t4 : w7.cell? ⟨X, 4, none⟩ = some (.string x.d) := by simp only [World.cell?, hy]; rfl
        have HW7 := Lib.hid hw7; have HXX := Lib.hid hX
        have zk : (0 : Int) ≤ (k : Int) := by omega
        have zl : (k : Int) < (n : Int) := by omega
        clear hx hc2 hD hy hB4 hw7 hX HR8 hlt
        trace "a1"
        go_upto_region 10 with fail
        rw [HW7.out]
        try rw [HXX.out]
        clear x0 x1 x2 x3 x4
        go_wp2_with fail
        refine (CF.out _).mono ?_
        rintro e w8 ⟨rfl, hB8⟩
        have HO8 := Lib.hid (bld.own_below HRB.out hB8)
        have HB8 := Lib.hid (HB7.out.trans (hB8.mono hbz7))
        have hbz8 : w.heap.size ≤ w8.heap.size := HB8.out.size
        clear hB8 t1 t4 HRB
        trace "a2"
        go_wp2_with (at_builtin; refine wpList_append_lies _ rfl _ _ 47 rfl w.heap.size 9 i0 _ 1 16 Tryz.underlying47 hif hz0 hz1 hz2 rfl (by decide) (.slice a1 k c1) k (((L.take k).map foldX).map strV) rfl (HO8.out.alloc _) ⟨w8.heap.size, 0, none⟩ 1 1 [.string D] rfl rfl ?d1x ?d2x (by decide) ?d3x ?d4x ?d5x _ rfl ?_)
        case d1x => exact World.news_of_block (heap_alloc_new _ _)
        case d2x => intro u hu; simp only [List.mem_singleton] at hu; subst hu; rfl
        case d3x => unfold maxLen; omega
        case d4x => omega
        case d5x => first | omega | (simp; omega)
        intro g3 cp w9 hown9 hgr9 hat9 hlt9
        have HB9 : Hid (Below w.heap.size w w9) := Lib.hid (below_append' (HB8.out.alloc hbz8 _) (by simp; omega) (HO8.out.alloc _) hgr9)
        have HO9 : Hid (w9.ownsRow w.heap.size 9 1 (.slice (some ⟨g3, 0, none⟩) (k + 1) cp) (k + 1) (((L.take (k + 1)).map foldX).map strV)) := Lib.hid (by
          rw [HTF.out]
          first | exact hown9 | (rw [List.map_take]; exact hown9) | (simpa [List.map_take] using hown9))
        clear hown9 hgr9 hat9 hlt9
        trace "a3"
        go_wp2_with fail
        have hkg := HK.out
        go_roundg (gk - 1)
        case rel => exact ⟨k + 1, by go_num, by omega, by omega, HO9, HB9⟩
        case measure => omega
      · have hke : k = n := by omega
        subst hke
        have HDS : Hid (((L.take k).map foldX) = L.map foldX) := Lib.hid (by rw [List.take_of_length_le (by rw [HN.out]; exact Nat.le_refl _)])
        rw [HDS.out] at HR8
        obtain ⟨LS, hLS⟩ : ∃ LS, L.map foldX = LS := ⟨_, rfl⟩
        have hLn : k = LS.length := by rw [← hLS, List.length_map]; exact HN.out
        have HBKS : Hid (bulk (sortedT LS) ≤ 68719476736) := Lib.hid (by
          have h1 := (fold_sorted LS [] List.Pairwise.nil).2
          rw [List.append_nil] at h1
          rw [show bulk (sortedT LS) = bulk LS from bulk_perm h1, ← hLS]
          exact HBK.out)
        rw [hLS] at HR8
        have HLS := Lib.hid hLS
        have hR8 := HR8.out
        rw [hLn] at hR8
        obtain ⟨a8, c8, hv8, hrd8⟩ := Rd.of_own hR8
        rw [← hLn] at hv8
        subst hv8
        have CSO := Lib.hid (sorted_any a8 k c8 LS wr hLn (fun j x hx => by obtain ⟨g, o, h1, _, h3, h4⟩ := hrd8 j x hx; exact ⟨g, o, h1, Nat.zero_le _, h3, h4⟩) (by omega))
        have hSL : (sortedT LS).length = k := by rw [sortedT_len, hLn]
        obtain ⟨DS, hDS⟩ : ∃ DS, sortedT LS = DS := ⟨_, rfl⟩
        rw [hDS] at CSO HBKS hSL
        have HDSE := Lib.hid hDS
        have HSL := Lib.hid hSL
        have zz : ¬ (k : Int) < (k : Int) := by omega
        clear hLS hLn hR8 hrd8 hSL hDS HR8 HDS hlt
        trace "b1"
        go_wp2_with fail
        refine CSO.out.mono ?_
        rintro e w9 ⟨v9, rfl, hO9, hB9⟩
        have hO9' := hO9
        rw [← HSL.out] at hO9'
        obtain ⟨a9, c9, hv9, hrd9⟩ := Rd.of_own hO9'
        rw [HSL.out] at hv9
        subst hv9
        have HRD9 := Lib.hid hrd9
        have HB9 := Lib.hid (HB.out.trans (hB9.mono hbz))
        have hbz9 : w.heap.size ≤ w9.heap.size := HB9.out.size
        have HDT : Hid (HD.data.toList = HD.data.toList ++ bodyS OW BT.data.toList P3.data.toList (DS.take 0)) := Lib.hid (by simp [bodyS])
        clear hO9 hO9' hB9 hrd9 CSO
        trace "b2"
        go_wp2_with fail
        go_loopg [5, 80] (k + 1) (fun gas sv kv wr => ∃ (j : Nat) (S : ByteArray), sv = .string S ∧ kv = .int .i64 (j : Int) ∧ j ≤ k ∧ j + gas = k + 1 ∧ Hid (S.data.toList = HD.data.toList ++ bodyS OW BT.data.toList P3.data.toList (DS.take j)) ∧ Hid (Below w9.heap.size w9 wr))
        case atStart => exact ⟨0, HD, rfl, rfl, by omega, by omega, HDT, Lib.hid (Below.refl _ _)⟩
        case round =>
          clear HDT
          obtain ⟨j, S, rfl, rfl, hj, hjg, HS, HBJ⟩ := hrel
          have HJ := Lib.hid hjg; clear hjg
          by_cases hjk : j < k
          · obtain ⟨d, hd⟩ : ∃ d, DS[j]? = some d := ⟨_, List.getElem?_eq_getElem (by have := HSL.out; omega)⟩
            obtain ⟨g9, o9, rfl, _, hg9, hc9⟩ := HRD9.out j d hd
            have hcd := (HBJ.out.cell (p := ⟨g9, o9 + j, none⟩) hg9).trans hc9
            unfold strV at hcd
            obtain ⟨D, hD⟩ : ∃ D : ByteArray, (⟨d.toArray⟩ : ByteArray) = D := ⟨_, rfl⟩
            rw [hD] at hcd
            have hDd : D.data.toList = d := by rw [← hD]
            have hDs : D.size ≤ 68719476736 := by rw [← size_len, hDd]; exact Nat.le_trans (bulk_atS hd) HBKS.out
            have HBw := Lib.hid (HB9.out.trans (HBJ.out.mono hbz9))
            have q1 := (HCL.out.below HBw.out HG1.out).2.1
            rw [HT.out] at q1
            have q3 := (HBw.out.cell (p := ⟨pg, po + 3, none⟩) HPG.out).trans HC3.out
            have CB := Lib.hid (fun wx => rbytes_any 2 D.size wx (by omega) (by decide))
            obtain ⟨D2, hD2⟩ : ∃ D2 : ByteArray, (⟨(bigS D.size 2).toArray⟩ : ByteArray) = D2 := ⟨_, rfl⟩
            have hD2s : D2.size ≤ 2 := by rw [← hD2, mk_size, bigS_len]; exact Nat.le_refl _
            rw [hD2] at CB
            have hOs : OB.size ≤ 255 := by rw [← size_len, HOB.out]; exact HOL.out
            have hSs : S.size ≤ 100000000000 := by
              rw [← size_len, HS.out, List.length_append, size_len]
              have hbe := body_len (own := OW) (t2 := BT.data.toList) (ttl := P3.data.toList) HOL.out (by rw [size_len]; omega) (by rw [size_len]; omega) (DS.take j)
              have hbt := bulk_takeS DS j
              have h1 : (DS.take j).length ≤ k := by rw [List.length_take, HSL.out]; omega
              have h2 := HBKS.out
              omega
            have HFULL : Hid ((S ++ (OB ++ BT ++ ⟨#[0, 1]⟩ ++ P3 ++ D2 ++ D)).data.toList = HD.data.toList ++ bodyS OW BT.data.toList P3.data.toList (DS.take (j + 1))) := Lib.hid (by
              rw [← body_more hd, ← List.append_assoc, ← HS.out]
              unfold pieceT
              rw [← HOB.out, ← hDd, show D.data.toList.length = D.size from size_len D, ← hD2]
              simp only [ByteArray.data_append, Array.toList_append])
            have m1 : ¬ 9223372036854775807 < OB.size + BT.size := by omega
            have m2 : ¬ 9223372036854775807 < OB.size + BT.size + 2 := by omega
            have m3 : ¬ 9223372036854775807 < OB.size + BT.size + 2 + P3.size := by omega
            have m4 : ¬ 9223372036854775807 < OB.size + BT.size + 2 + P3.size + D2.size := by omega
            have m5 : ¬ 9223372036854775807 < OB.size + BT.size + 2 + P3.size + D2.size + D.size := by omega
            have m6 : ¬ 9223372036854775807 < S.size + (OB.size + BT.size + 2 + P3.size + D2.size + D.size) := by omega
            have i3 : ∀ w : World, Sem.run Tryz.prog (Instr.indexAt 47 (.slice (some ⟨pg, po, none⟩) pn pc) (.int .i64 3)) w = .ok (.pointer (some ⟨pg, po + 3, none⟩)) w := fun w => idxS pg po pn pc 3 (by omega) w
            have ir : ∀ w : World, Sem.run Tryz.prog (Instr.indexAt 22 (.slice (some ⟨g1, o1, none⟩) k c) (.int .i64 0)) w = .ok (.pointer (some ⟨g1, o1, none⟩)) w := fun w => idxR g1 o1 k c (by omega) w
            have hS0 : wr.drew.cell? ⟨g1, o1 + 1, none⟩ = some (.int .i64 (T : Int)) ∧ wr.drew.cell? ⟨pg, po + 3, none⟩ = some (.string P3) ∧ Below wr.heap.size wr wr.drew := ⟨q1, q3, (Below.refl _ _).drew⟩
            have zj : (0 : Int) ≤ (j : Int) := by omega
            have zjk : (j : Int) < (k : Int) := by omega
            clear hd hc9 hD hDd hD2 q1 q3 HS
            trace "c1"
            go_upto_region 15 with fail
            trace "c2"
            go_region_held3 (fun w' => w'.cell? ⟨g1, o1 + 1, none⟩ = some (.int .i64 (T : Int)) ∧ w'.cell? ⟨pg, po + 3, none⟩ = some (.string P3) ∧ Below wr.heap.size wr w') (first | assumption | (refine ⟨?_, ?_, ?_⟩ <;> assumption))
              (first
                | (go_at_call_of 64 (Value.int .i64 (T : Int)); refine (CBT.out _).mono ?_; rintro e w' ⟨rfl, hBz⟩; have hSz := keep2 (by assumption) hBz; clear hBz)
                | (go_at_call_of 64 (Value.int .i64 (D.size : Int)); refine (CB.out _).mono ?_; rintro e w' ⟨rfl, hBz⟩; have hSz := keep2 (by assumption) hBz; clear hBz))
            trace "c3"
            have HBJ2 : Hid (Below w9.heap.size w9 w') := Lib.hid (HBJ.out.trans (hSz.2.2.mono HBJ.out.size))
            clear hSz hS0 hcd
            go_wp2_with fail
            have hjg := HJ.out
            go_roundg (gk - 1)
            case rel => exact ⟨j + 1, _, rfl, by go_num, by omega, by omega, HFULL, HBJ2⟩
            case measure => omega
          · have hje : j = k := by omega
            subst hje
            have HSF : Hid (S = ⟨(HD.data.toList ++ bodyS OW BT.data.toList P3.data.toList DS).toArray⟩) := Lib.hid (ba_ext (by rw [HS.out, show DS.take j = DS from List.take_of_length_le (by rw [HSL.out]; exact Nat.le_refl _)]))
            have HBw := Lib.hid (HB9.out.trans (HBJ.out.mono hbz9))
            trace "d1"
            go_wp2_with fail
            go_ret
            exact ⟨by rw [HLS.out, HDSE.out, ← HSF.out]; rfl, HBw.out⟩
  · have HOB : Hid (FO.data.toList = OW) := Lib.hid (by rw [← HOW.out, if_neg hlk])
    obtain ⟨OB, hOB⟩ : ∃ OB, FO = OB := ⟨_, rfl⟩
    rw [hOB] at HOB ⊢
    clear hOB
    trace "9"
    go_wp2_with fail
    go_loopg [8, 64] (n + 1) (fun gas ov kv wr => ∃ k : Nat, kv = .int .i64 (k : Int) ∧ k ≤ n ∧ k + gas = n + 1 ∧ Hid (wr.ownsRow w.heap.size 9 1 ov k (((L.take k).map foldX).map strV)) ∧ Hid (Below w.heap.size w wr))
    case atStart => exact ⟨0, rfl, by omega, by omega, Lib.hid (World.ownsRow_nil _ _ _ _), HB4⟩
    case round =>
      obtain ⟨k, rfl, hk, hkg, HR8, HB⟩ := hrel
      have HK := Lib.hid hkg; clear hkg
      have hbz : w.heap.size ≤ wr.heap.size := HB.out.size
      by_cases hlt : k < n
      · obtain ⟨x, hx⟩ : ∃ x, L[k]? = some x := ⟨_, List.getElem?_eq_getElem (by have := HN.out; omega)⟩
        obtain ⟨g2, o2, ha2, hg2, hc2⟩ := at_r HRD.out hx
        cases ha2
        have HX := Lib.hid hx
        obtain ⟨x0, x1, x2, x3, x4⟩ := hc2.below HB.out hg2
        have CF := Lib.hid (fun wx => rfold.rfold_any x.t x.d wx (Nat.le_trans (HOK.out x (List.mem_of_getElem? hx)).d (by unfold maxLen; omega)))
        have HTF := Lib.hid (str_new hx)
        obtain ⟨D, hD⟩ : ∃ D : ByteArray, (⟨(foldDS x.t x.d.data.toList).toArray⟩ : ByteArray) = D := ⟨_, rfl⟩
        rw [hD] at CF
        rw [show strV (foldX x) = .string D by unfold strV foldX; rw [hD]] at HTF
        obtain ⟨a1, c1, ha1⟩ : ∃ a c, u8 = .slice a k c := by
          rcases own_open HR8.out with ⟨h1, h2⟩ | ⟨g, c, h1, _⟩
          · exact ⟨none, 0, by rw [h1, h2]⟩
          · exact ⟨_, _, h1⟩
        subst ha1
        have hy := heap_alloc_new wr (.cells #[.string x.o, .int .i64 x.t, .int .i64 x.c, .int .i64 x.l, .string x.d] 34)
        have hB4 := (Below.refl wr.heap.size wr).alloc (Nat.le_refl _) (.cells #[.string x.o, .int .i64 x.t, .int .i64 x.c, .int .i64 x.l, .string x.d] 34)
        have HRB := Lib.hid (bld.own_below HR8.out hB4)
        obtain ⟨X, hX⟩ : ∃ X, wr.heap.size = X := ⟨_, rfl⟩
        obtain ⟨w7, hw7⟩ : ∃ w7, wr.alloc (.cells #[.string x.o, .int .i64 x.t, .int .i64 x.c, .int .i64 x.l, .string x.d] 34) = w7 := ⟨_, rfl⟩
        rw [hw7] at hy hB4 HRB
        rw [hX] at hy
        have HB7 := Lib.hid (HB.out.trans (hB4.mono hbz))
        have hbz7 : w.heap.size ≤ w7.heap.size := HB7.out.size
        have t1 : w7.cell? ⟨X, 1, none⟩ = some (.int .i64 x.t) := by simp only [World.cell?, hy]; rfl
        have t4 : w7.cell? ⟨X, 4, none⟩ = some (.string x.d) := by simp only [World.cell?, hy]; rfl
        have HW7 := Lib.hid hw7; have HXX := Lib.hid hX
        have zk : (0 : Int) ≤ (k : Int) := by omega
        have zl : (k : Int) < (n : Int) := by omega
        clear hx hc2 hD hy hB4 hw7 hX HR8 hlt
        trace "a1"
        go_upto_region 10 with fail
        rw [HW7.out]
        try rw [HXX.out]
        clear x0 x1 x2 x3 x4
        go_wp2_with fail
        refine (CF.out _).mono ?_
        rintro e w8 ⟨rfl, hB8⟩
        have HO8 := Lib.hid (bld.own_below HRB.out hB8)
        have HB8 := Lib.hid (HB7.out.trans (hB8.mono hbz7))
        have hbz8 : w.heap.size ≤ w8.heap.size := HB8.out.size
        clear hB8 t1 t4 HRB
        trace "a2"
        go_wp2_with (at_builtin; refine wpList_append_lies _ rfl _ _ 47 rfl w.heap.size 9 i0 _ 1 16 Tryz.underlying47 hif hz0 hz1 hz2 rfl (by decide) (.slice a1 k c1) k (((L.take k).map foldX).map strV) rfl (HO8.out.alloc _) ⟨w8.heap.size, 0, none⟩ 1 1 [.string D] rfl rfl ?d1y ?d2y (by decide) ?d3y ?d4y ?d5y _ rfl ?_)
        case d1y => exact World.news_of_block (heap_alloc_new _ _)
        case d2y => intro u hu; simp only [List.mem_singleton] at hu; subst hu; rfl
        case d3y => unfold maxLen; omega
        case d4y => omega
        case d5y => first | omega | (simp; omega)
        intro g3 cp w9 hown9 hgr9 hat9 hlt9
        have HB9 : Hid (Below w.heap.size w w9) := Lib.hid (below_append' (HB8.out.alloc hbz8 _) (by simp; omega) (HO8.out.alloc _) hgr9)
        have HO9 : Hid (w9.ownsRow w.heap.size 9 1 (.slice (some ⟨g3, 0, none⟩) (k + 1) cp) (k + 1) (((L.take (k + 1)).map foldX).map strV)) := Lib.hid (by
          rw [HTF.out]
          first | exact hown9 | (rw [List.map_take]; exact hown9) | (simpa [List.map_take] using hown9))
        clear hown9 hgr9 hat9 hlt9
        trace "a3"
        go_wp2_with fail
        have hkg := HK.out
        go_roundg (gk - 1)
        case rel => exact ⟨k + 1, by go_num, by omega, by omega, HO9, HB9⟩
        case measure => omega
      · have hke : k = n := by omega
        subst hke
        have HDS : Hid (((L.take k).map foldX) = L.map foldX) := Lib.hid (by rw [List.take_of_length_le (by rw [HN.out]; exact Nat.le_refl _)])
        rw [HDS.out] at HR8
        obtain ⟨LS, hLS⟩ : ∃ LS, L.map foldX = LS := ⟨_, rfl⟩
        have hLn : k = LS.length := by rw [← hLS, List.length_map]; exact HN.out
        have HBKS : Hid (bulk (sortedT LS) ≤ 68719476736) := Lib.hid (by
          have h1 := (fold_sorted LS [] List.Pairwise.nil).2
          rw [List.append_nil] at h1
          rw [show bulk (sortedT LS) = bulk LS from bulk_perm h1, ← hLS]
          exact HBK.out)
        rw [hLS] at HR8
        have HLS := Lib.hid hLS
        have hR8 := HR8.out
        rw [hLn] at hR8
        obtain ⟨a8, c8, hv8, hrd8⟩ := Rd.of_own hR8
        rw [← hLn] at hv8
        subst hv8
        have CSO := Lib.hid (sorted_any a8 k c8 LS wr hLn (fun j x hx => by obtain ⟨g, o, h1, _, h3, h4⟩ := hrd8 j x hx; exact ⟨g, o, h1, Nat.zero_le _, h3, h4⟩) (by omega))
        have hSL : (sortedT LS).length = k := by rw [sortedT_len, hLn]
        obtain ⟨DS, hDS⟩ : ∃ DS, sortedT LS = DS := ⟨_, rfl⟩
        rw [hDS] at CSO HBKS hSL
        have HDSE := Lib.hid hDS
        have HSL := Lib.hid hSL
        have zz : ¬ (k : Int) < (k : Int) := by omega
        clear hLS hLn hR8 hrd8 hSL hDS HR8 HDS hlt
        trace "b1"
        go_wp2_with fail
        refine CSO.out.mono ?_
        rintro e w9 ⟨v9, rfl, hO9, hB9⟩
        have hO9' := hO9
        rw [← HSL.out] at hO9'
        obtain ⟨a9, c9, hv9, hrd9⟩ := Rd.of_own hO9'
        rw [HSL.out] at hv9
        subst hv9
        have HRD9 := Lib.hid hrd9
        have HB9 := Lib.hid (HB.out.trans (hB9.mono hbz))
        have hbz9 : w.heap.size ≤ w9.heap.size := HB9.out.size
        have HDT : Hid (HD.data.toList = HD.data.toList ++ bodyS OW BT.data.toList P3.data.toList (DS.take 0)) := Lib.hid (by simp [bodyS])
        clear hO9 hO9' hB9 hrd9 CSO
        trace "b2"
        go_wp2_with fail
        go_loopg [5, 80] (k + 1) (fun gas sv kv wr => ∃ (j : Nat) (S : ByteArray), sv = .string S ∧ kv = .int .i64 (j : Int) ∧ j ≤ k ∧ j + gas = k + 1 ∧ Hid (S.data.toList = HD.data.toList ++ bodyS OW BT.data.toList P3.data.toList (DS.take j)) ∧ Hid (Below w9.heap.size w9 wr))
        case atStart => exact ⟨0, HD, rfl, rfl, by omega, by omega, HDT, Lib.hid (Below.refl _ _)⟩
        case round =>
          clear HDT
          obtain ⟨j, S, rfl, rfl, hj, hjg, HS, HBJ⟩ := hrel
          have HJ := Lib.hid hjg; clear hjg
          by_cases hjk : j < k
          · obtain ⟨d, hd⟩ : ∃ d, DS[j]? = some d := ⟨_, List.getElem?_eq_getElem (by have := HSL.out; omega)⟩
            obtain ⟨g9, o9, rfl, _, hg9, hc9⟩ := HRD9.out j d hd
            have hcd := (HBJ.out.cell (p := ⟨g9, o9 + j, none⟩) hg9).trans hc9
            unfold strV at hcd
            obtain ⟨D, hD⟩ : ∃ D : ByteArray, (⟨d.toArray⟩ : ByteArray) = D := ⟨_, rfl⟩
            rw [hD] at hcd
            have hDd : D.data.toList = d := by rw [← hD]
            have hDs : D.size ≤ 68719476736 := by rw [← size_len, hDd]; exact Nat.le_trans (bulk_atS hd) HBKS.out
            have HBw := Lib.hid (HB9.out.trans (HBJ.out.mono hbz9))
            have q1 := (HCL.out.below HBw.out HG1.out).2.1
            rw [HT.out] at q1
            have q3 := (HBw.out.cell (p := ⟨pg, po + 3, none⟩) HPG.out).trans HC3.out
            have CB := Lib.hid (fun wx => rbytes_any 2 D.size wx (by omega) (by decide))
            obtain ⟨D2, hD2⟩ : ∃ D2 : ByteArray, (⟨(bigS D.size 2).toArray⟩ : ByteArray) = D2 := ⟨_, rfl⟩
            have hD2s : D2.size ≤ 2 := by rw [← hD2, mk_size, bigS_len]; exact Nat.le_refl _
            rw [hD2] at CB
            have hOs : OB.size ≤ 255 := by rw [← size_len, HOB.out]; exact HOL.out
            have hSs : S.size ≤ 100000000000 := by
              rw [← size_len, HS.out, List.length_append, size_len]
              have hbe := body_len (own := OW) (t2 := BT.data.toList) (ttl := P3.data.toList) HOL.out (by rw [size_len]; omega) (by rw [size_len]; omega) (DS.take j)
              have hbt := bulk_takeS DS j
              have h1 : (DS.take j).length ≤ k := by rw [List.length_take, HSL.out]; omega
              have h2 := HBKS.out
              omega
            have HFULL : Hid ((S ++ (OB ++ BT ++ ⟨#[0, 1]⟩ ++ P3 ++ D2 ++ D)).data.toList = HD.data.toList ++ bodyS OW BT.data.toList P3.data.toList (DS.take (j + 1))) := Lib.hid (by
              rw [← body_more hd, ← List.append_assoc, ← HS.out]
              unfold pieceT
              rw [← HOB.out, ← hDd, show D.data.toList.length = D.size from size_len D, ← hD2]
              simp only [ByteArray.data_append, Array.toList_append])
            have m1 : ¬ 9223372036854775807 < OB.size + BT.size := by omega
            have m2 : ¬ 9223372036854775807 < OB.size + BT.size + 2 := by omega
            have m3 : ¬ 9223372036854775807 < OB.size + BT.size + 2 + P3.size := by omega
            have m4 : ¬ 9223372036854775807 < OB.size + BT.size + 2 + P3.size + D2.size := by omega
            have m5 : ¬ 9223372036854775807 < OB.size + BT.size + 2 + P3.size + D2.size + D.size := by omega
            have m6 : ¬ 9223372036854775807 < S.size + (OB.size + BT.size + 2 + P3.size + D2.size + D.size) := by omega
            have i3 : ∀ w : World, Sem.run Tryz.prog (Instr.indexAt 47 (.slice (some ⟨pg, po, none⟩) pn pc) (.int .i64 3)) w = .ok (.pointer (some ⟨pg, po + 3, none⟩)) w := fun w => idxS pg po pn pc 3 (by omega) w
            have ir : ∀ w : World, Sem.run Tryz.prog (Instr.indexAt 22 (.slice (some ⟨g1, o1, none⟩) k c) (.int .i64 0)) w = .ok (.pointer (some ⟨g1, o1, none⟩)) w := fun w => idxR g1 o1 k c (by omega) w
            have hS0 : wr.drew.cell? ⟨g1, o1 + 1, none⟩ = some (.int .i64 (T : Int)) ∧ wr.drew.cell? ⟨pg, po + 3, none⟩ = some (.string P3) ∧ Below wr.heap.size wr wr.drew := ⟨q1, q3, (Below.refl _ _).drew⟩
            have zj : (0 : Int) ≤ (j : Int) := by omega
            have zjk : (j : Int) < (k : Int) := by omega
            clear hd hc9 hD hDd hD2 q1 q3 HS
            trace "c1"
            go_upto_region 15 with fail
            trace "c2"
            go_region_held3 (fun w' => w'.cell? ⟨g1, o1 + 1, none⟩ = some (.int .i64 (T : Int)) ∧ w'.cell? ⟨pg, po + 3, none⟩ = some (.string P3) ∧ Below wr.heap.size wr w') (first | assumption | (refine ⟨?_, ?_, ?_⟩ <;> assumption))
              (first
                | (go_at_call_of 64 (Value.int .i64 (T : Int)); refine (CBT.out _).mono ?_; rintro e w' ⟨rfl, hBz⟩; have hSz := keep2 (by assumption) hBz; clear hBz)
                | (go_at_call_of 64 (Value.int .i64 (D.size : Int)); refine (CB.out _).mono ?_; rintro e w' ⟨rfl, hBz⟩; have hSz := keep2 (by assumption) hBz; clear hBz))
            trace "c3"
            have HBJ2 : Hid (Below w9.heap.size w9 w') := Lib.hid (HBJ.out.trans (hSz.2.2.mono HBJ.out.size))
            clear hSz hS0 hcd
            go_wp2_with fail
            have hjg := HJ.out
            go_roundg (gk - 1)
            case rel => exact ⟨j + 1, _, rfl, by go_num, by omega, by omega, HFULL, HBJ2⟩
            case measure => omega
          · have hje : j = k := by omega
            subst hje
            have HSF : Hid (S = ⟨(HD.data.toList ++ bodyS OW BT.data.toList P3.data.toList DS).toArray⟩) := Lib.hid (ba_ext (by rw [HS.out, show DS.take j = DS from List.take_of_length_le (by rw [HSL.out]; exact Nat.le_refl _)]))
            have HBw := Lib.hid (HB9.out.trans (HBJ.out.mono hbz9))
            trace "d1"
            go_wp2_with fail
            go_ret
            exact ⟨by rw [HLS.out, HDSE.out, ← HSF.out]; rfl, HBw.out⟩
end Go.Proofs.YtflijhodlimjoaaGreat.signed

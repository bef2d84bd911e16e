/- strings.Builder.WriteString: what a write leaves of blocks of other kinds. master.Print: walk. -/
import Derived.Test.YtjejmgdpjfdhjaaGreatDoorP2
import Derived.Test.YtjejmgdpjfdhjaaGreatDoorP21
import Derived.Test.YtjejmgdpjfdhjaaGreatDoorP18
import Derived.Test.YtjejmgdpjfdhjaaGreatDoorP23
namespace Go.Proofs.YtjejmgdpjfdhjaaGreatDoor.bldE
open Go.RowKit Go.Proofs.YtjejmgdpjfdhjaaGreatDoor.kit Go.Proofs.YtjejmgdpjfdhjaaGreatDoor.bld Go.Proofs.YtjejmgdpjfdhjaaGreatDoor.rows
set_option linter.unusedVariables false

theorem bld_lt {B b : Nat} {l : List UInt8} {w : World} (h : Bld B b l w) : b < w.heap.size := by
  rcases h with h | h
  · exact h.lt
  · exact h.lt
/-- blocks that are neither b nor rows of bytes stand -/
def Kp (b : Nat) (w w' : World) : Prop := ∀ (k : Nat) (o : Obj), w.heap[k]? = some o → k ≠ b → (∀ cur f, o ≠ .cells cur 5 f) → w'.heap[k]? = some o
theorem Kp.cell {b : Nat} {w w' : World} (h : Kp b w w') {k j : Nat} {cur : Array Value} {t : TypeId} {f : Nat × Nat} {v : Value} (hk : w.heap[k]? = some (.cells cur t f)) (hb : k ≠ b) (ht : t ≠ 5) (hc : w.cell? ⟨k, j, none⟩ = some v) : w'.cell? ⟨k, j, none⟩ = some v := by
  have h1 := h k _ hk hb (fun c f e => by cases e; exact ht rfl)
  have : w'.heap[k]? = w.heap[k]? := by rw [h1, hk]
  simp only [World.cell?] at hc ⊢
  rw [this]; exact hc
theorem copyCheckE (B b : Nat) (bs : List Value) (w : World) (h : Lib.IsBuilder 53 5 B b bs w) :
    Calls Tryz.prog 50 #[.pointer (some ⟨b, 0, none⟩)] w fun e w' => e = .returned (.tuple #[]) ∧ Lib.BuilderAt 53 5 B b (.pointer (some ⟨b, 0, none⟩)) bs w' ∧ Below B w w' ∧ Kp b w w' := by
  rcases h with h | h
  · refine (copyCheck_fresh b w h.cell0 h.shape h.frozen0).mono ?_
    rintro e w' ⟨rfl, rfl⟩
    exact ⟨rfl, h.used _, (Below.refl B w).setCell (p := ⟨b, 0, none⟩) h.1 _, fun k o hk hb _ => (Below.heap_setCell w ⟨b, 0, none⟩ _ k hb).trans hk⟩
  · refine (copyCheck_used b w h.cell0).mono ?_
    rintro e w' ⟨rfl, rfl⟩
    exact ⟨rfl, h, Below.refl B _, fun k o hk _ _ => hk⟩
set_option maxHeartbeats 2000000 in
set_option maxRecDepth 100000 in
theorem writeStringE (B b : Nat) (bs : List Value) (s : ByteArray) (w : World) (h : Lib.IsBuilder 53 5 B b bs w) (hlen : bs.length + s.size ≤ 140737488355328) (hBw : B ≤ w.heap.size) :
    Calls Tryz.prog 25 #[.pointer (some ⟨b, 0, none⟩), .string s] w fun e w' => e = .returned (.tuple #[.int .i64 s.size, .nilIface]) ∧ Lib.BuilderAt 53 5 B b (.pointer (some ⟨b, 0, none⟩)) (bs ++ Lib.strCells s) w' ∧ Below B w w' ∧ Kp b w w' := by
  obtain ⟨i0, hi, hz0, hz1, hz2⟩ := info_parts infoByte
  go_enter Tryz.func25, Tryz.ntmps25
  go_wp2_with fail
  refine (copyCheckE B b bs _ h).mono ?_
  rintro e w1 ⟨rfl, h1, hb1, hk1⟩
  obtain ⟨hB, v, hbk, hown, hne⟩ := h1
  have c0 : w1.cell? ⟨b, 0, none⟩ = some (.pointer (some ⟨b, 0, none⟩)) := by rw [Lib.cell_of_heap hbk]; rfl
  have c1 : w1.cell? ⟨b, 1, none⟩ = some v := by rw [Lib.cell_of_heap hbk]; rfl
  have HK1 := Lib.hid hk1; clear hk1
  go_wp2_with (at_builtin; refine Lib.wpList_append_own_string _ rfl _ _ 51 9 rfl B 5 i0 Tryz.underlying51 Tryz.underlying9 hi hz0 hz1 hz2 _ _ _ rfl hown s rfl ?c3 ?c4 ?c5 ?_)
  case c3 => unfold maxLen; omega
  case c4 => omega
  case c5 => have := hb1.size; omega
  intro v' w2 hown' hgrow _
  have hlt : b < w1.heap.size := by
    rcases Nat.lt_or_ge b w1.heap.size with h' | h'
    · exact h'
    · simp [Array.getElem?_eq_none h'] at hbk
  have hb2 : w2.heap[b]? = some (.cells #[.pointer (some ⟨b, 0, none⟩), v] 53 (0, 0)) := by
    rw [hgrow.block b hlt (fun e => hne e.symm)]
    exact hbk
  have d0 : w2.cell? ⟨b, 0, none⟩ = some (.pointer (some ⟨b, 0, none⟩)) := by rw [Lib.cell_of_heap hb2]; rfl
  have d1 : w2.cell? ⟨b, 1, none⟩ = some v := by rw [Lib.cell_of_heap hb2]; rfl
  have f1 : w2.frozen? ⟨b, 1, none⟩ = false := Lib.frozen_of_heap hb2 1
  obtain ⟨ao, n', cap, rfl⟩ : ∃ ao n' cap, v' = .slice ao n' cap := by
    rcases hown'.2 with ⟨hv, _⟩ | ⟨g, cap, cur, hv, _⟩
    · exact ⟨_, _, _, hv⟩
    · exact ⟨_, _, _, hv⟩
  go_wp2
  go_ret2
  refine ⟨rfl, ?_, ?_, ?_⟩
  · exact Lib.BuilderAt.put (T := 53) (e := 5) hB hb2 (bs' := bs ++ Lib.strCells s) (by simpa [Lib.strCells_length] using hown') (by decide)
  · exact (hb1.grown hgrow (by have := hb1.size; omega) (fun k hk => (hown.lt k hk).1)).setCell (p := ⟨b, 1, none⟩) hB _
  · intro k o hk hb ht
    have e1 := HK1.out k o hk hb ht
    have e2 := hgrow.block k (Array.getElem?_eq_some_iff.1 e1).1 (row_neG hown e1 ht)
    exact (Below.heap_setCell _ ⟨b, 1, none⟩ _ k hb).trans (e2.trans e1)
theorem wsE (B b : Nat) (l : List UInt8) (s : ByteArray) (w : World) (h : Bld B b l w) (hlen : l.length + s.size ≤ 140737488355328) (hBw : B ≤ w.heap.size) :
    Calls Tryz.prog 25 #[.pointer (some ⟨b, 0, none⟩), .string s] w fun e w' => e = .returned (.tuple #[.int .i64 s.size, .nilIface]) ∧ Bld B b (l ++ s.data.toList) w' ∧ Below B w w' ∧ Kp b w w' := by
  refine (writeStringE B b _ s w h (by rw [Lib.byteCells_length]; exact hlen) hBw).mono ?_
  rintro e w' ⟨rfl, h1, h2, h3⟩
  exact ⟨rfl, .inr (by rw [bytes_app]; exact h1), h2, h3⟩
end Go.Proofs.YtjejmgdpjfdhjaaGreatDoor.bldE
namespace Go.Proofs.YtjejmgdpjfdhjaaGreatDoor.printW
open Go.RowKit Go.Proofs.YtjejmgdpjfdhjaaGreatDoor.kit Go.Proofs.YtjejmgdpjfdhjaaGreatDoor.nspec Go.Proofs.YtjejmgdpjfdhjaaGreatDoor.bld Go.Proofs.YtjejmgdpjfdhjaaGreatDoor.rsplit Go.Proofs.YtjejmgdpjfdhjaaGreatDoor.check Go.Proofs.YtjejmgdpjfdhjaaGreatDoor.fld Go.Proofs.YtjejmgdpjfdhjaaGreatDoor.tname Go.Proofs.YtjejmgdpjfdhjaaGreatDoor.dshow Go.Proofs.YtjejmgdpjfdhjaaGreatDoor.dshowB Go.Proofs.YtjejmgdpjfdhjaaGreatDoor.fmt16 Go.Proofs.YtjejmgdpjfdhjaaGreatDoor.timed Go.Proofs.YtjejmgdpjfdhjaaGreatDoor.wireP Go.Proofs.YtjejmgdpjfdhjaaGreatDoor.wireM Go.Proofs.YtjejmgdpjfdhjaaGreatDoor.zon2 Go.Proofs.YtjejmgdpjfdhjaaGreatDoor.rel Go.Proofs.YtjejmgdpjfdhjaaGreatDoor.printP Go.Proofs.YtjejmgdpjfdhjaaGreatDoor.showB
set_option linter.unusedVariables false

theorem hu4 : Tryz.prog.underlying 59 = some (.array 4 9) := by kernel_rfl
theorem idx0 (a b c d : ByteArray) (w : World) : Sem.run Tryz.prog (Instr.index 59 (Value.agg #[Value.string a, Value.string b, Value.string c, Value.string d]) (Value.int IntKind.i64 0)) w = .ok (.string a) w := by
  simp [Instr.index, asIntOf, run_underlying hu4, go_sem]
theorem idx1 (a b c d : ByteArray) (w : World) : Sem.run Tryz.prog (Instr.index 59 (Value.agg #[Value.string a, Value.string b, Value.string c, Value.string d]) (Value.int IntKind.i64 1)) w = .ok (.string b) w := by
  simp [Instr.index, asIntOf, run_underlying hu4, go_sem]
theorem idx2 (a b c d : ByteArray) (w : World) : Sem.run Tryz.prog (Instr.index 59 (Value.agg #[Value.string a, Value.string b, Value.string c, Value.string d]) (Value.int IntKind.i64 2)) w = .ok (.string c) w := by
  simp [Instr.index, asIntOf, run_underlying hu4, go_sem]
theorem idx3 (a b c d : ByteArray) (w : World) : Sem.run Tryz.prog (Instr.index 59 (Value.agg #[Value.string a, Value.string b, Value.string c, Value.string d]) (Value.int IntKind.i64 3)) w = .ok (.string d) w := by
  simp [Instr.index, asIntOf, run_underlying hu4, go_sem]
theorem itoa_nat' (n : Int) (h0 : 0 ≤ n) (h1 : n ≤ 9223372036854775807) (w : World) (hP : PowT w) :
    Calls Tryz.prog 28 #[.int .i64 n] w fun e w' => e = .returned (.string ⟨(Lib.decDigits n.toNat).toArray⟩) ∧ Below w.heap.size w w' := by
  refine (Tryz.strconv_Itoa n (by omega) h1 w hP).mono ?_
  rintro e w' ⟨rfl, k, os, rfl⟩
  exact ⟨by rw [itoa_nat h0], below_growD w k os⟩
theorem keep13 {W w w' : World} {Y : Nat} {u v : Value} (h : w.cell? ⟨Y, 1, none⟩ = some u ∧ w.cell? ⟨Y, 3, none⟩ = some v ∧ Below W.heap.size W w) (hB : Below w.heap.size w w') : w'.cell? ⟨Y, 1, none⟩ = some u ∧ w'.cell? ⟨Y, 3, none⟩ = some v ∧ Below W.heap.size W w' := by
  have k : ∀ {a : Addr} {v : Value}, w.cell? a = some v → w'.cell? a = some v := fun {a v} ha => (hB.cell (p := a) (World.block_lt_of_cell? w _ ha)).trans ha
  exact ⟨k h.1, k h.2.1, h.2.2.trans (hB.mono h.2.2.size)⟩
theorem drew_below {w w' : World} (h : Below w.drew.heap.size w.drew w') : Below w.heap.size w w' := (Below.refl w.heap.size w).drew.trans (h.mono (Nat.le_refl _))
theorem words4 {A E t1 t2 d : Bs} {T1 T2 D : ByteArray} (h1 : T1.data.toList = t1) (h2 : T2.data.toList = t2) (h3 : D.data.toList = d) (h : A ++ ([9] ++ t1 ++ [9, 73, 78, 9] ++ t2 ++ [9] ++ d ++ [10]) = E) :
    A ++ (([T1.data.toList, [73, 78], T2.data.toList, D.data.toList].drop 0).flatMap (fun y => (9 : UInt8) :: y) ++ [10]) = E := by
  rw [← h, h1, h2, h3]; simp
theorem rest_len {x : Rc} {D T1 T2 : ByteArray} (h3 : D.data.toList = showDS x.t x.d.data.toList) (h1 : T1.data.toList = Lib.decDigits x.l.toNat) (h2 : T2.data.toList = tnameS x.t) : (restS x).length = T1.size + T2.size + D.size + 7 := by
  unfold restS
  rw [← h1, ← h2, ← h3]
  simp only [List.length_append, List.length_cons, List.length_nil, size_len]
  omega
theorem len_step {a r k e : Nat} (h : e = a + r) (ha : a ≤ 1200 + 131100000 * k) (hr : r ≤ 131100000) : e ≤ 1200 + 131100000 * (k + 1) := by rw [Nat.mul_succ]; omega
theorem len_step2 {a q r k e : Nat} (h : e = a + q + r) (ha : a ≤ 1200 + 131100000 * k) (hq : q ≤ 1100) (hr : r ≤ 131098000) : e ≤ 1200 + 131100000 * (k + 1) := by rw [Nat.mul_succ]; omega
theorem len_top {e k n : Nat} (h : e ≤ 1200 + 131100000 * (k + 1)) (hk : k < n) (hn : ¬ 2000 < n) : e ≤ 1099511627776 := by
  have h0 : k + 1 ≤ 2000 := by omega
  have h1 : 131100000 * (k + 1) ≤ 262200000000 := Nat.mul_le_mul_left 131100000 h0
  exact Nat.le_trans h (Nat.le_trans (Nat.add_le_add_left h1 1200) (by decide))
theorem bld_size {B b : Nat} {l : List UInt8} {w : World} (h : Bld B b l w) : b ≤ w.heap.size := by
  rcases h with h | h
  · have := h.lt; omega
  · have := h.lt; omega

set_option maxRecDepth 100000 in
set_option maxHeartbeats 16000000 in
theorem print_any (a : Option Addr) (n c : Nat) (L : List Rc) (O : ByteArray) (w : World) (hn : L.length = n) (hr : RdC w a 5 (L.map Rc.cells)) (hO : O.size ≤ 1048576) (hL : ∀ x ∈ L, x.o.size ≤ 1048576 ∧ x.d.size ≤ 1048576) (hT : ∀ x ∈ L, -9223372036854775808 ≤ x.t ∧ x.t ≤ 9223372036854775807) (hN : n ≤ 1048576) (hP : PowT w) (hTz : TzT w) :
    Calls Tryz.prog 8 #[.slice a n c, .string O] w fun e w' => e = .returned (.tuple #[.string ⟨(printS O.data.toList L).1.toArray⟩, .int .i64 (printS O.data.toList L).2]) ∧ Below w.heap.size w w' := by
  have HP := Lib.hid hP; have HTZ := Lib.hid hTz; have HL := Lib.hid hL; have HTT := Lib.hid hT; have HNN := Lib.hid hn; have HRD := Lib.hid hr
  have CC := Lib.hid (fun w => check_any O w (by omega))
  clear hP hTz hL hT hn hr
  cases ho : split O.data.toList with
  | none =>
    have HOUT : Hid (printS O.data.toList L = ([], 1)) := Lib.hid (by unfold printS; rw [ho]; rfl)
    have hb : chkE O ≠ 0 := by rw [chk_no ho]; decide
    rw [HOUT.out]
    obtain ⟨z, hz⟩ : ∃ z, chkE O = z := ⟨_, rfl⟩
    rw [hz] at CC hb
    have hbz : (z != 0) = true := by rw [bne_iff_ne]; exact hb
    clear ho hz hb
    go_enter Tryz.func8, Tryz.ntmps8
    go_wp2_with fail
    refine (CC.out _).mono ?_
    rintro e w1 ⟨rfl, hB1⟩
    go_wp2_with fail
    go_ret2
    exact ⟨rfl, hB1⟩
  | some os =>
  have HON := Lib.hid (split_iff.1 ho)
  rw [chk_yes HON.out] at CC
  by_cases hbig : 2000 < n
  · have HOUT : Hid (printS O.data.toList L = ([], 20)) := Lib.hid (by unfold printS; rw [ho, if_neg (by simp), if_pos (by rw [HNN.out]; exact hbig)])
    rw [HOUT.out]
    clear ho
    go_enter Tryz.func8, Tryz.ntmps8
    go_wp2_with fail
    refine (CC.out _).mono ?_
    rintro e w1 ⟨rfl, hB1⟩
    go_wp2_with fail
    go_ret2
    exact ⟨rfl, hB1⟩
  obtain ⟨RR, HRR⟩ : ∃ RR, Hid ((linesS O.data.toList [] (L.drop 0)).map (headS O.data.toList ++ ·) = RR) := ⟨_, Lib.hid rfl⟩
  have HOUT : Hid (printS O.data.toList L = outP RR) := Lib.hid (print_in (by rw [ho]; rfl) (by rw [HNN.out]; exact hbig) HRR.out)
  have CSH := Lib.hid (fun w => nshow.nshow_any O w (by omega))
  obtain ⟨S, hS⟩ : ∃ S : ByteArray, (⟨(showS O.data.toList).toArray⟩ : ByteArray) = S := ⟨_, rfl⟩
  have hSd : S.data.toList = showS O.data.toList := by rw [← hS]
  have hSs : S.size ≤ 1100 := by rw [← hS, mk_size]; exact showS_len _
  rw [hS] at CSH
  have HHD : Hid ((⟨#[36, 79, 82, 73, 71, 73, 78, 32]⟩ ++ S ++ ⟨#[10]⟩ : ByteArray).data.toList = headS O.data.toList) := Lib.hid (by unfold headS; rw [← hSd]; simp)
  have hHs : (⟨#[36, 79, 82, 73, 71, 73, 78, 32]⟩ ++ S ++ ⟨#[10]⟩ : ByteArray).size = S.size + 9 := by
    rw [ByteArray.size_append, ByteArray.size_append, show (⟨#[36, 79, 82, 73, 71, 73, 78, 32]⟩ : ByteArray).size = 8 from rfl, show (⟨#[10]⟩ : ByteArray).size = 1 from rfl]; omega
  have HHL : Hid ((headS O.data.toList).length ≤ 1200) := Lib.hid (by rw [← HHD.out, size_len, hHs]; omega)
  have HFB := Lib.hid (Lib.fresh_isBuilder 53 5)
  rw [HOUT.out]
  clear ho hS hSd
  go_enter Tryz.func8, Tryz.ntmps8
  go_wp2_with fail
  refine (CC.out _).mono ?_
  rintro e w1 ⟨rfl, hB1⟩
  have HB1 := Lib.hid hB1; clear hB1
  have hz1 := HB1.out.size
  have HBb := Lib.hid (HB1.out.alloc hz1 (.cells #[.pointer none, .slice none 0 0] 53))
  have HA0 : Hid (Bld w1.heap.size w1.heap.size [] (w1.alloc (.cells #[.pointer none, .slice none 0 0] 53))) := Lib.hid (HFB.out w1)
  obtain ⟨b, hb⟩ : ∃ b, w1.heap.size = b := ⟨_, rfl⟩
  obtain ⟨w2, hw2⟩ : ∃ w2, w1.alloc (.cells #[.pointer none, .slice none 0 0] 53) = w2 := ⟨_, rfl⟩
  rw [hw2] at HBb HA0
  rw [hb] at HA0 hz1
  have HWB := Lib.hid hw2; have HBN := Lib.hid hb
  have hbw := hz1
  clear hw2 hb
  go_upto_region 6 with fail
  rw [HWB.out]
  try rw [HBN.out]
  go_wp2_with fail
  refine (CSH.out _).mono ?_
  rintro e w3 ⟨rfl, hB3⟩
  have HB3 := Lib.hid (HBb.out.trans (hB3.mono HBb.out.size))
  have HA3 := Lib.hid (bld_below HA0.out hB3)
  have CW := Lib.hid (ws b b [] (⟨#[36, 79, 82, 73, 71, 73, 78, 32]⟩ ++ S ++ ⟨#[10]⟩) w3 HA3.out (by rw [hHs]; simp; omega) (bld_size HA3.out))
  rw [HHD.out, List.nil_append] at CW
  clear hB3
  go_wp2_with fail
  refine CW.out.mono ?_
  rintro e w4 ⟨rfl, hb4, hE4⟩
  have HB4 := Lib.hid (HB3.out.trans (hE4.mono hbw))
  have HA4 := Lib.hid hb4
  clear hE4 hb4
  go_wp2_with fail
  go_loopg [7, 9, 10, 11, 13, 27] (n + 1) (fun gas pv _ _ _ _ kv wr => ∃ (k : Nat) (A : Bs) (PV : ByteArray), pv = .string PV ∧ kv = .int .i64 k ∧ k ≤ n ∧ k + gas = n + 1 ∧ A.length ≤ 1200 + 131100000 * k ∧ Hid ((linesS O.data.toList PV.data.toList (L.drop k)).map (A ++ ·) = RR) ∧ Hid (Bld b b A wr) ∧ Hid (Below w.heap.size w wr))
  case atStart => exact ⟨0, headS O.data.toList, ⟨#[]⟩, rfl, rfl, by omega, by omega, by have := HHL.out; omega, HRR, HA4, HB4⟩
  case round =>
    clear HA4 HB4 HA3 HB3 HA0
    obtain ⟨k, A, PV, rfl, rfl, hk, hkg, hAL, HW, HA, HB⟩ := hrel
    obtain ⟨gk', hgk'⟩ : ∃ g, g = gk := ⟨_, rfl⟩
    rw [← hgk'] at hkg
    have HKG := Lib.hid hkg; clear hkg
    have hsz := HB.out.size
    by_cases hlt : k < n
    · obtain ⟨x, hx⟩ : ∃ x, L[k]? = some x := ⟨_, List.getElem?_eq_getElem (by have := HNN.out; omega)⟩
      obtain ⟨g, o, rfl, hg, hcl⟩ := at_r HRD.out hx
      obtain ⟨x0, x1, x2, x3, x4⟩ := hcl.below HB.out hg
      have HX := Lib.hid hx
      obtain ⟨hos, hds⟩ := HL.out x (List.mem_of_getElem? hx)
      have HTR := Lib.hid (HTT.out x (List.mem_of_getElem? hx))
      have hy := heap_alloc_new wr (.cells #[.string x.o, .int .i64 x.t, .int .i64 x.c, .int .i64 x.l, .string x.d] 47)
      have hB7 := (Below.refl wr.heap.size wr).alloc (Nat.le_refl _) (.cells #[.string x.o, .int .i64 x.t, .int .i64 x.c, .int .i64 x.l, .string x.d] 47)
      obtain ⟨Y, hY⟩ : ∃ Y, wr.heap.size = Y := ⟨_, rfl⟩
      obtain ⟨w7, hw7⟩ : ∃ w7, wr.alloc (.cells #[.string x.o, .int .i64 x.t, .int .i64 x.c, .int .i64 x.l, .string x.d] 47) = w7 := ⟨_, rfl⟩
      rw [hw7] at hy hB7
      rw [hY] at hy
      have HB7 := Lib.hid (HB.out.trans (hB7.mono hsz))
      have HA7 := Lib.hid (bld_below HA.out hB7)
      have HY7 := Lib.hid hy
      have HYNB : Hid (Y ≠ b) := Lib.hid (by have := bldE.bld_lt HA.out; omega)
      have t1 : w7.cell? ⟨Y, 1, none⟩ = some (.int .i64 x.t) := by simp only [World.cell?, hy]; rfl
      have t4 : w7.cell? ⟨Y, 4, none⟩ = some (.string x.d) := by simp only [World.cell?, hy]; rfl
      have HW7 := Lib.hid hw7; have HYY := Lib.hid hY
      have CSD := Lib.hid (dshowT.show_any x.t x.d w7 (by unfold maxLen; omega) (pow_below HP.out HB7.out) (tz_below HTZ.out HB7.out))
      obtain ⟨D, hD⟩ : ∃ D : ByteArray, (⟨(showDS x.t x.d.data.toList).toArray⟩ : ByteArray) = D := ⟨_, rfl⟩
      obtain ⟨cz, hcz⟩ : ∃ cz, checkS x.t x.d.data.toList = cz := ⟨_, rfl⟩
      rw [hD, hcz] at CSD
      have HCZ := Lib.hid hcz
      have HDD : Hid (D.data.toList = showDS x.t x.d.data.toList) := Lib.hid (by rw [← hD])
      have hDs : D.size ≤ 131094000 := by rw [← hD, mk_size]; exact showDS_len _ _
      have zk : (0 : Int) ≤ (k : Int) := by omega
      have zl : (k : Int) < (n : Int) := by omega
      have hkn : k < n := hlt
      clear hx hcl hy hB7 hw7 hY hD hcz hlt
      trace "a"
      go_upto_region 11 with fail
      rw [HW7.out]
      try rw [HYY.out]
      clear x0 x1 x2 x3 x4
      go_wp2_with fail
      refine CSD.out.mono ?_
      rintro e w8 ⟨rfl, hB8⟩
      have HB8 := Lib.hid (HB7.out.trans (hB8.mono HB7.out.size))
      have HA8 := Lib.hid (bld_below HA7.out hB8)
      have HY8 := Lib.hid ((hB8.block Y (Array.getElem?_eq_some_iff.1 HY7.out).1).trans HY7.out)
      have y0 : w8.cell? ⟨Y, 0, none⟩ = some (.string x.o) := by simp only [World.cell?, HY8.out]; rfl
      have y1 : w8.cell? ⟨Y, 1, none⟩ = some (.int .i64 x.t) := by simp only [World.cell?, HY8.out]; rfl
      have y2 : w8.cell? ⟨Y, 2, none⟩ = some (.int .i64 x.c) := by simp only [World.cell?, HY8.out]; rfl
      have y3 : w8.cell? ⟨Y, 3, none⟩ = some (.int .i64 x.l) := by simp only [World.cell?, HY8.out]; rfl
      have CK := Lib.hid (fun w => check_any x.o w (by omega))
      clear hB8 t1 t4 CSD HA7
      trace "b"
      by_cases hc : cz = 0
      case neg =>
        have hcb : (cz != 0) = true := by rw [bne_iff_ne]; exact hc
        have HNO : Hid (RR = none) := Lib.hid (add_bad HW.out HX.out (by unfold zonB; rw [HCZ.out]; simp [hc]))
        clear y0 y1 y2 y3
        go_wp2_with fail
        go_ret2
        exact ⟨by rw [HNO.out]; rfl, HB8.out⟩
      subst hc
      cases hn : split x.o.data.toList with
      | none =>
        rw [chk_no hn] at CK
        have HNO : Hid (RR = none) := Lib.hid (add_bad HW.out HX.out (by unfold zonB rsplit.isB; rw [hn]; rfl))
        go_wp2_with fail
        refine (CK.out _).mono ?_
        rintro e w9 ⟨rfl, hB9⟩
        have HB9 := Lib.hid (HB8.out.trans (hB9.mono HB8.out.size))
        have hy9 := (hB9.block Y (Array.getElem?_eq_some_iff.1 HY8.out).1).trans HY8.out
        have v2 : w9.cell? ⟨Y, 2, none⟩ = some (.int .i64 x.c) := by simp only [World.cell?, hy9]; rfl
        have v3 : w9.cell? ⟨Y, 3, none⟩ = some (.int .i64 x.l) := by simp only [World.cell?, hy9]; rfl
        clear hB9 hy9
        go_wp2_with fail
        go_ret2
        exact ⟨by rw [HNO.out]; rfl, HB9.out⟩
      | some xs =>
      have hxs := split_iff.1 hn
      rw [chk_yes hxs] at CK
      by_cases h1 : x.c = 1
      case neg =>
        have e1 : (x.c != 1) = true := by rw [bne_iff_ne]; exact h1
        have HNO : Hid (RR = none) := Lib.hid (add_bad HW.out HX.out (by unfold zonB; simp [h1]))
        go_wp2_with fail
        refine (CK.out _).mono ?_
        rintro e w9 ⟨rfl, hB9⟩
        have HB9 := Lib.hid (HB8.out.trans (hB9.mono HB8.out.size))
        have hy9 := (hB9.block Y (Array.getElem?_eq_some_iff.1 HY8.out).1).trans HY8.out
        have v2 : w9.cell? ⟨Y, 2, none⟩ = some (.int .i64 x.c) := by simp only [World.cell?, hy9]; rfl
        have v3 : w9.cell? ⟨Y, 3, none⟩ = some (.int .i64 x.l) := by simp only [World.cell?, hy9]; rfl
        clear hB9 hy9
        go_wp2_with fail
        go_ret2
        exact ⟨by rw [HNO.out]; rfl, HB9.out⟩
      have e1 : (x.c != 1) = false := by rw [h1]; rfl
      by_cases h2 : x.l < 0
      case pos =>
        have HNO : Hid (RR = none) := Lib.hid (add_bad HW.out HX.out (by unfold zonB; simp [h1]; omega))
        go_wp2_with fail
        refine (CK.out _).mono ?_
        rintro e w9 ⟨rfl, hB9⟩
        have HB9 := Lib.hid (HB8.out.trans (hB9.mono HB8.out.size))
        have hy9 := (hB9.block Y (Array.getElem?_eq_some_iff.1 HY8.out).1).trans HY8.out
        have v2 : w9.cell? ⟨Y, 2, none⟩ = some (.int .i64 x.c) := by simp only [World.cell?, hy9]; rfl
        have v3 : w9.cell? ⟨Y, 3, none⟩ = some (.int .i64 x.l) := by simp only [World.cell?, hy9]; rfl
        clear hB9 hy9
        go_wp2_with fail
        go_ret2
        exact ⟨by rw [HNO.out]; rfl, HB9.out⟩
      by_cases h3 : 2147483647 < x.l
      case pos =>
        have HNO : Hid (RR = none) := Lib.hid (add_bad HW.out HX.out (by unfold zonB; simp [h1]; omega))
        go_wp2_with fail
        refine (CK.out _).mono ?_
        rintro e w9 ⟨rfl, hB9⟩
        have HB9 := Lib.hid (HB8.out.trans (hB9.mono HB8.out.size))
        have hy9 := (hB9.block Y (Array.getElem?_eq_some_iff.1 HY8.out).1).trans HY8.out
        have v2 : w9.cell? ⟨Y, 2, none⟩ = some (.int .i64 x.c) := by simp only [World.cell?, hy9]; rfl
        have v3 : w9.cell? ⟨Y, 3, none⟩ = some (.int .i64 x.l) := by simp only [World.cell?, hy9]; rfl
        clear hB9 hy9
        go_wp2_with fail
        go_ret2
        exact ⟨by rw [HNO.out]; rfl, HB9.out⟩
      have HZ : Hid (zonB x = true) := Lib.hid (by
        unfold zonB rsplit.isB
        rw [hn, HCZ.out, h1, decide_eq_true (show 0 ≤ x.l by omega), decide_eq_true (show x.l ≤ 2147483647 by omega)]; rfl)
      have hOwn : Hid (IsN x.o.data.toList xs) := Lib.hid hxs
      have HGO0 := Lib.hid (add_go HW.out HX.out HZ.out)
      have hl0 : 0 ≤ x.l := by omega
      have CI := Lib.hid (fun wx (h : PowT wx) => itoa_nat' x.l hl0 (by omega) wx h)
      have CT := Lib.hid (fun wx (h : PowT wx) => dtname_any x.t HTR.out.1 HTR.out.2 wx h)
      obtain ⟨T1, hT1⟩ : ∃ T : ByteArray, (⟨(Lib.decDigits x.l.toNat).toArray⟩ : ByteArray) = T := ⟨_, rfl⟩
      obtain ⟨T2, hT2⟩ : ∃ T : ByteArray, (⟨(tnameS x.t).toArray⟩ : ByteArray) = T := ⟨_, rfl⟩
      rw [hT1] at CI
      rw [hT2] at CT
      have HT1 : Hid (T1.data.toList = Lib.decDigits x.l.toNat) := Lib.hid (by rw [← hT1])
      have HT2 : Hid (T2.data.toList = tnameS x.t) := Lib.hid (by rw [← hT2])
      have hT1s : T1.size ≤ 10 := by rw [← hT1, mk_size]; exact dec_len 9 _ (by omega)
      have hT2s : T2.size ≤ 10 := by rw [← hT2, mk_size]; exact tname_len _
      clear hT1 hT2 hn hxs
      have HXS := hOwn
      clear h1
      trace "c"
      go_wp2_with fail
      refine (CK.out _).mono ?_
      rintro e w9 ⟨rfl, hB9⟩
      have HB9 := Lib.hid (HB8.out.trans (hB9.mono HB8.out.size))
      have HA9 := Lib.hid (bld_below HA8.out hB9)
      have HY9 := Lib.hid ((hB9.block Y (Array.getElem?_eq_some_iff.1 HY8.out).1).trans HY8.out)
      clear y0 y1 y2 y3 hB9
      have y0 : w9.cell? ⟨Y, 0, none⟩ = some (.string x.o) := by simp only [World.cell?, HY9.out]; rfl
      have y1 : w9.cell? ⟨Y, 1, none⟩ = some (.int .i64 x.t) := by simp only [World.cell?, HY9.out]; rfl
      have y2 : w9.cell? ⟨Y, 2, none⟩ = some (.int .i64 x.c) := by simp only [World.cell?, HY9.out]; rfl
      have y3 : w9.cell? ⟨Y, 3, none⟩ = some (.int .i64 x.l) := by simp only [World.cell?, HY9.out]; rfl
      by_cases hsame : x.o.data.toList = PV.data.toList
      · have hne2 : (x.o.toList == PV.toList) = true := by rw [str_eqB, decide_eq_true_eq]; exact hsame
        have hne : (x.o.toList != PV.toList) = false := by rw [bne_eq_false_iff_eq, Lib.toList_data, Lib.toList_data]; exact hsame
        obtain ⟨E, HREST⟩ : ∃ E, Hid (A ++ restS x = E) := ⟨_, Lib.hid rfl⟩
        have HGO : Hid ((linesS O.data.toList x.o.data.toList (L.drop (k + 1))).map (E ++ ·) = RR) := Lib.hid (by
          have h := HGO0.out
          have e : ownerS PV.data.toList O.data.toList x = [] := by unfold ownerS; rw [if_pos hsame]
          rw [e, List.append_nil, HREST.out] at h; exact h)
        have hrs := rest_len (x := x) HDD.out HT1.out HT2.out
        have hr2 : (restS x).length ≤ 131094030 := by rw [hrs]; omega
        have hEe : E.length = A.length + (restS x).length := by rw [← HREST.out, List.length_append]
        have hE0 : E.length ≤ 1200 + 131100000 * (k + 1) := len_step hEe hAL (Nat.le_trans hr2 (by decide))
        have HEL := Lib.hid hE0
        clear hrs hr2 hEe
        have hEL : E.length ≤ 1099511627776 := len_top hE0 hkn hbig
        clear hE0
        clear hsame HGO0
        go_upto_region 17 with fail
        refine heldG.regionG (fun w' => w'.cell? ⟨Y, 1, none⟩ = some (.int .i64 x.t) ∧ w'.cell? ⟨Y, 3, none⟩ = some (.int .i64 x.l) ∧ Below w.heap.size w w') (fun _ => false) (by kernel_rfl) ?_
        have hS0 : w9.drew.cell? ⟨Y, 1, none⟩ = some (.int .i64 x.t) ∧ w9.drew.cell? ⟨Y, 3, none⟩ = some (.int .i64 x.l) ∧ Below w.heap.size w w9.drew := ⟨y1, y3, HB9.out.drew⟩
        refine dshowC.isSetTake (i := 0) (d := 73) (v := .pointer (some ⟨Y, 3, none⟩)) rfl rfl (by kernel_rfl) (by kernel_rfl) (by kernel_rfl) (fun _ _ _ h => h) (by kernel_rfl) rfl (Or.inl ⟨by kernel_rfl, ?_⟩) hS0 ?_
        · intro wz hSw
          obtain ⟨z1, z3, zB⟩ := hSw
          go_simp
        try simp only [Act.put, List.setIfInBounds_toArray, List.set_cons_zero, List.set_cons_succ]
        refine dshowC.isSetTake (i := 1) (d := 74) (v := .int .i64 x.l) rfl rfl (by kernel_rfl) (by kernel_rfl) (by kernel_rfl) (fun _ _ _ h => h) (by kernel_rfl) rfl (Or.inl ⟨by kernel_rfl, ?_⟩) hS0 ?_
        · intro wz hSw
          obtain ⟨z1, z3, zB⟩ := hSw
          go_simp
        try simp only [Act.put, List.setIfInBounds_toArray, List.set_cons_zero, List.set_cons_succ]
        refine dshowC.isSetTake (i := 3) (d := 76) (v := .pointer (some ⟨Y, 1, none⟩)) rfl rfl (by kernel_rfl) (by kernel_rfl) (by kernel_rfl) (fun _ _ _ h => h) (by kernel_rfl) rfl (Or.inl ⟨by kernel_rfl, ?_⟩) hS0 ?_
        · intro wz hSw
          obtain ⟨z1, z3, zB⟩ := hSw
          go_simp
        try simp only [Act.put, List.setIfInBounds_toArray, List.set_cons_zero, List.set_cons_succ]
        refine dshowC.isSetTake (i := 4) (d := 77) (v := .int .i64 x.t) rfl rfl (by kernel_rfl) (by kernel_rfl) (by kernel_rfl) (fun _ _ _ h => h) (by kernel_rfl) rfl (Or.inl ⟨by kernel_rfl, ?_⟩) hS0 ?_
        · intro wz hSw
          obtain ⟨z1, z3, zB⟩ := hSw
          go_simp
        try simp only [Act.put, List.setIfInBounds_toArray, List.set_cons_zero, List.set_cons_succ]
        refine dshowC.isSetTake (i := 6) (d := 79) (v := .string D) rfl rfl (by kernel_rfl) (by kernel_rfl) (by kernel_rfl) (fun _ _ _ h => h) (by kernel_rfl) rfl (Or.inl ⟨by kernel_rfl, ?_⟩) hS0 ?_
        · intro wz hSw
          obtain ⟨z1, z3, zB⟩ := hSw
          go_simp
        try simp only [Act.put, List.setIfInBounds_toArray, List.set_cons_zero, List.set_cons_succ]
        refine dshowC.isSetTake (i := 8) (d := 81) (v := .int .i64 0) rfl rfl (by kernel_rfl) (by kernel_rfl) (by kernel_rfl) (fun _ _ _ h => h) (by kernel_rfl) rfl (Or.inl ⟨by kernel_rfl, ?_⟩) hS0 ?_
        · intro wz hSw
          obtain ⟨z1, z3, zB⟩ := hSw
          go_simp
        try simp only [Act.put, List.setIfInBounds_toArray, List.set_cons_zero, List.set_cons_succ]
        refine heldG.readyG (rs := [2]) (by kernel_rfl) (by simp) ?_
        refine heldG.AllG.cons rfl (fun KK hKK => ?_) heldG.AllG.nil
        go_simp
        refine (CI.out _ (pow_below HP.out hS0.2.2)).mono ?_
        rintro en v1 ⟨rfl, hBz⟩
        have hBz0 : Below w9.heap.size w9 v1 := drew_below hBz
        have HA1 := Lib.hid (bld_below HA9.out hBz0)
        have hS1 := keep13 hS0 hBz
        dsimp only
        refine hKK.out _ _ (fun _ => hS1) ?_; clear hKK KK hBz hBz0
        try simp only [Act.put, List.setIfInBounds_toArray, List.set_cons_zero, List.set_cons_succ]
        refine heldG.readyG (rs := [5]) (by kernel_rfl) (by simp) ?_
        refine heldG.AllG.cons rfl (fun KK hKK => ?_) heldG.AllG.nil
        go_simp
        refine (CT.out _ (pow_below HP.out hS1.2.2)).mono ?_
        rintro en v2 ⟨rfl, hBz⟩
        have HA2 := Lib.hid (bld_below HA1.out hBz)
        have hS2 := keep13 hS1 hBz
        dsimp only
        refine hKK.out _ _ (fun _ => hS2) ?_; clear hKK KK hBz
        try simp only [Act.put, List.setIfInBounds_toArray, List.set_cons_zero, List.set_cons_succ]
        refine dshowC.isSetTake (i := 7) (d := 80) (v := .agg #[.string T1, .string ⟨#[73, 78]⟩, .string T2, .string D]) rfl rfl (by kernel_rfl) (by kernel_rfl) (by kernel_rfl) (fun _ _ _ h => h) (by kernel_rfl) rfl (Or.inl ⟨by kernel_rfl, ?_⟩) hS2 ?_
        · intro wz hSw
          obtain ⟨z1, z3, zB⟩ := hSw
          go_simp
        try simp only [Act.put, List.setIfInBounds_toArray, List.set_cons_zero, List.set_cons_succ]
        refine heldG.doneG (by kernel_rfl) ?_ _
        have HB2 := Lib.hid hS2.2.2
        clear hS0 hS1 hS2
        have HR2 := Lib.hid (words4 (A := A) HT1.out HT2.out HDD.out HREST.out)
        have hsz2 : w.heap.size ≤ v2.heap.size := HB2.out.size
        go_wp2_with fail
        go_loopg [13, 81] 5 (fun gas _ kv wr => ∃ (j : Nat) (C : Bs), kv = .int .i64 j ∧ j ≤ 4 ∧ j + gas = 5 ∧ Hid (C ++ (([T1.data.toList, [73, 78], T2.data.toList, D.data.toList].drop j).flatMap (fun y => (9 : UInt8) :: y) ++ [10]) = E) ∧ Hid (Bld b b C wr) ∧ Hid (Below w.heap.size w wr))
        case atStart => exact ⟨0, A, rfl, by omega, by omega, HR2, HA2, HB2⟩
        case round =>
          clear HA2 HB2 HR2
          obtain ⟨j, C, rfl, hj, hjg, HCE, HCA, HCB⟩ := hrel
          have HJG := Lib.hid hjg; clear hjg
          have hszc := bld_size HCA.out
          by_cases hj4 : j < 4
          · have hcs : j = 0 ∨ j = 1 ∨ j = 2 ∨ j = 3 := by omega
            rcases hcs with rfl | rfl | rfl | rfl
            · have hix := idx0 T1 ⟨#[73, 78]⟩ T2 D
              have HCE2 : Hid ((C ++ (9 :: T1.data.toList)) ++ (([T1.data.toList, [73, 78], T2.data.toList, D.data.toList].drop (0 + 1)).flatMap (fun y => (9 : UInt8) :: y) ++ [10]) = E) := Lib.hid (by rw [← HCE.out]; simp)
              have hcl : C.length + 1 + T1.size ≤ E.length := by rw [← HCE2.out]; simp; omega
              have hone : ((⟨#[9]⟩ : ByteArray) ++ T1).size = 1 + T1.size := by rw [ByteArray.size_append]; rfl
              have CW := Lib.hid (ws b b C (⟨#[9]⟩ ++ T1) wr HCA.out (by rw [hone]; omega) hszc)
              have eW : C ++ ((⟨#[9]⟩ ++ T1 : ByteArray)).data.toList = C ++ (9 :: T1.data.toList) := by simp
              rw [eW] at CW
              clear eW
              have hsm : (T1 : ByteArray).size ≤ 1099511627776 := by omega
              go_wp2_with fail
              refine CW.out.mono ?_
              rintro e w5 ⟨rfl, hb5, hE5⟩
              have HB5 := Lib.hid (HCB.out.trans (hE5.mono hbw))
              have HA5 := Lib.hid hb5
              clear hE5 hb5 hix
              go_wp2_with fail
              have hjg := HJG.out
              go_roundg (gk - 1)
              case rel => exact ⟨0 + 1, _, by go_num, by omega, by omega, HCE2, HA5, HB5⟩
              case measure => omega
            · have hix := idx1 T1 ⟨#[73, 78]⟩ T2 D
              have HCE2 : Hid ((C ++ (9 :: [73, 78])) ++ (([T1.data.toList, [73, 78], T2.data.toList, D.data.toList].drop (1 + 1)).flatMap (fun y => (9 : UInt8) :: y) ++ [10]) = E) := Lib.hid (by rw [← HCE.out]; simp)
              have hcl : C.length + 1 + 2 ≤ E.length := by rw [← HCE2.out]; simp; try omega
              have hone : ((⟨#[9]⟩ : ByteArray) ++ ⟨#[73, 78]⟩).size = 1 + 2 := by rw [ByteArray.size_append]; rfl
              have CW := Lib.hid (ws b b C (⟨#[9]⟩ ++ ⟨#[73, 78]⟩) wr HCA.out (by rw [hone]; omega) hszc)
              have eW : C ++ ((⟨#[9]⟩ ++ ⟨#[73, 78]⟩ : ByteArray)).data.toList = C ++ (9 :: [73, 78]) := by simp
              rw [eW] at CW
              clear eW
              have hsm : (⟨#[73, 78]⟩ : ByteArray).size ≤ 1099511627776 := by decide
              go_wp2_with fail
              refine CW.out.mono ?_
              rintro e w5 ⟨rfl, hb5, hE5⟩
              have HB5 := Lib.hid (HCB.out.trans (hE5.mono hbw))
              have HA5 := Lib.hid hb5
              clear hE5 hb5 hix
              go_wp2_with fail
              have hjg := HJG.out
              go_roundg (gk - 1)
              case rel => exact ⟨1 + 1, _, by go_num, by omega, by omega, HCE2, HA5, HB5⟩
              case measure => omega
            · have hix := idx2 T1 ⟨#[73, 78]⟩ T2 D
              have HCE2 : Hid ((C ++ (9 :: T2.data.toList)) ++ (([T1.data.toList, [73, 78], T2.data.toList, D.data.toList].drop (2 + 1)).flatMap (fun y => (9 : UInt8) :: y) ++ [10]) = E) := Lib.hid (by rw [← HCE.out]; simp)
              have hcl : C.length + 1 + T2.size ≤ E.length := by rw [← HCE2.out]; simp; omega
              have hone : ((⟨#[9]⟩ : ByteArray) ++ T2).size = 1 + T2.size := by rw [ByteArray.size_append]; rfl
              have CW := Lib.hid (ws b b C (⟨#[9]⟩ ++ T2) wr HCA.out (by rw [hone]; omega) hszc)
              have eW : C ++ ((⟨#[9]⟩ ++ T2 : ByteArray)).data.toList = C ++ (9 :: T2.data.toList) := by simp
              rw [eW] at CW
              clear eW
              have hsm : (T2 : ByteArray).size ≤ 1099511627776 := by omega
              go_wp2_with fail
              refine CW.out.mono ?_
              rintro e w5 ⟨rfl, hb5, hE5⟩
              have HB5 := Lib.hid (HCB.out.trans (hE5.mono hbw))
              have HA5 := Lib.hid hb5
              clear hE5 hb5 hix
              go_wp2_with fail
              have hjg := HJG.out
              go_roundg (gk - 1)
              case rel => exact ⟨2 + 1, _, by go_num, by omega, by omega, HCE2, HA5, HB5⟩
              case measure => omega
            · have hix := idx3 T1 ⟨#[73, 78]⟩ T2 D
              have HCE2 : Hid ((C ++ (9 :: D.data.toList)) ++ (([T1.data.toList, [73, 78], T2.data.toList, D.data.toList].drop (3 + 1)).flatMap (fun y => (9 : UInt8) :: y) ++ [10]) = E) := Lib.hid (by rw [← HCE.out]; simp)
              have hcl : C.length + 1 + D.size ≤ E.length := by rw [← HCE2.out]; simp; omega
              have hone : ((⟨#[9]⟩ : ByteArray) ++ D).size = 1 + D.size := by rw [ByteArray.size_append]; rfl
              have CW := Lib.hid (ws b b C (⟨#[9]⟩ ++ D) wr HCA.out (by rw [hone]; omega) hszc)
              have eW : C ++ ((⟨#[9]⟩ ++ D : ByteArray)).data.toList = C ++ (9 :: D.data.toList) := by simp
              rw [eW] at CW
              clear eW
              have hsm : (D : ByteArray).size ≤ 1099511627776 := by omega
              go_wp2_with fail
              refine CW.out.mono ?_
              rintro e w5 ⟨rfl, hb5, hE5⟩
              have HB5 := Lib.hid (HCB.out.trans (hE5.mono hbw))
              have HA5 := Lib.hid hb5
              clear hE5 hb5 hix
              go_wp2_with fail
              have hjg := HJG.out
              go_roundg (gk - 1)
              case rel => exact ⟨3 + 1, _, by go_num, by omega, by omega, HCE2, HA5, HB5⟩
              case measure => omega
          · obtain rfl : j = 4 := by omega
            have HCE2 : Hid (C ++ [10] = E) := Lib.hid (by rw [← HCE.out]; simp)
            have hcl : C.length + 1 ≤ E.length := by rw [← HCE2.out]; simp
            have CW := Lib.hid (ws b b C ⟨#[10]⟩ wr HCA.out (by have : (⟨#[10]⟩ : ByteArray).size = 1 := rfl; omega) hszc)
            rw [show C ++ (⟨#[10]⟩ : ByteArray).data.toList = E from HCE2.out] at CW
            go_wp2_with fail
            refine CW.out.mono ?_
            rintro e w5 ⟨rfl, hb5, hE5⟩
            have HB5 := Lib.hid (HCB.out.trans (hE5.mono hbw))
            have HA5 := Lib.hid hb5
            clear hE5 hb5
            go_wp2_with fail
            have hkg := HKG.out
            go_roundg (gk' - 1)
            case rel => exact ⟨k + 1, E, x.o, rfl, by go_num, by omega, by omega, HEL.out, HGO, HA5, HB5⟩
            case measure => omega
      · have hne2 : (x.o.toList == PV.toList) = false := by rw [str_eqB, decide_eq_false_iff_not]; exact hsame
        have hne : (x.o.toList != PV.toList) = true := by rw [bne_iff_ne, Lib.toList_data, Lib.toList_data]; exact hsame
        have CR := Lib.hid (fun w => rel_any x.o O xs os w HXS.out HON.out)
        obtain ⟨Q, hQ⟩ : ∃ Q : ByteArray, (⟨(relS x.o.data.toList O.data.toList).toArray⟩ : ByteArray) = Q := ⟨_, rfl⟩
        have HQD : Hid (Q.data.toList = relS x.o.data.toList O.data.toList) := Lib.hid (by rw [← hQ])
        have hQs : Q.size ≤ 1100 := by rw [← hQ, mk_size]; exact rel_len _ _
        rw [hQ] at CR
        obtain ⟨E, HREST⟩ : ∃ E, Hid ((A ++ Q.data.toList) ++ restS x = E) := ⟨_, Lib.hid rfl⟩
        have HGO : Hid ((linesS O.data.toList x.o.data.toList (L.drop (k + 1))).map (E ++ ·) = RR) := Lib.hid (by
          have h := HGO0.out
          have e : ownerS PV.data.toList O.data.toList x = Q.data.toList := by unfold ownerS; rw [if_neg hsame, HQD.out]
          rw [e, HREST.out] at h; exact h)
        have hrs := rest_len (x := x) HDD.out HT1.out HT2.out
        have hr2 : (restS x).length ≤ 131094030 := by rw [hrs]; omega
        have hEe : E.length = A.length + Q.size + (restS x).length := by rw [← HREST.out, List.length_append, List.length_append, size_len]
        have hE0 : E.length ≤ 1200 + 131100000 * (k + 1) := len_step2 hEe hAL hQs (Nat.le_trans hr2 (by decide))
        have HEL := Lib.hid hE0
        clear hrs hr2 hEe
        have hEL : E.length ≤ 1099511627776 := len_top hE0 hkn hbig
        clear hE0
        clear hsame HGO0 hQ
        go_wp2_with fail
        refine (CR.out _).mono ?_
        rintro e w10 ⟨rfl, hB10⟩
        have HB10 := Lib.hid (HB9.out.trans (hB10.mono HB9.out.size))
        have HA10 := Lib.hid (bld_below HA9.out hB10)
        have HY10 := Lib.hid ((hB10.block Y (Array.getElem?_eq_some_iff.1 HY9.out).1).trans HY9.out)
        have CW := Lib.hid (bldE.wsE b b A Q w10 HA10.out (by omega) (bld_size HA10.out))
        clear y0 y1 y2 y3 hB10
        go_wp2_with fail
        refine CW.out.mono ?_
        rintro e w11 ⟨rfl, hb11, hE11, hK11⟩
        have HB11 := Lib.hid (HB10.out.trans (hE11.mono hbw))
        have HA11 := Lib.hid hb11
        have HY11 := Lib.hid (hK11 Y _ HY10.out HYNB.out (fun cur f e => by cases e))
        have y0 : w11.cell? ⟨Y, 0, none⟩ = some (.string x.o) := by simp only [World.cell?, HY11.out]; rfl
        have y1 : w11.cell? ⟨Y, 1, none⟩ = some (.int .i64 x.t) := by simp only [World.cell?, HY11.out]; rfl
        have y3 : w11.cell? ⟨Y, 3, none⟩ = some (.int .i64 x.l) := by simp only [World.cell?, HY11.out]; rfl
        clear hE11 hb11 hK11
        go_upto_region 17 with fail
        refine heldG.regionG (fun w' => w'.cell? ⟨Y, 1, none⟩ = some (.int .i64 x.t) ∧ w'.cell? ⟨Y, 3, none⟩ = some (.int .i64 x.l) ∧ Below w.heap.size w w') (fun _ => false) (by kernel_rfl) ?_
        have hS0 : w11.drew.cell? ⟨Y, 1, none⟩ = some (.int .i64 x.t) ∧ w11.drew.cell? ⟨Y, 3, none⟩ = some (.int .i64 x.l) ∧ Below w.heap.size w w11.drew := ⟨y1, y3, HB11.out.drew⟩
        refine dshowC.isSetTake (i := 0) (d := 73) (v := .pointer (some ⟨Y, 3, none⟩)) rfl rfl (by kernel_rfl) (by kernel_rfl) (by kernel_rfl) (fun _ _ _ h => h) (by kernel_rfl) rfl (Or.inl ⟨by kernel_rfl, ?_⟩) hS0 ?_
        · intro wz hSw
          obtain ⟨z1, z3, zB⟩ := hSw
          go_simp
        try simp only [Act.put, List.setIfInBounds_toArray, List.set_cons_zero, List.set_cons_succ]
        refine dshowC.isSetTake (i := 1) (d := 74) (v := .int .i64 x.l) rfl rfl (by kernel_rfl) (by kernel_rfl) (by kernel_rfl) (fun _ _ _ h => h) (by kernel_rfl) rfl (Or.inl ⟨by kernel_rfl, ?_⟩) hS0 ?_
        · intro wz hSw
          obtain ⟨z1, z3, zB⟩ := hSw
          go_simp
        try simp only [Act.put, List.setIfInBounds_toArray, List.set_cons_zero, List.set_cons_succ]
        refine dshowC.isSetTake (i := 3) (d := 76) (v := .pointer (some ⟨Y, 1, none⟩)) rfl rfl (by kernel_rfl) (by kernel_rfl) (by kernel_rfl) (fun _ _ _ h => h) (by kernel_rfl) rfl (Or.inl ⟨by kernel_rfl, ?_⟩) hS0 ?_
        · intro wz hSw
          obtain ⟨z1, z3, zB⟩ := hSw
          go_simp
        try simp only [Act.put, List.setIfInBounds_toArray, List.set_cons_zero, List.set_cons_succ]
        refine dshowC.isSetTake (i := 4) (d := 77) (v := .int .i64 x.t) rfl rfl (by kernel_rfl) (by kernel_rfl) (by kernel_rfl) (fun _ _ _ h => h) (by kernel_rfl) rfl (Or.inl ⟨by kernel_rfl, ?_⟩) hS0 ?_
        · intro wz hSw
          obtain ⟨z1, z3, zB⟩ := hSw
          go_simp
        try simp only [Act.put, List.setIfInBounds_toArray, List.set_cons_zero, List.set_cons_succ]
        refine dshowC.isSetTake (i := 6) (d := 79) (v := .string D) rfl rfl (by kernel_rfl) (by kernel_rfl) (by kernel_rfl) (fun _ _ _ h => h) (by kernel_rfl) rfl (Or.inl ⟨by kernel_rfl, ?_⟩) hS0 ?_
        · intro wz hSw
          obtain ⟨z1, z3, zB⟩ := hSw
          go_simp
        try simp only [Act.put, List.setIfInBounds_toArray, List.set_cons_zero, List.set_cons_succ]
        refine dshowC.isSetTake (i := 8) (d := 81) (v := .int .i64 0) rfl rfl (by kernel_rfl) (by kernel_rfl) (by kernel_rfl) (fun _ _ _ h => h) (by kernel_rfl) rfl (Or.inl ⟨by kernel_rfl, ?_⟩) hS0 ?_
        · intro wz hSw
          obtain ⟨z1, z3, zB⟩ := hSw
          go_simp
        try simp only [Act.put, List.setIfInBounds_toArray, List.set_cons_zero, List.set_cons_succ]
        refine heldG.readyG (rs := [2]) (by kernel_rfl) (by simp) ?_
        refine heldG.AllG.cons rfl (fun KK hKK => ?_) heldG.AllG.nil
        go_simp
        refine (CI.out _ (pow_below HP.out hS0.2.2)).mono ?_
        rintro en v1 ⟨rfl, hBz⟩
        have hBz0 : Below w11.heap.size w11 v1 := drew_below hBz
        have HA1 := Lib.hid (bld_below HA11.out hBz0)
        have hS1 := keep13 hS0 hBz
        dsimp only
        refine hKK.out _ _ (fun _ => hS1) ?_; clear hKK KK hBz hBz0
        try simp only [Act.put, List.setIfInBounds_toArray, List.set_cons_zero, List.set_cons_succ]
        refine heldG.readyG (rs := [5]) (by kernel_rfl) (by simp) ?_
        refine heldG.AllG.cons rfl (fun KK hKK => ?_) heldG.AllG.nil
        go_simp
        refine (CT.out _ (pow_below HP.out hS1.2.2)).mono ?_
        rintro en v2 ⟨rfl, hBz⟩
        have HA2 := Lib.hid (bld_below HA1.out hBz)
        have hS2 := keep13 hS1 hBz
        dsimp only
        refine hKK.out _ _ (fun _ => hS2) ?_; clear hKK KK hBz
        try simp only [Act.put, List.setIfInBounds_toArray, List.set_cons_zero, List.set_cons_succ]
        refine dshowC.isSetTake (i := 7) (d := 80) (v := .agg #[.string T1, .string ⟨#[73, 78]⟩, .string T2, .string D]) rfl rfl (by kernel_rfl) (by kernel_rfl) (by kernel_rfl) (fun _ _ _ h => h) (by kernel_rfl) rfl (Or.inl ⟨by kernel_rfl, ?_⟩) hS2 ?_
        · intro wz hSw
          obtain ⟨z1, z3, zB⟩ := hSw
          go_simp
        try simp only [Act.put, List.setIfInBounds_toArray, List.set_cons_zero, List.set_cons_succ]
        refine heldG.doneG (by kernel_rfl) ?_ _
        have HB2 := Lib.hid hS2.2.2
        clear hS0 hS1 hS2
        have HR2 := Lib.hid (words4 (A := A ++ Q.data.toList) HT1.out HT2.out HDD.out HREST.out)
        have hsz2 : w.heap.size ≤ v2.heap.size := HB2.out.size
        go_wp2_with fail
        go_loopg [13, 81] 5 (fun gas _ kv wr => ∃ (j : Nat) (C : Bs), kv = .int .i64 j ∧ j ≤ 4 ∧ j + gas = 5 ∧ Hid (C ++ (([T1.data.toList, [73, 78], T2.data.toList, D.data.toList].drop j).flatMap (fun y => (9 : UInt8) :: y) ++ [10]) = E) ∧ Hid (Bld b b C wr) ∧ Hid (Below w.heap.size w wr))
        case atStart => exact ⟨0, A ++ Q.data.toList, rfl, by omega, by omega, HR2, HA2, HB2⟩
        case round =>
          clear HA2 HB2 HR2
          obtain ⟨j, C, rfl, hj, hjg, HCE, HCA, HCB⟩ := hrel
          have HJG := Lib.hid hjg; clear hjg
          have hszc := bld_size HCA.out
          by_cases hj4 : j < 4
          · have hcs : j = 0 ∨ j = 1 ∨ j = 2 ∨ j = 3 := by omega
            rcases hcs with rfl | rfl | rfl | rfl
            · have hix := idx0 T1 ⟨#[73, 78]⟩ T2 D
              have HCE2 : Hid ((C ++ (9 :: T1.data.toList)) ++ (([T1.data.toList, [73, 78], T2.data.toList, D.data.toList].drop (0 + 1)).flatMap (fun y => (9 : UInt8) :: y) ++ [10]) = E) := Lib.hid (by rw [← HCE.out]; simp)
              have hcl : C.length + 1 + T1.size ≤ E.length := by rw [← HCE2.out]; simp; omega
              have hone : ((⟨#[9]⟩ : ByteArray) ++ T1).size = 1 + T1.size := by rw [ByteArray.size_append]; rfl
              have CW := Lib.hid (ws b b C (⟨#[9]⟩ ++ T1) wr HCA.out (by rw [hone]; omega) hszc)
              have eW : C ++ ((⟨#[9]⟩ ++ T1 : ByteArray)).data.toList = C ++ (9 :: T1.data.toList) := by simp
              rw [eW] at CW
              clear eW
              have hsm : (T1 : ByteArray).size ≤ 1099511627776 := by omega
              go_wp2_with fail
              refine CW.out.mono ?_
              rintro e w5 ⟨rfl, hb5, hE5⟩
              have HB5 := Lib.hid (HCB.out.trans (hE5.mono hbw))
              have HA5 := Lib.hid hb5
              clear hE5 hb5 hix
              go_wp2_with fail
              have hjg := HJG.out
              go_roundg (gk - 1)
              case rel => exact ⟨0 + 1, _, by go_num, by omega, by omega, HCE2, HA5, HB5⟩
              case measure => omega
            · have hix := idx1 T1 ⟨#[73, 78]⟩ T2 D
              have HCE2 : Hid ((C ++ (9 :: [73, 78])) ++ (([T1.data.toList, [73, 78], T2.data.toList, D.data.toList].drop (1 + 1)).flatMap (fun y => (9 : UInt8) :: y) ++ [10]) = E) := Lib.hid (by rw [← HCE.out]; simp)
              have hcl : C.length + 1 + 2 ≤ E.length := by rw [← HCE2.out]; simp; try omega
              have hone : ((⟨#[9]⟩ : ByteArray) ++ ⟨#[73, 78]⟩).size = 1 + 2 := by rw [ByteArray.size_append]; rfl
              have CW := Lib.hid (ws b b C (⟨#[9]⟩ ++ ⟨#[73, 78]⟩) wr HCA.out (by rw [hone]; omega) hszc)
              have eW : C ++ ((⟨#[9]⟩ ++ ⟨#[73, 78]⟩ : ByteArray)).data.toList = C ++ (9 :: [73, 78]) := by simp
              rw [eW] at CW
              clear eW
              have hsm : (⟨#[73, 78]⟩ : ByteArray).size ≤ 1099511627776 := by decide
              go_wp2_with fail
              refine CW.out.mono ?_
              rintro e w5 ⟨rfl, hb5, hE5⟩
              have HB5 := Lib.hid (HCB.out.trans (hE5.mono hbw))
              have HA5 := Lib.hid hb5
              clear hE5 hb5 hix
              go_wp2_with fail
              have hjg := HJG.out
              go_roundg (gk - 1)
              case rel => exact ⟨1 + 1, _, by go_num, by omega, by omega, HCE2, HA5, HB5⟩
              case measure => omega
            · have hix := idx2 T1 ⟨#[73, 78]⟩ T2 D
              have HCE2 : Hid ((C ++ (9 :: T2.data.toList)) ++ (([T1.data.toList, [73, 78], T2.data.toList, D.data.toList].drop (2 + 1)).flatMap (fun y => (9 : UInt8) :: y) ++ [10]) = E) := Lib.hid (by rw [← HCE.out]; simp)
              have hcl : C.length + 1 + T2.size ≤ E.length := by rw [← HCE2.out]; simp; omega
              have hone : ((⟨#[9]⟩ : ByteArray) ++ T2).size = 1 + T2.size := by rw [ByteArray.size_append]; rfl
              have CW := Lib.hid (ws b b C (⟨#[9]⟩ ++ T2) wr HCA.out (by rw [hone]; omega) hszc)
              have eW : C ++ ((⟨#[9]⟩ ++ T2 : ByteArray)).data.toList = C ++ (9 :: T2.data.toList) := by simp
              rw [eW] at CW
              clear eW
              have hsm : (T2 : ByteArray).size ≤ 1099511627776 := by omega
              go_wp2_with fail
              refine CW.out.mono ?_
              rintro e w5 ⟨rfl, hb5, hE5⟩
              have HB5 := Lib.hid (HCB.out.trans (hE5.mono hbw))
              have HA5 := Lib.hid hb5
              clear hE5 hb5 hix
              go_wp2_with fail
              have hjg := HJG.out
              go_roundg (gk - 1)
              case rel => exact ⟨2 + 1, _, by go_num, by omega, by omega, HCE2, HA5, HB5⟩
              case measure => omega
            · have hix := idx3 T1 ⟨#[73, 78]⟩ T2 D
              have HCE2 : Hid ((C ++ (9 :: D.data.toList)) ++ (([T1.data.toList, [73, 78], T2.data.toList, D.data.toList].drop (3 + 1)).flatMap (fun y => (9 : UInt8) :: y) ++ [10]) = E) := Lib.hid (by rw [← HCE.out]; simp)
              have hcl : C.length + 1 + D.size ≤ E.length := by rw [← HCE2.out]; simp; omega
              have hone : ((⟨#[9]⟩ : ByteArray) ++ D).size = 1 + D.size := by rw [ByteArray.size_append]; rfl
              have CW := Lib.hid (ws b b C (⟨#[9]⟩ ++ D) wr HCA.out (by rw [hone]; omega) hszc)
              have eW : C ++ ((⟨#[9]⟩ ++ D : ByteArray)).data.toList = C ++ (9 :: D.data.toList) := by simp
              rw [eW] at CW
              clear eW
              have hsm : (D : ByteArray).size ≤ 1099511627776 := by omega
              go_wp2_with fail
              refine CW.out.mono ?_
              rintro e w5 ⟨rfl, hb5, hE5⟩
              have HB5 := Lib.hid (HCB.out.trans (hE5.mono hbw))
              have HA5 := Lib.hid hb5
              clear hE5 hb5 hix
              go_wp2_with fail
              have hjg := HJG.out
              go_roundg (gk - 1)
              case rel => exact ⟨3 + 1, _, by go_num, by omega, by omega, HCE2, HA5, HB5⟩
              case measure => omega
          · obtain rfl : j = 4 := by omega
            have HCE2 : Hid (C ++ [10] = E) := Lib.hid (by rw [← HCE.out]; simp)
            have hcl : C.length + 1 ≤ E.length := by rw [← HCE2.out]; simp
            have CW := Lib.hid (ws b b C ⟨#[10]⟩ wr HCA.out (by have : (⟨#[10]⟩ : ByteArray).size = 1 := rfl; omega) hszc)
            rw [show C ++ (⟨#[10]⟩ : ByteArray).data.toList = E from HCE2.out] at CW
            go_wp2_with fail
            refine CW.out.mono ?_
            rintro e w5 ⟨rfl, hb5, hE5⟩
            have HB5 := Lib.hid (HCB.out.trans (hE5.mono hbw))
            have HA5 := Lib.hid hb5
            clear hE5 hb5
            go_wp2_with fail
            have hkg := HKG.out
            go_roundg (gk' - 1)
            case rel => exact ⟨k + 1, E, x.o, rfl, by go_num, by omega, by omega, HEL.out, HGO, HA5, HB5⟩
            case measure => omega
    · have hke : L.length ≤ k := by have := HNN.out; omega
      have HE : Hid (RR = some A) := Lib.hid (add_end HW.out hke)
      go_wp2_with fail
      refine (Tryz.Builder_String_any b b A _ HA.out (bld_size HA.out)).mono ?_
      rintro e w5 ⟨rfl, hE5⟩
      have HB5 := Lib.hid (HB.out.trans (hE5.mono hbw))
      clear hE5
      go_wp2_with fail
      go_ret2
      exact ⟨by rw [HE.out]; rfl, HB5.out⟩
end Go.Proofs.YtjejmgdpjfdhjaaGreatDoor.printW

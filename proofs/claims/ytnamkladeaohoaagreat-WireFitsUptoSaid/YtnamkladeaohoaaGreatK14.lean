/- (*wire.packer).data: walk. name.lower, Fold, Equal, Within, Common, Parent: walks. The reference's Graft: walk. name.Graft: walk; the law NameGrafts: its walk. name.Labels: walk. -/
import Derived.Test.YtnamkladeaohoaaGreatK13
import Derived.Test.YtnamkladeaohoaaGreatK7
import Derived.Deep.QuietTactic
import Derived.BigQuiet
import Derived.BigRegion
import Derived.Lib.OthersKept
namespace Go.Proofs.YtnamkladeaohoaaGreat.pdata
open Go.RowKit Go.Proofs.YtnamkladeaohoaaGreat.kit Go.Proofs.YtnamkladeaohoaaGreat.takes Go.Proofs.YtnamkladeaohoaaGreat.nspec Go.Proofs.YtnamkladeaohoaaGreat.bits Go.Proofs.YtnamkladeaohoaaGreat.bld Go.Proofs.YtnamkladeaohoaaGreat.coded Go.Proofs.YtnamkladeaohoaaGreat.fld Go.Proofs.YtnamkladeaohoaaGreat.wireP Go.Proofs.YtnamkladeaohoaaGreat.packP Go.Proofs.YtnamkladeaohoaaGreat.buf Go.Proofs.YtnamkladeaohoaaGreat.pname Go.Proofs.YtnamkladeaohoaaGreat.psmall Go.Proofs.YtnamkladeaohoaaGreat.fits
set_option linter.unusedVariables false

theorem notU8_record {c : Array Value} {f : Nat × Nat} : NotU8 (.cells c 43 f) := by
  intro cur f' e; injection e with _ e2 _; exact absurd e2 (by decide)
theorem notU8_iter (s : ByteArray) (k : Nat) : NotU8 (.stringIter s k) := by intro cur f e; cases e
theorem own_set {w : World} {base : Nat} {e : TypeId} {g n cap size : Nat} {xs : List Value} (h : w.ownsRow base e size (.slice (some ⟨g, 0, none⟩) n cap) n xs) (k : Nat) (hk : k < n * size) (u : Value) :
    (w.setCell ⟨g, k, none⟩ u).ownsRow base e size (.slice (some ⟨g, 0, none⟩) n cap) n (xs.set k u) := by
  obtain ⟨h1, h2⟩ := h
  rcases h2 with ⟨h2, _⟩ | ⟨g', cap', cur, hv, hg, hh, r1, r2, r3, r4⟩
  · cases h2
  · cases hv
    refine ⟨by rw [List.length_set]; exact h1, .inr ⟨g, cap, _, rfl, hg, heap_setCell_same w g k cur e u hh, r1, r2, by simpa using r3, ?_⟩⟩
    rw [← r4, Array.toList_setIfInBounds, List.take_set]
theorem own_cells {w : World} {base : Nat} {e : TypeId} {v : Value} {n size : Nat} {xs : List Value} (h : w.ownsRow base e size v n xs) (hn : 1 ≤ n) : ∃ g cap, v = .slice (some ⟨g, 0, none⟩) n cap ∧ base ≤ g ∧ g < w.heap.size ∧ (∀ j, j < n * size → ∃ u, w.cell? ⟨g, j, none⟩ = some u) ∧ (∀ j, w.frozen? ⟨g, j, none⟩ = false) ∧ ∃ cur, w.heap[g]? = some (.cells cur e (0, 0)) := by
  rcases h.2 with ⟨_, h0⟩ | ⟨g, cap, cur, rfl, hb, hg, h1, h2, _, _⟩
  · omega
  · refine ⟨g, cap, rfl, hb, (Array.getElem?_eq_some_iff.1 hg).1, fun j hj => ?_, fun j => by simp [World.frozen?, hg], cur, hg⟩
    have hl : j < xs.length := by rw [h.1]; exact hj
    refine ⟨xs[j], ?_⟩
    have := h.cells (g := g) rfl j xs[j] (List.getElem?_eq_getElem hl)
    rw [addr_add] at this; exact this
/-- one byte of the row written over -/
theorem _root_.Go.Proofs.YtnamkladeaohoaaGreat.buf.Buf.put1 {w : World} {b0 B g cap : Nat} {c1 : Value} {out : Bs} (h : Buf w b0 B (.slice (some ⟨g, 0, none⟩) out.length cap) c1 out) (k : Nat) (hk : k < out.length) (c : UInt8) :
    Buf (w.setCell ⟨g, k, none⟩ (.int .u8 (c.toNat : Int))) b0 B (.slice (some ⟨g, 0, none⟩) (out.set k c).length cap) c1 (out.set k c) := by
  have hne : B ≠ g := by
    intro e
    subst e
    exact row_u8 h.own h.blk (notU8_packer _ _) rfl
  have ho := own_set h.own k (by omega) (.int .u8 (c.toNat : Int))
  refine ⟨?_, ?_, h.low⟩
  · rw [Below.heap_setCell _ _ _ _ (by show B ≠ g; exact hne), List.length_set]; exact h.blk
  · rw [List.length_set]
    have e : (Lib.byteCells out).set k (.int .u8 (c.toNat : Int)) = Lib.byteCells (out.set k c) := by
      unfold Lib.byteCells; rw [List.map_set]
    rw [← e]; exact ho
theorem _root_.Go.Proofs.YtnamkladeaohoaaGreat.buf.Eff.set {b0 : Nat} {T : Nat → Prop} {w w1 : World} (h : Eff b0 T w w1) {g k : Nat} {cur : Array Value} {v : Value} (hg : w1.heap[g]? = some (.cells cur 5 (0, 0))) (hb : b0 ≤ g) : Eff b0 T w (w1.setCell ⟨g, k, none⟩ v) := by
  refine ⟨h.os, h.tape, h.output, by simpa using h.size, fun j hj => ?_, fun j o hj hn hT => ?_⟩
  · rw [Below.heap_setCell _ _ _ _ (by show j ≠ g; omega)]; exact h.low j hj
  · have h1 := h.kept j o hj hn hT
    rw [Below.heap_setCell _ _ _ _ (by show j ≠ g; intro e; subst e; rw [hg] at h1; cases h1; exact hn _ _ rfl)]
    exact h1
/-- the iterator moved on -/
theorem _root_.Go.Proofs.YtnamkladeaohoaaGreat.pname.Paper.iterAt {w : World} {b0 B M k : Nat} {v : Value} {p : Pp} {s : ByteArray} {pos : Nat} (h : Paper w b0 B M v p) (hk : w.heap[k]? = some (.stringIter s pos)) (pos' : Nat) : Paper (w.iterAt k s pos') b0 B M v p := by
  have hB : B ≠ k := by intro e; subst e; rw [h.buf.blk] at hk; cases hk
  obtain ⟨D, ⟨es, clock, hM, hrest⟩, hT⟩ := h.map
  have hMk : M ≠ k := by intro e; subst e; rw [hM] at hk; cases hk
  refine ⟨⟨(Lib.iterAt_other w k B s pos' hB).trans h.buf.blk, ?_, h.buf.low⟩, ⟨D, ⟨es, clock, (Lib.iterAt_other w k M s pos' hMk).trans hM, hrest⟩, hT⟩, h.near, h.low, h.ne, h.few⟩
  refine ⟨h.buf.own.1, ?_⟩
  rcases h.buf.own.2 with h1 | ⟨g, cap, cur, h1, h2, h3, h4⟩
  · exact .inl h1
  · refine .inr ⟨g, cap, cur, h1, h2, (Lib.iterAt_other w k g s pos' ?_).trans h3, h4⟩
    intro e; subst e; rw [h3] at hk; cases hk
theorem _root_.Go.Proofs.YtnamkladeaohoaaGreat.buf.Eff.iterAt {b0 k : Nat} {T : Nat → Prop} {w w1 : World} {s : ByteArray} (h : Eff b0 T w w1) (hk : w.heap.size ≤ k) (hb : b0 ≤ w.heap.size) (pos' : Nat) : Eff b0 T w (w1.iterAt k s pos') := by
  refine ⟨h.os, h.tape, h.output, by rw [Lib.iterAt_size]; exact h.size, fun j hj => (Lib.iterAt_other _ _ _ _ _ (by omega)).trans (h.low j hj), fun j o hj hn hT => (Lib.iterAt_other _ _ _ _ _ ?_).trans (h.kept j o hj hn hT)⟩
  have := (Array.getElem?_eq_some_iff.1 hj).1
  omega
theorem _root_.Go.Proofs.YtnamkladeaohoaaGreat.pname.Paper.alloc {w : World} {b0 B M : Nat} {v : Value} {p : Pp} (h : Paper w b0 B M v p) (o : Obj) : Paper (w.alloc o) b0 B M v p := by
  obtain ⟨D, ⟨es, clock, hM, hrest⟩, hT⟩ := h.map
  exact ⟨h.buf.alloc o, ⟨D, ⟨es, clock, (Below.heap_alloc _ _ _ (Array.getElem?_eq_some_iff.1 hM).1).trans hM, hrest⟩, hT⟩, h.near, h.low, h.ne, h.few⟩
theorem _root_.Go.Proofs.YtnamkladeaohoaaGreat.buf.Eff.alloc {b0 : Nat} {T : Nat → Prop} {w w1 : World} (h : Eff b0 T w w1) (o : Obj) (hb : b0 ≤ w1.heap.size) : Eff b0 T w (w1.alloc o) := h.trans (Eff.of_below ((Below.refl _ _).alloc (Nat.le_refl _) _) hb)

theorem paper_drewN {w : World} {b0 B M : Nat} {v : Value} {p : Pp} (h : Paper w b0 B M v p) (n : Nat) : Paper (w.drewN n) b0 B M v p := by
  obtain ⟨D, ⟨es, clock, hM, hrest⟩, hT⟩ := h.map
  exact ⟨⟨h.buf.blk, h.buf.own, h.buf.low⟩, ⟨D, ⟨es, clock, hM, hrest⟩, hT⟩, h.near, h.low, h.ne, h.few⟩
theorem eff_drewN (b0 : Nat) (T : Nat → Prop) (w : World) (n : Nat) : Eff b0 T w (w.drewN n) := ⟨rfl, rfl, rfl, Nat.le_refl _, fun _ _ => rfl, fun _ _ h _ _ => h⟩
theorem dataP_len : ∀ (fs : List (Option Nat)) (d : Bs) (p : Pp), p.out.length ≤ (dataP fs d p).out.length
  | [], d, p => by simp [dataP]
  | none :: fs, d, p => by
    simp only [dataP]
    exact Nat.le_trans (nameF_len _ _ _).2 (dataP_len fs _ _)
  | some k :: fs, d, p => by
    simp only [dataP]
    exact Nat.le_trans (by simp) (dataP_len fs _ _)
theorem nameF_few : ∀ (f : Nat) (ls : List Bs) (p : Pp), okL ls → p.N.length ≤ p.out.length → (nameF f (put ls) p).N.length ≤ (nameF f (put ls) p).out.length
  | 0, ls, p, _, h => h
  | f + 1, [], p, _, h => by simp only [put, nameF]; simp; omega
  | f + 1, x :: r, p, ho, h => by
    have hx := (okL_cons.1 ho).1
    have hcn : (UInt8.ofNat x.length).toNat = x.length := UInt8.toNat_ofNat_of_lt' (by show x.length < 256; omega)
    have hc0 : UInt8.ofNat x.length ≠ 0 := by intro e; rw [e] at hcn; simp at hcn; omega
    simp only [put, nameF, if_neg hc0]
    cases findN p.N (UInt8.ofNat x.length :: (x ++ put r)) with
    | some k => simp only [be2, List.length_append, List.length_cons, List.length_nil]; omega
    | none =>
      have hd := drop_put x r hx.2
      simp only [put] at hd
      rw [hd]
      refine nameF_few f r _ (okL_cons.1 ho).2 ?_
      simp only [List.length_append, List.length_take, List.length_cons, hcn]
      split <;> ((try simp only [List.length_append, List.length_cons, List.length_nil]); omega)
theorem nameP_few (ls : List Bs) (p : Pp) (ho : okL ls) (h : p.N.length ≤ p.out.length) : (nameP (put ls) p).N.length ≤ (nameP (put ls) p).out.length := nameF_few _ ls p ho h
theorem bmem (S : ByteArray) (k : Nat) (h : k < S.size) : S[k] ∈ S.data.toList := by
  have := drop_cons S k h
  have h2 : S[k] ∈ S.data.toList.drop k := by rw [this]; exact List.mem_cons_self
  exact List.mem_of_mem_drop h2
def okC (c : UInt8) : Prop := c = 110 ∨ (49 ≤ c.toNat ∧ c.toNat ≤ 57)
theorem short_ok (t : Int) : ∀ c ∈ (shortB t).data.toList, okC c := by
  intro c hc
  unfold shortB at hc
  split at hc
  · simp at hc; exact .inl hc
  split at hc
  · simp at hc; rcases hc with rfl | rfl
    · exact .inr ⟨by decide, by decide⟩
    · exact .inl rfl
  split at hc
  · simp at hc; rcases hc with rfl | rfl
    · exact .inl rfl
    · exact .inr ⟨by decide, by decide⟩
  · simp at hc
theorem short_size (t : Int) : (shortB t).size ≤ 4 := by
  unfold shortB; split; · simp [ByteArray.size]
  split; · simp [ByteArray.size]
  split; · simp [ByteArray.size]
  · simp [ByteArray.size]

set_option maxRecDepth 100000 in
set_option maxHeartbeats 8000000 in
theorem pdata_any (b0 B M : Nat) (v : Value) (p : Pp) (x : Rc) (w : World) (h : Paper w b0 B M v p) (hl : p.out.length ≤ 274877906944) (hfew : p.N.length ≤ p.out.length) (hds : x.d.size ≤ 65535) (hfit : x.d.size ≠ 0 → Fits (fieldsW x.t) x.d.data.toList) :
    Calls Tryz.prog 118 #[.pointer (some ⟨B, 0, none⟩), .agg #[.string x.o, .int .i64 x.t, .int .i64 x.c, .int .i64 x.l, .string x.d]] w fun e w' => e = .returned (.tuple #[]) ∧
      ∃ v', Paper w' b0 B M v' ⟨patch (dataP (if x.d.size = 0 then [] else fieldsW x.t) x.d.data.toList ⟨p.out ++ [0, 0], p.N⟩).out p.out.length (((dataP (if x.d.size = 0 then [] else fieldsW x.t) x.d.data.toList ⟨p.out ++ [0, 0], p.N⟩).out.length : Int) - p.out.length - 2), (dataP (if x.d.size = 0 then [] else fieldsW x.t) x.d.data.toList ⟨p.out ++ [0, 0], p.N⟩).N⟩ ∧ Eff b0 (Two B M) w w' := by
  obtain ⟨S, hS⟩ : ∃ S : ByteArray, (if x.d.size = 0 then (⟨#[]⟩ : ByteArray) else shortB x.t) = S := ⟨_, rfl⟩
  have hfS : (if x.d.size = 0 then [] else fieldsW x.t) = S.data.toList.map fieldB := by
    rw [← hS]; unfold fieldsW; split <;> rfl
  rw [hfS]
  have HFit : Hid (Fits (S.data.toList.map fieldB) x.d.data.toList) := Lib.hid (by
    rw [← hfS]; split
    · trivial
    · exact hfit (by assumption))
  have HOKS : Hid (∀ c ∈ S.data.toList, okC c) := Lib.hid (by
    rw [← hS]; split
    · intro c hc; simp at hc
    · exact short_ok _)
  have hS4 : S.size ≤ 4 := by
    rw [← hS]; split
    · simp [ByteArray.size]
    · exact short_size _
  obtain ⟨R, hR⟩ : ∃ R, dataP (S.data.toList.map fieldB) x.d.data.toList ⟨p.out ++ [0, 0], p.N⟩ = R := ⟨_, rfl⟩
  have hRlen : p.out.length + 2 ≤ R.out.length := by
    rw [← hR]; exact Nat.le_trans (by simp) (dataP_len _ _ _)
  rw [hR]
  have HR0 := Lib.hid hR
  have HP0 := Lib.hid h
  have HS := Lib.hid hS
  have CS := Lib.hid (fun w => short_any x.t w)
  obtain ⟨va, vc, rfl⟩ := h.open
  have hbel := (Below.refl w.heap.size w).alloc (Nat.le_refl _) (.cells #[.string x.o, .int .i64 x.t, .int .i64 x.c, .int .i64 x.l, .string x.d] 43)
  have hk0 := h.c0
  have hlt := h.buf.lt
  have hb0w : b0 ≤ w.heap.size := by have := h.buf.low; omega
  have CW := Lib.hid (fun w h => u16_any b0 B (.slice va p.out.length vc) (.map (some M)) p.out 0 w h (by omega))
  have HPA := Lib.hid (h.alloc (.cells #[.string x.o, .int .i64 x.t, .int .i64 x.c, .int .i64 x.l, .string x.d] 43))
  have HEA : Hid (Eff b0 (Two B M) w (w.alloc (.cells #[.string x.o, .int .i64 x.t, .int .i64 x.c, .int .i64 x.l, .string x.d] 43))) := Lib.hid (Eff.of_below hbel hb0w)
  obtain ⟨K, hK⟩ : ∃ K, p.out.length = K := ⟨_, rfl⟩
  have HK := Lib.hid hK
  have HFW := Lib.hid hfew
  clear h hR hS hfS hfit hfew
  rw [hK] at CW hk0 hRlen ⊢
  go_enter Tryz.func118, Tryz.ntmps118
  go_wp2_with fail
  refine (CW.out _ (by have hq := HPA.out.buf; rw [HK.out] at hq; exact hq)).mono ?_
  rintro e w1 ⟨rfl, v1, hb, he⟩
  have hbx : w1.heap[w.heap.size]? = some (.cells #[.string x.o, .int .i64 x.t, .int .i64 x.c, .int .i64 x.l, .string x.d] 43 (0, 0)) := he.kept _ _ (heap_alloc_new _ _) notU8_record (by omega)
  have k1 : w1.cell? ⟨w.heap.size, 1, none⟩ = some (.int .i64 x.t) := by simp only [World.cell?, hbx]; rfl
  have k4 : w1.cell? ⟨w.heap.size, 4, none⟩ = some (.string x.d) := by simp only [World.cell?, hbx]; rfl
  have HP1 : Hid (Paper w1 b0 B M v1 ⟨p.out ++ [0, 0], p.N⟩) := Lib.hid (HPA.out.wrote hb he (by simp))
  have HE1 := Lib.hid (HEA.out.trans (he.wider (fun k h => (.inl h : Two B M k))))
  have hw1 : w.heap.size < w1.heap.size := (Array.getElem?_eq_some_iff.1 hbx).1
  clear hb he hbx hbel HPA HEA CW
  go_wp2_with fail
  go_quiet ((go_at_call 179; refine Calls.quiet_of_same (CS.out _)))
  have HPq := Lib.hid (paper_drewN HP1.out nq)
  have HEq := Lib.hid (HE1.out.trans (eff_drewN b0 (Two B M) w1 nq))
  go_upto_if 28 with fail
  go_cut [5] (fun s5 wx => s5 = .string S ∧ Hid (Paper wx b0 B M v1 ⟨p.out ++ [0, 0], p.N⟩) ∧ Hid (Eff b0 (Two B M) w wx) ∧ w.heap.size < wx.heap.size)
  case first =>
    by_cases hd0 : x.d.size = 0
    · have hemp : x.d.toList.isEmpty = true := by rw [emp_yes hd0]; rfl
      have hSe : S = ⟨#[]⟩ := by rw [← HS.out, if_pos hd0]
      subst hSe
      simp only [hemp]
      go_wp2_with fail
      go_meet
      exact ⟨rfl, HPq, HEq, hw1⟩
    · have hemp := emp_no (Nat.pos_of_ne_zero hd0)
      have hSe : S = shortB x.t := by rw [← HS.out, if_neg hd0]
      simp only [hemp]
      go_wp2_with fail
      go_meet
      exact ⟨by rw [hSe], HPq, HEq, hw1⟩
  case rest =>
    obtain ⟨rfl, HP2, HE2, hw2⟩ := hcut
    have hwc : b0 ≤ wc.heap.size := by omega
    have HIP := Lib.hid (HP2.out.alloc (.stringIter S 0))
    have HIE := Lib.hid (HE2.out.alloc (.stringIter S 0) hwc)
    have hit0 := World.iter_heap wc S 0
    obtain ⟨Q, hQ⟩ : ∃ Q, wc.heap.size = Q := ⟨_, rfl⟩
    clear k1 k4 HPq HEq
    go_wp2_with fail
    go_loopg [6, 8, 9, 10] (S.size + 1) (fun gas dv _ _ _ wr => ∃ (pos : Nat) (u : ByteArray) (v' : Value) (q : Pp), dv = .string u ∧ u.size ≤ 65535 ∧ wr.heap[Q]? = some (.stringIter S pos) ∧ pos + gas = S.size + 1 ∧ Hid (Fits ((S.data.toList.drop pos).map fieldB) u.data.toList) ∧ Hid (dataP ((S.data.toList.drop pos).map fieldB) u.data.toList q = R) ∧ Hid (q.out.length ≤ K + 2 + 1000 * pos) ∧ Hid (q.N.length ≤ q.out.length) ∧ Hid (Paper wr b0 B M v' q) ∧ Hid (Eff b0 (Two B M) w wr))
    case atStart => exact ⟨0, x.d, v1, ⟨p.out ++ [0, 0], p.N⟩, rfl, hds, by rw [← hQ]; exact hit0, by omega, HFit, HR0, Lib.hid (by simp only [List.length_append, List.length_cons, List.length_nil]; have := HK.out; omega), Lib.hid (by have := HFW.out; simp only [List.length_append]; omega), HIP, HIE⟩
    case round =>
      obtain ⟨pos, u, v', q, rfl, hus, hit, hG, HFI, HRI, HLE, HFE, HPP, HEE⟩ := hrel
      have hlenq : q.out.length ≤ 549755813888 := by have := HLE.out; omega
      by_cases hlt : pos < S.size
      · have hQw : w.heap.size ≤ Q := by omega
        obtain ⟨c, hc⟩ : ∃ c, S[pos]'hlt = c := ⟨_, rfl⟩
        have hok : okC c := HOKS.out c (by rw [← hc]; exact bmem S pos hlt)
        have ha : (S[pos]'hlt).toNat < 128 := by
          rw [hc]; rcases hok with rfl | h
          · decide
          · omega
        have hnx := fun ty => Lib.run_next_ascii_at (P := Tryz.prog) wr Q S pos ty hit hlt ha
        rw [hc] at hnx
        have HPI := Lib.hid (HPP.out.iterAt hit (pos + 1))
        have HEI := Lib.hid (HEE.out.iterAt hQw hb0w (k := Q) (s := S) (pos + 1))
        have hit2 := Lib.iterAt_heap wr Q S pos (pos + 1) hit
        obtain ⟨W2, hW2⟩ : ∃ W2, wr.iterAt Q S (pos + 1) = W2 := ⟨_, rfl⟩
        rw [hW2] at hnx HPI HEI hit2
        have hdc := drop_cons S pos hlt
        rw [hc] at hdc
        have HF2 := HFI.out
        have HR2 := HRI.out
        rw [hdc, List.map_cons] at HF2 HR2
        have hQB : Q ≠ B := by intro e; have hq := HPP.out.buf.blk; rw [← e, hit] at hq; cases hq
        have hQM : Q ≠ M := by intro e; obtain ⟨D, ⟨es, clock, hM, _⟩, _⟩ := HPP.out.map; rw [← e, hit] at hM; cases hM
        clear hW2 ha hc hdc hit
        by_cases h110 : c = 110
        · have hfb : fieldB c = none := by unfold fieldB; rw [if_pos h110]
          rw [hfb] at HF2 HR2
          obtain ⟨ls, d', g1, g2, g3, g4⟩ := HF2
          have hcn : c.toNat = 110 := by rw [h110]; rfl
          rw [hcn] at hnx
          have hus' : u.size = (put ls).length + d'.length := by rw [← size_len, g3, List.length_append]
          have CN := Lib.hid (fun w => nsize_any u ls d' w g3 g1 (by omega))
          obtain ⟨L, hL⟩ : ∃ L, (put ls).length = L := ⟨_, rfl⟩
          have hex : (u.extract 0 L).data.toList = put ls := by
            rw [Lib.extract_data, g3, ← hL]; simp
          have hdr : (u.extract L u.size).data.toList = d' := by
            rw [Lib.extract_data, List.take_of_length_le (by rw [List.length_drop, size_len]; exact Nat.le_refl _), g3, ← hL, List.drop_left]
          have hdrs : (u.extract L u.size).size = d'.length := by rw [← size_len, hdr]
          have CP := Lib.hid (fun w h => pname_any b0 B M v' q (u.extract 0 L) ls w h (by rw [hex]; exact ⟨rfl, g1, g2⟩) hlenq HFE.out)
          rw [hex] at CP
          rw [hL] at CN hus' g2
          have HR3 : Hid (dataP ((S.data.toList.drop (pos + 1)).map fieldB) d' (nameP (put ls) q) = R) := Lib.hid (by
            rw [← HR2]; simp only [dataP]
            rw [g3, nameSz_put ls d' g1, List.drop_left, List.take_left])
          have HF3 := Lib.hid g4
          have hlen2 := nameF_len ((put ls).length + 1) (put ls) q
          have HL2 : Hid ((nameP (put ls) q).out.length ≤ q.out.length + L + 2 ∧ q.out.length ≤ (nameP (put ls) q).out.length) := Lib.hid (by rw [← hL]; exact hlen2)
          have HDR := Lib.hid hdr; have HDRS := Lib.hid hdrs; have HU := Lib.hid hus'
          have hLu : (L : Int) ≤ (u.size : Int) := by omega
          have hL0 : (0 : Int) ≤ (L : Int) := by omega
          have HN2 : Hid ((nameP (put ls) q).N.length ≤ (nameP (put ls) q).out.length) := Lib.hid (nameP_few _ q g1 HFE.out)
          clear hex hdr hdrs hlen2 g1 g3 g4 hL HR2 HFI HRI hus' hok h110 hcn hfb
          go_wp2_with fail
          refine (CN.out _).mono ?_
          rintro e w2 ⟨rfl, rfl⟩
          go_wp2_with fail
          refine (CP.out _ HPI.out).mono ?_
          rintro e w2 ⟨rfl, v2, hp2, he2⟩
          have HP3 := Lib.hid hp2
          have hit3 := he2.kept Q _ hit2 (notU8_iter _ _) (by rintro (h | h); exact hQB h; exact hQM h)
          have HE3 := Lib.hid (HEI.out.trans he2)
          clear hp2 he2
          go_wp2_with fail
          go_roundg (gk - 1)
          case rel => exact ⟨pos + 1, _, v2, _, rfl, by rw [HDRS.out]; have := HU.out; omega, hit3, by omega, by rw [HDR.out]; exact HF3, by rw [HDR.out]; exact HR3, Lib.hid (by have := HL2.out; have := HLE.out; omega), HN2, HP3, HE3⟩
          case measure => omega
        · have hfb : fieldB c = some (2 * (c.toNat - 48)) := by unfold fieldB; rw [if_neg h110]
          have hcr : 49 ≤ c.toNat ∧ c.toNat ≤ 57 := by rcases hok with h | h; exact absurd h h110; exact h
          rw [hfb] at HF2 HR2
          obtain ⟨cn, hcn⟩ : ∃ cn, c.toNat = cn := ⟨_, rfl⟩
          rw [hcn] at hnx hcr HF2 HR2
          obtain ⟨L, hL⟩ : ∃ L, 2 * (cn - 48) = L := ⟨_, rfl⟩
          rw [hL] at HF2 HR2
          obtain ⟨g1, g2⟩ := HF2
          rw [size_len] at g1
          have hex : (u.extract 0 L).data.toList = u.data.toList.take L := by
            rw [Lib.extract_data]; simp
          have hexs : (u.extract 0 L).size = L := by rw [← size_len, hex, List.length_take, size_len]; omega
          have hdr : (u.extract L u.size).data.toList = u.data.toList.drop L := by
            rw [Lib.extract_data, List.take_of_length_le (by rw [List.length_drop, size_len]; exact Nat.le_refl _)]
          have hdrs : (u.extract L u.size).size = u.size - L := by rw [← size_len, hdr, List.length_drop, size_len]
          have CP := Lib.hid (fun w h => raw_any b0 B v' (.map (some M)) q.out (u.extract 0 L) w h (by omega) (by rw [hexs]; omega))
          rw [hex] at CP
          have HR3 : Hid (dataP ((S.data.toList.drop (pos + 1)).map fieldB) (u.data.toList.drop L) ⟨q.out ++ u.data.toList.take L, q.N⟩ = R) := Lib.hid (by
            rw [← HR2]; rfl)
          have HF3 := Lib.hid g2
          have HDR := Lib.hid hdr; have HDRS := Lib.hid hdrs
          have hLu : (L : Int) ≤ (u.size : Int) := by omega
          have hL0 : (0 : Int) ≤ (L : Int) := by omega
          have hLv : Value.int .i64 (2 * ((cn : Int) - 48)) = Value.int .i64 (L : Int) := by congr 1; omega
          have hcn1 : (49 : Int) ≤ (cn : Int) := by omega
          have hcn2 : (cn : Int) ≤ 57 := by omega
          have hcb : ((cn : Int) != 110) = true := by simp; omega
          have HLL : Hid (L ≤ 18) := Lib.hid (by omega)
          have HTL : Hid ((u.data.toList.take L).length ≤ L) := Lib.hid (by rw [List.length_take]; omega)
          have HG1 := Lib.hid g1
          clear hex hexs hdr hdrs g1 g2 hL HR2 HFI HRI hok h110 hcn hfb hcr
          have HLV := Lib.hid hLv
          clear hLv
          go_wp2_with fail
          rw [HLV.out]
          clear HLV hcn1 hcn2 hcb
          go_still_tail 6, (by kernel_rfl)
          go_wp2_with fail
          refine (CP.out _ HPI.out.drew.buf).mono ?_
          rintro e w3 ⟨rfl, v3, hb3, he3⟩
          have HP3 := Lib.hid ((HPI.out.drew).wrote hb3 he3 (by simp))
          have hit3 := he3.kept Q _ (show W2.drew.heap[Q]? = _ from hit2) (notU8_iter _ _) hQB
          have HE3 := Lib.hid ((HEI.out.trans (Eff.of_drew _ _ _)).trans (he3.wider (fun k h => (.inl h : Two B M k))))
          clear hb3 he3
          go_wp2_with fail
          go_roundg (gk - 1)
          case rel => exact ⟨pos + 1, _, v3, _, rfl, by rw [HDRS.out]; omega, hit3, by omega, by rw [HDR.out]; exact HF3, by rw [HDR.out]; exact HR3, Lib.hid (by have h1 := HTL.out; have h2 := HLE.out; have h3 := HLL.out; simp only [List.length_append]; omega), Lib.hid (by have h1 := HFE.out; simp only [List.length_append]; omega), HP3, HE3⟩
          case measure => omega
      · have hnx : ∀ ty, (Instr.next (.pointer (some ⟨Q, 0, none⟩)) true ty).run Tryz.prog wr = _ := fun ty => Lib.run_next_end_at wr Q S pos ty hit hlt
        have CR := Lib.hid (raw_any b0 B v' (.map (some M)) q.out u wr HPP.out.buf (by omega) (by omega))
        have hRq : R = ⟨q.out ++ u.data.toList, q.N⟩ := by
          rw [← HRI.out, List.drop_of_length_le (by rw [size_len]; omega)]; rfl
        subst hRq
        go_wp2_with fail
        refine CR.out.mono ?_
        rintro e w2 ⟨rfl, v2, hb2, he2⟩
        have HPR := Lib.hid (HPP.out.wrote hb2 he2 (by simp))
        have HER := Lib.hid (HEE.out.trans (he2.wider (fun k h => (.inl h : Two B M k))))
        obtain ⟨out, hout⟩ : ∃ out, q.out ++ u.data.toList = out := ⟨_, rfl⟩
        rw [hout] at HPR
        simp only [hout] at hRlen ⊢
        obtain ⟨g, cap, rfl, hgb, hgl, hgc, hgf, cur, hgh⟩ := own_cells HPR.out.buf.own (by show 1 ≤ out.length; omega)
        have hkk0 := HPR.out.buf.c0
        obtain ⟨T, hT⟩ : ∃ T, out.length = T := ⟨_, rfl⟩
        have HT := Lib.hid hT
        simp only [hT] at hkk0 hRlen hgc ⊢
        obtain ⟨n, hn⟩ : ∃ n : Nat, T - K - 2 = n := ⟨_, rfl⟩
        have HN : Hid ((T : Int) - K - 2 = (n : Int)) := Lib.hid (by omega)
        have hnv : Value.int .i64 ((T : Int) - K - 2) = Value.int .i64 (n : Int) := by rw [HN.out]
        have hKT : (K : Int) + 2 ≤ (T : Int) := by omega
        have hTs : T ≤ 549755813888 + 65535 := by rw [← hT, ← hout, List.length_append, size_len]; omega
        clear hb2 he2 hT hn
        go_upto_region 18 with (fail)
        obtain ⟨K1, hK1⟩ : ∃ K1, K + 1 = K1 := ⟨_, rfl⟩
        have hkv : Value.int .i64 ((K : Int) + 1) = Value.int .i64 (K1 : Int) := by congr 1; omega
        have HK1 := Lib.hid hK1
        have hKl : (K : Int) < (T : Int) := by omega
        have hK1l : (K1 : Int) < (T : Int) := by omega
        obtain ⟨u0, hu0⟩ := hgc K (by omega)
        obtain ⟨u1, hu1⟩ := hgc K1 (by omega)
        have hf0 := hgf K
        have hf1 := hgf K1
        have hgB : B ≠ g := by
          intro e
          have h1 := hgc 0 (by omega)
          subst e
          exact row_u8 HPR.out.buf.own HPR.out.buf.blk (notU8_packer _ _) rfl
        obtain ⟨c1, hc1⟩ : ∃ c, byte ((n : Int) / 256) = c := ⟨_, rfl⟩
        obtain ⟨c2, hc2⟩ : ∃ c, byte (n : Int) = c := ⟨_, rfl⟩
        have hv1 : Value.int .u8 (IntKind.u8.wrap ((n : Int) / 256)) = Value.int .u8 (c1.toNat : Int) := by rw [byte_wrap, hc1]
        have hv2 : Value.int .u8 (IntKind.u8.wrap (n : Int)) = Value.int .u8 (c2.toNat : Int) := by rw [byte_wrap, hc2]
        have HC1 := Lib.hid hc1; have HC2 := Lib.hid hc2
        have hne : K ≠ K1 := by omega
        have hu1' : (w2.setCell ⟨g, K, none⟩ (.int .u8 (c1.toNat : Int))).cell? ⟨g, K1, none⟩ = some u1 := by
          rw [World.cell?_setCell_other _ _ _ _ (by intro e; injection e with _ e _; exact hne e)]; exact hu1
        have HGF := Lib.hid hgf
        have HNE := Lib.hid hne
        have HKL := Lib.hid hKl
        have HK1L := Lib.hid hK1l
        clear hc1 hc2 hK1 hgc hgf hnx hne
        go_region
        clear hk0 hkk0 hu0 hu1 hu1' hf0 hf1
        have HB1 : Buf (w2.setCell ⟨g, K, none⟩ (.int .u8 (c1.toNat : Int))) b0 B (.slice (some ⟨g, 0, none⟩) (out.set K c1).length cap) (.map (some M)) (out.set K c1) := HPR.out.buf.put1 K (by show K < out.length; have := HT.out; have := HKL.out; omega) c1
        have HB2 := HB1.put1 K1 (by rw [List.length_set]; have := HT.out; have := HK1L.out; omega) c2
        have HKK := HK1.out
        subst HKK
        have hE1 := (Eff.refl b0 (fun k => k = B) w2).set hgh hgb (k := K) (v := .int .u8 (c1.toNat : Int))
        have hE2 := hE1.set (heap_setCell_same w2 g K cur 5 (.int .u8 (c1.toNat : Int)) hgh) hgb (k := K + 1) (v := .int .u8 (c2.toNat : Int))
        have hpat : (out.set K c1).set (K + 1) c2 = patch (q.out ++ u.data.toList) K (((q.out ++ u.data.toList).length : Int) - K - 2) := by
          rw [hout, HT.out, HN.out]; unfold patch; rw [HC1.out, HC2.out]
        have HF := Paper.wrote HPR.out HB2 hE2 (by show out.length ≤ _; simp)
        rw [hpat] at HF
        go_end0
        exact ⟨rfl, _, HF.drew, (HER.out.trans (hE2.wider (fun k h => (.inl h : Two B M k)))).trans (Eff.of_drew _ _ _)⟩
end Go.Proofs.YtnamkladeaohoaaGreat.pdata
namespace Go.Proofs.YtnamkladeaohoaaGreat.nameB
open Go.RowKit Go.Proofs.YtnamkladeaohoaaGreat.kit Go.Proofs.YtnamkladeaohoaaGreat.check Go.Proofs.YtnamkladeaohoaaGreat.nspec Go.Proofs.YtnamkladeaohoaaGreat.rsplit Go.Proofs.YtnamkladeaohoaaGreat.low Go.Proofs.YtnamkladeaohoaaGreat.refA Go.Proofs.YtnamkladeaohoaaGreat.refB Go.Proofs.YtnamkladeaohoaaGreat.nameA

set_option maxRecDepth 100000 in
set_option maxHeartbeats 400000 in
theorem lower_any (s : ByteArray) (w : World) (hs : s.size ≤ maxLen) :
    Calls Tryz.prog 160 #[.string s] w fun e w' => e = .returned (.string ⟨(lowL s.data.toList).toArray⟩) ∧ Below w.heap.size w w' := by
  unfold maxLen at hs
  have hconv := Lib.run_convert_string_bytes (P := Tryz.prog) w 9 61 5 s Tryz.underlying9 Tryz.underlying61 Tryz.underlying5
  have hB := bytesWorld_below w 5 s
  have hb0 := bytes_new w 5 s
  generalize grownCap w s.size 0 5 = cap at hconv
  generalize Lib.bytesWorld w 5 s = w1 at hconv hB hb0
  have H0 := Lib.hid hb0; clear hb0
  go_enter Tryz.func160, Tryz.ntmps160
  go_wp2
  clear hconv
  go_loopg [10] (s.size) (fun gas i wr => ∃ k : Nat, k + gas = s.size ∧ i = .int .i64 k ∧ Below w.heap.size w wr ∧ Hid (Bytes wr w.heap.size (lowTo k s.data.toList)))
  case atStart => exact ⟨0, by omega, rfl, hB, by rw [lowTo_zero]; exact H0⟩
  case round =>
    obtain ⟨k, hkg, rfl, hBr, hbr⟩ := hrel
    have hk : k ≤ s.size := by omega
    have HK := Lib.hid hkg; clear hkg
    clear hB H0
    by_cases hlt : k < s.size
    · obtain ⟨c, hc⟩ : ∃ c, s.data.toList[k]? = some c := ⟨_, List.getElem?_eq_getElem (by simpa using hlt)⟩
      obtain ⟨hcell, hfr⟩ := hbr.out k c (by rw [lowTo_at k _ (by simpa using hk)]; exact hc)
      have HC := Lib.hid hc
      clear hc
      obtain ⟨n, hn, hn0, hn1, hup, hlo⟩ : ∃ n : Int, n = (c.toNat : Int) ∧ 0 ≤ n ∧ n < 256 ∧ (65 ≤ n ∧ n ≤ 90 → ((lowB c).toNat : Int) = n + 32) ∧ (¬ (65 ≤ n ∧ n ≤ 90) → lowB c = c) :=
        ⟨_, rfl, by omega, byte_lt c, fun h => up_val c (by omega), fun h => lowB_id c (by omega)⟩
      rw [← hn] at hcell
      have HU := Lib.hid hup; have HL := Lib.hid hlo
      clear hup hlo hn
      by_cases hup : 65 ≤ n ∧ n ≤ 90
      · have hlow := HU.out hup
        have hset := bytes_set hbr.out k (lowB c)
        rw [lowTo_succ k _ c HC.out, hlow] at hset
        have HS := Lib.hid hset; clear hset hlow
        obtain ⟨h1, h2⟩ := hup
        go_wp2
        have hkg := HK.out
        go_roundg (gk - 1)
        case rel => exact ⟨k + 1, by omega, by go_num, hBr.setCell (Nat.le_refl _) _, HS⟩
        case measure => omega
      · have hsk := lowTo_skip k _ c HC.out (HL.out hup)
        have HS := Lib.hid hsk; clear hsk
        by_cases h1 : 65 ≤ n
        · have h2 : ¬ n ≤ 90 := by omega
          clear hup
          go_wp2
          have hkg := HK.out
          go_roundg (gk - 1)
          case rel => exact ⟨k + 1, by omega, by go_num, hBr, by rw [← HS.out]; exact hbr⟩
          case measure => omega
        · clear hup
          go_wp2
          have hkg := HK.out
          go_roundg (gk - 1)
          case rel => exact ⟨k + 1, by omega, by go_num, hBr, by rw [← HS.out]; exact hbr⟩
          case measure => omega
    · have hke : k = s.data.toList.length := by simp; omega
      have hfin := hbr.out
      rw [hke, lowTo_all] at hfin
      have hback := bytes_back (P := Tryz.prog) hfin 61 9 5 cap s.size (by simp [lowL]) Tryz.underlying61 Tryz.underlying5 Tryz.underlying9
      clear hfin
      have HKE := Lib.hid hke; clear hke
      go_wp2
      go_ret
      exact ⟨rfl, hBr⟩

theorem low_of_small (c : UInt8) (h : c.toNat ≤ 63) : lowB c = c := lowB_id c (by omega)
theorem low_put {ls : List Bs} (h : okL ls) : lowL (put ls) = put (ls.map lowL) := by
  induction ls with
  | nil => rfl
  | cons x r ih =>
    obtain ⟨⟨h1, h2⟩, h3⟩ := okL_cons.1 h
    have hn : (UInt8.ofNat x.length).toNat = x.length := nat_of (by omega)
    have := ih h3
    simp only [lowL, put, List.map_cons, List.map_append, List.length_map] at this ⊢
    rw [low_of_small _ (by omega), this]
theorem fold_low {l : Bs} {ls : List Bs} (h : IsN l ls) : foldS l = lowL l := by rw [foldS_yes h, h.1, low_put h.2.1]
theorem equal_low {a b : Bs} {x y : List Bs} (ha : IsN a x) (hb : IsN b y) : equalS a b = decide (lowL a = lowL b) := by
  rw [equalS_eq, split_iff.2 ha, split_iff.2 hb, fold_low ha, fold_low hb]; rfl
theorem equal_no1 {a b : Bs} (h : split a = none) : equalS a b = false := by rw [equalS_eq, h]; rfl
theorem equal_no2 {a b : Bs} (h : split b = none) : equalS a b = false := by rw [equalS_eq, h]; simp

set_option maxRecDepth 100000 in
theorem nfold_any (s : ByteArray) (w : World) (hs : s.size ≤ 1099511627776) :
    Calls Tryz.prog 75 #[.string s] w fun e w' => e = .returned (.string ⟨(foldS s.data.toList).toArray⟩) ∧ Below w.heap.size w w' := by
  rcases isB_or s with ⟨ls, h⟩ | h
  · rw [fold_low h]
    have HK := Lib.hid (chk_yes h); clear h
    go_enter Tryz.func75, Tryz.ntmps75
    go_wp2_with fail
    refine (check_any s _ hs).mono ?_
    rintro e w1 ⟨rfl, hB1⟩
    rw [HK.out]
    go_wp2_with fail
    refine (lower_any s _ (by unfold maxLen; omega)).mono ?_
    rintro e w2 ⟨rfl, hB2⟩
    go_wp2
    go_ret
    exact ⟨rfl, hB1.trans (hB2.mono hB1.size)⟩
  · rw [foldS_no h]
    have HK := Lib.hid (chk_no h); clear h
    go_enter Tryz.func75, Tryz.ntmps75
    go_wp2_with fail
    refine (check_any s _ hs).mono ?_
    rintro e w1 ⟨rfl, hB1⟩
    rw [HK.out]
    go_wp2
    go_ret
    exact ⟨rfl, hB1⟩

set_option maxRecDepth 100000 in
set_option maxHeartbeats 1000000 in
theorem nequal_any (s t : ByteArray) (w : World) (hs : s.size ≤ 1099511627776) (ht : t.size ≤ 1099511627776) :
    Calls Tryz.prog 94 #[.string s, .string t] w fun e w' => e = .returned (.bool (equalS s.data.toList t.data.toList)) ∧ Below w.heap.size w w' := by
  rcases isB_or s with ⟨ls, h⟩ | h
  · have HK := Lib.hid (chk_yes h)
    rcases isB_or t with ⟨ms, h2⟩ | h2
    · rw [equal_low h h2]
      have HK2 := Lib.hid (chk_yes h2); clear h h2
      go_enter Tryz.func94, Tryz.ntmps94
      go_wp2_with fail
      refine (check_any s _ hs).mono ?_
      rintro e w1 ⟨rfl, hB1⟩
      rw [HK.out]
      go_wp2_with fail
      refine (check_any t _ ht).mono ?_
      rintro e w2 ⟨rfl, hB2⟩
      rw [HK2.out]
      have hB12 := hB1.trans (hB2.mono hB1.size)
      go_wp2_with fail
      refine (lower_any s _ (by unfold maxLen; omega)).mono ?_
      rintro e w3 ⟨rfl, hB3⟩
      have hB13 := hB12.trans (hB3.mono hB12.size)
      go_wp2_with fail
      refine (lower_any t _ (by unfold maxLen; omega)).mono ?_
      rintro e w4 ⟨rfl, hB4⟩
      have hB14 := hB13.trans (hB4.mono hB13.size)
      have HBD := Lib.hid (beq_dec (lowL s.data.toList) (lowL t.data.toList))
      go_wp2
      go_ret
      refine ⟨ret_bool ?_, hB14⟩
      first | exact HBD.out | (rw [← HBD.out]; simp [Lib.toList_data])
    · rw [equal_no2 h2]
      have HK2 := Lib.hid (chk_no h2); clear h h2
      go_enter Tryz.func94, Tryz.ntmps94
      go_wp2_with fail
      refine (check_any s _ hs).mono ?_
      rintro e w1 ⟨rfl, hB1⟩
      rw [HK.out]
      go_wp2_with fail
      refine (check_any t _ ht).mono ?_
      rintro e w2 ⟨rfl, hB2⟩
      rw [HK2.out]
      have hB12 := hB1.trans (hB2.mono hB1.size)
      go_wp2
      go_ret
      exact ⟨rfl, hB12⟩
  · rw [equal_no1 h]
    have HK := Lib.hid (chk_no h); clear h
    go_enter Tryz.func94, Tryz.ntmps94
    go_wp2_with fail
    refine (check_any s _ hs).mono ?_
    rintro e w1 ⟨rfl, hB1⟩
    rw [HK.out]
    go_wp2
    go_ret
    exact ⟨rfl, hB1⟩

def withinP (n z : Bs) : Bool := decide (0 ≤ countS z) && equalS (tailS n (countS z)) z
set_option maxRecDepth 100000 in
theorem nwithin_any (s t : ByteArray) (w : World) (hs : s.size ≤ 1099511627776) (ht : t.size ≤ 1099511627776) :
    Calls Tryz.prog 44 #[.string s, .string t] w fun e w' => e = .returned (.bool (withinP s.data.toList t.data.toList)) ∧ Below w.heap.size w w' := by
  unfold withinP
  obtain ⟨C, hC⟩ : ∃ C, countS t.data.toList = C := ⟨_, rfl⟩
  rw [hC]
  have HC := Lib.hid hC; clear hC
  go_enter Tryz.func44, Tryz.ntmps44
  go_wp2_with fail
  refine (ncount_any t _ ht).mono ?_
  rintro e w1 ⟨rfl, hB1⟩
  rw [HC.out]
  by_cases h0 : 0 ≤ C
  · have hd : decide (0 ≤ C) = true := by simpa using h0
    go_wp2_with fail
    refine (ntail_any s C _ hs).mono ?_
    rintro e w2 ⟨rfl, hB2⟩
    have hB12 := hB1.trans (hB2.mono hB1.size)
    have htl := tailS_len s.data.toList C
    go_wp2_with fail
    refine (nequal_any _ t _ (by rw [mk_size]; omega) ht).mono ?_
    rintro e w3 ⟨rfl, hB3⟩
    rw [mk_data]
    go_wp2
    go_ret
    exact ⟨ret_bool (by simp [h0]), hB12.trans (hB3.mono hB12.size)⟩
  · have hd : decide (0 ≤ C) = false := by simpa using h0
    have h1 : C < 0 := by omega
    go_wp2
    go_ret
    exact ⟨ret_bool (by rw [hd]; rfl), hB1⟩

def comF (a b : Bs) : Nat → Bs
  | 0 => []
  | g + 1 => if equalS (tailS a g) (tailS b g) then tailS a g else comF a b g
def commonP (a b : Bs) : Bs := comF a b (min (countS a) (countS b) + 1).toNat
theorem comF_yes {a b : Bs} {g : Nat} {R : Bs} (h : comF a b (g + 1) = R) (he : equalS (tailS a g) (tailS b g) = true) : tailS a g = R := by
  rw [← h]; simp only [comF]; rw [if_pos he]
theorem comF_no {a b : Bs} {g : Nat} {R : Bs} (h : comF a b (g + 1) = R) (he : equalS (tailS a g) (tailS b g) = false) : comF a b g = R := by
  rw [← h]; simp only [comF]; rw [he]; simp
theorem tailS_neg (l : Bs) (k : Int) (h : k < 0) : tailS l k = [] := by
  unfold tailS
  cases split l with
  | none => rfl
  | some ls => simp only; rw [if_neg (by omega)]

set_option maxRecDepth 100000 in
set_option maxHeartbeats 1000000 in
theorem ncommon_any (s t : ByteArray) (w : World) (hs : s.size ≤ 1099511627776) (ht : t.size ≤ 1099511627776) :
    Calls Tryz.prog 134 #[.string s, .string t] w fun e w' => e = .returned (.string ⟨(commonP s.data.toList t.data.toList).toArray⟩) ∧ Below w.heap.size w w' := by
  obtain ⟨R, HR⟩ : ∃ R, Hid (R = commonP s.data.toList t.data.toList) := ⟨_, Lib.hid rfl⟩
  have hCs := countS_bd s.data.toList
  have hCt := countS_bd t.data.toList
  have HC : Hid (comF s.data.toList t.data.toList (min (countS s.data.toList) (countS t.data.toList) + 1).toNat = R) := Lib.hid (by rw [HR.out]; rfl)
  obtain ⟨C, hC⟩ : ∃ C, countS s.data.toList = C := ⟨_, rfl⟩
  obtain ⟨D, hD⟩ : ∃ D, countS t.data.toList = D := ⟨_, rfl⟩
  rw [hC] at hCs HC
  rw [hD] at hCt HC
  have HCC := Lib.hid hC; have HDD := Lib.hid hD; clear hC hD
  obtain ⟨hs1, hs2⟩ := hCs
  obtain ⟨ht1, ht2⟩ := hCt
  go_enter Tryz.func134, Tryz.ntmps134
  go_wp2_with fail
  refine (ncount_any s _ hs).mono ?_
  rintro e w1 ⟨rfl, hB1⟩
  rw [HCC.out]
  go_wp2_with fail
  refine (ncount_any t _ ht).mono ?_
  rintro e w2 ⟨rfl, hB2⟩
  rw [HDD.out]
  have hB12 := hB1.trans (hB2.mono hB1.size)
  clear hB1 hB2
  have hcd : C ≤ D ∨ D < C := by omega
  rcases hcd with hcd | hcd
  all_goals
    go_wp2
    go_loopg [5] ((min C D + 1).toNat) (fun gas kv wr => ∃ (k : Int), kv = .int .i64 k ∧ k + 1 = gas ∧ k ≤ 254 ∧ Below w.heap.size w wr ∧ Hid (comF s.data.toList t.data.toList gas = R))
    case atStart => exact ⟨_, rfl, by omega, by omega, hB12, HC⟩
    case round =>
      obtain ⟨k, rfl, hk, hk254, hB, HW⟩ := hrel
      by_cases hlt : 0 ≤ k
      · obtain ⟨m, rfl⟩ := Int.eq_ofNat_of_zero_le hlt
        obtain rfl : gk = m + 1 := by omega
        clear hk
        go_wp2_with fail
        refine (ntail_any s m _ hs).mono ?_
        rintro e w3 ⟨rfl, hB3⟩
        have hBC := hB.trans (hB3.mono hB.size)
        have htl := tailS_len s.data.toList m
        go_wp2_with fail
        refine (ntail_any t m _ ht).mono ?_
        rintro e w4 ⟨rfl, hB4⟩
        have hBD := hBC.trans (hB4.mono hBC.size)
        have htl2 := tailS_len t.data.toList m
        go_wp2_with fail
        refine (nequal_any _ _ _ (by rw [mk_size]; omega) (by rw [mk_size]; omega)).mono ?_
        rintro e w5 ⟨rfl, hB5⟩
        have hBE := hBD.trans (hB5.mono hBD.size)
        rw [mk_data, mk_data]
        obtain ⟨b, hb⟩ : ∃ b, equalS (tailS s.data.toList m) (tailS t.data.toList m) = b := ⟨_, rfl⟩
        rw [hb]
        have HE := Lib.hid hb; clear hb htl htl2
        cases b
        · have HN := Lib.hid (comF_no HW.out HE.out)
          go_wp2
          go_roundg m
          case rel => exact ⟨_, rfl, by omega, by omega, hBE, HN⟩
          case measure => omega
        · have HY := Lib.hid (comF_yes HW.out HE.out)
          go_wp2_with fail
          refine (ntail_any s m _ hs).mono ?_
          rintro e w6 ⟨rfl, hB6⟩
          have hBF := hBE.trans (hB6.mono hBE.size)
          go_wp2
          go_ret
          exact ⟨ret_str (by rw [HY.out, HR.out]), hBF⟩
      · obtain rfl : gk = 0 := by omega
        have HF : Hid ([] = R) := Lib.hid (by rw [← HW.out]; rfl)
        have hlt' : k < 0 := by omega
        clear hk hlt
        go_wp2_with fail
        refine (ntail_any s k _ hs).mono ?_
        rintro e w6 ⟨rfl, hB6⟩
        rw [tailS_neg _ _ hlt']
        go_wp2
        go_ret
        exact ⟨ret_str (by rw [← HR.out, ← HF.out]), hB.trans (hB6.mono hB.size)⟩

set_option maxRecDepth 100000 in
theorem nparent_any (s : ByteArray) (w : World) (hs : s.size ≤ 1099511627776) :
    Calls Tryz.prog 188 #[.string s] w fun e w' => e = .returned (.string ⟨(parentS s.data.toList).toArray⟩) ∧ Below w.heap.size w w' := by
  have hC := countS_bd s.data.toList
  have hp : tailS s.data.toList (countS s.data.toList - 1) = parentS s.data.toList := by
    rcases isB_or s with ⟨ls, h⟩ | h
    · rw [countS_yes h, tailS_yes h]
      cases ls with
      | nil => rw [parentS_root h, if_neg (by simp)]
      | cons x r =>
        rw [parentS_yes h, if_pos (by simp; omega)]
        have : (x :: r).length - (((x :: r).length : Int) - 1).toNat = 1 := by simp
        rw [this]; rfl
    · rw [tailS_no h, parentS_no h]
  obtain ⟨hc1, hc2⟩ := hC
  obtain ⟨C, hCC⟩ : ∃ C, countS s.data.toList = C := ⟨_, rfl⟩
  rw [hCC] at hp hc1 hc2
  have HC := Lib.hid hCC; clear hCC
  have HP := Lib.hid hp; clear hp
  go_enter Tryz.func188, Tryz.ntmps188
  go_wp2_with fail
  refine (ncount_any s _ hs).mono ?_
  rintro e w1 ⟨rfl, hB1⟩
  rw [HC.out]
  go_wp2_with fail
  refine (ntail_any s (C - 1) _ hs).mono ?_
  rintro e w2 ⟨rfl, hB2⟩
  rw [HP.out]
  go_wp2
  go_ret
  exact ⟨rfl, hB1.trans (hB2.mono hB1.size)⟩
end Go.Proofs.YtnamkladeaohoaaGreat.nameB
namespace Go.Proofs.YtnamkladeaohoaaGreat.refC
open Go.RowKit Go.Proofs.YtnamkladeaohoaaGreat.kit Go.Proofs.YtnamkladeaohoaaGreat.nspec Go.Proofs.YtnamkladeaohoaaGreat.rsplit Go.Proofs.YtnamkladeaohoaaGreat.rput Go.Proofs.YtnamkladeaohoaaGreat.low Go.Proofs.YtnamkladeaohoaaGreat.refA Go.Proofs.YtnamkladeaohoaaGreat.refB Go.Proofs.YtnamkladeaohoaaGreat.nameB

/-- the row of cells that Split has made can be the source of an append -/
theorem SV.src {w : World} {g : Nat} {ls : List Bs} (m : Nat) (hc : ∀ (j : Nat) (x : Bs), ls[j]? = some x → w.cell? ⟨g, j, none⟩ = some (strV x)) :
    ∀ (j : Nat) (u : Value), ((ls.take m).map strV)[j]? = some u → w.cell? ((⟨g, 0, none⟩ : Addr).add j) = some u := by
  intro j u hu
  rw [List.getElem?_map] at hu
  cases hx : (ls.take m)[j]? with
  | none => rw [hx] at hu; simp at hu
  | some x =>
    rw [hx] at hu
    have hx' : ls[j]? = some x := by
      rw [List.getElem?_take] at hx; split at hx
      · exact hx
      · simp at hx
    have : u = strV x := by simpa using hu.symm
    subst this
    rw [addr_add]; exact hc j x hx'
theorem one_str (ls : List Bs) : ∀ u ∈ ls.map strV, u.oneCell' = true := by
  intro u hu; obtain ⟨x, _, rfl⟩ := List.mem_map.1 hu; rfl

def graftS (n f t : Bs) : Bs × Int :=
  match split n, split f, split t with
  | some l, some x, some y => if withinS n f then (if 255 < (put (l.take (l.length - x.length) ++ y)).length then ([], 4) else (put (l.take (l.length - x.length) ++ y), 0)) else ([], 5)
  | _, _, _ => ([], 1)
theorem ret_se {a : Bs} {b : Int} {p : Bs × Int} (h : (a, b) = p) : Ending.returned (.tuple #[.string ⟨a.toArray⟩, .int .i64 b]) = .returned (.tuple #[.string ⟨p.1.toArray⟩, .int .i64 p.2]) := by subst h; rfl

/-- append onto a nil list, then onto that, and Put: the part of Graft behind its tests -/
theorem within_len {n f : Bs} {l x : List Bs} (hn : IsN n l) (hf : IsN f x) (h : withinS n f = true) : x.length ≤ l.length ∧ (l.drop (l.length - x.length)).map lowL = x.map lowL := by
  have key : ∀ (g k : Nat), wF n f g k = true → ∃ j : Nat, equalS (tailS n (j : Int)) f = true := by
    intro g
    induction g with
    | zero => intro k h; simp [wF] at h
    | succ g ih =>
      intro k h
      simp only [wF] at h
      by_cases he : equalS (tailS n (k : Int)) f = true
      · exact ⟨k, he⟩
      · rw [if_neg he] at h; exact ih _ h
  obtain ⟨j, hj⟩ := key _ _ h
  rw [tailS_yes hn] at hj
  by_cases hjl : (0 : Int) ≤ (j : Int) ∧ (j : Int) ≤ (l.length : Int)
  · rw [if_pos hjl, Int.toNat_natCast] at hj
    have hd := isN_put (okL_drop (l.length - j) hn.2.1) (by have := room_drop l (l.length - j); have := isN_room hn; omega)
    have := hj
    unfold equalS at this
    rw [split_iff.2 hd, split_iff.2 hf] at this
    simp only [decide_eq_true_eq] at this
    have hlen := congrArg List.length this
    simp only [List.length_map, List.length_drop] at hlen
    have hjx : j = x.length := by omega
    subst hjx
    exact ⟨by omega, this⟩
  · rw [if_neg hjl] at hj
    have : split [] = none := rfl
    rw [equal_no1 this] at hj; simp at hj

theorem split_gen (s : ByteArray) (w : World) (hs : s.size ≤ 1099511627776) :
    Calls Tryz.prog 141 #[.string s] w fun e w' => ∃ a n c, e = .returned (.tuple #[.slice a n c, .bool (isB s)]) ∧ Below w.heap.size w w' := by
  rcases isB_or s with ⟨ls, h⟩ | h
  · rw [isB_yes h]
    refine (split_yes s ls w h).mono ?_
    rintro e w' ⟨v, rfl, hsv, hB⟩
    obtain ⟨a, c, rfl, _⟩ := hsv.rd
    exact ⟨a, _, c, rfl, hB⟩
  · rw [isB_no h]
    exact split_no s w hs h
theorem graftS_bad {n f t : Bs} (h : ((split n).isSome && (split f).isSome && (split t).isSome) = false) : graftS n f t = ([], 1) := by
  unfold graftS
  cases hn : split n with
  | none => rfl
  | some l => cases hf : split f with
    | none => rfl
    | some x => cases ht : split t with
      | none => rfl
      | some y => rw [hn, hf, ht] at h; simp at h
end Go.Proofs.YtnamkladeaohoaaGreat.refC
namespace Go.Proofs.YtnamkladeaohoaaGreat.nameC
open Go.RowKit Go.Proofs.YtnamkladeaohoaaGreat.kit Go.Proofs.YtnamkladeaohoaaGreat.check Go.Proofs.YtnamkladeaohoaaGreat.nspec Go.Proofs.YtnamkladeaohoaaGreat.rsplit Go.Proofs.YtnamkladeaohoaaGreat.rput Go.Proofs.YtnamkladeaohoaaGreat.low Go.Proofs.YtnamkladeaohoaaGreat.refA Go.Proofs.YtnamkladeaohoaaGreat.refB Go.Proofs.YtnamkladeaohoaaGreat.nameA Go.Proofs.YtnamkladeaohoaaGreat.nameB Go.Proofs.YtnamkladeaohoaaGreat.refC

theorem wF_iff {n z : Bs} : ∀ (g k : Nat), wF n z g k = true ↔ ∃ j, k ≤ j ∧ j < k + g ∧ equalS (tailS n (j : Int)) z = true
  | 0, k => by simp [wF]; intro j h1 h2; omega
  | g + 1, k => by
    simp only [wF]
    by_cases he : equalS (tailS n (k : Int)) z = true
    · rw [if_pos he]; simp only [true_iff]; exact ⟨k, Nat.le_refl _, by omega, he⟩
    · rw [if_neg he, wF_iff g (k + 1)]
      constructor
      · rintro ⟨j, h1, h2, h3⟩; exact ⟨j, by omega, by omega, h3⟩
      · rintro ⟨j, h1, h2, h3⟩
        rcases Nat.lt_or_eq_of_le h1 with h | h
        · exact ⟨j, by omega, by omega, h3⟩
        · subst h; exact absurd h3 he
theorem split_nil : split [] = none := rfl
theorem tail_isN {n : Bs} {l : List Bs} (h : IsN n l) (j : Nat) (hj : j ≤ l.length) : IsN (tailS n (j : Int)) (l.drop (l.length - j)) := by
  rw [tailS_yes h, if_pos ⟨by omega, by omega⟩, Int.toNat_natCast]
  exact isN_put (okL_drop _ h.2.1) (by have := room_drop l (l.length - j); have := isN_room h; omega)
theorem equal_len {a b : Bs} {x y : List Bs} (ha : IsN a x) (hb : IsN b y) (h : equalS a b = true) : x.length = y.length := by
  unfold equalS at h
  rw [split_iff.2 ha, split_iff.2 hb] at h
  simp only [decide_eq_true_eq] at h
  simpa using congrArg List.length h
theorem within_same (n z : Bs) : withinP n z = withinS n z := by
  unfold withinP withinS
  cases hz : split z with
  | none =>
    rw [countS_no hz]
    have : wF n z (countS n + 1).toNat 0 = false := by
      cases h : wF n z (countS n + 1).toNat 0 with
      | false => rfl
      | true =>
        obtain ⟨j, _, _, h3⟩ := (wF_iff _ _).1 h
        rw [equal_no2 hz] at h3; simp at h3
    rw [this]; rfl
  | some zs =>
    have hzs := split_iff.1 hz
    rw [countS_yes hzs]
    rw [decide_eq_true (by omega), Bool.true_and]
    cases hn : split n with
    | none =>
      rw [tailS_no hn, equal_no1 split_nil, countS_no hn]; rfl
    | some l =>
      have hl := split_iff.1 hn
      rw [countS_yes hl]
      rw [Bool.eq_iff_iff, wF_iff]
      constructor
      · intro h
        refine ⟨zs.length, Nat.zero_le _, ?_, h⟩
        by_cases hle : zs.length ≤ l.length
        · omega
        · rw [tailS_yes hl, if_neg (by omega), equal_no1 split_nil] at h; simp at h
      · rintro ⟨j, _, h2, h3⟩
        have hj : j ≤ l.length := by omega
        have := equal_len (tail_isN hl j hj) hzs h3
        rw [List.length_drop] at this
        have e : j = zs.length := by omega
        rw [← e]; exact h3

theorem room_same : ∀ (a b : List Bs), a.map lowL = b.map lowL → room a = room b := by
  intro a b h
  rw [← room_low a, ← room_low b, h]
theorem graft_plain {n f t : Bs} {l x y : List Bs} (hn : IsN n l) (hf : IsN f x) (ht : IsN t y) (hw : withinS n f = true) :
    f.length ≤ n.length ∧ n.take (n.length - f.length) ++ t = put (l.take (l.length - x.length) ++ y) := by
  obtain ⟨h1, h2⟩ := within_len hn hf hw
  have hr := room_same _ _ h2
  have hra : room l = room (l.take (l.length - x.length)) + room (l.drop (l.length - x.length)) := by rw [← room_append, List.take_append_drop]
  have hnl : n.length = room l + 1 := by rw [hn.1, put_length]
  have hfl : f.length = room x + 1 := by rw [hf.1, put_length]
  refine ⟨by omega, ?_⟩
  have hd : n.length - f.length = room (l.take (l.length - x.length)) := by omega
  rw [hd, put_append]
  congr 1
  · rw [hn.1]
    have h : put l = (l.take (l.length - x.length)).flatMap (fun x => UInt8.ofNat x.length :: x) ++ put (l.drop (l.length - x.length)) := by
      rw [← put_append, List.take_append_drop]
    rw [h, ← flat_length]
    exact List.take_left
  · exact ht.1

end Go.Proofs.YtnamkladeaohoaaGreat.nameC
namespace Go.Proofs.YtnamkladeaohoaaGreat.nameL
open Go.RowKit Go.Shelf Go.Proofs.YtnamkladeaohoaaGreat.kit Go.Proofs.YtnamkladeaohoaaGreat.labels Go.Proofs.YtnamkladeaohoaaGreat.check Go.Proofs.YtnamkladeaohoaaGreat.nspec Go.Proofs.YtnamkladeaohoaaGreat.rsplit Go.Proofs.YtnamkladeaohoaaGreat.low Go.Proofs.YtnamkladeaohoaaGreat.refA Go.Proofs.YtnamkladeaohoaaGreat.nameA
attribute [local go_sem] Oper.semAt_some

/-- the labels among the pairs -/
def labsOf (l : List (Nat × ByteArray)) : List Bs := (l.map (fun p => p.2.data.toList)).filter (fun x => !x.isEmpty)
theorem labsOf_pairs : ∀ (k : Nat) (ls : List Bs), okL ls → labsOf (pairsL k ls) = ls
  | k, [], _ => by simp [pairsL, labsOf]
  | k, x :: r, h => by
    obtain ⟨⟨h1, _⟩, h3⟩ := okL_cons.1 h
    have := labsOf_pairs (k + 1 + x.length) r h3
    have hx : x.isEmpty = false := by
      cases x with
      | nil => simp at h1
      | cons a b => rfl
    simp only [labsOf, pairsL, List.map_cons, List.filter_cons, hx] at this ⊢
    rw [this]; rfl
theorem labsOf_yes {N : Nat} {pre : List (Lab N)} {x : Lab N} (h : x.val.2.toList.isEmpty = false) : labsOf (raw (pre ++ [x])) = labsOf (raw pre) ++ [x.val.2.data.toList] := by
  rw [Lib.toList_data] at h
  rw [raw_snoc]; simp [labsOf, h]
theorem labsOf_no {N : Nat} {pre : List (Lab N)} {x : Lab N} (h : x.val.2.toList = []) : labsOf (raw (pre ++ [x])) = labsOf (raw pre) := by
  rw [Lib.toList_data] at h
  rw [raw_snoc]; simp [labsOf, h]
theorem labsOf_len (l : List (Nat × ByteArray)) : (labsOf l).length ≤ l.length := by
  unfold labsOf
  exact Nat.le_trans (List.length_filter_le _ _) (by simp)

/-- an append in a round: the box of the list, the list itself, and all that lay there -/
theorem lab_append {W w3 : World} {n₀ B : Nat} {t e : TypeId} {v v' : Value} {k m : Nat} {xs ys : List Value} {tmp : Obj} (hv : Boxed W B t v) (hrow : W.ownsRow n₀ e 1 v k xs) (hn : n₀ ≤ W.heap.size) (hB : B < n₀)
    (hown' : w3.ownsRow n₀ e 1 v' m ys) (hgrow : (W.alloc tmp).grownBy w3 v.ownBlock) :
    Boxed w3 B t v ∧ Boxed (w3.setCell ⟨B, 0, none⟩ v') B t v' ∧ (w3.setCell ⟨B, 0, none⟩ v').ownsRow n₀ e 1 v' m ys ∧ KeepsOthers W (w3.setCell ⟨B, 0, none⟩ v') ∧ Below B W (w3.setCell ⟨B, 0, none⟩ v') ∧
      (∀ Bs, Bs < n₀ → Bs < W.heap.size → Bs ≠ B → KeepBox Bs W (w3.setCell ⟨B, 0, none⟩ v')) := by
  have hne : ∀ j, j < n₀ → some j ≠ v.ownBlock := fun j hj e => by have := (hrow.lt j e.symm).1; omega
  have hne' : some B ≠ v'.ownBlock := fun e => by have := (hown'.lt B e.symm).1; omega
  have hv1 : Boxed w3 B t v := (hv.alloc tmp).kept hgrow (hne B hB)
  refine ⟨hv1, hv1.set v', hown'.kept (grownBy_setCell' w3 B v') (.inr hne'.symm), ?_, ?_, ?_⟩
  · refine ((KeepsOthers.alloc W tmp).trans (KeepsOthers.of_grownBy hgrow fun j o ej hj => ?_)).trans (KeepsOthers.setCell _ _ _)
    rcases (hrow.alloc tmp).2 with ⟨rfl, _⟩ | ⟨g, cap, cur, rfl, _, hgb, _⟩
    · simp [Value.ownBlock] at ej
    · obtain rfl : g = j := by simpa [Value.ownBlock] using ej
      rw [hgb] at hj; cases hj; rfl
  · refine (((Below.refl B W).alloc (by omega) tmp).grown hgrow (by simp; omega) fun j ej => ?_).setCell (p := ⟨B, 0, none⟩) (Nat.le_refl _) v'
    have := (hrow.lt j ej).1; omega
  · intro Bs h1 h2 h3
    have e1 := Below.heap_alloc W tmp Bs h2
    have e2 := hgrow.block Bs (by simp; omega) (hne Bs h1)
    exact World.cell?_of_block ((Below.heap_setCell w3 ⟨B, 0, none⟩ v' Bs h3).trans (e2.trans e1))

set_option maxRecDepth 100000 in
set_option maxHeartbeats 2000000 in
theorem nlabels_own (s : ByteArray) (ls : List Bs) (w : World) (h : IsN s.data.toList ls) :
    CallsIn Fence.wide 3 Tryz.prog 30 #[.string s] w fun e w' => ∃ v, e = .returned v ∧ (w'.ownsRow w.heap.size 9 1 v ls.length (ls.map strV) ∧ (v = .slice none 0 0 ↔ ls = [])) ∧ Below w.heap.size w w' := by
  obtain ⟨i0, hi, hz0, hz1, hz2⟩ := info_parts infoStr
  have hll := split_len h
  have hs : s.size ≤ 255 := by have := h.2.2; rwa [size_len] at this
  have HP := Lib.hid (pairs_isN h)
  have HO := Lib.hid h.2.1
  have HK := Lib.hid (chk_yes h)
  clear h
  refine callsIn_of_wp_marks Tryz.func30 rfl trivial ?_ rfl
  simp only [Tryz.ntmps30, List.size_toArray, List.length_cons, List.length_nil, Nat.reduceAdd, Nat.reduceSub, Array.replicate_succ, Array.replicate_zero, List.push_toArray, List.append_toArray, List.nil_append, List.cons_append]
  gi_wp2_with fail
  obtain ⟨w0, hw0⟩ : ∃ w0, w.alloc (.cells #[.slice none 0 0] 55) = w0 := ⟨_, rfl⟩
  rw [hw0]
  have hz0' : w0.heap.size = w.heap.size + 1 := by rw [← hw0]; simp
  have hB0 : Below w.heap.size w w0 := by rw [← hw0]; exact (Below.refl _ w).alloc (Nat.le_refl _) _
  have g1 : Boxed w0 w.heap.size 55 (.slice none 0 0) := by rw [← hw0]; exact Boxed.new w _ _
  clear hw0
  refine ⟨trivial, ?_⟩
  refine (callsIn_wide.2 (check_any s _ (by omega))).mono ?_
  rintro e w1 ⟨rfl, hB1⟩
  rw [HK.out]
  have hBw := hB0.trans (hB1.mono hB0.size)
  have hz1' := hB1.size
  have f1 : Boxed w1 w.heap.size 55 (.slice none 0 0) := (hB1.block _ (by omega)).trans g1
  clear g1
  gi_wp2_with fail
  refine ⟨trivial, ?_⟩
  refine (labels_in Fence.wide _ trivial rfl _ _).mono ?_
  rintro e w' ⟨rfl, rfl⟩
  gi_wp2
  obtain ⟨w2, hw2⟩ : ∃ w2, w1.alloc (.cells #[.string s] 9) = w2 := ⟨_, rfl⟩
  rw [hw2]
  have hz : w2.heap.size = w1.heap.size + 1 := by rw [← hw2]; simp
  have hB : Below w.heap.size w w2 := by rw [← hw2]; exact hBw.alloc hBw.size _
  have h1 : Boxed w2 w.heap.size 55 (.slice none 0 0) := by rw [← hw2]; exact f1.alloc _
  have h3 : w2.cell? ⟨w1.heap.size, 0, none⟩ = some (.string s) := by
    rw [← hw2]; exact (Boxed.new w1 9 (.string s)).cell
  clear hw2 f1
  refine wpIn_rangeFunc_ownG rfl (by omega) (gf := 175) (lb := #[.pointer (some ⟨w1.heap.size, 0, none⟩)]) rfl trivial (enters_of Tryz.func175 (by kernel_rfl) rfl)
    (labels_stops Fence.wide _ trivial rfl (by omega) (w1.heap.size) s (by omega) w2 (by omega) h3) (keepBox_t _) (fun W l o o' hl _ _ _ => keepBox_b W l o' (by omega)) (Below.refl _ _) (fun _ => rfl)
    (fun pre W => (∃ v, Boxed W w.heap.size 55 v ∧ W.ownsRow w2.heap.size 9 1 v (labsOf (raw pre)).length ((labsOf (raw pre)).map strV) ∧ (v = .slice none 0 0 ↔ labsOf (raw pre) = [])) ∧ Below w.heap.size w W ∧ w2.heap.size ≤ W.heap.size)
    (fun _ _ _ => False)
    (((holdsRow_own w2.heap.size w.heap.size 55 9 1 (fun pre : List (Lab s.size) => (labsOf (raw pre)).length) (fun pre => (labsOf (raw pre)).map strV) (fun pre v => (v = .slice none 0 0 ↔ labsOf (raw pre) = []))).from _).and ((ownFrom_below (Nat.le_refl _) (by omega)).and (fun _ _ _ _ hs hg _ => Nat.le_trans hs hg.size)))
    (fun c => ownFrom_pure _ _)
    ⟨⟨_, h1, World.ownsRow_nil _ _ _ _, by simp [labsOf, raw]⟩, hB, Nat.le_refl _⟩
    (fun x => { tmps := #[.string s, undef, .slice none 0 0, .pointer (some ⟨w.heap.size, 0, none⟩), undef, .string x.val.2, .string s, .int .i64 0, .bool false, .string s, .func (.func 175) #[] #[.pointer (some ⟨w1.heap.size, 0, none⟩)], .int .i64 (x.val.1 : Int), .string x.val.2, undef, undef, undef, undef, undef, undef, undef], defers := [] }) ?assign ?body ?done ?stop
  case assign =>
    intro l x W K hK
    gi_wp2
    simpa using hK
  case body =>
    rintro l pre x W ⟨⟨v, hb1, hown, hnil⟩, hBl, hW2⟩ hlen
    have hc1 := hb1.cell
    have hf1 := hb1.frozen
    have hlab := labsOf_len (raw pre)
    rw [raw_length] at hlab
    have HNI := Lib.hid hnil; clear hnil
    by_cases he : x.val.2.toList = []
    · have HY := Lib.hid (labsOf_no (pre := pre) he)
      gi_wp2
      exact ⟨KeepsFrom.refl _ _, rfl, ⟨v, hb1, by rw [HY.out]; exact hown, by rw [HY.out]; exact HNI.out⟩, hBl, hW2⟩
    · have he' : x.val.2.toList.isEmpty = false := by simpa using he
      have HY := Lib.hid (labsOf_yes (pre := pre) he')
      clear he
      have hszW := hBl.size
      have hszW2 : w2.heap.size ≤ W.heap.size := hW2
      gi_wp2_with (gi_at_builtin; refine wpListIn_append_own _ rfl _ _ 55 rfl w2.heap.size 9 i0 (.string ByteArray.empty) 1 16 Tryz.underlying55 hi hz0 hz1 hz2 rfl (by decide) _ _ _ rfl (hown.alloc _) ⟨W.heap.size, 0, none⟩ 1 1 [.string x.val.2] rfl rfl (cell_one_new _ _ _) (by simp [Value.oneCell']) (by unfold maxLen; omega) (by omega) (by simp; omega) ?_; intro v' w3 hown' hgrow hnil2; obtain ⟨g', cap', rfl⟩ := ownsRow_succ hown'; obtain ⟨hv1, hv2, hr2, hk2, hb2, hkb⟩ := lab_append hb1 hown hszW2 (by omega) hown' hgrow; have hc1 := hv1.cell; have hf1 := hv1.frozen)
      refine ⟨hk2.from _, hkb _ (by omega) (by omega) (by omega), ⟨_, hv2, ?_, ?_⟩, hBl.trans hb2, Nat.le_trans hW2 hk2.size⟩
      · rw [HY.out]; simpa [strV] using hr2
      · rw [HY.out]; simp
  case done =>
    rintro D ys W hD hS ⟨⟨v, hb1, hown, hnil⟩, hBl, hW2⟩ hK
    have hl : labsOf (raw ys) = ls := by rw [hS, HP.out, labsOf_pairs 0 ls HO.out]
    rw [hl] at hown hnil
    have HNI := Lib.hid hnil; have HS := Lib.hid hS; clear hnil hS hl
    have hc1 := hb1.cell
    gi_wp2
    refine ⟨by simp, .inl ⟨_, _, rfl, run_takeDeferred hK, ?_⟩⟩
    refine ⟨v, by simp [results, Tryz.results30, go_sem], v, rfl, ?_, below_putObj hBl (by omega) _⟩
    have hrow := ownsRow_putObj hown (.deferred none) hK rfl
    refine ⟨⟨hrow.1, hrow.2.imp id ?_⟩, HNI.out⟩
    rintro ⟨g, cap, cur, h4, h5, h6⟩
    exact ⟨g, cap, cur, h4, by omega, h6⟩
  case stop =>
    rintro D c pre W hD hS h hK
    exact h.elim

theorem nlabels_yes (s : ByteArray) (ls : List Bs) (w : World) (h : IsN s.data.toList ls) :
    CallsIn Fence.wide 3 Tryz.prog 30 #[.string s] w fun e w' => ∃ v, e = .returned v ∧ SV w' v w.heap.size ls ∧ Below w.heap.size w w' := by
  refine (nlabels_own s ls w h).mono ?_
  rintro e w' ⟨v, rfl, ⟨h1, h2⟩, hB⟩
  exact ⟨v, rfl, SV.of_own h1 h2, hB⟩

set_option maxRecDepth 100000 in
theorem nlabels_no (s : ByteArray) (w : World) (hs : s.size ≤ 1099511627776) (h : split s.data.toList = none) :
    Calls Tryz.prog 30 #[.string s] w fun e w' => e = .returned (.slice none 0 0) ∧ Below w.heap.size w w' := by
  have HK := Lib.hid (chk_no h)
  clear h
  go_enter Tryz.func30, Tryz.ntmps30
  go_wp2_with fail
  have hB0 : Below w.heap.size w (w.alloc (.cells #[.slice none 0 0] 55)) := (Below.refl _ w).alloc (Nat.le_refl _) _
  refine (check_any s _ hs).mono ?_
  rintro e w1 ⟨rfl, hB1⟩
  rw [HK.out]
  go_wp2
  go_ret
  exact ⟨rfl, hB0.trans (hB1.mono hB0.size)⟩
def labS (l : Bs) : List Bs := match split l with | some ls => ls | none => []
theorem nlabels_any (s : ByteArray) (w : World) (hs : s.size ≤ 1099511627776) :
    Calls Tryz.prog 30 #[.string s] w fun e w' => ∃ v, e = .returned v ∧ SV w' v w.heap.size (labS s.data.toList) ∧ Below w.heap.size w w' := by
  unfold labS
  rcases isB_or s with ⟨ls, h⟩ | h
  · rw [split_iff.2 h]; exact callsIn_wide.1 (nlabels_yes s ls w h)
  · rw [h]
    refine (nlabels_no s w hs h).mono ?_
    rintro e w' ⟨rfl, hB⟩
    exact ⟨_, rfl, .inl ⟨rfl, rfl⟩, hB⟩
theorem nlabels_row (s : ByteArray) (w : World) (hs : s.size ≤ 1099511627776) :
    Calls Tryz.prog 30 #[.string s] w fun e w' => ∃ v, e = .returned v ∧ (w'.ownsRow w.heap.size 9 1 v (labS s.data.toList).length ((labS s.data.toList).map strV) ∧ (v = .slice none 0 0 ↔ labS s.data.toList = [])) ∧ Below w.heap.size w w' := by
  unfold labS
  rcases isB_or s with ⟨ls, h⟩ | h
  · rw [split_iff.2 h]; exact callsIn_wide.1 (nlabels_own s ls w h)
  · rw [h]
    refine (nlabels_no s w hs h).mono ?_
    rintro e w' ⟨rfl, hB⟩
    exact ⟨_, rfl, ⟨⟨rfl, .inl ⟨rfl, rfl⟩⟩, by simp⟩, hB⟩
theorem lab_low {l : Bs} {ls : List Bs} (h : IsN l ls) : IsN (lowL l) (ls.map lowL) := by
  have := nameB.low_put h.2.1
  refine ⟨by rw [h.1, this], okL_low h.2.1, ?_⟩
  have h3 := h.2.2
  simpa [lowL] using h3
end Go.Proofs.YtnamkladeaohoaaGreat.nameL

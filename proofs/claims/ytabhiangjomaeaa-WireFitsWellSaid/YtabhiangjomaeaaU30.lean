/- gazetteersame.TwinMessage: walk. gazetteersame: Whole, Head, WholeMessage on a twin: walks. gazetteersame: Messages on two that read the same: walk. -/
import Derived.Test.YtabhiangjomaeaaU29
import Derived.Test.YtabhiangjomaeaaU25
import Derived.Test.YtabhiangjomaeaaU26
import Derived.Deep.RegionWith
import Derived.Deep.DeepCutAuto
import Derived.Deep.RegionHeld3
namespace Go.Proofs.Ytabhiangjomaeaa.twinM
open Go.RowKit Go.Proofs.Ytabhiangjomaeaa.kit Go.Proofs.Ytabhiangjomaeaa.timed Go.Proofs.Ytabhiangjomaeaa.nspec Go.Proofs.Ytabhiangjomaeaa.coded Go.Proofs.Ytabhiangjomaeaa.wireP Go.Proofs.Ytabhiangjomaeaa.wireM Go.Proofs.Ytabhiangjomaeaa.wpack Go.Proofs.Ytabhiangjomaeaa.rows Go.Proofs.Ytabhiangjomaeaa.same Go.Proofs.Ytabhiangjomaeaa.rpack Go.Proofs.Ytabhiangjomaeaa.putM
set_option linter.unusedVariables false

/-- a list of one's own with two behind its end -/
def TwR (w : World) (base : Nat) (a : Option Addr) (c : Nat) (L : List Rc) : Prop :=
  L.length + 2 ≤ c ∧ c ≤ maxLen ∧ (∃ g, a = some ⟨g, 0, none⟩) ∧ w.ownsRow base 52 5 (.slice a (L.length + 2) c) (L.length + 2) ((L ++ [spareR, spareR]).flatMap Rc.cells)
theorem TwR.move {w w1 : World} {base : Nat} {a : Option Addr} {c : Nat} {L : List Rc} (h : TwR w base a c L) (hk : ∀ (k : Nat) (cur : Array Value), w.heap[k]? = some (Obj.cells cur 52 (0, 0)) → w1.heap[k]? = some (Obj.cells cur 52 (0, 0))) : TwR w1 base a c L :=
  ⟨h.1, h.2.1, h.2.2.1, own_keptG h.2.2.2 hk⟩
theorem TwR.below {w w1 : World} {base : Nat} {a : Option Addr} {c : Nat} {L : List Rc} (h : TwR w base a c L) (hB : Below w.heap.size w w1) : TwR w1 base a c L :=
  h.move (fun k cur hk => (hB.block k (Array.getElem?_eq_some_iff.1 hk).1).trans hk)
theorem TwR.rd {w : World} {base : Nat} {a : Option Addr} {c : Nat} {L : List Rc} (h : TwR w base a c L) : RdC w a 5 (L.map Rc.cells) := by
  obtain ⟨a', c', e, _, _, _, h2⟩ := rdc_own Rc.cells 5 (fun _ => rfl) (by simp) h.2.2.2
  cases e
  rw [List.map_append] at h2
  exact rdc_part h2
/-- a message with lists of its own -/
structure TwM (w : World) (base : Nat) (p : Pl) (m : Mg) : Prop where
  q : w.ownsRow base 50 3 (.slice p.qa m.qs.length p.qc) m.qs.length (m.qs.flatMap Qn.cells)
  n : TwR w base p.na p.nc m.an
  u : TwR w base p.ua p.uc m.au
  r : TwR w base p.ra p.rc m.ar
theorem TwM.move {w w1 : World} {base : Nat} {p : Pl} {m : Mg} (h : TwM w base p m) (hk : ∀ (k : Nat) (o : Obj), w.heap[k]? = some o → (∀ c f, o ≠ .cells c 37 f) → w1.heap[k]? = some o) : TwM w1 base p m := by
  refine ⟨own_keptG h.q (fun k c hc => hk k _ hc ?_), h.n.move (fun k c hc => hk k _ hc ?_), h.u.move (fun k c hc => hk k _ hc ?_), h.r.move (fun k c hc => hk k _ hc ?_)⟩ <;> (intro c' f' e; injection e with _ e2 _; exact absurd e2 (by decide))
theorem TwM.below {w w1 : World} {base : Nat} {p : Pl} {m : Mg} (h : TwM w base p m) (hB : Below w.heap.size w w1) : TwM w1 base p m :=
  h.move (fun k o hk _ => (hB.block k (Array.getElem?_eq_some_iff.1 hk).1).trans hk)
theorem TwM.rd {w : World} {base : Nat} {p : Pl} {m : Mg} (h : TwM w base p m) : RdM w p m := by
  refine ⟨?_, h.n.rd, h.u.rd, h.r.rd⟩
  obtain ⟨a', c', e, _, _, _, h2⟩ := rdc_own Qn.cells 3 (fun _ => rfl) rfl h.q
  cases e; exact h2
theorem own_baseG {w : World} {b base : Nat} {e : TypeId} {size : Nat} {v : Value} {n : Nat} {xs : List Value} (hb : b ≤ base) (h : w.ownsRow base e size v n xs) : w.ownsRow b e size v n xs := by
  refine ⟨h.1, ?_⟩
  rcases h.2 with h1 | ⟨g, cap, cur, h1, h2, h3, h4⟩
  · exact .inl h1
  · exact .inr ⟨g, cap, cur, h1, by omega, h3, h4⟩
theorem twin_at (w0 : World) (a : Option Addr) (c : Nat) (L : List Rc) (hr : RdC w0 a 5 (L.map Rc.cells)) (ha : a = none → L.length = 0 ∧ c = 0) (hl : L.length ≤ 1099511627776) (w : World) (hB : Below w0.heap.size w0 w) :
    Calls Try.prog 42 #[.slice a L.length c] w fun e w' => ∃ g cap, e = .returned (.slice (some ⟨g, 0, none⟩) L.length cap) ∧ TwR w' w0.heap.size (some ⟨g, 0, none⟩) cap L ∧ Below w.heap.size w w' :=
  (twin_any a L.length c L w rfl (hr.below hB rfl) ha hl).mono fun e w' ⟨g, cap, h1, h2, h3, h4, h5⟩ => ⟨g, cap, h1, ⟨h2, h3, ⟨g, rfl⟩, own_baseG hB.size h4⟩, h5⟩
/-- a message's block behind a call -/
theorem boxK {w W w1 : World} {b : Nat} {p : Pl} {m : Mg} {x y z : Nat} (hx : m.an.length = x) (hy : m.au.length = y) (hz : m.ar.length = z) (hM : MsgAt W b p m) (hB : Below w.heap.size w W) (h1 : Below W.heap.size W w1) :
    MsgAt w1 b p m ∧ Below w.heap.size w w1 ∧ b < w1.heap.size ∧ w1.cell? ⟨b, 11, none⟩ = some (.slice p.na x p.nc) ∧ w1.cell? ⟨b, 12, none⟩ = some (.slice p.ua y p.uc) ∧ w1.cell? ⟨b, 13, none⟩ = some (.slice p.ra z p.rc) ∧ w1.frozen? ⟨b, 11, none⟩ = false ∧ w1.frozen? ⟨b, 12, none⟩ = false ∧ w1.frozen? ⟨b, 13, none⟩ = false := by
  have hM1 := hM.below h1 hM.box.lt
  have hf : ∀ j, w1.frozen? ⟨b, j, none⟩ = false := by
    intro j; have h := hM1; unfold MsgAt at h; simp only [World.frozen?, h]; simp
  subst hx; subst hy; subst hz
  exact ⟨hM1, hB.trans (h1.mono hB.size), hM1.box.lt, hM1.box.c11, hM1.box.c12, hM1.box.c13, hf 11, hf 12, hf 13⟩
theorem twin_end {w wD w5 w6 w7 : World} {m : Mg} {a1 na ua ra : Option Addr} {c1 nc uc rcc g1 g2 g3 p1 p2 p3 nq x y z : Nat} {zs : Array Value} (hq : m.qs.length = nq) (hx : m.an.length = x) (hy : m.au.length = y) (hz : m.ar.length = z)
    (hM : MsgAt w7 w.heap.size ⟨a1, c1, na, nc, ua, uc, ra, rcc⟩ m) (hB : Below w.heap.size w w7) (ho : wD.ownsRow w.heap.size 50 3 (.slice a1 nq c1) nq (m.qs.flatMap Qn.cells)) (hzs : wD.heap[w.heap.size + 1]? = some (.cells zs 37 (0, 0)))
    (hb1 : Below wD.heap.size wD w5) (hb2 : Below w5.heap.size w5 w6) (hb3 : Below w6.heap.size w6 w7) (hr1 : TwR w5 w.heap.size (some ⟨g1, 0, none⟩) p1 m.an) (hr2 : TwR w6 w.heap.size (some ⟨g2, 0, none⟩) p2 m.au) (hr3 : TwR w7 w.heap.size (some ⟨g3, 0, none⟩) p3 m.ar) :
    Hid (MsgAt (((w7.setCell ⟨w.heap.size, 11, none⟩ (.slice (some ⟨g1, 0, none⟩) x p1)).setCell ⟨w.heap.size, 12, none⟩ (.slice (some ⟨g2, 0, none⟩) y p2)).setCell ⟨w.heap.size, 13, none⟩ (.slice (some ⟨g3, 0, none⟩) z p3)) w.heap.size ⟨a1, c1, some ⟨g1, 0, none⟩, p1, some ⟨g2, 0, none⟩, p2, some ⟨g3, 0, none⟩, p3⟩ m) ∧
    Hid (TwM (((w7.setCell ⟨w.heap.size, 11, none⟩ (.slice (some ⟨g1, 0, none⟩) x p1)).setCell ⟨w.heap.size, 12, none⟩ (.slice (some ⟨g2, 0, none⟩) y p2)).setCell ⟨w.heap.size, 13, none⟩ (.slice (some ⟨g3, 0, none⟩) z p3)) w.heap.size ⟨a1, c1, some ⟨g1, 0, none⟩, p1, some ⟨g2, 0, none⟩, p2, some ⟨g3, 0, none⟩, p3⟩ m) ∧
    Hid ((((w7.setCell ⟨w.heap.size, 11, none⟩ (.slice (some ⟨g1, 0, none⟩) x p1)).setCell ⟨w.heap.size, 12, none⟩ (.slice (some ⟨g2, 0, none⟩) y p2)).setCell ⟨w.heap.size, 13, none⟩ (.slice (some ⟨g3, 0, none⟩) z p3)).heap[w.heap.size + 1]? = some (.cells zs 37 (0, 0))) ∧
    Hid (Below w.heap.size w (((w7.setCell ⟨w.heap.size, 11, none⟩ (.slice (some ⟨g1, 0, none⟩) x p1)).setCell ⟨w.heap.size, 12, none⟩ (.slice (some ⟨g2, 0, none⟩) y p2)).setCell ⟨w.heap.size, 13, none⟩ (.slice (some ⟨g3, 0, none⟩) z p3))) := by
  have hbD : Below wD.heap.size wD w7 := (hb1.trans (hb2.mono hb1.size)).trans (hb3.mono (Nat.le_trans hb1.size hb2.size))
  have hT7 : TwM w7 w.heap.size ⟨a1, c1, some ⟨g1, 0, none⟩, p1, some ⟨g2, 0, none⟩, p2, some ⟨g3, 0, none⟩, p3⟩ m :=
    ⟨by dsimp only; rw [hq]; exact own_keptG ho (fun k c hk => (hbD.block k (Array.getElem?_eq_some_iff.1 hk).1).trans hk), hr1.below (hb2.trans (hb3.mono hb2.size)), hr2.below hb3, hr3⟩
  have hz7 : w7.heap[w.heap.size + 1]? = some (.cells zs 37 (0, 0)) := (hbD.block _ (Array.getElem?_eq_some_iff.1 hzs).1).trans hzs
  have s1 := heap_setCell_same w7 w.heap.size 11 _ _ (.slice (some ⟨g1, 0, none⟩) x p1) hM
  have s2 := heap_setCell_same _ w.heap.size 12 _ _ (.slice (some ⟨g2, 0, none⟩) y p2) s1
  have s3 := heap_setCell_same _ w.heap.size 13 _ _ (.slice (some ⟨g3, 0, none⟩) z p3) s2
  have hk : ∀ (k : Nat), k ≠ w.heap.size → (((w7.setCell ⟨w.heap.size, 11, none⟩ (.slice (some ⟨g1, 0, none⟩) x p1)).setCell ⟨w.heap.size, 12, none⟩ (.slice (some ⟨g2, 0, none⟩) y p2)).setCell ⟨w.heap.size, 13, none⟩ (.slice (some ⟨g3, 0, none⟩) z p3)).heap[k]? = w7.heap[k]? := by
    intro k hk
    rw [Below.heap_setCell _ _ _ _ hk, Below.heap_setCell _ _ _ _ hk, Below.heap_setCell _ _ _ _ hk]
  refine ⟨Lib.hid ?_, Lib.hid (hT7.move ?_), Lib.hid ((hk _ (by omega)).trans hz7), Lib.hid (((hB.setCell (p := ⟨w.heap.size, 11, none⟩) (Nat.le_refl _) _).setCell (p := ⟨w.heap.size, 12, none⟩) (Nat.le_refl _) _).setCell (p := ⟨w.heap.size, 13, none⟩) (Nat.le_refl _) _)⟩
  · unfold MsgAt; rw [s3]; subst hx; subst hy; subst hz; simp [cellsM]
  · intro k o hko hn
    rw [hk k (by intro e; subst e; unfold MsgAt at hM; rw [hM] at hko; cases hko; exact hn _ _ rfl)]
    exact hko
def zeroM : Array Value := #[.int .i64 0, .bool false, .int .i64 0, .bool false, .bool false, .bool false, .bool false, .bool false, .bool false, .int .i64 0, .slice none 0 0, .slice none 0 0, .slice none 0 0, .slice none 0 0]

set_option maxRecDepth 100000 in
set_option maxHeartbeats 8000000 in
theorem twinM_any (p : Pl) (m : Mg) (w : World) (hm : RdM w p m) (hnil : NilM p m) (hqn : p.qa = none → m.qs.length = 0 ∧ p.qc = 0) (ho : OkM m) :
    Calls Try.prog 17 #[.agg #[.int .i64 m.id, .bool m.rs, .int .i64 m.op, .bool m.aa, .bool m.tc, .bool m.rd, .bool m.ra, .bool m.ad, .bool m.cd, .int .i64 m.rc, .slice p.qa m.qs.length p.qc, .slice p.na m.an.length p.nc, .slice p.ua m.au.length p.uc, .slice p.ra m.ar.length p.rc]] w fun e w' =>
      ∃ p', e = .returned (.agg (cellsM p' m)) ∧ TwM w' w.heap.size p' m ∧ Below w.heap.size w w' := by
  obtain ⟨i0, hi, hz0, hz1, hz2⟩ := info_parts infoQn
  have hbox := BoxM.fresh w 37 _ rfl p m
  have T1 := Lib.hid (twin_at w p.na p.nc m.an hm.n hnil.n ho.nl)
  have T2 := Lib.hid (twin_at w p.ua p.uc m.au hm.u hnil.u ho.ul)
  have T3 := Lib.hid (twin_at w p.ra p.rc m.ar hm.r hnil.r ho.rl)
  have hqs := fun (wx : World) (hB : Below w.heap.size w wx) => cells_rd Qn.cells 3 (by decide) (fun _ => rfl) (hm.q.below hB rfl) p.qc hqn
  have HQS := Lib.hid hqs
  obtain ⟨nq, hnq⟩ : ∃ n, m.qs.length = n := ⟨_, rfl⟩
  obtain ⟨na1, hna⟩ : ∃ n, m.an.length = n := ⟨_, rfl⟩
  obtain ⟨nu1, hnu⟩ : ∃ n, m.au.length = n := ⟨_, rfl⟩
  obtain ⟨nr1, hnr⟩ : ∃ n, m.ar.length = n := ⟨_, rfl⟩
  have hql := ho.ql
  rw [hnq] at hql
  have HNQ := Lib.hid hnq; have HNA := Lib.hid hna; have HNU := Lib.hid hnu; have HNR := Lib.hid hnr
  obtain ⟨qa, qc, na, nc, ua, uc, ra, rcc⟩ := p
  dsimp only at hbox T1 T2 T3 HQS ⊢
  rw [hna] at T1; rw [hnu] at T2; rw [hnr] at T3; rw [hnq] at HQS
  have HM0 : Hid (MsgAt (w.alloc (.cells #[.int .i64 m.id, .bool m.rs, .int .i64 m.op, .bool m.aa, .bool m.tc, .bool m.rd, .bool m.ra, .bool m.ad, .bool m.cd, .int .i64 m.rc, .slice qa m.qs.length qc, .slice na m.an.length nc, .slice ua m.au.length uc, .slice ra m.ar.length rcc] 37)) w.heap.size ⟨qa, qc, na, nc, ua, uc, ra, rcc⟩ m) := Lib.hid (heap_alloc_new _ _)
  rw [hnq, hna, hnu, hnr] at HM0 ⊢
  clear hm hnil hqn ho hqs hbox hnq hna hnu hnr
  go_enter Try.func17, Try.ntmps17
  go_upto_region 1 with (fail)
  have hbel := ((Below.refl w.heap.size w).alloc (Nat.le_refl _) (.cells #[.int .i64 m.id, .bool m.rs, .int .i64 m.op, .bool m.aa, .bool m.tc, .bool m.rd, .bool m.ra, .bool m.ad, .bool m.cd, .int .i64 m.rc, .slice qa nq qc, .slice na na1 nc, .slice ua nu1 uc, .slice ra nr1 rcc] 37)).alloc (by simp) (.cells #[.int .i64 0, .bool false, .int .i64 0, .bool false, .bool false, .bool false, .bool false, .bool false, .bool false, .int .i64 0, .slice none 0 0, .slice none 0 0, .slice none 0 0, .slice none 0 0] 37)
  have hM2 : MsgAt ((w.alloc (.cells #[.int .i64 m.id, .bool m.rs, .int .i64 m.op, .bool m.aa, .bool m.tc, .bool m.rd, .bool m.ra, .bool m.ad, .bool m.cd, .int .i64 m.rc, .slice qa nq qc, .slice na na1 nc, .slice ua nu1 uc, .slice ra nr1 rcc] 37)).alloc (.cells #[.int .i64 0, .bool false, .int .i64 0, .bool false, .bool false, .bool false, .bool false, .bool false, .bool false, .int .i64 0, .slice none 0 0, .slice none 0 0, .slice none 0 0, .slice none 0 0] 37)) w.heap.size ⟨qa, qc, na, nc, ua, uc, ra, rcc⟩ m := HM0.out.below ((Below.refl _ _).alloc (Nat.le_refl _) _) (by simp)
  have hZ2 : ((w.alloc (.cells #[.int .i64 m.id, .bool m.rs, .int .i64 m.op, .bool m.aa, .bool m.tc, .bool m.rd, .bool m.ra, .bool m.ad, .bool m.cd, .int .i64 m.rc, .slice qa nq qc, .slice na na1 nc, .slice ua nu1 uc, .slice ra nr1 rcc] 37)).alloc (.cells #[.int .i64 0, .bool false, .int .i64 0, .bool false, .bool false, .bool false, .bool false, .bool false, .bool false, .int .i64 0, .slice none 0 0, .slice none 0 0, .slice none 0 0, .slice none 0 0] 37)).heap[w.heap.size + 1]? = some (.cells zeroM 37 (0, 0)) := by
    have h := heap_alloc_new (w.alloc (.cells #[.int .i64 m.id, .bool m.rs, .int .i64 m.op, .bool m.aa, .bool m.tc, .bool m.rd, .bool m.ra, .bool m.ad, .bool m.cd, .int .i64 m.rc, .slice qa nq qc, .slice na na1 nc, .slice ua nu1 uc, .slice ra nr1 rcc] 37)) (.cells #[.int .i64 0, .bool false, .int .i64 0, .bool false, .bool false, .bool false, .bool false, .bool false, .bool false, .int .i64 0, .slice none 0 0, .slice none 0 0, .slice none 0 0, .slice none 0 0] 37)
    rw [show (w.alloc (.cells #[.int .i64 m.id, .bool m.rs, .int .i64 m.op, .bool m.aa, .bool m.tc, .bool m.rd, .bool m.ra, .bool m.ad, .bool m.cd, .int .i64 m.rc, .slice qa nq qc, .slice na na1 nc, .slice ua nu1 uc, .slice ra nr1 rcc] 37)).heap.size = w.heap.size + 1 from by simp] at h
    exact h
  have hs2 : ((w.alloc (.cells #[.int .i64 m.id, .bool m.rs, .int .i64 m.op, .bool m.aa, .bool m.tc, .bool m.rd, .bool m.ra, .bool m.ad, .bool m.cd, .int .i64 m.rc, .slice qa nq qc, .slice na na1 nc, .slice ua nu1 uc, .slice ra nr1 rcc] 37)).alloc (.cells #[.int .i64 0, .bool false, .int .i64 0, .bool false, .bool false, .bool false, .bool false, .bool false, .bool false, .int .i64 0, .slice none 0 0, .slice none 0 0, .slice none 0 0, .slice none 0 0] 37)).heap.size = w.heap.size + 2 := by simp
  obtain ⟨wB, hwB⟩ : ∃ wB, (w.alloc (.cells #[.int .i64 m.id, .bool m.rs, .int .i64 m.op, .bool m.aa, .bool m.tc, .bool m.rd, .bool m.ra, .bool m.ad, .bool m.cd, .int .i64 m.rc, .slice qa nq qc, .slice na na1 nc, .slice ua nu1 uc, .slice ra nr1 rcc] 37)).alloc (.cells #[.int .i64 0, .bool false, .int .i64 0, .bool false, .bool false, .bool false, .bool false, .bool false, .bool false, .int .i64 0, .slice none 0 0, .slice none 0 0, .slice none 0 0, .slice none 0 0] 37) = wB := ⟨_, rfl⟩
  rw [hwB] at hbel hM2 hZ2 hs2 ⊢
  have HBEL := Lib.hid hbel; have HM2 := Lib.hid hM2; have HZ2 := Lib.hid hZ2
  have hx := hM2.box
  have b10 := hx.c10
  dsimp only at b10
  rw [HNQ.out] at b10
  have hb := hs2
  have HS2 := Lib.hid hs2
  have hlt : w.heap.size < wB.heap.size := by omega
  clear hx hM2 hZ2 hwB HM0 hb hs2
  go_wp2_with (at_builtin; refine wpList_append_src rfl (.const (.slice none 0 0)) (.tmp 4) 34 rfl w.heap.size 50 i0 _ 3 32 Try.underlying34 hi hz0 hz1 hz2 rfl (by decide) _ 0 [] rfl (World.ownsRow_nil _ _ _ _) qa nq qc (m.qs.flatMap Qn.cells) rfl (by rw [flat_len Qn.cells 3 (fun _ => rfl), HNQ.out]) (HQS.out _ HBEL.out) (one_cells qn_one) (by unfold maxLen; omega) (by omega) (by omega) ?_)
  intro v1 w1 hown1 hgr1
  have hB1 : Below wB.heap.size wB w1 := ⟨hgr1.os, hgr1.tape, hgr1.output, hgr1.size, fun k hk => hgr1.block k hk (by simp [Value.ownBlock])⟩
  have HOW1 : Hid (w1.ownsRow w.heap.size 50 3 v1 nq (m.qs.flatMap Qn.cells)) := Lib.hid (by first | exact hown1 | simpa using hown1)
  have HM3 := Lib.hid (HM2.out.below hB1 hlt)
  have HZ3 : Hid (w1.heap[w.heap.size + 1]? = some (.cells zeroM 37 (0, 0))) := Lib.hid ((hB1.block _ (by have := HS2.out; omega)).trans HZ2.out)
  have HB1 := Lib.hid (HBEL.out.trans (hB1.mono HBEL.out.size))
  have hz1' : w.heap.size + 2 ≤ w1.heap.size := by have := hB1.size; have := HS2.out; omega
  obtain ⟨a1, c1, rfl⟩ : ∃ a1 c1, v1 = .slice a1 nq c1 := by
    obtain ⟨a, c, h, _⟩ := rdc_own Qn.cells 3 (fun _ => rfl) HNQ.out.symm HOW1.out
    exact ⟨a, c, h⟩
  have d10 : w1.cell? ⟨w.heap.size, 10, none⟩ = some (.slice qa nq qc) := by have h := HM3.out.box.c10; dsimp only at h; rw [HNQ.out] at h; exact h
  have f10 : w1.frozen? ⟨w.heap.size, 10, none⟩ = false := by have h := HM3.out; unfold MsgAt at h; simp only [World.frozen?, h]; simp
  have hlt1 : w.heap.size < w1.heap.size := by omega
  clear hown1 hgr1 hB1 b10
  go_upto_region 2 with (fail)
  have HM4 : Hid (MsgAt (w1.setCell ⟨w.heap.size, 10, none⟩ (.slice a1 nq c1)) w.heap.size ⟨a1, c1, na, nc, ua, uc, ra, rcc⟩ m) := Lib.hid (by
    have h := heap_setCell_same w1 w.heap.size 10 _ _ (.slice a1 nq c1) HM3.out
    unfold MsgAt; rw [h]; simp [cellsM, HNQ.out])
  have HZ4 : Hid ((w1.setCell ⟨w.heap.size, 10, none⟩ (.slice a1 nq c1)).heap[w.heap.size + 1]? = some (.cells zeroM 37 (0, 0))) := Lib.hid (by
    rw [Below.heap_setCell _ _ _ _ (by show w.heap.size + 1 ≠ w.heap.size; omega)]; exact HZ3.out)
  have HO4 : Hid ((w1.setCell ⟨w.heap.size, 10, none⟩ (.slice a1 nq c1)).ownsRow w.heap.size 50 3 (.slice a1 nq c1) nq (m.qs.flatMap Qn.cells)) := Lib.hid (own_keptG HOW1.out (fun k cu hk => by
    rw [Below.heap_setCell _ _ _ _ (by show k ≠ w.heap.size; intro e; subst e; have h := HM3.out; unfold MsgAt at h; rw [h] at hk; injection hk with hk; injection hk with _ h2 _; exact absurd h2 (by decide))]; exact hk))
  have HB4 := Lib.hid (HB1.out.setCell (p := ⟨w.heap.size, 10, none⟩) (Nat.le_refl _) (.slice a1 nq c1))
  have hs4 : (w1.setCell ⟨w.heap.size, 10, none⟩ (.slice a1 nq c1)).heap.size = w1.heap.size := by simp
  obtain ⟨wD, hwD⟩ : ∃ wD, w1.setCell ⟨w.heap.size, 10, none⟩ (.slice a1 nq c1) = wD := ⟨_, rfl⟩
  rw [hwD] at HM4 HZ4 HO4 HB4 hs4 ⊢
  have e11 := HM4.out.box.c11; have e12 := HM4.out.box.c12; have e13 := HM4.out.box.c13
  dsimp only at e11 e12 e13
  rw [HNA.out] at e11; rw [HNU.out] at e12; rw [HNR.out] at e13
  have hltD : w.heap.size < wD.heap.size := by omega
  have hBd : Below w.heap.size w wD.drew := HB4.out.drew
  have HO4d : Hid (wD.drew.ownsRow w.heap.size 50 3 (.slice a1 nq c1) nq (m.qs.flatMap Qn.cells)) := Lib.hid HO4.out
  have HZ4d : Hid (wD.drew.heap[w.heap.size + 1]? = some (.cells zeroM 37 (0, 0))) := Lib.hid HZ4.out
  have hMd : MsgAt wD.drew w.heap.size ⟨a1, c1, na, nc, ua, uc, ra, rcc⟩ m := HM4.out
  clear d10 f10 hwD
  go_cut [] (fun wx => ∃ (g1 p1 g2 p2 g3 p3 : Nat), Hid (MsgAt wx w.heap.size ⟨a1, c1, some ⟨g1, 0, none⟩, p1, some ⟨g2, 0, none⟩, p2, some ⟨g3, 0, none⟩, p3⟩ m) ∧ Hid (TwM wx w.heap.size ⟨a1, c1, some ⟨g1, 0, none⟩, p1, some ⟨g2, 0, none⟩, p2, some ⟨g3, 0, none⟩, p3⟩ m) ∧ Hid (wx.heap[w.heap.size + 1]? = some (.cells zeroM 37 (0, 0))) ∧ Hid (Below w.heap.size w wx))
  case first =>
    go_region_with ((first
      | (go_at_call_of 42 (Value.slice na na1 nc); refine (T1.out _ (by assumption)).mono ?_; rintro e w5 ⟨g1, p1, rfl, hr1, hb1⟩; obtain ⟨hm5, hB5, hl5, k11, k12, k13, f11, f12, f13⟩ := boxK HNA.out HNU.out HNR.out (by assumption) (by assumption) hb1)
      | (go_at_call_of 42 (Value.slice ua nu1 uc); refine (T2.out _ (by assumption)).mono ?_; rintro e w6 ⟨g2, p2, rfl, hr2, hb2⟩; obtain ⟨hm6, hB6, hl6, k11, k12, k13, f11, f12, f13⟩ := boxK HNA.out HNU.out HNR.out (by assumption) (by assumption) hb2)
      | (go_at_call_of 42 (Value.slice ra nr1 rcc); refine (T3.out _ (by assumption)).mono ?_; rintro e w7 ⟨g3, p3, rfl, hr3, hb3⟩; obtain ⟨hm7, hB7, hl7, k11, k12, k13, f11, f12, f13⟩ := boxK HNA.out HNU.out HNR.out (by assumption) (by assumption) hb3)))
    all_goals (go_wp2_with fail; go_meet; exact ⟨_, _, _, _, _, _, twin_end HNQ.out HNA.out HNU.out HNR.out hm7 hB7 HO4d.out HZ4d.out hb1 hb2 hb3 hr1 hr2 hr3⟩)
  case rest =>
    obtain ⟨g1, p1, g2, p2, g3, p3, HM5, HT5, HZ5, HB5⟩ := hcut
    obtain ⟨P, hP⟩ : ∃ P : Pl, (⟨a1, c1, some ⟨g1, 0, none⟩, p1, some ⟨g2, 0, none⟩, p2, some ⟨g3, 0, none⟩, p3⟩ : Pl) = P := ⟨_, rfl⟩
    rw [hP] at HM5 HT5
    have hx := HM5.out.box
    have b0 := hx.c0; have b1 := hx.c1; have b2 := hx.c2; have b3 := hx.c3; have b4 := hx.c4; have b5 := hx.c5; have b6 := hx.c6; have b7 := hx.c7; have b8 := hx.c8; have b9 := hx.c9; have b10 := hx.c10; have b11 := hx.c11; have b12 := hx.c12; have b13 := hx.c13
    have hz := HZ5.out
    have y0 : wc.cell? ⟨w.heap.size + 1, 0, none⟩ = some (.int .i64 0) := by simp only [World.cell?, hz]; rfl
    have y1 : wc.cell? ⟨w.heap.size + 1, 1, none⟩ = some (.bool false) := by simp only [World.cell?, hz]; rfl
    have y2 : wc.cell? ⟨w.heap.size + 1, 2, none⟩ = some (.int .i64 0) := by simp only [World.cell?, hz]; rfl
    have y3 : wc.cell? ⟨w.heap.size + 1, 3, none⟩ = some (.bool false) := by simp only [World.cell?, hz]; rfl
    have y4 : wc.cell? ⟨w.heap.size + 1, 4, none⟩ = some (.bool false) := by simp only [World.cell?, hz]; rfl
    have y5 : wc.cell? ⟨w.heap.size + 1, 5, none⟩ = some (.bool false) := by simp only [World.cell?, hz]; rfl
    have y6 : wc.cell? ⟨w.heap.size + 1, 6, none⟩ = some (.bool false) := by simp only [World.cell?, hz]; rfl
    have y7 : wc.cell? ⟨w.heap.size + 1, 7, none⟩ = some (.bool false) := by simp only [World.cell?, hz]; rfl
    have y8 : wc.cell? ⟨w.heap.size + 1, 8, none⟩ = some (.bool false) := by simp only [World.cell?, hz]; rfl
    have y9 : wc.cell? ⟨w.heap.size + 1, 9, none⟩ = some (.int .i64 0) := by simp only [World.cell?, hz]; rfl
    have y10 : wc.cell? ⟨w.heap.size + 1, 10, none⟩ = some (.slice none 0 0) := by simp only [World.cell?, hz]; rfl
    have y11 : wc.cell? ⟨w.heap.size + 1, 11, none⟩ = some (.slice none 0 0) := by simp only [World.cell?, hz]; rfl
    have y12 : wc.cell? ⟨w.heap.size + 1, 12, none⟩ = some (.slice none 0 0) := by simp only [World.cell?, hz]; rfl
    have y13 : wc.cell? ⟨w.heap.size + 1, 13, none⟩ = some (.slice none 0 0) := by simp only [World.cell?, hz]; rfl
    have f : ∀ j, wc.frozen? ⟨w.heap.size + 1, j, none⟩ = false := by intro j; simp only [World.frozen?, hz]; simp
    have f0 := f 0; have f1 := f 1; have f2 := f 2; have f3 := f 3; have f4 := f 4; have f5 := f 5; have f6 := f 6; have f7 := f 7; have f8 := f 8; have f9 := f 9; have f10 := f 10; have f11 := f 11; have f12 := f 12; have f13 := f 13
    have hltc : w.heap.size + 1 < wc.heap.size := (Array.getElem?_eq_some_iff.1 hz).1
    clear hx hz f e11 e12 e13
    go_wp2_with fail
    have hW1 := putM_blk P m HZ5.out (by rfl)
    have hW2 : TwM (putM wc (w.heap.size + 1) P m) w.heap.size P m := HT5.out.move (fun k o hk hn => by
      rw [putM_far P m (by intro e; subst e; rw [HZ5.out] at hk; cases hk; exact hn _ _ rfl)]; exact hk)
    have hW3 := putM_below P m HB5.out (show w.heap.size ≤ w.heap.size + 1 by omega)
    obtain ⟨W, hW⟩ : ∃ W, putM wc (w.heap.size + 1) P m = W := ⟨_, rfl⟩
    rw [hW] at hW1 hW2 hW3
    unfold putM at hW
    rw [hW]
    have hx := hW1.box
    have z0 := hx.c0; have z1 := hx.c1; have z2 := hx.c2; have z3 := hx.c3; have z4 := hx.c4; have z5 := hx.c5; have z6 := hx.c6; have z7 := hx.c7; have z8 := hx.c8; have z9 := hx.c9; have z10 := hx.c10; have z11 := hx.c11; have z12 := hx.c12; have z13 := hx.c13
    have HW2 := Lib.hid hW2; have HW3 := Lib.hid hW3
    clear hW hW1 hW2 hW3 y0 y1 y2 y3 y4 y5 y6 y7 y8 y9 y10 y11 y12 y13
    exact bodyPost_ret (v := .agg (cellsM P m)) (by simp [results, Try.results17, go_sem, cellsM, z0, z1, z2, z3, z4, z5, z6, z7, z8, z9, z10, z11, z12, z13]) rfl ⟨P, rfl, HW2.out, HW3.out⟩
end Go.Proofs.Ytabhiangjomaeaa.twinM
namespace Go.Proofs.Ytabhiangjomaeaa.wholeM
open Go.RowKit Go.Proofs.Ytabhiangjomaeaa.kit Go.Proofs.Ytabhiangjomaeaa.timed Go.Proofs.Ytabhiangjomaeaa.nspec Go.Proofs.Ytabhiangjomaeaa.coded Go.Proofs.Ytabhiangjomaeaa.wireP Go.Proofs.Ytabhiangjomaeaa.wireM Go.Proofs.Ytabhiangjomaeaa.wpack Go.Proofs.Ytabhiangjomaeaa.rows Go.Proofs.Ytabhiangjomaeaa.same Go.Proofs.Ytabhiangjomaeaa.rpack Go.Proofs.Ytabhiangjomaeaa.twinM
set_option linter.unusedVariables false

def Ten (w : World) (g n m : Nat) (S : ByteArray) : Prop :=
  w.cell? ⟨g, n * 5, none⟩ = some (.string S) ∧ w.cell? ⟨g, n * 5 + 1, none⟩ = some (.int .i64 (-77)) ∧ w.cell? ⟨g, n * 5 + 2, none⟩ = some (.int .i64 (-77)) ∧ w.cell? ⟨g, n * 5 + 3, none⟩ = some (.int .i64 (-77)) ∧ w.cell? ⟨g, n * 5 + 4, none⟩ = some (.string S) ∧
  w.cell? ⟨g, m * 5, none⟩ = some (.string S) ∧ w.cell? ⟨g, m * 5 + 1, none⟩ = some (.int .i64 (-77)) ∧ w.cell? ⟨g, m * 5 + 2, none⟩ = some (.int .i64 (-77)) ∧ w.cell? ⟨g, m * 5 + 3, none⟩ = some (.int .i64 (-77)) ∧ w.cell? ⟨g, m * 5 + 4, none⟩ = some (.string S)
theorem ten_of {w : World} {g n cap : Nat} {base : Nat} {L : List Rc} (hn : L.length = n) (h : w.ownsRow base 52 5 (.slice (some ⟨g, 0, none⟩) (n + 2) cap) (n + 2) ((L ++ [spareR, spareR]).flatMap Rc.cells)) : Ten w g n (n + 1) ⟨#[115, 112, 97, 114, 101]⟩ := by
  have hc : ∀ (k i : Nat) (u : Value), (L ++ [spareR, spareR])[k]? = some spareR → spareR.cells[i]? = some u → w.cell? ⟨g, k * 5 + i, none⟩ = some u := by
    intro k i u hk hi
    have h1 := h.cells (g := g) rfl (k * 5 + i) u (flat_at Rc.cells 5 (fun _ => rfl) _ k spareR i u hk hi)
    rw [addr_at, Nat.zero_add] at h1; exact h1
  have e1 : (L ++ [spareR, spareR])[n]? = some spareR := by rw [List.getElem?_append_right (by omega), hn, Nat.sub_self]; rfl
  have e2 : (L ++ [spareR, spareR])[n + 1]? = some spareR := by rw [List.getElem?_append_right (by omega), hn, Nat.add_sub_cancel_left]; rfl
  exact ⟨hc n 0 _ e1 rfl, hc n 1 _ e1 rfl, hc n 2 _ e1 rfl, hc n 3 _ e1 rfl, hc n 4 _ e1 rfl, hc (n + 1) 0 _ e2 rfl, hc (n + 1) 1 _ e2 rfl, hc (n + 1) 2 _ e2 rfl, hc (n + 1) 3 _ e2 rfl, hc (n + 1) 4 _ e2 rfl⟩
theorem Ten.below {w w' : World} {g n m : Nat} {S : ByteArray} (h : Ten w g n m S) (hg : g < w.heap.size) (hB : Below w.heap.size w w') : Ten w' g n m S := by
  have hc : ∀ j, w'.cell? ⟨g, j, none⟩ = w.cell? ⟨g, j, none⟩ := fun j => hB.cell (p := ⟨g, j, none⟩) hg
  obtain ⟨h0, h1, h2, h3, h4, h5, h6, h7, h8, h9⟩ := h
  exact ⟨(hc _).trans h0, (hc _).trans h1, (hc _).trans h2, (hc _).trans h3, (hc _).trans h4, (hc _).trans h5, (hc _).trans h6, (hc _).trans h7, (hc _).trans h8, (hc _).trans h9⟩
theorem ten_keep {w w' : World} {g n m : Nat} {S : ByteArray} (h : Ten w g n m S) (hg : g < w.heap.size) (hB : Below w.heap.size w w') :
    w'.cell? ⟨g, n * 5, none⟩ = some (.string S) ∧ w'.cell? ⟨g, n * 5 + 1, none⟩ = some (.int .i64 (-77)) ∧ w'.cell? ⟨g, n * 5 + 2, none⟩ = some (.int .i64 (-77)) ∧ w'.cell? ⟨g, n * 5 + 3, none⟩ = some (.int .i64 (-77)) ∧ w'.cell? ⟨g, n * 5 + 4, none⟩ = some (.string S) ∧
    w'.cell? ⟨g, m * 5, none⟩ = some (.string S) ∧ w'.cell? ⟨g, m * 5 + 1, none⟩ = some (.int .i64 (-77)) ∧ w'.cell? ⟨g, m * 5 + 2, none⟩ = some (.int .i64 (-77)) ∧ w'.cell? ⟨g, m * 5 + 3, none⟩ = some (.int .i64 (-77)) ∧ w'.cell? ⟨g, m * 5 + 4, none⟩ = some (.string S) ∧ Below w.heap.size w w' := by
  obtain ⟨h0, h1, h2, h3, h4, h5, h6, h7, h8, h9⟩ := h.below hg hB
  exact ⟨h0, h1, h2, h3, h4, h5, h6, h7, h8, h9, hB⟩

set_option maxRecDepth 100000 in
set_option maxHeartbeats 8000000 in
theorem whole_any (a b : Option Addr) (c d base : Nat) (L : List Rc) (w : World) (h : TwR w base a c L) (hy : RdC w b 5 (L.map Rc.cells)) (hl : L.length ≤ 1099511627776) :
    Calls Try.prog 55 #[.slice a L.length c, .slice b L.length d] w fun e w' => e = .returned (.bool true) ∧ Below w.heap.size w w' := by
  have hrd := h.rd
  obtain ⟨hc1, hc2, ⟨g, rfl⟩, how⟩ := h
  have CR := Lib.hid (fun (wx : World) (hB : Below w.heap.size w wx) => records_same (some ⟨g, 0, none⟩) b L.length c d L wx rfl (hrd.below hB rfl) (hy.below hB rfl) hl)
  obtain ⟨g', cap', hv, hg1, hg2, _⟩ := own_at how (by omega)
  cases hv
  have HT0 := Lib.hid (ten_of rfl how)
  have CS := Lib.hid (fun w => spare_any w)
  obtain ⟨S, hS⟩ : ∃ S : ByteArray, (⟨#[115, 112, 97, 114, 101]⟩ : ByteArray) = S := ⟨_, rfl⟩
  rw [hS] at HT0 CS
  obtain ⟨n, hn⟩ : ∃ n, L.length = n := ⟨_, rfl⟩
  rw [hn] at CR HT0 hc1 hl ⊢
  obtain ⟨N1, hN1⟩ : ∃ N1, n + 1 = N1 := ⟨_, rfl⟩
  rw [hN1] at HT0
  have hcm : (c : Int) ≤ 9223372036854775807 := by unfold maxLen at hc2; omega
  have hnc : (n : Int) + 2 ≤ (c : Int) := by omega
  clear hrd hy how hS hn
  go_enter Try.func55, Try.ntmps55
  go_wp2_with fail
  obtain ⟨N2, hN2⟩ : ∃ N2, n + 2 = N2 := ⟨_, rfl⟩
  rw [hN2]
  have i1 : (n : Int) < (N2 : Int) := by omega
  have i2 : (N1 : Int) < (N2 : Int) := by omega
  have hN2b : N2 ≤ 1099511627800 := by omega
  have hv4 : IntKind.i64.wrap (N1 : Int) = (N1 : Int) := IntWalk.i64_in _ (by omega)
  have hv5 : IntKind.i64.wrap (n : Int) = (n : Int) := IntWalk.i64_in _ (by omega)
  have hv3 : IntKind.i64.wrap ((n : Int) + 1) = (N1 : Int) := by rw [IntWalk.i64_in _ (by omega)]; omega
  clear hN1 hN2
  have z1 : (0 : Int) ≤ (N1 : Int) := Int.natCast_nonneg _
  have z2 : (0 : Int) ≤ (n : Int) := Int.natCast_nonneg _
  have hBd : Below w.heap.size w w.drew := (Below.refl _ _).drew
  have hS0 := ten_keep HT0.out hg2 hBd
  go_region_held3 (fun w' => w'.cell? ⟨g, n * 5, none⟩ = some (.string S) ∧ w'.cell? ⟨g, n * 5 + 1, none⟩ = some (.int .i64 (-77)) ∧ w'.cell? ⟨g, n * 5 + 2, none⟩ = some (.int .i64 (-77)) ∧ w'.cell? ⟨g, n * 5 + 3, none⟩ = some (.int .i64 (-77)) ∧ w'.cell? ⟨g, n * 5 + 4, none⟩ = some (.string S) ∧
    w'.cell? ⟨g, N1 * 5, none⟩ = some (.string S) ∧ w'.cell? ⟨g, N1 * 5 + 1, none⟩ = some (.int .i64 (-77)) ∧ w'.cell? ⟨g, N1 * 5 + 2, none⟩ = some (.int .i64 (-77)) ∧ w'.cell? ⟨g, N1 * 5 + 3, none⟩ = some (.int .i64 (-77)) ∧ w'.cell? ⟨g, N1 * 5 + 4, none⟩ = some (.string S) ∧ Below w.heap.size w w') (first | assumption | (refine ⟨?_, ?_, ?_, ?_, ?_, ?_, ?_, ?_, ?_, ?_, ?_⟩ <;> assumption))
    (first
      | (go_at_call 32; refine (CR.out _ (by assumption)).mono ?_; rintro e w' ⟨rfl, hBz⟩; have hBy := Below.trans (by assumption) (hBz.mono (Below.size (by assumption))); have hSz := ten_keep HT0.out hg2 hBy; clear hBz)
      | (go_at_call 88; refine (CS.out _).mono ?_; rintro e w' ⟨rfl, hBz⟩; have hBy := Below.trans (by assumption) (hBz.mono (Below.size (by assumption))); have hSz := ten_keep HT0.out hg2 hBy; clear hBz))
  all_goals (go_wp2_with fail; go_ret; exact ⟨rfl, by assumption⟩)

set_option maxRecDepth 100000 in
set_option maxHeartbeats 4000000 in
theorem head_same (p q : Pl) (m : Mg) (nq na nu nr nq' na' nu' nr' : Nat) (w : World) :
    Calls Try.prog 54 #[.agg #[.int .i64 m.id, .bool m.rs, .int .i64 m.op, .bool m.aa, .bool m.tc, .bool m.rd, .bool m.ra, .bool m.ad, .bool m.cd, .int .i64 m.rc, .slice p.qa nq p.qc, .slice p.na na p.nc, .slice p.ua nu p.uc, .slice p.ra nr p.rc], .agg #[.int .i64 m.id, .bool m.rs, .int .i64 m.op, .bool m.aa, .bool m.tc, .bool m.rd, .bool m.ra, .bool m.ad, .bool m.cd, .int .i64 m.rc, .slice q.qa nq' q.qc, .slice q.na na' q.nc, .slice q.ua nu' q.uc, .slice q.ra nr' q.rc]] w fun e w' => e = .returned (.bool true) ∧ Below w.heap.size w w' := by
  have hB : Hid (Below w.heap.size w ((w.alloc (.cells #[.int .i64 m.id, .bool m.rs, .int .i64 m.op, .bool m.aa, .bool m.tc, .bool m.rd, .bool m.ra, .bool m.ad, .bool m.cd, .int .i64 m.rc, .slice p.qa nq p.qc, .slice p.na na p.nc, .slice p.ua nu p.uc, .slice p.ra nr p.rc] 37)).alloc (.cells #[.int .i64 m.id, .bool m.rs, .int .i64 m.op, .bool m.aa, .bool m.tc, .bool m.rd, .bool m.ra, .bool m.ad, .bool m.cd, .int .i64 m.rc, .slice q.qa nq' q.qc, .slice q.na na' q.nc, .slice q.ua nu' q.uc, .slice q.ra nr' q.rc] 37))) := Lib.hid (((Below.refl _ _).alloc (Nat.le_refl _) _).alloc (by simp) _)
  go_enter Try.func54, Try.ntmps54
  go_wp2_with fail
  go_ret
  exact ⟨rfl, hB.out⟩

theorem msg_cells {w : World} {b : Nat} {p : Pl} {m : Mg} {w' : World} (h : MsgAt w b p m) (hB : Below w.heap.size w w') : MsgAt w' b p m := h.below hB h.box.lt
set_option maxRecDepth 100000 in
set_option maxHeartbeats 4000000 in
theorem wholeM_any (P p : Pl) (m : Mg) (base : Nat) (w : World) (h : TwM w base P m) (hr : RdM w p m) (ho : OkM m) :
    Calls Try.prog 20 #[.agg #[.int .i64 m.id, .bool m.rs, .int .i64 m.op, .bool m.aa, .bool m.tc, .bool m.rd, .bool m.ra, .bool m.ad, .bool m.cd, .int .i64 m.rc, .slice P.qa m.qs.length P.qc, .slice P.na m.an.length P.nc, .slice P.ua m.au.length P.uc, .slice P.ra m.ar.length P.rc], .agg #[.int .i64 m.id, .bool m.rs, .int .i64 m.op, .bool m.aa, .bool m.tc, .bool m.rd, .bool m.ra, .bool m.ad, .bool m.cd, .int .i64 m.rc, .slice p.qa m.qs.length p.qc, .slice p.na m.an.length p.nc, .slice p.ua m.au.length p.uc, .slice p.ra m.ar.length p.rc]] w fun e w' => e = .returned (.bool true) ∧ Below w.heap.size w w' := by
  have CH := Lib.hid (fun w => head_same P p m m.qs.length m.an.length m.au.length m.ar.length m.qs.length m.an.length m.au.length m.ar.length w)
  have CQ := Lib.hid (fun (wx : World) (hB : Below w.heap.size w wx) => questions_same P.qa p.qa m.qs.length P.qc p.qc m.qs wx rfl (h.rd.q.below hB rfl) (hr.q.below hB rfl) ho.ql)
  have W1 := Lib.hid (fun (wx : World) (hB : Below w.heap.size w wx) => whole_any P.na p.na P.nc p.nc base m.an wx (h.n.below hB) (hr.n.below hB rfl) ho.nl)
  have W2 := Lib.hid (fun (wx : World) (hB : Below w.heap.size w wx) => whole_any P.ua p.ua P.uc p.uc base m.au wx (h.u.below hB) (hr.u.below hB rfl) ho.ul)
  have W3 := Lib.hid (fun (wx : World) (hB : Below w.heap.size w wx) => whole_any P.ra p.ra P.rc p.rc base m.ar wx (h.r.below hB) (hr.r.below hB rfl) ho.rl)
  have hm1 : MsgAt ((w.alloc (.cells #[.int .i64 m.id, .bool m.rs, .int .i64 m.op, .bool m.aa, .bool m.tc, .bool m.rd, .bool m.ra, .bool m.ad, .bool m.cd, .int .i64 m.rc, .slice P.qa m.qs.length P.qc, .slice P.na m.an.length P.nc, .slice P.ua m.au.length P.uc, .slice P.ra m.ar.length P.rc] 37)).alloc (.cells #[.int .i64 m.id, .bool m.rs, .int .i64 m.op, .bool m.aa, .bool m.tc, .bool m.rd, .bool m.ra, .bool m.ad, .bool m.cd, .int .i64 m.rc, .slice p.qa m.qs.length p.qc, .slice p.na m.an.length p.nc, .slice p.ua m.au.length p.uc, .slice p.ra m.ar.length p.rc] 37)) w.heap.size P m :=
    msg_cells (w := w.alloc (.cells #[.int .i64 m.id, .bool m.rs, .int .i64 m.op, .bool m.aa, .bool m.tc, .bool m.rd, .bool m.ra, .bool m.ad, .bool m.cd, .int .i64 m.rc, .slice P.qa m.qs.length P.qc, .slice P.na m.an.length P.nc, .slice P.ua m.au.length P.uc, .slice P.ra m.ar.length P.rc] 37)) (heap_alloc_new _ _) ((Below.refl _ _).alloc (Nat.le_refl _) _)
  have hm2 : MsgAt ((w.alloc (.cells #[.int .i64 m.id, .bool m.rs, .int .i64 m.op, .bool m.aa, .bool m.tc, .bool m.rd, .bool m.ra, .bool m.ad, .bool m.cd, .int .i64 m.rc, .slice P.qa m.qs.length P.qc, .slice P.na m.an.length P.nc, .slice P.ua m.au.length P.uc, .slice P.ra m.ar.length P.rc] 37)).alloc (.cells #[.int .i64 m.id, .bool m.rs, .int .i64 m.op, .bool m.aa, .bool m.tc, .bool m.rd, .bool m.ra, .bool m.ad, .bool m.cd, .int .i64 m.rc, .slice p.qa m.qs.length p.qc, .slice p.na m.an.length p.nc, .slice p.ua m.au.length p.uc, .slice p.ra m.ar.length p.rc] 37)) (w.heap.size + 1) p m := by
    have h := heap_alloc_new (w.alloc (.cells #[.int .i64 m.id, .bool m.rs, .int .i64 m.op, .bool m.aa, .bool m.tc, .bool m.rd, .bool m.ra, .bool m.ad, .bool m.cd, .int .i64 m.rc, .slice P.qa m.qs.length P.qc, .slice P.na m.an.length P.nc, .slice P.ua m.au.length P.uc, .slice P.ra m.ar.length P.rc] 37)) (.cells #[.int .i64 m.id, .bool m.rs, .int .i64 m.op, .bool m.aa, .bool m.tc, .bool m.rd, .bool m.ra, .bool m.ad, .bool m.cd, .int .i64 m.rc, .slice p.qa m.qs.length p.qc, .slice p.na m.an.length p.nc, .slice p.ua m.au.length p.uc, .slice p.ra m.ar.length p.rc] 37)
    rw [show (w.alloc (.cells #[.int .i64 m.id, .bool m.rs, .int .i64 m.op, .bool m.aa, .bool m.tc, .bool m.rd, .bool m.ra, .bool m.ad, .bool m.cd, .int .i64 m.rc, .slice P.qa m.qs.length P.qc, .slice P.na m.an.length P.nc, .slice P.ua m.au.length P.uc, .slice P.ra m.ar.length P.rc] 37)).heap.size = w.heap.size + 1 from by simp] at h
    exact h
  have hbel := ((Below.refl w.heap.size w).alloc (Nat.le_refl _) (.cells #[.int .i64 m.id, .bool m.rs, .int .i64 m.op, .bool m.aa, .bool m.tc, .bool m.rd, .bool m.ra, .bool m.ad, .bool m.cd, .int .i64 m.rc, .slice P.qa m.qs.length P.qc, .slice P.na m.an.length P.nc, .slice P.ua m.au.length P.uc, .slice P.ra m.ar.length P.rc] 37)).alloc (by simp) (.cells #[.int .i64 m.id, .bool m.rs, .int .i64 m.op, .bool m.aa, .bool m.tc, .bool m.rd, .bool m.ra, .bool m.ad, .bool m.cd, .int .i64 m.rc, .slice p.qa m.qs.length p.qc, .slice p.na m.an.length p.nc, .slice p.ua m.au.length p.uc, .slice p.ra m.ar.length p.rc] 37)
  have HM1 := Lib.hid hm1; have HM2 := Lib.hid hm2; have HB0 := Lib.hid hbel
  clear h hr ho hm1 hm2 hbel
  go_enter Try.func20, Try.ntmps20
  go_wp2_with fail
  refine (CH.out _).mono ?_
  rintro e w1 ⟨rfl, hB1⟩
  have M1 := Lib.hid (msg_cells HM1.out hB1); have M2 := Lib.hid (msg_cells HM2.out hB1)
  have B1 := Lib.hid (HB0.out.trans (hB1.mono HB0.out.size))
  have b10 := M1.out.box.c10; have c10 := M2.out.box.c10
  clear hB1
  go_wp2_with fail
  refine (CQ.out _ B1.out).mono ?_
  rintro e w2 ⟨rfl, hB2⟩
  have M3 := Lib.hid (msg_cells M1.out hB2); have M4 := Lib.hid (msg_cells M2.out hB2)
  have B2 := Lib.hid (B1.out.trans (hB2.mono B1.out.size))
  have b11 := M3.out.box.c11; have c11 := M4.out.box.c11
  clear hB2 b10 c10
  go_wp2_with fail
  refine (W1.out _ B2.out).mono ?_
  rintro e w3 ⟨rfl, hB3⟩
  have M5 := Lib.hid (msg_cells M3.out hB3); have M6 := Lib.hid (msg_cells M4.out hB3)
  have B3 := Lib.hid (B2.out.trans (hB3.mono B2.out.size))
  have b12 := M5.out.box.c12; have c12 := M6.out.box.c12
  clear hB3 b11 c11
  go_wp2_with fail
  refine (W2.out _ B3.out).mono ?_
  rintro e w4 ⟨rfl, hB4⟩
  have M7 := Lib.hid (msg_cells M5.out hB4); have M8 := Lib.hid (msg_cells M6.out hB4)
  have B4 := Lib.hid (B3.out.trans (hB4.mono B3.out.size))
  have b13 := M7.out.box.c13; have c13 := M8.out.box.c13
  clear hB4 b12 c12
  go_wp2_with fail
  refine (W3.out _ B4.out).mono ?_
  rintro e w5 ⟨rfl, hB5⟩
  have B5 := Lib.hid (B4.out.trans (hB5.mono B4.out.size))
  clear hB5 b13 c13
  go_wp2_with fail
  go_ret
  exact ⟨rfl, B5.out⟩
end Go.Proofs.Ytabhiangjomaeaa.wholeM
namespace Go.Proofs.Ytabhiangjomaeaa.sameM
open Go.RowKit Go.Proofs.Ytabhiangjomaeaa.kit Go.Proofs.Ytabhiangjomaeaa.timed Go.Proofs.Ytabhiangjomaeaa.nspec Go.Proofs.Ytabhiangjomaeaa.coded Go.Proofs.Ytabhiangjomaeaa.wireP Go.Proofs.Ytabhiangjomaeaa.wireM Go.Proofs.Ytabhiangjomaeaa.wpack Go.Proofs.Ytabhiangjomaeaa.rows Go.Proofs.Ytabhiangjomaeaa.same Go.Proofs.Ytabhiangjomaeaa.rpack Go.Proofs.Ytabhiangjomaeaa.twinM Go.Proofs.Ytabhiangjomaeaa.wholeM
set_option linter.unusedVariables false

/-- not too many of anything -/
structure Few (m : Mg) : Prop where
  ql : m.qs.length ≤ 1099511627776
  nl : m.an.length ≤ 1099511627776
  ul : m.au.length ≤ 1099511627776
  rl : m.ar.length ≤ 1099511627776
theorem few_checked {m : Mg} (h : checkB m = true) : Few m := by
  simp only [checkB, Bool.and_eq_true] at h
  have := of_decide_eq_true h.2.2.2.1
  exact ⟨by omega, by omega, by omega, by omega⟩
set_option maxRecDepth 100000 in
set_option maxHeartbeats 4000000 in
theorem messages_same (P p : Pl) (m : Mg) (w : World) (h : RdM w P m) (hr : RdM w p m) (ho : Few m) :
    Calls Try.prog 28 #[.agg #[.int .i64 m.id, .bool m.rs, .int .i64 m.op, .bool m.aa, .bool m.tc, .bool m.rd, .bool m.ra, .bool m.ad, .bool m.cd, .int .i64 m.rc, .slice P.qa m.qs.length P.qc, .slice P.na m.an.length P.nc, .slice P.ua m.au.length P.uc, .slice P.ra m.ar.length P.rc], .agg #[.int .i64 m.id, .bool m.rs, .int .i64 m.op, .bool m.aa, .bool m.tc, .bool m.rd, .bool m.ra, .bool m.ad, .bool m.cd, .int .i64 m.rc, .slice p.qa m.qs.length p.qc, .slice p.na m.an.length p.nc, .slice p.ua m.au.length p.uc, .slice p.ra m.ar.length p.rc]] w fun e w' => e = .returned (.bool true) ∧ Below w.heap.size w w' := by
  have CH := Lib.hid (fun w => head_same P p m m.qs.length m.an.length m.au.length m.ar.length m.qs.length m.an.length m.au.length m.ar.length w)
  have CQ := Lib.hid (fun (wx : World) (hB : Below w.heap.size w wx) => questions_same P.qa p.qa m.qs.length P.qc p.qc m.qs wx rfl (h.q.below hB rfl) (hr.q.below hB rfl) ho.ql)
  have W1 := Lib.hid (fun (wx : World) (hB : Below w.heap.size w wx) => records_same P.na p.na m.an.length P.nc p.nc m.an wx rfl (h.n.below hB rfl) (hr.n.below hB rfl) ho.nl)
  have W2 := Lib.hid (fun (wx : World) (hB : Below w.heap.size w wx) => records_same P.ua p.ua m.au.length P.uc p.uc m.au wx rfl (h.u.below hB rfl) (hr.u.below hB rfl) ho.ul)
  have W3 := Lib.hid (fun (wx : World) (hB : Below w.heap.size w wx) => records_same P.ra p.ra m.ar.length P.rc p.rc m.ar wx rfl (h.r.below hB rfl) (hr.r.below hB rfl) ho.rl)
  have hm1 : MsgAt ((w.alloc (.cells #[.int .i64 m.id, .bool m.rs, .int .i64 m.op, .bool m.aa, .bool m.tc, .bool m.rd, .bool m.ra, .bool m.ad, .bool m.cd, .int .i64 m.rc, .slice P.qa m.qs.length P.qc, .slice P.na m.an.length P.nc, .slice P.ua m.au.length P.uc, .slice P.ra m.ar.length P.rc] 37)).alloc (.cells #[.int .i64 m.id, .bool m.rs, .int .i64 m.op, .bool m.aa, .bool m.tc, .bool m.rd, .bool m.ra, .bool m.ad, .bool m.cd, .int .i64 m.rc, .slice p.qa m.qs.length p.qc, .slice p.na m.an.length p.nc, .slice p.ua m.au.length p.uc, .slice p.ra m.ar.length p.rc] 37)) w.heap.size P m :=
    msg_cells (w := w.alloc (.cells #[.int .i64 m.id, .bool m.rs, .int .i64 m.op, .bool m.aa, .bool m.tc, .bool m.rd, .bool m.ra, .bool m.ad, .bool m.cd, .int .i64 m.rc, .slice P.qa m.qs.length P.qc, .slice P.na m.an.length P.nc, .slice P.ua m.au.length P.uc, .slice P.ra m.ar.length P.rc] 37)) (heap_alloc_new _ _) ((Below.refl _ _).alloc (Nat.le_refl _) _)
  have hm2 : MsgAt ((w.alloc (.cells #[.int .i64 m.id, .bool m.rs, .int .i64 m.op, .bool m.aa, .bool m.tc, .bool m.rd, .bool m.ra, .bool m.ad, .bool m.cd, .int .i64 m.rc, .slice P.qa m.qs.length P.qc, .slice P.na m.an.length P.nc, .slice P.ua m.au.length P.uc, .slice P.ra m.ar.length P.rc] 37)).alloc (.cells #[.int .i64 m.id, .bool m.rs, .int .i64 m.op, .bool m.aa, .bool m.tc, .bool m.rd, .bool m.ra, .bool m.ad, .bool m.cd, .int .i64 m.rc, .slice p.qa m.qs.length p.qc, .slice p.na m.an.length p.nc, .slice p.ua m.au.length p.uc, .slice p.ra m.ar.length p.rc] 37)) (w.heap.size + 1) p m := by
    have h := heap_alloc_new (w.alloc (.cells #[.int .i64 m.id, .bool m.rs, .int .i64 m.op, .bool m.aa, .bool m.tc, .bool m.rd, .bool m.ra, .bool m.ad, .bool m.cd, .int .i64 m.rc, .slice P.qa m.qs.length P.qc, .slice P.na m.an.length P.nc, .slice P.ua m.au.length P.uc, .slice P.ra m.ar.length P.rc] 37)) (.cells #[.int .i64 m.id, .bool m.rs, .int .i64 m.op, .bool m.aa, .bool m.tc, .bool m.rd, .bool m.ra, .bool m.ad, .bool m.cd, .int .i64 m.rc, .slice p.qa m.qs.length p.qc, .slice p.na m.an.length p.nc, .slice p.ua m.au.length p.uc, .slice p.ra m.ar.length p.rc] 37)
    rw [show (w.alloc (.cells #[.int .i64 m.id, .bool m.rs, .int .i64 m.op, .bool m.aa, .bool m.tc, .bool m.rd, .bool m.ra, .bool m.ad, .bool m.cd, .int .i64 m.rc, .slice P.qa m.qs.length P.qc, .slice P.na m.an.length P.nc, .slice P.ua m.au.length P.uc, .slice P.ra m.ar.length P.rc] 37)).heap.size = w.heap.size + 1 from by simp] at h
    exact h
  have hbel := ((Below.refl w.heap.size w).alloc (Nat.le_refl _) (.cells #[.int .i64 m.id, .bool m.rs, .int .i64 m.op, .bool m.aa, .bool m.tc, .bool m.rd, .bool m.ra, .bool m.ad, .bool m.cd, .int .i64 m.rc, .slice P.qa m.qs.length P.qc, .slice P.na m.an.length P.nc, .slice P.ua m.au.length P.uc, .slice P.ra m.ar.length P.rc] 37)).alloc (by simp) (.cells #[.int .i64 m.id, .bool m.rs, .int .i64 m.op, .bool m.aa, .bool m.tc, .bool m.rd, .bool m.ra, .bool m.ad, .bool m.cd, .int .i64 m.rc, .slice p.qa m.qs.length p.qc, .slice p.na m.an.length p.nc, .slice p.ua m.au.length p.uc, .slice p.ra m.ar.length p.rc] 37)
  have HM1 := Lib.hid hm1; have HM2 := Lib.hid hm2; have HB0 := Lib.hid hbel
  clear h hr ho hm1 hm2 hbel
  go_enter Try.func28, Try.ntmps28
  go_wp2_with fail
  refine (CH.out _).mono ?_
  rintro e w1 ⟨rfl, hB1⟩
  have M1 := Lib.hid (msg_cells HM1.out hB1); have M2 := Lib.hid (msg_cells HM2.out hB1)
  have B1 := Lib.hid (HB0.out.trans (hB1.mono HB0.out.size))
  have b10 := M1.out.box.c10; have c10 := M2.out.box.c10
  clear hB1
  go_wp2_with fail
  refine (CQ.out _ B1.out).mono ?_
  rintro e w2 ⟨rfl, hB2⟩
  have M3 := Lib.hid (msg_cells M1.out hB2); have M4 := Lib.hid (msg_cells M2.out hB2)
  have B2 := Lib.hid (B1.out.trans (hB2.mono B1.out.size))
  have b11 := M3.out.box.c11; have c11 := M4.out.box.c11
  clear hB2 b10 c10
  go_wp2_with fail
  refine (W1.out _ B2.out).mono ?_
  rintro e w3 ⟨rfl, hB3⟩
  have M5 := Lib.hid (msg_cells M3.out hB3); have M6 := Lib.hid (msg_cells M4.out hB3)
  have B3 := Lib.hid (B2.out.trans (hB3.mono B2.out.size))
  have b12 := M5.out.box.c12; have c12 := M6.out.box.c12
  clear hB3 b11 c11
  go_wp2_with fail
  refine (W2.out _ B3.out).mono ?_
  rintro e w4 ⟨rfl, hB4⟩
  have M7 := Lib.hid (msg_cells M5.out hB4); have M8 := Lib.hid (msg_cells M6.out hB4)
  have B4 := Lib.hid (B3.out.trans (hB4.mono B3.out.size))
  have b13 := M7.out.box.c13; have c13 := M8.out.box.c13
  clear hB4 b12 c12
  go_wp2_with fail
  refine (W3.out _ B4.out).mono ?_
  rintro e w5 ⟨rfl, hB5⟩
  have B5 := Lib.hid (B4.out.trans (hB5.mono B4.out.size))
  clear hB5 b13 c13
  go_wp2_with fail
  go_ret
  exact ⟨rfl, B5.out⟩
end Go.Proofs.Ytabhiangjomaeaa.sameM

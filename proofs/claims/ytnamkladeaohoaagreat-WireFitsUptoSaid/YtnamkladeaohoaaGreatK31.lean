/- gazetteersame.MarkMessage: walk. -/
import Derived.Test.YtnamkladeaohoaaGreatK25
import Derived.Deep.AppendLies
import Derived.Deep.QuietTactic
import Derived.BigQuiet
import Derived.Deep.MidRow
import Derived.Deep.WholeRow
import Derived.Laws.Tables
import Derived.Laws.CopyOwn
import Derived.Laws.CopyRow
namespace Go.Proofs.YtnamkladeaohoaaGreat.mark
open Go.RowKit Go.Proofs.YtnamkladeaohoaaGreat.kit Go.Proofs.YtnamkladeaohoaaGreat.timed Go.Proofs.YtnamkladeaohoaaGreat.nspec Go.Proofs.YtnamkladeaohoaaGreat.wireP Go.Proofs.YtnamkladeaohoaaGreat.wireM Go.Proofs.YtnamkladeaohoaaGreat.wireC Go.Proofs.YtnamkladeaohoaaGreat.wpack Go.Proofs.YtnamkladeaohoaaGreat.rows Go.Proofs.YtnamkladeaohoaaGreat.putM Go.Proofs.YtnamkladeaohoaaGreat.ust Go.Proofs.YtnamkladeaohoaaGreat.markP
set_option linter.unusedVariables false

theorem store_rc (wr : World) (x y : Rc) : Sem.run Tryz.prog (storeCells ⟨wr.heap.size, 0, none⟩ x.cells) (wr.alloc (.cells y.cells.toArray 43)) = .ok () (wr.alloc (.cells x.cells.toArray 43)) := by
  have e := run_storeCells_at (P := Tryz.prog) wr.heap.size 0 43 x.cells 0 y.cells.toArray (wr.alloc (.cells y.cells.toArray 43)) (heap_alloc_new _ _) (by simp [Rc.cells]) (by intro v hv; simp [Rc.cells] at hv; rcases hv with rfl | rfl | rfl | rfl | rfl <;> rfl)
  rw [← World.setRow_alloc_new wr y.cells.toArray x.cells.toArray]
  simpa [Rc.cells] using e
theorem heap_cell {w : World} {o : Obj} {a : Addr} {v : Value} (h : w.cell? a = some v) : (w.alloc o).cell? a = some v := Lib.cell?_alloc_some _ h
theorem there3 {w : World} {g o : Nat} (h : w.there g o 3) : ∃ a b c, w.cell? ⟨g, o, none⟩ = some a ∧ w.cell? ⟨g, o + 1, none⟩ = some b ∧ w.cell? ⟨g, o + 2, none⟩ = some c ∧ w.frozen? ⟨g, o, none⟩ = false ∧ w.frozen? ⟨g, o + 1, none⟩ = false ∧ w.frozen? ⟨g, o + 2, none⟩ = false := by
  obtain ⟨a, ha⟩ := Option.isSome_iff_exists.1 (h 0 (by decide)).1
  obtain ⟨b, hb⟩ := Option.isSome_iff_exists.1 (h 1 (by decide)).1
  obtain ⟨c, hc⟩ := Option.isSome_iff_exists.1 (h 2 (by decide)).1
  exact ⟨a, b, c, ha, hb, hc, (h 0 (by decide)).2, (h 1 (by decide)).2, (h 2 (by decide)).2⟩
theorem there5 {w : World} {g o : Nat} (h : w.there g o 5) : ∃ a b c d e, w.cell? ⟨g, o, none⟩ = some a ∧ w.cell? ⟨g, o + 1, none⟩ = some b ∧ w.cell? ⟨g, o + 2, none⟩ = some c ∧ w.cell? ⟨g, o + 3, none⟩ = some d ∧ w.cell? ⟨g, o + 4, none⟩ = some e ∧ w.frozen? ⟨g, o, none⟩ = false ∧ w.frozen? ⟨g, o + 1, none⟩ = false ∧ w.frozen? ⟨g, o + 2, none⟩ = false ∧ w.frozen? ⟨g, o + 3, none⟩ = false ∧ w.frozen? ⟨g, o + 4, none⟩ = false := by
  obtain ⟨a, ha⟩ := Option.isSome_iff_exists.1 (h 0 (by decide)).1
  obtain ⟨b, hb⟩ := Option.isSome_iff_exists.1 (h 1 (by decide)).1
  obtain ⟨c, hc⟩ := Option.isSome_iff_exists.1 (h 2 (by decide)).1
  obtain ⟨d, hd⟩ := Option.isSome_iff_exists.1 (h 3 (by decide)).1
  obtain ⟨e, he⟩ := Option.isSome_iff_exists.1 (h 4 (by decide)).1
  exact ⟨a, b, c, d, e, ha, hb, hc, hd, he, (h 0 (by decide)).2, (h 1 (by decide)).2, (h 2 (by decide)).2, (h 3 (by decide)).2, (h 4 (by decide)).2⟩
theorem nb_at {wr : World} {NB j : Nat} {m : Mg} (h : wr.heap[NB]? = some (.cells #[.int .i64 (m.an.length : Int), .int .i64 (m.au.length : Int), .int .i64 (m.ar.length : Int)] 3 (0, 0))) (hj : j < 3) : wr.cell? ⟨NB, j, none⟩ = some (.int .i64 ((secL m j).length : Int)) := by
  simp only [World.cell?, h]
  match j, hj with
  | 0, _ | 1, _ | 2, _ => rfl
def zR : Rc := ⟨⟨#[]⟩, 0, 0, 0, ⟨#[]⟩⟩
theorem infoQ3 : (Tryz.prog.info? 35).map (·.size) = some 3 := by kernel_rfl
theorem infoR5 : (Tryz.prog.info? 43).map (·.size) = some 5 := by kernel_rfl
theorem start {lo hi : Nat} {w : World} {p : Pl} {m : Mg} (h : Own4 lo w p m) (hq : ∀ ad, p.qa = some ad → ad.block < hi) (hs : ∀ s, s < 3 → ∀ ad, secA p s = some ad → ad.block < hi) : MkS lo hi w (w.alloc (.cells (cellsM p m) 25)) p m p m :=
  ⟨h.keep fun k c t hj _ => (heap_alloc_old _ _ (blk_lt hj)).trans hj, fun ad e => .inl ⟨(h.q.lt ad.block (by rw [ownB, e]; rfl)).1, hq ad e⟩, fun s hs' ad e => .inl ⟨((secN h hs').lt ad.block (by rw [ownB, e]; rfl)).1, hs s hs' ad e⟩, heap_alloc_new _ _, (EffB.refl lo hi w).below ((Below.refl _ _).alloc (Nat.le_refl _) _)⟩
theorem at_q {lo : Nat} {wr : World} {n : Nat} {xs : List Value} {a : Option Addr} {c : Nat} {t : TypeId} {z : Nat} (h : wr.ownsRow lo t z (.slice a n c) n xs) (hn : 1 ≤ n) : ∃ g, a = some ⟨g, 0, none⟩ ∧ n ≤ c ∧ c ≤ maxLen := by
  rcases h.2 with ⟨_, h2⟩ | ⟨g, cap, cur, h1, h2, h3, h4, h5, h6, h7⟩
  · omega
  · injection h1 with e1 e2 e3
    subst e3
    exact ⟨g, e1, h4, h5⟩
set_option maxRecDepth 100000 in
set_option maxHeartbeats 8000000 in
theorem mark_any (p : Pl) (m : Mg) (lo hi : Nat) (w : World) (h : Own4 lo w p m) (hq : ∀ ad, p.qa = some ad → ad.block < hi) (hs : ∀ s, s < 3 → ∀ ad, secA p s = some ad → ad.block < hi) (hlo : lo ≤ w.heap.size) (fq : m.qs.length ≤ 1048576) (fs : ∀ s, s < 3 → (secL m s).length ≤ 1048576) :
    Calls Tryz.prog 14 #[.agg #[.int .i64 m.id, .bool m.rs, .int .i64 m.op, .bool m.aa, .bool m.tc, .bool m.rd, .bool m.ra, .bool m.ad, .bool m.cd, .int .i64 m.rc, .slice p.qa m.qs.length p.qc, .slice p.na m.an.length p.nc, .slice p.ua m.au.length p.uc, .slice p.ra m.ar.length p.rc]] w fun e w' => e = .returned (.bool true) ∧ EffB lo hi w w' := by
  have hst0 : MkS lo hi w (w.alloc (.cells #[.int .i64 m.id, .bool m.rs, .int .i64 m.op, .bool m.aa, .bool m.tc, .bool m.rd, .bool m.ra, .bool m.ad, .bool m.cd, .int .i64 m.rc, .slice p.qa m.qs.length p.qc, .slice p.na m.an.length p.nc, .slice p.ua m.au.length p.uc, .slice p.ra m.ar.length p.rc] 25)) p m p m := start h hq hs
  have FS := Lib.hid fs
  obtain ⟨nq, hnq⟩ : ∃ nq, m.qs.length = nq := ⟨_, rfl⟩
  have HNQ := Lib.hid hnq
  have fq2 : nq ≤ 1048576 := by rw [← hnq]; exact fq
  have HST := Lib.hid hst0; have HLO := Lib.hid hlo
  clear h hq hs fq fs hst0 hnq hlo
  go_enter Tryz.func14, Tryz.ntmps14
  go_upto_region 1 with fail
  obtain ⟨wa, hwa⟩ : ∃ wa, w.alloc (.cells #[.int .i64 m.id, .bool m.rs, .int .i64 m.op, .bool m.aa, .bool m.tc, .bool m.rd, .bool m.ra, .bool m.ad, .bool m.cd, .int .i64 m.rc, .slice p.qa m.qs.length p.qc, .slice p.na m.an.length p.nc, .slice p.ua m.au.length p.uc, .slice p.ra m.ar.length p.rc] 25) = wa := ⟨_, rfl⟩
  rw [hwa] at HST ⊢
  clear hwa
  have c10 := HST.out.msg.box.c10
  rw [HNQ.out] at c10
  trace "1"
  go_wp2_with fail
  clear c10
  go_loopg [3, 16] (nq + 1) (fun gas _ kv wr => ∃ (k : Nat) (Q : List Qn), kv = .int .i64 (k : Int) ∧ k ≤ nq ∧ k + gas = nq + 1 ∧ Hid (Q.length = nq) ∧ Hid (MkS lo hi w wr p m p { m with qs := Q }))
  case atStart => exact ⟨0, m.qs, rfl, by omega, by omega, HNQ, HST⟩
  case round =>
    clear HST
    obtain ⟨k, Q, rfl, hk, hkg, HQL, HST⟩ := hrel
    have HK := Lib.hid hkg; clear hkg
    by_cases hlt : k < nq
    · have hlI : (k : Int) < (nq : Int) := by omega
      have hown := HST.out.own.q
      simp only [HQL.out] at hown
      obtain ⟨g, ha, hc1, hc2⟩ := at_q hown (by omega)
      have c10 := HST.out.msg.box.c10
      rw [HNQ.out, ha] at c10
      rw [ha] at hown
      have hth := own_there hown k hlt
      have hs1 := HST.out.putQ (g := g) (cap := p.qc) (k := k) (by simp only [ha]) (by show k < Q.length; rw [HQL.out]; exact hlt) ⟨⟨#[109, 97, 114, 107]⟩, -(k : Int) - 1, 0⟩
      obtain ⟨_, _, _, e0, e1, e2, z0, z1, z2⟩ := there3 hth
      unfold maxLen at hc2
      clear hown hth
      trace "4"
      go_upto_region 5 with fail
      change Code.wp _ _ _ _ (wr.setCells g (k * 3) (Qn.cells ⟨⟨#[109, 97, 114, 107]⟩, -(k : Int) - 1, 0⟩))
      obtain ⟨w1, hw1⟩ : ∃ w1, wr.setCells g (k * 3) (Qn.cells ⟨⟨#[109, 97, 114, 107]⟩, -(k : Int) - 1, 0⟩) = w1 := ⟨_, rfl⟩
      rw [hw1] at hs1 ⊢
      have HS1 := Lib.hid hs1
      clear hs1 hw1 e0 e1 e2 z0 z1 z2 c10 ha hc1 hc2 HST
      go_wp2_with fail
      have hkg := HK.out
      go_roundg (gk - 1)
      case rel => exact ⟨k + 1, Q.set k _, by go_num, by omega, by omega, Lib.hid (by rw [List.length_set]; exact HQL.out), HS1⟩
      case measure => omega
    · have hke : k = nq := by omega
      subst hke
      have hlI : ¬ (k : Int) < (k : Int) := by omega
      clear hlt hk HK HQL
      have bx := HST.out.msg.box
      have c11 := bx.c11; have c12 := bx.c12; have c13 := bx.c13
      trace "6"
      go_upto_region 7 with fail
      have hl0 : MkL lo hi wr.heap.size w (wr.alloc (.cells #[.slice p.na m.an.length p.nc, .slice p.ua m.au.length p.uc, .slice p.ra m.ar.length p.rc] 23)) p m p { m with qs := Q } := ⟨HST.out.below ((Below.refl _ _).alloc (Nat.le_refl _) _), heap_alloc_new _ _, HST.out.eff.size⟩
      obtain ⟨LB, hLB⟩ : ∃ LB, wr.heap.size = LB := ⟨_, rfl⟩
      obtain ⟨w1, hw1⟩ : ∃ w1, wr.alloc (.cells #[.slice p.na m.an.length p.nc, .slice p.ua m.au.length p.uc, .slice p.ra m.ar.length p.rc] 23) = w1 := ⟨_, rfl⟩
      rw [hw1, hLB] at hl0
      rw [hw1]
      try rw [hLB]
      have HL0 := Lib.hid hl0
      have HE0 : Hid (∀ s, s < 3 → (secL { m with qs := Q } s).length = (secL m s).length) := Lib.hid (fun s hs => by match s, hs with | 0, _ | 1, _ | 2, _ => rfl)
      clear hl0 hw1 hLB bx c11 c12 c13 HST
      go_wp2_with fail
      go_loopg [5, 37] 4 (fun gas _ jv wr => ∃ (j : Nat) (mm : Mg), jv = .int .i64 (j : Int) ∧ j ≤ 3 ∧ j + gas = 4 ∧ Hid (MkL lo hi LB w wr p m p mm) ∧ Hid (∀ s, s < 3 → (secL mm s).length = (secL m s).length) ∧ Hid (∀ s, s < j → s < 3 → secL mm s = contL s (secL m s).length (secL m s).length))
      case atStart => exact ⟨0, _, rfl, by omega, by omega, HL0, HE0, Lib.hid (fun s hs => by omega)⟩
      case round =>
        clear HL0 HE0 hlI
        obtain ⟨j, mm, rfl, hj, hjg, HM, HE, HC⟩ := hrel
        by_cases hj3 : j < 3
        · have hjI : (j : Int) < 3 := by omega
          have HJ3 := Lib.hid hj3; have HJG := Lib.hid hjg
          obtain ⟨N, hN⟩ : ∃ N, (secL m j).length = N := ⟨_, rfl⟩
          have HN := Lib.hid hN
          have hNb : N ≤ 1048576 := by rw [← hN]; exact FS.out j hj3
          have hcl := HM.out.cell hj3
          rw [HE.out j hj3, hN] at hcl
          have HT0 : Hid ((secL mm j).take 0 = contL j N 0) := Lib.hid rfl
          clear hN hjg
          trace "10"
          go_wp2_with fail
          clear hcl
          obtain ⟨gk', hgk'⟩ : ∃ g, g = gk := ⟨_, rfl⟩
          rw [← hgk'] at HJG
          go_loopg [6, 45] (N + 1) (fun gas _ kv wr => ∃ (k : Nat) (mm : Mg), kv = .int .i64 (k : Int) ∧ k ≤ N ∧ k + gas = N + 1 ∧ Hid (MkL lo hi LB w wr p m p mm) ∧ Hid (∀ s, s < 3 → (secL mm s).length = (secL m s).length) ∧ Hid (∀ s, s < j → s < 3 → secL mm s = contL s (secL m s).length (secL m s).length) ∧ Hid ((secL mm j).take k = contL j N k))
          case atStart => exact ⟨0, mm, rfl, by omega, by omega, HM, HE, HC, HT0⟩
          case round =>
            clear HM HE HC HT0
            obtain ⟨k, mm, rfl, hk, hkg, HM, HE, HC, HT⟩ := hrel
            have HK := Lib.hid hkg; clear hkg
            have HNL := Lib.hid ((HE.out j HJ3.out).trans HN.out)
            by_cases hlt : k < N
            · have hlI : (k : Int) < (N : Int) := by omega
              have hown := secN HM.out.st.own HJ3.out
              rw [HNL.out] at hown
              obtain ⟨g, ha, hc1, hc2⟩ := at_q hown (by omega)
              have hcl := HM.out.cell HJ3.out
              rw [HNL.out, ha] at hcl
              rw [ha] at hown
              have hth := own_there hown k hlt
              have hm1 := HM.out.put HJ3.out HNL.out ha hlt (markR j k)
              unfold maxLen at hc2
              obtain ⟨C, hC⟩ : ∃ C, secC p j = C := ⟨_, rfl⟩
              rw [hC] at hcl hc1 hc2
              obtain ⟨_, _, _, _, _, e0, e1, e2, e3, e4, z0, z1, z2, z3, z4⟩ := there5 hth
              clear hown hC hth
              trace "13"
              go_upto_region 14 with fail
              change Code.wp _ _ _ _ (wr.setCells g (k * 5) (markR j k).cells)
              obtain ⟨w1, hw1⟩ : ∃ w1, wr.setCells g (k * 5) (markR j k).cells = w1 := ⟨_, rfl⟩
              rw [hw1] at hm1 ⊢
              have HM1 := Lib.hid hm1
              have HT1 : Hid ((secL (updM mm j ((secL mm j).set k (markR j k))) j).take (k + 1) = contL j N (k + 1)) := Lib.hid (by rw [secL_upd]; exact take_mark HT.out (by rw [HNL.out]; exact hlt) hlt)
              have HE1 : Hid (∀ s, s < 3 → (secL (updM mm j ((secL mm j).set k (markR j k))) s).length = (secL m s).length) := Lib.hid (fun s hs => by
                by_cases e : s = j
                · subst e; rw [secL_upd, List.length_set]; exact HE.out s hs
                · rw [secL_other mm _ HJ3.out hs e]; exact HE.out s hs)
              have HC1 : Hid (∀ s, s < j → s < 3 → secL (updM mm j ((secL mm j).set k (markR j k))) s = contL s (secL m s).length (secL m s).length) := Lib.hid (fun s hsj hs => by
                rw [secL_other mm _ HJ3.out hs (by omega)]; exact HC.out s hsj hs)
              clear hm1 hw1 e0 e1 e2 e3 e4 z0 z1 z2 z3 z4 hcl ha hc1 hc2 HM HE HC HT
              go_wp2_with fail
              have hkg := HK.out
              go_roundg (gk - 1)
              case rel => exact ⟨k + 1, _, by go_num, by omega, by omega, HM1, HE1, HC1, HT1⟩
              case measure => omega
            · have hke : k = N := by omega
              subst hke
              have hlI : ¬ (k : Int) < (k : Int) := by omega
              have HC1 : Hid (∀ s, s < j + 1 → s < 3 → secL mm s = contL s (secL m s).length (secL m s).length) := Lib.hid (fun s hsj hs => by
                by_cases e : s = j
                · subst e
                  have h1 := HT.out
                  rw [List.take_of_length_le (by rw [HNL.out]; exact Nat.le_refl _)] at h1
                  rw [h1, HN.out]
                · exact HC.out s (by omega) hs)
              clear hlt HC HT HNL
              trace "15"
              go_wp2_with fail
              have hjg := HJG.out
              go_roundg (gk' - 1)
              case rel => exact ⟨j + 1, mm, by go_num, by omega, by omega, HM, HE, HC1⟩
              case measure => omega
        · have hje : j = 3 := by omega
          subst hje
          have HC0 : Hid (∀ s, 0 ≤ s → s < 3 → secL mm s = contL s (secL m s).length (secL m s).length) := Lib.hid (fun s _ hs => HC.out s hs hs)
          have hjI : ¬ ((3 : Nat) : Int) < 3 := by omega
          clear hj3 hj hjg HC HE
          trace "16"
          go_wp2_with fail
          go_loopg [7, 64] 4 (fun gas _ jv wr => ∃ (j : Nat) (pl : Pl) (mm : Mg), jv = .int .i64 (j : Int) ∧ j ≤ 3 ∧ j + gas = 4 ∧ Hid (MkL lo hi LB w wr p m pl mm) ∧ Hid (∀ s, j ≤ s → s < 3 → secL mm s = contL s (secL m s).length (secL m s).length) ∧ Hid (∀ s, s < j → s < 3 → secL mm s = contL s (secL m s).length ((secL m s).length + 9)))
          case atStart => exact ⟨0, p, mm, rfl, by omega, by omega, HM, HC0, Lib.hid (fun s hs => by omega)⟩
          case round =>
            clear HM HC0 hjI
            obtain ⟨j, pl, mm, rfl, hj, hjg, HM, HE, HC⟩ := hrel
            by_cases hj3 : j < 3
            · have hjI : (j : Int) < 3 := by omega
              have HJ3 := Lib.hid hj3; have HJG := Lib.hid hjg
              obtain ⟨N, hN⟩ : ∃ N, (secL m j).length = N := ⟨_, rfl⟩
              have HN := Lib.hid hN
              have hNb : N ≤ 1048576 := by rw [← hN]; exact FS.out j hj3
              have HT0 : Hid (secL mm j = contL j N (N + 0)) := Lib.hid (by rw [Nat.add_zero, ← hN]; exact HE.out j (Nat.le_refl _) hj3)
              have HE0 : Hid (∀ s, j + 1 ≤ s → s < 3 → secL mm s = contL s (secL m s).length (secL m s).length) := Lib.hid (fun s h1 h2 => HE.out s (by omega) h2)
              clear hN hjg HE
              trace "19"
              go_wp2_with fail
              obtain ⟨gk', hgk'⟩ : ∃ g, g = gk := ⟨_, rfl⟩
              rw [← hgk'] at HJG
              go_loopg [8] 10 (fun gas kv wr => ∃ (k : Nat) (pl : Pl) (mm : Mg), kv = .int .i64 (k : Int) ∧ k ≤ 9 ∧ k + gas = 10 ∧ Hid (MkL lo hi LB w wr p m pl mm) ∧ Hid (∀ s, j + 1 ≤ s → s < 3 → secL mm s = contL s (secL m s).length (secL m s).length) ∧ Hid (∀ s, s < j → s < 3 → secL mm s = contL s (secL m s).length ((secL m s).length + 9)) ∧ Hid (secL mm j = contL j N (N + k)))
              case atStart => exact ⟨0, pl, mm, rfl, by omega, by omega, HM, HE0, HC, HT0⟩
              case round =>
                clear HM HE0 HC HT0
                obtain ⟨k, pl, mm, rfl, hk, hkg, HM, HE, HC, HT⟩ := hrel
                have HK := Lib.hid hkg; clear hkg
                by_cases hlt : k < 9
                · have hlI : (k : Int) < 9 := by omega
                  obtain ⟨T, hT⟩ : ∃ T, N + k = T := ⟨_, rfl⟩
                  have HTT := Lib.hid hT
                  have hTb : T ≤ 1048600 := by omega
                  have HNL : Hid ((secL mm j).length = T) := Lib.hid (by rw [HT.out, contL_len]; exact hT)
                  have hcl := HM.out.cell HJ3.out
                  have hown := secN HM.out.st.own HJ3.out
                  rw [HNL.out] at hcl hown
                  have HOW := Lib.hid hown
                  have hlo : lo ≤ wr.heap.size := by have h1 := HM.out.lo; have h2 := blk_lt HM.out.lb; have h3 := HLO.out; omega
                  have hma := HM.out.below ((Below.refl wr.heap.size wr).alloc (Nat.le_refl _) (.cells #[.string ⟨#[103, 114, 111, 119, 110]⟩, .int .i64 (-1000 * (j : Int) - 500 - (k : Int)), .int .i64 0, .int .i64 0, .string ⟨#[]⟩] 43))
                  have HMA := Lib.hid hma
                  obtain ⟨i0, hif, hz0, hz1, hz2⟩ := info_parts infoRec
                  have hcl2 : (wr.alloc (.cells #[.string ⟨#[103, 114, 111, 119, 110]⟩, .int .i64 (-1000 * (j : Int) - 500 - (k : Int)), .int .i64 0, .int .i64 0, .string ⟨#[]⟩] 43)).cell? ⟨LB, j, none⟩ = some (.slice (secA pl j) T (secC pl j)) := by have h := hma.cell HJ3.out; rw [HNL.out] at h; exact h
                  clear hown hT hma
                  trace "22"
                  go_wp2_with (at_builtin; refine wpList_append_lies _ rfl _ _ 23 rfl lo 43 i0 _ 5 56 Tryz.underlying23 hif hz0 hz1 hz2 rfl (by decide) (.slice (secA pl j) T (secC pl j)) T ((secL mm j).flatMap Rc.cells) rfl (HOW.out.alloc _) ⟨wr.heap.size, 0, none⟩ 1 1 (grownR j k).cells rfl rfl ?d1 ?d2 (by decide) ?d3 ?d4 ?d5 _ rfl ?_)
                  case d1 => exact World.news_of_block (heap_alloc_new _ _)
                  case d2 => exact rec_one _
                  case d3 => unfold maxLen; omega
                  case d4 => omega
                  case d5 => simp; omega
                  intro g3 cp w7 hown7 hgr hat hlt7
                  have hlb7 := lb_grown HJ3.out HMA.out hgr HNL.out
                  have hc7 : w7.cell? ⟨LB, j, none⟩ = some (.slice (secA pl j) T (secC pl j)) := by simp only [World.cell?, hlb7]; have h := lbC_at pl mm HJ3.out; rw [HNL.out] at h; exact h
                  have hf7 : w7.frozen? ⟨LB, j, none⟩ = false := by simp [World.frozen?, hlb7]
                  have hm7 := HMA.out.push (x := grownR j k) HJ3.out HNL.out hown7 hgr (hat.imp id (fun e => by rw [e]; simp))
                  have HM7 := Lib.hid hm7
                  have HT7 : Hid (secL (updM mm j (secL mm j ++ [grownR j k])) j = contL j N (N + (k + 1))) := Lib.hid (by
                    rw [secL_upd, HT.out, show N + (k + 1) = N + k + 1 by omega, contL_succ]
                    congr 2
                    unfold contR; rw [if_neg (by omega), show N + k - N = k by omega])
                  have HE7 : Hid (∀ s, j + 1 ≤ s → s < 3 → secL (updM mm j (secL mm j ++ [grownR j k])) s = contL s (secL m s).length (secL m s).length) := Lib.hid (fun s h1 h2 => by rw [secL_other mm _ HJ3.out h2 (by omega)]; exact HE.out s h1 h2)
                  have HC7 : Hid (∀ s, s < j → s < 3 → secL (updM mm j (secL mm j ++ [grownR j k])) s = contL s (secL m s).length ((secL m s).length + 9)) := Lib.hid (fun s h1 h2 => by rw [secL_other mm _ HJ3.out h2 (by omega)]; exact HC.out s h1 h2)
                  clear hown7 hgr hat hlb7 hm7 HMA HOW HM HE HC HT HNL hcl hcl2 hif hz0 hz1 hz2 hlt7
                  trace "22b"
                  go_upto_region 21 with fail
                  obtain ⟨w8, hw8⟩ : ∃ w8, w7.setCell ⟨LB, j, none⟩ (.slice (some ⟨g3, 0, none⟩) (T + 1) cp) = w8 := ⟨_, rfl⟩
                  rw [hw8] at HM7 ⊢
                  clear hw8 hc7 hf7
                  go_wp2_with fail
                  have hkg := HK.out
                  go_roundg (gk - 1)
                  case rel => exact ⟨k + 1, _, _, by go_num, by omega, by omega, HM7, HE7, HC7, HT7⟩
                  case measure => omega
                · have hke : k = 9 := by omega
                  subst hke
                  have hlI : ¬ ((9 : Nat) : Int) < 9 := by omega
                  have HC1 : Hid (∀ s, s < j + 1 → s < 3 → secL mm s = contL s (secL m s).length ((secL m s).length + 9)) := Lib.hid (fun s hsj hs => by
                    by_cases e : s = j
                    · subst e; rw [HN.out]; exact HT.out
                    · exact HC.out s (by omega) hs)
                  clear hlt HC HT
                  trace "23"
                  go_wp2_with fail
                  have hjg := HJG.out
                  go_roundg (gk' - 1)
                  case rel => exact ⟨j + 1, pl, mm, by go_num, by omega, by omega, HM, HE, HC1⟩
                  case measure => omega
            · have hje : j = 3 := by omega
              subst hje
              have HCC : Hid (∀ s, s < 3 → secL mm s = contL s (secL m s).length ((secL m s).length + 9)) := Lib.hid (fun s hs => HC.out s hs hs)
              have hjI : ¬ ((3 : Nat) : Int) < 3 := by omega
              clear hj3 hj hjg HC HE
              have bx := HM.out.st.msg.box
              have c11 := bx.c11; have c12 := bx.c12; have c13 := bx.c13
              trace "24"
              go_upto_region 25 with fail
              have hm1 := HM.out.below ((Below.refl wr.heap.size wr).alloc (Nat.le_refl _) (.cells #[.int .i64 (m.an.length : Int), .int .i64 (m.au.length : Int), .int .i64 (m.ar.length : Int)] 3))
              have hn1 := heap_alloc_new wr (.cells #[.int .i64 (m.an.length : Int), .int .i64 (m.au.length : Int), .int .i64 (m.ar.length : Int)] 3)
              have HNB := Lib.hid (HM.out.st.eff.size)
              obtain ⟨NB, hNB⟩ : ∃ NB, wr.heap.size = NB := ⟨_, rfl⟩
              obtain ⟨w1, hw1⟩ : ∃ w1, wr.alloc (.cells #[.int .i64 (m.an.length : Int), .int .i64 (m.au.length : Int), .int .i64 (m.ar.length : Int)] 3) = w1 := ⟨_, rfl⟩
              rw [hw1] at hm1 hn1
              rw [hNB] at hn1 HNB
              rw [hw1]
              try rw [hNB]
              have HM1 := Lib.hid hm1; have HN1 := Lib.hid hn1
              clear hm1 hn1 hw1 hNB bx c11 c12 c13 HM
              trace "25"
              go_wp2_with fail
              go_loopg [10, 99] 4 (fun gas _ jv wr => ∃ (j : Nat), jv = .int .i64 (j : Int) ∧ j ≤ 3 ∧ j + gas = 4 ∧ Hid (MkL lo hi LB w wr p m pl mm) ∧ Hid (wr.heap[NB]? = some (.cells #[.int .i64 (m.an.length : Int), .int .i64 (m.au.length : Int), .int .i64 (m.ar.length : Int)] 3 (0, 0))))
              case atStart => exact ⟨0, rfl, by omega, by omega, HM1, HN1⟩
              case round =>
                clear HM1 HN1 hjI
                obtain ⟨j, rfl, hj, hjg, HM, HNA⟩ := hrel
                by_cases hj3 : j < 3
                · have hjI : (j : Int) < 3 := by omega
                  have HJ3 := Lib.hid hj3; have HJG := Lib.hid hjg
                  obtain ⟨N, hN⟩ : ∃ N, (secL m j).length = N := ⟨_, rfl⟩
                  have HN := Lib.hid hN
                  have hNb : N ≤ 1048576 := by rw [← hN]; exact FS.out j hj3
                  obtain ⟨T, hT⟩ : ∃ T, N + 9 = T := ⟨_, rfl⟩
                  have HTT := Lib.hid hT
                  have HCT : Hid (secL mm j = contL j N T) := Lib.hid (by rw [HCC.out j hj3, hN, hT])
                  have HNL : Hid ((secL mm j).length = T) := Lib.hid (by rw [HCT.out, contL_len])
                  have hcl := HM.out.cell hj3
                  rw [HNL.out] at hcl
                  clear hN hjg hT
                  trace "28"
                  go_wp2_with fail
                  clear hcl
                  obtain ⟨gk', hgk'⟩ : ∃ g, g = gk := ⟨_, rfl⟩
                  rw [← hgk'] at HJG
                  have hown := secN HM.out.st.own HJ3.out
                  rw [HNL.out] at hown
                  obtain ⟨g, ha, hc1, hc2⟩ := at_q hown (by have := HTT.out; omega)
                  have HA := Lib.hid ha; have HC1 := Lib.hid hc1; have HC2 := Lib.hid hc2
                  clear hown ha hc1 hc2
                  go_loopg [11, 107] (T + 1) (fun gas _ kv wr => ∃ (k : Nat), kv = .int .i64 (k : Int) ∧ k ≤ T ∧ k + gas = T + 1 ∧ Hid (MkL lo hi LB w wr p m pl mm) ∧ Hid (wr.heap[NB]? = some (.cells #[.int .i64 (m.an.length : Int), .int .i64 (m.au.length : Int), .int .i64 (m.ar.length : Int)] 3 (0, 0))))
                  case atStart => exact ⟨0, rfl, by omega, by omega, HM, HNA⟩
                  case round =>
                    clear HM HNA
                    obtain ⟨k, rfl, hk, hkg, HM, HNA⟩ := hrel
                    have HK := Lib.hid hkg; clear hkg
                    by_cases hlt : k < T
                    · have hlI : (k : Int) < (T : Int) := by omega
                      have hTb : T ≤ 1048600 := by have := HTT.out; omega
                      have hcl := HM.out.cell HJ3.out
                      rw [HNL.out, HA.out] at hcl
                      obtain ⟨C, hC⟩ : ∃ C, secC pl j = C := ⟨_, rfl⟩
                      have hc1 := HC1.out; have hc2 := HC2.out
                      unfold maxLen at hc2
                      rw [hC] at hcl hc1 hc2
                      have hnc := nb_at HNA.out HJ3.out
                      rw [HN.out] at hnc
                      have hrg := HM.out.at HJ3.out HA.out (show (secL mm j)[k]? = some (contR j N k) by rw [HCT.out]; exact contL_at hlt)
                      have HRG := Lib.hid hrg
                      have hst : Sem.run Tryz.prog (storeCells ⟨wr.heap.size, 0, none⟩ [.string ⟨#[109, 97, 114, 107]⟩, .int .i64 (-1000 * (j : Int) - (k : Int) - 1), .int .i64 0, .int .i64 0, .string ⟨#[]⟩]) (wr.alloc (.cells #[.string ⟨#[]⟩, .int .i64 0, .int .i64 0, .int .i64 0, .string ⟨#[]⟩] 43)) = .ok () (wr.alloc (.cells #[.string ⟨#[109, 97, 114, 107]⟩, .int .i64 (-1000 * (j : Int) - (k : Int) - 1), .int .i64 0, .int .i64 0, .string ⟨#[]⟩] 43)) := store_rc wr (markR j k) zR
                      clear hC hrg
                      trace "31"
                      by_cases hkN : k < N
                      · have hkI : ¬ (N : Int) ≤ (k : Int) := by omega
                        have hnc1 := heap_cell (w := wr) (o := .cells #[.string ⟨#[109, 97, 114, 107]⟩, .int .i64 (-1000 * (j : Int) - (k : Int) - 1), .int .i64 0, .int .i64 0, .string ⟨#[]⟩] 43) hnc
                        have hcl1 := heap_cell (w := wr) (o := .cells #[.string ⟨#[109, 97, 114, 107]⟩, .int .i64 (-1000 * (j : Int) - (k : Int) - 1), .int .i64 0, .int .i64 0, .string ⟨#[]⟩] 43) hcl
                        go_upto_region 32 with fail
                        have hX := heap_alloc_new wr (.cells #[.string ⟨#[109, 97, 114, 107]⟩, .int .i64 (-1000 * (j : Int) - (k : Int) - 1), .int .i64 0, .int .i64 0, .string ⟨#[]⟩] 43)
                        have hr := (World.rangeAt_alloc HRG.out (.cells #[.string ⟨#[109, 97, 114, 107]⟩, .int .i64 (-1000 * (j : Int) - (k : Int) - 1), .int .i64 0, .int .i64 0, .string ⟨#[]⟩] 43))
                        rw [show contR j N k = ⟨⟨#[109, 97, 114, 107]⟩, -1000 * (j : Int) - (k : Int) - 1, 0, 0, ⟨#[]⟩⟩ from by unfold contR; rw [if_pos hkN]; rfl] at hr
                        have hm1 := HM.out.below ((Below.refl wr.heap.size wr).alloc (Nat.le_refl _) (.cells #[.string ⟨#[109, 97, 114, 107]⟩, .int .i64 (-1000 * (j : Int) - (k : Int) - 1), .int .i64 0, .int .i64 0, .string ⟨#[]⟩] 43))
                        have hn1 := (heap_alloc_old wr (.cells #[.string ⟨#[109, 97, 114, 107]⟩, .int .i64 (-1000 * (j : Int) - (k : Int) - 1), .int .i64 0, .int .i64 0, .string ⟨#[]⟩] 43) (blk_lt HNA.out)).trans HNA.out
                        obtain ⟨w1, hw1⟩ : ∃ w1, wr.alloc (.cells #[.string (⟨#[109, 97, 114, 107]⟩ : ByteArray), .int .i64 (-1000 * (j : Int) - (k : Int) - 1), .int .i64 0, .int .i64 0, .string ⟨#[]⟩] 43) = w1 := ⟨_, rfl⟩
                        obtain ⟨X, hXX⟩ : ∃ X, wr.heap.size = X := ⟨_, rfl⟩
                        rw [hw1] at hX hr hm1 hn1 hcl1 hnc1 ⊢
                        rw [hXX] at hX ⊢
                        obtain ⟨S, hS⟩ : ∃ S : ByteArray, (⟨#[109, 97, 114, 107]⟩ : ByteArray) = S := ⟨_, rfl⟩
                        obtain ⟨E, hE⟩ : ∃ E : ByteArray, (⟨#[]⟩ : ByteArray) = E := ⟨_, rfl⟩
                        obtain ⟨V, hV⟩ : ∃ V : Int, -1000 * (j : Int) - (k : Int) - 1 = V := ⟨_, rfl⟩
                        rw [hS, hE, hV] at hX hr
                        have x0 : w1.cell? ⟨X, 0, none⟩ = some (.string S) := by simp only [World.cell?, hX]; rfl
                        have x1 : w1.cell? ⟨X, 1, none⟩ = some (.int .i64 V) := by simp only [World.cell?, hX]; rfl
                        have x2 : w1.cell? ⟨X, 2, none⟩ = some (.int .i64 0) := by simp only [World.cell?, hX]; rfl
                        have x3 : w1.cell? ⟨X, 3, none⟩ = some (.int .i64 0) := by simp only [World.cell?, hX]; rfl
                        have x4 : w1.cell? ⟨X, 4, none⟩ = some (.string E) := by simp only [World.cell?, hX]; rfl
                        have y0 : w1.cell? ⟨g, k * 5, none⟩ = some (.string S) := hr 0 _ rfl
                        have y1 : w1.cell? ⟨g, k * 5 + 1, none⟩ = some (.int .i64 V) := hr 1 _ rfl
                        have y2 : w1.cell? ⟨g, k * 5 + 2, none⟩ = some (.int .i64 0) := hr 2 _ rfl
                        have y3 : w1.cell? ⟨g, k * 5 + 3, none⟩ = some (.int .i64 0) := hr 3 _ rfl
                        have y4 : w1.cell? ⟨g, k * 5 + 4, none⟩ = some (.string E) := hr 4 _ rfl
                        have HM1 := Lib.hid hm1; have HN1 := Lib.hid hn1
                        clear hX hr hm1 hn1 hw1 hXX hS hE hV hst hnc hcl HRG
                        trace "34"
                        go_wp2_with fail
                        go_quiet (fail)
                        trace "34b"
                        have HM2 := Lib.hid (HM1.out.below (bel_drewN (Below.refl _ _) nq))
                        go_wp2
                        have hkg := HK.out
                        go_roundg (gk - 1)
                        case rel => exact ⟨k + 1, by go_num, by omega, by omega, HM2, HN1⟩
                        case measure => omega
                      · have hkI : (N : Int) ≤ (k : Int) := by omega
                        obtain ⟨q, hq⟩ : ∃ q, k - N = q := ⟨_, rfl⟩
                        have hqI : Value.int .i64 ((k : Int) - (N : Int)) = Value.int .i64 (q : Int) := by congr 1; omega
                        have hqb : q ≤ 1048600 := by omega
                        have hnc1 := heap_cell (w := wr) (o := .cells #[.string ⟨#[109, 97, 114, 107]⟩, .int .i64 (-1000 * (j : Int) - (k : Int) - 1), .int .i64 0, .int .i64 0, .string ⟨#[]⟩] 43) hnc
                        have hst2 : Sem.run Tryz.prog (storeCells ⟨wr.heap.size, 0, none⟩ [.string ⟨#[103, 114, 111, 119, 110]⟩, .int .i64 (-1000 * (j : Int) - 500 - (q : Int)), .int .i64 0, .int .i64 0, .string ⟨#[]⟩]) (wr.alloc (.cells #[.string ⟨#[109, 97, 114, 107]⟩, .int .i64 (-1000 * (j : Int) - (k : Int) - 1), .int .i64 0, .int .i64 0, .string ⟨#[]⟩] 43)) = .ok () (wr.alloc (.cells #[.string ⟨#[103, 114, 111, 119, 110]⟩, .int .i64 (-1000 * (j : Int) - 500 - (q : Int)), .int .i64 0, .int .i64 0, .string ⟨#[]⟩] 43)) := store_rc wr (grownR j q) (markR j k)
                        have hcl1 := heap_cell (w := wr) (o := .cells #[.string ⟨#[103, 114, 111, 119, 110]⟩, .int .i64 (-1000 * (j : Int) - 500 - (q : Int)), .int .i64 0, .int .i64 0, .string ⟨#[]⟩] 43) hcl
                        trace "33"
                        go_upto_region 34 with fail
                        have hX := heap_alloc_new wr (.cells #[.string ⟨#[103, 114, 111, 119, 110]⟩, .int .i64 (-1000 * (j : Int) - 500 - (q : Int)), .int .i64 0, .int .i64 0, .string ⟨#[]⟩] 43)
                        have hr := (World.rangeAt_alloc HRG.out (.cells #[.string ⟨#[103, 114, 111, 119, 110]⟩, .int .i64 (-1000 * (j : Int) - 500 - (q : Int)), .int .i64 0, .int .i64 0, .string ⟨#[]⟩] 43))
                        rw [show contR j N k = ⟨⟨#[103, 114, 111, 119, 110]⟩, -1000 * (j : Int) - 500 - (q : Int), 0, 0, ⟨#[]⟩⟩ from by unfold contR; rw [if_neg hkN, hq]; rfl] at hr
                        have hm1 := HM.out.below ((Below.refl wr.heap.size wr).alloc (Nat.le_refl _) (.cells #[.string ⟨#[103, 114, 111, 119, 110]⟩, .int .i64 (-1000 * (j : Int) - 500 - (q : Int)), .int .i64 0, .int .i64 0, .string ⟨#[]⟩] 43))
                        have hn1 := (heap_alloc_old wr (.cells #[.string ⟨#[103, 114, 111, 119, 110]⟩, .int .i64 (-1000 * (j : Int) - 500 - (q : Int)), .int .i64 0, .int .i64 0, .string ⟨#[]⟩] 43) (blk_lt HNA.out)).trans HNA.out
                        obtain ⟨w1, hw1⟩ : ∃ w1, wr.alloc (.cells #[.string (⟨#[103, 114, 111, 119, 110]⟩ : ByteArray), .int .i64 (-1000 * (j : Int) - 500 - (q : Int)), .int .i64 0, .int .i64 0, .string ⟨#[]⟩] 43) = w1 := ⟨_, rfl⟩
                        obtain ⟨X, hXX⟩ : ∃ X, wr.heap.size = X := ⟨_, rfl⟩
                        rw [hw1] at hX hr hm1 hn1 hcl1 ⊢
                        rw [hXX] at hX ⊢
                        obtain ⟨S, hS⟩ : ∃ S : ByteArray, (⟨#[103, 114, 111, 119, 110]⟩ : ByteArray) = S := ⟨_, rfl⟩
                        obtain ⟨E, hE⟩ : ∃ E : ByteArray, (⟨#[]⟩ : ByteArray) = E := ⟨_, rfl⟩
                        obtain ⟨V, hV⟩ : ∃ V : Int, -1000 * (j : Int) - 500 - (q : Int) = V := ⟨_, rfl⟩
                        rw [hS, hE, hV] at hX hr
                        have x0 : w1.cell? ⟨X, 0, none⟩ = some (.string S) := by simp only [World.cell?, hX]; rfl
                        have x1 : w1.cell? ⟨X, 1, none⟩ = some (.int .i64 V) := by simp only [World.cell?, hX]; rfl
                        have x2 : w1.cell? ⟨X, 2, none⟩ = some (.int .i64 0) := by simp only [World.cell?, hX]; rfl
                        have x3 : w1.cell? ⟨X, 3, none⟩ = some (.int .i64 0) := by simp only [World.cell?, hX]; rfl
                        have x4 : w1.cell? ⟨X, 4, none⟩ = some (.string E) := by simp only [World.cell?, hX]; rfl
                        have y0 : w1.cell? ⟨g, k * 5, none⟩ = some (.string S) := hr 0 _ rfl
                        have y1 : w1.cell? ⟨g, k * 5 + 1, none⟩ = some (.int .i64 V) := hr 1 _ rfl
                        have y2 : w1.cell? ⟨g, k * 5 + 2, none⟩ = some (.int .i64 0) := hr 2 _ rfl
                        have y3 : w1.cell? ⟨g, k * 5 + 3, none⟩ = some (.int .i64 0) := hr 3 _ rfl
                        have y4 : w1.cell? ⟨g, k * 5 + 4, none⟩ = some (.string E) := hr 4 _ rfl
                        have HM1 := Lib.hid hm1; have HN1 := Lib.hid hn1
                        clear hX hr hm1 hn1 hw1 hXX hS hE hV hst hnc hnc1 hcl HRG hkI hkN hst2 hqI hqb hq
                        trace "34"
                        go_wp2_with fail
                        go_quiet (fail)
                        trace "34b"
                        have HM2 := Lib.hid (HM1.out.below (bel_drewN (Below.refl _ _) nq))
                        go_wp2
                        have hkg := HK.out
                        go_roundg (gk - 1)
                        case rel => exact ⟨k + 1, by go_num, by omega, by omega, HM2, HN1⟩
                        case measure => omega
                    · have hke : k = T := by omega
                      subst hke
                      have hlI : ¬ (k : Int) < (k : Int) := by omega
                      clear hlt
                      trace "37"
                      go_wp2_with fail
                      have hjg := HJG.out
                      go_roundg (gk' - 1)
                      case rel => exact ⟨j + 1, by go_num, by omega, by omega, HM, HNA⟩
                      case measure => omega
                · have hje : j = 3 := by omega
                  subst hje
                  have hjI : ¬ ((3 : Nat) : Int) < 3 := by omega
                  clear hj3 hj hjg
                  trace "38"
                  go_wp2_with fail
                  go_ret
                  exact ⟨rfl, HM.out.st.eff⟩
end Go.Proofs.YtnamkladeaohoaaGreat.mark

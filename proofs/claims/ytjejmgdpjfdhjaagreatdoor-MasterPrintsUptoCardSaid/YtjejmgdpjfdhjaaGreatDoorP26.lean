/- gazetteersame: a twin of records, Whole on it: walks. -/
import Derived.Test.YtjejmgdpjfdhjaaGreatDoorP25
import Derived.Deep.RegionHeld3
namespace Go.Proofs.YtjejmgdpjfdhjaaGreatDoor.wholeR
open Go.RowKit Go.Proofs.YtjejmgdpjfdhjaaGreatDoor.kit Go.Proofs.YtjejmgdpjfdhjaaGreatDoor.timed Go.Proofs.YtjejmgdpjfdhjaaGreatDoor.nspec Go.Proofs.YtjejmgdpjfdhjaaGreatDoor.wireP Go.Proofs.YtjejmgdpjfdhjaaGreatDoor.wireM Go.Proofs.YtjejmgdpjfdhjaaGreatDoor.rows Go.Proofs.YtjejmgdpjfdhjaaGreatDoor.same
set_option linter.unusedVariables false

/-- a list of one's own with two behind its end -/
def TwR (w : World) (base : Nat) (a : Option Addr) (c : Nat) (L : List Rc) : Prop :=
  L.length + 2 ≤ c ∧ c ≤ maxLen ∧ (∃ g, a = some ⟨g, 0, none⟩) ∧ w.ownsRow base 47 5 (.slice a (L.length + 2) c) (L.length + 2) ((L ++ [spareR, spareR]).flatMap Rc.cells)
theorem TwR.move {w w1 : World} {base : Nat} {a : Option Addr} {c : Nat} {L : List Rc} (h : TwR w base a c L) (hk : ∀ (k : Nat) (cur : Array Value), w.heap[k]? = some (Obj.cells cur 47 (0, 0)) → w1.heap[k]? = some (Obj.cells cur 47 (0, 0))) : TwR w1 base a c L :=
  ⟨h.1, h.2.1, h.2.2.1, own_keptG h.2.2.2 hk⟩
theorem TwR.below {w w1 : World} {base : Nat} {a : Option Addr} {c : Nat} {L : List Rc} (h : TwR w base a c L) (hB : Below w.heap.size w w1) : TwR w1 base a c L :=
  h.move (fun k cur hk => (hB.block k (Array.getElem?_eq_some_iff.1 hk).1).trans hk)
theorem TwR.rd {w : World} {base : Nat} {a : Option Addr} {c : Nat} {L : List Rc} (h : TwR w base a c L) : RdC w a 5 (L.map Rc.cells) := by
  obtain ⟨a', c', e, _, _, _, h2⟩ := rdc_own Rc.cells 5 (fun _ => rfl) (by simp) h.2.2.2
  cases e
  rw [List.map_append] at h2
  exact rdc_part h2
theorem own_baseG {w : World} {b base : Nat} {e : TypeId} {size : Nat} {v : Value} {n : Nat} {xs : List Value} (hb : b ≤ base) (h : w.ownsRow base e size v n xs) : w.ownsRow b e size v n xs := by
  refine ⟨h.1, ?_⟩
  rcases h.2 with h1 | ⟨g, cap, cur, h1, h2, h3, h4⟩
  · exact .inl h1
  · exact .inr ⟨g, cap, cur, h1, by omega, h3, h4⟩
theorem twin_at (w0 : World) (a : Option Addr) (c : Nat) (L : List Rc) (hr : RdC w0 a 5 (L.map Rc.cells)) (ha : a = none → L.length = 0 ∧ c = 0) (hl : L.length ≤ 1099511627776) (w : World) (hB : Below w0.heap.size w0 w) :
    Calls Tryz.prog 7 #[.slice a L.length c] w fun e w' => ∃ g cap, e = .returned (.slice (some ⟨g, 0, none⟩) L.length cap) ∧ TwR w' w0.heap.size (some ⟨g, 0, none⟩) cap L ∧ Below w.heap.size w w' :=
  (twin_any a L.length c L w rfl (hr.below hB rfl) ha hl).mono fun e w' ⟨g, cap, h1, h2, h3, h4, h5⟩ => ⟨g, cap, h1, ⟨h2, h3, ⟨g, rfl⟩, own_baseG hB.size h4⟩, h5⟩
def Ten (w : World) (g n m : Nat) (S : ByteArray) : Prop :=
  w.cell? ⟨g, n * 5, none⟩ = some (.string S) ∧ w.cell? ⟨g, n * 5 + 1, none⟩ = some (.int .i64 (-77)) ∧ w.cell? ⟨g, n * 5 + 2, none⟩ = some (.int .i64 (-77)) ∧ w.cell? ⟨g, n * 5 + 3, none⟩ = some (.int .i64 (-77)) ∧ w.cell? ⟨g, n * 5 + 4, none⟩ = some (.string S) ∧
  w.cell? ⟨g, m * 5, none⟩ = some (.string S) ∧ w.cell? ⟨g, m * 5 + 1, none⟩ = some (.int .i64 (-77)) ∧ w.cell? ⟨g, m * 5 + 2, none⟩ = some (.int .i64 (-77)) ∧ w.cell? ⟨g, m * 5 + 3, none⟩ = some (.int .i64 (-77)) ∧ w.cell? ⟨g, m * 5 + 4, none⟩ = some (.string S)
theorem ten_of {w : World} {g n cap : Nat} {base : Nat} {L : List Rc} (hn : L.length = n) (h : w.ownsRow base 47 5 (.slice (some ⟨g, 0, none⟩) (n + 2) cap) (n + 2) ((L ++ [spareR, spareR]).flatMap Rc.cells)) : Ten w g n (n + 1) ⟨#[115, 112, 97, 114, 101]⟩ := by
  have hc : ∀ (k i : Nat) (u : Value), (L ++ [spareR, spareR])[k]? = some spareR → spareR.cells[i]? = some u → w.cell? ⟨g, k * 5 + i, none⟩ = some u := by
    intro k i u hk hi
    have h1 := h.cells (g := g) rfl (k * 5 + i) u (flat_at Rc.cells 5 (fun _ => rfl) _ k spareR i u hk hi)
    rw [addr_at, Nat.zero_add] at h1; exact h1
  have e1 : (L ++ [spareR, spareR])[n]? = some spareR := by rw [List.getElem?_append_right (by omega), hn, Nat.sub_self]; rfl
  have e2 : (L ++ [spareR, spareR])[n + 1]? = some spareR := by rw [List.getElem?_append_right (by omega), hn, Nat.add_sub_cancel_left]; rfl
  exact ⟨hc n 0 _ e1 rfl, hc n 1 _ e1 rfl, hc n 2 _ e1 rfl, hc n 3 _ e1 rfl, hc n 4 _ e1 rfl, hc (n + 1) 0 _ e2 rfl, hc (n + 1) 1 _ e2 rfl, hc (n + 1) 2 _ e2 rfl, hc (n + 1) 3 _ e2 rfl, hc (n + 1) 4 _ e2 rfl⟩
theorem Ten.below {w w' : World} {g n m : Nat} {S : ByteArray} (h : Ten w g n m S) (hg : g < w.heap.size) (hB : Below w.heap.size w w') : Ten w' g n m S := by
  have hc : ∀ j, w'.cell? ⟨g, j, none⟩ = w.cell? ⟨g, j, none⟩ := fun j => hB.cell (p := ⟨g, j, none⟩) hg
  obtain ⟨h0, h1, h2, h3, h4, h5, h6, h7, h8, h9⟩ := h
  exact ⟨(hc _).trans h0, (hc _).trans h1, (hc _).trans h2, (hc _).trans h3, (hc _).trans h4, (hc _).trans h5, (hc _).trans h6, (hc _).trans h7, (hc _).trans h8, (hc _).trans h9⟩
theorem ten_keep {w w' : World} {g n m : Nat} {S : ByteArray} (h : Ten w g n m S) (hg : g < w.heap.size) (hB : Below w.heap.size w w') :
    w'.cell? ⟨g, n * 5, none⟩ = some (.string S) ∧ w'.cell? ⟨g, n * 5 + 1, none⟩ = some (.int .i64 (-77)) ∧ w'.cell? ⟨g, n * 5 + 2, none⟩ = some (.int .i64 (-77)) ∧ w'.cell? ⟨g, n * 5 + 3, none⟩ = some (.int .i64 (-77)) ∧ w'.cell? ⟨g, n * 5 + 4, none⟩ = some (.string S) ∧
    w'.cell? ⟨g, m * 5, none⟩ = some (.string S) ∧ w'.cell? ⟨g, m * 5 + 1, none⟩ = some (.int .i64 (-77)) ∧ w'.cell? ⟨g, m * 5 + 2, none⟩ = some (.int .i64 (-77)) ∧ w'.cell? ⟨g, m * 5 + 3, none⟩ = some (.int .i64 (-77)) ∧ w'.cell? ⟨g, m * 5 + 4, none⟩ = some (.string S) ∧ Below w.heap.size w w' := by
  obtain ⟨h0, h1, h2, h3, h4, h5, h6, h7, h8, h9⟩ := h.below hg hB
  exact ⟨h0, h1, h2, h3, h4, h5, h6, h7, h8, h9, hB⟩

set_option maxRecDepth 100000 in
set_option maxHeartbeats 8000000 in
theorem whole_any (a b : Option Addr) (c d base : Nat) (L : List Rc) (w : World) (h : TwR w base a c L) (hy : RdC w b 5 (L.map Rc.cells)) (hl : L.length ≤ 1099511627776) :
    Calls Tryz.prog 10 #[.slice a L.length c, .slice b L.length d] w fun e w' => e = .returned (.bool true) ∧ Below w.heap.size w w' := by
  have hrd := h.rd
  obtain ⟨hc1, hc2, ⟨g, rfl⟩, how⟩ := h
  have CR := Lib.hid (fun (wx : World) (hB : Below w.heap.size w wx) => records_same (some ⟨g, 0, none⟩) b L.length c d L wx rfl (hrd.below hB rfl) (hy.below hB rfl) hl)
  obtain ⟨g', cap', hv, hg1, hg2, _⟩ := own_at how (by omega)
  cases hv
  have HT0 := Lib.hid (ten_of rfl how)
  have CS := Lib.hid (fun w => spare_any w)
  obtain ⟨S, hS⟩ : ∃ S : ByteArray, (⟨#[115, 112, 97, 114, 101]⟩ : ByteArray) = S := ⟨_, rfl⟩
  rw [hS] at HT0 CS
  obtain ⟨n, hn⟩ : ∃ n, L.length = n := ⟨_, rfl⟩
  rw [hn] at CR HT0 hc1 hl ⊢
  obtain ⟨N1, hN1⟩ : ∃ N1, n + 1 = N1 := ⟨_, rfl⟩
  rw [hN1] at HT0
  have hcm : (c : Int) ≤ 9223372036854775807 := by unfold maxLen at hc2; omega
  have hnc : (n : Int) + 2 ≤ (c : Int) := by omega
  clear hrd hy how hS hn
  go_enter Tryz.func10, Tryz.ntmps10
  go_wp2_with fail
  obtain ⟨N2, hN2⟩ : ∃ N2, n + 2 = N2 := ⟨_, rfl⟩
  rw [hN2]
  have i1 : (n : Int) < (N2 : Int) := by omega
  have i2 : (N1 : Int) < (N2 : Int) := by omega
  have hN2b : N2 ≤ 1099511627800 := by omega
  have hv4 : IntKind.i64.wrap (N1 : Int) = (N1 : Int) := IntWalk.i64_in _ (by omega)
  have hv5 : IntKind.i64.wrap (n : Int) = (n : Int) := IntWalk.i64_in _ (by omega)
  have hv3 : IntKind.i64.wrap ((n : Int) + 1) = (N1 : Int) := by rw [IntWalk.i64_in _ (by omega)]; omega
  clear hN1 hN2
  have z1 : (0 : Int) ≤ (N1 : Int) := Int.natCast_nonneg _
  have z2 : (0 : Int) ≤ (n : Int) := Int.natCast_nonneg _
  have hBd : Below w.heap.size w w.drew := (Below.refl _ _).drew
  have hS0 := ten_keep HT0.out hg2 hBd
  go_region_held3 (fun w' => w'.cell? ⟨g, n * 5, none⟩ = some (.string S) ∧ w'.cell? ⟨g, n * 5 + 1, none⟩ = some (.int .i64 (-77)) ∧ w'.cell? ⟨g, n * 5 + 2, none⟩ = some (.int .i64 (-77)) ∧ w'.cell? ⟨g, n * 5 + 3, none⟩ = some (.int .i64 (-77)) ∧ w'.cell? ⟨g, n * 5 + 4, none⟩ = some (.string S) ∧
    w'.cell? ⟨g, N1 * 5, none⟩ = some (.string S) ∧ w'.cell? ⟨g, N1 * 5 + 1, none⟩ = some (.int .i64 (-77)) ∧ w'.cell? ⟨g, N1 * 5 + 2, none⟩ = some (.int .i64 (-77)) ∧ w'.cell? ⟨g, N1 * 5 + 3, none⟩ = some (.int .i64 (-77)) ∧ w'.cell? ⟨g, N1 * 5 + 4, none⟩ = some (.string S) ∧ Below w.heap.size w w') (first | assumption | (refine ⟨?_, ?_, ?_, ?_, ?_, ?_, ?_, ?_, ?_, ?_, ?_⟩ <;> assumption))
    (first
      | (go_at_call 36; refine (CR.out _ (by assumption)).mono ?_; rintro e w' ⟨rfl, hBz⟩; have hBy := Below.trans (by assumption) (hBz.mono (Below.size (by assumption))); have hSz := ten_keep HT0.out hg2 hBy; clear hBz)
      | (go_at_call 23; refine (CS.out _).mono ?_; rintro e w' ⟨rfl, hBz⟩; have hBy := Below.trans (by assumption) (hBz.mono (Below.size (by assumption))); have hSz := ten_keep HT0.out hg2 hBy; clear hBz))
  all_goals (go_wp2_with fail; go_ret; exact ⟨rfl, by assumption⟩)

end Go.Proofs.YtjejmgdpjfdhjaaGreatDoor.wholeR

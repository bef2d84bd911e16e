/- wire.Pack: walk. How long a message is: plain. -/
import Derived.Test.YtabhiangjomaeaaU13
namespace Go.Proofs.Ytabhiangjomaeaa.wpack
open Go.RowKit Go.Maps Go.Proofs.Ytabhiangjomaeaa.kit Go.Proofs.Ytabhiangjomaeaa.timed Go.Proofs.Ytabhiangjomaeaa.takes Go.Proofs.Ytabhiangjomaeaa.nspec Go.Proofs.Ytabhiangjomaeaa.rsplit Go.Proofs.Ytabhiangjomaeaa.check Go.Proofs.Ytabhiangjomaeaa.bits Go.Proofs.Ytabhiangjomaeaa.bld Go.Proofs.Ytabhiangjomaeaa.coded Go.Proofs.Ytabhiangjomaeaa.fld Go.Proofs.Ytabhiangjomaeaa.wireP Go.Proofs.Ytabhiangjomaeaa.wireR Go.Proofs.Ytabhiangjomaeaa.wireM Go.Proofs.Ytabhiangjomaeaa.wireC Go.Proofs.Ytabhiangjomaeaa.packP Go.Proofs.Ytabhiangjomaeaa.buf Go.Proofs.Ytabhiangjomaeaa.pname Go.Proofs.Ytabhiangjomaeaa.psmall Go.Proofs.Ytabhiangjomaeaa.fits Go.Proofs.Ytabhiangjomaeaa.pdata Go.Proofs.Ytabhiangjomaeaa.signs Go.Proofs.Ytabhiangjomaeaa.cloneB
set_option linter.unusedVariables false

theorem right_use {x : Rc} (h : rightB x = true) : (∃ ls, IsN x.o.data.toList ls) ∧ 0 ≤ x.l ∧ x.l ≤ 4294967295 ∧ x.d.size ≤ 65535 ∧ (x.d.size ≠ 0 → Fits (fieldsW x.t) x.d.data.toList) := by
  simp only [rightB, Bool.and_eq_true] at h
  obtain ⟨h1, h2, h3, h4, h5⟩ := h
  have hl : 0 ≤ x.l ∧ x.l ≤ 4294967295 := by simpa [inB] using h4
  refine ⟨?_, hl.1, hl.2, ?_, ?_⟩
  · rcases isB_or x.o with h | h
    · exact h
    · rw [isB_no h] at h1; cases h1
  · split at h5
    · simpa using h5
    · rcases Bool.or_eq_true _ _ ▸ h5 with h | h
      · simp only [emptyB, Bool.and_eq_true, decide_eq_true_eq] at h; omega
      · have h := of_decide_eq_true h
        unfold checkS at h
        split at h
        · omega
        split at h
        · omega
        · rw [← size_len]; omega
  · intro hd
    split at h5
    · rename_i h41
      have e : fieldsW x.t = [] := by rw [h41]; rfl
      rw [e]; trivial
    · rcases Bool.or_eq_true _ _ ▸ h5 with h | h
      · simp only [emptyB, Bool.and_eq_true, decide_eq_true_eq] at h; omega
      · exact fits_w (of_decide_eq_true h)
theorem check_use {m : Mg} (h : checkB m = true) : 0 ≤ m.op ∧ m.op ≤ 15 ∧ 0 ≤ m.rc ∧ m.rc ≤ 15 := by
  simp only [checkB, Bool.and_eq_true] at h
  have h1 : 0 ≤ m.op ∧ m.op ≤ 15 := by simpa [inB] using h.2.1
  have h2 : 0 ≤ m.rc ∧ m.rc ≤ 15 := by simpa [inB] using h.2.2.1
  exact ⟨h1.1, h1.2, h2.1, h2.2⟩
theorem check_len {m : Mg} (h : checkB m = true) : m.qs.length ≤ 65535 ∧ m.qs.all rightQ = true ∧ m.an.all rightB = true ∧ m.au.all rightB = true ∧ m.ar.all rightB = true := by
  simp only [checkB, Bool.and_eq_true] at h
  obtain ⟨_, _, _, h1, h2, h3, h4, h5⟩ := h
  exact ⟨(of_decide_eq_true h1).1, h2, h3, h4, h5⟩
theorem q_use {x : Qn} (h : rightQ x = true) : (∃ ls, IsN x.n.data.toList ls) := by
  simp only [rightQ, Bool.and_eq_true] at h
  rcases isB_or x.n with h1 | h1
  · exact h1
  · rw [isB_no h1] at h; cases h.1
theorem is_len {n : ByteArray} {ls : List Bs} (h : IsN n.data.toList ls) : n.size ≤ 255 := by rw [← size_len]; exact h.2.2
theorem nameP_few' {n : Bs} {ls : List Bs} (h : IsN n ls) {p : Pp} (hp : p.N.length ≤ p.out.length) : (nameP n p).N.length ≤ (nameP n p).out.length := by
  rw [h.1]; exact nameP_few ls p h.2.1 hp
theorem Pp.few_out {p : Pp} (l : Bs) (h : p.N.length ≤ p.out.length) : p.N.length ≤ (p.out ++ l).length := by rw [List.length_append]; omega
theorem u16_p (b0 B M : Nat) (v : Value) (p : Pp) (b : Int) (w : World) (h : Paper w b0 B M v p) (hl : p.out.length ≤ 1099511627776) :
    Calls Try.prog 43 #[.pointer (some ⟨B, 0, none⟩), .int .i64 b] w fun e w' => e = .returned (.tuple #[]) ∧ ∃ v', Paper w' b0 B M v' ⟨p.out ++ be2 b, p.N⟩ ∧ Eff b0 (Two B M) w w' :=
  (u16_any b0 B v _ p.out b w h.buf hl).mono fun e w' ⟨h1, v', h2, h3⟩ => ⟨h1, v', h.wrote h2 h3 (by simp), h3.wider (fun k hk => .inl hk)⟩
theorem u32_p (b0 B M : Nat) (v : Value) (p : Pp) (b : Int) (w : World) (h : Paper w b0 B M v p) (hl : p.out.length ≤ 549755813888) (hb0 : 0 ≤ b) (hb1 : b ≤ 4294967295) :
    Calls Try.prog 46 #[.pointer (some ⟨B, 0, none⟩), .int .i64 b] w fun e w' => e = .returned (.tuple #[]) ∧ ∃ v', Paper w' b0 B M v' ⟨p.out ++ be4 b, p.N⟩ ∧ Eff b0 (Two B M) w w' :=
  (u32_any b0 B v _ p.out b w h.buf hl hb0 hb1).mono fun e w' ⟨h1, v', h2, h3⟩ => ⟨h1, v', h.wrote h2 h3 (by simp), h3.wider (fun k hk => .inl hk)⟩
theorem _root_.Go.Proofs.Ytabhiangjomaeaa.pname.Paper.kept {w w1 : World} {b0 B M : Nat} {v : Value} {p : Pp} (h : Paper w b0 B M v p) (hB : Below w.heap.size w w1) : Paper w1 b0 B M v p := by
  obtain ⟨D, ⟨es, clock, hM, hrest⟩, hT⟩ := h.map
  exact ⟨h.buf.kept hB, ⟨D, ⟨es, clock, (hB.block M (Array.getElem?_eq_some_iff.1 hM).1).trans hM, hrest⟩, hT⟩, h.near, h.low, h.ne, h.few⟩
/-- a message's block -/
def MsgAt (w : World) (B : Nat) (p : Pl) (m : Mg) : Prop := w.heap[B]? = some (.cells (cellsM p m) 37 (0, 0))
theorem notU8_msg {c : Array Value} {f : Nat × Nat} : NotU8 (.cells c 37 f) := by
  intro cur f' e; injection e with _ e2 _; exact absurd e2 (by decide)
theorem notU8_sec {c : Array Value} {f : Nat × Nat} : NotU8 (.cells c 92 f) := by
  intro cur f' e; injection e with _ e2 _; exact absurd e2 (by decide)
theorem notU8_q {c : Array Value} {f : Nat × Nat} : NotU8 (.cells c 50 f) := by
  intro cur f' e; injection e with _ e2 _; exact absurd e2 (by decide)
theorem MsgAt.box {w : World} {B : Nat} {p : Pl} {m : Mg} (h : MsgAt w B p m) : BoxM w B p m := by
  have hl := (Array.getElem?_eq_some_iff.1 h).1
  have hb : w.heap[B]? = some (.cells #[.int .i64 m.id, .bool m.rs, .int .i64 m.op, .bool m.aa, .bool m.tc, .bool m.rd, .bool m.ra, .bool m.ad, .bool m.cd, .int .i64 m.rc, .slice p.qa m.qs.length p.qc, .slice p.na m.an.length p.nc, .slice p.ua m.au.length p.uc, .slice p.ra m.ar.length p.rc] 37 (0, 0)) := h
  constructor
  · exact hl
  all_goals (simp only [World.cell?, hb]; rfl)
theorem MsgAt.eff {w w1 : World} {b0 B : Nat} {T : Nat → Prop} {p : Pl} {m : Mg} (h : MsgAt w B p m) (he : Eff b0 T w w1) (hT : ¬ T B) : MsgAt w1 B p m := he.kept _ _ h notU8_msg hT
theorem MsgAt.below {w w1 : World} {B N : Nat} {p : Pl} {m : Mg} (h : MsgAt w B p m) (he : Below N w w1) (hl : B < N) : MsgAt w1 B p m := (he.block B hl).trans h
/-- the three lists' block -/
def SecAt (w : World) (S : Nat) (a b c : Value) : Prop := w.heap[S]? = some (.cells #[a, b, c] 92 (0, 0))
theorem SecAt.eff {w w1 : World} {b0 S : Nat} {T : Nat → Prop} {a b c : Value} (h : SecAt w S a b c) (he : Eff b0 T w w1) (hT : ¬ T S) : SecAt w1 S a b c := he.kept _ _ h notU8_sec hT
theorem SecAt.c {w : World} {S : Nat} {a b c : Value} (h : SecAt w S a b c) : w.cell? ⟨S, 0, none⟩ = some a ∧ w.cell? ⟨S, 1, none⟩ = some b ∧ w.cell? ⟨S, 2, none⟩ = some c := by
  unfold SecAt at h
  refine ⟨?_, ?_, ?_⟩ <;> (simp only [World.cell?, h]; rfl)
/-- the walk under way: paper, message, lists -/
structure Und (w1 wx : World) (b0 B M S : Nat) (p : Pl) (m : Mg) (v : Value) (q : Pp) : Prop where
  paper : Paper wx b0 B M v q
  eff : Eff b0 (Two B M) w1 wx
  msg : MsgAt wx b0 p m
  sec : SecAt wx S (.slice p.na m.an.length p.nc) (.slice p.ua m.au.length p.uc) (.slice p.ra m.ar.length p.rc)
  t0 : ¬ Two B M b0
  t1 : ¬ Two B M S
theorem Und.step {w1 wx wy : World} {b0 B M S : Nat} {p : Pl} {m : Mg} {v v' : Value} {q q' : Pp} (h : Und w1 wx b0 B M S p m v q) (hp : Paper wy b0 B M v' q') (he : Eff b0 (Two B M) wx wy) : Und w1 wy b0 B M S p m v' q' :=
  ⟨hp, h.eff.trans he, h.msg.eff he h.t0, h.sec.eff he h.t1, h.t0, h.t1⟩
theorem Und.low {w1 wx : World} {b0 B M S : Nat} {p : Pl} {m : Mg} {v : Value} {q : Pp} (h : Und w1 wx b0 B M S p m v q) : b0 ≤ wx.heap.size := by
  have := h.paper.buf.low; have := h.paper.buf.lt; omega
theorem Und.alloc {w1 wx : World} {b0 B M S : Nat} {p : Pl} {m : Mg} {v : Value} {q : Pp} (h : Und w1 wx b0 B M S p m v q) (o : Obj) : Und w1 (wx.alloc o) b0 B M S p m v q :=
  h.step (h.paper.alloc o) (Eff.of_below ((Below.refl _ _).alloc (Nat.le_refl _) _) h.low)
def QAt (w : World) (b : Nat) (x : Qn) : Prop := w.heap[b]? = some (.cells #[.string x.n, .int .i64 x.t, .int .i64 x.c] 50 (0, 0))
theorem QAt.eff {w w1 : World} {b0 b : Nat} {T : Nat → Prop} {x : Qn} (h : QAt w b x) (he : Eff b0 T w w1) (hT : ¬ T b) : QAt w1 b x := he.kept _ _ h notU8_q hT
theorem QAt.c {w : World} {b : Nat} {x : Qn} (h : QAt w b x) : w.cell? ⟨b, 0, none⟩ = some (.string x.n) ∧ w.cell? ⟨b, 1, none⟩ = some (.int .i64 x.t) ∧ w.cell? ⟨b, 2, none⟩ = some (.int .i64 x.c) := by
  unfold QAt at h
  refine ⟨?_, ?_, ?_⟩ <;> (simp only [World.cell?, h]; rfl)
def RAt (w : World) (b : Nat) (x : Rc) : Prop := w.heap[b]? = some (.cells #[.string x.o, .int .i64 x.t, .int .i64 x.c, .int .i64 x.l, .string x.d] 52 (0, 0))
theorem RAt.eff {w w1 : World} {b0 b : Nat} {T : Nat → Prop} {x : Rc} (h : RAt w b x) (he : Eff b0 T w w1) (hT : ¬ T b) : RAt w1 b x := he.kept _ _ h notU8_record hT
theorem RAt.c {w : World} {b : Nat} {x : Rc} (h : RAt w b x) : w.cell? ⟨b, 0, none⟩ = some (.string x.o) ∧ w.cell? ⟨b, 1, none⟩ = some (.int .i64 x.t) ∧ w.cell? ⟨b, 2, none⟩ = some (.int .i64 x.c) ∧ w.cell? ⟨b, 3, none⟩ = some (.int .i64 x.l) ∧ w.cell? ⟨b, 4, none⟩ = some (.string x.d) := by
  unfold RAt at h
  refine ⟨?_, ?_, ?_, ?_, ?_⟩ <;> (simp only [World.cell?, h]; rfl)
theorem _root_.Go.Proofs.Ytabhiangjomaeaa.pname.Paper.two {w : World} {b0 B M : Nat} {v : Value} {q : Pp} (h : Paper w b0 B M v q) : ¬ Two B M w.heap.size := by
  have h1 := h.buf.lt
  obtain ⟨D, ⟨es, clock, h2, _⟩, _⟩ := h.map
  have := (Array.getElem?_eq_some_iff.1 h2).1
  rintro (h | h) <;> omega
def secH (m : Mg) : Nat → Bs
  | 0 => []
  | s + 1 => secH m s ++ be2 ((secL m s).length : Int)
theorem secH_len (m : Mg) : ∀ s, (secH m s).length = 2 * s
  | 0 => rfl
  | s + 1 => by simp only [secH, List.length_append, secH_len m s, be2, List.length_cons, List.length_nil]; omega
def restL (m : Mg) : Nat → List Rc
  | 0 => m.an ++ m.au ++ m.ar
  | 1 => m.au ++ m.ar
  | 2 => m.ar
  | _ => []
theorem restL_step (m : Mg) (s : Nat) (h : s < 3) : restL m s = secL m s ++ restL m (s + 1) := by
  match s, h with
  | 0, _ => simp [restL, secL]
  | 1, _ => simp [restL, secL]
  | 2, _ => simp [restL, secL]
theorem dataP_few : ∀ (fs : List (Option Nat)) (d : Bs) (p : Pp), Fits fs d → p.N.length ≤ p.out.length → (dataP fs d p).N.length ≤ (dataP fs d p).out.length
  | [], d, p, _, h => by simp only [dataP, List.length_append]; omega
  | none :: fs, d, p, hf, h => by
    obtain ⟨ls, d', h1, h2, h3, h4⟩ := hf
    simp only [dataP]
    have e1 : d.take (nameSz d) = put ls := by rw [h3, nameSz_put ls d' h1, List.take_left]
    have e2 : d.drop (nameSz d) = d' := by rw [h3, nameSz_put ls d' h1, List.drop_left]
    rw [e1, e2]
    exact dataP_few fs d' _ h4 (nameP_few ls p h1 h)
  | some k :: fs, d, p, hf, h => by
    simp only [dataP]
    exact dataP_few fs _ _ hf.2 (by simp only [List.length_append]; omega)
/-- what the walk of a record's data leaves is what recP says -/
theorem recP_eq (x : Rc) (p : Pp) (q1 : Pp) (h : q1 = ⟨(nameP x.o.data.toList p).out ++ (be2 x.t ++ be2 x.c ++ be4 x.l), (nameP x.o.data.toList p).N⟩) :
    (⟨patch (dataP (if x.d.size = 0 then [] else fieldsW x.t) x.d.data.toList ⟨q1.out ++ [0, 0], q1.N⟩).out q1.out.length (((dataP (if x.d.size = 0 then [] else fieldsW x.t) x.d.data.toList ⟨q1.out ++ [0, 0], q1.N⟩).out.length : Int) - q1.out.length - 2), (dataP (if x.d.size = 0 then [] else fieldsW x.t) x.d.data.toList ⟨q1.out ++ [0, 0], q1.N⟩).N⟩ : Pp) = recP x p := by
  subst h
  unfold recP
  by_cases hd : x.d.size = 0
  · simp only [if_pos hd]
  · simp only [if_neg hd]
    rw [data_w]
theorem dataP_up : ∀ (fs : List (Option Nat)) (d : Bs) (p : Pp), (dataP fs d p).out.length ≤ p.out.length + d.length + 2 * fs.length
  | [], d, p => by simp [dataP]
  | none :: fs, d, p => by
    simp only [dataP]
    have h1 := dataP_up fs (d.drop (nameSz d)) (nameP (d.take (nameSz d)) p)
    have h2 := (nameF_len ((d.take (nameSz d)).length + 1) (d.take (nameSz d)) p).1
    rw [List.length_drop] at h1
    simp only [List.length_take] at h2
    unfold nameP at h1 ⊢
    simp only [List.length_take, List.length_cons] at h1 ⊢
    omega
  | some k :: fs, d, p => by
    simp only [dataP]
    have h1 := dataP_up fs (d.drop k) ⟨p.out ++ d.take k, p.N⟩
    simp only [List.length_drop, List.length_append, List.length_take, List.length_cons] at h1 ⊢
    omega
theorem patch_len (o : Bs) (k : Nat) (n : Int) : (patch o k n).length = o.length := by simp [patch]
theorem recP_len (x : Rc) (p : Pp) : p.out.length ≤ (recP x p).out.length := by
  unfold recP
  simp only [patch_len]
  refine Nat.le_trans ?_ (dataP_len _ _ _)
  have := (nameF_len (x.o.data.toList.length + 1) x.o.data.toList p).2
  simp only [List.length_append]
  unfold nameP; omega
def outG : Option Pp → Bs × Int
  | none => ([], 12)
  | some p => (p.out, 0)
theorem pack_out {m : Mg} (hc : checkB m = true) : packS m = outG (recsP (restL m 0) (m.qs.foldl (fun p x => quesP x p) ⟨headP m, []⟩)) := by
  unfold packS
  rw [if_neg (by rw [hc]; simp)]
  unfold packP restL
  cases recsP (m.an ++ m.au ++ m.ar) (m.qs.foldl (fun p x => quesP x p) ⟨headP m, []⟩) <;> rfl
theorem short_len (t : Int) : (shortL t).length ≤ 3 := by
  unfold shortL; (repeat' split) <;> simp
theorem recP_up (x : Rc) (p : Pp) (ho : x.o.size ≤ 255) (hd : x.d.size ≤ 65535) : (recP x p).out.length ≤ p.out.length + 70000 := by
  unfold recP
  simp only [patch_len]
  refine Nat.le_trans (dataP_up _ _ _) ?_
  have h := (nameF_len (x.o.data.toList.length + 1) x.o.data.toList p).1
  have hs : (if x.d.size = 0 then [] else shortL x.t).length ≤ 3 := by
    split
    · simp
    · exact short_len _
  simp only [size_len] at h
  unfold nameP
  simp only [List.length_append, be4, be2, List.length_cons, List.length_nil, size_len]
  omega
theorem recsP_big {q : Pp} (h : 65535 < q.out.length) : ∀ L, recsP L q = none
  | [] => by simp only [recsP, if_pos h]
  | x :: L => by simp only [recsP, if_pos h]
theorem recsP_go {q : Pp} {x : Rc} {L : List Rc} (h : ¬ 65535 < q.out.length) : recsP (x :: L) q = recsP L (recP x q) := by simp only [recsP, if_neg h]
theorem recP_few (x : Rc) (p : Pp) (h : rightB x = true) (hp : p.N.length ≤ p.out.length) : (recP x p).N.length ≤ (recP x p).out.length := by
  obtain ⟨⟨ls, hls⟩, _, _, _, hf⟩ := right_use h
  rw [← recP_eq x p _ rfl]
  simp only [patch_len]
  apply dataP_few
  · split
    · trivial
    · exact hf (by assumption)
  · have := nameP_few' hls hp
    simp only [List.length_append]; omega
theorem quesP_len (x : Qn) (p : Pp) : p.out.length ≤ (quesP x p).out.length ∧ (quesP x p).out.length ≤ p.out.length + x.n.size + 6 := by
  have := nameF_len (x.n.data.toList.length + 1) x.n.data.toList p
  rw [size_len] at this
  unfold quesP
  simp only [List.length_append, be2, List.length_cons, List.length_nil]
  unfold nameP; rw [size_len]; omega
theorem quesP_few (x : Qn) (p : Pp) (h : rightQ x = true) (hp : p.N.length ≤ p.out.length) : (quesP x p).N.length ≤ (quesP x p).out.length := by
  obtain ⟨ls, hls⟩ := q_use h
  have := nameP_few' hls hp
  unfold quesP
  simp only [List.length_append]; omega
theorem own_base {w : World} {b base : Nat} {e : TypeId} {size : Nat} {v : Value} {n : Nat} {xs : List Value} (hb : b ≤ base) (h : w.ownsRow base e size v n xs) : w.ownsRow b e size v n xs := by
  refine ⟨h.1, ?_⟩
  rcases h.2 with h1 | ⟨g, cap, cur, h1, h2, h3, h4⟩
  · exact .inl h1
  · exact .inr ⟨g, cap, cur, h1, by omega, h3, h4⟩
theorem paper_made (w : World) (b0 : Nat) (h : b0 ≤ w.heap.size) : Paper ((w.alloc (.map #[] 0)).alloc (.cells #[.slice none 0 0, .map (some w.heap.size)] 90)) b0 (w.heap.size + 1) w.heap.size (.slice none 0 0) ⟨[], []⟩ := by
  have hsz : (w.alloc (.map #[] 0)).heap.size = w.heap.size + 1 := by simp
  have hb := heap_alloc_new (w.alloc (.map #[] 0)) (.cells #[.slice none 0 0, .map (some w.heap.size)] 90)
  rw [hsz] at hb
  exact ⟨⟨hb, World.ownsRow_nil _ _ _ _, by omega⟩, ⟨.map [], (World.ownsMap_made w _ _ _).alloc _, Tied.nil⟩, Near.nil, h, by omega, by simp⟩

set_option maxRecDepth 100000 in
set_option maxHeartbeats 8000000 in
theorem wpack_any (p : Pl) (m : Mg) (w : World) (hm : RdM w p m) (ho : OkW m) :
    Calls Try.prog 18 #[.agg #[.int .i64 m.id, .bool m.rs, .int .i64 m.op, .bool m.aa, .bool m.tc, .bool m.rd, .bool m.ra, .bool m.ad, .bool m.cd, .int .i64 m.rc, .slice p.qa m.qs.length p.qc, .slice p.na m.an.length p.nc, .slice p.ua m.au.length p.uc, .slice p.ra m.ar.length p.rc]] w fun e w' =>
      ∃ v, e = .returned (.tuple #[v, .int .i64 (packS m).2]) ∧ w'.ownsRow w.heap.size 5 1 v (packS m).1.length (Lib.byteCells (packS m).1) ∧ Below w.heap.size w w' := by
  have CK := Lib.hid (fun w hm => wcheck_any p m w hm ho)
  have HM := Lib.hid hm; have HO := Lib.hid ho
  have hbox := BoxM.fresh w 37 _ rfl p m
  obtain ⟨P, hP⟩ : ∃ P, P = p := ⟨_, rfl⟩
  have HPP := Lib.hid hP
  obtain ⟨qa, qc, na, nc, ua, uc, ra, rcc⟩ := p
  dsimp only at hbox CK ⊢
  have hbel := (Below.refl w.heap.size w).alloc (Nat.le_refl _) (.cells #[.int .i64 m.id, .bool m.rs, .int .i64 m.op, .bool m.aa, .bool m.tc, .bool m.rd, .bool m.ra, .bool m.ad, .bool m.cd, .int .i64 m.rc, .slice qa m.qs.length qc, .slice na m.an.length nc, .slice ua m.au.length uc, .slice ra m.ar.length rcc] 37)
  obtain ⟨R, HR⟩ : ∃ R, Hid (packS m = R) := ⟨_, Lib.hid rfl⟩
  rw [HR.out]
  clear hm ho hP
  go_enter Try.func18, Try.ntmps18
  go_upto_region 1 with (fail)
  have HMSG0 : Hid (MsgAt (w.alloc (.cells #[.int .i64 m.id, .bool m.rs, .int .i64 m.op, .bool m.aa, .bool m.tc, .bool m.rd, .bool m.ra, .bool m.ad, .bool m.cd, .int .i64 m.rc, .slice qa m.qs.length qc, .slice na m.an.length nc, .slice ua m.au.length uc, .slice ra m.ar.length rcc] 37)) w.heap.size ⟨qa, qc, na, nc, ua, uc, ra, rcc⟩ m) := Lib.hid (heap_alloc_new _ _)
  obtain ⟨w0, hw0⟩ : ∃ w0, w.alloc (.cells #[.int .i64 m.id, .bool m.rs, .int .i64 m.op, .bool m.aa, .bool m.tc, .bool m.rd, .bool m.ra, .bool m.ad, .bool m.cd, .int .i64 m.rc, .slice qa m.qs.length qc, .slice na m.an.length nc, .slice ua m.au.length uc, .slice ra m.ar.length rcc] 37) = w0 := ⟨_, rfl⟩
  rw [hw0] at hbox hbel HMSG0 ⊢
  have HBOX := Lib.hid hbox; have HBEL := Lib.hid hbel
  have b0 := hbox.c0; have b1 := hbox.c1; have b2 := hbox.c2; have b3 := hbox.c3; have b4 := hbox.c4; have b5 := hbox.c5; have b6 := hbox.c6; have b7 := hbox.c7; have b8 := hbox.c8; have b9 := hbox.c9; have b10 := hbox.c10; have b11 := hbox.c11; have b12 := hbox.c12; have b13 := hbox.c13
  dsimp only at b10 b11 b12 b13
  have CK1 := Lib.hid (CK.out w0 (HM.out.below hbel rfl))
  clear hbox hbel hw0 CK
  by_cases hc : checkB m = true
  · have hcE : (if checkB m then (0 : Int) else 8) = 0 := by rw [if_pos hc]
    rw [hcE] at CK1
    go_wp2_with fail
    refine CK1.out.mono ?_
    rintro e w1 ⟨rfl, hB1⟩
    have HMSG := Lib.hid (HMSG0.out.below hB1 HBOX.out.lt)
    have HB1 := Lib.hid (HBEL.out.trans (hB1.mono HBEL.out.size))
    clear b0 b1 b2 b3 b4 b5 b6 b7 b8 b9 b10 b11 b12 b13
    have hmm := @run_makeMap Try.prog
    have hw01 : w.heap.size < w1.heap.size := Nat.lt_of_lt_of_le HBOX.out.lt hB1.size
    have hpk := paper_made w1 w.heap.size (by omega)
    have HE1 : Hid (Eff w.heap.size (Two (w1.heap.size + 1) w1.heap.size) w1 ((w1.alloc (.map #[] 0)).alloc (.cells #[.slice none 0 0, .map (some w1.heap.size)] 90))) := Lib.hid (Eff.of_below (((Below.refl _ _).alloc (Nat.le_refl _) _).alloc (by simp) _) (by omega))
    clear hB1
    go_upto_region 4 with (fail)
    obtain ⟨w2, hw2⟩ : ∃ w2, (w1.alloc (.map #[] 0)).alloc (.cells #[.slice none 0 0, .map (some w1.heap.size)] 90) = w2 := ⟨_, rfl⟩
    rw [hw2] at hpk HE1 ⊢
    obtain ⟨M, hM⟩ : ∃ M, w1.heap.size = M := ⟨_, rfl⟩
    rw [hM] at hpk HE1 hw01 ⊢
    obtain ⟨B, hB⟩ : ∃ B, M + 1 = B := ⟨_, rfl⟩
    rw [hB] at hpk HE1 ⊢
    have HT : Hid (¬ Two B M w.heap.size) := Lib.hid (by rintro (h | h) <;> omega)
    have HMS := Lib.hid (HMSG.out.eff HE1.out HT.out)
    have hx := HMS.out.box
    have b0 := hx.c0
    have C0 := Lib.hid (u16_p w.heap.size B M _ ⟨[], []⟩ m.id w2 hpk (by simp))
    clear hx hw2 hpk hM
    go_wp2_with fail
    refine C0.out.mono ?_
    rintro e w3 ⟨rfl, v3, hp3, he3⟩
    have HMS3 := Lib.hid (HMS.out.eff he3 HT.out)
    have HE3 := Lib.hid (HE1.out.trans he3)
    have HP3 := Lib.hid hp3
    have hx := HMS3.out.box
    have b0 := hx.c0; have b1 := hx.c1; have b2 := hx.c2; have b3 := hx.c3; have b4 := hx.c4; have b5 := hx.c5; have b6 := hx.c6; have b7 := hx.c7; have b8 := hx.c8; have b9 := hx.c9; have b10 := hx.c10; have b11 := hx.c11; have b12 := hx.c12; have b13 := hx.c13
    dsimp only at b10 b11 b12 b13
    have hck := check_use hc
    have CS := Lib.hid (signs_any P m w3 hck.1 hck.2.1 hck.2.2.1 hck.2.2.2)
    rw [HPP.out] at CS
    clear hx hp3 he3 hck
    go_wp2_with fail
    refine CS.out.mono ?_
    rintro e w4 ⟨rfl, hB4⟩
    have HP4 := Lib.hid (HP3.out.kept hB4)
    have HE4 := Lib.hid (HE3.out.trans (Eff.of_below hB4 (by have := HP3.out.buf.low; have := HP3.out.buf.lt; omega)))
    have HMS4 := Lib.hid (HMS3.out.below hB4 HMS3.out.box.lt)
    have C4 := Lib.hid (u16_p w.heap.size B M _ _ (signsV m) w4 HP4.out (by simp [be2]))
    clear hB4 b0 b1 b2 b3 b4 b5 b6 b7 b8 b9 b10 b11 b12 b13
    go_wp2_with fail
    refine C4.out.mono ?_
    rintro e w5 ⟨rfl, v5, hp5, he5⟩
    have HMS5 := Lib.hid (HMS4.out.eff he5 HT.out)
    have HE5 := Lib.hid (HE4.out.trans he5)
    have HP5 := Lib.hid hp5
    have hx := HMS5.out.box
    have b10 := hx.c10; have b11 := hx.c11; have b12 := hx.c12; have b13 := hx.c13
    dsimp only at b10 b11 b12 b13
    clear hx hp5 he5
    go_upto_region 7 with (fail)
    have HU6 : Hid (Und w1 (w5.alloc (.cells #[.slice na m.an.length nc, .slice ua m.au.length uc, .slice ra m.ar.length rcc] 92)) w.heap.size B M w5.heap.size ⟨qa, qc, na, nc, ua, uc, ra, rcc⟩ m v5 ⟨[] ++ be2 m.id ++ be2 (signsV m), []⟩) := Lib.hid (by
      have h0 := HP5.out.buf.lt
      have h1 := HP5.out.map
      exact ⟨HP5.out.alloc _, HE5.out.alloc _ (by have := HP5.out.buf.low; omega), HMS5.out.below ((Below.refl _ _).alloc (Nat.le_refl _) _) HMS5.out.box.lt, heap_alloc_new _ _, HT.out, by
        rintro (h | h)
        · omega
        · obtain ⟨D, ⟨es, clock, h2, _⟩, _⟩ := h1
          have := (Array.getElem?_eq_some_iff.1 h2).1
          omega⟩)
    obtain ⟨S, hS⟩ : ∃ S, w5.heap.size = S := ⟨_, rfl⟩
    rw [hS] at HU6 ⊢
    obtain ⟨w6, hw6⟩ : ∃ w6, w5.alloc (.cells #[.slice na m.an.length nc, .slice ua m.au.length uc, .slice ra m.ar.length rcc] 92) = w6 := ⟨_, rfl⟩
    rw [hw6] at HU6 ⊢
    clear hw6 hS b10 b11 b12 b13
    have HCL := Lib.hid (check_len hc)
    have HB0 := HB1
    have hx := HU6.out.msg.box
    have b10 := hx.c10
    dsimp only at b10
    have C6 := Lib.hid (u16_p w.heap.size B M _ _ (m.qs.length : Int) w6 HU6.out.paper (by simp [be2]))
    clear hx
    go_wp2_with fail
    refine C6.out.mono ?_
    rintro e w7 ⟨rfl, v7, hp7, he7⟩
    have HU7 := Lib.hid (HU6.out.step hp7 he7)
    obtain ⟨s0, s1, s2⟩ := HU7.out.sec.c
    (try dsimp only at s0 s1 s2)
    clear hp7 he7 b10
    go_wp2_with fail
    obtain ⟨H, hH⟩ : ∃ H, [] ++ be2 m.id ++ be2 (signsV m) ++ be2 (m.qs.length : Int) = H := ⟨_, rfl⟩
    have hHl : H.length = 6 := by rw [← hH]; rfl
    (try dsimp only at HU7)
    rw [hH] at HU7
    go_loopg [7, 40] 4 (fun gas _ kv wr => ∃ (s : Nat) (v : Value), kv = .int .i64 (s : Int) ∧ s ≤ 3 ∧ s + gas = 4 ∧ Hid (Und w1 wr w.heap.size B M S ⟨qa, qc, na, nc, ua, uc, ra, rcc⟩ m v ⟨H ++ secH m s, []⟩))
    case atStart => exact ⟨0, v7, rfl, by omega, by omega, by simp only [secH, List.append_nil]; exact HU7⟩
    case round =>
      obtain ⟨s, v, rfl, hs, hsg, HU⟩ := hrel
      by_cases hlt3 : s < 3
      · obtain ⟨a, c, hidx, _, _, hlen⟩ := sec_at HM.out HO.out s hlt3
        dsimp only at hidx
        have CU := Lib.hid (u16_p w.heap.size B M _ _ ((secL m s).length : Int) wr HU.out.paper (by simp only [List.length_append, secH_len]; omega))
        have HU2 : Hid (∀ wy v', Paper wy w.heap.size B M v' ⟨H ++ secH m s ++ be2 ((secL m s).length : Int), []⟩ → Eff w.heap.size (Two B M) wr wy → Hid (Und w1 wy w.heap.size B M S ⟨qa, qc, na, nc, ua, uc, ra, rcc⟩ m v' ⟨H ++ secH m (s + 1), []⟩)) := Lib.hid (fun wy v' hp he => Lib.hid (HU.out.step (by simp only [secH]; rw [← List.append_assoc]; exact hp) he))
        have zs : (s : Int) < 3 := by omega
        obtain ⟨n, hn⟩ : ∃ n, (secL m s).length = n := ⟨_, rfl⟩
        rw [hn] at hidx CU HU2 hlen
        unfold maxLen at hlen
        clear hn hlt3
        go_wp2_with fail
        refine CU.out.mono ?_
        rintro e w8 ⟨rfl, v8, hp8, he8⟩
        have HU8 := HU2.out w8 v8 hp8 he8
        clear hp8 he8
        go_wp2_with fail
        go_roundg (gk - 1)
        case rel => exact ⟨s + 1, v8, by go_num, by omega, by omega, HU8⟩
        case measure => omega
      · have hs3 : s = 3 := by omega
        subst hs3
        have hhead : H ++ secH m 3 = headP m := by
          rw [← hH]; simp only [secH, secL, headP]; simp only [List.nil_append, List.append_assoc]
        rw [hhead] at HU
        have hx := HU.out.msg.box
        have b10 := hx.c10
        dsimp only at b10
        clear hx hhead hH hHl s0 s1 s2
        obtain ⟨nq, hnq⟩ : ∃ nq, m.qs.length = nq := ⟨_, rfl⟩
        rw [hnq] at b10
        have HNQ := Lib.hid hnq
        have hqb : nq ≤ 65535 := by rw [← hnq]; exact HCL.out.1
        clear hnq
        go_wp2_with fail
        go_loopg [9, 51] (nq + 1) (fun gas _ kv wr => ∃ (k : Nat) (v : Value) (q : Pp), kv = .int .i64 (k : Int) ∧ k ≤ nq ∧ k + gas = nq + 1 ∧ Hid (12 ≤ q.out.length ∧ q.out.length ≤ 12 + 300 * k ∧ q.N.length ≤ q.out.length) ∧ Hid ((m.qs.drop k).foldl (fun p x => quesP x p) q = m.qs.foldl (fun p x => quesP x p) ⟨headP m, []⟩) ∧ Hid (Und w1 wr w.heap.size B M S ⟨qa, qc, na, nc, ua, uc, ra, rcc⟩ m v q))
        case atStart => exact ⟨0, v, ⟨headP m, []⟩, rfl, by omega, by omega, Lib.hid ⟨by simp [headP, be2], by simp [headP, be2], by simp⟩, Lib.hid (by simp), HU⟩
        case round =>
          clear HU
          obtain ⟨k, v, q, rfl, hk, hkg, HQ, HF, HU⟩ := hrel
          have HK := Lib.hid hkg; clear hkg
          by_cases hlt : k < nq
          · obtain ⟨x, hx⟩ : ∃ x, m.qs[k]? = some x := ⟨_, List.getElem?_eq_getElem (by have := HNQ.out; omega)⟩
            obtain ⟨g, o, hqa, hg, hat⟩ := at_q HM.out.q hx
            obtain ⟨x0, x1, x2⟩ := (hat.below HB1.out hg).below HU.out.eff.to_below hg
            have hrx := List.all_eq_true.1 HCL.out.2.1 x (List.mem_of_getElem? hx)
            obtain ⟨ls, hls⟩ := q_use hrx
            have hq := HQ.out
            have HUA := Lib.hid (HU.out.alloc (.cells #[.string x.n, .int .i64 x.t, .int .i64 x.c] 50))
            have CN := Lib.hid (pname_any w.heap.size B M v q x.n ls _ HUA.out.paper hls (by omega) hq.2.2)
            have HX := Lib.hid hx
            have HRX := Lib.hid hrx
            have HLS := Lib.hid hls
            have zl : (k : Int) < (nq : Int) := by omega
            have hpq : qa = some ⟨g, o, none⟩ := hqa
            have HTW := Lib.hid HU.out.paper.two
            have HQA : Hid (QAt (wr.alloc (.cells #[.string x.n, .int .i64 x.t, .int .i64 x.c] 50)) wr.heap.size x) := Lib.hid (heap_alloc_new _ _)
            have HLN : Hid (x.n.size ≤ 255) := Lib.hid (is_len hls)
            have hnl := nameF_len (x.n.data.toList.length + 1) x.n.data.toList q
            rw [size_len] at hnl
            have HNL : Hid ((nameP x.n.data.toList q).out.length ≤ q.out.length + 257) := Lib.hid (by have := HLN.out; unfold nameP; rw [size_len]; omega)
            clear hnl
            clear hx hat hqa hrx hls hq
            subst hpq
            go_wp2_with fail
            refine CN.out.mono ?_
            rintro e w8 ⟨rfl, v8, hp8, he8⟩
            have HU8 := Lib.hid (HUA.out.step hp8 he8)
            have HQ8 := Lib.hid (HQA.out.eff he8 HTW.out)
            obtain ⟨y0, y1, y2⟩ := HQ8.out.c
            have C8 := Lib.hid (u16_p w.heap.size B M _ _ x.t w8 HU8.out.paper (by have := HNL.out; have := HQ.out; omega))
            clear hp8 he8 x0 x1 x2
            go_wp2_with fail
            refine C8.out.mono ?_
            rintro e w9 ⟨rfl, v9, hp9, he9⟩
            have HU9 := Lib.hid (HU8.out.step hp9 he9)
            have HQ9 := Lib.hid (HQ8.out.eff he9 HTW.out)
            obtain ⟨y0, y1, y2⟩ := HQ9.out.c
            have C9 := Lib.hid (u16_p w.heap.size B M _ _ x.c w9 HU9.out.paper (by simp only [List.length_append, be2, List.length_cons, List.length_nil]; have := HNL.out; have := HQ.out; omega))
            clear hp9 he9
            go_wp2_with fail
            refine C9.out.mono ?_
            rintro e w10 ⟨rfl, v10, hp10, he10⟩
            have HU10 := Lib.hid (HU9.out.step hp10 he10)
            clear hp10 he10
            go_wp2_with fail
            have hkg := HK.out
            have hqe : (⟨(nameP x.n.data.toList q).out ++ be2 x.t ++ be2 x.c, (nameP x.n.data.toList q).N⟩ : Pp) = quesP x q := by
              simp only [quesP, List.append_assoc]
            (try dsimp only at HU10)
            rw [hqe] at HU10
            go_roundg (gk - 1)
            case rel => exact ⟨k + 1, v10, quesP x q, by go_num, by omega, by omega, Lib.hid (by have h1 := quesP_len x q; have h2 := HQ.out; have h3 := HLN.out; exact ⟨by omega, by omega, quesP_few x q HRX.out h2.2.2⟩), Lib.hid (by have h := HF.out; rw [List.drop_eq_getElem?_toList_append, HX.out] at h; exact h), HU10⟩
            case measure => omega
          · have hkq : k = nq := by omega
            obtain ⟨G, hG⟩ : ∃ G, recsP (restL m 0) (m.qs.foldl (fun p x => quesP x p) ⟨headP m, []⟩) = G := ⟨_, rfl⟩
            have HG : Hid (recsP (restL m 0) q = G) := Lib.hid (by
              have h := HF.out
              rw [List.drop_of_length_le (by have := HNQ.out; omega)] at h
              simp only [List.foldl_nil] at h
              rw [h]; exact hG)
            have HPS : Hid (R = outG G) := Lib.hid (by rw [← HR.out, ← hG]; exact pack_out hc)
            obtain ⟨s0, s1, s2⟩ := HU.out.sec.c
            (try dsimp only at s0 s1 s2)
            have HQ1 : Hid (12 ≤ q.out.length ∧ q.out.length ≤ 1099511627776 ∧ q.N.length ≤ q.out.length) := Lib.hid (by have := HQ.out; exact ⟨by omega, by omega, this.2.2⟩)
            clear hG HF HQ hlt
            subst hkq
            go_wp2_with fail
            go_loopg [11, 13, 68] 4 (fun gas _ _ kv wr => ∃ (s : Nat) (v : Value) (q : Pp), kv = .int .i64 (s : Int) ∧ s ≤ 3 ∧ s + gas = 4 ∧ Hid (12 ≤ q.out.length ∧ q.out.length ≤ 1099511627776 ∧ q.N.length ≤ q.out.length) ∧ Hid (recsP (restL m s) q = G) ∧ Hid (Und w1 wr w.heap.size B M S ⟨qa, qc, na, nc, ua, uc, ra, rcc⟩ m v q))
            case atStart => exact ⟨0, v, q, rfl, by omega, by omega, HQ1, HG, HU⟩
            case round =>
              clear HU HG HQ1 s0 s1 s2
              obtain ⟨s, v, q, rfl, hs, hsg, HQ, HG, HU⟩ := hrel
              obtain ⟨gk', hgk'⟩ : ∃ g, g = gk := ⟨_, rfl⟩
              rw [← hgk'] at hsg
              have HSG := Lib.hid hsg; clear hsg
              by_cases hlt3 : s < 3
              · obtain ⟨a, c, hidx, hrd, hok, hlen⟩ := sec_at HM.out HO.out s hlt3
                dsimp only at hidx
                have hr := restL_step m s hlt3
                obtain ⟨L, hL⟩ : ∃ L, secL m s = L := ⟨_, rfl⟩
                have hall : L.all rightB = true := by
                  rw [← hL]
                  have h := HCL.out.2.2
                  match s, hlt3 with
                  | 0, _ => exact h.1
                  | 1, _ => exact h.2.1
                  | 2, _ => exact h.2.2
                rw [hL] at hidx hrd hok hlen hr
                obtain ⟨n, hn⟩ : ∃ n, L.length = n := ⟨_, rfl⟩
                rw [hn] at hidx hlen
                unfold maxLen at hlen
                rw [hr] at HG
                have HL := Lib.hid hL; have HRD := Lib.hid hrd; have HN := Lib.hid hn; have HALL := Lib.hid hall
                obtain ⟨T, hT⟩ : ∃ T, restL m (s + 1) = T := ⟨_, rfl⟩
                rw [hT] at HG
                have HTT := Lib.hid hT
                have zs : (s : Int) < 3 := by omega
                clear hL hrd hok hn hlt3 hall hr hT
                go_wp2_with fail
                go_loopg [13, 73] (n + 1) (fun gas _ kv wq => ∃ (k : Nat) (v : Value) (q : Pp), kv = .int .i64 (k : Int) ∧ k ≤ n ∧ k + gas = n + 1 ∧ Hid (12 ≤ q.out.length ∧ q.out.length ≤ 1099511627776 ∧ q.N.length ≤ q.out.length) ∧ Hid (recsP (L.drop k ++ T) q = G) ∧ Hid (Und w1 wq w.heap.size B M S ⟨qa, qc, na, nc, ua, uc, ra, rcc⟩ m v q))
                case atStart => exact ⟨0, v, q, rfl, by omega, by omega, HQ, by rw [List.drop_zero]; exact HG, HU⟩
                case round =>
                  clear HU HG HQ hidx
                  obtain ⟨k, v, q, rfl, hk, hkg, HQ, HG, HU⟩ := hrel
                  have HK := Lib.hid hkg; clear hkg
                  by_cases hlt : k < n
                  · obtain ⟨x, hx⟩ : ∃ x, L[k]? = some x := ⟨_, List.getElem?_eq_getElem (by have := HN.out; omega)⟩
                    obtain ⟨g, o, rfl, hg, hat⟩ := at_r HRD.out hx
                    obtain ⟨x0, x1, x2, x3, x4⟩ := (hat.below HB1.out hg).below HU.out.eff.to_below hg
                    have hrx := List.all_eq_true.1 HALL.out x (List.mem_of_getElem? hx)
                    obtain ⟨⟨ls, hls⟩, hl0, hl1, hds, hfit⟩ := right_use hrx
                    have hq := HQ.out
                    have HUA := Lib.hid (HU.out.alloc (.cells #[.string x.o, .int .i64 x.t, .int .i64 x.c, .int .i64 x.l, .string x.d] 52))
                    have HRA : Hid (RAt (wr.alloc (.cells #[.string x.o, .int .i64 x.t, .int .i64 x.c, .int .i64 x.l, .string x.d] 52)) wr.heap.size x) := Lib.hid (heap_alloc_new _ _)
                    have HTW := Lib.hid HU.out.paper.two
                    obtain ⟨va, vc, rfl⟩ := HU.out.paper.open
                    have hk0 := HUA.out.paper.c0
                    have hg' : recsP (x :: (L.drop (k + 1) ++ T)) q = G := by
                      have h := HG.out
                      rw [List.drop_eq_getElem?_toList_append, hx] at h
                      exact h
                    obtain ⟨O, hO⟩ : ∃ O, q.out.length = O := ⟨_, rfl⟩
                    have zl : (k : Int) < (n : Int) := by omega
                    by_cases hbig : 65535 < O
                    · have hRv : R = ([], 12) := by
                        have h := HPS.out
                        rw [← hg', recsP_big (by rw [hO]; exact hbig)] at h
                        exact h
                      have hbi : (65535 : Int) < (O : Int) := by omega
                      rw [hO] at hk0
                      have HEF := Lib.hid (HB1.out.trans (HUA.out.eff.to_below.mono (Nat.le_refl _)))
                      clear hg' hq hrx hls hfit hx hat hbig HUA HRA
                      subst hRv
                      go_wp2_with fail
                      go_ret2
                      exact ⟨_, rfl, World.ownsRow_nil _ _ _ _, HEF.out⟩
                    · have hbi : (O : Int) ≤ 65535 := by omega
                      have HG2 : Hid (recsP (L.drop (k + 1) ++ T) (recP x q) = G) := Lib.hid (by
                        rw [← hg', recsP_go (by rw [hO]; exact hbig)])
                      have CN := Lib.hid (pname_any w.heap.size B M _ q x.o ls _ HUA.out.paper hls (by omega) hq.2.2)
                      have hnl := nameF_len (x.o.data.toList.length + 1) x.o.data.toList q
                      rw [size_len] at hnl
                      have hol := is_len hls
                      have HNL : Hid ((nameP x.o.data.toList q).out.length ≤ O + 257) := Lib.hid (by unfold nameP; rw [size_len]; omega)
                      have HNF := Lib.hid (nameP_few' hls hq.2.2)
                      have HRF : Hid (12 ≤ (recP x q).out.length ∧ (recP x q).out.length ≤ 1099511627776 ∧ (recP x q).N.length ≤ (recP x q).out.length) := Lib.hid ⟨by have := recP_len x q; omega, by have := recP_up x q hol hds; omega, recP_few x q hrx hq.2.2⟩
                      have HFIT := Lib.hid hfit
                      rw [hO] at hk0
                      have HOO := Lib.hid hO
                      clear hg' hq hrx hls hfit hx hat hbig hnl hO
                      go_wp2_with fail
                      refine CN.out.mono ?_
                      rintro e w8 ⟨rfl, v8, hp8, he8⟩
                      have HU8 := Lib.hid (HUA.out.step hp8 he8)
                      have HR8 := Lib.hid (HRA.out.eff he8 HTW.out)
                      obtain ⟨y0, y1, y2, y3, y4⟩ := HR8.out.c
                      have C8 := Lib.hid (u16_p w.heap.size B M _ _ x.t w8 HU8.out.paper (by have := HNL.out; omega))
                      clear hp8 he8 x0 x1 x2 x3 x4 hk0
                      go_wp2_with fail
                      refine C8.out.mono ?_
                      rintro e w9 ⟨rfl, v9, hp9, he9⟩
                      have HU9 := Lib.hid (HU8.out.step hp9 he9)
                      have HR9 := Lib.hid (HR8.out.eff he9 HTW.out)
                      have C9 := Lib.hid (u16_p w.heap.size B M _ _ x.c w9 HU9.out.paper (by simp only [List.length_append, be2, List.length_cons, List.length_nil]; have := HNL.out; omega))
                      clear hp9 he9 y0 y1 y2 y3 y4
                      obtain ⟨y0, y1, y2, y3, y4⟩ := HR9.out.c
                      go_wp2_with fail
                      refine C9.out.mono ?_
                      rintro e w10 ⟨rfl, v10, hp10, he10⟩
                      have HU10 := Lib.hid (HU9.out.step hp10 he10)
                      have HR10 := Lib.hid (HR9.out.eff he10 HTW.out)
                      have C10 := Lib.hid (u32_p w.heap.size B M _ _ x.l w10 HU10.out.paper (by simp only [List.length_append, be2, List.length_cons, List.length_nil]; have := HNL.out; omega) hl0 hl1)
                      clear hp10 he10 y0 y1 y2 y3 y4
                      obtain ⟨y0, y1, y2, y3, y4⟩ := HR10.out.c
                      go_wp2_with fail
                      refine C10.out.mono ?_
                      rintro e w11 ⟨rfl, v11, hp11, he11⟩
                      have HU11 := Lib.hid (HU10.out.step hp11 he11)
                      have HR11 := Lib.hid (HR10.out.eff he11 HTW.out)
                      have C11 := Lib.hid (pdata_any w.heap.size B M _ _ x w11 HU11.out.paper (by simp only [List.length_append, be2, be4, List.length_cons, List.length_nil]; have := HNL.out; omega) (by simp only [List.length_append]; have := HNF.out; omega) hds HFIT.out)
                      rw [recP_eq x q _ (by simp only [List.append_assoc])] at C11
                      clear hp11 he11 y0 y1 y2 y3 y4
                      obtain ⟨y0, y1, y2, y3, y4⟩ := HR11.out.c
                      go_wp2_with fail
                      refine C11.out.mono ?_
                      rintro e w12 ⟨rfl, v12, hp12, he12⟩
                      have HU12 := Lib.hid (HU11.out.step hp12 he12)
                      clear hp12 he12 y0 y1 y2 y3 y4
                      go_wp2_with fail
                      have hkg := HK.out
                      go_roundg (gk - 1)
                      case rel => exact ⟨k + 1, v12, recP x q, by go_num, by omega, by omega, HRF, HG2, HU12⟩
                      case measure => omega
                  · have HG3 : Hid (recsP T q = G) := Lib.hid (by
                      have h := HG.out
                      rw [List.drop_of_length_le (by have := HN.out; omega), List.nil_append] at h
                      exact h)
                    rw [← HTT.out] at HG3
                    go_wp2_with fail
                    have hsg := HSG.out
                    go_roundg (gk' - 1)
                    case rel => exact ⟨s + 1, v, q, by go_num, by omega, by omega, HQ, HG3, HU⟩
                    case measure => omega
              · have hs3 : s = 3 := by omega
                subst hs3
                obtain ⟨va, vc, rfl⟩ := HU.out.paper.open
                have hk0 := HU.out.paper.c0
                have hq := HQ.out
                have hG := HG.out
                simp only [restL] at hG
                obtain ⟨O, hO⟩ : ∃ O, q.out.length = O := ⟨_, rfl⟩
                rw [hO] at hk0
                have HEF := Lib.hid (HB1.out.trans (HU.out.eff.to_below.mono (Nat.le_refl _)))
                by_cases hbig : 65535 < O
                · have hRv : R = ([], 12) := by
                    rw [HPS.out, ← hG, recsP_big (by rw [hO]; exact hbig)]; rfl
                  have hbi : (65535 : Int) < (O : Int) := by omega
                  clear hG hq hO hbig
                  subst hRv
                  go_wp2_with fail
                  go_ret2
                  exact ⟨_, rfl, World.ownsRow_nil _ _ _ _, HEF.out⟩
                · have hRv : R = (q.out, 0) := by
                    rw [HPS.out, ← hG]; simp only [recsP]; rw [if_neg (by rw [hO]; exact hbig)]; rfl
                  have hbi : (O : Int) ≤ 65535 := by omega
                  have CC := Lib.hid (clone_bytes _ _ _ wr HU.out.paper.buf.own (by omega) (by omega))
                  rw [hO] at CC
                  have HOO := Lib.hid hO
                  have HLW := Lib.hid HU.out.low
                  clear hG hq hO hbig
                  subst hRv
                  go_wp2_with fail
                  refine CC.out.mono ?_
                  rintro e w8 ⟨v8, rfl, hown8, hB8⟩
                  go_wp2_with fail
                  go_ret2
                  have hown := own_base HLW.out hown8
                  rw [← HOO.out] at hown
                  exact ⟨v8, rfl, hown, HEF.out.trans (hB8.mono HLW.out)⟩
  · have hcE : (if checkB m then (0 : Int) else 8) = 8 := by rw [if_neg hc]
    rw [hcE] at CK1
    obtain rfl : R = ([], 8) := by rw [← HR.out]; unfold packS; rw [if_pos (by simpa using hc)]
    go_wp2_with fail
    refine CK1.out.mono ?_
    rintro e w1 ⟨rfl, hB1⟩
    go_wp2_with fail
    go_ret2
    exact ⟨_, rfl, World.ownsRow_nil _ _ _ _, HBEL.out.trans (hB1.mono HBEL.out.size)⟩
end Go.Proofs.Ytabhiangjomaeaa.wpack
namespace Go.Proofs.Ytabhiangjomaeaa.shortP
open Go.RowKit Go.Proofs.Ytabhiangjomaeaa.kit Go.Proofs.Ytabhiangjomaeaa.nspec Go.Proofs.Ytabhiangjomaeaa.rsplit Go.Proofs.Ytabhiangjomaeaa.check Go.Proofs.Ytabhiangjomaeaa.fld Go.Proofs.Ytabhiangjomaeaa.wireP Go.Proofs.Ytabhiangjomaeaa.wireM Go.Proofs.Ytabhiangjomaeaa.packP Go.Proofs.Ytabhiangjomaeaa.psmall Go.Proofs.Ytabhiangjomaeaa.fits Go.Proofs.Ytabhiangjomaeaa.pdata Go.Proofs.Ytabhiangjomaeaa.wpack
set_option linter.unusedVariables false

def plainQ (x : Qn) : Nat := x.n.size + 4
def plainR (x : Rc) : Nat := x.o.size + 10 + x.d.size
def plainM (m : Mg) : Nat := 12 + (m.qs.map plainQ).sum + (m.an.map plainR).sum + (m.au.map plainR).sum + (m.ar.map plainR).sum
theorem put_len_pos (ls : List Bs) : 1 ≤ (put ls).length := by cases ls <;> simp [put]
theorem put_cons_len (x : Bs) (r : List Bs) : (put (x :: r)).length = 1 + x.length + (put r).length := by simp only [put, List.length_cons, List.length_append]; omega
theorem put_cons_head {x : Bs} {r : List Bs} (h : okL (x :: r)) : ∃ c, put (x :: r) = c :: (x ++ put r) ∧ c ≠ 0 ∧ c.toNat = x.length := by
  have hx := (okL_cons.1 h).1
  have hc : (UInt8.ofNat x.length).toNat = x.length := UInt8.toNat_ofNat_of_lt' (by show x.length < 256; omega)
  refine ⟨UInt8.ofNat x.length, rfl, ?_, hc⟩
  intro e; rw [e] at hc; simp at hc; omega
/-- one label further -/
theorem nameP_next {x : Bs} {r : List Bs} {p : Pp} (h : okL (x :: r)) (hf : findN p.N (put (x :: r)) = none) :
    nameP (put (x :: r)) p = nameP (put r) ⟨p.out ++ (put (x :: r)).take (1 + x.length), if p.out.length ≤ 16383 then p.N ++ [(put (x :: r), p.out.length)] else p.N⟩ := by
  obtain ⟨c, hc, h0, hcn⟩ := put_cons_head h
  have hn := nameP_go (p := p) h0 (by rw [← hc]; exact hf)
  rw [← hc, hcn] at hn
  rw [hn]
  have hd := pname.drop_put x r (okL_cons.1 h).1.2
  rw [UInt8.toNat_ofNat_of_lt' (by have := (okL_cons.1 h).1.2; show x.length < 256; omega)] at hd
  rw [hd]
theorem nameP_found {x : Bs} {r : List Bs} {p : Pp} {k : Nat} (h : okL (x :: r)) (hf : findN p.N (put (x :: r)) = some k) : nameP (put (x :: r)) p = ⟨p.out ++ be2 (49152 + k), p.N⟩ := by
  obtain ⟨c, hc, h0, hcn⟩ := put_cons_head h
  rw [hc] at hf ⊢
  exact nameP_hit h0 hf
theorem nameP_up : ∀ (ls : List Bs) (p : Pp), okL ls → (nameP (put ls) p).out.length ≤ p.out.length + (put ls).length
  | [], p, _ => by
    have e : nameP (put []) p = ⟨p.out ++ [0], p.N⟩ := nameP_end
    rw [e]; simp [put]
  | x :: r, p, h => by
    have hl := put_cons_len x r
    have h1 := (okL_cons.1 h).1
    have h2 := put_len_pos r
    cases hf : findN p.N (put (x :: r)) with
    | some k => rw [nameP_found h hf]; simp only [List.length_append, be2, List.length_cons, List.length_nil]; omega
    | none =>
      rw [nameP_next h hf]
      refine Nat.le_trans (nameP_up r _ (okL_cons.1 h).2) ?_
      simp only [List.length_append, List.length_take]; omega
/-- what is noted stays noted -/
def Keeps (N M : Noted) : Prop := ∀ n k, findN N n = some k → findN M n = some k
theorem Keeps.refl (N : Noted) : Keeps N N := fun _ _ h => h
theorem Keeps.trans {N M K : Noted} (h : Keeps N M) (g : Keeps M K) : Keeps N K := fun n k hn => g n k (h n k hn)
theorem Keeps.snoc (N : Noted) (x : Bs × Nat) : Keeps N (N ++ [x]) := by
  intro n k h
  obtain ⟨r, j⟩ := x
  rw [findN_snoc, h]
theorem nameF_keeps : ∀ (f : Nat) (n : Bs) (p : Pp), Keeps p.N (nameF f n p).N
  | 0, n, p => Keeps.refl _
  | f + 1, [], p => Keeps.refl _
  | f + 1, c :: r, p => by
    simp only [nameF]
    by_cases hc : c = 0
    · rw [if_pos hc]; exact Keeps.refl _
    · rw [if_neg hc]
      cases findN p.N (c :: r) with
      | some k => exact Keeps.refl _
      | none =>
        refine Keeps.trans ?_ (nameF_keeps f _ _)
        dsimp only
        split
        · exact Keeps.snoc _ _
        · exact Keeps.refl _
theorem nameP_keeps (n : Bs) (p : Pp) : Keeps p.N (nameP n p).N := nameF_keeps _ n p
theorem dataP_keeps : ∀ (fs : List (Option Nat)) (d : Bs) (p : Pp), Keeps p.N (dataP fs d p).N
  | [], d, p => Keeps.refl _
  | none :: fs, d, p => (nameP_keeps _ _).trans (dataP_keeps fs _ _)
  | some k :: fs, d, p => by
    have h := dataP_keeps fs (d.drop k) ⟨p.out ++ d.take k, p.N⟩
    exact h
theorem recP_keeps (x : Rc) (p : Pp) : Keeps p.N (recP x p).N := by
  have h := (nameP_keeps x.o.data.toList p).trans (dataP_keeps (if x.d.size = 0 then [] else shortL x.t) x.d.data.toList ⟨(nameP x.o.data.toList p).out ++ (be2 x.t ++ be2 x.c ++ be4 x.l) ++ [0, 0], (nameP x.o.data.toList p).N⟩)
  exact h
theorem quesP_keeps (x : Qn) (p : Pp) : Keeps p.N (quesP x p).N := by
  unfold quesP
  exact nameP_keeps _ _
theorem quesL_keeps : ∀ (L : List Qn) (p : Pp), Keeps p.N (L.foldl (fun p x => quesP x p) p).N
  | [], p => Keeps.refl _
  | x :: L, p => (quesP_keeps x p).trans (quesL_keeps L _)
theorem recsP_keeps : ∀ (L : List Rc) (p q : Pp), recsP L p = some q → Keeps p.N q.N
  | [], p, q, h => by
    simp only [recsP] at h
    split at h
    · cases h
    · cases h; exact Keeps.refl _
  | x :: L, p, q, h => by
    simp only [recsP] at h
    split at h
    · cases h
    · exact (recP_keeps x p).trans (recsP_keeps L _ q h)
theorem dataP_upL : ∀ (fs : List (Option Nat)) (d : Bs) (p : Pp), Fits fs d → (dataP fs d p).out.length ≤ p.out.length + d.length
  | [], d, p, _ => by simp [dataP]
  | none :: fs, d, p, hf => by
    obtain ⟨ls, d', h1, h2, h3, h4⟩ := hf
    simp only [dataP]
    have e1 : d.take (nameSz d) = put ls := by rw [h3, nameSz_put ls d' h1, List.take_left]
    have e2 : d.drop (nameSz d) = d' := by rw [h3, nameSz_put ls d' h1, List.drop_left]
    rw [e1, e2]
    refine Nat.le_trans (dataP_upL fs d' _ h4) ?_
    have := nameP_up ls p h1
    rw [h3, List.length_append]; omega
  | some k :: fs, d, p, hf => by
    simp only [dataP]
    refine Nat.le_trans (dataP_upL fs _ _ hf.2) ?_
    simp only [List.length_append, List.length_take, List.length_drop]
    have := hf.1
    omega
theorem quesP_up (x : Qn) (p : Pp) (h : rightQ x = true) : (quesP x p).out.length ≤ p.out.length + plainQ x := by
  obtain ⟨ls, hls⟩ := q_use h
  have h1 := nameP_up ls p hls.2.1
  rw [← hls.1, size_len] at h1
  unfold quesP plainQ
  simp only [List.length_append, be2, List.length_cons, List.length_nil]
  omega
theorem recP_upL (x : Rc) (p : Pp) (h : rightB x = true) : (recP x p).out.length ≤ p.out.length + plainR x := by
  obtain ⟨⟨ls, hls⟩, _, _, _, hf⟩ := right_use h
  have h1 := nameP_up ls p hls.2.1
  rw [← hls.1, size_len] at h1
  rw [← recP_eq x p _ rfl]
  simp only [patch_len]
  refine Nat.le_trans (dataP_upL _ _ _ ?_) ?_
  · split
    · trivial
    · exact hf (by assumption)
  · unfold plainR
    simp only [List.length_append, be2, be4, List.length_cons, List.length_nil, size_len]
    omega
theorem quesL_up : ∀ (L : List Qn) (p : Pp), L.all rightQ = true → (L.foldl (fun p x => quesP x p) p).out.length ≤ p.out.length + (L.map plainQ).sum
  | [], p, _ => by simp
  | x :: L, p, h => by
    simp only [List.all_cons, Bool.and_eq_true] at h
    simp only [List.foldl_cons, List.map_cons, List.sum_cons]
    have h1 := quesP_up x p h.1
    have h2 := quesL_up L (quesP x p) h.2
    omega
theorem recsP_upL : ∀ (L : List Rc) (p : Pp), L.all rightB = true → (∀ q, recsP L p = some q → q.out.length ≤ p.out.length + (L.map plainR).sum) ∧ (recsP L p = none → 65535 < p.out.length + (L.map plainR).sum)
  | [], p, _ => by
    simp only [recsP]
    by_cases hb : 65535 < p.out.length
    · rw [if_pos hb]; exact ⟨(fun q h => by cases h), fun _ => by simp; omega⟩
    · rw [if_neg hb]; exact ⟨(fun q h => by cases h; simp), (fun h => by cases h)⟩
  | x :: L, p, h => by
    simp only [List.all_cons, Bool.and_eq_true] at h
    simp only [recsP, List.map_cons, List.sum_cons]
    by_cases hb : 65535 < p.out.length
    · rw [if_pos hb]; exact ⟨(fun q h => by cases h), fun _ => by omega⟩
    · rw [if_neg hb]
      have h1 := recP_upL x p h.1
      have h2 := recsP_upL L (recP x p) h.2
      refine ⟨fun q hq => ?_, fun hq => ?_⟩
      · have := h2.1 q hq; omega
      · have := h2.2 hq; omega
theorem head_len (m : Mg) : (headP m).length = 12 := by simp [headP, be2]
theorem check_all4 {m : Mg} (h : checkB m = true) : m.qs.all rightQ = true ∧ (m.an ++ m.au ++ m.ar).all rightB = true := by
  have h1 := check_len h
  refine ⟨h1.2.1, ?_⟩
  rw [List.all_append, List.all_append, h1.2.2.1, h1.2.2.2.1, h1.2.2.2.2]; rfl
theorem plain_sum (m : Mg) : plainM m = 12 + (m.qs.map plainQ).sum + ((m.an ++ m.au ++ m.ar).map plainR).sum := by
  unfold plainM; rw [List.map_append, List.map_append, List.sum_append, List.sum_append]; omega
/-- never longer than plain; what is too large is so plainly -/
theorem pack_short (m : Mg) : ((packS m).2 = 0 → (packS m).1.length ≤ plainM m) ∧ ((packS m).2 = 12 → 65535 < plainM m) := by
  unfold packS
  by_cases hc : checkB m = false
  · rw [if_pos hc]; exact ⟨fun h => by simp at h, fun h => by simp at h⟩
  · rw [if_neg hc]
    have hc' : checkB m = true := by simpa using hc
    obtain ⟨h1, h2⟩ := check_all4 hc'
    have h3 := quesL_up m.qs ⟨headP m, []⟩ h1
    rw [show (⟨headP m, []⟩ : Pp).out.length = 12 from head_len m] at h3
    have h4 := recsP_upL (m.an ++ m.au ++ m.ar) (m.qs.foldl (fun p x => quesP x p) ⟨headP m, []⟩) h2
    rw [plain_sum]
    unfold packP
    cases hr : recsP (m.an ++ m.au ++ m.ar) (m.qs.foldl (fun p x => quesP x p) ⟨headP m, []⟩) with
    | none =>
      have := h4.2 hr
      simp only [Option.map_none]
      exact ⟨fun h => by simp at h, fun _ => by omega⟩
    | some q =>
      have := h4.1 q hr
      simp only [Option.map_some]
      exact ⟨fun _ => by omega, fun h => by simp at h⟩
theorem pack_kinds (m : Mg) : (packS m).2 = 0 ∨ ((packS m).1 = [] ∧ ((packS m).2 = 8 ∨ (packS m).2 = 12)) := by
  unfold packS
  by_cases hc : checkB m = false
  · rw [if_pos hc]; exact .inr ⟨rfl, .inl rfl⟩
  · rw [if_neg hc]
    cases packP m with
    | none => exact .inr ⟨rfl, .inr rfl⟩
    | some b => exact .inl rfl
/-- the first question's name is noted -/
theorem first_noted {x : Qn} {L : List Qn} {h : Bs} {b' : Bs} {r : List Bs} (hx : x.n.data.toList = put (b' :: r)) (ho : okL (b' :: r)) (hh : h.length ≤ 16383) : ∃ k, findN ((x :: L).foldl (fun p x => quesP x p) ⟨h, []⟩).N x.n.data.toList = some k := by
  refine ⟨h.length, ?_⟩
  rw [List.foldl_cons]
  refine quesL_keeps L _ _ _ ?_
  show findN (nameP x.n.data.toList ⟨h, []⟩).N x.n.data.toList = _
  rw [hx]
  have e : findN (⟨h, []⟩ : Pp).N (put (b' :: r)) = none := rfl
  rw [nameP_next ho e]
  refine nameP_keeps _ _ _ _ ?_
  dsimp only
  rw [if_pos hh]
  simp [findN]
theorem recs_snoc : ∀ (L : List Rc) (r : Rc) (p q : Pp), recsP L p = some q → recsP (L ++ [r]) p = if 65535 < (recP r q).out.length then none else some (recP r q)
  | [], r, p, q, h => by
    simp only [recsP] at h
    by_cases hb : 65535 < p.out.length
    · rw [if_pos hb] at h; cases h
    · rw [if_neg hb] at h; cases h
      simp only [List.nil_append, recsP, if_neg hb]
  | x :: L, r, p, q, h => by
    simp only [recsP] at h
    by_cases hb : 65535 < p.out.length
    · rw [if_pos hb] at h; cases h
    · rw [if_neg hb] at h
      simp only [List.cons_append, recsP, if_neg hb]
      exact recs_snoc L r _ q h
/-- papers of one length with the same notes -/
def Sim (p q : Pp) : Prop := p.N = q.N ∧ p.out.length = q.out.length
theorem nameF_sim : ∀ (f : Nat) (n : Bs) (p q : Pp), Sim p q → Sim (nameF f n p) (nameF f n q)
  | 0, n, p, q, h => h
  | f + 1, [], p, q, h => h
  | f + 1, c :: r, p, q, h => by
    simp only [nameF]
    by_cases hc : c = 0
    · rw [if_pos hc, if_pos hc]; exact ⟨h.1, by simp [h.2]⟩
    · rw [if_neg hc, if_neg hc, ← h.1]
      cases findN p.N (c :: r) with
      | some k => exact ⟨rfl, by simp [h.2]⟩
      | none => exact nameF_sim f _ _ _ ⟨by dsimp only; rw [h.2], by simp [h.2]⟩
theorem nameP_sim (n : Bs) {p q : Pp} (h : Sim p q) : Sim (nameP n p) (nameP n q) := nameF_sim _ n p q h
theorem dataP_sim : ∀ (fs : List (Option Nat)) (d : Bs) (p q : Pp), Sim p q → Sim (dataP fs d p) (dataP fs d q)
  | [], d, p, q, h => ⟨h.1, by simp [dataP, h.2]⟩
  | none :: fs, d, p, q, h => dataP_sim fs _ _ _ (nameP_sim _ h)
  | some k :: fs, d, p, q, h => dataP_sim fs _ _ _ ⟨h.1, by simp [h.2]⟩
theorem recP_sim (x : Rc) {p q : Pp} (h : Sim p q) : Sim (recP x p) (recP x q) := by
  have h1 := nameP_sim x.o.data.toList h
  have h2 := dataP_sim (if x.d.size = 0 then [] else shortL x.t) x.d.data.toList ⟨(nameP x.o.data.toList p).out ++ (be2 x.t ++ be2 x.c ++ be4 x.l) ++ [0, 0], (nameP x.o.data.toList p).N⟩ ⟨(nameP x.o.data.toList q).out ++ (be2 x.t ++ be2 x.c ++ be4 x.l) ++ [0, 0], (nameP x.o.data.toList q).N⟩ ⟨h1.1, by simp [h1.2]⟩
  unfold recP
  exact ⟨h2.1, by simp only [patch_len]; exact h2.2⟩
theorem quesP_sim (x : Qn) {p q : Pp} (h : Sim p q) : Sim (quesP x p) (quesP x q) := by
  have h1 := nameP_sim x.n.data.toList h
  unfold quesP
  exact ⟨h1.1, by simp [h1.2]⟩
theorem quesL_sim : ∀ (L : List Qn) {p q : Pp}, Sim p q → Sim (L.foldl (fun p x => quesP x p) p) (L.foldl (fun p x => quesP x p) q)
  | [], p, q, h => h
  | x :: L, p, q, h => quesL_sim L (quesP_sim x h)
theorem recsP_sim : ∀ (L : List Rc) {p q : Pp}, Sim p q → ∀ p', recsP L p = some p' → ∃ q', recsP L q = some q' ∧ Sim p' q'
  | [], p, q, h, p', hp => by
    simp only [recsP] at hp ⊢
    rw [← h.2]
    by_cases hb : 65535 < p.out.length
    · rw [if_pos hb] at hp; cases hp
    · rw [if_neg hb] at hp ⊢; cases hp; exact ⟨q, rfl, h⟩
  | x :: L, p, q, h, p', hp => by
    simp only [recsP] at hp ⊢
    rw [← h.2]
    by_cases hb : 65535 < p.out.length
    · rw [if_pos hb] at hp; cases hp
    · rw [if_neg hb] at hp ⊢; exact recsP_sim L (recP_sim x h) p' hp
/-- the record that is added -/
def moreR (n d : ByteArray) : Rc := ⟨n, 731, 1, 0, d⟩
def moreM (m : Mg) (n d : ByteArray) : Mg := { m with ar := m.ar ++ [moreR n d] }
theorem more_len {n d : ByteArray} {q : Pp} {k : Nat} {b : Bs} {r : List Bs} (hx : n.data.toList = put (b :: r)) (ho : okL (b :: r)) (hf : findN q.N n.data.toList = some k) : (recP (moreR n d) q).out.length = q.out.length + 12 + d.size := by
  have hn : nameP n.data.toList q = ⟨q.out ++ be2 (49152 + k), q.N⟩ := by
    rw [hx] at hf ⊢; exact nameP_found ho hf
  have e : (if (moreR n d).d.size = 0 then [] else shortL (moreR n d).t) = [] := by split <;> rfl
  unfold recP
  rw [e]
  show (patch (dataP [] _ _).out _ _).length = _
  rw [patch_len]
  have hm : (moreR n d).o = n := rfl
  have hm2 : (moreR n d).d = d := rfl
  rw [hm, hm2, hn]
  simp only [dataP, List.length_append, be2, be4, List.length_cons, List.length_nil, size_len]
theorem more_right {n d : ByteArray} (hn : isB n = true) (hd : d.size ≤ 65535) : rightB (moreR n d) = true := by
  have h1 : checkS 731 d.data.toList = 0 := by
    unfold checkS
    have e : holdsB 731 = true := by decide
    rw [e, if_neg (by simp), if_neg (by rw [size_len]; omega)]
    have e2 : partsS 731 d.data.toList = some [] := by unfold partsS; rfl
    rw [e2, if_neg (by simp)]
  have e : rightB (moreR n d) = (isB n && (inB 731 65535 && (inB 1 65535 && (inB 0 4294967295 && (if (731 : Int) = 41 then decide (d.size ≤ 65535) else (emptyB (moreR n d) || decide (checkS 731 d.data.toList = 0))))))) := rfl
  rw [e, hn, h1]
  simp [inB]
theorem more_check {m : Mg} {n d : ByteArray} (hc : checkB m = true) (hr : rightB (moreR n d) = true) : checkB (moreM m n d) = decide (m.ar.length + 1 ≤ 65535) := by
  have hc' := hc
  simp only [checkB, Bool.and_eq_true] at hc'
  obtain ⟨h1, h2, h3, h4, h5, h6, h7, h8⟩ := hc'
  have h4' := of_decide_eq_true h4
  simp only [checkB, moreM, h1, h2, h3, h5, h6, h7, List.all_append, h8, List.all_cons, List.all_nil, hr, Bool.true_and, Bool.and_true, List.length_append, List.length_cons, List.length_nil]
  by_cases hl : m.ar.length + 1 ≤ 65535
  · rw [decide_eq_true hl, decide_eq_true ⟨h4'.1, h4'.2.1, h4'.2.2.1, by omega⟩]
  · rw [decide_eq_false hl, decide_eq_false (by omega)]
/-- a record with the question's name more: twelve bytes and the data -/
theorem pack_more {m : Mg} {d : ByteArray} {x : Qn} {L : List Qn} (h0 : (packS m).2 = 0) (hq : m.qs = x :: L) (hx : x.n.data.toList ≠ [0]) (hd : d.size ≤ 60000) :
    ((packS (moreM m x.n d)).2 = 0 ∧ (packS (moreM m x.n d)).1.length = (packS m).1.length + 12 + d.size) ∨
    ((packS (moreM m x.n d)).2 = 12 ∧ 65535 < (packS m).1.length + 12 + d.size) ∨
    ((packS (moreM m x.n d)).2 = 8 ∧ 65535 < m.ar.length + 1) := by
  unfold packS at h0
  by_cases hc : checkB m = false
  · rw [if_pos hc] at h0; simp at h0
  have hc' : checkB m = true := by simpa using hc
  obtain ⟨h1, h2⟩ := check_all4 hc'
  rw [hq, List.all_cons, Bool.and_eq_true] at h1
  obtain ⟨ls, hls⟩ := q_use h1.1
  obtain ⟨b, r, rfl⟩ : ∃ b r, ls = b :: r := by
    cases ls with
    | nil => exact absurd hls.1 (by simpa [put] using hx)
    | cons b r => exact ⟨b, r, rfl⟩
  have hB : isB x.n = true := by
    have := h1.1; simp only [rightQ, Bool.and_eq_true] at this; exact this.1
  have hmc := more_check (d := d) hc' (more_right hB (by omega))
  rw [if_neg hc] at h0
  have hp : packS m = match packP m with | none => ([], 12) | some b => (b, 0) := by unfold packS; rw [if_neg hc]; cases packP m <;> rfl
  by_cases hl : m.ar.length + 1 ≤ 65535
  · have hcm : checkB (moreM m x.n d) = true := by rw [hmc]; simpa using hl
    have hp2 : packS (moreM m x.n d) = match packP (moreM m x.n d) with | none => ([], 12) | some b => (b, 0) := by unfold packS; rw [if_neg (by rw [hcm]; simp)]; cases packP (moreM m x.n d) <;> rfl
    obtain ⟨P, hP⟩ : ∃ P, recsP (m.an ++ m.au ++ m.ar) (m.qs.foldl (fun p x => quesP x p) ⟨headP m, []⟩) = some P := by
      cases hr : recsP (m.an ++ m.au ++ m.ar) (m.qs.foldl (fun p x => quesP x p) ⟨headP m, []⟩) with
      | some P => exact ⟨P, rfl⟩
      | none => unfold packP at h0; rw [hr] at h0; simp at h0
    have hp3 : packS m = (P.out, 0) := by rw [hp]; unfold packP; rw [hP]; rfl
    have hsim : Sim (m.qs.foldl (fun p x => quesP x p) ⟨headP m, []⟩) (m.qs.foldl (fun p x => quesP x p) ⟨headP (moreM m x.n d), []⟩) := quesL_sim _ ⟨rfl, by simp [head_len]⟩
    obtain ⟨Q, hQ, hPQ⟩ := recsP_sim _ hsim P hP
    obtain ⟨k, hk⟩ := first_noted (L := L) hls.1 hls.2.1 (h := headP (moreM m x.n d)) (by rw [head_len]; omega)
    have hk2 : findN Q.N x.n.data.toList = some k := by
      rw [← hq] at hk
      exact recsP_keeps _ _ _ hQ _ _ hk
    have hlen := more_len (d := d) hls.1 hls.2.1 hk2
    have hsn := recs_snoc _ (moreR x.n d) _ _ hQ
    have hpm : packP (moreM m x.n d) = (if 65535 < (recP (moreR x.n d) Q).out.length then none else some (recP (moreR x.n d) Q)).map Pp.out := by
      unfold packP
      rw [← hsn]
      congr 2
      simp [moreM]
    rw [hp2, hpm, hp3]
    have hPQl := hPQ.2
    by_cases hb : 65535 < (recP (moreR x.n d) Q).out.length
    · rw [if_pos hb]
      right; left
      exact ⟨rfl, by show 65535 < P.out.length + 12 + d.size; omega⟩
    · rw [if_neg hb]
      left
      exact ⟨rfl, by show (recP (moreR x.n d) Q).out.length = P.out.length + 12 + d.size; omega⟩
  · right; right
    have hcm : checkB (moreM m x.n d) = false := by rw [hmc]; simpa using hl
    refine ⟨?_, by omega⟩
    unfold packS; rw [if_pos hcm]
end Go.Proofs.Ytabhiangjomaeaa.shortP

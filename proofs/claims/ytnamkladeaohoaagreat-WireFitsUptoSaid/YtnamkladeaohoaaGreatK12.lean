/- gazetteersame: Spare, Twin, Bytes, Records, Questions, Head on equal things: walks. Packing in plain words. wire.buffer: walks of u8, u16, u32, raw. -/
import Derived.Test.YtnamkladeaohoaaGreatK10
import Derived.Test.YtnamkladeaohoaaGreatK11
import Derived.Deep.QuietTactic
import Derived.BigQuiet
import Derived.Deep.AppendLies
namespace Go.Proofs.YtnamkladeaohoaaGreat.same
open Go.RowKit Go.Proofs.YtnamkladeaohoaaGreat.kit Go.Proofs.YtnamkladeaohoaaGreat.timed Go.Proofs.YtnamkladeaohoaaGreat.nspec Go.Proofs.YtnamkladeaohoaaGreat.coded Go.Proofs.YtnamkladeaohoaaGreat.wireP Go.Proofs.YtnamkladeaohoaaGreat.wireM Go.Proofs.YtnamkladeaohoaaGreat.rows
set_option linter.unusedVariables false

def spareR : Rc := ⟨⟨#[115, 112, 97, 114, 101]⟩, -77, -77, -77, ⟨#[115, 112, 97, 114, 101]⟩⟩
set_option maxRecDepth 100000 in
theorem spare_any (w : World) : Calls Tryz.prog 43 #[] w fun e w' => e = .returned (.agg #[.string ⟨#[115, 112, 97, 114, 101]⟩, .int .i64 (-77), .int .i64 (-77), .int .i64 (-77), .string ⟨#[115, 112, 97, 114, 101]⟩]) ∧ Below w.heap.size w w' := by
  go_enter Tryz.func43, Tryz.ntmps43
  go_wp2_with fail
  refine bodyPost_ret (v := .agg #[.string ⟨#[115, 112, 97, 114, 101]⟩, .int .i64 (-77), .int .i64 (-77), .int .i64 (-77), .string ⟨#[115, 112, 97, 114, 101]⟩]) (by simp [results, Tryz.results43, go_sem]) rfl ⟨rfl, ?_⟩
  exact (Below.refl _ _).alloc (Nat.le_refl _) _

set_option maxRecDepth 100000 in
set_option maxHeartbeats 2000000 in
theorem records_same (a b : Option Addr) (n c d : Nat) (L : List Rc) (w : World) (hn : n = L.length) (hx : RdC w a 5 (L.map Rc.cells)) (hy : RdC w b 5 (L.map Rc.cells)) (hl : n ≤ 1099511627776) :
    Calls Tryz.prog 42 #[.slice a n c, .slice b n d] w fun e w' => e = .returned (.bool true) ∧ Below w.heap.size w w' := by
  have HN := Lib.hid hn; have HX := Lib.hid hx; have HY := Lib.hid hy
  clear hn hx hy
  go_enter Tryz.func42, Tryz.ntmps42
  go_wp2
  go_loopg [5, 13] (n + 1) (fun gas _ kv wr => ∃ (k : Nat), kv = .int .i64 k ∧ k ≤ n ∧ k + gas = n + 1 ∧ Hid (Below w.heap.size w wr))
  case atStart => exact ⟨0, rfl, by omega, by omega, Lib.hid (Below.refl _ _)⟩
  case round =>
    obtain ⟨k, rfl, hk, hkg, hB⟩ := hrel
    have HK := Lib.hid hkg; clear hkg
    by_cases hlt : k < n
    · obtain ⟨x, hp⟩ : ∃ x, L[k]? = some x := ⟨_, List.getElem?_eq_getElem (by have := HN.out; omega)⟩
      obtain ⟨g1, o1, rfl, hg1, hcl1⟩ := at_r HX.out hp
      obtain ⟨g2, o2, rfl, hg2, hcl2⟩ := at_r HY.out hp
      obtain ⟨x0, x1, x2, x3, x4⟩ := hcl1.below hB.out hg1
      obtain ⟨y0, y1, y2, y3, y4⟩ := hcl2.below hB.out hg2
      clear hp hcl1 hcl2
      have zk : (0 : Int) ≤ (k : Int) := by omega
      have zl : (k : Int) < (n : Int) := by omega
      go_wp2_with fail
      go_quiet (fail)
      have hBn : Hid (Below w.heap.size w (wr.drewN nq)) := Lib.hid (bel_drewN hB.out nq)
      go_wp2
      have hkg := HK.out
      go_roundg (gk - 1)
      case rel => exact ⟨k + 1, by go_num, by omega, by omega, hBn⟩
      case measure => omega
    · go_wp2_with fail
      go_ret
      exact ⟨rfl, hB.out⟩
set_option maxRecDepth 100000 in
set_option maxHeartbeats 2000000 in
theorem questions_same (a b : Option Addr) (n c d : Nat) (L : List Qn) (w : World) (hn : n = L.length) (hx : RdC w a 3 (L.map Qn.cells)) (hy : RdC w b 3 (L.map Qn.cells)) (hl : n ≤ 1099511627776) :
    Calls Tryz.prog 41 #[.slice a n c, .slice b n d] w fun e w' => e = .returned (.bool true) ∧ Below w.heap.size w w' := by
  have HN := Lib.hid hn; have HX := Lib.hid hx; have HY := Lib.hid hy
  clear hn hx hy
  go_enter Tryz.func41, Tryz.ntmps41
  go_wp2
  go_loopg [5, 13] (n + 1) (fun gas _ kv wr => ∃ (k : Nat), kv = .int .i64 k ∧ k ≤ n ∧ k + gas = n + 1 ∧ Hid (Below w.heap.size w wr))
  case atStart => exact ⟨0, rfl, by omega, by omega, Lib.hid (Below.refl _ _)⟩
  case round =>
    obtain ⟨k, rfl, hk, hkg, hB⟩ := hrel
    have HK := Lib.hid hkg; clear hkg
    by_cases hlt : k < n
    · obtain ⟨x, hp⟩ : ∃ x, L[k]? = some x := ⟨_, List.getElem?_eq_getElem (by have := HN.out; omega)⟩
      obtain ⟨g1, o1, rfl, hg1, hcl1⟩ := at_q HX.out hp
      obtain ⟨g2, o2, rfl, hg2, hcl2⟩ := at_q HY.out hp
      obtain ⟨x0, x1, x2⟩ := hcl1.below hB.out hg1
      obtain ⟨y0, y1, y2⟩ := hcl2.below hB.out hg2
      clear hp hcl1 hcl2
      have zk : (0 : Int) ≤ (k : Int) := by omega
      have zl : (k : Int) < (n : Int) := by omega
      go_wp2_with fail
      go_quiet (fail)
      have hBn : Hid (Below w.heap.size w (wr.drewN nq)) := Lib.hid (bel_drewN hB.out nq)
      go_wp2
      have hkg := HK.out
      go_roundg (gk - 1)
      case rel => exact ⟨k + 1, by go_num, by omega, by omega, hBn⟩
      case measure => omega
    · go_wp2_with fail
      go_ret
      exact ⟨rfl, hB.out⟩

theorem flat_snoc2 (L : List Rc) : L.flatMap Rc.cells ++ (spareR.cells ++ spareR.cells) = (L ++ [spareR, spareR]).flatMap Rc.cells := by simp
/-- a part of the rows -/
theorem rdc_part {w : World} {a : Option Addr} {n : Nat} {L M : List (List Value)} (h : RdC w a n (L ++ M)) : RdC w a n L := by
  intro j x hx
  exact h j x (by rw [List.getElem?_append_left (List.getElem?_eq_some_iff.1 hx).1]; exact hx)
set_option maxRecDepth 100000 in
set_option maxHeartbeats 4000000 in
theorem twin_any (a : Option Addr) (n c : Nat) (L : List Rc) (w : World) (hn : n = L.length) (hr : RdC w a 5 (L.map Rc.cells)) (ha : a = none → L.length = 0 ∧ c = 0) (hl : n ≤ 1099511627776) :
    Calls Tryz.prog 15 #[.slice a n c] w fun e w' => ∃ g cap, e = .returned (.slice (some ⟨g, 0, none⟩) n cap) ∧ n + 2 ≤ cap ∧ cap ≤ maxLen ∧ w'.ownsRow w.heap.size 43 5 (.slice (some ⟨g, 0, none⟩) (n + 2) cap) (n + 2) ((L ++ [spareR, spareR]).flatMap Rc.cells) ∧ Below w.heap.size w w' := by
  obtain ⟨i0, hi, hz0, hz1, hz2⟩ := info_parts infoRec
  have S1 := Lib.hid (cells_rd Rc.cells 5 (by decide) (fun _ => rfl) hr c ha)
  rw [← hn] at S1
  have HN := Lib.hid hn
  clear hr ha hn
  go_enter Tryz.func15, Tryz.ntmps15
  go_wp2_with (at_builtin; refine wpList_append_src rfl (.const (.slice none 0 0)) (.tmp 4) 23 rfl w.heap.size 43 i0 _ 5 56 Tryz.underlying23 hi hz0 hz1 hz2 rfl (by decide) _ 0 [] rfl (World.ownsRow_nil _ _ _ _) a n c (L.flatMap Rc.cells) rfl (by rw [flat_len Rc.cells 5 (fun _ => rfl), HN.out]) S1.out (one_cells rec_one) (by unfold maxLen; omega) (by omega) (Nat.le_refl _) ?_)
  intro v1 w1 hown1 hgr1
  have hB1 : Below w.heap.size w w1 := below_append' (Below.refl _ _) (Nat.le_refl _) (World.ownsRow_nil _ w.heap.size 43 5) hgr1
  have HOW1 : Hid (w1.ownsRow w.heap.size 43 5 v1 n (L.flatMap Rc.cells)) := Lib.hid (by first | exact hown1 | simpa using hown1)
  have HB1 := Lib.hid hB1
  clear hown1 hgr1 hB1
  go_wp2_with fail
  refine (spare_any _).mono ?_
  rintro e w2 ⟨rfl, hB2⟩
  go_wp2_with fail
  refine (spare_any _).mono ?_
  rintro e w3 ⟨rfl, hB3⟩
  have HB3 := Lib.hid (hB2.trans (hB3.mono hB2.size))
  have HOW3 : Hid (w3.ownsRow w.heap.size 43 5 v1 n (L.flatMap Rc.cells)) := Lib.hid (own_keptG HOW1.out (fun k cu hk => (HB3.out.block k (Array.getElem?_eq_some_iff.1 hk).1).trans hk))
  have HB1' := Lib.hid (HB1.out.trans (HB3.out.mono HB1.out.size))
  clear hB2 hB3
  have hz3 : w.heap.size ≤ w3.heap.size := HB1'.out.size
  go_wp2_with (at_builtin; refine wpList_append_own _ rfl _ _ 23 rfl w.heap.size 43 i0 _ 5 56 Tryz.underlying23 hi hz0 hz1 hz2 rfl (by decide) _ n (L.flatMap Rc.cells) rfl (HOW3.out.alloc _) ⟨w3.heap.size, 0, none⟩ 2 2 (spareR.cells ++ spareR.cells) rfl rfl ?c1 ?c2 ?c3 ?c4 ?c5 ?_)
  case c1 => exact World.news_of_block (heap_alloc_new _ _)
  case c2 => intro u hu; rcases List.mem_append.1 hu with h | h <;> exact rec_one _ _ h
  case c3 => unfold maxLen; omega
  case c4 => omega
  case c5 => simp; omega
  intro v4 w4 hown4 hgr4 _
  have hB4 : Below w.heap.size w w4 := ((HB1'.out.alloc hz3 _).grown hgr4 (by simp; omega) (fun k hk => (HOW3.out.lt k hk).1))
  rw [flat_snoc2] at hown4
  obtain ⟨g, cap, rfl, hg1, hg2, _, _, cur, hgh⟩ := rows.own_at hown4 (by omega)
  have hcap : n + 2 ≤ cap ∧ cap ≤ maxLen := by
    rcases hown4.2 with ⟨h0, _⟩ | ⟨g', cap', cur', hv, _, _, h1, h2, _⟩
    · cases h0
    · cases hv; exact ⟨h1, h2⟩
  have HOW4 := Lib.hid hown4; have HB4 := Lib.hid hB4; have HCAP := Lib.hid hcap
  have hcn : (n : Int) ≤ (cap : Int) := by omega
  have hcm : (cap : Int) ≤ 9223372036854775807 := by have := hcap.2; unfold maxLen at this; omega
  clear hown4 hgr4 hB4 hcap hgh
  go_wp2_with fail
  go_ret
  exact ⟨g, cap, rfl, HCAP.out.1, HCAP.out.2, HOW4.out, HB4.out⟩
end Go.Proofs.YtnamkladeaohoaaGreat.same
namespace Go.Proofs.YtnamkladeaohoaaGreat.packP
open Go.RowKit Go.Proofs.YtnamkladeaohoaaGreat.kit Go.Proofs.YtnamkladeaohoaaGreat.nspec Go.Proofs.YtnamkladeaohoaaGreat.rsplit Go.Proofs.YtnamkladeaohoaaGreat.check Go.Proofs.YtnamkladeaohoaaGreat.fld Go.Proofs.YtnamkladeaohoaaGreat.wireP Go.Proofs.YtnamkladeaohoaaGreat.wireM
set_option linter.unusedVariables false

/-- where rests of names stand -/
abbrev Noted := List (Bs × Nat)
def findN : Noted → Bs → Option Nat
  | [], _ => none
  | (r, k) :: N, n => if r = n then some k else findN N n
theorem findN_snoc : ∀ (N : Noted) (r n : Bs) (k : Nat), findN (N ++ [(r, k)]) n = match findN N n with | some j => some j | none => if r = n then some k else none
  | [], r, n, k => by simp only [List.nil_append, findN]
  | (r', k') :: N, r, n, k => by
    simp only [List.cons_append, findN]
    by_cases h : r' = n
    · simp only [if_pos h]
    · simp only [if_neg h]; exact findN_snoc N r n k
theorem findN_mem : ∀ {N : Noted} {n : Bs} {k : Nat}, findN N n = some k → (n, k) ∈ N
  | [], n, k, h => by simp [findN] at h
  | (r, j) :: N, n, k, h => by
    simp only [findN] at h
    by_cases e : r = n
    · rw [if_pos e] at h; cases h; subst e; exact List.mem_cons_self
    · rw [if_neg e] at h; exact List.mem_cons_of_mem _ (findN_mem h)

def byte (v : Int) : UInt8 := UInt8.ofNat (v % 256).toNat
def be2 (v : Int) : Bs := [byte (v / 256), byte v]
def be4 (v : Int) : Bs := be2 (v / 65536) ++ be2 v
/-- the paper: what is written, and what is noted -/
structure Pp where
  out : Bs
  N : Noted
def nameF : Nat → Bs → Pp → Pp
  | 0, _, p => p
  | _ + 1, [], p => p
  | f + 1, c :: r, p =>
    if c = 0 then ⟨p.out ++ [0], p.N⟩
    else match findN p.N (c :: r) with
      | some k => ⟨p.out ++ be2 (49152 + k), p.N⟩
      | none => nameF f ((c :: r).drop (1 + c.toNat)) ⟨p.out ++ (c :: r).take (1 + c.toNat), if p.out.length ≤ 16383 then p.N ++ [(c :: r, p.out.length)] else p.N⟩
def nameP (n : Bs) (p : Pp) : Pp := nameF (n.length + 1) n p
theorem nameF_fuel : ∀ (f g : Nat) (n : Bs) (p : Pp), n.length < f → n.length < g → nameF f n p = nameF g n p
  | 0, _, n, p, h, _ => by omega
  | _, 0, n, p, _, h => by omega
  | f + 1, g + 1, [], p, _, _ => rfl
  | f + 1, g + 1, c :: r, p, h1, h2 => by
    simp only [nameF]
    by_cases hc : c = 0
    · rw [if_pos hc, if_pos hc]
    · rw [if_neg hc, if_neg hc]
      cases findN p.N (c :: r) with
      | some k => rfl
      | none =>
        simp only
        apply nameF_fuel
        · rw [List.length_drop]; simp only [List.length_cons] at *; omega
        · rw [List.length_drop]; simp only [List.length_cons] at *; omega
theorem nameP_end {p : Pp} {r : Bs} : nameP (0 :: r) p = ⟨p.out ++ [0], p.N⟩ := by simp [nameP, nameF]
theorem nameP_hit {c : UInt8} {r : Bs} {p : Pp} {k : Nat} (hc : c ≠ 0) (h : findN p.N (c :: r) = some k) : nameP (c :: r) p = ⟨p.out ++ be2 (49152 + k), p.N⟩ := by
  simp only [nameP, nameF, if_neg hc, h]
theorem nameP_go {c : UInt8} {r : Bs} {p : Pp} (hc : c ≠ 0) (h : findN p.N (c :: r) = none) :
    nameP (c :: r) p = nameP ((c :: r).drop (1 + c.toNat)) ⟨p.out ++ (c :: r).take (1 + c.toNat), if p.out.length ≤ 16383 then p.N ++ [(c :: r, p.out.length)] else p.N⟩ := by
  unfold nameP
  rw [List.length_cons]
  simp only [nameF, if_neg hc, h]
  apply nameF_fuel
  · rw [List.length_drop]; simp only [List.length_cons]; omega
  · omega
/-- a noted place can be pointed at -/
def Near (N : Noted) : Prop := ∀ r k, (r, k) ∈ N → k ≤ 16383
theorem Near.nil : Near [] := by intro r k h; simp at h
theorem Near.snoc {N : Noted} (h : Near N) {r : Bs} {k : Nat} (hk : k ≤ 16383) : Near (N ++ [(r, k)]) := by
  intro r' k' hm
  rcases List.mem_append.1 hm with h1 | h1
  · exact h r' k' h1
  · simp at h1; omega
theorem Near.step {p : Pp} (h : Near p.N) (n : Bs) : Near (if p.out.length ≤ 16383 then p.N ++ [(n, p.out.length)] else p.N) := by
  split
  · exact h.snoc (by assumption)
  · exact h
theorem nameF_near : ∀ (f : Nat) (n : Bs) (p : Pp), Near p.N → Near (nameF f n p).N
  | 0, n, p, h => h
  | f + 1, [], p, h => h
  | f + 1, c :: r, p, h => by
    simp only [nameF]
    by_cases hc : c = 0
    · rw [if_pos hc]; exact h
    · rw [if_neg hc]
      cases findN p.N (c :: r) with
      | some k => exact h
      | none => exact nameF_near f _ _ (h.step _)
theorem nameF_len : ∀ (f : Nat) (n : Bs) (p : Pp), (nameF f n p).out.length ≤ p.out.length + n.length + 2 ∧ p.out.length ≤ (nameF f n p).out.length
  | 0, n, p => by simp [nameF]; omega
  | f + 1, [], p => by simp [nameF]
  | f + 1, c :: r, p => by
    simp only [nameF]
    by_cases hc : c = 0
    · rw [if_pos hc]; simp only [List.length_append, List.length_cons, List.length_nil]; omega
    · rw [if_neg hc]
      cases findN p.N (c :: r) with
      | some k => simp only [be2, List.length_append, List.length_cons, List.length_nil]; omega
      | none =>
        have h := nameF_len f ((c :: r).drop (1 + c.toNat)) ⟨p.out ++ (c :: r).take (1 + c.toNat), if p.out.length ≤ 16383 then p.N ++ [(c :: r, p.out.length)] else p.N⟩
        simp only [List.length_append, List.length_take, List.length_drop, List.length_cons] at h ⊢
        omega

/-- the parts of data whose names may be short -/
def shortL (t : Int) : List (Option Nat) := if t = 2 ∨ t = 5 ∨ t = 12 then [none] else if t = 15 then [some 2, none] else if t = 6 then [none, none, some 20] else []
/-- how many bytes the name has that stands first -/
def nameSz : Bs → Nat
  | [] => 1
  | c :: r => if c = 0 then 1 else 1 + c.toNat + nameSz (r.drop c.toNat)
termination_by d => d.length
decreasing_by simp only [List.length_drop, List.length_cons]; omega
def dataP : List (Option Nat) → Bs → Pp → Pp
  | [], d, p => ⟨p.out ++ d, p.N⟩
  | none :: fs, d, p => dataP fs (d.drop (nameSz d)) (nameP (d.take (nameSz d)) p)
  | some k :: fs, d, p => dataP fs (d.drop k) ⟨p.out ++ d.take k, p.N⟩
def patch (out : Bs) (k : Nat) (n : Int) : Bs := (out.set k (byte (n / 256))).set (k + 1) (byte n)
def recP (x : Rc) (p : Pp) : Pp :=
  let q := nameP x.o.data.toList p
  let q1 : Pp := ⟨q.out ++ (be2 x.t ++ be2 x.c ++ be4 x.l), q.N⟩
  let q2 := dataP (if x.d.size = 0 then [] else shortL x.t) x.d.data.toList ⟨q1.out ++ [0, 0], q1.N⟩
  ⟨patch q2.out q1.out.length ((q2.out.length : Int) - q1.out.length - 2), q2.N⟩
def quesP (x : Qn) (p : Pp) : Pp :=
  let q := nameP x.n.data.toList p
  ⟨q.out ++ (be2 x.t ++ be2 x.c), q.N⟩
def bit (b : Bool) (v : Int) : Int := if b then v else 0
def signsV (m : Mg) : Int := bit m.rs 32768 + m.op * 2048 + bit m.aa 1024 + bit m.tc 512 + bit m.rd 256 + bit m.ra 128 + bit m.ad 32 + bit m.cd 16 + m.rc
def headP (m : Mg) : Bs := be2 m.id ++ be2 (signsV m) ++ be2 m.qs.length ++ be2 m.an.length ++ be2 m.au.length ++ be2 m.ar.length
/-- the records, none where a paper is full -/
def recsP : List Rc → Pp → Option Pp
  | [], p => if 65535 < p.out.length then none else some p
  | x :: L, p => if 65535 < p.out.length then none else recsP L (recP x p)
def packP (m : Mg) : Option Bs := (recsP (m.an ++ m.au ++ m.ar) (m.qs.foldl (fun p x => quesP x p) ⟨headP m, []⟩)).map Pp.out
/-- the bytes of a message, and its fault -/
def packS (m : Mg) : Bs × Int := if checkB m = false then ([], 8) else match packP m with | none => ([], 12) | some b => (b, 0)
end Go.Proofs.YtnamkladeaohoaaGreat.packP
namespace Go.Proofs.YtnamkladeaohoaaGreat.buf
open Go.RowKit Go.Proofs.YtnamkladeaohoaaGreat.kit Go.Proofs.YtnamkladeaohoaaGreat.nspec Go.Proofs.YtnamkladeaohoaaGreat.bits Go.Proofs.YtnamkladeaohoaaGreat.bld Go.Proofs.YtnamkladeaohoaaGreat.coded Go.Proofs.YtnamkladeaohoaaGreat.fld Go.Proofs.YtnamkladeaohoaaGreat.packP
set_option linter.unusedVariables false

/-- no row of bytes -/
def NotU8 (o : Obj) : Prop := ∀ cur f, o ≠ .cells cur 5 f
/-- what a write on the paper may touch: the blocks that T tells, rows of bytes from b0 on, new blocks -/
structure Eff (b0 : Nat) (T : Nat → Prop) (w w' : World) : Prop where
  os : w'.os = w.os
  tape : w'.tape = w.tape
  output : w'.output = w.output
  size : w.heap.size ≤ w'.heap.size
  low : ∀ k, k < b0 → w'.heap[k]? = w.heap[k]?
  kept : ∀ k o, w.heap[k]? = some o → NotU8 o → ¬ T k → w'.heap[k]? = some o
theorem Eff.refl (b0 : Nat) (T : Nat → Prop) (w : World) : Eff b0 T w w := ⟨rfl, rfl, rfl, Nat.le_refl _, fun _ _ => rfl, fun _ _ h _ _ => h⟩
theorem Eff.trans {b0 : Nat} {T : Nat → Prop} {w w1 w2 : World} (h : Eff b0 T w w1) (g : Eff b0 T w1 w2) : Eff b0 T w w2 :=
  ⟨g.os.trans h.os, g.tape.trans h.tape, g.output.trans h.output, Nat.le_trans h.size g.size, fun k hk => (g.low k hk).trans (h.low k hk), fun k o hk hn hT => g.kept k o (h.kept k o hk hn hT) hn hT⟩
theorem Eff.wider {b0 : Nat} {T T' : Nat → Prop} {w w1 : World} (h : Eff b0 T w w1) (hT : ∀ k, T k → T' k) : Eff b0 T' w w1 :=
  ⟨h.os, h.tape, h.output, h.size, h.low, fun k o hk hn hk' => h.kept k o hk hn (fun e => hk' (hT k e))⟩
theorem Eff.of_below {b0 : Nat} {T : Nat → Prop} {w w1 : World} (h : Below w.heap.size w w1) (hb : b0 ≤ w.heap.size) : Eff b0 T w w1 :=
  ⟨h.os, h.tape, h.output, h.size, fun k hk => h.block k (by omega), fun k o hk hn _ => (h.block k (Array.getElem?_eq_some_iff.1 hk).1).trans hk⟩
theorem Eff.to_below {b0 : Nat} {T : Nat → Prop} {w w1 : World} (h : Eff b0 T w w1) : Below b0 w w1 :=
  ⟨h.os, h.tape, h.output, h.size, h.low⟩
/-- the paper's block and its row of bytes -/
structure Buf (w : World) (b0 B : Nat) (v c1 : Value) (out : Bs) : Prop where
  blk : w.heap[B]? = some (.cells #[v, c1] 144 (0, 0))
  own : w.ownsRow b0 5 1 v out.length (Lib.byteCells out)
  low : b0 ≤ B
theorem Buf.lt {w : World} {b0 B : Nat} {v c1 : Value} {out : Bs} (h : Buf w b0 B v c1 out) : B < w.heap.size := (Array.getElem?_eq_some_iff.1 h.blk).1
theorem Buf.c0 {w : World} {b0 B : Nat} {v c1 : Value} {out : Bs} (h : Buf w b0 B v c1 out) : w.cell? ⟨B, 0, none⟩ = some v := by simp only [World.cell?, h.blk]; rfl
theorem Buf.c1' {w : World} {b0 B : Nat} {v c1 : Value} {out : Bs} (h : Buf w b0 B v c1 out) : w.cell? ⟨B, 1, none⟩ = some c1 := by simp only [World.cell?, h.blk]; rfl
theorem Buf.z {w : World} {b0 B : Nat} {v c1 : Value} {out : Bs} (h : Buf w b0 B v c1 out) (j : Nat) : w.frozen? ⟨B, j, none⟩ = false := by simp only [World.frozen?, h.blk]; simp
theorem notU8_packer (c : Array Value) (f : Nat × Nat) : NotU8 (.cells c 144 f) := by
  intro cur f' e; injection e with _ e2 _; exact absurd e2 (by decide)
theorem row_u8 {w : World} {b0 : Nat} {v : Value} {n : Nat} {xs : List Value} (h : w.ownsRow b0 5 1 v n xs) {k : Nat} {o : Obj} (hk : w.heap[k]? = some o) (hn : NotU8 o) : some k ≠ v.ownBlock := by
  intro e
  rcases h.2 with ⟨rfl, _⟩ | ⟨g, cap, cur, rfl, hb, hg, _⟩
  · cases e
  · simp only [Value.ownBlock, Option.some.injEq] at e
    subst e
    rw [hg] at hk; cases hk
    exact hn _ _ rfl
theorem row_low {w : World} {b0 : Nat} {v : Value} {n : Nat} {xs : List Value} (h : w.ownsRow b0 5 1 v n xs) {k : Nat} (hk : k < b0) : some k ≠ v.ownBlock := by
  intro e
  rcases h.2 with ⟨rfl, _⟩ | ⟨g, cap, cur, rfl, hb, hg, _⟩
  · cases e
  · simp only [Value.ownBlock, Option.some.injEq] at e; omega
theorem own_slice1 {w : World} {base : Nat} {e : TypeId} {v : Value} {n : Nat} {xs : List Value} (h : w.ownsRow base e 1 v n xs) : ∃ a c, v = .slice a n c := by
  rcases h.2 with ⟨rfl, rfl⟩ | ⟨g, cap, cur, rfl, _⟩
  · exact ⟨_, _, rfl⟩
  · exact ⟨_, _, rfl⟩
/-- behind an append: the block is as it was -/
theorem Buf.grown {w w1 : World} {b0 B : Nat} {v c1 : Value} {out : Bs} (h : Buf w b0 B v c1 out) (hg : w.grownBy w1 v.ownBlock) : w1.heap[B]? = some (.cells #[v, c1] 144 (0, 0)) :=
  (hg.block B h.lt (row_u8 h.own h.blk (notU8_packer _ _))).trans h.blk
/-- .. and the new row stored -/
theorem Buf.put {w w1 : World} {b0 B : Nat} {v v' c1 : Value} {out out' : Bs} (h : Buf w b0 B v c1 out) (hg : w.grownBy w1 v.ownBlock) (hown : w1.ownsRow b0 5 1 v' out'.length (Lib.byteCells out')) :
    Buf (w1.setCell ⟨B, 0, none⟩ v') b0 B v' c1 out' ∧ Eff b0 (fun k => k = B) w (w1.setCell ⟨B, 0, none⟩ v') := by
  have hb1 := h.grown hg
  have hB := (Array.getElem?_eq_some_iff.1 hb1).1
  refine ⟨⟨?_, ?_, h.low⟩, hg.os, hg.tape, hg.output, by simpa using hg.size, fun k hk => ?_, fun k o hk hn hT => ?_⟩
  · have := heap_setCell_same w1 B 0 #[v, c1] 144 v' hb1
    rw [this]; rfl
  · exact ownsRow_setCell_other hown (fun e => row_u8 hown hb1 (notU8_packer _ _) e.symm) v'
  · rw [Below.heap_setCell _ _ _ _ (by show k ≠ B; have := h.low; omega)]
    have hlt := h.lt; have hlo := h.low
    exact hg.block k (by omega) (row_low h.own hk)
  · rw [Below.heap_setCell _ _ _ _ (by show k ≠ B; exact hT)]
    exact (hg.block k (Array.getElem?_eq_some_iff.1 hk).1 (row_u8 h.own hk hn)).trans hk
theorem Buf.alloc {w : World} {b0 B : Nat} {v c1 : Value} {out : Bs} (h : Buf w b0 B v c1 out) (o : Obj) : Buf (w.alloc o) b0 B v c1 out :=
  ⟨(Below.heap_alloc _ _ _ h.lt).trans h.blk, h.own.alloc o, h.low⟩
theorem Buf.kept {w w1 : World} {b0 B : Nat} {v c1 : Value} {out : Bs} (h : Buf w b0 B v c1 out) (hB : Below w.heap.size w w1) : Buf w1 b0 B v c1 out :=
  ⟨(hB.block B h.lt).trans h.blk, by
    refine ⟨h.own.1, ?_⟩
    rcases h.own.2 with h1 | ⟨g, cap, cur, h1, h2, h3, h4⟩
    · exact .inl h1
    · exact .inr ⟨g, cap, cur, h1, h2, (hB.block g (Array.getElem?_eq_some_iff.1 h3).1).trans h3, h4⟩, h.low⟩
theorem byte_wrap (v : Int) : IntKind.u8.wrap v = ((byte v).toNat : Int) := by
  rw [IntKind.wrap_u8]; unfold byte
  rw [UInt8.toNat_ofNat_of_lt' (by have := Int.emod_lt_of_pos v (show (0 : Int) < 256 by decide); have := Int.emod_nonneg v (show (256 : Int) ≠ 0 by decide); show (v % 256).toNat < 256; omega)]
  have := Int.emod_nonneg v (show (256 : Int) ≠ 0 by decide)
  omega
def u8V (c : UInt8) : Value := .int .u8 (c.toNat : Int)
theorem cells_snoc (out : Bs) (l : Bs) : Lib.byteCells out ++ l.map u8V = Lib.byteCells (out ++ l) := by
  simp [Lib.byteCells, u8V]

theorem cell_two_new (w : World) (e : TypeId) (x y : Value) : ∀ (j : Nat) (u : Value), [x, y][j]? = some u → (w.alloc (.cells #[x, y] e)).cell? ((⟨w.heap.size, 0, none⟩ : Addr).add j) = some u := by
  intro j u h
  have hb : (w.alloc (.cells #[x, y] e)).heap[w.heap.size]? = some (.cells #[x, y] e (0, 0)) := heap_alloc_new _ _
  rw [addr_add]
  simp only [World.cell?, hb]
  simpa using h
set_option maxRecDepth 100000 in
set_option maxHeartbeats 2000000 in
theorem u8_any (b0 B : Nat) (v c1 : Value) (out : Bs) (b : Int) (w : World) (h : Buf w b0 B v c1 out) (hl : out.length ≤ 1099511627776) :
    Calls Tryz.prog 178 #[.pointer (some ⟨B, 0, none⟩), .int .i64 b] w fun e w' => e = .returned (.tuple #[]) ∧ ∃ v', Buf w' b0 B v' c1 (out ++ [byte b]) ∧ Eff b0 (fun k => k = B) w w' := by
  obtain ⟨i0, hi, hz0, hz1, hz2⟩ := info_parts infoByte
  have k0 := h.c0
  have z0 := h.z 0
  have hlt := h.lt
  have hlo := h.low
  have HB := Lib.hid (h.alloc (.cells #[.int .u8 ((byte b).toNat : Int)] 5))
  have HE : Hid (Eff b0 (fun k => k = B) w (w.alloc (.cells #[.int .u8 ((byte b).toNat : Int)] 5))) := Lib.hid (Eff.of_below ((Below.refl _ _).alloc (Nat.le_refl _) _) (by omega))
  obtain ⟨c, hc⟩ : ∃ c, byte b = c := ⟨_, rfl⟩
  have hcw : IntKind.u8.wrap b = (c.toNat : Int) := by rw [byte_wrap, hc]
  rw [hc] at HB HE
  rw [hc]
  have hcv : Value.int .u8 (IntKind.u8.wrap b) = Value.int .u8 (c.toNat : Int) := by rw [hcw]
  have hown := h.own
  obtain ⟨a, cp, rfl⟩ := own_slice1 hown
  clear hc hcw h
  go_enter Tryz.func178, Tryz.ntmps178
  go_wp2_with (at_builtin; refine wpList_append_own _ rfl _ _ 61 rfl b0 5 i0 (.int .u8 0) 1 1 Tryz.underlying61 hi hz0 hz1 hz2 rfl (by decide) _ _ _ rfl (hown.alloc _) ⟨w.heap.size, 0, none⟩ 1 1 [.int .u8 (c.toNat : Int)] rfl rfl ?c1 ?c2 ?c3 ?c4 ?c5 ?_)
  case c1 => exact cell_one_new _ _ _
  case c2 => simp [Value.oneCell']
  case c3 => unfold maxLen; omega
  case c4 => omega
  case c5 => simp; omega
  intro v' w1 hown' hgrow _
  have hown2 : w1.ownsRow b0 5 1 v' (out ++ [c]).length (Lib.byteCells (out ++ [c])) := by
    rw [← cells_snoc]; simpa [u8V] using hown'
  have hP := HB.out.put hgrow hown2
  have hE := HE.out.trans hP.2
  have hb1 := HB.out.grown hgrow
  have k1 : w1.cell? ⟨B, 0, none⟩ = some (.slice a out.length cp) := by simp only [World.cell?, hb1]; rfl
  have z1 : w1.frozen? ⟨B, 0, none⟩ = false := by simp only [World.frozen?, hb1]; simp
  obtain ⟨a2, c2, rfl⟩ := own_slice1 hown2
  rw [List.length_append] at hP hE
  have HP := Lib.hid hP.1; have HF := Lib.hid hE
  clear hown' hown2 hgrow hown hP hE hb1 hcv k0 z0 HB HE
  go_wp2_with fail
  go_end0
  exact ⟨rfl, _, HP.out, HF.out⟩
set_option maxRecDepth 100000 in
set_option maxHeartbeats 2000000 in
theorem u16_any (b0 B : Nat) (v c1 : Value) (out : Bs) (b : Int) (w : World) (h : Buf w b0 B v c1 out) (hl : out.length ≤ 1099511627776) :
    Calls Tryz.prog 114 #[.pointer (some ⟨B, 0, none⟩), .int .i64 b] w fun e w' => e = .returned (.tuple #[]) ∧ ∃ v', Buf w' b0 B v' c1 (out ++ be2 b) ∧ Eff b0 (fun k => k = B) w w' := by
  obtain ⟨i0, hi, hz0, hz1, hz2⟩ := info_parts infoByte
  have k0 := h.c0
  have z0 := h.z 0
  have hlt := h.lt
  have hlo := h.low
  have HB := Lib.hid (h.alloc (.cells #[.int .u8 ((byte (b / 256)).toNat : Int), .int .u8 ((byte b).toNat : Int)] 5))
  have HE : Hid (Eff b0 (fun k => k = B) w (w.alloc (.cells #[.int .u8 ((byte (b / 256)).toNat : Int), .int .u8 ((byte b).toNat : Int)] 5))) := Lib.hid (Eff.of_below ((Below.refl _ _).alloc (Nat.le_refl _) _) (by omega))
  have hbe : be2 b = [byte (b / 256), byte b] := rfl
  rw [hbe]
  obtain ⟨c, hc⟩ : ∃ c, byte b = c := ⟨_, rfl⟩
  obtain ⟨d, hd⟩ : ∃ d, byte (b / 256) = d := ⟨_, rfl⟩
  have hdv : Value.int .u8 (IntKind.u8.wrap (b / 256)) = Value.int .u8 (d.toNat : Int) := by rw [byte_wrap, hd]
  have hcw : IntKind.u8.wrap b = (c.toNat : Int) := by rw [byte_wrap, hc]
  rw [hc, hd] at HB HE
  rw [hc, hd]
  have hcv : Value.int .u8 (IntKind.u8.wrap b) = Value.int .u8 (c.toNat : Int) := by rw [hcw]
  have hown := h.own
  obtain ⟨a, cp, rfl⟩ := own_slice1 hown
  clear hc hcw hd hbe h
  go_enter Tryz.func114, Tryz.ntmps114
  go_wp2_with (at_builtin; refine wpList_append_own _ rfl _ _ 61 rfl b0 5 i0 (.int .u8 0) 1 1 Tryz.underlying61 hi hz0 hz1 hz2 rfl (by decide) _ _ _ rfl (hown.alloc _) ⟨w.heap.size, 0, none⟩ 2 2 [.int .u8 (d.toNat : Int), .int .u8 (c.toNat : Int)] rfl rfl ?d1 ?d2 ?d3 ?d4 ?d5 ?_)
  case d1 => first | exact fun j u h => h | exact cell_two_new _ _ _ _
  case d2 => simp [Value.oneCell']
  case d3 => unfold maxLen; omega
  case d4 => omega
  case d5 => simp; omega
  intro v' w1 hown' hgrow _
  have hown2 : w1.ownsRow b0 5 1 v' (out ++ [d, c]).length (Lib.byteCells (out ++ [d, c])) := by
    rw [← cells_snoc]; simpa [u8V] using hown'
  have hP := HB.out.put hgrow hown2
  have hE := HE.out.trans hP.2
  have hb1 := HB.out.grown hgrow
  have k1 : w1.cell? ⟨B, 0, none⟩ = some (.slice a out.length cp) := by simp only [World.cell?, hb1]; rfl
  have z1 : w1.frozen? ⟨B, 0, none⟩ = false := by simp only [World.frozen?, hb1]; simp
  obtain ⟨a2, c2, rfl⟩ := own_slice1 hown2
  rw [List.length_append] at hP hE
  have HP := Lib.hid hP.1; have HF := Lib.hid hE
  clear hown' hown2 hgrow hown hP hE hb1 hcv hdv k0 z0 HB HE
  go_wp2_with fail
  go_end0
  exact ⟨rfl, _, HP.out, HF.out⟩
theorem cells_str (out : Bs) (s : ByteArray) : Lib.byteCells out ++ Lib.strCells s = Lib.byteCells (out ++ s.data.toList) := by
  simp [Lib.byteCells, Lib.strCells]

set_option maxRecDepth 100000 in
set_option maxHeartbeats 2000000 in
theorem raw_any (b0 B : Nat) (v c1 : Value) (out : Bs) (s : ByteArray) (w : World) (h : Buf w b0 B v c1 out) (hl : out.length ≤ 1099511627776) (hs : s.size ≤ 1099511627776) :
    Calls Tryz.prog 177 #[.pointer (some ⟨B, 0, none⟩), .string s] w fun e w' => e = .returned (.tuple #[]) ∧ ∃ v', Buf w' b0 B v' c1 (out ++ s.data.toList) ∧ Eff b0 (fun k => k = B) w w' := by
  obtain ⟨i0, hi, hz0, hz1, hz2⟩ := info_parts infoByte
  have k0 := h.c0
  have z0 := h.z 0
  have hlt := h.lt
  have hlo := h.low
  have HB := Lib.hid h
  have hown := h.own
  have hsl := size_len s
  obtain ⟨a, cp, rfl⟩ := own_slice1 hown
  clear h
  go_enter Tryz.func177, Tryz.ntmps177
  go_wp2_with (at_builtin; refine Lib.wpList_append_own_string _ rfl _ _ 61 9 rfl b0 5 i0 Tryz.underlying61 Tryz.underlying9 hi hz0 hz1 hz2 _ _ _ rfl hown s rfl ?e3 ?e4 ?e5 ?_)
  case e3 => unfold maxLen; omega
  case e4 => omega
  case e5 => omega
  intro v' w1 hown' hgrow _
  have hown2 : w1.ownsRow b0 5 1 v' (out ++ s.data.toList).length (Lib.byteCells (out ++ s.data.toList)) := by
    rw [← cells_str, List.length_append, hsl]; exact hown'
  have hP := HB.out.put hgrow hown2
  have hb1 := HB.out.grown hgrow
  have k1 : w1.cell? ⟨B, 0, none⟩ = some (.slice a out.length cp) := by simp only [World.cell?, hb1]; rfl
  have z1 : w1.frozen? ⟨B, 0, none⟩ = false := by simp only [World.frozen?, hb1]; simp
  obtain ⟨a2, c2, rfl⟩ := own_slice1 hown'
  have HP := Lib.hid hP.1; have HF := Lib.hid hP.2
  clear hown' hown2 hgrow hown hP hb1 k0 z0 HB hsl
  go_wp2_with fail
  go_end0
  exact ⟨rfl, _, HP.out, HF.out⟩
end Go.Proofs.YtnamkladeaohoaaGreat.buf

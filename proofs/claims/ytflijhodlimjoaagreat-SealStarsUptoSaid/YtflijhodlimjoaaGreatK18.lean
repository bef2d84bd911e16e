/- A number as bytes: seal.bytes, gazetteerref1.Bytes: walks. Texts that are signed, in plain words. Numbers of a seal in plain words: a text's number, powers. Tag of seal and of the reference; number, Value: walks. Which numbers are a key: seal.right, gazetteerref4.RightKey: walks. Which numbers are a key: seal.right: walk. Which numbers are a key: gazetteerref4.RightKey: walk. What is told of a key: Public of both: walks. -/
import Derived.Test.YtflijhodlimjoaaGreatK15
import Derived.Test.YtflijhodlimjoaaGreatK16
import Derived.Test.YtflijhodlimjoaaGreatK14
import Derived.Test.YtflijhodlimjoaaGreatK17
import Derived.Test.YtflijhodlimjoaaGreatK11
import Derived.Test.YtflijhodlimjoaaGreatK6
import Derived.Test.YtflijhodlimjoaaGreatK1
import Derived.OwnWalk
import Derived.Deep.RegionWith
import Derived.Deep.RegionHeld3
import Derived.Deep.DeepCutAuto
namespace Go.Proofs.YtflijhodlimjoaaGreat.big
open Go.RowKit Go.Proofs.YtflijhodlimjoaaGreat.kit Go.Proofs.YtflijhodlimjoaaGreat.bits Go.Proofs.YtflijhodlimjoaaGreat.bld Go.Proofs.YtflijhodlimjoaaGreat.coded Go.Proofs.YtflijhodlimjoaaGreat.reader
set_option linter.unusedVariables false

/-- the lowest n bytes of v, the highest first -/
def bigS (v : Nat) : Nat → List UInt8
  | 0 => []
  | n + 1 => bigS (v / 256) n ++ [UInt8.ofNat (v % 256)]
theorem bigS_len (v n : Nat) : (bigS v n).length = n := by
  induction n generalizing v with
  | zero => rfl
  | succ n ih => rw [bigS, List.length_append, ih]; rfl
theorem bigS_at : ∀ (n v k : Nat), k < n → (bigS v n)[k]? = some (UInt8.ofNat (v / 2 ^ (8 * (n - 1 - k)) % 256))
  | 0, v, k, h => by omega
  | n + 1, v, k, h => by
    rw [bigS]
    by_cases hk : k < n
    · rw [List.getElem?_append_left (by rw [bigS_len]; exact hk), bigS_at n (v / 256) k hk, Nat.div_div_eq_div_mul]
      congr 3
      rw [show 8 * (n + 1 - 1 - k) = 8 + 8 * (n - 1 - k) by omega, Nat.pow_add]
    · have hkn : k = n := by omega
      subst hkn
      rw [List.getElem?_append_right (by rw [bigS_len]; exact Nat.le_refl _), bigS_len]
      simp
def bigTo (v n k : Nat) : List UInt8 := (bigS v n).take k ++ List.replicate (n - k) 0
theorem bigTo_zero (v n : Nat) : bigTo v n 0 = List.replicate n 0 := by simp [bigTo]
theorem bigTo_end (v n : Nat) : bigTo v n n = bigS v n := by
  unfold bigTo; rw [List.take_of_length_le (by rw [bigS_len]; exact Nat.le_refl _), Nat.sub_self]; simp
theorem bigTo_set (v n k : Nat) (h : k < n) : (bigTo v n k).set k (UInt8.ofNat (v / 2 ^ (8 * (n - 1 - k)) % 256)) = bigTo v n (k + 1) := by
  have hl : ((bigS v n).take k).length = k := by rw [List.length_take, bigS_len]; omega
  unfold bigTo
  rw [show n - k = (n - (k + 1)) + 1 by omega, List.replicate_succ]
  have hm := set_mid ((bigS v n).take k) (List.replicate (n - (k + 1)) 0) 0 (UInt8.ofNat (v / 2 ^ (8 * (n - 1 - k)) % 256))
  rw [hl] at hm
  rw [hm, List.take_add_one, bigS_at n v k h]
  simp
theorem bigTo_len (v n k : Nat) (h : k ≤ n) : (bigTo v n k).length = n := by
  unfold bigTo; rw [List.length_append, List.length_take, bigS_len, List.length_replicate]; omega

set_option maxRecDepth 100000 in
set_option maxHeartbeats 2000000 in
theorem bytes_any (v n : Nat) (w : World) (hv : v ≤ 4611686018427387904) (hn : n ≤ 8) :
    Calls Tryz.prog 54 #[.int .i64 (v : Int), .int .i64 (n : Int)] w fun e w' => e = .returned (.string ⟨(bigS v n).toArray⟩) ∧ Below w.heap.size w w' := by
  obtain ⟨i0, hi, hz0, hz1, hz2⟩ := info_parts infoByte
  go_enter Tryz.func54, Tryz.ntmps54
  go_wp2_with (refine wpList_make_full _ rfl (.tmp 7) (.tmp 7) 108 rfl w.heap.size 5 i0 (.int .u8 0) 1 Tryz.underlying108 hi hz0 hz1 .i64 .i64 (n : Int) (n : Int) n rfl rfl rfl rfl ?b2 ?b3 (Nat.le_refl _) ?_)
  case b2 => rw [hz2]; omega
  case b3 => unfold maxLen; omega
  intro w1 hown hgrow
  have hown1 : w1.ownsRow w.heap.size 5 1 (.slice (some ⟨w.heap.size, 0, none⟩) n n) n (Lib.byteCells (bigTo v n 0)) := by
    rw [bigTo_zero]
    have h1 := hown
    rw [toList_madeCells_one] at h1
    have h2 : Lib.byteCells (List.replicate n 0) = List.replicate n (.int .u8 0) := by simp [Lib.byteCells]
    rw [h2]; exact h1
  have hB1 : Below w.heap.size w w1 := (Below.refl _ w).grown hgrow (Nat.le_refl _) (fun k hk => by cases hk)
  clear hown hgrow
  go_wp2
  go_loopg [6, 11] (n + 1) (fun gas _ kv wr => ∃ (k : Nat), kv = .int .i64 k ∧ k ≤ n ∧ k + gas = n + 1 ∧ wr.ownsRow w.heap.size 5 1 (.slice (some ⟨w.heap.size, 0, none⟩) n n) n (Lib.byteCells (bigTo v n k)) ∧ Below w.heap.size w wr)
  case atStart => exact ⟨0, rfl, by omega, by omega, hown1, hB1⟩
  case round =>
    clear hown1 hB1
    obtain ⟨k, rfl, hk, hkg, hO, hB⟩ := hrel
    have HK := Lib.hid hkg; clear hkg
    by_cases hlt : k < n
    · obtain ⟨e, he⟩ : ∃ e, 8 * (n - 1 - k) = e := ⟨_, rfl⟩
      have he8 : (e : Int) ≤ 56 := by omega
      have hsub : Value.int .i64 (8 * ((n : Int) - 1 - (k : Int))) = Value.int .i64 (e : Int) := by congr 1; omega
      have HS := Lib.hid (bigTo_set v n k hlt)
      rw [he] at HS
      obtain ⟨c, hc⟩ : ∃ c : UInt8, UInt8.ofNat (v / 2 ^ e % 256) = c := ⟨_, rfl⟩
      rw [hc] at HS
      have hcv : Value.int .u8 ((v : Int) / 2 ^ e % 256) = Value.int .u8 (c.toNat : Int) := by
        rw [← hc, UInt8.toNat_ofNat']; congr 1; simp
      obtain ⟨x, hx⟩ : ∃ x, (bigTo v n k)[k]? = some x := ⟨_, List.getElem?_eq_getElem (by rw [bigTo_len v n k (by omega)]; exact hlt)⟩
      have hcell : w.heap.size < wr.heap.size + 1 := by have := hB.size; omega
      have c0 : wr.cell? ⟨w.heap.size, k, none⟩ = some (.int .u8 (x.toNat : Int)) := by
        rw [hO.cellAt k (by omega)]; simp [Lib.byteCells, hx]
      have f0 : wr.frozen? ⟨w.heap.size, k, none⟩ = false := hO.frozenAt k
      have hst := (hO.stored k (.int .u8 (c.toNat : Int))).1
      rw [byteCells_set, HS.out] at hst
      have HST := Lib.hid hst
      have hBs := hB.setCell (p := ⟨w.heap.size, k, none⟩) (Nat.le_refl _) (.int .u8 (c.toNat : Int))
      have HBS := Lib.hid hBs
      clear hst hBs he hc hx
      go_wp2
      have hkg := HK.out
      go_roundg (gk - 1)
      case rel => exact ⟨k + 1, by go_num, by omega, by omega, by first | exact HST.out | (rw [hcv]; exact HST.out), by first | exact HBS.out | (rw [hcv]; exact HBS.out)⟩
      case measure => omega
    · have hkn : k = n := by omega
      subst hkn
      rw [bigTo_end] at hO
      have hst := own_string (P := Tryz.prog) (l := bigS v k) (v := .slice (some ⟨w.heap.size, 0, none⟩) k k) (by rw [bigS_len]; exact hO) 108 9 5 Tryz.underlying108 Tryz.underlying5 Tryz.underlying9
      go_wp2
      go_ret
      exact ⟨rfl, hB⟩

set_option maxRecDepth 100000 in
set_option maxHeartbeats 2000000 in
theorem rbytes_any (n : Nat) : ∀ (v : Nat) (w : World), v ≤ 4611686018427387904 → n ≤ 8 →
    Calls Tryz.prog 64 #[.int .i64 (v : Int), .int .i64 (n : Int)] w fun e w' => e = .returned (.string ⟨(bigS v n).toArray⟩) ∧ Below w.heap.size w w' := by
  induction n with
  | zero =>
    intro v w hv _
    go_enter Tryz.func64, Tryz.ntmps64
    go_wp2_with fail
    go_ret
    exact ⟨rfl, Below.refl _ _⟩
  | succ n ih =>
    intro v w hv hn
    have hn0 : (((n + 1 : Nat) : Int) == 0) = false := by rw [beq_eq_false_iff_ne]; omega
    obtain ⟨m, hm⟩ : ∃ m, n + 1 = m := ⟨_, rfl⟩
    obtain ⟨q, hq⟩ : ∃ q, v / 256 = q := ⟨_, rfl⟩
    obtain ⟨r, hr⟩ : ∃ r, v % 256 = r := ⟨_, rfl⟩
    obtain ⟨T, hT⟩ : ∃ T : ByteArray, (⟨(bigS q n).toArray⟩ : ByteArray) = T := ⟨_, rfl⟩
    obtain ⟨X, hX⟩ : ∃ X : ByteArray, (⟨#[UInt8.ofNat r]⟩ : ByteArray) = X := ⟨_, rfl⟩
    have hTs : T.size ≤ 8 := by rw [← hT, mk_size, bigS_len]; omega
    have hXs : X.size ≤ 1 := by rw [← hX]; exact Nat.le_refl 1
    have IH := Lib.hid (fun w => ih q w (by omega) (by omega))
    rw [hT] at IH
    have hr256 : (r : Int) < 256 := by omega
    have hbig : Hid ((⟨(bigS v m).toArray⟩ : ByteArray) = T ++ X) := Lib.hid (by rw [← hm, bigS, hq, hr, ← hT, ← hX]; exact ba_ext (by simp))
    rw [hm] at hn0 ⊢
    have E1 : Hid (IntKind.i64.wrap ((v : Int) / 256) = (q : Int)) := Lib.hid (by rw [IntWalk.i64_in _ (by omega)]; omega)
    have E3 : Hid (IntKind.i64.wrap ((m : Int) - 1) = (n : Int)) := Lib.hid (by rw [IntWalk.i64_in _ (by omega)]; omega)
    have hconv : ∀ (wx : World) (g : Nat), wx.cell? ⟨g, 0, none⟩ = some (.int .u8 (IntKind.u8.wrap ((v : Int).tmod 256))) → (convert 108 9 (.slice (some ⟨g, 0, none⟩) 1 1)).run Tryz.prog wx = .ok (.string X) wx := by
      intro wx g hx
      rw [← hX]
      have e : IntKind.u8.wrap ((v : Int).tmod 256) = ((UInt8.ofNat r).toNat : Int) := by
        rw [IntKind.wrap_u8, UInt8.toNat_ofNat', Int.tmod_eq_emod_of_nonneg (by omega)]; omega
      rw [e] at hx
      exact run_convert_bytes_back wx 108 9 5 ⟨g, 0, none⟩ 1 [UInt8.ofNat r] Tryz.underlying108 Tryz.underlying5 Tryz.underlying9 (fun j hj => by
        have : j = 0 := by simpa using hj
        subst this
        exact hx)
    have HRR := Lib.hid hr
    clear ih hm hq hr hT hX
    go_enter Tryz.func64, Tryz.ntmps64
    go_wp2_with fail
    go_region_with (go_at_call 64; rw [E1.out, E3.out]; refine (IH.out _).mono ?_; rintro e w1 ⟨rfl, hB1⟩; have hcx := hB1.cell (p := ⟨w.heap.size, 0, none⟩))
    all_goals
      clear hcx hconv
      go_wp2
      go_ret
      rw [hbig.out]
      refine ⟨rfl, ?_⟩
      have hz := hB1.size
      have hd : Below w.heap.size w w.drew := (Below.refl _ _).drew
      first
        | exact (hd.trans hB1).alloc (by simpa using hz) _
        | exact (hd.alloc (Nat.le_refl _) _).trans (hB1.mono (by simp))
end Go.Proofs.YtflijhodlimjoaaGreat.big
namespace Go.Proofs.YtflijhodlimjoaaGreat.sealS
open Go.RowKit Go.Proofs.YtflijhodlimjoaaGreat.kit Go.Proofs.YtflijhodlimjoaaGreat.nspec Go.Proofs.YtflijhodlimjoaaGreat.low Go.Proofs.YtflijhodlimjoaaGreat.refA Go.Proofs.YtflijhodlimjoaaGreat.refB Go.Proofs.YtflijhodlimjoaaGreat.star Go.Proofs.YtflijhodlimjoaaGreat.sealA Go.Proofs.YtflijhodlimjoaaGreat.big Go.Proofs.YtflijhodlimjoaaGreat.val Go.Proofs.YtflijhodlimjoaaGreat.wireP Go.Proofs.YtflijhodlimjoaaGreat.dfold Go.Proofs.YtflijhodlimjoaaGreat.sortT Go.Proofs.YtflijhodlimjoaaGreat.fld
set_option linter.unusedVariables false

/-- the owner as it is signed -/
def ownS (k : Int) (o : Bs) : Bs := if k < lessS o then foldS (1 :: 42 :: tailS o k) else foldS o
def pieceT (own t2 ttl d : Bs) : Bs := own ++ t2 ++ [0, 1] ++ ttl ++ bigS d.length 2 ++ d
def bodyS (own t2 ttl : Bs) (ds : List Bs) : Bs := ds.flatMap (pieceT own t2 ttl)
theorem low42 {x : Bs} : lowL x = [42] ↔ x = [42] := by
  constructor
  · intro h
    match x, h with
    | [], h => simp [lowL] at h
    | [c], h =>
      simp only [lowL, List.map_cons, List.map_nil, List.cons.injEq, and_true] at h
      by_cases hc : 65 ≤ c.toNat ∧ c.toNat ≤ 90
      · have h1 := up_val c hc
        rw [h] at h1
        have : ((42 : UInt8).toNat : Int) = 42 := rfl
        omega
      · rw [lowB_id c hc] at h; rw [h]
    | a :: b :: r, h => simp [lowL] at h
  · rintro rfl; decide
theorem fold_isN {l : Bs} {ls : List Bs} (h : IsN l ls) : IsN (foldS l) (ls.map lowL) := by
  rw [foldS_yes h]
  exact isN_put (okL_low h.2.1) (by rw [room_low]; exact isN_room h)
theorem fold_less {l : Bs} {ls : List Bs} (h : IsN l ls) : lessS (foldS l) = lessS l := by
  have hf := fold_isN h
  unfold lessS
  rw [countS_yes h, countS_yes hf, List.length_map]
  cases ls with
  | nil => rw [isStar_root h, isStar_root hf]
  | cons x r =>
    rw [isStar_yes h, isStar_yes (x := lowL x) (r := r.map lowL) hf]
    rw [show decide (lowL x = [42]) = decide (x = [42]) from decide_eq_decide.2 low42]
theorem less_le {l : Bs} {ls : List Bs} (h : IsN l ls) : 0 ≤ lessS l ∧ lessS l ≤ ls.length := by
  unfold lessS
  rw [countS_yes h]
  cases ls with
  | nil => rw [isStar_root h]; simp
  | cons x r => split <;> (simp only [List.length_cons]; omega)
theorem tail_isN {l : Bs} {ls : List Bs} (h : IsN l ls) {k : Int} (h0 : 0 ≤ k) (h1 : k ≤ ls.length) : IsN (tailS l k) (ls.drop (ls.length - k.toNat)) := by
  rw [tailS_yes h, if_pos ⟨h0, h1⟩]
  exact isN_put (okL_drop _ h.2.1) (by have := room_drop ls (ls.length - k.toNat); have := isN_room h; omega)
theorem room_tail {ls : List Bs} (hk : okL ls) {j : Nat} (hj : 0 < j) (hl : j ≤ ls.length) : room (ls.drop j) + 2 ≤ room ls := by
  have h := room_append (ls.take j) (ls.drop j)
  rw [List.take_append_drop] at h
  match ls, hk, hl, h with
  | [], hk, hl, h => simp at hl; omega
  | x :: r, hk, hl, h =>
    obtain ⟨i, rfl⟩ : ∃ i, j = i + 1 := ⟨j - 1, by omega⟩
    rw [List.take_succ_cons] at h
    have hx := (okL_cons.1 hk).1.1
    have : room (x :: r.take i) = x.length + 1 + room (r.take i) := by simp [room]
    omega
/-- the owner as the document says it -/
theorem own_ref {l : Bs} {ls : List Bs} (h : IsN l ls) {k : Int} (h0 : 0 ≤ k) : (if k < lessS (foldS l) then starS (tailS (foldS l) k) else foldS l) = ownS k l := by
  unfold ownS
  rw [fold_less h]
  by_cases hk : k < lessS l
  · rw [if_pos hk, if_pos hk]
    obtain ⟨_, hle⟩ := less_le h
    have hf := fold_isN h
    have hl : (ls.map lowL).length = ls.length := List.length_map _
    have ht := tail_isN h h0 (by omega)
    have htf := tail_isN hf h0 (by rw [hl]; omega)
    have hr := room_tail h.2.1 (j := ls.length - k.toNat) (by omega) (by omega)
    have hrm := isN_room h
    have hmap : (ls.map lowL).drop ((ls.map lowL).length - k.toNat) = (ls.drop (ls.length - k.toNat)).map lowL := by rw [hl, List.map_drop]
    rw [hmap] at htf
    have e1 : starS (tailS (foldS l) k) = 1 :: 42 :: tailS (foldS l) k := starS_yes htf (by rw [htf.1, put_length, room_low]; omega)
    have hs : IsN (1 :: 42 :: tailS l k) ([42] :: ls.drop (ls.length - k.toNat)) := by
      refine ⟨?_, ?_, ?_⟩
      · rw [ht.1]; rfl
      · exact okL_cons.2 ⟨by decide, ht.2.1⟩
      · rw [ht.1]; simp only [List.length_cons]; rw [put_length]; omega
    rw [e1, foldS_yes hs, htf.1, List.map_cons]
    rfl
  · rw [if_neg hk, if_neg hk]
theorem own_len (k : Int) (l : Bs) : (ownS k l).length ≤ 255 := by
  unfold ownS; split <;> exact fold_short _
theorem piece_len {own t2 ttl d : Bs} (h1 : own.length ≤ 255) (h2 : t2.length ≤ 4) (h3 : ttl.length ≤ 4) : (pieceT own t2 ttl d).length ≤ d.length + 267 := by
  unfold pieceT
  simp only [List.length_append, List.length_cons, List.length_nil, bigS_len]
  omega
def bulk (ds : List Bs) : Nat := (ds.map List.length).sum
theorem bulk_cons (d : Bs) (ds : List Bs) : bulk (d :: ds) = d.length + bulk ds := rfl
theorem bulk_append (a b : List Bs) : bulk (a ++ b) = bulk a + bulk b := by simp [bulk]
theorem bulk_perm {a b : List Bs} (h : a.Perm b) : bulk a = bulk b := (h.map _).sum_nat
theorem body_len {own t2 ttl : Bs} (h1 : own.length ≤ 255) (h2 : t2.length ≤ 4) (h3 : ttl.length ≤ 4) : ∀ ds : List Bs, (bodyS own t2 ttl ds).length ≤ bulk ds + 267 * ds.length
  | [] => Nat.le_refl _
  | d :: ds => by
    have ih := body_len h1 h2 h3 ds
    have hp := piece_len (d := d) h1 h2 h3
    unfold bodyS at ih ⊢
    rw [List.flatMap_cons, List.length_append, bulk_cons, List.length_cons]
    omega
theorem body_snoc (own t2 ttl : Bs) (ds : List Bs) (d : Bs) : bodyS own t2 ttl (ds ++ [d]) = bodyS own t2 ttl ds ++ pieceT own t2 ttl d := by
  simp [bodyS]
/-- the text that is signed -/
def textS (head signer : Bs) (lab : Int) (owner : Bs) (ds : List Bs) : Bs := head ++ foldS signer ++ bodyS (ownS lab owner) (head.take 2) ((head.drop 4).take 4) ds

def foldX (x : Rc) : Bs := foldDS x.t x.d.data.toList
def oneX (h x : Rc) : Bool := zonB x && (!(x.t == 46) && (x.t == h.t && equalS x.o.data.toList h.o.data.toList))
def setB (L : List Rc) : Bool := match L with
  | [] => false
  | h :: r => (h :: r).all (oneX h) && decide (((h :: r).map foldX).Nodup)
theorem set_one {L : List Rc} {h x : Rc} {k : Nat} (h0 : L[0]? = some h) (hx : L[k]? = some x) (ho : oneX h x = false) : setB L = false := by
  match L, h0 with
  | h' :: r, h0 =>
    simp at h0; subst h0
    unfold setB
    simp only
    rw [Bool.and_eq_false_iff]
    left
    rw [List.all_eq_false]
    exact ⟨x, List.mem_of_getElem? hx, by rw [ho]; decide⟩
theorem set_dup {L : List Rc} {x y : Rc} {j k : Nat} (hx : L[k]? = some x) (hy : L[j]? = some y) (hjk : j < k) (he : foldX x = foldX y) : setB L = false := by
  match L with
  | [] => simp at hx
  | h' :: r =>
    unfold setB
    simp only
    rw [Bool.and_eq_false_iff]
    right
    rw [decide_eq_false_iff_not]
    intro hn
    have h1 : ((h' :: r).map foldX)[k]? = some (foldX x) := by rw [List.getElem?_map, hx]; rfl
    have h2 : ((h' :: r).map foldX)[j]? = some (foldX y) := by rw [List.getElem?_map, hy]; rfl
    obtain ⟨l1, e1⟩ := List.getElem?_eq_some_iff.1 h1
    obtain ⟨l2, e2⟩ := List.getElem?_eq_some_iff.1 h2
    have := (List.pairwise_iff_getElem.1 hn) j k l2 l1 hjk
    rw [e1, e2] at this
    exact this he.symm
/-- as far as k -/
structure Upto (L : List Rc) (h : Rc) (k : Nat) : Prop where
  one : ∀ j x, j < k → L[j]? = some x → oneX h x = true
  nd : ∀ i j x y, i < j → j < k → L[i]? = some x → L[j]? = some y → foldX y ≠ foldX x
theorem Upto.all {L : List Rc} {h : Rc} (h0 : L[0]? = some h) (hU : Upto L h L.length) : setB L = true := by
  match L, h0, hU with
  | h' :: r, h0, hU =>
    simp at h0; subst h0
    unfold setB
    simp only
    rw [Bool.and_eq_true, List.all_eq_true, decide_eq_true_iff]
    refine ⟨fun x hx => ?_, ?_⟩
    · obtain ⟨j, hj⟩ := List.getElem?_of_mem hx
      exact hU.one j x (List.getElem?_eq_some_iff.1 hj).1 hj
    · refine List.pairwise_iff_getElem.2 fun i j hi hj hij => ?_
      have hi' : i < (h' :: r).length := by simpa using hi
      have hj' : j < (h' :: r).length := by simpa using hj
      have := hU.nd i j _ _ hij hj' (List.getElem?_eq_getElem hi') (List.getElem?_eq_getElem hj')
      rw [List.getElem_map, List.getElem_map]
      exact fun e => this e.symm
theorem Upto.step {L : List Rc} {h x : Rc} {k : Nat} (hU : Upto L h k) (hx : L[k]? = some x) (ho : oneX h x = true) (hn : ∀ i y, i < k → L[i]? = some y → foldX x ≠ foldX y) : Upto L h (k + 1) := by
  refine ⟨fun j y hj hy => ?_, fun i j y z hij hj hy hz => ?_⟩
  · by_cases e : j = k
    · subst e; rw [hx] at hy; cases hy; exact ho
    · exact hU.one j y (by omega) hy
  · by_cases e : j = k
    · subst e; rw [hx] at hz; cases hz; exact hn i y hij hy
    · exact hU.nd i j y z hij (by omega) hy hz
theorem set_facts {L : List Rc} {h : Rc} (hs : setB L = true) (h0 : L[0]? = some h) : (∀ x ∈ L, oneX h x = true) ∧ (L.map foldX).Nodup := by
  match L, h0 with
  | h' :: r, h0 =>
    simp at h0; subst h0
    unfold setB at hs
    simp only at hs
    rw [Bool.and_eq_true, List.all_eq_true, decide_eq_true_iff] at hs
    exact hs
theorem set_ne {L : List Rc} (hs : setB L = true) : L ≠ [] := by
  rintro rfl; cases hs
/-- what is kept of a line that is a set -/
theorem lines_nodup (L : List Rc) : dupN (sortedT (L.map foldX)) = false ↔ (L.map foldX).Nodup :=
  (dup_sorted _ (sortedT_sorted _)).trans (sorted_nodup _)
end Go.Proofs.YtflijhodlimjoaaGreat.sealS
namespace Go.Proofs.YtflijhodlimjoaaGreat.sealP
open Go.RowKit Go.Proofs.YtflijhodlimjoaaGreat.kit
set_option linter.unusedVariables false

def figL (m : Nat) : List UInt8 → Nat → Nat
  | [], v => v
  | c :: l, v => figL m l ((v * 256 + c.toNat) % m)
def powS (v e m : Nat) : Nat := v ^ e % m
theorem pow_zero (v m : Nat) : powS v 0 m = 1 % m := by simp [powS]
/-- the loop by squares: out * v^e is kept -/
theorem pow_even {out v e m : Nat} (h : e % 2 = 0) : out * v ^ e % m = out * (v * v % m) ^ (e / 2) % m := by
  have he : e = 2 * (e / 2) := by omega
  conv => lhs; rw [he, Nat.pow_mul, show v ^ 2 = v * v from Nat.pow_two v]
  rw [Nat.mul_mod, Nat.pow_mod, ← Nat.mul_mod]
theorem pow_odd {out v e m : Nat} (h : e % 2 = 1) : out * v ^ e % m = (out * v % m) * (v * v % m) ^ (e / 2) % m := by
  have he : e = 2 * (e / 2) + 1 := by omega
  conv => lhs; rw [he, Nat.pow_succ, Nat.pow_mul, show v ^ 2 = v * v from Nat.pow_two v, Nat.mul_comm _ v, ← Nat.mul_assoc]
  rw [Nat.mul_mod, Nat.pow_mod, ← Nat.mul_mod, Nat.mod_mul_mod]
theorem pow_mod (v e m : Nat) : (1 % m) * (v % m) ^ e % m = powS v e m := by
  rw [Nat.mod_mul_mod, Nat.one_mul, ← Nat.pow_mod]; rfl
theorem pow_half_even {v e m : Nat} (h : e % 2 = 0) : powS v (e / 2) m * powS v (e / 2) m % m = powS v e m := by
  unfold powS
  rw [← Nat.mul_mod, ← Nat.pow_add, show e / 2 + e / 2 = e by omega]
theorem pow_half_odd {v e m : Nat} (h : e % 2 = 1) : (powS v (e / 2) m * powS v (e / 2) m % m) * (v % m) % m = powS v e m := by
  have hX : powS v (e / 2) m * powS v (e / 2) m % m = v ^ (e / 2 + e / 2) % m := by
    unfold powS
    rw [← Nat.mul_mod, ← Nat.pow_add]
  rw [hX, ← Nat.mul_mod, ← Nat.pow_succ, show (e / 2 + e / 2).succ = e by omega]
  rfl
theorem pow_lt {v e m : Nat} (hm : 0 < m) : powS v e m < m := Nat.mod_lt _ hm
theorem sq_le {a b m : Nat} (ha : a < m) (hb : b < m) (hm : m ≤ 2147483647) : a * b ≤ 4611686014132420609 := by
  have h1 : a ≤ 2147483647 := by omega
  have h2 : b ≤ 2147483647 := by omega
  exact Nat.mul_le_mul h1 h2
end Go.Proofs.YtflijhodlimjoaaGreat.sealP
namespace Go.Proofs.YtflijhodlimjoaaGreat.tag
open Go.RowKit Go.Proofs.YtflijhodlimjoaaGreat.kit Go.Proofs.YtflijhodlimjoaaGreat.to32
set_option linter.unusedVariables false

/-- the sum: every other byte from the first on counts 256 times -/
def tagL : Nat → List UInt8 → Nat → Nat
  | _, [], s => s
  | k, c :: r, s => tagL (k + 1) r (s + (if k % 2 = 0 then c.toNat * 256 else c.toNat))
def tagS (l : List UInt8) : Nat := (tagL 0 l 0 + tagL 0 l 0 / 65536) % 65536

set_option maxRecDepth 100000 in
set_option maxHeartbeats 1000000 in
theorem rtag_any (s : ByteArray) (w : World) (hs : s.size ≤ 1099511627776) :
    Calls Tryz.prog 66 #[.string s] w fun e w' => e = .returned (.int .i64 ((tagS s.data.toList : Nat) : Int)) ∧ w = w' := by
  obtain ⟨F, HF⟩ : ∃ F, Hid (tagL 0 (s.data.toList.drop 0) 0 = F) := ⟨_, Lib.hid rfl⟩
  have HR : Hid (tagS s.data.toList = (F + F / 65536) % 65536) := Lib.hid (by rw [← HF.out]; rfl)
  rw [HR.out]
  go_enter Tryz.func66, Tryz.ntmps66
  go_wp2
  go_loopg [3, 4] (s.size + 1) (fun gas sv kv wr => ∃ (k S : Nat), kv = .int .i64 k ∧ sv = .int .i64 S ∧ k ≤ s.size ∧ k + gas = s.size + 1 ∧ S ≤ 65536 * k ∧ Hid (tagL k (s.data.toList.drop k) S = F) ∧ w = wr)
  case atStart => exact ⟨0, 0, rfl, rfl, by omega, by omega, by omega, HF, rfl⟩
  case round =>
    obtain ⟨k, S, rfl, rfl, hk, hkg, hS, HW, rfl⟩ := hrel
    have HK := Lib.hid hkg; clear hkg
    by_cases hlt : k < s.size
    · obtain ⟨c, hc⟩ : ∃ c, s[k] = c := ⟨_, rfl⟩
      have hc256 := byte_lt c
      have hstep : tagL k (s.data.toList.drop k) S = tagL (k + 1) (s.data.toList.drop (k + 1)) (S + (if k % 2 = 0 then c.toNat * 256 else c.toNat)) := by
        rw [drop_cons s k hlt, hc, tagL]
      by_cases hp : k % 2 = 0
      · rw [if_pos hp] at hstep
        have HW2 : Hid (tagL (k + 1) (s.data.toList.drop (k + 1)) (S + c.toNat * 256) = F) := Lib.hid (by rw [← HW.out, hstep])
        have hb : ((k : Int) % 2 == 0) = true := by rw [beq_iff_eq]; omega
        clear hstep hp
        go_wp2
        have hkg := HK.out
        go_roundg (gk - 1)
        case rel => exact ⟨k + 1, S + c.toNat * 256, by go_num, (by first | rfl | go_num | (congr 1; omega)), by omega, by omega, by omega, HW2, rfl⟩
        case measure => omega
      · rw [if_neg hp] at hstep
        have HW2 : Hid (tagL (k + 1) (s.data.toList.drop (k + 1)) (S + c.toNat) = F) := Lib.hid (by rw [← HW.out, hstep])
        have hb : ((k : Int) % 2 == 0) = false := by rw [beq_eq_false_iff_ne]; omega
        clear hstep hp
        go_wp2
        have hkg := HK.out
        go_roundg (gk - 1)
        case rel => exact ⟨k + 1, S + c.toNat, by go_num, (by first | rfl | go_num | (congr 1; omega)), by omega, by omega, by omega, HW2, rfl⟩
        case measure => omega
    · have HN := HW.out
      rw [drop_end s k (by omega)] at HN
      have hSF : S = F := HN
      subst hSF
      clear HN
      go_wp2
      go_ret
      exact ⟨ret_int (by omega), rfl⟩

set_option maxRecDepth 100000 in
set_option maxHeartbeats 1000000 in
theorem ntag_any (s : ByteArray) (w : World) (hs : s.size ≤ 1099511627776) :
    Calls Tryz.prog 56 #[.string s] w fun e w' => e = .returned (.int .i64 ((tagS s.data.toList : Nat) : Int)) ∧ w = w' := by
  obtain ⟨F, HF⟩ : ∃ F, Hid (tagL 0 (s.data.toList.drop 0) 0 = F) := ⟨_, Lib.hid rfl⟩
  have HR : Hid (tagS s.data.toList = (F + F / 65536) % 65536) := Lib.hid (by rw [← HF.out]; rfl)
  rw [HR.out]
  go_enter Tryz.func56, Tryz.ntmps56
  go_wp2
  go_loopg [3, 4, 7] (s.size + 1) (fun gas sv _ kv wr => ∃ (k S : Nat), kv = .int .i64 k ∧ sv = .int .i64 S ∧ k ≤ s.size ∧ k + gas = s.size + 1 ∧ S ≤ 65536 * k ∧ Hid (tagL k (s.data.toList.drop k) S = F) ∧ w = wr)
  case atStart => exact ⟨0, 0, rfl, rfl, by omega, by omega, by omega, HF, rfl⟩
  case round =>
    obtain ⟨k, S, rfl, rfl, hk, hkg, hS, HW, rfl⟩ := hrel
    have HK := Lib.hid hkg; clear hkg
    by_cases hlt : k < s.size
    · obtain ⟨c, hc⟩ : ∃ c, s[k] = c := ⟨_, rfl⟩
      have hc256 := byte_lt c
      obtain ⟨C, hC⟩ : ∃ C, (if k % 2 = 0 then c.toNat * 256 else c.toNat) = C := ⟨_, rfl⟩
      have HW2 : Hid (tagL (k + 1) (s.data.toList.drop (k + 1)) (S + C) = F) := Lib.hid (by rw [← HW.out, drop_cons s k hlt, hc, tagL, hC])
      obtain ⟨e, he⟩ : ∃ e, 8 * (1 - k % 2) = e := ⟨_, rfl⟩
      have he8 : (e : Int) ≤ 8 := by omega
      have x1 : Value.int .i64 (8 * (1 - (k : Int) % 2)) = Value.int .i64 (e : Int) := by congr 1; omega
      have hCe : c.toNat * 2 ^ e = C := by
        rw [← hC]
        by_cases hp : k % 2 = 0
        · rw [if_pos hp, show e = 8 by omega]
        · rw [if_neg hp, show e = 0 by omega]; simp
      have hC6 : C ≤ 65280 := by
        rw [← hC]
        by_cases hp : k % 2 = 0
        · rw [if_pos hp]; omega
        · rw [if_neg hp]; omega
      have x2 : Value.int .i64 (wrap64 ((c.toNat : Int) * 2 ^ e)) = Value.int .i64 (C : Int) := by
        have h5 : (c.toNat : Int) * 2 ^ e = (C : Int) := by rw [← hCe]; simp
        rw [h5, IntWalk.wrap64_in _ (by omega)]
      clear hC he hCe
      go_wp2
      have hkg := HK.out
      go_roundg (gk - 1)
      case rel => exact ⟨k + 1, S + C, by go_num, by go_num, by omega, by omega, by omega, HW2, rfl⟩
      case measure => omega
    · have HN := HW.out
      rw [drop_end s k (by omega)] at HN
      have hSF : S = F := HN
      subst hSF
      clear HN
      have HX : Hid (Value.int .i64 (bits .and .i64 ((S : Int) + (S : Int) / 65536) 65535) = Value.int .i64 (((S + S / 65536) % 65536 : Nat) : Int)) := Lib.hid (by
        have em := bits_mask .i64 62 (by decide) (fun n h0 h1 => by rw [IntKind.wrap_i64]; omega) 16 (by decide) ((S : Int) + (S : Int) / 65536) (by omega) (by omega)
        rw [show (2 : Int) ^ 16 - 1 = 65535 from rfl] at em
        rw [em]; first | rfl | (congr 1; omega) | congr 1)
      go_wp2
      go_ret
      exact ⟨by first | exact congrArg Ending.returned HX.out | (rw [HX.out]), rfl⟩
end Go.Proofs.YtflijhodlimjoaaGreat.tag
namespace Go.Proofs.YtflijhodlimjoaaGreat.right
open Go.RowKit Go.Proofs.YtflijhodlimjoaaGreat.kit
set_option linter.unusedVariables false

def someB (v low : Int) : Bool := decide (low ≤ v) && decide (v ≤ 2147483647)
theorem some_yes {v low : Int} (h1 : low ≤ v) (h2 : v ≤ 2147483647) : someB v low = true := by unfold someB; simp [h1, h2]
theorem some_no {v low : Int} (h : v < low ∨ 2147483647 < v) : someB v low = false := by
  unfold someB; rw [Bool.and_eq_false_iff, decide_eq_false_iff_not, decide_eq_false_iff_not]; omega
def rightB (f m e s : Int) : Bool := (f == 256 || f == 257) && someB m 6 && someB e 1 && someB s 1

set_option maxRecDepth 100000 in
theorem small_any (v low : Int) (w : World) : Calls Tryz.prog 119 #[.int .i64 v, .int .i64 low] w fun e w' => e = .returned (.bool (someB v low)) ∧ w = w' := by
  by_cases h1 : low ≤ v
  · by_cases h2 : v ≤ 2147483647
    · have H := Lib.hid (some_yes h1 h2)
      go_enter Tryz.func119, Tryz.ntmps119
      go_wp2
      go_ret
      exact ⟨by rw [H.out]; rfl, rfl⟩
    · have H := Lib.hid (some_no (v := v) (low := low) (.inr (by omega)))
      have h2 : 2147483647 < v := by omega
      go_enter Tryz.func119, Tryz.ntmps119
      go_wp2
      go_ret
      exact ⟨by rw [H.out]; rfl, rfl⟩
  · have H := Lib.hid (some_no (v := v) (low := low) (.inl (by omega)))
    have h1 : v < low := by omega
    go_enter Tryz.func119, Tryz.ntmps119
    go_wp2
    go_ret
    exact ⟨by rw [H.out]; rfl, rfl⟩
set_option maxRecDepth 100000 in
theorem some_any (v low : Int) (w : World) : Calls Tryz.prog 130 #[.int .i64 v, .int .i64 low] w fun e w' => e = .returned (.bool (someB v low)) ∧ w = w' := by
  by_cases h1 : low ≤ v
  · by_cases h2 : v ≤ 2147483647
    · have H := Lib.hid (some_yes h1 h2)
      go_enter Tryz.func130, Tryz.ntmps130
      go_wp2
      go_ret
      exact ⟨by rw [H.out]; rfl, rfl⟩
    · have H := Lib.hid (some_no (v := v) (low := low) (.inr (by omega)))
      have h2 : 2147483647 < v := by omega
      go_enter Tryz.func130, Tryz.ntmps130
      go_wp2
      go_ret
      exact ⟨by rw [H.out]; rfl, rfl⟩
  · have H := Lib.hid (some_no (v := v) (low := low) (.inl (by omega)))
    have h1 : v < low := by omega
    go_enter Tryz.func130, Tryz.ntmps130
    go_wp2
    go_ret
    exact ⟨by rw [H.out]; rfl, rfl⟩
end Go.Proofs.YtflijhodlimjoaaGreat.right
namespace Go.Proofs.YtflijhodlimjoaaGreat.rightA
open Go.RowKit Go.Proofs.YtflijhodlimjoaaGreat.kit Go.Proofs.YtflijhodlimjoaaGreat.right
set_option linter.unusedVariables false

set_option maxRecDepth 100000 in
set_option maxHeartbeats 2000000 in
theorem right_any (f m e s : Int) (w : World) : Calls Tryz.prog 49 #[.agg #[.int .i64 f, .int .i64 m, .int .i64 e, .int .i64 s]] w fun en w' => en = .returned (.bool (rightB f m e s)) ∧ Below w.heap.size w w' := by
  obtain ⟨R, HR⟩ : ∃ R, Hid (rightB f m e s = R) := ⟨_, Lib.hid rfl⟩
  rw [HR.out]
  have H1 := Lib.hid (fun w => small_any m 6 w)
  have H2 := Lib.hid (fun w => small_any e 1 w)
  have H3 := Lib.hid (fun w => small_any s 1 w)
  have HR2 : Hid (((f == 256 || f == 257) && someB m 6 && someB e 1 && someB s 1) = R) := HR
  obtain ⟨x, hx⟩ : ∃ x, (f == 256) = x := ⟨_, rfl⟩
  obtain ⟨y, hy⟩ : ∃ y, (f == 257) = y := ⟨_, rfl⟩
  obtain ⟨b1, hb1⟩ : ∃ b, someB m 6 = b := ⟨_, rfl⟩
  obtain ⟨b2, hb2⟩ : ∃ b, someB e 1 = b := ⟨_, rfl⟩
  obtain ⟨b3, hb3⟩ : ∃ b, someB s 1 = b := ⟨_, rfl⟩
  rw [hx, hy, hb1, hb2, hb3] at HR2
  rw [hb1] at H1
  rw [hb2] at H2
  rw [hb3] at H3
  clear hb1 hb2 hb3 HR
  have hBa := (Below.refl w.heap.size w).alloc (Nat.le_refl _) (.cells #[.int .i64 f, .int .i64 m, .int .i64 e, .int .i64 s] 32)
  cases x
  · cases y
    · have HN : Hid (R = false) := Lib.hid (by rw [← HR2.out]; rfl)
      go_enter Tryz.func49, Tryz.ntmps49
      go_wp2_with fail
      go_ret
      exact ⟨by rw [HN.out]; rfl, hBa⟩
    · cases b1
      · have HN : Hid (R = false) := Lib.hid (by rw [← HR2.out]; rfl)
        go_enter Tryz.func49, Tryz.ntmps49
        go_wp2_with fail
        refine (H1.out _).mono ?_
        rintro e0 w1 ⟨rfl, rfl⟩
        go_wp2_with fail
        go_ret
        exact ⟨by rw [HN.out]; rfl, hBa⟩
      · cases b2
        · have HN : Hid (R = false) := Lib.hid (by rw [← HR2.out]; rfl)
          go_enter Tryz.func49, Tryz.ntmps49
          go_wp2_with fail
          refine (H1.out _).mono ?_
          rintro e0 w1 ⟨rfl, rfl⟩
          go_wp2_with fail
          refine (H2.out _).mono ?_
          rintro e0 w2 ⟨rfl, rfl⟩
          go_wp2_with fail
          go_ret
          exact ⟨by rw [HN.out]; rfl, hBa⟩
        · have HN : Hid (R = b3) := Lib.hid (by rw [← HR2.out]; cases b3 <;> rfl)
          go_enter Tryz.func49, Tryz.ntmps49
          go_wp2_with fail
          refine (H1.out _).mono ?_
          rintro e0 w1 ⟨rfl, rfl⟩
          go_wp2_with fail
          refine (H2.out _).mono ?_
          rintro e0 w2 ⟨rfl, rfl⟩
          go_wp2_with fail
          refine (H3.out _).mono ?_
          rintro e0 w3 ⟨rfl, rfl⟩
          go_wp2_with fail
          go_ret
          exact ⟨by rw [HN.out]; rfl, hBa⟩
  · clear hy
    cases b1
    · have HN : Hid (R = false) := Lib.hid (by rw [← HR2.out]; simp)
      go_enter Tryz.func49, Tryz.ntmps49
      go_wp2_with fail
      refine (H1.out _).mono ?_
      rintro e0 w1 ⟨rfl, rfl⟩
      go_wp2_with fail
      go_ret
      exact ⟨by rw [HN.out]; rfl, hBa⟩
    · cases b2
      · have HN : Hid (R = false) := Lib.hid (by rw [← HR2.out]; simp)
        go_enter Tryz.func49, Tryz.ntmps49
        go_wp2_with fail
        refine (H1.out _).mono ?_
        rintro e0 w1 ⟨rfl, rfl⟩
        go_wp2_with fail
        refine (H2.out _).mono ?_
        rintro e0 w2 ⟨rfl, rfl⟩
        go_wp2_with fail
        go_ret
        exact ⟨by rw [HN.out]; rfl, hBa⟩
      · have HN : Hid (R = b3) := Lib.hid (by rw [← HR2.out]; cases b3 <;> simp)
        go_enter Tryz.func49, Tryz.ntmps49
        go_wp2_with fail
        refine (H1.out _).mono ?_
        rintro e0 w1 ⟨rfl, rfl⟩
        go_wp2_with fail
        refine (H2.out _).mono ?_
        rintro e0 w2 ⟨rfl, rfl⟩
        go_wp2_with fail
        refine (H3.out _).mono ?_
        rintro e0 w3 ⟨rfl, rfl⟩
        go_wp2_with fail
        go_ret
        exact ⟨by rw [HN.out]; rfl, hBa⟩
end Go.Proofs.YtflijhodlimjoaaGreat.rightA
namespace Go.Proofs.YtflijhodlimjoaaGreat.rightBB
open Go.RowKit Go.Proofs.YtflijhodlimjoaaGreat.kit Go.Proofs.YtflijhodlimjoaaGreat.right
set_option linter.unusedVariables false

set_option maxRecDepth 100000 in
set_option maxHeartbeats 2000000 in
theorem rright_any (f m e s : Int) (w : World) : Calls Tryz.prog 61 #[.agg #[.int .i64 f, .int .i64 m, .int .i64 e, .int .i64 s]] w fun en w' => en = .returned (.bool (rightB f m e s)) ∧ Below w.heap.size w w' := by
  obtain ⟨R, HR⟩ : ∃ R, Hid (rightB f m e s = R) := ⟨_, Lib.hid rfl⟩
  rw [HR.out]
  have H1 := Lib.hid (fun w => some_any m 6 w)
  have H2 := Lib.hid (fun w => some_any e 1 w)
  have H3 := Lib.hid (fun w => some_any s 1 w)
  have HR2 : Hid (((f == 256 || f == 257) && someB m 6 && someB e 1 && someB s 1) = R) := HR
  obtain ⟨x, hx⟩ : ∃ x, (f == 256) = x := ⟨_, rfl⟩
  obtain ⟨y, hy⟩ : ∃ y, (f == 257) = y := ⟨_, rfl⟩
  obtain ⟨b1, hb1⟩ : ∃ b, someB m 6 = b := ⟨_, rfl⟩
  obtain ⟨b2, hb2⟩ : ∃ b, someB e 1 = b := ⟨_, rfl⟩
  obtain ⟨b3, hb3⟩ : ∃ b, someB s 1 = b := ⟨_, rfl⟩
  rw [hx, hy, hb1, hb2, hb3] at HR2
  rw [hb1] at H1
  rw [hb2] at H2
  rw [hb3] at H3
  clear hb1 hb2 hb3 HR
  have hBa := (Below.refl w.heap.size w).alloc (Nat.le_refl _) (.cells #[.int .i64 f, .int .i64 m, .int .i64 e, .int .i64 s] 32)
  cases x
  · cases y
    · have HN : Hid (R = false) := Lib.hid (by rw [← HR2.out]; rfl)
      go_enter Tryz.func61, Tryz.ntmps61
      go_wp2_with fail
      go_ret
      exact ⟨by rw [HN.out]; rfl, hBa⟩
    · cases b1
      · have HN : Hid (R = false) := Lib.hid (by rw [← HR2.out]; rfl)
        go_enter Tryz.func61, Tryz.ntmps61
        go_wp2_with fail
        refine (H1.out _).mono ?_
        rintro e0 w1 ⟨rfl, rfl⟩
        go_wp2_with fail
        go_ret
        exact ⟨by rw [HN.out]; rfl, hBa⟩
      · cases b2
        · have HN : Hid (R = false) := Lib.hid (by rw [← HR2.out]; rfl)
          go_enter Tryz.func61, Tryz.ntmps61
          go_wp2_with fail
          refine (H1.out _).mono ?_
          rintro e0 w1 ⟨rfl, rfl⟩
          go_wp2_with fail
          refine (H2.out _).mono ?_
          rintro e0 w2 ⟨rfl, rfl⟩
          go_wp2_with fail
          go_ret
          exact ⟨by rw [HN.out]; rfl, hBa⟩
        · have HN : Hid (R = b3) := Lib.hid (by rw [← HR2.out]; cases b3 <;> rfl)
          go_enter Tryz.func61, Tryz.ntmps61
          go_wp2_with fail
          refine (H1.out _).mono ?_
          rintro e0 w1 ⟨rfl, rfl⟩
          go_wp2_with fail
          refine (H2.out _).mono ?_
          rintro e0 w2 ⟨rfl, rfl⟩
          go_wp2_with fail
          refine (H3.out _).mono ?_
          rintro e0 w3 ⟨rfl, rfl⟩
          go_wp2_with fail
          go_ret
          exact ⟨by rw [HN.out]; rfl, hBa⟩
  · clear hy
    cases b1
    · have HN : Hid (R = false) := Lib.hid (by rw [← HR2.out]; simp)
      go_enter Tryz.func61, Tryz.ntmps61
      go_wp2_with fail
      refine (H1.out _).mono ?_
      rintro e0 w1 ⟨rfl, rfl⟩
      go_wp2_with fail
      go_ret
      exact ⟨by rw [HN.out]; rfl, hBa⟩
    · cases b2
      · have HN : Hid (R = false) := Lib.hid (by rw [← HR2.out]; simp)
        go_enter Tryz.func61, Tryz.ntmps61
        go_wp2_with fail
        refine (H1.out _).mono ?_
        rintro e0 w1 ⟨rfl, rfl⟩
        go_wp2_with fail
        refine (H2.out _).mono ?_
        rintro e0 w2 ⟨rfl, rfl⟩
        go_wp2_with fail
        go_ret
        exact ⟨by rw [HN.out]; rfl, hBa⟩
      · have HN : Hid (R = b3) := Lib.hid (by rw [← HR2.out]; cases b3 <;> simp)
        go_enter Tryz.func61, Tryz.ntmps61
        go_wp2_with fail
        refine (H1.out _).mono ?_
        rintro e0 w1 ⟨rfl, rfl⟩
        go_wp2_with fail
        refine (H2.out _).mono ?_
        rintro e0 w2 ⟨rfl, rfl⟩
        go_wp2_with fail
        refine (H3.out _).mono ?_
        rintro e0 w3 ⟨rfl, rfl⟩
        go_wp2_with fail
        go_ret
        exact ⟨by rw [HN.out]; rfl, hBa⟩
end Go.Proofs.YtflijhodlimjoaaGreat.rightBB
namespace Go.Proofs.YtflijhodlimjoaaGreat.pub
open Go.RowKit Go.Proofs.YtflijhodlimjoaaGreat.kit Go.Proofs.YtflijhodlimjoaaGreat.right Go.Proofs.YtflijhodlimjoaaGreat.rightA Go.Proofs.YtflijhodlimjoaaGreat.rightBB Go.Proofs.YtflijhodlimjoaaGreat.big
set_option linter.unusedVariables false

def pubS (f m e s : Int) : List UInt8 := if rightB f m e s = true then bigS f.toNat 2 ++ [3, 253] ++ bigS m.toNat 4 ++ bigS e.toNat 4 else []
theorem pub_len (f m e s : Int) : (pubS f m e s).length ≤ 12 := by
  unfold pubS; split
  · simp [bigS_len]
  · simp
theorem right_facts {f m e s : Int} (h : rightB f m e s = true) : (f = 256 ∨ f = 257) ∧ (6 ≤ m ∧ m ≤ 2147483647) ∧ (1 ≤ e ∧ e ≤ 2147483647) ∧ (1 ≤ s ∧ s ≤ 2147483647) := by
  unfold rightB someB at h
  simp only [Bool.and_eq_true, Bool.or_eq_true, beq_iff_eq, decide_eq_true_eq] at h
  omega
theorem keepP {wr w w' : World} {B : Nat} {f m e : Value} (h : w.cell? ⟨B, 0, none⟩ = some f ∧ w.cell? ⟨B, 1, none⟩ = some m ∧ w.cell? ⟨B, 2, none⟩ = some e ∧ Below wr.heap.size wr w) (hB : Below w.heap.size w w') (hb : B < wr.heap.size) :
    w'.cell? ⟨B, 0, none⟩ = some f ∧ w'.cell? ⟨B, 1, none⟩ = some m ∧ w'.cell? ⟨B, 2, none⟩ = some e ∧ Below wr.heap.size wr w' := by
  have hlt := Nat.lt_of_lt_of_le hb h.2.2.2.size
  exact ⟨(hB.cell (p := ⟨B, 0, none⟩) hlt).trans h.1, (hB.cell (p := ⟨B, 1, none⟩) hlt).trans h.2.1, (hB.cell (p := ⟨B, 2, none⟩) hlt).trans h.2.2.1, h.2.2.2.trans (hB.mono h.2.2.2.size)⟩

set_option maxRecDepth 100000 in
set_option maxHeartbeats 2000000 in
theorem pub_any (f m e s : Int) (w : World) :
    Calls Tryz.prog 20 #[.agg #[.int .i64 f, .int .i64 m, .int .i64 e, .int .i64 s]] w fun en w' => en = .returned (.string ⟨(pubS f m e s).toArray⟩) ∧ Below w.heap.size w w' := by
  have CR := Lib.hid (fun w => right_any f m e s w)
  have hBa := (Below.refl w.heap.size w).alloc (Nat.le_refl _) (.cells #[.int .i64 f, .int .i64 m, .int .i64 e, .int .i64 s] 32)
  by_cases hr : rightB f m e s = true
  · have HE : Hid (pubS f m e s = bigS f.toNat 2 ++ [3, 253] ++ bigS m.toNat 4 ++ bigS e.toNat 4) := Lib.hid (by unfold pubS; rw [if_pos hr])
    obtain ⟨hf, hm, he, hs⟩ := right_facts hr
    rw [hr] at CR
    obtain ⟨F, rfl⟩ : ∃ n : Nat, f = n := ⟨f.toNat, by omega⟩
    obtain ⟨M, rfl⟩ : ∃ n : Nat, m = n := ⟨m.toNat, by omega⟩
    obtain ⟨E, rfl⟩ : ∃ n : Nat, e = n := ⟨e.toNat, by omega⟩
    simp only [Int.toNat_natCast] at HE
    obtain ⟨D1, hD1⟩ : ∃ D : ByteArray, (⟨(bigS F 2).toArray⟩ : ByteArray) = D := ⟨_, rfl⟩
    obtain ⟨D2, hD2⟩ : ∃ D : ByteArray, (⟨(bigS M 4).toArray⟩ : ByteArray) = D := ⟨_, rfl⟩
    obtain ⟨D3, hD3⟩ : ∃ D : ByteArray, (⟨(bigS E 4).toArray⟩ : ByteArray) = D := ⟨_, rfl⟩
    have hs1 : D1.size ≤ 2 := by rw [← hD1, mk_size, bigS_len]; exact Nat.le_refl _
    have hs2 : D2.size ≤ 4 := by rw [← hD2, mk_size, bigS_len]; exact Nat.le_refl _
    have hs3 : D3.size ≤ 4 := by rw [← hD3, mk_size, bigS_len]; exact Nat.le_refl _
    have HF : Hid ((⟨(pubS (F : Int) (M : Int) (E : Int) s).toArray⟩ : ByteArray) = D1 ++ ⟨#[3, 253]⟩ ++ D2 ++ D3) := Lib.hid (by rw [HE.out, ← hD1, ← hD2, ← hD3]; exact ba_ext (by simp))
    have B1 := Lib.hid (fun w => bytes_any F 2 w (by omega) (by omega))
    have B2 := Lib.hid (fun w => bytes_any M 4 w (by omega) (by omega))
    have B3 := Lib.hid (fun w => bytes_any E 4 w (by omega) (by omega))
    rw [HF.out]
    rw [hD1] at B1
    rw [hD2] at B2
    rw [hD3] at B3
    clear hD1 hD2 hD3 hf hm he hs hr HE
    go_enter Tryz.func20, Tryz.ntmps20
    go_wp2_with fail
    refine (CR.out _).mono ?_
    rintro e0 w1 ⟨rfl, hB1⟩
    have hz := hB1.size
    rw [World.size_alloc] at hz
    have c0 : w1.cell? ⟨w.heap.size, 0, none⟩ = some (.int .i64 (F : Int)) := (hB1.cell (p := ⟨w.heap.size, 0, none⟩) (by rw [World.size_alloc]; exact Nat.lt_succ_self _)).trans (by simp)
    have c1 : w1.cell? ⟨w.heap.size, 1, none⟩ = some (.int .i64 (M : Int)) := (hB1.cell (p := ⟨w.heap.size, 1, none⟩) (by rw [World.size_alloc]; exact Nat.lt_succ_self _)).trans (by simp)
    have c2 : w1.cell? ⟨w.heap.size, 2, none⟩ = some (.int .i64 (E : Int)) := (hB1.cell (p := ⟨w.heap.size, 2, none⟩) (by rw [World.size_alloc]; exact Nat.lt_succ_self _)).trans (by simp)
    have HB1 := Lib.hid (hBa.trans (hB1.mono (by rw [World.size_alloc]; omega)))
    clear hB1 hBa
    go_wp2_with fail
    have hb : w.heap.size < w1.heap.size := by omega
    have hBd : Below w1.heap.size w1 w1.drew := below_drewN (Below.refl _ _) 1
    have n1 : ¬ 9223372036854775807 < D1.size + 2 := by omega
    have n2 : ¬ 9223372036854775807 < D1.size + 2 + D2.size := by omega
    have n3 : ¬ 9223372036854775807 < D1.size + 2 + D2.size + D3.size := by omega
    have m1 : D1.size + 2 ≤ 9223372036854775807 := by omega
    have m2 : D1.size + 2 + D2.size ≤ 9223372036854775807 := by omega
    have m3 : D1.size + 2 + D2.size + D3.size ≤ 9223372036854775807 := by omega
    go_region_held3 (fun w' => w'.cell? ⟨w.heap.size, 0, none⟩ = some (.int .i64 (F : Int)) ∧ w'.cell? ⟨w.heap.size, 1, none⟩ = some (.int .i64 (M : Int)) ∧ w'.cell? ⟨w.heap.size, 2, none⟩ = some (.int .i64 (E : Int)) ∧ Below w1.heap.size w1 w') (first | assumption | (refine ⟨?_, ?_, ?_, ?_⟩ <;> assumption))
      (first
        | (go_at_call_of 54 (Value.int .i64 (F : Int)); refine (B1.out _).mono ?_; rintro e w' ⟨rfl, hBz⟩; have hBz2 := keepP (by assumption) hBz hb; clear hBz)
        | (go_at_call_of 54 (Value.int .i64 (M : Int)); refine (B2.out _).mono ?_; rintro e w' ⟨rfl, hBz⟩; have hBz2 := keepP (by assumption) hBz hb; clear hBz)
        | (go_at_call_of 54 (Value.int .i64 (E : Int)); refine (B3.out _).mono ?_; rintro e w' ⟨rfl, hBz⟩; have hBz2 := keepP (by assumption) hBz hb; clear hBz))
    all_goals (go_wp2_with fail; go_ret; exact ⟨rfl, HB1.out.trans ((‹_ ∧ _ ∧ _ ∧ Below _ _ _›).2.2.2.mono (by omega))⟩)
  · have hrf : rightB f m e s = false := by simpa using hr
    have HE : Hid (pubS f m e s = []) := Lib.hid (by unfold pubS; rw [if_neg hr])
    rw [hrf] at CR
    rw [HE.out]
    clear hr hrf
    go_enter Tryz.func20, Tryz.ntmps20
    go_wp2_with fail
    refine (CR.out _).mono ?_
    rintro e0 w1 ⟨rfl, hB1⟩
    have HB1 := Lib.hid (hBa.trans (hB1.mono (by rw [World.size_alloc]; omega)))
    clear hB1 hBa
    go_wp2_with fail
    go_ret
    exact ⟨rfl, HB1.out⟩

set_option maxRecDepth 100000 in
set_option maxHeartbeats 2000000 in
theorem rpub_any (f m e s : Int) (w : World) :
    Calls Tryz.prog 67 #[.agg #[.int .i64 f, .int .i64 m, .int .i64 e, .int .i64 s]] w fun en w' => en = .returned (.string ⟨(pubS f m e s).toArray⟩) ∧ Below w.heap.size w w' := by
  have CR := Lib.hid (fun w => rright_any f m e s w)
  have hBa := (Below.refl w.heap.size w).alloc (Nat.le_refl _) (.cells #[.int .i64 f, .int .i64 m, .int .i64 e, .int .i64 s] 32)
  by_cases hr : rightB f m e s = true
  · have HE : Hid (pubS f m e s = bigS f.toNat 2 ++ [3, 253] ++ bigS m.toNat 4 ++ bigS e.toNat 4) := Lib.hid (by unfold pubS; rw [if_pos hr])
    obtain ⟨hf, hm, he, hs⟩ := right_facts hr
    rw [hr] at CR
    obtain ⟨F, rfl⟩ : ∃ n : Nat, f = n := ⟨f.toNat, by omega⟩
    obtain ⟨M, rfl⟩ : ∃ n : Nat, m = n := ⟨m.toNat, by omega⟩
    obtain ⟨E, rfl⟩ : ∃ n : Nat, e = n := ⟨e.toNat, by omega⟩
    simp only [Int.toNat_natCast] at HE
    obtain ⟨D1, hD1⟩ : ∃ D : ByteArray, (⟨(bigS F 2).toArray⟩ : ByteArray) = D := ⟨_, rfl⟩
    obtain ⟨D2, hD2⟩ : ∃ D : ByteArray, (⟨(bigS M 4).toArray⟩ : ByteArray) = D := ⟨_, rfl⟩
    obtain ⟨D3, hD3⟩ : ∃ D : ByteArray, (⟨(bigS E 4).toArray⟩ : ByteArray) = D := ⟨_, rfl⟩
    have hs1 : D1.size ≤ 2 := by rw [← hD1, mk_size, bigS_len]; exact Nat.le_refl _
    have hs2 : D2.size ≤ 4 := by rw [← hD2, mk_size, bigS_len]; exact Nat.le_refl _
    have hs3 : D3.size ≤ 4 := by rw [← hD3, mk_size, bigS_len]; exact Nat.le_refl _
    have HF : Hid ((⟨(pubS (F : Int) (M : Int) (E : Int) s).toArray⟩ : ByteArray) = D1 ++ ⟨#[3, 253]⟩ ++ D2 ++ D3) := Lib.hid (by rw [HE.out, ← hD1, ← hD2, ← hD3]; exact ba_ext (by simp))
    have B1 := Lib.hid (fun w => rbytes_any 2 F w (by omega) (by omega))
    have B2 := Lib.hid (fun w => rbytes_any 4 M w (by omega) (by omega))
    have B3 := Lib.hid (fun w => rbytes_any 4 E w (by omega) (by omega))
    rw [HF.out]
    rw [hD1] at B1
    rw [hD2] at B2
    rw [hD3] at B3
    clear hD1 hD2 hD3 hf hm he hs hr HE
    go_enter Tryz.func67, Tryz.ntmps67
    go_wp2_with fail
    refine (CR.out _).mono ?_
    rintro e0 w1 ⟨rfl, hB1⟩
    have hz := hB1.size
    rw [World.size_alloc] at hz
    have c0 : w1.cell? ⟨w.heap.size, 0, none⟩ = some (.int .i64 (F : Int)) := (hB1.cell (p := ⟨w.heap.size, 0, none⟩) (by rw [World.size_alloc]; exact Nat.lt_succ_self _)).trans (by simp)
    have c1 : w1.cell? ⟨w.heap.size, 1, none⟩ = some (.int .i64 (M : Int)) := (hB1.cell (p := ⟨w.heap.size, 1, none⟩) (by rw [World.size_alloc]; exact Nat.lt_succ_self _)).trans (by simp)
    have c2 : w1.cell? ⟨w.heap.size, 2, none⟩ = some (.int .i64 (E : Int)) := (hB1.cell (p := ⟨w.heap.size, 2, none⟩) (by rw [World.size_alloc]; exact Nat.lt_succ_self _)).trans (by simp)
    have HB1 := Lib.hid (hBa.trans (hB1.mono (by rw [World.size_alloc]; omega)))
    clear hB1 hBa
    go_wp2_with fail
    have hb : w.heap.size < w1.heap.size := by omega
    have hBd : Below w1.heap.size w1 w1.drew := below_drewN (Below.refl _ _) 1
    have n1 : ¬ 9223372036854775807 < D1.size + 2 := by omega
    have n2 : ¬ 9223372036854775807 < D1.size + 2 + D2.size := by omega
    have n3 : ¬ 9223372036854775807 < D1.size + 2 + D2.size + D3.size := by omega
    have m1 : D1.size + 2 ≤ 9223372036854775807 := by omega
    have m2 : D1.size + 2 + D2.size ≤ 9223372036854775807 := by omega
    have m3 : D1.size + 2 + D2.size + D3.size ≤ 9223372036854775807 := by omega
    go_region_held3 (fun w' => w'.cell? ⟨w.heap.size, 0, none⟩ = some (.int .i64 (F : Int)) ∧ w'.cell? ⟨w.heap.size, 1, none⟩ = some (.int .i64 (M : Int)) ∧ w'.cell? ⟨w.heap.size, 2, none⟩ = some (.int .i64 (E : Int)) ∧ Below w1.heap.size w1 w') (first | assumption | (refine ⟨?_, ?_, ?_, ?_⟩ <;> assumption))
      (first
        | (go_at_call_of 64 (Value.int .i64 (F : Int)); refine (B1.out _).mono ?_; rintro e w' ⟨rfl, hBz⟩; have hBz2 := keepP (by assumption) hBz hb; clear hBz)
        | (go_at_call_of 64 (Value.int .i64 (M : Int)); refine (B2.out _).mono ?_; rintro e w' ⟨rfl, hBz⟩; have hBz2 := keepP (by assumption) hBz hb; clear hBz)
        | (go_at_call_of 64 (Value.int .i64 (E : Int)); refine (B3.out _).mono ?_; rintro e w' ⟨rfl, hBz⟩; have hBz2 := keepP (by assumption) hBz hb; clear hBz))
    all_goals (go_wp2_with fail; go_ret; exact ⟨rfl, HB1.out.trans ((‹_ ∧ _ ∧ _ ∧ Below _ _ _›).2.2.2.mono (by omega))⟩)
  · have hrf : rightB f m e s = false := by simpa using hr
    have HE : Hid (pubS f m e s = []) := Lib.hid (by unfold pubS; rw [if_neg hr])
    rw [hrf] at CR
    rw [HE.out]
    clear hr hrf
    go_enter Tryz.func67, Tryz.ntmps67
    go_wp2_with fail
    refine (CR.out _).mono ?_
    rintro e0 w1 ⟨rfl, hB1⟩
    have HB1 := Lib.hid (hBa.trans (hB1.mono (by rw [World.size_alloc]; omega)))
    clear hB1 hBa
    go_wp2_with fail
    go_ret
    exact ⟨rfl, HB1.out⟩
end Go.Proofs.YtflijhodlimjoaaGreat.pub

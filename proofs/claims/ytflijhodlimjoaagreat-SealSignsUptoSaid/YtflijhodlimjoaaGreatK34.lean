/- A key by value, handed in. -/
import Derived.Test.YtflijhodlimjoaaGreatK1
import Derived.ProofKit
import Derived.OpenShut
import Derived.Lib.SmallJoins
namespace Go.Proofs.YtflijhodlimjoaaGreat.keyArg
open Go.ChangeShapes Go.WideShapes Go.RowKit Go.Joins

theorem cellsKey : Tryz.prog.cellsOf 32 = 4 := by kernel_rfl
set_option maxRecDepth 100000 in
theorem open_key {H : Type} {enc : TypeId × Value → H} {w : World} {base : Nat} {spare : Nat → Bool} {held : Bool} {r : Reach} {b0 : Nat} {v : Value} {d : DataW H} {p : List MemPlace}
    (hv : Value.okWide Tryz.prog w r b0 32 v) (h : DataW.Trod enc Tryz.prog w base spare held 32 v d p) :
    ∃ f m e s : Int, v = .agg #[.int .i64 f, .int .i64 m, .int .i64 e, .int .i64 s] := by
  obtain ⟨v0, v1, v2, v3, y0, y1, y2, y3, n, rfl, _, _, h0, h1, h2, h3⟩ := open_agg4 Tryz.underlying32 (by kernel_rfl) cellsKey hv h
  obtain ⟨x0, e0, _⟩ := DataW.trod_int Tryz.underlying3 h0
  obtain ⟨x1, e1, _⟩ := DataW.trod_int Tryz.underlying3 h1
  obtain ⟨x2, e2, _⟩ := DataW.trod_int Tryz.underlying3 h2
  obtain ⟨x3, e3, _⟩ := DataW.trod_int Tryz.underlying3 h3
  simp only [List.cons.injEq, and_true] at e0 e1 e2 e3
  subst e0 e1 e2 e3
  exact ⟨x0, x1, x2, x3, rfl⟩
end Go.Proofs.YtflijhodlimjoaaGreat.keyArg

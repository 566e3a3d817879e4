/-
  From the reading of a pair of integers to the two integers.
-/
import Derived.Test.YtmjcjmljnliaoaaRep
import Derived.OpenShut
set_option linter.unusedVariables false
namespace Go.Proofs.Ytmjcjmljnliaoaa
open Go.RowKit Go.ChangeShapes Go.WideShapes Go.ChangeAt Go.Deep

theorem okWide_array {P : Program} {w : World} {r : Reach} {base : Nat} {t e : TypeId} {n : Nat} {v : Value} (ht : P.underlying t = some (.array n e)) (h : Value.okWide P w r base t v) : ∃ cs, v = .agg cs ∧ cs.size = P.cellsOf t := by
  simp only [Value.okWide, ht] at h
  obtain ⟨cs, h1, h2, _⟩ := h
  exact ⟨cs, h1, h2⟩

set_option maxRecDepth 100000 in
theorem open_pair {H : Type} {enc : TypeId × Value → H} {w : World} {base : Nat} {spare : Nat → Bool} {held : Bool} {r : Reach} {b0 : Nat} {v : Value} {d : DataW H} {p : List MemPlace} (hv : Value.okWide Try.prog w r b0 63 v) (h : DataW.Trod enc Try.prog w base spare held 63 v d p) :
    ∃ a b, v = .agg #[.int .i64 a, .int .i64 b] ∧ I64 a ∧ I64 b := by
  obtain ⟨⟨cs⟩, rfl, hsz⟩ := okWide_array Try.underlying63 hv
  obtain ⟨fuel, hf⟩ := h
  have hf' : DataW.trod enc Try.prog w base spare held fuel 63 cs = some (d, p) := by simpa [Value.cells] using hf
  obtain ⟨xs, m, _, _, hcl, hxl, hg⟩ := DataW.trod_array Try.underlying63 hf'
  have k2 : Try.prog.cellsOf 63 = 2 := by kernel_rfl
  have k1 : Try.prog.cellsOf 3 = 1 := by kernel_rfl
  rw [k2] at hcl
  match cs, hcl, xs, hxl with
  | [c0, c1], _, [y0, y1], _ =>
    have h0 := hg 0 (by omega)
    have h1 := hg 1 (by omega)
    rw [k1] at h0 h1
    simp at h0 h1
    obtain ⟨a, ha, ia⟩ := reads_int _ _ _ h0
    obtain ⟨b, hb, ib⟩ := reads_int _ _ _ h1
    simp at ha hb
    subst ha hb
    exact ⟨a, b, rfl, ia, ib⟩

end Go.Proofs.Ytmjcjmljnliaoaa

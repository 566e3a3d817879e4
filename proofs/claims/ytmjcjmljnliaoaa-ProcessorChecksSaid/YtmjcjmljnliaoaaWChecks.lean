/-
  The walk of ProcessorChecks.
-/
import Derived.Test.YtmjcjmljnliaoaaAwake
import Derived.Deep.RegionHeld3
set_option linter.unusedVariables false
namespace Go.Proofs.Ytmjcjmljnliaoaa
open Go.RowKit

set_option maxRecDepth 100000 in
set_option maxHeartbeats 4000000 in
theorem checks_walk (S L n : Int) (rs : List (List Rul)) (oa : Option Addr) (c : Nat) (w : World) (hs : SliceR (slcR ruleR 2) 1 All w oa rs) (hc : rs.length ≤ c) (hc2 : rs.length ≤ 9223372036854775807) :
    Calls Try.prog 5 #[.agg #[.int .i64 S, .int .i64 L, .slice oa rs.length c], .int .i64 n] w fun e w' => e = .returned (.bool true) ∧ Below w.heap.size w w' := by
  go_enter Try.func5, Try.ntmps5
  go_wp2_with fail
  refine (few_any S L rs oa c All _ (hs.below rowR_ok (bnew (Below.refl _ _) _)) hc hc2).mono ?_
  rintro e w2 ⟨b, rfl, hb2⟩
  have hx := hb2.mono (B' := w.heap.size + 1) (by simp)
  clear hb2
  have d0 := box_cell hx 0
  have d1 := box_cell hx 1
  have d2 := box_cell hx 2
  simp at d0 d1 d2
  cases b with
  | false =>
    go_wp2_with fail
    refine (awake_any _).mono ?_
    rintro e w3 ⟨rfl, hb3⟩
    go_wp2_with fail
    go_ret
    exact ⟨rfl, below_box (box_then hx (by simp) hb3)⟩
  | true =>
    go_wp2_with fail
    refine (unary_any S L rs oa c All _ (hs.below rowR_ok (below_box hx)) hc hc2).mono ?_
    rintro e w3 ⟨rfl, hb3⟩
    have hx := box_then hx (by simp) hb3
    have d0 := box_cell hx 0
    have d1 := box_cell hx 1
    have d2 := box_cell hx 2
    simp at d0 d1 d2
    go_wp2_with fail
    refine (runary_any S L rs oa c All _ (hs.below rowR_ok (below_box hx)) hc hc2).mono ?_
    rintro e w4 ⟨rfl, hb4⟩
    have hx := box_then hx (by simp) hb4
    have d0 := box_cell hx 0
    have d1 := box_cell hx 1
    have d2 := box_cell hx 2
    simp at d0 d1 d2
    have hsr := hs.below rowR_ok (below_box hx)
    have hb := below_box hx
    clear hb3 hb4 hs
    go_wp2_with fail
    clear hx
    have hsr := hsr.keep (w' := w4.drew) rowR_ok (fun _ _ _ => rfl)
    have hb := hb.drew
    generalize (unaryRes ⟨S, L, rs⟩).1 = u1
    generalize (unaryRes ⟨S, L, rs⟩).2 = u2
    go_region_held3 (fun w' => w'.cell? ⟨w.heap.size, 0, none⟩ = some (.int .i64 S) ∧ w'.cell? ⟨w.heap.size, 1, none⟩ = some (.int .i64 L) ∧ w'.cell? ⟨w.heap.size, 2, none⟩ = some (.slice oa rs.length c)) (first | exact ⟨d0, d1, d2⟩) (first
      | (go_at_call 28; refine (awake_any _).mono ?_; rintro e w5 ⟨rfl, h5⟩; have d0 := (h5.cell (World.block_lt_of_cell? _ _ d0)).trans d0; have d1 := (h5.cell (World.block_lt_of_cell? _ _ d1)).trans d1; have d2 := (h5.cell (World.block_lt_of_cell? _ _ d2)).trans d2; have hsr := hsr.below rowR_ok h5; have hb := below_then hb h5)
      | (go_at_call 31; refine (check_any S L n rs oa c All _ hsr hc hc2).mono ?_; rintro e w5 ⟨rfl, h5⟩; have d0 := (h5.cell (World.block_lt_of_cell? _ _ d0)).trans d0; have d1 := (h5.cell (World.block_lt_of_cell? _ _ d1)).trans d1; have d2 := (h5.cell (World.block_lt_of_cell? _ _ d2)).trans d2; have hsr := hsr.below rowR_ok h5; have hb := below_then hb h5)
      | (go_at_call 32; refine (rcheck_any S L n rs oa c All _ hsr hc hc2).mono ?_; rintro e w5 ⟨rfl, h5⟩; have d0 := (h5.cell (World.block_lt_of_cell? _ _ d0)).trans d0; have d1 := (h5.cell (World.block_lt_of_cell? _ _ d1)).trans d1; have d2 := (h5.cell (World.block_lt_of_cell? _ _ d2)).trans d2; have hsr := hsr.below rowR_ok h5; have hb := below_then hb h5))
    all_goals
      go_wp2_with fail
      go_ret
      exact ⟨rfl, hb⟩

end Go.Proofs.Ytmjcjmljnliaoaa

/-
  The walk of ProcessorReaches.
-/
import Derived.Test.YtmjcjmljnliaoaaReachB
set_option linter.unusedVariables false
namespace Go.Proofs.Ytmjcjmljnliaoaa
open Go.RowKit

set_option maxRecDepth 100000 in
set_option maxHeartbeats 4000000 in
theorem reaches_walk (w : World) (S L : Int) (rs : List (List Rul)) (oa : Option Addr) (c : Nat) (_ : I64 S) (_ : I64 L) (hc : rs.length ≤ c) (hc2 : rs.length ≤ 9223372036854775807) (hs : SliceR (slcR ruleR 2) 1 All w oa rs)
    (s : Int) (_ : I64 s) :
    Calls Try.prog 12 #[.agg #[.int .i64 S, .int .i64 L, .slice oa rs.length c], .int .i64 s] w fun e w' => e = .returned (.bool true) ∧ Below w.heap.size w w' := by
  go_enter Try.func12, Try.ntmps12
  go_wp2_with fail
  refine (few_any S L rs oa c All _ (hs.below rowR_ok (bnew (Below.refl _ _) _)) hc hc2).mono ?_
  rintro e w2 ⟨b, rfl, hb2⟩
  have hx := hb2.mono (B' := w.heap.size + 1) (by simp)
  clear hb2
  have d0 := box_cell hx 0
  have d1 := box_cell hx 1
  have d2 := box_cell hx 2
  simp at d0 d1 d2
  cases b with
  | false =>
    go_wp2_with fail
    refine (awake_any _).mono ?_
    rintro e w3 ⟨rfl, hb3⟩
    go_wp2_with fail
    go_ret
    exact ⟨rfl, below_box (box_then hx (by simp) hb3)⟩
  | true =>
  go_wp2_with fail
  refine (reaches_any S L s rs oa c All _ (hs.below rowR_ok (below_box hx)) hc hc2).mono ?_
  rintro e w3 ⟨oa1, l1, c1, rfl, hr1, hl1, hc1, hx1, hb3⟩
  have HR1 := hide hr1
  have hx := box_then hx (by simp) hb3
  have d0 := box_cell hx 0
  have d1 := box_cell hx 1
  have d2 := box_cell hx 2
  simp at d0 d1 d2
  clear hb3 hr1
  go_wp2_with fail
  refine (rreaches_any S L s rs oa c All _ (hs.below rowR_ok (below_box hx)) hc hc2).mono ?_
  rintro e w4 ⟨oa2, l2, c2, he, hr2, hl2, hc2', hx2, hb3⟩
  obtain rfl : l1 = l2 := reachRes_unique HR1.out hr2
  subst he
  have hx1 := hx1.below intR_ok hb3
  have hx := box_then hx (by simp) hb3
  have d0 := box_cell hx 0
  have d1 := box_cell hx 1
  have d2 := box_cell hx 2
  simp at d0 d1 d2
  clear hb3 hr2
  go_wp2_with fail
  refine (recs_any S L s rs oa c All _ (hs.below rowR_ok (below_box hx)) hc hc2).mono ?_
  rintro e w5 ⟨b1, rfl, hr1, hb3⟩
  have HR2 := hide hr1
  have hx1 := hx1.below intR_ok hb3
  have hx2 := hx2.below intR_ok hb3
  have hx := box_then hx (by simp) hb3
  have d0 := box_cell hx 0
  have d1 := box_cell hx 1
  have d2 := box_cell hx 2
  simp at d0 d1 d2
  clear hb3 hr1
  go_wp2_with fail
  refine (rrecs_any S L s rs oa c All _ (hs.below rowR_ok (below_box hx)) hc hc2).mono ?_
  rintro e w6 ⟨b2, he, hr2, hb3⟩
  obtain rfl : b1 = b2 := recRes_unique HR2.out hr2
  subst he
  have hx1 := hx1.below intR_ok hb3
  have hx2 := hx2.below intR_ok hb3
  have hbb := below_box (box_then hx (by simp) hb3)
  clear hb3 hr2 hx d0 d1 d2 hs
  go_wp2_with fail
  refine (awake_any _).mono ?_
  rintro e w7 ⟨rfl, hb3⟩
  have hx1 := hx1.below intR_ok hb3
  have hx2 := hx2.below intR_ok hb3
  have hbb := below_then hbb hb3
  clear hb3
  go_wp2_with fail
  refine (sameInts_any l1 l1 oa1 oa2 c1 c2 All _ hx1 hx2 hc1 (by omega)).mono ?_
  rintro e w8 ⟨rfl, hb3⟩
  have hbb := below_then hbb hb3
  clear hb3 hx1 hx2
  go_wp2_with fail
  go_ret
  exact ⟨rfl, hbb⟩

end Go.Proofs.Ytmjcjmljnliaoaa

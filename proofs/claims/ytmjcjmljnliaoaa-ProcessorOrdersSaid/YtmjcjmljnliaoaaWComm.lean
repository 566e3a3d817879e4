/-
  The walk of ProcessorCommutes.
-/
import Derived.Test.YtmjcjmljnliaoaaStab
import Derived.Test.YtmjcjmljnliaoaaWRuns
import Derived.Test.YtmjcjmljnliaoaaAbel
set_option linter.unusedVariables false
namespace Go.Proofs.Ytmjcjmljnliaoaa
open Go.RowKit

def commRes (p : Prc) (s a b : Int) : Bool × Int :=
  if stateErr p s = 0 then (if belowB a p.letters && belowB b p.letters then (commB p.rules s a b, 0) else (false, 2)) else (false, stateErr p s)
def BoolPost (w : World) (r : Bool × Int) (e : Ending) (w' : World) : Prop :=
  e = .returned (.tuple #[.bool r.1, .int .i64 r.2]) ∧ Below w.heap.size w w'
theorem letters_pair (L a b : Int) : lettersErr L [a, b] = if belowB a L && belowB b L then 0 else 2 := by
  cases h1 : belowB a L <;> cases h2 : belowB b L <;> simp [lettersErr, h1, h2]
theorem two_reads {p : Prc} (h : checkErr p 12 = 0) {s a b : Int} (hs : 0 ≤ s ∧ s < p.states) (ha : belowB a p.letters = true) (hb : belowB b p.letters = true) : (readSpec p.rules s [a, b]).2.length ≤ 1000000000000 := by
  have := (readSpec_right h [a, b] s hs (letters_two ha hb)).2.1
  simp at this
  omega

set_option maxHeartbeats 1000000 in
theorem pcommute_any (S L s a b : Int) (rs : List (List Rul)) (oa : Option Addr) (c : Nat) (F : Foot) (w : World) (hs : SliceR (slcR ruleR 2) 1 F w oa rs) (hc : rs.length ≤ c) (hc2 : rs.length ≤ 9223372036854775807) (ia : I64 a) (ib : I64 b) :
    Calls Try.prog 36 #[.agg #[.int .i64 S, .int .i64 L, .slice oa rs.length c], .int .i64 s, .int .i64 a, .int .i64 b] w (BoolPost w (commRes ⟨S, L, rs⟩ s a b)) := by
  have HSR := hide sorted_any
  have IA := hide ia
  have IB := hide ib
  go_enter Try.func36, Try.ntmps36
  go_wp2_with fail
  refine (state_any S L s rs oa c F _ (hs.below rowR_ok (bnew (Below.refl _ _) _)) hc hc2).mono ?_
  rintro e w2 ⟨rfl, hb2⟩
  have hx2 := hb2.mono (B' := w.heap.size + 1) (by simp)
  have d0 := box_cell hx2 0
  have d1 := box_cell hx2 1
  have d2 := box_cell hx2 2
  simp at d0 d1 d2
  clear hb2
  by_cases hz : stateErr ⟨S, L, rs⟩ s = 0
  case neg =>
    have hz1 := not_err hz
    have HZ : Hid (commRes ⟨S, L, rs⟩ s a b = (false, stateErr ⟨S, L, rs⟩ s)) := by show _ = _; simp [commRes, hz]
    clear hz
    go_wp2_with fail
    go_ret2
    exact ⟨by rw [HZ.out]; rfl, below_box hx2⟩
  have hz1 := is_err hz
  have HZ := hide hz
  clear hz
  go_wp2_with fail
  have hb1 := bnew (below_box hx2) (.cells #[.int .i64 a, .int .i64 b] 3)
  have hin : SliceR intR 1 All (w2.alloc (.cells #[.int .i64 a, .int .i64 b] 3)) (some ⟨w2.heap.size, 0, none⟩) [a, b] := by
    have := ints_lit (F := All) (G := All) w2 3 [a, b] (by intro x hx; simp at hx; rcases hx with rfl | rfl; exact IA.out; exact IB.out) trivial
    simpa using this
  refine (letters_any S L oa rs.length c [a, b] (some ⟨w2.heap.size, 0, none⟩) 2 All _ hin (by simp) (by simp) below_any).mono ?_
  rintro e w3 ⟨rfl, hb3⟩
  have hx3 := box_then (box_new hx2 (by simp) _) (by simp) hb3
  have e0 := box_cell hx3 0
  have e1 := box_cell hx3 1
  have e2 := box_cell hx3 2
  simp at e0 e1 e2
  clear hb3 d0 d1 d2 hin hb1
  by_cases hz : lettersErr L [a, b] = 0
  case neg =>
    have hz2 := not_err hz
    have h2 : (belowB a L && belowB b L) = false := by
      cases h : (belowB a L && belowB b L)
      · rfl
      · exact absurd (by rw [letters_pair, h]; rfl) hz
    have h3 : lettersErr L [a, b] = 2 := by rw [letters_pair, h2]; rfl
    have HR : Hid (commRes ⟨S, L, rs⟩ s a b = (false, lettersErr L [a, b])) := by show _ = _; rw [h3]; simp only [commRes, HZ.out, h2]; rfl
    clear hz h2 h3
    go_wp2_with fail
    go_ret2
    exact ⟨by rw [HR.out]; rfl, below_box hx3⟩
  have hz2 := is_err hz
  have h2 : (belowB a L && belowB b L) = true := by
    cases h : (belowB a L && belowB b L)
    · rw [letters_pair, h] at hz; cases hz
    · rfl
  have HR : Hid (commRes ⟨S, L, rs⟩ s a b = (commB rs s a b, 0)) := by show _ = _; simp only [commRes, HZ.out, h2]; rfl
  have HAB := hide (Bool.and_eq_true_iff.1 h2)
  clear hz h2
  have HST := state_zero HZ.out
  have HV := hide HST.1
  have HSS := hide HST.2
  clear HST
  go_wp2_with fail
  refine (commute_any HSR S L s a b rs oa c F _ (hs.below rowR_ok (below_box hx3)) HV HSS.out HAB.out.1 HAB.out.2 IA.out IB.out ⟨two_reads HV.out HSS.out HAB.out.1 HAB.out.2, two_reads HV.out HSS.out HAB.out.2 HAB.out.1⟩).mono ?_
  rintro e w4 ⟨rfl, hb4⟩
  go_wp2_with fail
  go_ret2
  exact ⟨by rw [HR.out]; rfl, below_then (below_box hx3) hb4⟩

set_option maxHeartbeats 1000000 in
theorem rcommute_any (S L s a b : Int) (rs : List (List Rul)) (oa : Option Addr) (c : Nat) (F : Foot) (w : World) (hs : SliceR (slcR ruleR 2) 1 F w oa rs) (hc : rs.length ≤ c) (hc2 : rs.length ≤ 9223372036854775807) (ia : I64 a) (ib : I64 b) :
    Calls Try.prog 37 #[.agg #[.int .i64 S, .int .i64 L, .slice oa rs.length c], .int .i64 s, .int .i64 a, .int .i64 b] w (BoolPost w (commRes ⟨S, L, rs⟩ s a b)) := by
  have IA := hide ia
  have IB := hide ib
  go_enter Try.func37, Try.ntmps37
  go_wp2_with fail
  refine (rstate_any S L s rs oa c F _ (hs.below rowR_ok (bnew (Below.refl _ _) _)) hc hc2).mono ?_
  rintro e w2 ⟨rfl, hb2⟩
  have hx2 := hb2.mono (B' := w.heap.size + 1) (by simp)
  have d0 := box_cell hx2 0
  have d1 := box_cell hx2 1
  have d2 := box_cell hx2 2
  simp at d0 d1 d2
  clear hb2
  by_cases hz : stateErr ⟨S, L, rs⟩ s = 0
  case neg =>
    have hz1 := not_err hz
    have HZ : Hid (commRes ⟨S, L, rs⟩ s a b = (false, stateErr ⟨S, L, rs⟩ s)) := by show _ = _; simp [commRes, hz]
    clear hz
    go_wp2_with fail
    go_ret2
    exact ⟨by rw [HZ.out]; rfl, below_box hx2⟩
  have hz1 := is_err hz
  have HZ := hide hz
  clear hz
  cases hba : belowB a L
  · have HR : Hid (commRes ⟨S, L, rs⟩ s a b = (false, 2)) := by show _ = _; simp [commRes, HZ.out, hba]
    go_wp2_with (go_at_call 84; refine (within_any _ _ _).mono ?_; rintro e w' ⟨rfl, rfl⟩)
    go_ret2
    exact ⟨by rw [HR.out]; rfl, below_box hx2⟩
  cases hbb : belowB b L
  · have HR : Hid (commRes ⟨S, L, rs⟩ s a b = (false, 2)) := by show _ = _; simp [commRes, HZ.out, hba, hbb]
    go_wp2_with (go_at_call 84; refine (within_any _ _ _).mono ?_; rintro e w' ⟨rfl, rfl⟩)
    go_ret2
    exact ⟨by rw [HR.out]; rfl, below_box hx2⟩
  have HR : Hid (commRes ⟨S, L, rs⟩ s a b = (commB rs s a b, 0)) := by show _ = _; simp [commRes, HZ.out, hba, hbb]
  have HST := state_zero HZ.out
  have HV := hide HST.1
  have HSS := hide HST.2
  clear HST
  go_wp2_with (go_at_call 84; refine (within_any _ _ _).mono ?_; rintro e w' ⟨rfl, rfl⟩)
  refine (commuting_any S L s a b rs oa c F _ (hs.below rowR_ok (below_box hx2)) HV HSS.out hba hbb IA.out IB.out).mono ?_
  rintro e w4 ⟨rfl, hb4⟩
  go_wp2_with fail
  go_ret2
  exact ⟨by rw [HR.out]; rfl, below_then (below_box hx2) hb4⟩

set_option maxRecDepth 100000 in
set_option maxHeartbeats 4000000 in
theorem commutes_walk (w : World) (S L : Int) (rs : List (List Rul)) (oa : Option Addr) (c : Nat) (_ : I64 S) (_ : I64 L) (hc : rs.length ≤ c) (hc2 : rs.length ≤ 9223372036854775807) (hs : SliceR (slcR ruleR 2) 1 All w oa rs)
    (s : Int) (_ : I64 s) (a b : Int) (ia : I64 a) (ib : I64 b) :
    Calls Try.prog 7 #[.agg #[.int .i64 S, .int .i64 L, .slice oa rs.length c], .int .i64 s, .agg #[.int .i64 a, .int .i64 b]] w fun e w' => e = .returned (.bool true) ∧ Below w.heap.size w w' := by
  have HSR := hide sorted_any
  have IA := hide ia
  have IB := hide ib
  clear ia ib
  have HN : Hid (checkErr ⟨S, L, rs⟩ 12 = 0 → ∀ s a b : Int, 0 ≤ s ∧ s < S → 0 ≤ a ∧ a < L → 0 ≤ b ∧ b < L → (readSpec rs s [a, b]).2.length ≤ 1000000000000) := by
    intro h s a b hs ha hb
    exact two_reads (p := ⟨S, L, rs⟩) h hs (by simp [belowB]; omega) (by simp [belowB]; omega)
  go_enter Try.func7, Try.ntmps7
  go_wp2_with fail
  refine (few_any S L rs oa c All _ (hs.below rowR_ok (bnew (bnew (Below.refl _ _) _) _)) hc hc2).mono ?_
  rintro e w2 ⟨t, rfl, hb2⟩
  generalize hO1 : Obj.cells #[Value.int IntKind.i64 S, Value.int IntKind.i64 L, Value.slice oa rs.length c] 47 = O1 at hb2
  generalize hO2 : Obj.cells #[Value.int IntKind.i64 a, Value.int IntKind.i64 b] 63 = O2 at hb2
  have hx : Below (w.heap.size + 1) (w.alloc O1) w2 := box_then (Below.alloc (Below.refl (w.heap.size + 1) (w.alloc O1)) (by simp) O2) (by simp) hb2
  have hy : Below ((w.alloc O1).heap.size + 1) ((w.alloc O1).alloc O2) w2 := hb2.mono (by simp)
  subst hO1 hO2
  clear hb2
  have d0 := box_cell hx 0
  have d1 := box_cell hx 1
  have d2 := box_cell hx 2
  have p0 := box_cell hy 0
  have p1 := box_cell hy 1
  simp at d0 d1 d2 p0 p1
  cases t with
  | false =>
    go_wp2_with fail
    refine (awake_any _).mono ?_
    rintro e w3 ⟨rfl, hb3⟩
    go_wp2_with fail
    go_ret
    exact ⟨rfl, below_box (box_then hx (by simp) hb3)⟩
  | true =>
  go_wp2_with fail
  refine (pcommute_any S L s a b rs oa c All _ (hs.below rowR_ok (below_box hx)) hc hc2 IA.out IB.out).mono ?_
  rintro e w3 ⟨rfl, hb3⟩
  have hx := box_then hx (by simp) hb3
  have hy := box_then hy (by simp) hb3
  clear hb3
  have d0 := box_cell hx 0
  have d1 := box_cell hx 1
  have d2 := box_cell hx 2
  have p0 := box_cell hy 0
  have p1 := box_cell hy 1
  simp at d0 d1 d2 p0 p1
  generalize hr : commRes ⟨S, L, rs⟩ s a b = r1
  have HR := hide hr
  clear hr
  obtain ⟨b1, e1⟩ := r1
  go_wp2_with fail
  refine (rcommute_any S L s a b rs oa c All _ (hs.below rowR_ok (below_box hx)) hc hc2 IA.out IB.out).mono ?_
  rintro e w4 ⟨he, hb3⟩
  rw [HR.out] at he
  subst he
  have hx := box_then hx (by simp) hb3
  clear hb3 hy p0 p1
  have d0 := box_cell hx 0
  have d1 := box_cell hx 1
  have d2 := box_cell hx 2
  simp at d0 d1 d2
  go_wp2_with fail
  refine (abelian_any HSR S L rs oa c All _ (hs.below rowR_ok (below_box hx)) hc hc2 HN).mono ?_
  rintro e w5 ⟨v, rfl, ho, hb3⟩
  obtain ⟨oa1, c1, rfl, hc1, hx1⟩ := ho.slice intR_ok
  have hl1 := ho.bound
  have hx := box_then hx (by simp) hb3
  have d0 := box_cell hx 0
  have d1 := box_cell hx 1
  have d2 := box_cell hx 2
  simp at d0 d1 d2
  clear hb3 ho
  generalize hr : abelRes ⟨S, L, rs⟩ = r2 at hc1 hx1 hl1 ⊢
  have HR2 := hide hr
  clear hr
  obtain ⟨b2, l2, e2⟩ := r2
  go_wp2_with fail
  refine (rabelian_any S L rs oa c All _ (hs.below rowR_ok (below_box hx)) hc hc2).mono ?_
  rintro e w6 ⟨v, he, ho, hb3⟩
  rw [HR2.out] at he ho
  subst he
  obtain ⟨oa2, c2, rfl, hc2', hx2⟩ := ho.slice intR_ok
  have hx1 := hx1.below intR_ok hb3
  have hbb := below_box (box_then hx (by simp) hb3)
  clear hb3 ho hx d0 d1 d2 hs
  go_wp2_with fail
  refine (awake_any _).mono ?_
  rintro e w7 ⟨rfl, hb3⟩
  have hx1 := hx1.below intR_ok hb3
  have hx2 := hx2.below intR_ok hb3
  have hbb := below_then hbb hb3
  clear hb3
  go_wp2_with fail
  refine (sameInts_any l2 l2 oa1 oa2 c1 c2 (fun _ => True) _ (hx1.all intR_ok (by omega)) (hx2.all intR_ok (by omega)) hc1 hl1).mono ?_
  rintro e w8 ⟨rfl, hb3⟩
  have hbb := below_then hbb hb3
  clear hb3 hx1 hx2
  go_wp2_with fail
  go_ret
  exact ⟨rfl, hbb⟩

end Go.Proofs.Ytmjcjmljnliaoaa

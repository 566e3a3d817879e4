/-
  Step: the program and the reference.
-/
import Derived.Test.YtmjcjmljnliaoaaRun
set_option linter.unusedVariables false
namespace Go.Proofs.Ytmjcjmljnliaoaa
open Go.RowKit

theorem letters_one (L a : Int) : lettersErr L [a] = if belowB a L then 0 else 2 := rfl

set_option maxHeartbeats 1000000 in
theorem step_any (S L s a : Int) (rs : List (List Rul)) (oa : Option Addr) (c : Nat) (F : Foot) (w : World) (hs : SliceR (slcR ruleR 2) 1 F w oa rs) (hc : rs.length ≤ c) (hc2 : rs.length ≤ 9223372036854775807) (ha : I64 a) :
    Calls Try.prog 43 #[.agg #[.int .i64 S, .int .i64 L, .slice oa rs.length c], .int .i64 s, .int .i64 a] w (OutsPost w (stepRes ⟨S, L, rs⟩ s a)) := by
  go_enter Try.func43, Try.ntmps43
  go_wp2_with fail
  refine (state_any S L s rs oa c F _ (hs.below rowR_ok (bnew (Below.refl _ _) _)) hc hc2).mono ?_
  rintro e w2 ⟨rfl, hb2⟩
  have hx2 := hb2.mono (B' := w.heap.size + 1) (by simp)
  have d0 := box_cell hx2 0
  have d1 := box_cell hx2 1
  have d2 := box_cell hx2 2
  simp at d0 d1 d2
  clear hb2
  by_cases hz : stateErr ⟨S, L, rs⟩ s = 0
  case neg =>
    have hz1 := not_err hz
    have HZ : Hid (stepRes ⟨S, L, rs⟩ s a = (0, [], stateErr ⟨S, L, rs⟩ s)) := by show _ = _; simp [stepRes, hz]
    clear hz
    go_wp2_with fail
    go_ret3
    exact ⟨_, by rw [HZ.out]; rfl, by rw [HZ.out]; exact OwnS.nil _ _ _ _ _ _, below_box hx2⟩
  have hz1 := is_err hz
  have HZ := hide hz
  clear hz
  go_wp2_with fail
  refine (letters_any S L oa rs.length c [a] (some ⟨w2.heap.size, 0, none⟩) 1 All _ (one_int ha trivial) (by simp) (by simp) below_any).mono ?_
  rintro e w3 ⟨rfl, hb3⟩
  have hx3 := box_then (box_new hx2 (by simp) _) (by simp) hb3
  have e0 := box_cell hx3 0
  have e1 := box_cell hx3 1
  have e2 := box_cell hx3 2
  simp at e0 e1 e2
  clear hb3 d0 d1 d2
  by_cases hz : lettersErr L [a] = 0
  case neg =>
    have hz2 := not_err hz
    have h2 : belowB a L = false := by
      cases h : belowB a L
      · rfl
      · exact absurd (by rw [letters_one, h]; rfl) hz
    have HR : Hid (stepRes ⟨S, L, rs⟩ s a = (0, [], lettersErr L [a])) := by show _ = _; simp [stepRes, HZ.out, letters_one, h2]
    clear hz h2
    go_wp2_with fail
    go_ret3
    exact ⟨_, by rw [HR.out]; rfl, by rw [HR.out]; exact OwnS.nil _ _ _ _ _ _, below_box hx3⟩
  have hz2 := is_err hz
  have HL := hide hz
  have h2 : belowB a L = true := by
    cases h : belowB a L
    · rw [letters_one, h] at hz; cases hz
    · rfl
  have HR : Hid (stepRes ⟨S, L, rs⟩ s a = ((readSpec rs s [a]).1, (readSpec rs s [a]).2, 0)) := by show _ = _; simp [stepRes, HZ.out, h2]
  clear hz h2
  have HST := state_zero HZ.out
  have HV := hide HST.1
  have HSS := hide HST.2
  clear HST
  go_wp2_with fail
  refine (read_any S L rs oa c s [a] (some ⟨w3.heap.size, 0, none⟩) 1 F All _ ((hs.below rowR_ok (below_box hx3)).below rowR_ok (bnew (Below.refl _ _) _)) (one_int ha trivial) HV HSS.out HL (by simp)).mono ?_
  rintro e w4 ⟨v, rfl, ho, hb4⟩
  go_wp2_with fail
  go_ret3
  refine ⟨v, by rw [HR.out]; rfl, by rw [HR.out]; exact ho.rebase (bnew (below_box hx3) _).size, below_then (bnew (below_box hx3) _) hb4⟩

set_option maxHeartbeats 1000000 in
theorem rstep_any (S L s a : Int) (rs : List (List Rul)) (oa : Option Addr) (c : Nat) (F : Foot) (w : World) (hs : SliceR (slcR ruleR 2) 1 F w oa rs) (hc : rs.length ≤ c) (hc2 : rs.length ≤ 9223372036854775807) (ha : I64 a) :
    Calls Try.prog 44 #[.agg #[.int .i64 S, .int .i64 L, .slice oa rs.length c], .int .i64 s, .int .i64 a] w (OutsPost w (stepRes ⟨S, L, rs⟩ s a)) := by
  go_enter Try.func44, Try.ntmps44
  go_wp2_with fail
  refine (rcheck_any S L 12 rs oa c F _ (hs.below rowR_ok (bnew (Below.refl _ _) _)) hc hc2).mono ?_
  rintro e w2 ⟨rfl, hb2⟩
  have hx2 := hb2.mono (B' := w.heap.size + 1) (by simp)
  have d0 := box_cell hx2 0
  have d1 := box_cell hx2 1
  have d2 := box_cell hx2 2
  simp at d0 d1 d2
  clear hb2
  by_cases hz : checkErr ⟨S, L, rs⟩ 12 = 0
  case neg =>
    have hz1 := not_err hz
    have HZ : Hid (stepRes ⟨S, L, rs⟩ s a = (0, [], checkErr ⟨S, L, rs⟩ 12)) := by show _ = _; simp [stepRes, stateErr, hz]
    clear hz
    go_wp2_with fail
    go_ret3
    exact ⟨_, by rw [HZ.out]; rfl, by rw [HZ.out]; exact OwnS.nil _ _ _ _ _ _, below_box hx2⟩
  have hz1 := is_err hz
  have HV := hide hz
  clear hz
  cases hbs : belowB s S
  · have HR : Hid (stepRes ⟨S, L, rs⟩ s a = (0, [], 2)) := by show _ = _; simp [stepRes, stateErr, HV.out, hbs]
    go_wp2_with (go_at_call 84; refine (within_any _ _ _).mono ?_; rintro e w' ⟨rfl, rfl⟩)
    go_ret3
    exact ⟨_, by rw [HR.out]; rfl, by rw [HR.out]; exact OwnS.nil _ _ _ _ _ _, below_box hx2⟩
  cases hba : belowB a L
  · have HR : Hid (stepRes ⟨S, L, rs⟩ s a = (0, [], 2)) := by show _ = _; simp [stepRes, stateErr, HV.out, hbs, hba]
    go_wp2_with (go_at_call 84; refine (within_any _ _ _).mono ?_; rintro e w' ⟨rfl, rfl⟩)
    go_ret3
    exact ⟨_, by rw [HR.out]; rfl, by rw [HR.out]; exact OwnS.nil _ _ _ _ _ _, below_box hx2⟩
  have HR : Hid (stepRes ⟨S, L, rs⟩ s a = ((readSpec rs s [a]).1, (readSpec rs s [a]).2, 0)) := by show _ = _; simp [stepRes, stateErr, HV.out, hbs, hba]
  have HL : Hid (lettersErr L [a] = 0) := by show _ = _; rw [letters_one, hba]; rfl
  have hsr : 0 ≤ s ∧ s < S := by simpa [belowB] using hbs
  have HSS := hide hsr
  clear hsr
  go_wp2_with (go_at_call 84; refine (within_any _ _ _).mono ?_; rintro e w' ⟨rfl, rfl⟩)
  refine (rread_any S L rs oa c s [a] (some ⟨w2.heap.size, 0, none⟩) 1 F All _ ((hs.below rowR_ok (below_box hx2)).below rowR_ok (bnew (Below.refl _ _) _)) (one_int ha trivial) HV HSS.out HL (by simp)).mono ?_
  rintro e w4 ⟨v, rfl, ho, hb4⟩
  go_wp2_with fail
  go_ret3
  refine ⟨v, by rw [HR.out]; rfl, by rw [HR.out]; exact ho.rebase (bnew (below_box hx2) _).size, below_then (bnew (below_box hx2) _) hb4⟩

end Go.Proofs.Ytmjcjmljnliaoaa

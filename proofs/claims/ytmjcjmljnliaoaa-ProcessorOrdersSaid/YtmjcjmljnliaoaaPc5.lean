/-
  Unary, state: the program and the reference.
-/
import Derived.Test.YtmjcjmljnliaoaaProg
import Derived.Test.YtmjcjmljnliaoaaPc1
import Derived.Deep.QuietTactic
import Derived.BigQuiet
import Derived.StillTailTactics
set_option linter.unusedVariables false
namespace Go.Proofs.Ytmjcjmljnliaoaa
open Go.RowKit

set_option maxHeartbeats 400000 in
theorem unary_any (S L : Int) (rs : List (List Rul)) (oa : Option Addr) (c : Nat) (F : Foot) (w : World) (hs : SliceR (slcR ruleR 2) 1 F w oa rs) (hc : rs.length ≤ c) (hc2 : rs.length ≤ 9223372036854775807) :
    Calls Try.prog 29 #[.agg #[.int .i64 S, .int .i64 L, .slice oa rs.length c]] w fun e w' =>
      e = .returned (.tuple #[.bool (unaryRes ⟨S, L, rs⟩).1, .int .i64 (unaryRes ⟨S, L, rs⟩).2]) ∧ Below w.heap.size w w' := by
  go_enter Try.func29, Try.ntmps29
  go_wp2_with fail
  refine (check_any S L 12 rs oa c F _ (hs.below rowR_ok (bnew (Below.refl _ _) _)) hc hc2).mono ?_
  rintro e w2 ⟨rfl, hb2⟩
  have hb3 := below_then (bnew (Below.refl w.heap.size w) _) hb2
  have d1 := box_cell (hb2.mono (B' := w.heap.size + 1) (by simp)) 1
  simp at d1
  clear hb2
  by_cases hz : checkErr ⟨S, L, rs⟩ 12 = 0
  · have hz1 := is_err hz
    have HZ : Hid (unaryRes ⟨S, L, rs⟩ = (L == 1, 0)) := by show _ = _; simp [unaryRes, hz]
    clear hz
    go_wp2_with fail
    go_ret2
    exact ⟨by rw [HZ.out]; rfl, hb3⟩
  · have hz1 := not_err hz
    have HZ : Hid (unaryRes ⟨S, L, rs⟩ = (false, checkErr ⟨S, L, rs⟩ 12)) := by show _ = _; simp [unaryRes, hz]
    clear hz
    go_wp2_with fail
    go_ret2
    exact ⟨by rw [HZ.out]; rfl, hb3⟩

set_option maxHeartbeats 400000 in
theorem state_any (S L s : Int) (rs : List (List Rul)) (oa : Option Addr) (c : Nat) (F : Foot) (w : World) (hs : SliceR (slcR ruleR 2) 1 F w oa rs) (hc : rs.length ≤ c) (hc2 : rs.length ≤ 9223372036854775807) :
    Calls Try.prog 86 #[.agg #[.int .i64 S, .int .i64 L, .slice oa rs.length c], .int .i64 s] w fun e w' =>
      e = .returned (.int .i64 (stateErr ⟨S, L, rs⟩ s)) ∧ Below w.heap.size w w' := by
  go_enter Try.func86, Try.ntmps86
  go_wp2_with fail
  refine (check_any S L 12 rs oa c F _ (hs.below rowR_ok (bnew (Below.refl _ _) _)) hc hc2).mono ?_
  rintro e w2 ⟨rfl, hb2⟩
  have hb3 := below_then (bnew (Below.refl w.heap.size w) _) hb2
  have d1 := box_cell (hb2.mono (B' := w.heap.size + 1) (by simp)) 0
  simp at d1
  clear hb2
  by_cases hz : checkErr ⟨S, L, rs⟩ 12 = 0
  · have hz1 := is_err hz
    cases hbl : belowB s S
    · have HZ : Hid (stateErr ⟨S, L, rs⟩ s = 2) := by show _ = _; simp [stateErr, hz, hbl]
      clear hz
      go_wp2_with (go_at_call 124; refine (below_any _ _ _).mono ?_; rintro e w' ⟨rfl, rfl⟩)
      go_ret
      exact ⟨ret_int HZ.out.symm, hb3⟩
    · have HZ : Hid (stateErr ⟨S, L, rs⟩ s = 0) := by show _ = _; simp [stateErr, hz, hbl]
      clear hz
      go_wp2_with (go_at_call 124; refine (below_any _ _ _).mono ?_; rintro e w' ⟨rfl, rfl⟩)
      go_ret
      exact ⟨ret_int HZ.out.symm, hb3⟩
  · have hz1 := not_err hz
    have HZ : Hid (stateErr ⟨S, L, rs⟩ s = checkErr ⟨S, L, rs⟩ 12) := by show _ = _; simp [stateErr, hz]
    clear hz
    go_wp2_with fail
    go_ret
    exact ⟨ret_int HZ.out.symm, hb3⟩


end Go.Proofs.Ytmjcjmljnliaoaa

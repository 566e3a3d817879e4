/-
  The walks of the reference of layer 54: rule, Check.
-/
import Derived.Test.YtmjcjmljnliaoaaProg
import Derived.Test.YtmjcjmljnliaoaaData
import Derived.Deep.QuietTactic
import Derived.BigQuiet
import Derived.StillTailTactics
set_option linter.unusedVariables false
namespace Go.Proofs.Ytmjcjmljnliaoaa
open Go.RowKit

theorem within_any (n b : Int) (w : World) :
    Calls Try.prog 84 #[.int .i64 n, .int .i64 b] w fun e w' => e = .returned (.bool (belowB n b)) ∧ w = w' := by
  go_enter Try.func84, Try.ntmps84
  go_wp2
  all_goals go_ret
  all_goals (refine ⟨ret_bool ?_, rfl⟩; unfold belowB)
  · simp only [decide_eq_true ‹0 ≤ n›, Bool.true_and]
  · rw [decide_eq_false (by omega), Bool.false_and]

set_option maxHeartbeats 400000 in
theorem rrule_any (nx : Int) (st : List Out) (S N : Int) (oa : Option Addr) (c : Nat) (F : Foot) (w : World) (hs : SliceR outR 2 F w oa st) (hc : st.length ≤ c) (hc2 : st.length ≤ 9223372036854775807) :
    Calls Try.prog 81 #[.agg #[.int .i64 nx, .slice oa st.length c], .int .i64 S, .int .i64 N] w fun e w' => e = .returned (.int .i64 (ruleErr S N ⟨nx, st⟩)) ∧ Below w.heap.size w w' := by
  by_cases h1 : nx < 0 ∨ S ≤ nx
  · have HR : Hid (ruleErr S N ⟨nx, st⟩ = 2) := by
      show _ = _
      have : belowB nx S = false := by simp [belowB]; omega
      simp [ruleErr, this]
    go_enter Try.func81, Try.ntmps81
    go_wp2_with fail
    all_goals first | (go_ret; exact ⟨ret_int HR.out.symm, bnew (Below.refl _ _) _⟩) | (exfalso; omega)
  have hb : belowB nx S = true := by simp [belowB]; omega
  have h1a : 0 ≤ nx := by omega
  have h1b : nx < S := by omega
  by_cases h2 : st.length ≤ 16
  · have HR : Hid (ruleErr S N ⟨nx, st⟩ = sentErr N st) := by show _ = _; simp [ruleErr, hb, h2]
    clear hb h1
    go_enter Try.func81, Try.ntmps81
    go_wp2_with fail
    have hsr := hs.below outR_ok (bnew (Below.refl _ _) (.cells #[.int .i64 nx, .slice oa st.length c] 115))
    have d0 := box_cell (box_refl w (.cells #[.int .i64 nx, .slice oa st.length c] 115)) 0
    have d1 := box_cell (box_refl w (.cells #[.int .i64 nx, .slice oa st.length c] 115)) 1
    simp at d0 d1
    go_loop [7] (fun i => ∃ k : Nat, k ≤ st.length ∧ i = .int .i64 k ∧ Hid (sentErr N st = sentErr N (st.drop k))) (fun i => st.length - (intOf i).toNat)
    case atStart => exact ⟨0, by omega, rfl, rfl⟩
    case round =>
      obtain ⟨k, hk, rfl, HE⟩ := hrel
      by_cases hlt : k < st.length
      · obtain ⟨x, y, hd, _, _, _, b, off, rfl, _, c0, c1⟩ := hsr.out_at hlt
        have HD := hide hd
        clear hd hs hsr
        by_cases h3 : x < 0 ∨ N ≤ x ∨ y < 0 ∨ 8 ≤ y
        · have hx : (belowB x N && belowB y 8) = false := by simp [belowB]; omega
          have HX := hide hx
          clear hx
          go_wp2_with fail
          all_goals first | (go_ret; exact ⟨ret_int (by rw [HR.out, HE.out, HD.out]; simp only [sentErr, HX.out]; rfl), bnew (Below.refl _ _) _⟩) | (exfalso; omega)
        · have hx : (belowB x N && belowB y 8) = true := by simp [belowB]; omega
          have HX := hide hx
          clear hx
          go_wp2_with fail
          go_round
          case rel => exact ⟨k + 1, by omega, by go_num, by show _ = _; rw [HE.out, HD.out]; simp only [sentErr, HX.out]; rfl⟩
          case measure => simp [intOf]; omega
      · go_wp2_with fail
        go_ret
        exact ⟨ret_int (by rw [HR.out, HE.out, List.drop_eq_nil_of_le (by omega)]; rfl), bnew (Below.refl _ _) _⟩
  · have HR : Hid (ruleErr S N ⟨nx, st⟩ = 5) := by show _ = _; simp [ruleErr, hb, h2]
    clear hb h1
    go_enter Try.func81, Try.ntmps81
    go_wp2_with fail
    go_ret; exact ⟨ret_int HR.out.symm, bnew (Below.refl _ _) _⟩

end Go.Proofs.Ytmjcjmljnliaoaa

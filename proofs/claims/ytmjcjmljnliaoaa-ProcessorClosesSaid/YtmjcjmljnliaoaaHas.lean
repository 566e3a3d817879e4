/-
  slices.Contains at lists of integers.
-/
import Derived.Test.YtmjcjmljnliaoaaWRuns
set_option linter.unusedVariables false
namespace Go.Proofs.Ytmjcjmljnliaoaa
open Go.RowKit

theorem index_any (x : Int) (l : List Int) (oa : Option Addr) (c : Nat) (F : Foot) (w : World) (hs : SliceR intR 1 F w oa l) (hc : l.length ≤ c) (hc2 : l.length ≤ 9223372036854775807) :
    Calls Try.prog 107 #[.slice oa l.length c, .int .i64 x] w fun e w' => ∃ r : Int, e = .returned (.int .i64 r) ∧ (0 ≤ r ↔ x ∈ l) ∧ w = w' := by
  go_enter Try.func107, Try.ntmps107
  go_wp2_with fail
  go_loop [8] (fun i => ∃ k : Nat, k ≤ l.length ∧ i = .int .i64 k ∧ Hid (x ∉ l.take k)) (fun i => l.length - (intOf i).toNat)
  case atStart => exact ⟨0, by omega, rfl, by show _ ∉ _; simp⟩
  case round =>
    obtain ⟨k, hk, rfl, HE⟩ := hrel
    by_cases hlt : k < l.length
    · obtain ⟨y, hd, hget, _, b, off, hoa, _, c0⟩ := hs.int_at hlt
      subst hoa
      by_cases hxy : x = y
      · have hm : Hid (x ∈ l) := by show _ ∈ _; rw [hxy]; exact List.mem_of_getElem? hget
        have hq : (x == y) = true := by simp [hxy]
        have hq2 : (y == x) = true := by simp [hxy]
        have HXY := hide hxy
        clear hd hget hxy
        go_wp2_with fail
        go_ret
        exact ⟨_, rfl, ⟨fun _ => hm.out, fun _ => by omega⟩, rfl⟩
      · have hm : Hid (x ∉ l.take (k + 1)) := by
          show _ ∉ _
          rw [List.take_add_one, hget]
          have := HE.out
          simp [hxy]
          exact this
        have hq : (x == y) = false := by simp [hxy]
        have hq2 : (y == x) = false := by simp; exact fun h => hxy h.symm
        have HXY := hide hxy
        clear hd hget hxy
        go_wp2_with fail
        go_round
        case rel => exact ⟨k + 1, by omega, by go_num, hm⟩
        case measure => simp [intOf]; omega
    · go_wp2_with fail
      go_ret
      refine ⟨_, rfl, ⟨fun h => by omega, fun h => ?_⟩, rfl⟩
      have := HE.out
      rw [List.take_of_length_le (by omega)] at this
      exact absurd h this

theorem contains_any (x : Int) (l : List Int) (oa : Option Addr) (c : Nat) (F : Foot) (w : World) (hs : SliceR intR 1 F w oa l) (hc : l.length ≤ c) (hc2 : l.length ≤ 9223372036854775807) :
    Calls Try.prog 55 #[.slice oa l.length c, .int .i64 x] w fun e w' => e = .returned (.bool (decide (x ∈ l))) ∧ w = w' := by
  go_enter Try.func55, Try.ntmps55
  go_wp2_with fail
  refine (index_any x l oa c F w hs hc hc2).mono ?_
  rintro e w' ⟨r, rfl, hr, rfl⟩
  have HR := hide hr
  clear hr
  go_wp2_with fail
  go_ret
  refine ⟨ret_bool ?_, rfl⟩
  have h := HR.out
  by_cases hx : x ∈ l <;> simp [hx] at h ⊢ <;> omega

end Go.Proofs.Ytmjcjmljnliaoaa

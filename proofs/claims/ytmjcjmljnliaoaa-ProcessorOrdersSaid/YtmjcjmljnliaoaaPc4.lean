/-
  Two lists of outputs, two lists of ints: SameOutputs, SameInts.
-/
import Derived.Test.YtmjcjmljnliaoaaProg
import Derived.Test.YtmjcjmljnliaoaaData
import Derived.Deep.QuietTactic
import Derived.BigQuiet
import Derived.StillTailTactics
set_option linter.unusedVariables false
namespace Go.Proofs.Ytmjcjmljnliaoaa
open Go.RowKit

theorem neqGuard_out (op : BinOp) (a b : Operand) (x y : Array Value) (w : World) : (eqGuard op 80 a b (.agg x) (.agg y)).run Try.prog w = .ok () w :=
  run_eqGuard_agg w op 80 a b x y (by kernel_rfl)
theorem neq_out (a b c d : Int) (w : World) : (binOp .neq 80 (.agg #[.int .i64 a, .int .i64 b]) (.agg #[.int .i64 c, .int .i64 d])).run Try.prog w = .ok (.bool (!(a == c && b == d))) w := by
  have u3 := Try.underlying3
  have a3 := Try.isAgg3
  have z3 := Try.sizeOf3
  have hS : Try.prog.underlying 80 = some (.struct (Try.prog.fieldsOf 80)) := by kernel_rfl
  have hp : Try.prog.stoodInHeld 80 = false := by kernel_rfl
  rw [run_neq_struct, show (10000 : Nat) = 9999 + 1 from rfl, run_equalIn_agg w 9999 80 _ _ hS hp]
  simp only [Program.fieldsOf, Try.underlying80]
  go_simp
  by_cases h1 : a = c <;> by_cases h2 : b = d <;> simp [h1, h2]

set_option maxHeartbeats 400000 in
theorem sameOutputs_any (l m : List Out) (oa ob : Option Addr) (c d : Nat) (F : Foot) (w : World) (hs : SliceR outR 2 F w oa l) (ht : SliceR outR 2 F w ob m) (hc : l.length ≤ c) (hc2 : l.length ≤ 9223372036854775807) :
    Calls Try.prog 35 #[.slice oa l.length c, .slice ob m.length d] w fun e w' => e = .returned (.bool (decide (l = m))) ∧ Below w.heap.size w w' := by
  by_cases hlen : l.length = m.length
  case neg =>
    have hl' : ((l.length : Int) != m.length) = true := by simp; omega
    have HL : Hid (decide (l = m) = false) := decide_eq_false fun h => hlen (by rw [h])
    clear hlen
    go_enter Try.func35, Try.ntmps35
    go_wp2_with fail
    go_ret; exact ⟨ret_bool HL.out.symm, Below.refl _ _⟩
  have hl' : ((l.length : Int) != m.length) = false := by simp [hlen]
  have HL := hide hlen
  clear hlen
  go_enter Try.func35, Try.ntmps35
  go_wp2_with fail
  go_loopw [5] (fun i wr => ∃ k : Nat, k ≤ l.length ∧ i = .int .i64 k ∧ Hid (l = m ↔ l.drop k = m.drop k) ∧ Below w.heap.size w wr) (fun i _ => l.length - (intOf i).toNat)
  case atStart => exact ⟨0, by omega, rfl, Iff.rfl, Below.refl _ _⟩
  case round =>
    obtain ⟨k, hk, rfl, HE, hb⟩ := hrel
    by_cases hlt : k < l.length
    · obtain ⟨x, y, hd, _, _, _, b, off, rfl, _, c0, c1⟩ := (hs.below outR_ok hb).out_at hlt
      have hlt2 : k < m.length := by rw [← HL.out]; exact hlt
      obtain ⟨x', y', hd', _, _, _, b', off', rfl, _, c0', c1'⟩ := (ht.below outR_ok hb).out_at hlt2
      have HD := hide hd
      have HD' := hide hd'
      clear hd hd' hs ht
      have q1 := neqGuard_out
      have q2 := neq_out
      by_cases hx : x = x' ∧ y = y'
      · obtain ⟨rfl, rfl⟩ := hx
        go_wp2_with fail
        go_quiet (fail)
        go_wp2_with fail
        go_roundw
        case rel =>
          refine ⟨k + 1, by omega, by go_num, ?_, below_drewN hb _⟩
          show _ ↔ _
          rw [HE.out, HD.out, HD'.out]; simp
        case measure => simp [intOf]; omega
      · have hne : (!x == x' || !y == y') = true := by
          by_cases h1 : x = x' <;> by_cases h2 : y = y' <;> simp_all
        have HX := hide hx
        clear hx
        go_wp2_with fail
        go_quiet (fail)
        go_wp2_with fail
        go_ret
        refine ⟨ret_bool ?_, below_drewN hb _⟩
        symm
        refine decide_eq_false fun h => HX.out ?_
        have h2 := HE.out.1 h
        rw [HD.out, HD'.out] at h2
        simp at h2
        exact h2.1
    · go_wp2_with fail
      go_ret
      refine ⟨ret_bool ?_, hb⟩
      symm
      refine decide_eq_true (HE.out.2 ?_)
      rw [List.drop_eq_nil_of_le (by omega), List.drop_eq_nil_of_le (by have := HL.out; omega)]

set_option maxHeartbeats 400000 in
theorem sameInts_any (l m : List Int) (oa ob : Option Addr) (c d : Nat) (F : Foot) (w : World) (hs : SliceR intR 1 F w oa l) (ht : SliceR intR 1 F w ob m) (hc : l.length ≤ c) (hc2 : l.length ≤ 9223372036854775807) :
    Calls Try.prog 40 #[.slice oa l.length c, .slice ob m.length d] w fun e w' => e = .returned (.bool (decide (l = m))) ∧ Below w.heap.size w w' := by
  by_cases hlen : l.length = m.length
  case neg =>
    have hl' : ((l.length : Int) != m.length) = true := by simp; omega
    have HL : Hid (decide (l = m) = false) := decide_eq_false fun h => hlen (by rw [h])
    clear hlen
    go_enter Try.func40, Try.ntmps40
    go_wp2_with fail
    go_ret; exact ⟨ret_bool HL.out.symm, Below.refl _ _⟩
  have hl' : ((l.length : Int) != m.length) = false := by simp [hlen]
  have HL := hide hlen
  clear hlen
  go_enter Try.func40, Try.ntmps40
  go_wp2_with fail
  go_loopw [5] (fun i wr => ∃ k : Nat, k ≤ l.length ∧ i = .int .i64 k ∧ Hid (l = m ↔ l.drop k = m.drop k) ∧ Below w.heap.size w wr) (fun i _ => l.length - (intOf i).toNat)
  case atStart => exact ⟨0, by omega, rfl, Iff.rfl, Below.refl _ _⟩
  case round =>
    obtain ⟨k, hk, rfl, HE, hb⟩ := hrel
    by_cases hlt : k < l.length
    · obtain ⟨x, hd, _, _, b, off, rfl, _, c0⟩ := (hs.below intR_ok hb).int_at hlt
      have hlt2 : k < m.length := by rw [← HL.out]; exact hlt
      obtain ⟨x', hd', _, _, b', off', rfl, _, c0'⟩ := (ht.below intR_ok hb).int_at hlt2
      have HD := hide hd
      have HD' := hide hd'
      clear hd hd' hs ht
      by_cases hx : x = x'
      · obtain rfl := hx
        go_wp2_with fail
        go_quiet (fail)
        go_wp2_with fail
        go_roundw
        case rel =>
          refine ⟨k + 1, by omega, by go_num, ?_, below_drewN hb _⟩
          show _ ↔ _
          rw [HE.out, HD.out, HD'.out]; simp
        case measure => simp [intOf]; omega
      · have hne : (x != x') = true := by simp [hx]
        have HX := hide hx
        clear hx
        go_wp2_with fail
        go_quiet (fail)
        go_wp2_with fail
        go_ret
        refine ⟨ret_bool ?_, below_drewN hb _⟩
        symm
        refine decide_eq_false fun h => HX.out ?_
        have h2 := HE.out.1 h
        rw [HD.out, HD'.out] at h2
        simp at h2
        exact h2.1
    · go_wp2_with fail
      go_ret
      refine ⟨ret_bool ?_, hb⟩
      symm
      refine decide_eq_true (HE.out.2 ?_)
      rw [List.drop_eq_nil_of_le (by omega), List.drop_eq_nil_of_le (by have := HL.out; omega)]

end Go.Proofs.Ytmjcjmljnliaoaa

/-
  The walks of package processor: below, sent, rule, Check.
-/
import Derived.Test.YtmjcjmljnliaoaaProg
import Derived.Test.YtmjcjmljnliaoaaData
import Derived.Deep.QuietTactic
import Derived.BigQuiet
set_option linter.unusedVariables false
namespace Go.Proofs.Ytmjcjmljnliaoaa
open Go.RowKit

theorem below_any (n b : Int) (w : World) :
    Calls Try.prog 124 #[.int .i64 n, .int .i64 b] w fun e w' => e = .returned (.bool (belowB n b)) ∧ w = w' := by
  go_enter Try.func124, Try.ntmps124
  go_wp2
  all_goals go_ret
  all_goals (refine ⟨ret_bool ?_, rfl⟩; unfold belowB)
  · simp only [decide_eq_true ‹0 ≤ n›, Bool.true_and]
  · rw [decide_eq_false (by omega), Bool.false_and]

set_option maxHeartbeats 400000 in
theorem sent_any (l : List Out) (N : Int) (oa : Option Addr) (c : Nat) (F : Foot) (w : World) (hs : SliceR outR 2 F w oa l) (hc : l.length ≤ c) (hc2 : l.length ≤ 9223372036854775807) :
    Calls Try.prog 82 #[.slice oa l.length c, .int .i64 N] w fun e w' => e = .returned (.int .i64 (sentErr N l)) ∧ Below w.heap.size w w' := by
  go_enter Try.func82, Try.ntmps82
  go_wp2
  go_loopw [9] (fun i wr => ∃ k : Nat, k ≤ l.length ∧ i = .int .i64 k ∧ Hid (sentErr N l = sentErr N (l.drop k)) ∧ Below w.heap.size w wr) (fun i _ => l.length - (intOf i).toNat)
  case atStart => exact ⟨0, by omega, rfl, rfl, Below.refl _ _⟩
  case round =>
    obtain ⟨k, hk, rfl, HE, hb⟩ := hrel
    by_cases hlt : k < l.length
    · obtain ⟨x, y, hd, _, _, _, b, off, rfl, _, h0, h1⟩ := (hs.below outR_ok hb).out_at hlt
      have HD := hide hd
      clear hd hs
      cases h1 : belowB x N <;> cases h2 : belowB y 8
      all_goals go_wp2_with (go_at_call 124; refine (below_any _ _ _).mono ?_; rintro e w' ⟨rfl, rfl⟩)
      all_goals first
        | (go_ret; exact ⟨ret_int (by rw [HE.out, HD.out]; simp [sentErr, h1, h2]), bnew hb _⟩)
        | (go_roundw
           case rel => exact ⟨k + 1, by omega, by go_num, by show _ = _; rw [HE.out, HD.out]; simp [sentErr, h1, h2], bnew hb _⟩
           case measure => simp [intOf]; omega)
    · go_wp2_with fail
      go_ret
      refine ⟨ret_int ?_, hb⟩
      rw [HE.out, List.drop_eq_nil_of_le (by omega)]; rfl

set_option maxHeartbeats 400000 in
theorem rule_any (nx : Int) (st : List Out) (S N : Int) (oa : Option Addr) (c : Nat) (F : Foot) (w : World) (hs : SliceR outR 2 F w oa st) (hc : st.length ≤ c) (hc2 : st.length ≤ 9223372036854775807) :
    Calls Try.prog 80 #[.agg #[.int .i64 nx, .slice oa st.length c], .int .i64 S, .int .i64 N] w fun e w' => e = .returned (.int .i64 (ruleErr S N ⟨nx, st⟩)) ∧ Below w.heap.size w w' := by
  go_enter Try.func80, Try.ntmps80
  cases h1 : belowB nx S
  all_goals go_wp2_with (first
    | (go_at_call 124; refine (below_any _ _ _).mono ?_; rintro e w' ⟨rfl, rfl⟩)
    | (go_at_call 82; go_loud (refine (sent_any st N oa c F _ (hs.below outR_ok (bnew (Below.refl _ _) _)) hc hc2).mono ?_; rintro e w2 ⟨rfl, hb2⟩)))
  · go_ret; exact ⟨ret_int (by simp [ruleErr, h1]), bnew (Below.refl _ _) _⟩
  · have hl : ¬ st.length ≤ 16 := by omega
    go_ret; exact ⟨ret_int (by simp [ruleErr, h1, hl]), bnew (Below.refl _ _) _⟩
  · have hl : st.length ≤ 16 := by omega
    go_ret; exact ⟨ret_int (by simp [ruleErr, h1, hl]), below_then (bnew (Below.refl _ _) _) hb2⟩

set_option maxHeartbeats 1000000 in
theorem check_any (S L N : Int) (rs : List (List Rul)) (oa : Option Addr) (c : Nat) (F : Foot) (w : World) (hs : SliceR (slcR ruleR 2) 1 F w oa rs) (hc : rs.length ≤ c) (hc2 : rs.length ≤ 9223372036854775807) :
    Calls Try.prog 31 #[.agg #[.int .i64 S, .int .i64 L, .slice oa rs.length c], .int .i64 N] w fun e w' => e = .returned (.int .i64 (checkErr ⟨S, L, rs⟩ N)) ∧ Below w.heap.size w w' := by
  by_cases h1 : N < 1 ∨ 12 < N
  · have HR : Hid (checkErr ⟨S, L, rs⟩ N = 1) := by show _ = _; simp [checkErr, h1]
    go_enter Try.func31, Try.ntmps31
    go_wp2_with fail
    all_goals (go_ret; exact ⟨ret_int HR.out.symm, bnew (Below.refl _ _) _⟩)
  by_cases h2 : S < 1 ∨ S > 16 ∨ L < 1 ∨ L > 8
  · have HR : Hid (checkErr ⟨S, L, rs⟩ N = 2) := by show _ = _; rw [checkErr, if_neg h1, if_pos h2]
    have h1a : 1 ≤ N := by omega
    have h1b : N ≤ 12 := by omega
    clear h1
    go_enter Try.func31, Try.ntmps31
    go_wp2_with fail
    all_goals first | (go_ret; exact ⟨ret_int HR.out.symm, bnew (Below.refl _ _) _⟩) | (exfalso; omega)
  by_cases h3 : (rs.length : Int) = S
  · subst h3
    have HR : Hid (checkErr ⟨rs.length, L, rs⟩ N = rowsErr rs.length L N rs) := by show _ = _; simp only [checkErr]; rw [if_neg h1, if_neg h2, if_neg (by simp)]
    have h1a : 1 ≤ N := by omega
    have h1b : N ≤ 12 := by omega
    have h2a : 1 ≤ rs.length := by omega
    have h2b : rs.length ≤ 16 := by omega
    have h2c : 1 ≤ L := by omega
    have h2d : L ≤ 8 := by omega
    clear h1 h2
    go_enter Try.func31, Try.ntmps31
    go_wp2_with fail
    clear h1a h1b
    go_loopw [46] (fun i wr => ∃ k : Nat, k ≤ rs.length ∧ i = .int .i64 k ∧ Hid (rowsErr rs.length L N rs = rowsErr rs.length L N (rs.drop k)) ∧
        Below (w.heap.size + 1) (w.alloc (.cells #[.int .i64 rs.length, .int .i64 L, .slice oa rs.length c] 47)) wr) (fun i _ => rs.length - (intOf i).toNat)
    case atStart => exact ⟨0, by omega, rfl, rfl, box_refl _ _⟩
    case round =>
      obtain ⟨k, hk, rfl, HE, hb⟩ := hrel
      have d0 := box_cell hb 0
      have d1 := box_cell hb 1
      have d2 := box_cell hb 2
      simp at d0 d1 d2
      by_cases hlt : k < rs.length
      · obtain ⟨row, hd, _, b, off, oa', c', rfl, _, c0, hcl, hcl2, hsr⟩ := (hs.below rowR_ok (below_box hb)).slc_at hlt
        have HD := hide hd
        clear hd
        by_cases hle : (row.length : Int) = L
        · have ht : ((row.length : Int) != L) = false := by simp [hle]
          have HL := hide hle
          clear hle
          go_wp2_with fail
          obtain ⟨wo, rfl⟩ : ∃ wo : World, wo = wr := ⟨_, rfl⟩
          go_loopw [57] (fun i wr => ∃ j : Nat, j ≤ row.length ∧ i = .int .i64 j ∧ Hid (rowErr rs.length N row = rowErr rs.length N (row.drop j)) ∧
            Below wo.heap.size wo wr) (fun i _ => row.length - (intOf i).toNat)
          case atStart => exact ⟨0, by omega, rfl, rfl, Below.refl _ _⟩
          case round =>
            obtain ⟨j, hj, rfl, HF, hbj⟩ := hrel
            have hbb := box_then hb (by simp) hbj
            have e0 := box_cell hbb 0
            simp at e0
            have hsz : w.heap.size < wr.heap.size := box_lt hbb
            by_cases hlj : j < row.length
            · obtain ⟨nx, sent, hd, _, _, b', off', oa2, c2, rfl, _, c20, c21, hl2, hl22, hss⟩ := (hsr.below ruleR_ok hbj).rule_at hlj
              have HD2 := hide hd
              clear hd
              go_wp2_with fail
              refine (rule_any nx sent _ N oa2 c2 F _ (hss.below outR_ok (bnew (Below.refl _ _) _)) hl2 hl22).mono ?_
              rintro e w2 ⟨rfl, hb2⟩
              have hb3 := below_then (bnew hbj _) hb2
              clear hb2
              by_cases hz : ruleErr rs.length N ⟨nx, sent⟩ = 0
              · have hz1 : (ruleErr rs.length N ⟨nx, sent⟩ != 0) = false := by simp [hz]
                have HZ := hide hz
                clear hz
                go_wp2_with fail
                go_roundw
                case rel => exact ⟨j + 1, by omega, by go_num, by show _ = _; rw [HF.out, HD2.out, rowErr, if_pos HZ.out], hb3⟩
                case measure => simp [intOf]; omega
              · have hz1 : (ruleErr rs.length N ⟨nx, sent⟩ != 0) = true := by simp [hz]
                have HZ := hide hz
                clear hz
                go_wp2_with fail
                go_ret
                refine ⟨ret_int ?_, below_box (box_then hb (by simp) hb3)⟩
                rw [HR.out, HE.out, HD.out, rowsErr, if_pos HL.out, HF.out, HD2.out, rowErr, if_neg HZ.out, if_neg HZ.out]
            · go_wp2_with fail
              go_roundw
              case rel =>
                refine ⟨k + 1, by omega, by go_num, ?_, box_then hb (by simp) hbj⟩
                show _ = _
                have hn : row.drop j = [] := List.drop_eq_nil_of_le (by omega)
                rw [HE.out, HD.out, rowsErr, if_pos HL.out, HF.out, hn, rowErr, if_pos rfl]
              case measure => simp [intOf]; omega
        · have ht : ((row.length : Int) != L) = true := by simp [hle]
          go_wp2_with fail
          go_ret
          exact ⟨ret_int (by rw [HR.out, HE.out, HD.out, rowsErr, if_neg hle]), below_box hb⟩
      · go_wp2_with fail
        go_ret
        exact ⟨ret_int (by rw [HR.out, HE.out, List.drop_eq_nil_of_le (by omega)]; rfl), below_box hb⟩
  · have HR : Hid (checkErr ⟨S, L, rs⟩ N = 8) := by show _ = _; rw [checkErr, if_neg h1, if_neg h2, if_pos h3]
    have h1a : 1 ≤ N := by omega
    have h1b : N ≤ 12 := by omega
    have h2a : 1 ≤ S := by omega
    have h2b : S ≤ 16 := by omega
    have h2c : 1 ≤ L := by omega
    have h2d : L ≤ 8 := by omega
    have h3' : ((rs.length : Int) != S) = true := by simp [h3]
    clear h1 h2 h3
    go_enter Try.func31, Try.ntmps31
    go_wp2_with fail
    go_ret; exact ⟨ret_int HR.out.symm, bnew (Below.refl _ _) _⟩

end Go.Proofs.Ytmjcjmljnliaoaa

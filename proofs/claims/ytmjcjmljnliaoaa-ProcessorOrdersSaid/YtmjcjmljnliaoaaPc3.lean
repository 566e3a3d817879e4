/-
  The walk of the reference of layer 54: Check.
-/
import Derived.Test.YtmjcjmljnliaoaaProg
import Derived.Test.YtmjcjmljnliaoaaPc2
import Derived.Deep.QuietTactic
import Derived.BigQuiet
import Derived.StillTailTactics
set_option linter.unusedVariables false
namespace Go.Proofs.Ytmjcjmljnliaoaa
open Go.RowKit

set_option maxRecDepth 100000 in
set_option maxHeartbeats 1000000 in
theorem rcheck_any (S L N : Int) (rs : List (List Rul)) (oa : Option Addr) (c : Nat) (F : Foot) (w : World) (hs : SliceR (slcR ruleR 2) 1 F w oa rs) (hc : rs.length ≤ c) (hc2 : rs.length ≤ 9223372036854775807) :
    Calls Try.prog 32 #[.agg #[.int .i64 S, .int .i64 L, .slice oa rs.length c], .int .i64 N] w fun e w' => e = .returned (.int .i64 (checkErr ⟨S, L, rs⟩ N)) ∧ Below w.heap.size w w' := by
  by_cases h1 : N < 1 ∨ 12 < N
  · have HR : Hid (checkErr ⟨S, L, rs⟩ N = 1) := by show _ = _; simp [checkErr, h1]
    go_enter Try.func32, Try.ntmps32
    go_wp2_with fail
    all_goals (go_ret; exact ⟨ret_int HR.out.symm, bnew (Below.refl _ _) _⟩)
  by_cases h2 : S < 1 ∨ S > 16 ∨ L < 1 ∨ L > 8
  · have HR : Hid (checkErr ⟨S, L, rs⟩ N = 2) := by show _ = _; rw [checkErr, if_neg h1, if_pos h2]
    have h1a : 1 ≤ N := by omega
    have h1b : N ≤ 12 := by omega
    clear h1
    go_enter Try.func32, Try.ntmps32
    go_wp2_with fail
    all_goals first | (go_ret; exact ⟨ret_int HR.out.symm, bnew (Below.refl _ _) _⟩) | (exfalso; omega)
  by_cases h3 : (rs.length : Int) = S
  · subst h3
    have HR : Hid (checkErr ⟨rs.length, L, rs⟩ N = rowsErr rs.length L N rs) := by show _ = _; simp only [checkErr]; rw [if_neg h1, if_neg h2, if_neg (by simp)]
    have h1a : 1 ≤ N := by omega
    have h1b : N ≤ 12 := by omega
    have h2a : 1 ≤ rs.length := by omega
    have h2b : rs.length ≤ 16 := by omega
    have h2c : 1 ≤ L := by omega
    have h2d : L ≤ 8 := by omega
    clear h1 h2
    go_enter Try.func32, Try.ntmps32
    go_wp2_with fail
    clear h1a h1b
    go_loopw [5] (fun i wr => ∃ k : Nat, k ≤ rs.length ∧ i = .int .i64 k ∧ Hid (rowsErr rs.length L N rs = rowsErr rs.length L N (rs.drop k)) ∧
        Below (w.heap.size + 1) (w.alloc (.cells #[.int .i64 rs.length, .int .i64 L, .slice oa rs.length c] 47)) wr) (fun i _ => rs.length - (intOf i).toNat)
    case atStart => exact ⟨0, by omega, rfl, rfl, box_refl _ _⟩
    case round =>
      obtain ⟨k, hk, rfl, HE, hb⟩ := hrel
      have d0 := box_cell hb 0
      have d1 := box_cell hb 1
      have d2 := box_cell hb 2
      simp at d0 d1 d2
      by_cases hlt : k < rs.length
      · obtain ⟨row, hd, _, b, off, oa', c', rfl, _, c0, hcl, hcl2, hsr⟩ := (hs.below rowR_ok (below_box hb)).slc_at hlt
        have HD := hide hd
        clear hd
        by_cases hle : (row.length : Int) = L
        · have ht : ((row.length : Int) != L) = false := by simp [hle]
          have HL := hide hle
          clear hle
          go_wp2_with fail
          go_quiet (fail)
          have hb1 := below_drewN hb nq
          have hsr1 := hsr.drewN ruleR_ok nq
          have hsz : w.heap.size < (wr.drewN nq).heap.size := box_lt hb1
          have c0' : (wr.drewN nq).cell? ⟨b, off + k, none⟩ = some (.slice oa' row.length c') := c0
          clear hb hsr d0 d1 d2 c0
          generalize wr.drewN nq = wo at *
          go_wp2_with fail
          go_loopw [6] (fun i wr => ∃ j : Nat, j ≤ row.length ∧ i = .int .i64 j ∧ Hid (rowErr rs.length N row = rowErr rs.length N (row.drop j)) ∧
            Below wo.heap.size wo wr) (fun i _ => row.length - (intOf i).toNat)
          case atStart => exact ⟨0, by omega, rfl, rfl, Below.refl _ _⟩
          case round =>
            obtain ⟨j, hj, rfl, HF, hbj⟩ := hrel
            have hbb := box_then hb1 (by simp) hbj
            have e0 := box_cell hbb 0
            have e1 := box_cell hbb 1
            have e2 := box_cell hbb 2
            simp at e0 e1 e2
            have hsz2 : w.heap.size < wr.heap.size := box_lt hbb
            have hlj2 : ((j : Int) < L) = (j < row.length) := by rw [← HL.out]; simp
            by_cases hlj : j < row.length
            · have hlj3 : (j : Int) < L := by rw [hlj2]; exact hlj
              clear hlj2
              obtain ⟨nx, sent, hd, _, _, b', off', oa2, c2, rfl, _, c20, c21, hl2, hl22, hss⟩ := (hsr1.below ruleR_ok hbj).rule_at hlj
              have HD2 := hide hd
              clear hd
              have c0' := (hbj.cell (World.block_lt_of_cell? _ _ c0')).trans c0'
              go_wp2_with fail
              go_still_tail 11, (by kernel_rfl)
              change wpList _ _ _ _ _ wr.drew
              go_wp2_with fail
              refine (rrule_any nx sent _ N oa2 c2 F wr.drew (hss.keep outR_ok (fun _ _ _ => rfl)) hl2 hl22).mono ?_
              rintro e w2 ⟨rfl, hb2⟩
              have hb3 := below_then hbj.drew hb2
              clear hb2
              by_cases hz : ruleErr rs.length N ⟨nx, sent⟩ = 0
              · have hz1 : (ruleErr rs.length N ⟨nx, sent⟩ != 0) = false := by simp [hz]
                have HZ := hide hz
                clear hz
                go_wp2_with fail
                go_roundw
                case rel => exact ⟨j + 1, by omega, by go_num, by show _ = _; rw [HF.out, HD2.out, rowErr, if_pos HZ.out], hb3⟩
                case measure => simp [intOf]; omega
              · have hz1 : (ruleErr rs.length N ⟨nx, sent⟩ != 0) = true := by simp [hz]
                have HZ := hide hz
                clear hz
                go_wp2_with fail
                go_ret
                refine ⟨ret_int ?_, below_box (box_then hb1 (by simp) hb3)⟩
                rw [HR.out, HE.out, HD.out, rowsErr, if_pos HL.out, HF.out, HD2.out, rowErr, if_neg HZ.out, if_neg HZ.out]
            · have hlj3 : ¬ (j : Int) < L := by rw [hlj2]; exact hlj
              clear hlj2
              go_wp2_with fail
              go_roundw
              case rel =>
                refine ⟨k + 1, by omega, by go_num, ?_, box_then hb1 (by simp) hbj⟩
                show _ = _
                have hn : row.drop j = [] := List.drop_eq_nil_of_le (by omega)
                rw [HE.out, HD.out, rowsErr, if_pos HL.out, HF.out, hn, rowErr, if_pos rfl]
              case measure => simp [intOf]; omega
        · have ht : ((row.length : Int) != L) = true := by simp [hle]
          go_wp2_with fail
          go_quiet (fail)
          go_wp2_with fail
          go_ret
          exact ⟨ret_int (by rw [HR.out, HE.out, HD.out, rowsErr, if_neg hle]), below_box (below_drewN hb _)⟩
      · go_wp2_with fail
        go_ret
        exact ⟨ret_int (by rw [HR.out, HE.out, List.drop_eq_nil_of_le (by omega)]; rfl), below_box hb⟩
  · have HR : Hid (checkErr ⟨S, L, rs⟩ N = 8) := by show _ = _; rw [checkErr, if_neg h1, if_neg h2, if_pos h3]
    have h1a : 1 ≤ N := by omega
    have h1b : N ≤ 12 := by omega
    have h2a : 1 ≤ S := by omega
    have h2b : S ≤ 16 := by omega
    have h2c : 1 ≤ L := by omega
    have h2d : L ≤ 8 := by omega
    have h3' : ((rs.length : Int) != S) = true := by simp [h3]
    clear h1 h2 h3
    go_enter Try.func32, Try.ntmps32
    go_wp2_with fail
    go_ret; exact ⟨ret_int HR.out.symm, bnew (Below.refl _ _) _⟩

end Go.Proofs.Ytmjcjmljnliaoaa

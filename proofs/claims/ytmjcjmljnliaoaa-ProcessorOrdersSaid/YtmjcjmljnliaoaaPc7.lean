/-
  letters: the program and the reference; Few.
-/
import Derived.Test.YtmjcjmljnliaoaaProg
import Derived.Test.YtmjcjmljnliaoaaPc2
import Derived.Deep.QuietTactic
import Derived.BigQuiet
import Derived.StillTailTactics
set_option linter.unusedVariables false
namespace Go.Proofs.Ytmjcjmljnliaoaa
open Go.RowKit

def rlettersErr (L : Int) (l : List Int) : Int := if 256 < l.length then 5 else lettersErr L l

theorem quiet_left {P : Program} {f : FuncId} {args : Array Value} {w : World} {n : Nat} {v : Value}
    (h : Calls P f args (w.drewN n) fun e w' => e = .returned v ∧ w.drewN n = w') : Calls P f args (w.drewN n) fun e w' => e = .returned v ∧ ∃ m, w' = w.drewN m :=
  h.mono fun _ _ h => ⟨h.1, n, h.2.symm⟩

set_option maxHeartbeats 400000 in
theorem letters_any (S L : Int) (orr : Option Addr) (nr cr : Nat) (l : List Int) (oa : Option Addr) (c : Nat) (F : Foot) (w : World) (hs : SliceR intR 1 F w oa l) (hc : l.length ≤ c) (hc2 : l.length ≤ 9223372036854775807) (hbl : ∀ n b w, Calls Try.prog 124 #[.int .i64 n, .int .i64 b] w fun e w' => e = .returned (.bool (belowB n b)) ∧ w = w') :
    Calls Try.prog 87 #[.agg #[.int .i64 S, .int .i64 L, .slice orr nr cr], .slice oa l.length c] w fun e w' =>
      e = .returned (.int .i64 (lettersErr L l)) ∧ Below w.heap.size w w' := by
  have HB := hide hbl
  clear hbl
  go_enter Try.func87, Try.ntmps87
  go_wp2_with fail
  have hb0 := box_refl w (.cells #[.int .i64 S, .int .i64 L, .slice orr nr cr] 47)
  have hsr := hs.below intR_ok (below_box hb0)
  have d1 := box_cell hb0 1
  simp at d1
  go_loop [9, 6] (fun i u => ∃ k : Nat, k ≤ l.length ∧ i = .int .i64 k ∧ Hid (lettersErr L l = lettersErr L (l.drop k))) (fun i _ => l.length - (intOf i).toNat)
  case atStart => exact ⟨0, by omega, rfl, rfl⟩
  case round =>
    obtain ⟨k, hk, rfl, HE⟩ := hrel
    by_cases hlt : k < l.length
    · obtain ⟨x, hd, _, _, b, off, rfl, _, c0⟩ := hsr.int_at hlt
      have HD := hide hd
      clear hd hs hsr
      cases hx : belowB x L
      · go_wp2_with (go_at_call 124; refine (HB.out _ _ _).mono ?_; rintro e w' ⟨rfl, rfl⟩)
        go_ret
        exact ⟨ret_int (by rw [HE.out, HD.out]; simp [lettersErr, hx]), bnew (Below.refl _ _) _⟩
      · go_wp2_with (go_at_call 124; refine (HB.out _ _ _).mono ?_; rintro e w' ⟨rfl, rfl⟩)
        go_round
        case rel => exact ⟨k + 1, by omega, by go_num, by show _ = _; rw [HE.out, HD.out]; simp [lettersErr, hx]⟩
        case measure => simp [intOf]; omega
    · go_wp2_with fail
      go_ret
      exact ⟨ret_int (by rw [HE.out, List.drop_eq_nil_of_le (by omega)]; rfl), bnew (Below.refl _ _) _⟩

set_option maxHeartbeats 400000 in
theorem rletters_any (S L : Int) (orr : Option Addr) (nr cr : Nat) (l : List Int) (oa : Option Addr) (c : Nat) (F : Foot) (w : World) (hs : SliceR intR 1 F w oa l) (hc : l.length ≤ c) (hc2 : l.length ≤ 9223372036854775807) :
    Calls Try.prog 93 #[.agg #[.int .i64 S, .int .i64 L, .slice orr nr cr], .slice oa l.length c] w fun e w' =>
      e = .returned (.int .i64 (rlettersErr L l)) ∧ Below w.heap.size w w' := by
  by_cases hbig : 256 < l.length
  · have HR : Hid (rlettersErr L l = 5) := if_pos hbig
    go_enter Try.func93, Try.ntmps93
    go_wp2_with fail
    go_ret; exact ⟨ret_int HR.out.symm, bnew (Below.refl _ _) _⟩
  have HR : Hid (rlettersErr L l = lettersErr L l) := if_neg hbig
  have hsm : l.length ≤ 256 := by omega
  clear hbig
  go_enter Try.func93, Try.ntmps93
  go_wp2_with fail
  go_loopw [5] (fun i wr => ∃ k : Nat, k ≤ l.length ∧ i = .int .i64 k ∧ Hid (lettersErr L l = lettersErr L (l.drop k)) ∧
     Below (w.heap.size + 1) (w.alloc (.cells #[.int .i64 S, .int .i64 L, .slice orr nr cr] 47)) wr) (fun i _ => l.length - (intOf i).toNat)
  case atStart => exact ⟨0, by omega, rfl, rfl, box_refl _ _⟩
  case round =>
    obtain ⟨k, hk, rfl, HE, hb⟩ := hrel
    have d1 := box_cell hb 1
    simp at d1
    by_cases hlt : k < l.length
    · obtain ⟨x, hd, _, _, b, off, rfl, _, c0⟩ := (hs.below intR_ok (below_box hb)).int_at hlt
      have HD := hide hd
      clear hd hs
      cases hx : belowB x L
      · go_wp2_with fail
        go_quiet ((go_at_call 84; exact quiet_left (within_any _ _ _)))
        go_wp2_with fail
        go_ret
        exact ⟨ret_int (by rw [HR.out, HE.out, HD.out]; simp [lettersErr, hx]), below_box (below_drewN hb _)⟩
      · go_wp2_with fail
        go_quiet ((go_at_call 84; exact quiet_left (within_any _ _ _)))
        go_wp2_with fail
        go_roundw
        case rel => exact ⟨k + 1, by omega, by go_num, by show _ = _; rw [HE.out, HD.out]; simp [lettersErr, hx], below_drewN hb _⟩
        case measure => simp [intOf]; omega
    · go_wp2_with fail
      go_ret
      exact ⟨ret_int (by rw [HR.out, HE.out, List.drop_eq_nil_of_le (by omega)]; rfl), below_box hb⟩

set_option maxHeartbeats 400000 in
theorem few_any (S L : Int) (rs : List (List Rul)) (oa : Option Addr) (c : Nat) (F : Foot) (w : World) (hs : SliceR (slcR ruleR 2) 1 F w oa rs) (hc : rs.length ≤ c) (hc2 : rs.length ≤ 9223372036854775807) :
    Calls Try.prog 27 #[.agg #[.int .i64 S, .int .i64 L, .slice oa rs.length c]] w (SomeBool w) := by
  go_enter Try.func27, Try.ntmps27
  go_wp2_with fail
  have hb0 := box_refl w (.cells #[.int .i64 S, .int .i64 L, .slice oa rs.length c] 47)
  have hsr := hs.below rowR_ok (below_box hb0)
  have d2 := box_cell hb0 2
  simp at d2
  go_loop [3] (fun i => ∃ k : Nat, k ≤ rs.length ∧ i = .int .i64 k) (fun i => rs.length - (intOf i).toNat)
  case atStart => exact ⟨0, by omega, rfl⟩
  case round =>
    obtain ⟨k, hk, rfl⟩ := hrel
    by_cases hlt : k < rs.length
    · obtain ⟨row, _, _, b, off, oa', c', rfl, _, c0, hcl, hcl2, hsr2⟩ := hsr.slc_at hlt
      by_cases h20 : k < 20
      · go_wp2_with fail
        go_loop [4] (fun i => ∃ j : Nat, j ≤ row.length ∧ i = .int .i64 j) (fun i => row.length - (intOf i).toNat)
        case atStart => exact ⟨0, by omega, rfl⟩
        case round =>
          obtain ⟨j, hj, rfl⟩ := hrel
          by_cases hlj : j < row.length
          · obtain ⟨nx, sent, _, _, _, b', off', oa2, c2, rfl, _, c20, c21, hl2, hl22, hss⟩ := hsr2.rule_at hlj
            by_cases h12 : j < 12
            · by_cases h40 : 40 < sent.length
              · go_wp2_with fail
                go_ret
                exact ⟨_, rfl, bnew (Below.refl _ _) _⟩
              · go_wp2_with fail
                go_round
                case rel => exact ⟨j + 1, by omega, by go_num⟩
                case measure => simp [intOf]; omega
            · have hbig : 12 < row.length := by omega
              go_wp2_with fail
              go_ret
              exact ⟨_, rfl, bnew (Below.refl _ _) _⟩
          · go_wp2_with fail
            all_goals first
              | (go_ret; exact ⟨_, rfl, bnew (Below.refl _ _) _⟩)
              | (go_round
                 case rel => exact ⟨k + 1, by omega, by go_num⟩
                 case measure => simp [intOf]; omega)
      · go_wp2_with fail
        go_ret
        exact ⟨_, rfl, bnew (Below.refl _ _) _⟩
    · go_wp2_with fail
      go_ret
      exact ⟨_, rfl, bnew (Below.refl _ _) _⟩

end Go.Proofs.Ytmjcjmljnliaoaa

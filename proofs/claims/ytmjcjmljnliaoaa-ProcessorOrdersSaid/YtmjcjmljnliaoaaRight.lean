/-
  right: whether a processor, a state and a word are right and small.
-/
import Derived.Test.YtmjcjmljnliaoaaWRuns
set_option linter.unusedVariables false
namespace Go.Proofs.Ytmjcjmljnliaoaa
open Go.RowKit

theorem rightFn_any (x L : Int) (kb : Nat) (w : World) (hc : w.cell? ⟨kb, 1, none⟩ = some (.int .i64 L)) :
    Calls Try.prog 95 #[.int .i64 x, .pointer (some ⟨kb, 0, none⟩)] w fun e w' => e = .returned (.bool (!belowB x L)) ∧ w = w' := by
  by_cases h1 : x < 0
  · go_enter Try.func95, Try.ntmps95
    go_wp2_with fail
    go_ret
    exact ⟨ret_bool (by simp [belowB]; omega), rfl⟩
  · go_enter Try.func95, Try.ntmps95
    go_wp2_with fail
    go_ret
    exact ⟨ret_bool (by have h0 : 0 ≤ x := by omega
                        by_cases h : x < L
                        · simp [belowB, h, h0]
                        · simp [belowB, h, h0]; omega), rfl⟩

theorem indexFn_any (L : Int) (kb : Nat) (l : List Int) (oa : Option Addr) (c : Nat) (F : Foot) (w : World) (hs : SliceR intR 1 F w oa l) (hc : l.length ≤ c) (hc2 : l.length ≤ 9223372036854775807) (hcell : w.cell? ⟨kb, 1, none⟩ = some (.int .i64 L)) :
    Calls Try.prog 112 #[.slice oa l.length c, .func (.func 95) #[] #[.pointer (some ⟨kb, 0, none⟩)]] w fun e w' =>
      ∃ r : Int, e = .returned (.int .i64 r) ∧ (0 ≤ r ↔ lettersErr L l ≠ 0) ∧ w = w' := by
  have HC := hide hcell
  clear hcell
  go_enter Try.func112, Try.ntmps112
  go_wp2_with fail
  go_loop [8] (fun i => ∃ k : Nat, k ≤ l.length ∧ i = .int .i64 k ∧ Hid (lettersErr L l = lettersErr L (l.drop k))) (fun i => l.length - (intOf i).toNat)
  case atStart => exact ⟨0, by omega, rfl, rfl⟩
  case round =>
    obtain ⟨k, hk, rfl, HE⟩ := hrel
    by_cases hlt : k < l.length
    · obtain ⟨x, hd, _, _, b, off, rfl, _, c0⟩ := hs.int_at hlt
      have HD := hide hd
      clear hd hs
      cases hx : belowB x L
      · go_wp2_with (go_at_call 95; refine (rightFn_any _ _ _ _ HC.out).mono ?_; rintro e w' ⟨rfl, rfl⟩)
        go_ret
        refine ⟨_, rfl, ?_, rfl⟩
        rw [HE.out, HD.out]
        simp [lettersErr, hx]
      · go_wp2_with (go_at_call 95; refine (rightFn_any _ _ _ _ HC.out).mono ?_; rintro e w' ⟨rfl, rfl⟩)
        go_round
        case rel => exact ⟨k + 1, by omega, by go_num, by show _ = _; rw [HE.out, HD.out]; simp [lettersErr, hx]⟩
        case measure => simp [intOf]; omega
    · go_wp2_with fail
      go_ret
      refine ⟨_, rfl, ?_, rfl⟩
      rw [HE.out, List.drop_eq_nil_of_le (by omega)]
      simp [lettersErr]

theorem containsFn_any (L : Int) (kb : Nat) (l : List Int) (oa : Option Addr) (c : Nat) (F : Foot) (w : World) (hs : SliceR intR 1 F w oa l) (hc : l.length ≤ c) (hc2 : l.length ≤ 9223372036854775807) (hcell : w.cell? ⟨kb, 1, none⟩ = some (.int .i64 L)) :
    Calls Try.prog 62 #[.slice oa l.length c, .func (.func 95) #[] #[.pointer (some ⟨kb, 0, none⟩)]] w fun e w' =>
      e = .returned (.bool (!decide (lettersErr L l = 0))) ∧ w = w' := by
  have HC := hide hcell
  clear hcell
  go_enter Try.func62, Try.ntmps62
  go_wp2_with fail
  refine (indexFn_any L kb l oa c F w hs hc hc2 HC.out).mono ?_
  rintro e w' ⟨r, rfl, h1, rfl⟩
  have H1 := hide h1
  clear h1
  go_wp2_with fail
  go_ret
  refine ⟨ret_bool ?_, rfl⟩
  have h1 := H1.out
  by_cases h : lettersErr L l = 0 <;> simp [h] at h1 ⊢ <;> omega

def RightP (S L s : Int) (rs : List (List Rul)) (word : List Int) : Prop := checkErr ⟨S, L, rs⟩ 12 = 0 ∧ (0 ≤ s ∧ s < S) ∧ word.length ≤ 40 ∧ lettersErr L word = 0

set_option maxHeartbeats 1000000 in
theorem right_any (S L s : Int) (rs : List (List Rul)) (oa : Option Addr) (c : Nat) (word : List Int) (ob : Option Addr) (d : Nat) (F G : Foot) (w : World) (hs : SliceR (slcR ruleR 2) 1 F w oa rs) (hc : rs.length ≤ c) (hc2 : rs.length ≤ 9223372036854775807) (hw : SliceR intR 1 G w ob word) (hd : word.length ≤ d) (hd2 : word.length ≤ 9223372036854775807) :
    Calls Try.prog 45 #[.agg #[.int .i64 S, .int .i64 L, .slice oa rs.length c], .int .i64 s, .slice ob word.length d] w fun e w' =>
      ∃ b, e = .returned (.bool b) ∧ (b = true → RightP S L s rs word) ∧ Below w.heap.size w w' := by
  go_enter Try.func45, Try.ntmps45
  go_wp2_with fail
  refine (few_any S L rs oa c F _ (hs.below rowR_ok (bnew (Below.refl _ _) _)) hc hc2).mono ?_
  rintro e w2 ⟨b, rfl, hb2⟩
  have hx := hb2.mono (B' := w.heap.size + 1) (by simp)
  clear hb2
  have d0 := box_cell hx 0
  have d1 := box_cell hx 1
  have d2 := box_cell hx 2
  simp at d0 d1 d2
  cases b with
  | false =>
    go_wp2_with fail
    go_ret
    exact ⟨_, rfl, (fun h => by cases h), below_box hx⟩
  | true =>
  go_wp2_with fail
  refine (rcheck_any S L 12 rs oa c F _ (hs.below rowR_ok (below_box hx)) hc hc2).mono ?_
  rintro e w3 ⟨rfl, hb3⟩
  have hx := box_then hx (by simp) hb3
  have d0 := box_cell hx 0
  have d1 := box_cell hx 1
  have d2 := box_cell hx 2
  simp at d0 d1 d2
  clear hb3
  by_cases hz : checkErr ⟨S, L, rs⟩ 12 = 0
  case neg =>
    have hz1 := not_err hz
    clear hz
    go_wp2_with fail
    go_ret
    exact ⟨_, rfl, (fun h => by cases h), below_box hx⟩
  have hz1 := is_err hz
  have HZ := hide hz
  clear hz
  by_cases h1 : s < 0
  · go_wp2_with fail
    go_ret
    exact ⟨_, rfl, (fun h => by cases h), below_box hx⟩
  by_cases h2 : S ≤ s
  · go_wp2_with fail
    go_ret
    exact ⟨_, rfl, (fun h => by cases h), below_box hx⟩
  by_cases h3 : 40 < word.length
  · go_wp2_with fail
    go_ret
    exact ⟨_, rfl, (fun h => by cases h), below_box hx⟩
  go_wp2_with fail
  refine (containsFn_any L w.heap.size word ob d G _ (hw.below intR_ok (below_box hx)) hd hd2 d1).mono ?_
  rintro e w4 ⟨rfl, rfl⟩
  go_wp2_with fail
  go_ret
  refine ⟨_, rfl, (fun h => ⟨HZ.out, by omega, by omega, by simpa using h⟩), below_box hx⟩

end Go.Proofs.Ytmjcjmljnliaoaa

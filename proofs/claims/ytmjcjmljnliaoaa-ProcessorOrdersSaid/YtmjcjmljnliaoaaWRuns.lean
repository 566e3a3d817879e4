/-
  The walk of ProcessorRuns.
-/
import Derived.Test.YtmjcjmljnliaoaaAwake
set_option linter.unusedVariables false
namespace Go.Proofs.Ytmjcjmljnliaoaa
open Go.RowKit

theorem OwnS.bound {α : Type} {R : Rep α} {sz base : Nat} {e : TypeId} {F : Foot} {w : World} {v : Value} {xs : List α} (h : OwnS R sz base e F w v xs) : xs.length ≤ 9223372036854775807 := by
  obtain ⟨cells, ho, _⟩ := h
  rcases ho.2 with ⟨_, hn⟩ | ⟨g, cap, cur, _, _, _, hle, hm, _⟩
  · omega
  · unfold maxLen at hm; omega

set_option maxRecDepth 100000 in
set_option maxHeartbeats 4000000 in
theorem runs_walk (w : World) (S L : Int) (rs : List (List Rul)) (oa : Option Addr) (c : Nat) (_ : I64 S) (_ : I64 L) (hc : rs.length ≤ c) (hc2 : rs.length ≤ 9223372036854775807) (hs : SliceR (slcR ruleR 2) 1 All w oa rs)
    (s : Int) (_ : I64 s) (word : List Int) (ob : Option Addr) (d : Nat) (hd : word.length ≤ d) (hd2 : word.length ≤ 9223372036854775807) (hw : SliceR intR 1 All w ob word) :
    Calls Try.prog 8 #[.agg #[.int .i64 S, .int .i64 L, .slice oa rs.length c], .int .i64 s, .slice ob word.length d] w fun e w' => e = .returned (.bool true) ∧ Below w.heap.size w w' := by
  go_enter Try.func8, Try.ntmps8
  go_wp2_with fail
  refine (few_any S L rs oa c All _ (hs.below rowR_ok (bnew (Below.refl _ _) _)) hc hc2).mono ?_
  rintro e w2 ⟨b, rfl, hb2⟩
  have hx := hb2.mono (B' := w.heap.size + 1) (by simp)
  clear hb2
  have d0 := box_cell hx 0
  have d1 := box_cell hx 1
  have d2 := box_cell hx 2
  simp at d0 d1 d2
  cases b with
  | false =>
    go_wp2_with fail
    refine (awake_any _).mono ?_
    rintro e w3 ⟨rfl, hb3⟩
    go_wp2_with fail
    go_ret
    exact ⟨rfl, below_box (box_then hx (by simp) hb3)⟩
  | true =>
  by_cases hmid : 40 < word.length ∧ word.length ≤ 256
  · have h1 := hmid.1
    have h2 := hmid.2
    clear hmid
    go_wp2_with fail
    refine (awake_any _).mono ?_
    rintro e w3 ⟨rfl, hb3⟩
    go_wp2_with fail
    go_ret
    exact ⟨rfl, below_box (box_then hx (by simp) hb3)⟩
  obtain ⟨a, ia, hcase⟩ : ∃ a : Int, I64 a ∧ ((word.length = 0 ∧ a = 0) ∨ (0 < word.length ∧ word[0]? = some a)) := by
    rcases Nat.eq_zero_or_pos word.length with h | h
    · exact ⟨0, by unfold I64; omega, .inl ⟨h, rfl⟩⟩
    · obtain ⟨x, _, h1, h2, _⟩ := hw.int_at h
      exact ⟨x, h2, .inr ⟨h, h1⟩⟩
  have HC := hide hcase
  clear hcase
  have hdec : Hid ((decide (40 < (word.length : Int)) && decide ((word.length : Int) ≤ 256)) = false) := by show _ = _; simp; omega
  have h40 : word.length ≤ 40 ∨ (40 < word.length ∧ 256 < word.length) := by omega
  clear hmid
  rcases h40 with h40 | ⟨h41, h42⟩
  all_goals
    go_wp2_with fail
    refine (run_any S L s rs oa c word ob d All All _ (hs.below rowR_ok (below_box hx)) hc hc2 (hw.below intR_ok (below_box hx)) hd hd2).mono ?_
    rintro e w3 ⟨v, rfl, ho, hb3⟩
    obtain ⟨oa1, c1, rfl, hc1, hx1⟩ := ho.slice outR_ok
    have hl1 := ho.bound
    have hx := box_then hx (by simp) hb3
    have d0 := box_cell hx 0
    have d1 := box_cell hx 1
    have d2 := box_cell hx 2
    simp at d0 d1 d2
    clear hb3 ho
    generalize hr : runRes ⟨S, L, rs⟩ s word = r1 at hc1 hx1 hl1 ⊢
    have HR := hide hr
    clear hr
    obtain ⟨t1, l1, e1⟩ := r1
    go_wp2_with fail
    refine (rrun_any S L s rs oa c word ob d All All _ (hs.below rowR_ok (below_box hx)) hc hc2 (hw.below intR_ok (below_box hx)) hd hd2).mono ?_
    rintro e w4 ⟨v, he, ho, hb3⟩
    rw [HR.out] at he ho
    subst he
    obtain ⟨oa2, c2, rfl, hc2', hx2⟩ := ho.slice outR_ok
    have hx1 := hx1.below outR_ok hb3
    have hx := box_then hx (by simp) hb3
    have d0 := box_cell hx 0
    have d1 := box_cell hx 1
    have d2 := box_cell hx 2
    simp at d0 d1 d2
    clear hb3 ho
    rcases HC.out with ⟨hz0, rfl⟩ | ⟨hz0, hz1⟩
    · first
        | (exfalso; omega)
        | (obtain rfl : word = [] := List.eq_nil_of_length_eq_zero hz0
           go_wp2_with fail
           refine (step_any S L s 0 rs oa c All _ (hs.below rowR_ok (below_box hx)) hc hc2 ia).mono ?_
           rintro e w5 ⟨v, rfl, ho, hb3⟩
           obtain ⟨oa3, c3, rfl, hc3, hx3⟩ := ho.slice outR_ok
           have hl3 := ho.bound
           have hx1 := hx1.below outR_ok hb3
           have hx2 := hx2.below outR_ok hb3
           have hx := box_then hx (by simp) hb3
           have d0 := box_cell hx 0
           have d1 := box_cell hx 1
           have d2 := box_cell hx 2
           simp at d0 d1 d2
           clear hb3 ho
           generalize hr : stepRes ⟨S, L, rs⟩ s 0 = r2 at hc3 hx3 hl3 ⊢
           have HR2 := hide hr
           clear hr
           obtain ⟨t2, l2, e2⟩ := r2
           go_wp2_with fail
           refine (rstep_any S L s 0 rs oa c All _ (hs.below rowR_ok (below_box hx)) hc hc2 ia).mono ?_
           rintro e w6 ⟨v, he, ho, hb3⟩
           rw [HR2.out] at he ho
           subst he
           obtain ⟨oa4, c4, rfl, hc4, hx4⟩ := ho.slice outR_ok
           have hx1 := hx1.below outR_ok hb3
           have hx2 := hx2.below outR_ok hb3
           have hx3 := hx3.below outR_ok hb3
           have hbb := below_box (box_then hx (by simp) hb3)
           clear hb3 ho hx d0 d1 d2 hs hw
           go_wp2_with fail
           refine (awake_any _).mono ?_
           rintro e w7 ⟨rfl, hb3⟩
           have hx1 := hx1.below outR_ok hb3
           have hx2 := hx2.below outR_ok hb3
           have hx3 := hx3.below outR_ok hb3
           have hx4 := hx4.below outR_ok hb3
           have hbb := below_then hbb hb3
           clear hb3
           go_wp2_with fail
           refine (sameOutputs_any l1 l1 oa1 oa2 c1 c2 (fun _ => True) _ (hx1.all outR_ok (by omega)) (hx2.all outR_ok (by omega)) hc1 hl1).mono ?_
           rintro e w8 ⟨rfl, hb3⟩
           have hx3 := hx3.below outR_ok hb3
           have hx4 := hx4.below outR_ok hb3
           have hbb := below_then hbb hb3
           clear hb3 hx1 hx2
           go_wp2_with fail
           refine (sameOutputs_any l2 l2 oa3 oa4 c3 c4 (fun _ => True) _ (hx3.all outR_ok (by omega)) (hx4.all outR_ok (by omega)) hc3 hl3).mono ?_
           rintro e w9 ⟨rfl, hb3⟩
           have hbb := below_then hbb hb3
           clear hb3 hx3 hx4
           go_wp2_with fail
           go_ret
           exact ⟨rfl, hbb⟩)
    · obtain ⟨x, _, hq1, _, bq, offq, rfl, _, cq⟩ := (hw.below intR_ok (below_box hx)).int_at hz0
      rw [hq1] at hz1
      injection hz1 with hz1
      subst hz1
      simp at cq
      go_wp2_with fail
      refine (step_any S L s x rs oa c All _ (hs.below rowR_ok (below_box hx)) hc hc2 ia).mono ?_
      rintro e w5 ⟨v, rfl, ho, hb3⟩
      obtain ⟨oa3, c3, rfl, hc3, hx3⟩ := ho.slice outR_ok
      have hl3 := ho.bound
      have hx1 := hx1.below outR_ok hb3
      have hx2 := hx2.below outR_ok hb3
      have hx := box_then hx (by simp) hb3
      have d0 := box_cell hx 0
      have d1 := box_cell hx 1
      have d2 := box_cell hx 2
      simp at d0 d1 d2
      clear hb3 ho
      generalize hr : stepRes ⟨S, L, rs⟩ s x = r2 at hc3 hx3 hl3 ⊢
      have HR2 := hide hr
      clear hr
      obtain ⟨t2, l2, e2⟩ := r2
      go_wp2_with fail
      refine (rstep_any S L s x rs oa c All _ (hs.below rowR_ok (below_box hx)) hc hc2 ia).mono ?_
      rintro e w6 ⟨v, he, ho, hb3⟩
      rw [HR2.out] at he ho
      subst he
      obtain ⟨oa4, c4, rfl, hc4, hx4⟩ := ho.slice outR_ok
      have hx1 := hx1.below outR_ok hb3
      have hx2 := hx2.below outR_ok hb3
      have hx3 := hx3.below outR_ok hb3
      have hbb := below_box (box_then hx (by simp) hb3)
      clear hb3 ho hx d0 d1 d2 hs hw
      go_wp2_with fail
      refine (awake_any _).mono ?_
      rintro e w7 ⟨rfl, hb3⟩
      have hx1 := hx1.below outR_ok hb3
      have hx2 := hx2.below outR_ok hb3
      have hx3 := hx3.below outR_ok hb3
      have hx4 := hx4.below outR_ok hb3
      have hbb := below_then hbb hb3
      clear hb3
      go_wp2_with fail
      refine (sameOutputs_any l1 l1 oa1 oa2 c1 c2 (fun _ => True) _ (hx1.all outR_ok (by omega)) (hx2.all outR_ok (by omega)) hc1 hl1).mono ?_
      rintro e w8 ⟨rfl, hb3⟩
      have hx3 := hx3.below outR_ok hb3
      have hx4 := hx4.below outR_ok hb3
      have hbb := below_then hbb hb3
      clear hb3 hx1 hx2
      go_wp2_with fail
      refine (sameOutputs_any l2 l2 oa3 oa4 c3 c4 (fun _ => True) _ (hx3.all outR_ok (by omega)) (hx4.all outR_ok (by omega)) hc3 hl3).mono ?_
      rintro e w9 ⟨rfl, hb3⟩
      have hbb := below_then hbb hb3
      clear hb3 hx3 hx4
      go_wp2_with fail
      go_ret
      exact ⟨rfl, hbb⟩

end Go.Proofs.Ytmjcjmljnliaoaa

/-
  The walk of ProcessorReads.
-/
import Derived.Test.YtmjcjmljnliaoaaMany
import Derived.Deep.DeepCutAuto
set_option linter.unusedVariables false
namespace Go.Proofs.Ytmjcjmljnliaoaa
open Go.RowKit

set_option maxRecDepth 100000 in
set_option maxHeartbeats 2000000 in
theorem rmany_any (S L s : Int) (rs : List (List Rul)) (oa : Option Addr) (c : Nat) (l : List Int) (ob : Option Addr) (d : Nat) (w : World) (hs : SliceR (slcR ruleR 2) 1 All w oa rs) (hc : rs.length ≤ c) (hc2 : rs.length ≤ 9223372036854775807)
    (hw : SliceR intR 1 All w ob l) (hd : l.length ≤ d) (hd2 : l.length ≤ 1000000) :
    Calls Try.prog 49 #[.agg #[.int .i64 S, .int .i64 L, .slice oa rs.length c], .int .i64 s, .slice ob l.length d] w (OutsPost w (manyRes ⟨S, L, rs⟩ s l)) := by
  go_enter Try.func49, Try.ntmps49
  go_wp2_with fail
  refine (rstate_any S L s rs oa c All _ (hs.below rowR_ok (bnew (Below.refl _ _) _)) hc hc2).mono ?_
  rintro e w2 ⟨rfl, hb2⟩
  have hx2 := hb2.mono (B' := w.heap.size + 1) (by simp)
  have d0 := box_cell hx2 0
  have d1 := box_cell hx2 1
  have d2 := box_cell hx2 2
  simp at d0 d1 d2
  clear hb2
  by_cases hz : stateErr ⟨S, L, rs⟩ s = 0
  case neg =>
    have hz1 := not_err hz
    have HZ : Hid (manyRes ⟨S, L, rs⟩ s l = (0, [], stateErr ⟨S, L, rs⟩ s)) := by show _ = _; simp [manyRes, hz]
    clear hz
    go_wp2_with fail
    go_ret3
    exact ⟨_, by rw [HZ.out]; rfl, by rw [HZ.out]; exact OwnS.nil _ _ _ _ _ _, below_box hx2⟩
  have hz1 := is_err hz
  have HZ := hide hz
  clear hz
  have HST := state_zero HZ.out
  have HV := hide HST.1
  have HSS := hide HST.2
  clear HST
  go_wp2_with fail
  refine (rcounted_any S L oa rs.length c l ob d All _ (hw.below intR_ok (below_box hx2)) hd hd2).mono ?_
  rintro e w3 ⟨rfl, hb3⟩
  have hx3 := box_then hx2 (by simp) hb3
  have d0 := box_cell hx3 0
  have d1 := box_cell hx3 1
  have d2 := box_cell hx3 2
  simp at d0 d1 d2
  clear hb3 hx2
  by_cases hz : manyErr L l = 0
  case neg =>
    have hz2 := not_err hz
    have HR : Hid (manyRes ⟨S, L, rs⟩ s l = (0, [], manyErr L l)) := by show _ = _; simp [manyRes, HZ.out, hz]
    clear hz
    go_wp2_with fail
    go_ret3
    exact ⟨_, by rw [HR.out]; rfl, by rw [HR.out]; exact OwnS.nil _ _ _ _ _ _, below_box hx3⟩
  have hz2 := is_err hz
  have hm : (l.length : Int) = L ∧ (wordFrom 0 l).length ≤ 256 := by
    unfold manyErr at hz
    split at hz
    · split at hz
      · cases hz
      · split at hz
        · cases hz
        · exact ⟨by assumption, by omega⟩
    · cases hz
  have HM := hide hm
  have HZ2 := hide hz
  clear hz hm
  have HLT : Hid (lettersErr L (wordFrom 0 l) = 0) := letters_mem (wordFrom_letters l 0 L (by have := HM.out.1; simp; omega))
  have HRD := hide (readSpec_right HV.out (wordFrom 0 l) s HSS.out HLT.out)
  have HR : Hid (manyRes ⟨S, L, rs⟩ s l = ((readSpec rs s (wordFrom 0 l)).1, isort (readSpec rs s (wordFrom 0 l)).2, 0)) := by
    show _ = _; simp only [manyRes, HZ.out, HZ2.out]; rfl
  have hwl : (wordFrom 0 l).length ≤ 256 := HM.out.2
  generalize hwd : wordFrom 0 l = wd at *
  have HWD := hide hwd
  clear hwd
  go_upto_region 7 with fail
  go_cut [11, 12] (fun s11 s12 wx => ∃ oo co, s11 = .int .i64 (readSpec rs s wd).1 ∧ s12 = .slice oo (readSpec rs s wd).2.length co ∧ (readSpec rs s wd).2.length ≤ co ∧ SliceR outR 2 All wx oo (readSpec rs s wd).2 ∧ Below (w.heap.size + 1) (w.alloc (.cells #[.int .i64 S, .int .i64 L, .slice oa rs.length c] 47)) wx)
  case first =>
    go_region_held3 (fun w' => w'.cell? ⟨w.heap.size, 0, none⟩ = some (.int .i64 S) ∧ w'.cell? ⟨w.heap.size, 1, none⟩ = some (.int .i64 L) ∧ w'.cell? ⟨w.heap.size, 2, none⟩ = some (.slice oa rs.length c)) (first | exact ⟨d0, d1, d2⟩)
      (first
        | (go_at_call 100; refine (rword_any l ob d All _ (hw.below intR_ok (below_box hx3.drew)) hd hd2 (by rw [HWD.out]; omega)).mono ?_; rintro e w4 ⟨v4, rfl, ho4, hb4⟩; rw [HWD.out] at ho4; obtain ⟨ow, cw, rfl, hcw, hslw⟩ := ho4.slice intR_ok; have d0 := (hb4.cell (World.block_lt_of_cell? _ _ d0)).trans d0; have d1 := (hb4.cell (World.block_lt_of_cell? _ _ d1)).trans d1; have d2 := (hb4.cell (World.block_lt_of_cell? _ _ d2)).trans d2; have hx4 := box_then hx3.drew (by simp) hb4)
        | (go_at_call 94; refine (rread_any S L rs oa c s wd ow cw All _ _ (hs.below rowR_ok (below_box hx4)) hslw HV HSS.out HLT (by omega)).mono ?_; rintro e w5 ⟨v5, rfl, ho5, hb5⟩; obtain ⟨oo, co, rfl, hco, hslo⟩ := ho5.slice outR_ok; have d0 := (hb5.cell (World.block_lt_of_cell? _ _ d0)).trans d0; have d1 := (hb5.cell (World.block_lt_of_cell? _ _ d1)).trans d1; have d2 := (hb5.cell (World.block_lt_of_cell? _ _ d2)).trans d2))
    all_goals
      go_wp2_with fail
      go_meet
      exact ⟨oo, co, rfl, rfl, hco, hslo.all outR_ok (by omega), box_then hx4 (by simp) hb5⟩
  case rest =>
    obtain ⟨oo, co, rfl, rfl, hco, hslo, hx5⟩ := hcut
    go_wp2_with fail
    refine (orderR_any (readSpec rs s wd).2 oo co All _ hslo hco (by have := HRD.out.2.1; omega) HRD.out.2.2).mono ?_
    rintro e w5 ⟨v5, rfl, ho5, hb5⟩
    go_wp2_with fail
    go_ret3
    exact ⟨v5, by rw [HR.out]; rfl, by rw [HR.out]; exact ho5.rebase (below_box hx5).size, below_then (below_box hx5) hb5⟩

set_option maxRecDepth 100000 in
set_option maxHeartbeats 4000000 in
theorem reads_walk (w : World) (S L : Int) (rs : List (List Rul)) (oa : Option Addr) (c : Nat) (_ : I64 S) (_ : I64 L) (hc : rs.length ≤ c) (hc2 : rs.length ≤ 9223372036854775807) (hs : SliceR (slcR ruleR 2) 1 All w oa rs)
    (s : Int) (_ : I64 s) (l : List Int) (ob : Option Addr) (d : Nat) (hd : l.length ≤ d) (hd2 : l.length ≤ 9223372036854775807) (hw : SliceR intR 1 All w ob l) :
    Calls Try.prog 10 #[.agg #[.int .i64 S, .int .i64 L, .slice oa rs.length c], .int .i64 s, .slice ob l.length d] w fun e w' => e = .returned (.bool true) ∧ Below w.heap.size w w' := by
  go_enter Try.func10, Try.ntmps10
  go_wp2_with fail
  refine (few_any S L rs oa c All _ (hs.below rowR_ok (bnew (Below.refl _ _) _)) hc hc2).mono ?_
  rintro e w2 ⟨b, rfl, hb2⟩
  have hx := hb2.mono (B' := w.heap.size + 1) (by simp)
  clear hb2
  have d0 := box_cell hx 0
  have d1 := box_cell hx 1
  have d2 := box_cell hx 2
  simp at d0 d1 d2
  cases b with
  | false =>
    go_wp2_with fail
    refine (awake_any _).mono ?_
    rintro e w3 ⟨rfl, hb3⟩
    go_wp2_with fail
    go_ret
    exact ⟨rfl, below_box (box_then hx (by simp) hb3)⟩
  | true =>
  by_cases h60 : 60 < l.length
  · go_wp2_with fail
    refine (awake_any _).mono ?_
    rintro e w3 ⟨rfl, hb3⟩
    go_wp2_with fail
    go_ret
    exact ⟨rfl, below_box (box_then hx (by simp) hb3)⟩
  go_wp2_with fail
  refine (many_any S L s rs oa c l ob d _ (hs.below rowR_ok (below_box hx)) hc hc2 (hw.below intR_ok (below_box hx)) hd (by omega)).mono ?_
  rintro e w3 ⟨v, rfl, ho, hb3⟩
  obtain ⟨oa1, c1, rfl, hc1, hx1⟩ := ho.slice outR_ok
  have hl1 := ho.bound
  have hx := box_then hx (by simp) hb3
  have d0 := box_cell hx 0
  have d1 := box_cell hx 1
  have d2 := box_cell hx 2
  simp at d0 d1 d2
  clear hb3 ho
  generalize hr : manyRes ⟨S, L, rs⟩ s l = r1 at hc1 hx1 hl1 ⊢
  have HR := hide hr
  clear hr
  obtain ⟨t1, l1, e1⟩ := r1
  go_wp2_with fail
  refine (rmany_any S L s rs oa c l ob d _ (hs.below rowR_ok (below_box hx)) hc hc2 (hw.below intR_ok (below_box hx)) hd (by omega)).mono ?_
  rintro e w4 ⟨v, he, ho, hb3⟩
  rw [HR.out] at he ho
  subst he
  obtain ⟨oa2, c2, rfl, hc2', hx2⟩ := ho.slice outR_ok
  have hx1 := hx1.below outR_ok hb3
  have hbb := below_box (box_then hx (by simp) hb3)
  clear hb3 ho hx d0 d1 d2 hs hw
  go_wp2_with fail
  refine (awake_any _).mono ?_
  rintro e w7 ⟨rfl, hb3⟩
  have hx1 := hx1.below outR_ok hb3
  have hx2 := hx2.below outR_ok hb3
  have hbb := below_then hbb hb3
  clear hb3
  go_wp2_with fail
  refine (sameOutputs_any l1 l1 oa1 oa2 c1 c2 (fun _ => True) _ (hx1.all outR_ok (by omega)) (hx2.all outR_ok (by omega)) hc1 hl1).mono ?_
  rintro e w8 ⟨rfl, hb3⟩
  have hbb := below_then hbb hb3
  clear hb3 hx1 hx2
  go_wp2_with fail
  go_ret
  exact ⟨rfl, hbb⟩

end Go.Proofs.Ytmjcjmljnliaoaa

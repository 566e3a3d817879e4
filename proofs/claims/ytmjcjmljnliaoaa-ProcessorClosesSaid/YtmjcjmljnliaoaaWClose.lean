/-
  The walk of ProcessorCloses.
-/
import Derived.Test.YtmjcjmljnliaoaaCloseL
import Derived.Test.YtmjcjmljnliaoaaRight
import Derived.Test.YtmjcjmljnliaoaaWComm
import Derived.Test.YtmjcjmljnliaoaaStab
set_option linter.unusedVariables false
namespace Go.Proofs.Ytmjcjmljnliaoaa
open Go.RowKit

theorem recs_ok {S L : Int} {rs : List (List Rul)} {n : Nat} (hV : checkErr ⟨S, L, rs⟩ 12 = 0) (hn : n < rs.length) : stateErr ⟨S, L, rs⟩ n = 0 := by
  have h2 := (check_zero hV).2.2.2.1
  simp at h2
  have : belowB (n : Int) S = true := by simp [belowB]; omega
  simp [stateErr, hV, this]

theorem step_ok {S L : Int} {rs : List (List Rul)} {n a : Nat} (hV : checkErr ⟨S, L, rs⟩ 12 = 0) (hn : n < rs.length) (ha : (a : Int) < L) : (stepRes ⟨S, L, rs⟩ n a).1 = (nxOf rs n a : Nat) ∧ (stepRes ⟨S, L, rs⟩ n a).2.2 = 0 := by
  have h : belowB (a : Int) L = true := by simp [belowB]; omega
  have h1 : (readSpec rs n [(a : Int)]).1 = (ruleAt rs n a).next := rfl
  simp only [stepRes, recs_ok hV hn, h, if_true, and_true]
  rw [h1, (nx_ok hV hn ha).1]

set_option maxRecDepth 100000 in
set_option maxHeartbeats 4000000 in
theorem closes_walk (w : World) (S L : Int) (rs : List (List Rul)) (oa : Option Addr) (c : Nat) (_ : I64 S) (_ : I64 L) (hc : rs.length ≤ c) (hc2 : rs.length ≤ 9223372036854775807) (hs : SliceR (slcR ruleR 2) 1 All w oa rs)
    (s : Int) (_ : I64 s) :
    Calls Try.prog 13 #[.agg #[.int .i64 S, .int .i64 L, .slice oa rs.length c], .int .i64 s] w fun e w' => e = .returned (.bool true) ∧ Below w.heap.size w w' := by
  have HSR := hide sorted_any
  have HN : Hid (checkErr ⟨S, L, rs⟩ 12 = 0 → ∀ s a b : Int, 0 ≤ s ∧ s < S → 0 ≤ a ∧ a < L → 0 ≤ b ∧ b < L → (readSpec rs s [a, b]).2.length ≤ 1000000000000) := by
    intro h s a b hs ha hb
    exact two_reads (p := ⟨S, L, rs⟩) h hs (by simp [belowB]; omega) (by simp [belowB]; omega)
  go_enter Try.func13, Try.ntmps13
  go_wp2_with fail
  refine (right_any S L s rs oa c [] none 0 All All _ (hs.below rowR_ok (bnew (Below.refl _ _) _)) hc hc2 (SliceR.nil _ _ _ _ _) (by simp) (by simp)).mono ?_
  rintro e w2 ⟨b, rfl, hright, hb2⟩
  have HRT := hide hright
  clear hright
  have hx := hb2.mono (B' := w.heap.size + 1) (by simp)
  clear hb2
  have d0 := box_cell hx 0
  have d1 := box_cell hx 1
  have d2 := box_cell hx 2
  simp at d0 d1 d2
  cases b with
  | false =>
    go_wp2_with fail
    refine (awake_any _).mono ?_
    rintro e w3 ⟨rfl, hb3⟩
    go_wp2_with fail
    go_ret
    exact ⟨rfl, below_box (box_then hx (by simp) hb3)⟩
  | true =>
  have HP := HRT.out rfl
  have HV := hide HP.1
  obtain ⟨n, rfl⟩ := Int.eq_ofNat_of_zero_le HP.2.1.1
  have hn : n < rs.length := by have h1 := HP.2.1.2; have h2 := (check_zero HP.1).2.2.2.1; simp at h1 h2; omega
  obtain ⟨Lk, rfl⟩ := Int.eq_ofNat_of_zero_le (show 0 ≤ L by have := (check_zero HP.1).2.2.1; simp at this; omega)
  have h16 : rs.length ≤ 16 := by have h1 := (check_zero HP.1).2.1; have h2 := (check_zero HP.1).2.2.2.1; simp at h1 h2; omega
  have hL8 : Lk ≤ 8 := by have := (check_zero HP.1).2.2.1; simp at this; omega
  have HNX := hide (nx_lt HP.1)
  simp only [Int.toNat_natCast] at HNX
  have HUA := hide (unary_abelian HP.1)
  have HSE := hide (recs_ok HP.1 hn)
  clear HRT HP
  go_wp2_with fail
  refine (unary_any S Lk rs oa c All _ (hs.below rowR_ok (below_box hx)) hc hc2).mono ?_
  rintro e w3 ⟨he, hb3⟩
  rw [HUA.out.1] at he
  subst he
  have hx := box_then hx (by simp) hb3
  have d0 := box_cell hx 0
  have d1 := box_cell hx 1
  have d2 := box_cell hx 2
  simp at d0 d1 d2
  clear hb3
  generalize hu : (unaryRes ⟨S, Lk, rs⟩).1 = ub
  have HU := hide hu
  clear hu
  go_wp2_with fail
  refine (abelian_any HSR S Lk rs oa c All _ (hs.below rowR_ok (below_box hx)) hc hc2 HN).mono ?_
  rintro e w5 ⟨v, he, ho, hb3⟩
  rw [HUA.out.2.1] at he
  subst he
  have hx := box_then hx (by simp) hb3
  have d0 := box_cell hx 0
  have d1 := box_cell hx 1
  have d2 := box_cell hx 2
  simp at d0 d1 d2
  clear hb3 ho
  generalize ha : (abelRes ⟨S, Lk, rs⟩).1 = ab
  have HUB : Hid (ub = true → ab = true) := by
    intro h; rw [← ha]; exact HUA.out.2.2 (HU.out.trans h)
  clear ha
  go_wp2_with fail
  refine (reaches_any S Lk n rs oa c All _ (hs.below rowR_ok (below_box hx)) hc hc2).mono ?_
  rintro e w6 ⟨oa1, l1, c1, he, hr1, hl1, hc1, hx1, hb3⟩
  rw [HSE.out] at he
  subst he
  have HR1 := hide (hr1.2 HSE.out n rfl)
  simp only [Int.toNat_natCast] at HR1
  have hx := box_then hx (by simp) hb3
  have d0 := box_cell hx 0
  have d1 := box_cell hx 1
  have d2 := box_cell hx 2
  simp at d0 d1 d2
  clear hb3 hr1
  go_wp2_with fail
  refine (recs_any S Lk n rs oa c All _ (hs.below rowR_ok (below_box hx)) hc hc2).mono ?_
  rintro e w7 ⟨bk, he, hr2, hb3⟩
  rw [HSE.out] at he
  subst he
  have HBK := hide (hr2.2 HSE.out n rfl)
  simp only [Int.toNat_natCast] at HBK
  have hx1 := hx1.below intR_ok hb3
  have hx := box_then hx (by simp) hb3
  clear hb3 hr2 d0 d1 d2
  have hmem : decide ((n : Int) ∈ l1) = true := by simp; exact (HR1.out.2 n).2 ⟨n, rfl, rch_refl⟩
  have hub : (ub && !ab) = false := by
    cases ub
    · rfl
    · rw [HUB.out rfl]; rfl
  cases hub1 : ub
  case' true =>
    have hab := HUB.out hub1
    subst hub1 hab
  case' false => subst hub1
  all_goals
    clear hub
    go_wp2_with fail
    refine (contains_any _ _ _ _ _ _ hx1 hc1 (by omega)).mono ?_
    rintro e w8 ⟨he, rfl⟩
    rw [hmem] at he
    subst he
    go_wp2_with fail
    refine (isSorted_any l1 oa1 c1 All _ hx1 hc1 (by omega) HR1.out.1).mono ?_
    rintro e w9 ⟨rfl, hb3⟩
    have hx1 := hx1.below intR_ok hb3
    have hx := box_then hx (by simp) hb3
    clear hb3
    go_wp2_with fail
    go_loopw [14, 79] (fun sv iv wr => ∃ (k : Nat) (sm : Bool), k ≤ l1.length ∧ iv = .int .i64 k ∧ sv = .bool sm ∧ Hid (∀ i m : Nat, i < k → l1[i]? = some (m : Int) → Back (nxOf rs) Lk m → sm = true) ∧ Below w9.heap.size w9 wr) (fun _ iv _ => l1.length - (intOf iv).toNat)
    case atStart => exact ⟨0, false, by omega, rfl, rfl, fun i m h => by omega, Below.refl _ _⟩
    case round =>
      obtain ⟨k, sm, hk, rfl, rfl, HK, hb⟩ := hrel
      have hxk := box_then hx (by simp) hb
      have d0 := box_cell hxk 0
      have d1 := box_cell hxk 1
      have d2 := box_cell hxk 2
      simp at d0 d1 d2
      by_cases hlt : k < l1.length
      · obtain ⟨x, _, hxx, _, b, off, rfl, _, c0⟩ := (hx1.below intR_ok hb).int_at hlt
        obtain ⟨m, rfl, hrm⟩ := reach_mem HR1.out hxx
        have hm : m < rs.length := rch_lt hn HNX.out hrm
        have HXX := hide hxx
        have HRM := hide hrm
        have HSM := hide (recs_ok HV.out hm)
        clear hxx hrm
        go_wp2_with fail
        refine (recs_any S Lk m rs oa c All _ (hs.below rowR_ok (below_box hxk)) hc hc2).mono ?_
        rintro e w10 ⟨bg, he, hr3, hb4⟩
        rw [HSM.out] at he
        subst he
        have HBG := hide (hr3.2 HSM.out m rfl)
        simp only [Int.toNat_natCast] at HBG
        have hb5 := below_then hb hb4
        have hxk := box_then hxk (by simp) hb4
        have d0 := box_cell hxk 0
        have d1 := box_cell hxk 1
        have d2 := box_cell hxk 2
        simp at d0 d1 d2
        have hl5 := hx1.below intR_ok hb5
        have HGO : Hid (bk = true → bg = true) := fun h => HBG.out.2 (back_of (HBK.out.1 h) HRM.out)
        have HK2 : Hid (∀ sm' : Bool, sm' = (sm || bg) → ∀ i m : Nat, i < k + 1 → l1[i]? = some (m : Int) → Back (nxOf rs) Lk m → sm' = true) := by
          intro sm' he i q hi hq hbq
          rw [he]
          rcases Nat.lt_or_ge i k with h1 | h1
          · rw [HK.out i q h1 hq hbq]; rfl
          · have : i = k := by omega
            subst this
            rw [HXX.out] at hq
            injection hq with hq
            have : m = q := by omega
            subst this
            rw [HBG.out.2 hbq]; simp
        clear hb4 hr3 hb HK c0 HBG
        have key : ∀ sm', sm' = (sm || bg) → True := fun _ _ => trivial
        cases hbk : bk
        case' true => have hbg := HGO.out hbk; subst hbk hbg
        case' false => subst hbk; cases hbg : bg
        all_goals
          (try subst hbg)
          cases hsm : sm
          all_goals
            subst hsm
            go_wp2_with fail
            obtain ⟨wo, rfl⟩ : ∃ wo : World, wo = w10 := ⟨_, rfl⟩
            go_loopw [104] (fun iv wr => ∃ j : Nat, j ≤ Lk ∧ iv = .int .i64 j ∧ Below wo.heap.size wo wr) (fun iv _ => Lk - (intOf iv).toNat)
            case atStart => exact ⟨0, by omega, rfl, Below.refl _ _⟩
            case round =>
              obtain ⟨j, hj, rfl, hb6⟩ := hrel
              have hxj := box_then hxk (by simp) hb6
              clear d0 d1 d2
              have d0 := box_cell hxj 0
              have d1 := box_cell hxj 1
              have d2 := box_cell hxj 2
              simp at d0 d1 d2
              have hl6 := hl5.below intR_ok hb6
              by_cases hjl : j < Lk
              · have HST := hide (step_ok (a := j) HV.out hm (by omega))
                have hdec : decide ((nxOf rs m j : Int) ∈ l1) = true := by
                  simp; exact (HR1.out.2 _).2 ⟨_, rfl, rch_step HRM.out hjl⟩
                go_wp2_with fail
                refine (step_any S Lk m j rs oa c All _ (hs.below rowR_ok (below_box hxj)) hc hc2 (by unfold I64; omega)).mono ?_
                rintro e w11 ⟨v11, he, ho11, hb7⟩
                rw [HST.out.1, HST.out.2] at he
                subst he
                have hb8 := below_then hb6 hb7
                have hl8 := hl6.below intR_ok hb7
                clear ho11 hb7
                go_wp2_with fail
                refine (contains_any _ _ _ _ _ _ hl8 hc1 (by omega)).mono ?_
                rintro e w12 ⟨he, rfl⟩
                rw [hdec] at he
                subst he
                go_wp2_with fail
                go_roundw
                case rel => exact ⟨j + 1, by omega, by go_num, hb8⟩
                case measure => simp [intOf]; omega
              · have HF := hide (HK2.out _ rfl)
                clear HK2
                go_wp2_with fail
                go_roundw
                case rel => exact ⟨k + 1, _, by omega, by go_num, rfl, HF, below_then hb5 hb6⟩
                case measure => simp [intOf]; omega
      · have hsm : sm = true := by
          obtain ⟨u, hu, hbu⟩ := a_back hn HNX.out
          obtain ⟨i, hi, he⟩ := List.getElem_of_mem ((HR1.out.2 u).2 ⟨u, rfl, hu⟩)
          exact HK.out i u (by omega) (by rw [List.getElem?_eq_getElem hi, he]) hbu
        subst hsm
        go_wp2_with fail
        refine (awake_any _).mono ?_
        rintro e w13 ⟨rfl, hb9⟩
        go_wp2_with fail
        go_ret
        exact ⟨rfl, below_then (below_box hxk) hb9⟩

end Go.Proofs.Ytmjcjmljnliaoaa

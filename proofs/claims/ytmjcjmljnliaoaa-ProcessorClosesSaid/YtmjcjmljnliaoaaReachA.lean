/-
  Reachable and Recurrent: the program.
-/
import Derived.Test.YtmjcjmljnliaoaaReachP
set_option linter.unusedVariables false
namespace Go.Proofs.Ytmjcjmljnliaoaa
open Go.RowKit

def ReachRes (S L s : Int) (rs : List (List Rul)) (l : List Int) : Prop :=
  (stateErr ⟨S, L, rs⟩ s ≠ 0 → l = []) ∧ (stateErr ⟨S, L, rs⟩ s = 0 → ∀ n : Nat, s = n → IsReach (nxOf rs) L.toNat n l)
def RecRes (S L s : Int) (rs : List (List Rul)) (b : Bool) : Prop :=
  (stateErr ⟨S, L, rs⟩ s ≠ 0 → b = false) ∧ (stateErr ⟨S, L, rs⟩ s = 0 → ∀ n : Nat, s = n → (b = true ↔ Back (nxOf rs) L.toNat n))
theorem reachRes_unique {S L s : Int} {rs : List (List Rul)} {l m : List Int} (h : ReachRes S L s rs l) (h2 : ReachRes S L s rs m) : l = m := by
  by_cases hz : stateErr ⟨S, L, rs⟩ s = 0
  · obtain ⟨n, rfl⟩ := Int.eq_ofNat_of_zero_le (state_zero hz).2.1
    exact isReach_unique (h.2 hz n rfl) (h2.2 hz n rfl)
  · rw [h.1 hz, h2.1 hz]
theorem recRes_unique {S L s : Int} {rs : List (List Rul)} {b d : Bool} (h : RecRes S L s rs b) (h2 : RecRes S L s rs d) : b = d := by
  by_cases hz : stateErr ⟨S, L, rs⟩ s = 0
  · obtain ⟨n, rfl⟩ := Int.eq_ofNat_of_zero_le (state_zero hz).2.1
    have h3 := h.2 hz n rfl
    have h4 := h2.2 hz n rfl
    rw [Bool.eq_iff_iff]
    exact h3.trans h4.symm
  · rw [h.1 hz, h2.1 hz]

def ReachesPost (w : World) (S L s : Int) (rs : List (List Rul)) (e : Ending) (w' : World) : Prop :=
  ∃ oa l c, e = .returned (.tuple #[.slice oa l.length c, .int .i64 (stateErr ⟨S, L, rs⟩ s)]) ∧ ReachRes S L s rs l ∧ l.length ≤ 16 ∧ l.length ≤ c ∧ SliceR intR 1 All w' oa l ∧ Below w.heap.size w w'
def RecsPost (w : World) (S L s : Int) (rs : List (List Rul)) (e : Ending) (w' : World) : Prop :=
  ∃ b, e = .returned (.tuple #[.bool b, .int .i64 (stateErr ⟨S, L, rs⟩ s)]) ∧ RecRes S L s rs b ∧ Below w.heap.size w w'

theorem reach_mem {nx : Nat → Nat → Nat} {L s : Nat} {l : List Int} (h : IsReach nx L s l) {i : Nat} {t : Int} (hi : l[i]? = some t) : ∃ n : Nat, t = n ∧ Rch nx L s n := (h.2 t).1 (List.mem_of_getElem? hi)

set_option maxHeartbeats 1000000 in
theorem reaches_any (S L s : Int) (rs : List (List Rul)) (oa : Option Addr) (c : Nat) (F : Foot) (w : World) (hs : SliceR (slcR ruleR 2) 1 F w oa rs) (hc : rs.length ≤ c) (hc2 : rs.length ≤ 9223372036854775807) :
    Calls Try.prog 51 #[.agg #[.int .i64 S, .int .i64 L, .slice oa rs.length c], .int .i64 s] w (ReachesPost w S L s rs) := by
  go_enter Try.func51, Try.ntmps51
  go_wp2_with fail
  refine (state_any S L s rs oa c F _ (hs.below rowR_ok (bnew (Below.refl _ _) _)) hc hc2).mono ?_
  rintro e w2 ⟨rfl, hb2⟩
  have hx2 := hb2.mono (B' := w.heap.size + 1) (by simp)
  have d0 := box_cell hx2 0
  have d1 := box_cell hx2 1
  have d2 := box_cell hx2 2
  simp at d0 d1 d2
  clear hb2
  by_cases hz : stateErr ⟨S, L, rs⟩ s = 0
  case neg =>
    have hz1 := not_err hz
    have HZ : Hid (ReachRes S L s rs []) := ⟨fun _ => rfl, fun h => absurd h hz⟩
    clear hz
    go_wp2_with fail
    go_ret2
    exact ⟨none, [], 0, rfl, HZ.out, by simp, by simp, SliceR.nil _ _ _ _ _, below_box hx2⟩
  have hz1 := is_err hz
  have HZ := hide hz
  have HST := state_zero hz
  have HV := hide HST.1
  obtain ⟨n, rfl⟩ := Int.eq_ofNat_of_zero_le HST.2.1
  have hn : n < rs.length := by have h1 := HST.2.2; have h2 := (check_zero HST.1).2.2.2.1; simp at h1 h2; omega
  have h16 : rs.length ≤ 16 := by have h1 := (check_zero HST.1).2.1; have h2 := (check_zero HST.1).2.2.2.1; simp at h1 h2; omega
  clear hz HST
  go_wp2_with fail
  refine (reachable_any S L rs oa c n F _ (hs.below rowR_ok (below_box hx2)) HV hn).mono ?_
  rintro e w3 ⟨v, l, rfl, hr, hl, ⟨o3, c3, rfl, hc3, hsl⟩, hb3⟩
  have HR : Hid (ReachRes S L n rs l) := ⟨fun h => absurd HZ.out h, fun _ m hm => by have : n = m := by omega
                                                                                     subst this; exact hr⟩
  clear hr
  go_wp2_with fail
  go_ret2
  exact ⟨o3, l, c3, by rw [HZ.out]; rfl, HR.out, by omega, hc3, hsl, below_then (below_box hx2) hb3⟩

set_option maxRecDepth 100000 in
set_option maxHeartbeats 2000000 in
theorem recs_any (S L s : Int) (rs : List (List Rul)) (oa : Option Addr) (c : Nat) (F : Foot) (w : World) (hs : SliceR (slcR ruleR 2) 1 F w oa rs) (hc : rs.length ≤ c) (hc2 : rs.length ≤ 9223372036854775807) :
    Calls Try.prog 53 #[.agg #[.int .i64 S, .int .i64 L, .slice oa rs.length c], .int .i64 s] w (RecsPost w S L s rs) := by
  go_enter Try.func53, Try.ntmps53
  go_wp2_with fail
  refine (state_any S L s rs oa c F _ (hs.below rowR_ok (bnew (Below.refl _ _) _)) hc hc2).mono ?_
  rintro e w2 ⟨rfl, hb2⟩
  have hx2 := hb2.mono (B' := w.heap.size + 1) (by simp)
  have d0 := box_cell hx2 0
  have d1 := box_cell hx2 1
  have d2 := box_cell hx2 2
  simp at d0 d1 d2
  clear hb2
  by_cases hz : stateErr ⟨S, L, rs⟩ s = 0
  case neg =>
    have hz1 := not_err hz
    have HZ : Hid (RecRes S L s rs false) := ⟨fun _ => rfl, fun h => absurd h hz⟩
    clear hz
    go_wp2_with fail
    go_ret2
    exact ⟨false, rfl, HZ.out, below_box hx2⟩
  have hz1 := is_err hz
  have HZ := hide hz
  have HST := state_zero hz
  have HV := hide HST.1
  obtain ⟨n, rfl⟩ := Int.eq_ofNat_of_zero_le HST.2.1
  have hn : n < rs.length := by have h1 := HST.2.2; have h2 := (check_zero HST.1).2.2.2.1; simp at h1 h2; omega
  have h16 : rs.length ≤ 16 := by have h1 := (check_zero HST.1).2.1; have h2 := (check_zero HST.1).2.2.2.1; simp at h1 h2; omega
  have HNX := hide (nx_lt HST.1)
  clear hz HST
  go_wp2_with fail
  refine (reachable_any S L rs oa c n F _ (hs.below rowR_ok (below_box hx2)) HV hn).mono ?_
  rintro e w3 ⟨v, l, rfl, hr, hl, ⟨o3, c3, rfl, hc3, hsl⟩, hb3⟩
  have HR := hide hr
  have hx3 := box_then hx2 (by simp) hb3
  clear hr d0 d1 d2 hx2 hb3
  go_wp2_with fail
  go_loopw [19] (fun iv wr => ∃ k : Nat, k ≤ l.length ∧ iv = .int .i64 k ∧ Hid (∀ i t, i < k → l[i]? = some t → ∀ m : Nat, t = m → Rch (nxOf rs) L.toNat m n) ∧ Below w3.heap.size w3 wr) (fun iv _ => l.length - (intOf iv).toNat)
  case atStart => exact ⟨0, by omega, rfl, fun i t h => by omega, Below.refl _ _⟩
  case round =>
    obtain ⟨k, hk, rfl, HK, hb⟩ := hrel
    have hx := box_then hx3 (by simp) hb
    have d0 := box_cell hx 0
    have d1 := box_cell hx 1
    have d2 := box_cell hx 2
    simp at d0 d1 d2
    by_cases hlt : k < l.length
    · obtain ⟨x, _, hxk, _, b, off, rfl, _, c0⟩ := (hsl.below intR_ok hb).int_at hlt
      obtain ⟨m, rfl, hrm⟩ := reach_mem HR.out hxk
      have hm : m < rs.length := rch_lt hn HNX.out hrm
      have HXK := hide hxk
      have HRM := hide hrm
      clear hxk hrm
      go_wp2_with fail
      refine (reachable_any S L rs oa c m F _ (hs.below rowR_ok (below_box hx)) HV hm).mono ?_
      rintro e w4 ⟨v4, l4, rfl, hr4, hl4, ⟨o4, c4, rfl, hc4, hsl4⟩, hb4⟩
      have HR4 := hide hr4
      clear hr4
      by_cases hmem : (n : Int) ∈ l4
      · have hdec : decide ((n : Int) ∈ l4) = true := by simp [hmem]
        have HM := hide hmem
        clear hmem
        go_wp2_with fail
        refine (contains_any _ _ _ _ _ _ hsl4 hc4 (by omega)).mono ?_
        rintro e w5 ⟨he5, rfl⟩
        rw [hdec] at he5
        subst he5
        go_wp2_with fail
        go_roundw
        case rel =>
          refine ⟨k + 1, by omega, by go_num, ?_, below_then hb hb4⟩
          intro i t hi ht q hq
          rcases Nat.lt_or_ge i k with h1 | h1
          · exact HK.out i t h1 ht q hq
          · have : i = k := by omega
            subst this
            rw [HXK.out] at ht
            injection ht with ht
            have : m = q := by omega
            subst this
            obtain ⟨n', h2, h3⟩ := (HR4.out.2 n).1 HM.out
            have : n = n' := by omega
            subst this
            exact h3
        case measure => simp [intOf]; omega
      · have hdec : decide ((n : Int) ∈ l4) = false := by simp [hmem]
        have HN : Hid (RecRes S L n rs false) := ⟨fun h => absurd HZ.out h, fun _ q hq => by
          have : n = q := by omega
          subst this
          refine ⟨fun h => Bool.noConfusion h, fun h => absurd ((HR4.out.2 n).2 ⟨n, rfl, h m HRM.out⟩) hmem⟩⟩
        clear hmem
        go_wp2_with fail
        refine (contains_any _ _ _ _ _ _ hsl4 hc4 (by omega)).mono ?_
        rintro e w5 ⟨he5, rfl⟩
        rw [hdec] at he5
        subst he5
        go_wp2_with fail
        go_ret2
        exact ⟨false, by rw [HZ.out]; rfl, HN.out, below_then (below_box hx) hb4⟩
    · have HN : Hid (RecRes S L n rs true) := ⟨fun h => absurd HZ.out h, fun _ q hq => by
        have : n = q := by omega
        subst this
        refine ⟨fun _ t ht => ?_, fun _ => rfl⟩
        obtain ⟨i, hi, he⟩ := List.getElem_of_mem ((HR.out.2 t).2 ⟨t, rfl, ht⟩)
        exact HK.out i t (by omega) (by rw [List.getElem?_eq_getElem hi, he]) t rfl⟩
      go_wp2_with fail
      go_ret2
      exact ⟨true, by rw [HZ.out]; rfl, HN.out, below_box hx⟩

end Go.Proofs.Ytmjcjmljnliaoaa

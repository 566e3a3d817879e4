/-
  Merging two sorted lists: plain Lean.
-/
import Derived.Test.YtmjcjmljnliaoaaSwap
set_option linter.unusedVariables false
namespace Go.Proofs.Ytmjcjmljnliaoaa
open Go.RowKit

theorem srt_join {A B : List Out} (hA : Srt A) (hB : Srt B) (h : ∀ x y, A.getLast? = some x → B.head? = some y → leO x y) : Srt (A ++ B) := by
  refine List.pairwise_append.2 ⟨hA, hB, fun x hx y hy => ?_⟩
  have hA2 : A ≠ [] := by rintro rfl; simp at hx
  have hB2 : B ≠ [] := by rintro rfl; simp at hy
  obtain ⟨b, B', rfl⟩ := List.exists_cons_of_ne_nil hB2
  have h1 := h _ b (List.getLast?_eq_some_getLast hA2) rfl
  have h2 : leO x (A.getLast hA2) := by
    have h3 : A.dropLast ++ [A.getLast hA2] = A := List.dropLast_concat_getLast hA2
    rw [← h3] at hx hA
    rcases List.mem_append.1 hx with hx | hx
    · exact (List.pairwise_append.1 hA).2.2 x hx _ (List.mem_singleton.2 rfl)
    · rw [List.mem_singleton.1 hx]; exact leO_refl _
  have h4 : leO b y := by
    rcases List.mem_cons.1 hy with rfl | hy
    · exact leO_refl _
    · exact (List.pairwise_cons.1 hB).1 y hy
  exact leO_trans h2 (leO_trans h1 h4)
theorem srt_left {A B : List Out} (h : Srt (A ++ B)) : Srt A := (List.pairwise_append.1 h).1
theorem srt_right {A B : List Out} (h : Srt (A ++ B)) : Srt B := (List.pairwise_append.1 h).2.1

theorem mem_last {A : List Out} {x : Out} (h : Srt A) (hx : x ∈ A) : ∃ y, A.getLast? = some y ∧ leO x y := by
  have hA2 : A ≠ [] := by rintro rfl; simp at hx
  refine ⟨_, List.getLast?_eq_some_getLast hA2, ?_⟩
  have h3 : A.dropLast ++ [A.getLast hA2] = A := List.dropLast_concat_getLast hA2
  rw [← h3] at hx h
  rcases List.mem_append.1 hx with hx | hx
  · exact (List.pairwise_append.1 h).2.2 x hx _ (List.mem_singleton.2 rfl)
  · rw [List.mem_singleton.1 hx]; exact leO_refl _
theorem mem_head {A : List Out} {x : Out} (h : Srt A) (hx : x ∈ A) : ∃ y, A.head? = some y ∧ leO y x := by
  match A, hx, h with
  | b :: B, hy, h =>
    refine ⟨b, rfl, ?_⟩
    rcases List.mem_cons.1 hy with rfl | hy
    · exact leO_refl _
    · exact (List.pairwise_cons.1 h).1 _ hy

theorem merge_parts {A1 A2 B1 B2 : List Out} (hA : Srt (A1 ++ A2)) (hB : Srt (B1 ++ B2)) (h1 : ∀ x y, A1.getLast? = some x → B2.head? = some y → leO x y) (h2 : ∀ x y, B1.getLast? = some x → A2.head? = some y → leO x y) :
    isort (A1 ++ B1) ++ isort (A2 ++ B2) = isort ((A1 ++ A2) ++ (B1 ++ B2)) := by
  rw [isort_join]
  · refine isort_perm_eq ?_
    simp only [List.append_assoc]
    refine List.Perm.append_left A1 ?_
    rw [← List.append_assoc, ← List.append_assoc]
    exact List.Perm.append_right B2 List.perm_append_comm
  · have a1 := srt_left hA
    have a2 := srt_right hA
    have b1 := srt_left hB
    have b2 := srt_right hB
    intro x hx y hy
    rcases List.mem_append.1 hx with hx | hx <;> rcases List.mem_append.1 hy with hy | hy
    · exact (List.pairwise_append.1 hA).2.2 x hx y hy
    · obtain ⟨u, hu, hxu⟩ := mem_last a1 hx
      obtain ⟨v, hv, hvy⟩ := mem_head b2 hy
      exact leO_trans hxu (leO_trans (h1 u v hu hv) hvy)
    · obtain ⟨u, hu, hxu⟩ := mem_last b1 hx
      obtain ⟨v, hv, hvy⟩ := mem_head a2 hy
      exact leO_trans hxu (leO_trans (h2 u v hu hv) hvy)
    · exact (List.pairwise_append.1 hB).2.2 x hx y hy

theorem get_in (X A R : List Out) {k : Nat} {x : Out} (h : A[k]? = some x) : (X ++ (A ++ R))[X.length + k]? = some x := by
  have hk : k < A.length := (List.getElem?_eq_some_iff.1 h).1
  rw [List.getElem?_append_right (by omega), List.getElem?_append_left (by omega)]
  rw [show X.length + k - X.length = k from by omega]
  exact h
theorem last_take {A : List Out} {i : Nat} {x : Out} (h : (A.take i).getLast? = some x) : 0 < i ∧ (i ≤ A.length → A[i - 1]? = some x) := by
  by_cases hi : i = 0
  · subst hi; simp at h
  refine ⟨by omega, fun hle => ?_⟩
  rw [List.getLast?_eq_getElem?, List.length_take, Nat.min_eq_left hle, List.getElem?_take_of_lt (by omega)] at h
  exact h
theorem head_drop {A : List Out} {i : Nat} {x : Out} (h : (A.drop i).head? = some x) : A[i]? = some x := by
  rw [List.head?_drop] at h
  exact h

theorem swap_adj2 (A B : List Out) (x y : Out) : ((A ++ x :: y :: B).set A.length y).set (A.length + 1) x = A ++ y :: x :: B := by
  rw [List.set_append_right _ _ (by omega), List.set_append_right _ _ (by omega)]
  simp

/-- Merging one element with a sorted list. -/
theorem one_left {x : Out} {B1 B2 : List Out} (hB : Srt (B1 ++ B2)) (h1 : ∀ y, B1.getLast? = some y → leO y x) (h2 : ∀ y, B2.head? = some y → leO x y) : B1 ++ x :: B2 = isort (x :: (B1 ++ B2)) := by
  refine isort_of (srt_join (srt_left hB) ?_ ?_) List.perm_middle
  · refine srt_join (A := [x]) (List.pairwise_singleton _ _) (srt_right hB) ?_
    intro u v hu hv
    simp at hu
    subst hu
    exact h2 v hv
  · intro u v hu hv
    simp at hv
    subst hv
    exact h1 u hu

end Go.Proofs.Ytmjcjmljnliaoaa

/-
  What the reference's Order comes to is the list in order.
-/
import Derived.Test.YtmjcjmljnliaoaaOrd
namespace Go.Proofs.Ytmjcjmljnliaoaa
open Go.RowKit

def pick (l : List Out) (t a : Nat) : List Out := l.filter fun o => decide (o.to = t) && decide (o.letter = a)
def pickRow (l : List Out) (t : Nat) (A : Nat) : List Out := (List.range A).flatMap (pick l t)
def picks (l : List Out) (T : Nat) : List Out := (List.range T).flatMap fun t => pickRow l t 8

theorem pick_mem {l : List Out} {t a : Nat} {o : Out} : o ∈ pick l t a ↔ o ∈ l ∧ o.to = t ∧ o.letter = a := by simp [pick]
theorem pickRow_succ (l : List Out) (t A : Nat) : pickRow l t (A + 1) = pickRow l t A ++ pick l t A := by simp [pickRow, List.range_succ]
theorem picks_succ (l : List Out) (T : Nat) : picks l (T + 1) = picks l T ++ pickRow l T 8 := by simp [picks, List.range_succ]
theorem pickRow_mem {l : List Out} {t A : Nat} {o : Out} : o ∈ pickRow l t A ↔ o ∈ l ∧ o.to = t ∧ ∃ a, a < A ∧ o.letter = (a : Nat) := by
  simp only [pickRow, List.mem_flatMap, List.mem_range, pick_mem]
  constructor
  · rintro ⟨a, ha, h1, h2, h3⟩; exact ⟨h1, h2, a, ha, h3⟩
  · rintro ⟨h1, h2, a, ha, h3⟩; exact ⟨a, ha, h1, h2, h3⟩
theorem picks_mem {l : List Out} {T : Nat} {o : Out} : o ∈ picks l T ↔ o ∈ l ∧ (∃ t, t < T ∧ o.to = (t : Nat)) ∧ ∃ a, a < 8 ∧ o.letter = (a : Nat) := by
  simp only [picks, List.mem_flatMap, List.mem_range, pickRow_mem]
  constructor
  · rintro ⟨t, ht, h1, h2, h3⟩; exact ⟨h1, ⟨t, ht, h2⟩, h3⟩
  · rintro ⟨h1, ⟨t, ht, h2⟩, h3⟩; exact ⟨t, ht, h1, h2, h3⟩

theorem pick_srt (l : List Out) (t a : Nat) : Srt (pick l t a) := by
  refine List.pairwise_iff_forall_sublist.2 fun {x y} h => ?_
  have hx : x ∈ pick l t a := h.subset (by simp)
  have hy : y ∈ pick l t a := h.subset (by simp)
  have h1 := (pick_mem.1 hx).2
  have h2 := (pick_mem.1 hy).2
  unfold leO
  omega
theorem pickRow_srt (l : List Out) (t : Nat) : ∀ A, Srt (pickRow l t A)
  | 0 => by simp [pickRow]
  | A + 1 => by
    rw [pickRow_succ]
    refine List.pairwise_append.2 ⟨pickRow_srt l t A, pick_srt l t A, fun x hx y hy => ?_⟩
    obtain ⟨_, h1, a, ha, h2⟩ := pickRow_mem.1 hx
    have h3 := (pick_mem.1 hy).2
    unfold leO
    omega
theorem picks_srt (l : List Out) : ∀ T, Srt (picks l T)
  | 0 => by simp [picks]
  | T + 1 => by
    rw [picks_succ]
    refine List.pairwise_append.2 ⟨picks_srt l T, pickRow_srt l T 8, fun x hx y hy => ?_⟩
    obtain ⟨_, ⟨t, ht, h1⟩, _⟩ := picks_mem.1 hx
    have h3 := (pickRow_mem.1 hy).2.1
    unfold leO
    omega
theorem pickRow_cons (x : Out) (r : List Out) (t : Nat) : ∀ A, (pickRow (x :: r) t A).Perm ((if x.to = t ∧ 0 ≤ x.letter ∧ x.letter < A then [x] else []) ++ pickRow r t A)
  | 0 => by
    have : ¬ (x.to = t ∧ 0 ≤ x.letter ∧ x.letter < (0 : Nat)) := by omega
    rw [if_neg this]
    simp [pickRow]
  | A + 1 => by
    rw [pickRow_succ, pickRow_succ]
    have ih := pickRow_cons x r t A
    by_cases h : x.to = t ∧ x.letter = A
    · have h1 : ¬ (x.to = t ∧ 0 ≤ x.letter ∧ x.letter < (A : Nat)) := by omega
      have h2 : x.to = t ∧ 0 ≤ x.letter ∧ x.letter < ((A + 1 : Nat) : Int) := by omega
      rw [if_neg h1] at ih
      rw [if_pos h2]
      have hp : pick (x :: r) t A = x :: pick r t A := by simp [pick, h.1, h.2]
      rw [hp]
      exact (ih.append_right _).trans (by simp)
    · have hp : pick (x :: r) t A = pick r t A := by
        unfold pick
        rw [List.filter_cons]
        rw [if_neg]
        simp only [Bool.and_eq_true, decide_eq_true_eq]
        exact h
      rw [hp]
      have he : (x.to = t ∧ 0 ≤ x.letter ∧ x.letter < (A : Nat)) ↔ (x.to = t ∧ 0 ≤ x.letter ∧ x.letter < ((A + 1 : Nat) : Int)) := by omega
      simp only [he] at ih
      rw [← List.append_assoc]
      exact ih.append_right _
theorem picks_cons (x : Out) (r : List Out) : ∀ T, (picks (x :: r) T).Perm ((if (0 ≤ x.to ∧ x.to < T) ∧ 0 ≤ x.letter ∧ x.letter < 8 then [x] else []) ++ picks r T)
  | 0 => by
    have : ¬ ((0 ≤ x.to ∧ x.to < (0 : Nat)) ∧ 0 ≤ x.letter ∧ x.letter < 8) := by omega
    rw [if_neg this]
    simp [picks]
  | T + 1 => by
    rw [picks_succ, picks_succ]
    have ih := picks_cons x r T
    have hr := pickRow_cons x r T 8
    by_cases h : x.to = T ∧ 0 ≤ x.letter ∧ x.letter < 8
    · have h1 : ¬ ((0 ≤ x.to ∧ x.to < (T : Nat)) ∧ 0 ≤ x.letter ∧ x.letter < 8) := by omega
      have h2 : (0 ≤ x.to ∧ x.to < ((T + 1 : Nat) : Int)) ∧ 0 ≤ x.letter ∧ x.letter < 8 := by omega
      have h3 : x.to = T ∧ 0 ≤ x.letter ∧ x.letter < ((8 : Nat) : Int) := by omega
      rw [if_neg h1] at ih
      rw [if_pos h2]
      rw [if_pos h3] at hr
      exact (ih.append hr).trans (by simp)
    · have h3 : ¬ (x.to = T ∧ 0 ≤ x.letter ∧ x.letter < ((8 : Nat) : Int)) := by omega
      rw [if_neg h3] at hr
      have he : ((0 ≤ x.to ∧ x.to < (T : Nat)) ∧ 0 ≤ x.letter ∧ x.letter < 8) ↔ ((0 ≤ x.to ∧ x.to < ((T + 1 : Nat) : Int)) ∧ 0 ≤ x.letter ∧ x.letter < 8) := by omega
      simp only [he] at ih
      rw [← List.append_assoc]
      exact ih.append hr
/-- Right outputs: Order sorts them. -/
theorem picks_isort {l : List Out} (h : ∀ o ∈ l, (0 ≤ o.to ∧ o.to < 12) ∧ 0 ≤ o.letter ∧ o.letter < 8) : picks l 12 = isort l := by
  refine isort_of (picks_srt l 12) ?_
  induction l with
  | nil => simp [picks, pickRow, pick]
  | cons x r ih =>
    refine (picks_cons x r 12).trans ?_
    have hx := h x (by simp)
    rw [if_pos (by omega)]
    exact List.Perm.cons x (ih fun o ho => h o (by simp [ho]))

end Go.Proofs.Ytmjcjmljnliaoaa

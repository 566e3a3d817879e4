/-
  Which states are reachable: plain Lean. Within k steps; after S steps nothing new.
-/
import Derived.Test.YtmjcjmljnliaoaaDat2
set_option linter.unusedVariables false
namespace Go.Proofs.Ytmjcjmljnliaoaa
open Go.RowKit

theorem countP_lt {p q : Nat → Bool} : ∀ {l : List Nat}, (∀ x ∈ l, p x = true → q x = true) → (∃ x ∈ l, q x = true ∧ p x = false) → l.countP p < l.countP q
  | [], _, h => by obtain ⟨x, hx, _⟩ := h; cases hx
  | y :: r, h, hx => by
    obtain ⟨x, hx, h1, h2⟩ := hx
    have hle : ∀ l : List Nat, (∀ x ∈ l, p x = true → q x = true) → l.countP p ≤ l.countP q := fun l hl => List.countP_mono_left hl
    have hr := hle r fun x hx => h x (by simp [hx])
    rw [List.countP_cons, List.countP_cons]
    rcases List.mem_cons.1 hx with rfl | hx
    · simp [h1, h2]; omega
    · have ih := countP_lt (l := r) (fun x hx => h x (by simp [hx])) ⟨x, hx, h1, h2⟩
      have hy := h y (by simp)
      by_cases h3 : p y = true
      · simp [h3, hy h3]; omega
      · have h4 : p y = false := by simpa using h3
        simp [h4]
        split <;> omega

/-- Reachable from s within k steps of nx, letters below L. -/
def within (nx : Nat → Nat → Nat) (L s : Nat) : Nat → Nat → Prop
  | 0, t => t = s
  | k + 1, t => within nx L s k t ∨ ∃ u a, within nx L s k u ∧ a < L ∧ t = nx u a
def Rch (nx : Nat → Nat → Nat) (L s t : Nat) : Prop := ∃ k, within nx L s k t

section
variable {nx : Nat → Nat → Nat} {L s S : Nat}
theorem within_lt (hs : s < S) (h : ∀ u a, u < S → a < L → nx u a < S) : ∀ k t, within nx L s k t → t < S
  | 0, t, e => by cases e; exact hs
  | k + 1, t, e => by
    rcases e with e | ⟨u, a, hu, ha, rfl⟩
    · exact within_lt hs h k t e
    · exact h u a (within_lt hs h k u hu) ha
theorem within_mono {k t : Nat} (h : within nx L s k t) : ∀ j, within nx L s (k + j) t
  | 0 => h
  | j + 1 => .inl (within_mono h j)
theorem within_closed {k : Nat} (hc : ∀ t, within nx L s (k + 1) t → within nx L s k t) : ∀ j t, within nx L s (k + j) t → within nx L s k t
  | 0, t, h => h
  | j + 1, t, h => by
    rcases h with h | ⟨u, a, hu, ha, rfl⟩
    · exact within_closed hc j t h
    · exact hc _ (.inr ⟨u, a, within_closed hc j u hu, ha, rfl⟩)
open Classical in
theorem within_more (hs : s < S) (h : ∀ u a, u < S → a < L → nx u a < S) (k : Nat) (hbase : k + 1 ≤ (List.range S).countP fun t => decide (within nx L s k t)) :
    (∀ t, within nx L s (k + 1) t → within nx L s k t) ∨ k + 2 ≤ (List.range S).countP fun t => decide (within nx L s (k + 1) t) := by
  by_cases hc : ∀ t, within nx L s (k + 1) t → within nx L s k t
  · exact .inl hc
  · refine .inr ?_
    have hx : ∃ t, within nx L s (k + 1) t ∧ ¬ within nx L s k t := by
      apply Classical.byContradiction
      intro hn
      exact hc fun t ht => Classical.byContradiction fun h2 => hn ⟨t, ht, h2⟩
    obtain ⟨t, h1, h2⟩ := hx
    have hlt := countP_lt (l := List.range S) (p := fun t => decide (within nx L s k t)) (q := fun t => decide (within nx L s (k + 1) t))
      (fun x _ hp => by simp at hp ⊢; exact .inl hp) ⟨t, by simp; exact within_lt hs h _ _ h1, by simp [h1], by simp [h2]⟩
    omega
open Classical in
theorem within_count (hs : s < S) (h : ∀ u a, u < S → a < L → nx u a < S) (k : Nat) : (∀ t, within nx L s (k + 1) t → within nx L s k t) ∨ k + 2 ≤ (List.range S).countP fun t => decide (within nx L s (k + 1) t) := by
  induction k with
  | zero =>
    refine within_more hs h 0 ?_
    have : 0 < (List.range S).countP fun t => decide (within nx L s 0 t) := List.countP_pos_iff.2 ⟨s, by simp [hs], by simp [within]⟩
    omega
  | succ k ih =>
    rcases ih with hcl | hcl
    · exact .inl fun t ht => Or.inl (within_closed hcl 2 t ht)
    · exact within_more hs h (k + 1) hcl
/-- After S steps all is reached. -/
theorem rch_within (hs : s < S) (h : ∀ u a, u < S → a < L → nx u a < S) (t : Nat) : Rch nx L s t ↔ within nx L s S t := by
  refine ⟨fun ⟨k, hk⟩ => ?_, fun h => ⟨S, h⟩⟩
  have hcl : ∀ t, within nx L s (S + 1) t → within nx L s S t := by
    rcases within_count hs h S with hc | hc
    · exact hc
    · exfalso
      have := List.countP_le_length (p := fun t => Classical.propDecidable (within nx L s (S + 1) t) |>.decide) (l := List.range S)
      simp only [List.length_range] at this
      omega
  have h1 := within_mono hk S
  rw [Nat.add_comm] at h1
  exact within_closed hcl k t h1
end

end Go.Proofs.Ytmjcjmljnliaoaa

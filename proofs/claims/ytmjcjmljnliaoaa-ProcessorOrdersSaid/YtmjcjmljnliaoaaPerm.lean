/-
  An abelian processor reads a word in whatever order with the same end and the same outputs up to order.
-/
import Derived.Test.YtmjcjmljnliaoaaAbel
import Derived.Test.YtmjcjmljnliaoaaWComm
import Derived.Test.YtmjcjmljnliaoaaWSplits
import Derived.Test.YtmjcjmljnliaoaaMany
set_option linter.unusedVariables false
set_option linter.unusedSimpArgs false
namespace Go.Proofs.Ytmjcjmljnliaoaa
open Go.RowKit

/-- All letters commute in all states. -/
def AllComm (rs : List (List Rul)) (S L : Int) : Prop := ∀ s a b : Int, 0 ≤ s ∧ s < S → 0 ≤ a ∧ a < L → 0 ≤ b ∧ b < L → commB rs s a b = true

theorem read_range {S L : Int} {rs : List (List Rul)} (hV : checkErr ⟨S, L, rs⟩ 12 = 0) (l : List Int) (s : Int) (hs : 0 ≤ s ∧ s < S) (hl : ∀ a ∈ l, 0 ≤ a ∧ a < L) : 0 ≤ (readSpec rs s l).1 ∧ (readSpec rs s l).1 < S :=
  (readSpec_right (p := ⟨S, L, rs⟩) hV l s hs (letters_of hl)).1

theorem read_perm {S L : Int} {rs : List (List Rul)} (hV : checkErr ⟨S, L, rs⟩ 12 = 0) (hC : AllComm rs S L) {l m : List Int} (hp : l.Perm m) :
    (∀ a ∈ l, 0 ≤ a ∧ a < L) → ∀ s : Int, 0 ≤ s ∧ s < S → (readSpec rs s l).1 = (readSpec rs s m).1 ∧ (readSpec rs s l).2.Perm (readSpec rs s m).2 := by
  induction hp with
  | nil => intro _ s _; exact ⟨rfl, List.Perm.refl _⟩
  | cons a _ ih =>
    intro hl s hs
    have h1 := read_range hV [a] s hs (fun x hx => hl x (by simp at hx; simp [hx]))
    have h2 := ih (fun x hx => hl x (by simp [hx])) (ruleAt rs s a).next h1
    simp only [readSpec]
    exact ⟨h2.1, h2.2.append_left _⟩
  | swap a b r =>
    intro hl s hs
    have h := hC s b a hs (hl b (by simp)) (hl a (by simp))
    unfold commB at h
    simp only [Bool.and_eq_true, decide_eq_true_eq] at h
    have e1 := readSpec_app rs [b, a] r s
    have e2 := readSpec_app rs [a, b] r s
    simp only [List.cons_append, List.nil_append] at e1 e2
    rw [e1, e2]
    refine ⟨by simp only; rw [h.1], ?_⟩
    simp only
    rw [h.1]
    refine List.Perm.append_right _ ?_
    exact ((isort_perm _).symm.trans (h.2 ▸ List.Perm.refl _)).trans (isort_perm _)
  | trans h1 h2 ih1 ih2 =>
    intro hl s hs
    have a1 := ih1 hl s hs
    have a2 := ih2 (fun x hx => hl x (h1.mem_iff.2 hx)) s hs
    exact ⟨a1.1.trans a2.1, a1.2.trans a2.2⟩

theorem witB_none {f : Nat → Nat → Nat → Bool} {s a : Nat} : ∀ {n b : Nat}, witB f s a n b = none → ∀ d, b ≤ d → d < b + n → f s a d = true
  | 0, b, _, d, h1, h2 => by omega
  | n + 1, b, h, d, h1, h2 => by
    unfold witB at h
    split at h
    · rcases Nat.eq_or_lt_of_le h1 with e | e
      · subst e; assumption
      · exact witB_none h d (by omega) (by omega)
    · cases h
theorem witA_none {f : Nat → Nat → Nat → Bool} {s L : Nat} : ∀ {n a : Nat}, witA f s L n a = none → ∀ c d, a ≤ c → c < a + n → d < L → f s c d = true
  | 0, b, _, c, d, h1, h2, _ => by omega
  | n + 1, a, h, c, d, h1, h2, h3 => by
    unfold witA at h
    rw [Option.or_eq_none_iff] at h
    rcases Nat.eq_or_lt_of_le h1 with e | e
    · subst e; exact witB_none h.1 d (by omega) (by omega)
    · exact witA_none h.2 c d (by omega) (by omega) h3
theorem witS_none {f : Nat → Nat → Nat → Bool} {L : Nat} : ∀ {n s : Nat}, witS f L n s = none → ∀ t c d, s ≤ t → t < s + n → c < L → d < L → f t c d = true
  | 0, b, _, t, c, d, h1, h2, _, _ => by omega
  | n + 1, s, h, t, c, d, h1, h2, h3, h4 => by
    unfold witS at h
    rw [Option.or_eq_none_iff] at h
    rcases Nat.eq_or_lt_of_le h1 with e | e
    · subst e; exact witA_none h.1 c d (by omega) (by omega) h4
    · exact witS_none h.2 t c d (by omega) (by omega) h3 h4
theorem witB_some {f : Nat → Nat → Nat → Bool} {s a : Nat} {x : Nat × Nat × Nat} : ∀ {n b : Nat}, witB f s a n b = some x → ∃ d, x = (s, a, d) ∧ d < b + n ∧ f s a d = false
  | 0, b, h => by simp [witB] at h
  | n + 1, b, h => by
    unfold witB at h
    split at h
    · obtain ⟨d, h1, h2, h3⟩ := witB_some h; exact ⟨d, h1, by omega, h3⟩
    · rename_i hf
      injection h with h
      exact ⟨b, h.symm, by omega, by simpa using hf⟩
theorem witA_some {f : Nat → Nat → Nat → Bool} {s L : Nat} {x : Nat × Nat × Nat} : ∀ {n a : Nat}, witA f s L n a = some x → ∃ c d, x = (s, c, d) ∧ c < a + n ∧ d < L ∧ f s c d = false
  | 0, b, h => by simp [witA] at h
  | n + 1, a, h => by
    unfold witA at h
    rw [Option.or_eq_some_iff] at h
    rcases h with h | ⟨_, h⟩
    · obtain ⟨d, h1, h2, h3⟩ := witB_some h; exact ⟨a, d, h1, by omega, by omega, h3⟩
    · obtain ⟨c, d, h1, h2, h3⟩ := witA_some h; exact ⟨c, d, h1, by omega, h3⟩
theorem witS_some {f : Nat → Nat → Nat → Bool} {L : Nat} {x : Nat × Nat × Nat} : ∀ {n s : Nat}, witS f L n s = some x → ∃ t c d, x = (t, c, d) ∧ t < s + n ∧ c < L ∧ d < L ∧ f t c d = false
  | 0, b, h => by simp [witS] at h
  | n + 1, s, h => by
    unfold witS at h
    rw [Option.or_eq_some_iff] at h
    rcases h with h | ⟨_, h⟩
    · obtain ⟨c, d, h1, h2, h3, h4⟩ := witA_some h; exact ⟨s, c, d, h1, by omega, by omega, h3, h4⟩
    · obtain ⟨t, c, d, h1, h2, h3⟩ := witS_some h; exact ⟨t, c, d, h1, by omega, h3⟩

/-- What Abelian says. -/
theorem abel_yes {S L : Int} {rs : List (List Rul)} (hV : checkErr ⟨S, L, rs⟩ 12 = 0) (h : (abelRes ⟨S, L, rs⟩).1 = true) : AllComm rs S L := by
  intro s a b hs ha hb
  simp only [abelRes, hV, if_true] at h
  obtain ⟨s', rfl⟩ := Int.eq_ofNat_of_zero_le hs.1
  obtain ⟨a', rfl⟩ := Int.eq_ofNat_of_zero_le ha.1
  obtain ⟨b', rfl⟩ := Int.eq_ofNat_of_zero_le hb.1
  exact witS_none (f := commN rs) (Option.isNone_iff_eq_none.1 h) s' a' b' (by omega) (by omega) (by omega) (by omega)
theorem abel_no {S L : Int} {rs : List (List Rul)} (hV : checkErr ⟨S, L, rs⟩ 12 = 0) (h : (abelRes ⟨S, L, rs⟩).1 = false) :
    ∃ s a b : Nat, (abelRes ⟨S, L, rs⟩).2.1 = [(s : Int), (a : Int), (b : Int)] ∧ (s : Int) < S ∧ (a : Int) < L ∧ (b : Int) < L ∧ commB rs s a b = false := by
  simp only [abelRes, hV, if_true] at h ⊢
  cases hw : witS (commN rs) L.toNat S.toNat 0 with
  | none => rw [hw] at h; cases h
  | some x =>
    obtain ⟨t, c, d, rfl, h1, h2, h3, h4⟩ := witS_some hw
    exact ⟨t, c, d, rfl, by omega, by omega, by omega, h4⟩

/-- The counts of a word's letters. -/
def tally (L : Nat) (l : List Int) : List Int := (List.range L).map fun a : Nat => (l.count (a : Int) : Int)
theorem tally_len (L : Nat) (l : List Int) : (tally L l).length = L := by simp [tally]
theorem tally_nil (L : Nat) : tally L [] = List.replicate L 0 := by
  apply List.ext_getElem?
  intro i
  simp only [tally, List.getElem?_map, List.getElem?_replicate]
  by_cases h : i < L
  · simp [h]
  · simp [h]
theorem tally_get {L : Nat} {l : List Int} {a : Nat} (h : a < L) : (tally L l)[a]? = some (l.count (a : Int) : Int) := by simp [tally, h]
theorem tally_snoc {L : Nat} (l : List Int) {a : Nat} (h : a < L) : tally L (l ++ [(a : Int)]) = (tally L l).set a ((l.count (a : Int) : Int) + 1) := by
  apply List.ext_getElem?
  intro i
  by_cases hi : i < L
  · by_cases e : a = i
    · subst e
      rw [List.getElem?_set_self (by rw [tally_len]; exact h), tally_get h]
      simp
    · rw [List.getElem?_set_ne e, tally_get hi, tally_get hi]
      have : ¬ ((a : Int) = (i : Int)) := by omega
      simp [List.count_append, List.count_cons, this]
  · rw [List.getElem?_eq_none (by simp [tally_len]; omega), List.getElem?_eq_none (by simp [tally_len]; omega)]
theorem wordFrom_count : ∀ (cs : List Int) (k : Nat) (x : Int), (wordFrom k cs).count x = if (k : Int) ≤ x ∧ x < k + cs.length then (cs.getD (x - k).toNat 0).toNat else 0
  | [], k, x => by
    simp only [wordFrom, List.length_nil]
    rw [if_neg (by simp)]
    rfl
  | n :: r, k, x => by
    rw [wordFrom, List.count_append, wordFrom_count r (k + 1) x]
    simp only [List.length_cons]
    by_cases h0 : x = k
    · subst h0
      rw [if_neg (by omega), if_pos (by omega)]
      simp
    · have hne : ¬ ((k : Int) = x) := fun e => h0 e.symm
      rw [List.count_replicate]
      simp only [beq_iff_eq, hne, if_false, Nat.zero_add]
      by_cases h1 : ((k + 1 : Nat) : Int) ≤ x ∧ x < (k + 1 : Nat) + (r.length : Int)
      · rw [if_pos h1, if_pos (by omega)]
        obtain ⟨d, hd⟩ : ∃ d : Nat, (x - (k + 1 : Nat)).toNat = d := ⟨_, rfl⟩
        rw [hd, show (x - (k : Int)).toNat = d + 1 from by omega]
        simp
      · rw [if_neg h1, if_neg (by omega)]
theorem wordFrom_perm {L : Nat} {l : List Int} (hl : ∀ a ∈ l, 0 ≤ a ∧ a < L) : (wordFrom 0 (tally L l)).Perm l := by
  rw [List.perm_iff_count]
  intro x
  rw [wordFrom_count, tally_len]
  split
  · rename_i h
    obtain ⟨n, rfl⟩ := Int.eq_ofNat_of_zero_le (show 0 ≤ x by omega)
    have hn : n < L := by omega
    have h2 := tally_get (l := l) hn
    rw [List.getD_eq_getElem?_getD, show ((n : Int) - ((0 : Nat) : Int)).toNat = n from by omega, h2]
    simp
  · rename_i h
    exact (List.count_eq_zero.2 fun hx => h (by have := hl x hx; omega)).symm

theorem many_perm {S L s : Int} {rs : List (List Rul)} {word : List Int} (h : RightP S L s rs word) (hC : AllComm rs S L) (l : List Int) (hp : l.Perm word) :
    manyRes ⟨S, L, rs⟩ s (tally L.toNat word) = ((readSpec rs s l).1, isort (readSpec rs s l).2, 0) := by
  obtain ⟨hV, hs, h40, hl⟩ := h
  have hL := (check_zero hV).2.2.1
  simp at hL
  have hlet := letters_zero hl
  have hlet2 : ∀ a ∈ word, 0 ≤ a ∧ a < L.toNat := fun a ha => by have := hlet a ha; omega
  have hwp := wordFrom_perm hlet2
  have hse : stateErr ⟨S, L, rs⟩ s = 0 := by
    have : belowB s S = true := by simp [belowB]; omega
    simp [stateErr, hV, this]
  have hneg : negB (tally L.toNat word) = false := by
    unfold negB
    rw [List.any_eq_false]
    intro x hx
    simp only [tally, List.mem_map] at hx
    obtain ⟨a, _, rfl⟩ := hx
    simp
  have hme : manyErr L (tally L.toNat word) = 0 := by
    unfold manyErr
    rw [tally_len, if_pos (by omega), hneg]
    have := hwp.length_eq
    simp
    omega
  have hq := read_perm hV hC (hwp.trans hp.symm) (fun a ha => hlet a (hwp.mem_iff.1 ha)) s hs
  simp only [manyRes, hse, hme, if_true]
  rw [hq.1, isort_perm_eq hq.2]

end Go.Proofs.Ytmjcjmljnliaoaa

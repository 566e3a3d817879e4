/-
  The order of outputs, and sorting: plain Lean.
-/
import Derived.Test.YtmjcjmljnliaoaaDat2
namespace Go.Proofs.Ytmjcjmljnliaoaa
open Go.RowKit

def cmpI (x y : Int) : Int := if x < y then -1 else if y < x then 1 else 0
def cmpO (a b : Out) : Int := if cmpI a.to b.to = 0 then cmpI a.letter b.letter else cmpI a.to b.to
def leO (a b : Out) : Prop := a.to < b.to ∨ (a.to = b.to ∧ a.letter ≤ b.letter)
instance (a b : Out) : Decidable (leO a b) := by unfold leO; infer_instance

theorem cmpO_neg {a b : Out} : cmpO a b < 0 ↔ ¬ leO b a := by
  unfold cmpO cmpI leO
  by_cases h1 : a.to < b.to <;> by_cases h2 : b.to < a.to <;> by_cases h3 : a.letter < b.letter <;> by_cases h4 : b.letter < a.letter <;> simp [h1, h2, h3, h4] <;> omega
theorem leO_refl (a : Out) : leO a a := .inr ⟨rfl, Int.le_refl _⟩
theorem leO_trans {a b c : Out} (h : leO a b) (k : leO b c) : leO a c := by unfold leO at *; omega
theorem leO_total (a b : Out) : leO a b ∨ leO b a := by unfold leO; omega
theorem leO_antisymm {a b : Out} (h : leO a b) (k : leO b a) : a = b := by
  obtain ⟨t, l⟩ := a
  obtain ⟨t', l'⟩ := b
  unfold leO at *
  simp only [Out.mk.injEq] at *
  omega

def ins (x : Out) : List Out → List Out
  | [] => [x]
  | y :: r => if leO x y then x :: y :: r else y :: ins x r
def isort : List Out → List Out
  | [] => []
  | x :: r => ins x (isort r)
abbrev Srt (l : List Out) : Prop := l.Pairwise leO

theorem ins_perm (x : Out) : ∀ l, (ins x l).Perm (x :: l)
  | [] => List.Perm.refl _
  | y :: r => by
    unfold ins
    split
    · exact List.Perm.refl _
    · exact (List.Perm.cons y (ins_perm x r)).trans (List.Perm.swap x y r)
theorem isort_perm : ∀ l, (isort l).Perm l
  | [] => List.Perm.refl _
  | x :: r => (ins_perm x _).trans (List.Perm.cons x (isort_perm r))
theorem isort_length (l : List Out) : (isort l).length = l.length := (isort_perm l).length_eq
theorem ins_srt (x : Out) : ∀ {l}, Srt l → Srt (ins x l)
  | [], _ => by simp [ins]
  | y :: r, h => by
    unfold ins
    have hy := List.pairwise_cons.1 h
    split
    · rename_i hle
      refine List.pairwise_cons.2 ⟨fun z hz => ?_, h⟩
      rcases List.mem_cons.1 hz with rfl | hz
      · exact hle
      · exact leO_trans hle (hy.1 z hz)
    · rename_i hle
      refine List.pairwise_cons.2 ⟨fun z hz => ?_, ins_srt x hy.2⟩
      have hz2 := (ins_perm x r).mem_iff.1 hz
      rcases List.mem_cons.1 hz2 with rfl | hz2
      · exact (leO_total z y).resolve_left hle
      · exact hy.1 z hz2
theorem isort_srt : ∀ l, Srt (isort l)
  | [] => List.Pairwise.nil
  | x :: r => ins_srt x (isort_srt r)
theorem srt_unique : ∀ {l l' : List Out}, Srt l → Srt l' → l.Perm l' → l = l'
  | [], l', _, _, h => by simpa using h.length_eq.symm
  | x :: r, [], _, _, h => by simpa using h.length_eq
  | x :: r, y :: r', h, h', hp => by
    have hx := List.pairwise_cons.1 h
    have hy := List.pairwise_cons.1 h'
    have hxy : x = y := by
      have m1 := hp.mem_iff.1 (List.mem_cons_self (a := x) (l := r))
      have m2 := hp.mem_iff.2 (List.mem_cons_self (a := y) (l := r'))
      rcases List.mem_cons.1 m1 with e | m1
      · exact e
      · rcases List.mem_cons.1 m2 with e | m2
        · exact e.symm
        · exact leO_antisymm (hx.1 _ m2) (hy.1 _ m1)
    subst hxy
    rw [srt_unique hx.2 hy.2 ((List.perm_cons x).1 hp)]
theorem isort_of {l l' : List Out} (h : Srt l) (hp : l.Perm l') : l = isort l' := srt_unique h (isort_srt l') (hp.trans (isort_perm l').symm)
theorem isort_id {l : List Out} (h : Srt l) : isort l = l := (isort_of h (List.Perm.refl _)).symm
theorem isort_perm_eq {l l' : List Out} (h : l.Perm l') : isort l = isort l' := isort_of (isort_srt l) ((isort_perm l).trans h)
theorem isort_join {l l' : List Out} (h : ∀ x ∈ l, ∀ y ∈ l', leO x y) : isort l ++ isort l' = isort (l ++ l') :=
  isort_of (List.pairwise_append.2 ⟨isort_srt l, isort_srt l', fun x hx y hy => h x ((isort_perm l).mem_iff.1 hx) y ((isort_perm l').mem_iff.1 hy)⟩) ((isort_perm l).append (isort_perm l'))
/-- One more element, inserted from the right. -/
theorem isort_snoc (l : List Out) (x : Out) : isort (l ++ [x]) = ins x (isort l) :=
  (isort_of (ins_srt x (isort_srt l)) ((ins_perm x _).trans ((List.Perm.cons x (isort_perm l)).trans (List.perm_append_comm (l₁ := [x]) (l₂ := l))))).symm

end Go.Proofs.Ytmjcjmljnliaoaa

/-
  Plain facts on right processors, and what reading a word comes to.
-/
import Derived.Test.YtmjcjmljnliaoaaData
import Derived.Test.YtmjcjmljnliaoaaOwn
namespace Go.Proofs.Ytmjcjmljnliaoaa
open Go.RowKit

def ruleAt (rs : List (List Rul)) (s a : Int) : Rul := (rs.getD s.toNat []).getD a.toNat ⟨0, []⟩
def readSpec (rs : List (List Rul)) : Int → List Int → Int × List Out
  | s, [] => (s, [])
  | s, a :: r => ((readSpec rs (ruleAt rs s a).next r).1, (ruleAt rs s a).sent ++ (readSpec rs (ruleAt rs s a).next r).2)

theorem sentErr_zero {N : Int} : ∀ {l : List Out}, sentErr N l = 0 → ∀ o ∈ l, (0 ≤ o.to ∧ o.to < N) ∧ 0 ≤ o.letter ∧ o.letter < 8
  | [], _, o, ho => by cases ho
  | x :: r, h, o, ho => by
    unfold sentErr at h
    split at h
    · rename_i hx
      simp [belowB] at hx
      rcases List.mem_cons.1 ho with rfl | ho
      · exact ⟨hx.1, hx.2⟩
      · exact sentErr_zero h o ho
    · cases h
theorem ruleErr_zero {S N : Int} {r : Rul} (h : ruleErr S N r = 0) : (0 ≤ r.next ∧ r.next < S) ∧ r.sent.length ≤ 16 ∧ ∀ o ∈ r.sent, (0 ≤ o.to ∧ o.to < N) ∧ 0 ≤ o.letter ∧ o.letter < 8 := by
  unfold ruleErr at h
  split at h
  · rename_i hx
    split at h
    · simp [belowB] at hx
      exact ⟨hx, by assumption, sentErr_zero h⟩
    · cases h
  · cases h
theorem rowErr_zero {S N : Int} : ∀ {l : List Rul}, rowErr S N l = 0 → ∀ r ∈ l, ruleErr S N r = 0
  | [], _, o, ho => by cases ho
  | x :: r, h, o, ho => by
    unfold rowErr at h
    split at h
    · rcases List.mem_cons.1 ho with rfl | ho
      · assumption
      · exact rowErr_zero h o ho
    · rename_i hx; exact absurd h hx
theorem rowsErr_zero {S L N : Int} : ∀ {l : List (List Rul)}, rowsErr S L N l = 0 → ∀ r ∈ l, (r.length : Int) = L ∧ rowErr S N r = 0
  | [], _, o, ho => by cases ho
  | x :: r, h, o, ho => by
    unfold rowsErr at h
    split at h
    · split at h
      · rcases List.mem_cons.1 ho with rfl | ho
        · exact ⟨by assumption, by assumption⟩
        · exact rowsErr_zero h o ho
      · rename_i hx; exact absurd h hx
    · cases h
theorem check_zero {p : Prc} {N : Int} (h : checkErr p N = 0) : (1 ≤ N ∧ N ≤ 12) ∧ (1 ≤ p.states ∧ p.states ≤ 16) ∧ (1 ≤ p.letters ∧ p.letters ≤ 8) ∧ (p.rules.length : Int) = p.states ∧ rowsErr p.states p.letters N p.rules = 0 := by
  unfold checkErr at h
  split at h
  · cases h
  split at h
  · cases h
  split at h
  · cases h
  · exact ⟨by omega, by omega, by omega, by omega, h⟩
theorem valid_row {p : Prc} {N : Int} (h : checkErr p N = 0) {i : Nat} {row : List Rul} (hi : p.rules[i]? = some row) : (row.length : Int) = p.letters :=
  (rowsErr_zero (check_zero h).2.2.2.2 row (List.mem_of_getElem? hi)).1
theorem valid_rule {p : Prc} {N : Int} (h : checkErr p N = 0) {i j : Nat} {row : List Rul} {r : Rul} (hi : p.rules[i]? = some row) (hj : row[j]? = some r) :
    (0 ≤ r.next ∧ r.next < p.states) ∧ r.sent.length ≤ 16 ∧ ∀ o ∈ r.sent, (0 ≤ o.to ∧ o.to < N) ∧ 0 ≤ o.letter ∧ o.letter < 8 :=
  ruleErr_zero (rowErr_zero (rowsErr_zero (check_zero h).2.2.2.2 row (List.mem_of_getElem? hi)).2 r (List.mem_of_getElem? hj))
theorem letters_zero {L : Int} : ∀ {l : List Int}, lettersErr L l = 0 → ∀ a ∈ l, 0 ≤ a ∧ a < L
  | [], _, o, ho => by cases ho
  | x :: r, h, o, ho => by
    unfold lettersErr at h
    split at h
    · rename_i hx
      simp [belowB] at hx
      rcases List.mem_cons.1 ho with rfl | ho
      · exact hx
      · exact letters_zero h o ho
    · cases h
theorem letters_at {L : Int} {l : List Int} (h : lettersErr L l = 0) {i : Nat} {a : Int} (hi : l[i]? = some a) : 0 ≤ a ∧ a < L := letters_zero h a (List.mem_of_getElem? hi)
theorem ruleAt_eq {rs : List (List Rul)} {s a : Nat} {row : List Rul} {r : Rul} (hi : rs[s]? = some row) (hj : row[a]? = some r) : ruleAt rs (s : Int) (a : Int) = r := by
  simp [ruleAt, hi, hj]
/-- One letter more has been read. -/
theorem read_step {rs : List (List Rul)} {s0 : Int} {word : List Int} {s a k : Nat} {out : List Out} {row : List Rul} {nx : Int} {st : List Out}
    (he : readSpec rs s0 word = ((readSpec rs (s : Int) (word.drop k)).1, out ++ (readSpec rs (s : Int) (word.drop k)).2)) (hd : word.drop k = (a : Int) :: word.drop (k + 1))
    (hi : rs[s]? = some row) (hj : row[a]? = some ⟨nx, st⟩) : readSpec rs s0 word = ((readSpec rs nx (word.drop (k + 1))).1, (out ++ st) ++ (readSpec rs nx (word.drop (k + 1))).2) := by
  rw [he, hd, readSpec, ruleAt_eq hi hj, List.append_assoc]
theorem read_end {rs : List (List Rul)} {s0 : Int} {word : List Int} {s k : Nat} {out : List Out}
    (he : readSpec rs s0 word = ((readSpec rs (s : Int) (word.drop k)).1, out ++ (readSpec rs (s : Int) (word.drop k)).2)) (hk : word.length ≤ k) : readSpec rs s0 word = ((s : Int), out) := by
  rw [he, List.drop_eq_nil_of_le hk]
  simp [readSpec]

end Go.Proofs.Ytmjcjmljnliaoaa

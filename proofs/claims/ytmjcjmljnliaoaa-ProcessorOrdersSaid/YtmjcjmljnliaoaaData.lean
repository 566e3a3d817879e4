/-
  The data of the chapters on processors and networks, as plain Lean; how they lie in memory.
-/
import Derived.Test.YtmjcjmljnliaoaaBase
namespace Go.Proofs.Ytmjcjmljnliaoaa
open Go.RowKit

structure Out where
  to : Int
  letter : Int
  deriving DecidableEq
structure Rul where
  next : Int
  sent : List Out
  deriving DecidableEq
structure Prc where
  states : Int
  letters : Int
  rules : List (List Rul)
  deriving DecidableEq
structure Nwk where
  procs : List Prc
  state : List Int
  waiting : List (List Int)
  deriving DecidableEq

def outR : Rep Out := fun _ _ cs x => cs = [.int .i64 x.to, .int .i64 x.letter] ∧ I64 x.to ∧ I64 x.letter
def ruleR : Rep Rul := fun F w cs r => ∃ oa c, cs = [.int .i64 r.next, .slice oa r.sent.length c] ∧ I64 r.next ∧ r.sent.length ≤ c ∧ r.sent.length ≤ 9223372036854775807 ∧ SliceR outR 2 F w oa r.sent
def prcR : Rep Prc := fun F w cs p => ∃ oa c, cs = [.int .i64 p.states, .int .i64 p.letters, .slice oa p.rules.length c] ∧ I64 p.states ∧ I64 p.letters ∧ p.rules.length ≤ c ∧ p.rules.length ≤ 9223372036854775807 ∧ SliceR (slcR ruleR 2) 1 F w oa p.rules

theorem outR_ok : RepOk outR 2 where
  len := by rintro F w cs x ⟨rfl, _⟩; rfl
  one := by rintro F w cs x ⟨rfl, _⟩ u hu; simp at hu; rcases hu with rfl | rfl <;> rfl
  keep := by rintro F w w' cs x h _; exact h
  wide := by rintro F F' w cs x h _; exact h
theorem ruleR_ok : RepOk ruleR 2 where
  len := by rintro F w cs x ⟨oa, c, rfl, _⟩; rfl
  one := by rintro F w cs x ⟨oa, c, rfl, _⟩ u hu; simp at hu; rcases hu with rfl | rfl <;> rfl
  keep := by rintro F w w' cs x ⟨oa, c, rfl, h0, h1, h2, h⟩ hs; exact ⟨oa, c, rfl, h0, h1, h2, h.keep outR_ok hs⟩
  wide := by rintro F F' w cs x ⟨oa, c, rfl, h0, h1, h2, h⟩ hs; exact ⟨oa, c, rfl, h0, h1, h2, h.wide outR_ok (by omega) hs⟩
theorem rowR_ok : RepOk (slcR ruleR 2) 1 := slcR_ok ruleR_ok (by omega)
theorem prcR_ok : RepOk prcR 3 where
  len := by rintro F w cs x ⟨oa, c, rfl, _⟩; rfl
  one := by rintro F w cs x ⟨oa, c, rfl, _⟩ u hu; simp at hu; rcases hu with rfl | rfl | rfl <;> rfl
  keep := by rintro F w w' cs x ⟨oa, c, rfl, h0, h00, h1, h2, h⟩ hs; exact ⟨oa, c, rfl, h0, h00, h1, h2, h.keep rowR_ok hs⟩
  wide := by rintro F F' w cs x ⟨oa, c, rfl, h0, h00, h1, h2, h⟩ hs; exact ⟨oa, c, rfl, h0, h00, h1, h2, h.wide rowR_ok (by omega) hs⟩

section
variable {F : Foot} {w : World} {oa : Option Addr}
theorem SliceR.out_at {xs : List Out} (h : SliceR outR 2 F w oa xs) {i : Nat} (hi : i < xs.length) :
    ∃ t l, xs.drop i = ⟨t, l⟩ :: xs.drop (i + 1) ∧ xs[i]? = some ⟨t, l⟩ ∧ I64 t ∧ I64 l ∧ ∃ b off, oa = some ⟨b, off, none⟩ ∧ F b ∧ w.cell? ⟨b, off + i * 2, none⟩ = some (.int .i64 t) ∧ w.cell? ⟨b, off + i * 2 + 1, none⟩ = some (.int .i64 l) := by
  obtain ⟨⟨t, l⟩, h1, h2, b, off, cs, h3, h4, ⟨rfl, h5, h5'⟩, h6⟩ := h.at hi
  exact ⟨t, l, h1, h2, h5, h5', b, off, h3, h4, by simpa using h6 0 _ rfl, by simpa using h6 1 _ rfl⟩
theorem SliceR.rule_at {xs : List Rul} (h : SliceR ruleR 2 F w oa xs) {i : Nat} (hi : i < xs.length) :
    ∃ nx st, xs.drop i = ⟨nx, st⟩ :: xs.drop (i + 1) ∧ xs[i]? = some ⟨nx, st⟩ ∧ I64 nx ∧ ∃ b off oa' c, oa = some ⟨b, off, none⟩ ∧ F b ∧ w.cell? ⟨b, off + i * 2, none⟩ = some (.int .i64 nx) ∧ w.cell? ⟨b, off + i * 2 + 1, none⟩ = some (.slice oa' st.length c) ∧ st.length ≤ c ∧ st.length ≤ 9223372036854775807 ∧ SliceR outR 2 F w oa' st := by
  obtain ⟨⟨nx, st⟩, h1, h2, b, off, cs, h3, h4, ⟨oa', c, rfl, h5, h7, h8, h9⟩, h6⟩ := h.at hi
  exact ⟨nx, st, h1, h2, h5, b, off, oa', c, h3, h4, by simpa using h6 0 _ rfl, by simpa using h6 1 _ rfl, h7, h8, h9⟩
end

/- The specifications of layer 54. -/
def belowB (n b : Int) : Bool := decide (0 ≤ n) && decide (n < b)
def sentErr (N : Int) : List Out → Int
  | [] => 0
  | x :: r => if belowB x.to N && belowB x.letter 8 then sentErr N r else 2
def ruleErr (states N : Int) (r : Rul) : Int := if belowB r.next states then (if r.sent.length ≤ 16 then sentErr N r.sent else 5) else 2
def rowErr (states N : Int) : List Rul → Int
  | [] => 0
  | r :: l => if ruleErr states N r = 0 then rowErr states N l else ruleErr states N r
def rowsErr (states letters N : Int) : List (List Rul) → Int
  | [] => 0
  | l :: r => if (l.length : Int) = letters then (if rowErr states N l = 0 then rowsErr states letters N r else rowErr states N l) else 8
def checkErr (p : Prc) (N : Int) : Int :=
  if N < 1 ∨ N > 12 then 1
  else if p.states < 1 ∨ p.states > 16 ∨ p.letters < 1 ∨ p.letters > 8 then 2
  else if (p.rules.length : Int) ≠ p.states then 8
  else rowsErr p.states p.letters N p.rules

theorem not_err {a : Int} (h : a ≠ 0) : (a != 0) = true := by simp [h]
theorem is_err {a : Int} (h : a = 0) : (a != 0) = false := by simp [h]
def unaryRes (p : Prc) : Bool × Int := if checkErr p 12 = 0 then (p.letters == 1, 0) else (false, checkErr p 12)
def stateErr (p : Prc) (s : Int) : Int := if checkErr p 12 = 0 then (if belowB s p.states then 0 else 2) else checkErr p 12
def lettersErr (L : Int) : List Int → Int
  | [] => 0
  | a :: r => if belowB a L then lettersErr L r else 2
def SomeBool (w : World) (e : Ending) (w' : World) : Prop := ∃ b, e = .returned (.bool b) ∧ Below w.heap.size w w'

end Go.Proofs.Ytmjcjmljnliaoaa

/-
  Representation of Go data in the model's memory: a value's cells stand for a Lean datum. No program is named here.
  The data of the chapters on processors and networks, as plain Lean; how they lie in memory.
  From the reading of an argument to the list or the structure that it stands for.
  Graphs as plain Lean; how they lie in memory; which are right.
  From the reading of an argument to the representations: a ribbon graph, a place, a game.
  From the reading of an argument to the representations: a graph, a divisor, a sink with rotors and chips, a divisor with picks.
  Slices that a call itself makes: what they own, what an append does, how they read afterwards. No program is named here.
  A row of the call's own, one cell an element, that is known whole: read, written in place. No program is named here.
  make([]T, n) and copy(d, s) at elements of several cells: the copy is the call's own.
  append of one element to a list of the call's own whose elements hold data in other rows: these lie in P, and not in the list's own row.
  The wire machine in plain Lean: packets over lines that lose, repeat and delay them; what is quiet remains so.
  A list of integers that the call made and from whose front it takes: 'work = work[1:]', 'work = append(work, x)'.
  A list of integers of the call's own, nil or not; many such lists side by side. No program is named here.
  A block of the call's own that is known whole: a boxed variable, struct or array. No program is named here.
  The wire machine in memory: what lies where, and what a store of each kind does.
  The wire machine in memory: what a call of one of its functions leaves alone; wait.
  The wire machine while it is laid: what lies where, row by row.
  A table of rows of ints that the code makes row by row, and whose numbers it changes.
  Plain facts on right processors, and what reading a word comes to.
  Networks of processors: the error of a network, in plain Lean; what a right one holds.
  The walks of package processor: below, sent, rule, Check.
  network.Check.
  The reference of networks: understood, waits.
  The walks of the reference of layer 54: rule, Check.
  The walk of the reference of layer 54: Check.
  The reference of networks: Check.
  A slice that the call has just made, and that holds nothing yet.
  The order of outputs, and sorting: plain Lean.
  The closures that compare outputs.
  A row of outputs that is sorted in place: the insertion sort.
  Reading a word: the program and the reference.
  slices.Clone of outputs; sorting a small list.
  sorted: a copy of a list of outputs, in order; here for lists of fewer than 20 elements, whose sort is one insertion sort.
  What the reference's Order comes to is the list in order.
  The reference's Order.
  Two lists of outputs, two lists of ints: SameOutputs, SameInts.
  slices.Equal of ints.
  slices.Equal of outputs and of ints.
  Slices that a literal lays.
  Unary, state: the program and the reference.
  Unary, state: the reference.
  letters: the program and the reference; Few.
  Run: the program and the reference.
  Step: the program and the reference.
  commute, Commuting.
  Abelian: the program and the reference.
-/
import Derived.WalkKit
import Derived.WalkSpells
import Derived.WalkLawsBesides
import Derived.KernelRfl
import Derived.Test.YtnigfddanoaonaaGreatProg
import Derived.ProofKit
import Derived.Deep.Slices
import Derived.Lib.RowBridge
import Derived.OwnWalk
import Derived.Laws.CopyOwn
import Derived.Deep.AppendLies
import Derived.ArgAppend
import Derived.BigQuiet
import Derived.Deep.QuietTactic
import Derived.StillTailTactics
import Derived.Deep.RegionHeld3

namespace Go.Proofs.YtnigfddanoaonaaGreat
open Go.RowKit

abbrev Foot := Nat → Prop
abbrev Rep (α : Type) := Foot → World → List Value → α → Prop
def All : Foot := fun _ => True
def Lt (B : Nat) : Foot := fun k => k < B
def Ge (B : Nat) : Foot := fun k => B ≤ k

def SameOn (F : Foot) (w w' : World) : Prop := ∀ k, F k → k < w.heap.size → w'.heap[k]? = w.heap[k]?

theorem SameOn.refl (F : Foot) (w : World) : SameOn F w w := fun _ _ _ => rfl
theorem SameOn.of_below {F : Foot} {w w' : World} (h : Below w.heap.size w w') : SameOn F w w' := fun k _ hk => h.block k hk
structure RepOk {α : Type} (R : Rep α) (sz : Nat) : Prop where
  len : ∀ {F w cs x}, R F w cs x → cs.length = sz
  one : ∀ {F w cs x}, R F w cs x → ∀ u ∈ cs, u.oneCell' = true
  keep : ∀ {F w w' cs x}, R F w cs x → SameOn F w w' → R F w' cs x
  wide : ∀ {F F' w cs x}, R F w cs x → (∀ k, F k → k < w.heap.size → F' k) → R F' w cs x

def I64 (x : Int) : Prop := -9223372036854775808 ≤ x ∧ x ≤ 9223372036854775807

def intR : Rep Int := fun _ _ cs x => cs = [.int .i64 x] ∧ I64 x
def boolR : Rep Bool := fun _ _ cs x => cs = [.bool x]

theorem intR_ok : RepOk intR 1 where
  len := by rintro F w cs x ⟨rfl, _⟩; rfl
  one := by rintro F w cs x ⟨rfl, _⟩ u hu; simp at hu; subst hu; rfl
  keep := by rintro F w w' cs x h _; exact h
  wide := by rintro F F' w cs x h _; exact h
/-- The address oa holds, from its place on, the elements xs, sz cells each. -/
def SliceR {α : Type} (R : Rep α) (sz : Nat) (F : Foot) (w : World) (oa : Option Addr) (xs : List α) : Prop :=
  ∀ i x, xs[i]? = some x → ∃ b off cs, oa = some ⟨b, off, none⟩ ∧ F b ∧ R F w cs x ∧ ∀ j u, cs[j]? = some u → w.cell? ⟨b, off + i * sz + j, none⟩ = some u

section
variable {α : Type} {R : Rep α} {sz : Nat} {F F' : Foot} {w w' : World} {oa : Option Addr} {xs : List α}

theorem SliceR.nil (R : Rep α) (sz : Nat) (F : Foot) (w : World) (oa : Option Addr) : SliceR R sz F w oa [] := by intro i x h; simp at h

theorem SliceR.keep (ok : RepOk R sz) (h : SliceR R sz F w oa xs) (hs : SameOn F w w') : SliceR R sz F w' oa xs := by
  intro i x hx
  obtain ⟨b, off, cs, rfl, hF, hR, hc⟩ := h i x hx
  refine ⟨b, off, cs, rfl, hF, ok.keep hR hs, fun j u hu => ?_⟩
  have h1 := hc j u hu
  have hb : b < w.heap.size := World.block_lt_of_cell? _ _ h1
  rw [World.cell?_of_block (hs b hF hb)]
  exact h1

theorem SliceR.below (ok : RepOk R sz) (h : SliceR R sz F w oa xs) (hb : Below w.heap.size w w') : SliceR R sz F w' oa xs := h.keep ok (SameOn.of_below hb)

theorem SliceR.wide (ok : RepOk R sz) (hsz : 0 < sz) (h : SliceR R sz F w oa xs) (hs : ∀ k, F k → k < w.heap.size → F' k) : SliceR R sz F' w oa xs := by
  intro i x hx
  obtain ⟨b, off, cs, rfl, hF, hR, hc⟩ := h i x hx
  have hl := ok.len hR
  have h0 : cs[0]? = some (cs[0]'(by omega)) := List.getElem?_eq_getElem (by omega)
  exact ⟨b, off, cs, rfl, hs b hF (World.block_lt_of_cell? _ _ (hc 0 _ h0)), ok.wide hR hs, hc⟩

theorem SliceR.loc (ok : RepOk R sz) (hsz : 0 < sz) (h : SliceR R sz F w oa xs) : SliceR R sz (Lt w.heap.size) w oa xs := h.wide ok hsz fun _ _ hk => hk
theorem SliceR.all (ok : RepOk R sz) (hsz : 0 < sz) (h : SliceR R sz F w oa xs) : SliceR R sz All w oa xs := h.wide ok hsz fun _ _ _ => trivial

/-- The element at i, with what is left of the list. -/
theorem SliceR.at (h : SliceR R sz F w oa xs) {i : Nat} (hi : i < xs.length) :
    ∃ x, xs.drop i = x :: xs.drop (i + 1) ∧ xs[i]? = some x ∧ ∃ b off cs, oa = some ⟨b, off, none⟩ ∧ F b ∧ R F w cs x ∧ ∀ j u, cs[j]? = some u → w.cell? ⟨b, off + i * sz + j, none⟩ = some u :=
  ⟨xs[i], List.drop_eq_getElem_cons hi, List.getElem?_eq_getElem hi, h i _ (List.getElem?_eq_getElem hi)⟩
end

/-- A slice value that stands for a list. -/
def slcR {α : Type} (R : Rep α) (sz : Nat) : Rep (List α) := fun F w cs xs =>
  ∃ oa c, cs = [.slice oa xs.length c] ∧ xs.length ≤ c ∧ xs.length ≤ 9223372036854775807 ∧ SliceR R sz F w oa xs

theorem slcR_ok {α : Type} {R : Rep α} {sz : Nat} (ok : RepOk R sz) (hsz : 0 < sz) : RepOk (slcR R sz) 1 where
  len := by rintro F w cs x ⟨oa, c, rfl, _⟩; rfl
  one := by rintro F w cs x ⟨oa, c, rfl, _⟩ u hu; simp at hu; subst hu; rfl
  keep := by rintro F w w' cs x ⟨oa, c, rfl, h1, h2, h⟩ hs; exact ⟨oa, c, rfl, h1, h2, h.keep ok hs⟩
  wide := by rintro F F' w cs x ⟨oa, c, rfl, h1, h2, h⟩ hs; exact ⟨oa, c, rfl, h1, h2, h.wide ok hsz hs⟩

section
variable {F : Foot} {w : World} {oa : Option Addr}
theorem SliceR.int_at {xs : List Int} (h : SliceR intR 1 F w oa xs) {i : Nat} (hi : i < xs.length) :
    ∃ x, xs.drop i = x :: xs.drop (i + 1) ∧ xs[i]? = some x ∧ I64 x ∧ ∃ b off, oa = some ⟨b, off, none⟩ ∧ F b ∧ w.cell? ⟨b, off + i, none⟩ = some (.int .i64 x) := by
  obtain ⟨x, h1, h2, b, off, cs, h3, h4, ⟨rfl, h5⟩, h6⟩ := h.at hi
  exact ⟨x, h1, h2, h5, b, off, h3, h4, by simpa using h6 0 _ rfl⟩
theorem SliceR.slc_at {α : Type} {R : Rep α} {sz : Nat} {xs : List (List α)} (h : SliceR (slcR R sz) 1 F w oa xs) {i : Nat} (hi : i < xs.length) :
    ∃ x, xs.drop i = x :: xs.drop (i + 1) ∧ xs[i]? = some x ∧ ∃ b off oa' c, oa = some ⟨b, off, none⟩ ∧ F b ∧ w.cell? ⟨b, off + i, none⟩ = some (.slice oa' x.length c) ∧ x.length ≤ c ∧ x.length ≤ 9223372036854775807 ∧ SliceR R sz F w oa' x := by
  obtain ⟨x, h1, h2, b, off, cs, h3, h4, ⟨oa', c, rfl, h5, h6, h7⟩, h8⟩ := h.at hi
  exact ⟨x, h1, h2, b, off, oa', c, h3, h4, by simpa using h8 0 _ rfl, h5, h6, h7⟩
end

theorem ret_int {k : IntKind} {a b : Int} (h : a = b) : Ending.returned (.int k a) = .returned (.int k b) := by rw [h]
theorem ret_bool {a b : Bool} (h : a = b) : Ending.returned (.bool a) = .returned (.bool b) := by rw [h]
theorem hide {p : Prop} (h : p) : Hid p := h

theorem bnew {w w' : World} (h : Below w.heap.size w w') (o : Obj) : Below w.heap.size w (w'.alloc o) := h.alloc h.size o
/-- Behind a box that the call laid first: below it all is as it was. -/
theorem below_box {w wr : World} {o : Obj} (hb : Below (w.heap.size + 1) (w.alloc o) wr) : Below w.heap.size w wr :=
  ((Below.refl w.heap.size w).alloc (Nat.le_refl _) o).trans (hb.mono (by omega))
theorem box_refl (w : World) (o : Obj) : Below (w.heap.size + 1) (w.alloc o) (w.alloc o) := Below.refl _ _
theorem box_cell {w wr : World} {cs : Array Value} {t : TypeId} (hb : Below (w.heap.size + 1) (w.alloc (.cells cs t)) wr) (i : Nat) : wr.cell? ⟨w.heap.size, i, none⟩ = cs[i]? := by
  rw [hb.cell (p := ⟨w.heap.size, i, none⟩) (by simp)]
  exact cell_of_row (w.alloc (.cells cs t)) w.heap.size i cs t (0, 0) (heap_alloc_new w _)
theorem box_lt {w wr : World} {o : Obj} (hb : Below (w.heap.size + 1) (w.alloc o) wr) : w.heap.size < wr.heap.size := by
  have := hb.size
  simp at this
  omega
theorem box_new {B : Nat} {a wr : World} (hb : Below B a wr) (hB : B ≤ a.heap.size) (o : Obj) : Below B a (wr.alloc o) := hb.alloc (Nat.le_trans hB hb.size) o
theorem box_then {B : Nat} {a wr w2 : World} (hb : Below B a wr) (hB : B ≤ a.heap.size) (h2 : Below wr.heap.size wr w2) : Below B a w2 := hb.trans (h2.mono (Nat.le_trans hB hb.size))
theorem below_drewN {B : Nat} {a w : World} (h : Below B a w) (n : Nat) : Below B a (w.drewN n) := ⟨h.os, h.tape, h.output, h.size, h.block⟩
theorem SliceR.drewN {α : Type} {R : Rep α} {sz : Nat} {F : Foot} {w : World} {oa : Option Addr} {xs : List α} (ok : RepOk R sz) (h : SliceR R sz F w oa xs) (n : Nat) : SliceR R sz F (w.drewN n) oa xs :=
  h.keep ok fun _ _ _ => rfl
theorem below_then {a wr w2 : World} (hb : Below a.heap.size a wr) (h2 : Below wr.heap.size wr w2) : Below a.heap.size a w2 := hb.trans (h2.mono hb.size)

end Go.Proofs.YtnigfddanoaonaaGreat

namespace Go.Proofs.YtnigfddanoaonaaGreat
open Go.RowKit

structure Out where
  dst : Int
  letter : Int
  deriving DecidableEq
structure Rul where
  next : Int
  sent : List Out
  deriving DecidableEq
structure Prc where
  states : Int
  letters : Int
  rules : List (List Rul)
  deriving DecidableEq
structure Nwk where
  procs : List Prc
  state : List Int
  waiting : List (List Int)
  deriving DecidableEq

def outR : Rep Out := fun _ _ cs x => cs = [.int .i64 x.dst, .int .i64 x.letter] ∧ I64 x.dst ∧ I64 x.letter
def ruleR : Rep Rul := fun F w cs r => ∃ oa c, cs = [.int .i64 r.next, .slice oa r.sent.length c] ∧ I64 r.next ∧ r.sent.length ≤ c ∧ r.sent.length ≤ 9223372036854775807 ∧ SliceR outR 2 F w oa r.sent
def prcR : Rep Prc := fun F w cs p => ∃ oa c, cs = [.int .i64 p.states, .int .i64 p.letters, .slice oa p.rules.length c] ∧ I64 p.states ∧ I64 p.letters ∧ p.rules.length ≤ c ∧ p.rules.length ≤ 9223372036854775807 ∧ SliceR (slcR ruleR 2) 1 F w oa p.rules

theorem outR_ok : RepOk outR 2 where
  len := by rintro F w cs x ⟨rfl, _⟩; rfl
  one := by rintro F w cs x ⟨rfl, _⟩ u hu; simp at hu; rcases hu with rfl | rfl <;> rfl
  keep := by rintro F w w' cs x h _; exact h
  wide := by rintro F F' w cs x h _; exact h
theorem ruleR_ok : RepOk ruleR 2 where
  len := by rintro F w cs x ⟨oa, c, rfl, _⟩; rfl
  one := by rintro F w cs x ⟨oa, c, rfl, _⟩ u hu; simp at hu; rcases hu with rfl | rfl <;> rfl
  keep := by rintro F w w' cs x ⟨oa, c, rfl, h0, h1, h2, h⟩ hs; exact ⟨oa, c, rfl, h0, h1, h2, h.keep outR_ok hs⟩
  wide := by rintro F F' w cs x ⟨oa, c, rfl, h0, h1, h2, h⟩ hs; exact ⟨oa, c, rfl, h0, h1, h2, h.wide outR_ok (by omega) hs⟩
theorem rowR_ok : RepOk (slcR ruleR 2) 1 := slcR_ok ruleR_ok (by omega)
theorem prcR_ok : RepOk prcR 3 where
  len := by rintro F w cs x ⟨oa, c, rfl, _⟩; rfl
  one := by rintro F w cs x ⟨oa, c, rfl, _⟩ u hu; simp at hu; rcases hu with rfl | rfl | rfl <;> rfl
  keep := by rintro F w w' cs x ⟨oa, c, rfl, h0, h00, h1, h2, h⟩ hs; exact ⟨oa, c, rfl, h0, h00, h1, h2, h.keep rowR_ok hs⟩
  wide := by rintro F F' w cs x ⟨oa, c, rfl, h0, h00, h1, h2, h⟩ hs; exact ⟨oa, c, rfl, h0, h00, h1, h2, h.wide rowR_ok (by omega) hs⟩

section
variable {F : Foot} {w : World} {oa : Option Addr}
theorem SliceR.out_at {xs : List Out} (h : SliceR outR 2 F w oa xs) {i : Nat} (hi : i < xs.length) :
    ∃ t l, xs.drop i = ⟨t, l⟩ :: xs.drop (i + 1) ∧ xs[i]? = some ⟨t, l⟩ ∧ I64 t ∧ I64 l ∧ ∃ b off, oa = some ⟨b, off, none⟩ ∧ F b ∧ w.cell? ⟨b, off + i * 2, none⟩ = some (.int .i64 t) ∧ w.cell? ⟨b, off + i * 2 + 1, none⟩ = some (.int .i64 l) := by
  obtain ⟨⟨t, l⟩, h1, h2, b, off, cs, h3, h4, ⟨rfl, h5, h5'⟩, h6⟩ := h.at hi
  exact ⟨t, l, h1, h2, h5, h5', b, off, h3, h4, by simpa using h6 0 _ rfl, by simpa using h6 1 _ rfl⟩
theorem SliceR.rule_at {xs : List Rul} (h : SliceR ruleR 2 F w oa xs) {i : Nat} (hi : i < xs.length) :
    ∃ nx st, xs.drop i = ⟨nx, st⟩ :: xs.drop (i + 1) ∧ xs[i]? = some ⟨nx, st⟩ ∧ I64 nx ∧ ∃ b off oa' c, oa = some ⟨b, off, none⟩ ∧ F b ∧ w.cell? ⟨b, off + i * 2, none⟩ = some (.int .i64 nx) ∧ w.cell? ⟨b, off + i * 2 + 1, none⟩ = some (.slice oa' st.length c) ∧ st.length ≤ c ∧ st.length ≤ 9223372036854775807 ∧ SliceR outR 2 F w oa' st := by
  obtain ⟨⟨nx, st⟩, h1, h2, b, off, cs, h3, h4, ⟨oa', c, rfl, h5, h7, h8, h9⟩, h6⟩ := h.at hi
  exact ⟨nx, st, h1, h2, h5, b, off, oa', c, h3, h4, by simpa using h6 0 _ rfl, by simpa using h6 1 _ rfl, h7, h8, h9⟩
end

/- The specifications of layer 54. -/
def belowB (n b : Int) : Bool := decide (0 ≤ n) && decide (n < b)
def sentErr (N : Int) : List Out → Int
  | [] => 0
  | x :: r => if belowB x.dst N && belowB x.letter 8 then sentErr N r else 2
def ruleErr (states N : Int) (r : Rul) : Int := if belowB r.next states then (if r.sent.length ≤ 16 then sentErr N r.sent else 5) else 2
def rowErr (states N : Int) : List Rul → Int
  | [] => 0
  | r :: l => if ruleErr states N r = 0 then rowErr states N l else ruleErr states N r
def rowsErr (states letters N : Int) : List (List Rul) → Int
  | [] => 0
  | l :: r => if (l.length : Int) = letters then (if rowErr states N l = 0 then rowsErr states letters N r else rowErr states N l) else 8
def checkErr (p : Prc) (N : Int) : Int :=
  if N < 1 ∨ N > 12 then 1
  else if p.states < 1 ∨ p.states > 16 ∨ p.letters < 1 ∨ p.letters > 8 then 2
  else if (p.rules.length : Int) ≠ p.states then 8
  else rowsErr p.states p.letters N p.rules

theorem not_err {a : Int} (h : a ≠ 0) : (a != 0) = true := by simp [h]
theorem is_err {a : Int} (h : a = 0) : (a != 0) = false := by simp [h]
def unaryRes (p : Prc) : Bool × Int := if checkErr p 12 = 0 then (p.letters == 1, 0) else (false, checkErr p 12)
def stateErr (p : Prc) (s : Int) : Int := if checkErr p 12 = 0 then (if belowB s p.states then 0 else 2) else checkErr p 12
def lettersErr (L : Int) : List Int → Int
  | [] => 0
  | a :: r => if belowB a L then lettersErr L r else 2
def SomeBool (w : World) (e : Ending) (w' : World) : Prop := ∃ b, e = .returned (.bool b) ∧ Below w.heap.size w w'

end Go.Proofs.YtnigfddanoaonaaGreat

set_option linter.unusedVariables false
namespace Go.Proofs.YtnigfddanoaonaaGreat
open Go.RowKit Go.ChangeShapes Go.WideShapes Go.ChangeAt Go.Deep

section
variable {H : Type} {enc : TypeId × Value → H} {P : Program} {w : World} {base : Nat} {spare : Nat → Bool} {held : Bool}

/-- Whatever reads as data of type t stands for something. -/
def ReadsAs {α : Type} (enc : TypeId × Value → H) (P : Program) (w : World) (base : Nat) (spare : Nat → Bool) (held : Bool) (t : TypeId) (R : Rep α) : Prop :=
  ∀ fuel cs x, DataW.trod enc P w base spare held fuel t cs = some x → ∃ y, R All w cs y

theorem ReadsAs.int {t : TypeId} (ht : P.underlying t = some (.int .i64)) : ReadsAs enc P w base spare held t intR := by
  intro fuel cs x h
  obtain ⟨n, rfl, _, hw⟩ := DataW.trod_int ht h
  refine ⟨n, rfl, ?_⟩
  simpa [Lit.wf, IntKind.min, IntKind.max, IntKind.signed, IntKind.bits, I64] using hw

theorem listOf {α : Type} {Q : Nat → α → Prop} : ∀ n, (∀ i, i < n → ∃ y, Q i y) → ∃ ys : List α, ys.length = n ∧ ∀ i y, ys[i]? = some y → Q i y
  | 0, _ => ⟨[], rfl, by simp⟩
  | n + 1, h => by
    obtain ⟨ys, hl, hq⟩ := listOf n fun i hi => h i (by omega)
    obtain ⟨y, hy⟩ := h n (by omega)
    refine ⟨ys ++ [y], by simp [hl], fun i z hz => ?_⟩
    rcases Nat.lt_or_ge i n with hi | hi
    · rw [List.getElem?_append_left (by omega)] at hz
      exact hq i z hz
    · rw [List.getElem?_append_right (by omega)] at hz
      have : i - ys.length = 0 := by
        rcases Nat.eq_zero_or_pos (i - ys.length) with h0 | h0
        · exact h0
        · rw [List.getElem?_eq_none (by simp; omega)] at hz; cases hz
      rw [this] at hz
      simp at hz
      subst hz
      have : i = n := by omega
      subst this
      exact hy

theorem ReadsAs.slice {α : Type} {R : Rep α} {sz : Nat} {t e : TypeId} (ok : RepOk R sz) (hsz : 0 < sz) (ht : P.underlying t = some (.slice e)) (hC : P.cellsOf e = sz) (hR : ReadsAs enc P w base spare held e R) :
    ReadsAs enc P w base spare held t (slcR R sz) := by
  intro fuel cs x h
  rcases open_slice ht h with ⟨rfl, _⟩ | ⟨a, len, cap, m, n, D, Pl, rfl, _, hl, hm, hmm, _, hi⟩
  · exact ⟨[], none, 0, rfl, by simp, by simp, SliceR.nil _ _ _ _ _⟩
  · have hlm : len ≤ m := by rw [hmm]; split <;> omega
    have key : ∀ i, i < len → ∃ y cs', R All w cs' y ∧ ∀ j, j < sz → w.cell? ((a.add (i * sz)).add j) = cs'[j]? := by
      intro i hil
      obtain ⟨cs', hc, hd⟩ := hi i (by omega)
      rw [hC] at hc
      obtain ⟨_, hcl, hat⟩ := World.cells?_some hc
      obtain ⟨y, hy⟩ := hR _ _ _ hd
      exact ⟨y, cs', hy, hat⟩
    rcases Nat.eq_zero_or_pos len with h0 | h0
    · subst h0
      exact ⟨[], some a, cap, rfl, by simp, by simp, SliceR.nil _ _ _ _ _⟩
    obtain ⟨y0, cs0, hR0, hat0⟩ := key 0 h0
    obtain ⟨b, off, spot⟩ := a
    have hspot : spot = none := by
      have h1 := hat0 0 hsz
      have h2 : cs0[0]? = some (cs0[0]'(by rw [ok.len hR0]; exact hsz)) := List.getElem?_eq_getElem _
      rw [h2] at h1
      simpa [Addr.add] using World.cell?_spot h1
    subst hspot
    obtain ⟨ys, hyl, hyq⟩ := listOf len key
    refine ⟨ys, some ⟨b, off, none⟩, cap, by rw [hyl], by omega, by unfold maxLen at hm; omega, fun i y hy => ?_⟩
    obtain ⟨cs', hRy, hat⟩ := hyq i y hy
    refine ⟨b, off, cs', rfl, trivial, hRy, fun j u hu => ?_⟩
    have hj : j < sz := by rw [← ok.len hRy]; exact (List.getElem?_eq_some_iff.1 hu).1
    have := hat j hj
    rw [Addr.add_lit, Addr.add_lit, hu] at this
    exact this

theorem part2 {f0 f1 : Field} {t : TypeId} {fuel : Nat} {cs : List Value} {x : DataW H × List MemPlace} (hs : P.underlying t = some (.struct #[f0, f1])) (o0 : f0.offset = 0) (o1 : f1.offset = 1) (k0 : P.cellsOf f0.type = 1) (k1 : P.cellsOf f1.type = 1) (kt : P.cellsOf t = 2)
    (h : DataW.trod enc P w base spare held fuel t cs = some x) : ∃ c0 c1 n y0 y1, cs = [c0, c1] ∧ DataW.trod enc P w base spare held n f0.type [c0] = some y0 ∧ DataW.trod enc P w base spare held n f1.type [c1] = some y1 := by
  obtain ⟨xs, n, _, _, hcl, hxl, hg⟩ := DataW.trod_struct hs h
  rw [kt] at hcl
  match cs, hcl, xs, hxl with
  | [c0, c1], _, [y0, y1], _ =>
    exact ⟨c0, c1, n, y0, y1, rfl, by simpa [o0, k0] using hg 0 f0 rfl, by simpa [o1, k1] using hg 1 f1 rfl⟩
theorem part3 {f0 f1 f2 : Field} {t : TypeId} {fuel : Nat} {cs : List Value} {x : DataW H × List MemPlace} (hs : P.underlying t = some (.struct #[f0, f1, f2])) (o0 : f0.offset = 0) (o1 : f1.offset = 1) (o2 : f2.offset = 2) (k0 : P.cellsOf f0.type = 1) (k1 : P.cellsOf f1.type = 1) (k2 : P.cellsOf f2.type = 1) (kt : P.cellsOf t = 3)
    (h : DataW.trod enc P w base spare held fuel t cs = some x) : ∃ c0 c1 c2 n y0 y1 y2, cs = [c0, c1, c2] ∧ DataW.trod enc P w base spare held n f0.type [c0] = some y0 ∧ DataW.trod enc P w base spare held n f1.type [c1] = some y1 ∧ DataW.trod enc P w base spare held n f2.type [c2] = some y2 := by
  obtain ⟨xs, n, _, _, hcl, hxl, hg⟩ := DataW.trod_struct hs h
  rw [kt] at hcl
  match cs, hcl, xs, hxl with
  | [c0, c1, c2], _, [y0, y1, y2], _ =>
    exact ⟨c0, c1, c2, n, y0, y1, y2, rfl, by simpa [o0, k0] using hg 0 f0 rfl, by simpa [o1, k1] using hg 1 f1 rfl, by simpa [o2, k2] using hg 2 f2 rfl⟩

theorem agg_cells {r : Reach} {b0 : Nat} {t : TypeId} {fs : Array Field} {v : Value} {d : DataW H} {p : List MemPlace} (hs : P.underlying t = some (.struct fs))
    (hv : Value.okWide P w r b0 t v) (h : DataW.Trod enc P w base spare held t v d p) : ∃ l fuel, v = .agg ⟨l⟩ ∧ DataW.trod enc P w base spare held fuel t l = some (d, p) := by
  obtain ⟨cs, rfl, _⟩ := okWide_struct hs hv
  obtain ⟨l⟩ := cs
  obtain ⟨fuel, hf⟩ := h
  exact ⟨l, fuel, rfl, by simpa [Value.cells] using hf⟩
end

section
variable {H : Type} {enc : TypeId × Value → H} {w : World} {base : Nat} {spare : Nat → Bool} {held : Bool}
theorem reads_int : ReadsAs enc Tryz.prog w base spare held 3 intR := ReadsAs.int Tryz.underlying3
theorem reads_ints : ReadsAs enc Tryz.prog w base spare held 23 (slcR intR 1) := ReadsAs.slice intR_ok (by omega) Tryz.underlying23 (by kernel_rfl) reads_int
set_option maxRecDepth 100000 in
theorem open_i64 {r : Reach} {b0 : Nat} {v : Value} {d : DataW H} {p : List MemPlace} (hv : Value.okWide Tryz.prog w r b0 3 v) (h : DataW.Trod enc Tryz.prog w base spare held 3 v d p) :
    ∃ n, v = .int .i64 n ∧ I64 n := by
  obtain ⟨n, rfl, rfl, rfl, hw⟩ := open_int Tryz.underlying3 hv h
  exact ⟨n, rfl, by simpa [Lit.wf, IntKind.min, IntKind.max, IntKind.signed, IntKind.bits, I64] using hw⟩
end

theorem own_knob : ownKnob Tryz.prog.godebug = none := by kernel_rfl
theorem laid_out : laidOutB Tryz.prog = true := by kernel_rfl

end Go.Proofs.YtnigfddanoaonaaGreat

set_option linter.unusedVariables false
set_option linter.unusedSimpArgs false
namespace Go.Proofs.YtnigfddanoaonaaGreat
open Go.RowKit

structure Edg where
  a : Int
  b : Int
  m : Int
  deriving DecidableEq

def edgR : Rep Edg := fun _ _ cs x => cs = [.int .i64 x.a, .int .i64 x.b, .int .i64 x.m] ∧ I64 x.a ∧ I64 x.b ∧ I64 x.m
def prR : Rep (Int × Int) := fun _ _ cs x => cs = [.int .i64 x.1, .int .i64 x.2] ∧ I64 x.1 ∧ I64 x.2

theorem edgR_ok : RepOk edgR 3 := {
  len := by rintro F w cs x ⟨rfl, _⟩; rfl
  one := by rintro F w cs x ⟨rfl, _⟩ u hu; simp at hu; rcases hu with rfl | rfl | rfl <;> rfl
  keep := by rintro F w w' cs x h _; exact h
  wide := by rintro F F' w cs x h _; exact h }
theorem prR_ok : RepOk prR 2 := {
  len := by rintro F w cs x ⟨rfl, _⟩; rfl
  one := by rintro F w cs x ⟨rfl, _⟩ u hu; simp at hu; rcases hu with rfl | rfl <;> rfl
  keep := by rintro F w w' cs x h _; exact h
  wide := by rintro F F' w cs x h _; exact h }

section
variable {F : Foot} {w : World} {oa : Option Addr}
theorem SliceR.edg_at {xs : List Edg} (h : SliceR edgR 3 F w oa xs) {i : Nat} (hi : i < xs.length) :
    ∃ a b m, xs.drop i = ⟨a, b, m⟩ :: xs.drop (i + 1) ∧ xs[i]? = some ⟨a, b, m⟩ ∧ I64 a ∧ I64 b ∧ I64 m ∧ ∃ bl off, oa = some ⟨bl, off, none⟩ ∧ F bl ∧ w.cell? ⟨bl, off + i * 3, none⟩ = some (.int .i64 a) ∧ w.cell? ⟨bl, off + i * 3 + 1, none⟩ = some (.int .i64 b) ∧ w.cell? ⟨bl, off + i * 3 + 2, none⟩ = some (.int .i64 m) := by
  obtain ⟨⟨a, b, m⟩, h1, h2, bl, off, cs, h3, h4, ⟨rfl, h5, h6, h7⟩, h8⟩ := h.at hi
  exact ⟨a, b, m, h1, h2, h5, h6, h7, bl, off, h3, h4, by simpa using h8 0 _ rfl, by simpa using h8 1 _ rfl, by simpa using h8 2 _ rfl⟩
theorem SliceR.pr_at {xs : List (Int × Int)} (h : SliceR prR 2 F w oa xs) {i : Nat} (hi : i < xs.length) :
    ∃ a b, xs.drop i = (a, b) :: xs.drop (i + 1) ∧ xs[i]? = some (a, b) ∧ I64 a ∧ I64 b ∧ ∃ bl off, oa = some ⟨bl, off, none⟩ ∧ F bl ∧ w.cell? ⟨bl, off + i * 2, none⟩ = some (.int .i64 a) ∧ w.cell? ⟨bl, off + i * 2 + 1, none⟩ = some (.int .i64 b) := by
  obtain ⟨⟨a, b⟩, h1, h2, bl, off, cs, h3, h4, ⟨rfl, h5, h6⟩, h8⟩ := h.at hi
  exact ⟨a, b, h1, h2, h5, h6, bl, off, h3, h4, by simpa using h8 0 _ rfl, by simpa using h8 1 _ rfl⟩
end

/- The specifications of layer 8. -/
def vtxB (n v : Int) : Bool := decide (0 ≤ v) && decide (v < n)
def cmpI (a b : Int) : Int := if a < b then -1 else if b < a then 1 else 0
def cmpP (p q : Int × Int) : Int := if cmpI p.1 q.1 = 0 then cmpI p.2 q.2 else cmpI p.1 q.1
def edgeErr (n : Int) (last : Int × Int) (x : Edg) : Int :=
  if vtxB n x.a && vtxB n x.b && decide (1 ≤ x.m) && decide (x.m ≤ 50) then (if decide (x.a ≤ x.b) && decide (cmpP last (x.a, x.b) < 0) then 0 else 9) else 2
def edgesErr (n : Int) : Int × Int → List Edg → Int
  | _, [] => 0
  | last, x :: r => if edgeErr n last x = 0 then edgesErr n (x.a, x.b) r else edgeErr n last x
def gErr (n : Int) (es : List Edg) : Int := if n < 1 ∨ n > 12 then 2 else edgesErr n (-1, -1) es

theorem vtxB_iff {n v : Int} : vtxB n v = true ↔ 0 ≤ v ∧ v < n := by simp [vtxB]
theorem cmpI_neg {a b : Int} : cmpI a b < 0 ↔ a < b := by unfold cmpI; split <;> (try split) <;> omega
theorem cmpI_zero {a b : Int} : cmpI a b = 0 ↔ a = b := by unfold cmpI; split <;> (try split) <;> omega
theorem cmpP_neg {p q : Int × Int} : cmpP p q < 0 ↔ p.1 < q.1 ∨ (p.1 = q.1 ∧ p.2 < q.2) := by
  unfold cmpP
  split
  · rename_i h
    have := cmpI_zero.1 h
    have h2 := cmpI_neg (a := p.2) (b := q.2)
    omega
  · rename_i h
    have h1 := cmpI_neg (a := p.1) (b := q.1)
    have h2 := cmpI_zero (a := p.1) (b := q.1)
    omega

theorem edgeErr_zero {n : Int} {last : Int × Int} {x : Edg} (h : edgeErr n last x = 0) : (0 ≤ x.a ∧ x.a < n) ∧ (0 ≤ x.b ∧ x.b < n) ∧ 1 ≤ x.m ∧ x.m ≤ 50 ∧ x.a ≤ x.b ∧ cmpP last (x.a, x.b) < 0 := by
  unfold edgeErr at h
  split at h
  · rename_i h1
    simp only [Bool.and_eq_true, decide_eq_true_eq, vtxB_iff] at h1
    split at h
    · rename_i h2
      simp only [Bool.and_eq_true, decide_eq_true_eq] at h2
      omega
    · cases h
  · cases h
theorem edgesErr_zero {n : Int} : ∀ {es : List Edg} {last : Int × Int}, edgesErr n last es = 0 →
    (∀ x ∈ es, (0 ≤ x.a ∧ x.a < n) ∧ (0 ≤ x.b ∧ x.b < n) ∧ 1 ≤ x.m ∧ x.m ≤ 50 ∧ x.a ≤ x.b ∧ cmpP last (x.a, x.b) < 0) ∧ es.Pairwise fun x y => cmpP (x.a, x.b) (y.a, y.b) < 0
  | [], _, _ => by simp
  | x :: r, last, h => by
    unfold edgesErr at h
    split at h
    · rename_i h0
      have h1 := edgeErr_zero h0
      have ih := edgesErr_zero h
      refine ⟨fun y hy => ?_, ?_⟩
      · rcases List.mem_cons.1 hy with rfl | hy
        · exact h1
        · have h2 := ih.1 y hy
          refine ⟨h2.1, h2.2.1, h2.2.2.1, h2.2.2.2.1, h2.2.2.2.2.1, ?_⟩
          have h3 := cmpP_neg.1 h1.2.2.2.2.2
          have h4 := cmpP_neg.1 h2.2.2.2.2.2
          rw [cmpP_neg]
          simp only at h3 h4 ⊢
          omega
      · rw [List.pairwise_cons]
        exact ⟨fun y hy => (ih.1 y hy).2.2.2.2.2, ih.2⟩
    · rename_i hx; exact absurd h hx
theorem gErr_zero {n : Int} {es : List Edg} (h : gErr n es = 0) : (1 ≤ n ∧ n ≤ 12) ∧ (∀ x ∈ es, (0 ≤ x.a ∧ x.a < n) ∧ (0 ≤ x.b ∧ x.b < n) ∧ 1 ≤ x.m ∧ x.m ≤ 50 ∧ x.a ≤ x.b) ∧ es.Pairwise fun x y => cmpP (x.a, x.b) (y.a, y.b) < 0 := by
  unfold gErr at h
  split at h
  · cases h
  · have h1 := edgesErr_zero h
    refine ⟨by omega, fun x hx => ?_, h1.2⟩
    have := h1.1 x hx
    exact ⟨this.1, this.2.1, this.2.2.1, this.2.2.2.1, this.2.2.2.2.1⟩

/-- The ends of the single edges, one after the other. -/
def endsL (es : List Edg) : List (Int × Int) := es.flatMap fun x => List.replicate x.m.toNat (x.a, x.b)
theorem endsL_cons (x : Edg) (r : List Edg) : endsL (x :: r) = List.replicate x.m.toNat (x.a, x.b) ++ endsL r := rfl
theorem endsL_len {es : List Edg} (h : ∀ x ∈ es, x.m ≤ 50) : (endsL es).length ≤ 50 * es.length := by
  induction es with
  | nil => simp [endsL]
  | cons x r ih =>
    have h1 := ih fun y hy => h y (by simp [hy])
    have h2 := h x (by simp)
    rw [endsL_cons]
    simp
    omega
theorem endsL_mem {es : List Edg} {p : Int × Int} (h : p ∈ endsL es) : ∃ x ∈ es, p = (x.a, x.b) := by
  unfold endsL at h
  rw [List.mem_flatMap] at h
  obtain ⟨x, hx, hp⟩ := h
  exact ⟨x, hx, (List.mem_replicate.1 hp).2⟩

/-- How often two vertices are joined. -/
def betw (es : List Edg) (a b : Int) : Int :=
  match es with
  | [] => 0
  | x :: r => if x.a = min a b ∧ x.b = max a b then x.m else betw r a b
end Go.Proofs.YtnigfddanoaonaaGreat

set_option linter.unusedVariables false
namespace Go.Proofs.YtnigfddanoaonaaGreat
open Go.RowKit Go.ChangeShapes Go.WideShapes Go.ChangeAt Go.Deep

section
variable {H : Type} {enc : TypeId × Value → H} {P : Program} {w : World} {base : Nat} {spare : Nat → Bool} {held : Bool}






end

section
variable {H : Type} {enc : TypeId × Value → H} {w : World} {base : Nat} {spare : Nat → Bool} {held : Bool}
theorem reads_edge : ReadsAs enc Tryz.prog w base spare held 145 edgR := by
  intro fuel cs x h
  obtain ⟨c0, c1, c2, n, y0, y1, y2, rfl, h0, h1, h2⟩ := part3 Tryz.underlying145 rfl rfl rfl (by kernel_rfl) (by kernel_rfl) (by kernel_rfl) (by kernel_rfl) h
  obtain ⟨a, ha, ia⟩ := reads_int _ _ _ h0
  obtain ⟨b, hb, ib⟩ := reads_int _ _ _ h1
  obtain ⟨m, hm, im⟩ := reads_int _ _ _ h2
  simp at ha hb hm
  subst ha hb hm
  exact ⟨⟨a, b, m⟩, rfl, ia, ib, im⟩
theorem reads_edges : ReadsAs enc Tryz.prog w base spare held 41 (slcR edgR 3) := ReadsAs.slice edgR_ok (by omega) Tryz.underlying41 (by kernel_rfl) reads_edge
end


end Go.Proofs.YtnigfddanoaonaaGreat

set_option linter.unusedVariables false
namespace Go.Proofs.YtnigfddanoaonaaGreat
open Go.RowKit Go.ChangeShapes Go.WideShapes Go.ChangeAt Go.Deep

section
variable {H : Type} {enc : TypeId × Value → H} {w : World} {base : Nat} {spare : Nat → Bool} {held : Bool}
theorem reads_div5 : ReadsAs enc Tryz.prog w base spare held 44 (slcR intR 1) := ReadsAs.slice intR_ok (by omega) Tryz.underlying44 (by kernel_rfl) reads_int
set_option maxRecDepth 100000 in
theorem open_graph {r : Reach} {b0 : Nat} {v : Value} {d : DataW H} {p : List MemPlace} (hv : Value.okWide Tryz.prog w r b0 43 v) (h : DataW.Trod enc Tryz.prog w base spare held 43 v d p) :
    ∃ n es oe c, v = .agg #[.int .i64 n, .slice oe (List.length es) c] ∧ es.length ≤ c ∧ es.length ≤ 9223372036854775807 ∧ SliceR edgR 3 All w oe es := by
  obtain ⟨l, fuel, rfl, hf⟩ := agg_cells Tryz.underlying43 hv h
  obtain ⟨e0, e1, k2, z0, z1, he, g0, g1⟩ := part2 Tryz.underlying43 rfl rfl (by kernel_rfl) (by kernel_rfl) (by kernel_rfl) hf
  subst he
  obtain ⟨n, hn, _⟩ := reads_int _ _ _ g0
  obtain ⟨es, oe, c, hes, q1, q2, q3⟩ := reads_edges _ _ _ g1
  simp at hn hes
  subst hn hes
  exact ⟨n, es, oe, c, rfl, q1, q2, q3⟩
set_option maxRecDepth 100000 in
theorem open_pile {r : Reach} {b0 : Nat} {v : Value} {d : DataW H} {p : List MemPlace} (hv : Value.okWide Tryz.prog w r b0 69 v) (h : DataW.Trod enc Tryz.prog w base spare held 69 v d p) :
    ∃ dd od cd pk op cp, v = .agg #[.slice od (List.length dd) cd, .slice op (List.length pk) cp] ∧ dd.length ≤ cd ∧ dd.length ≤ 9223372036854775807 ∧ SliceR intR 1 All w od dd ∧ pk.length ≤ cp ∧ pk.length ≤ 9223372036854775807 ∧ SliceR intR 1 All w op pk := by
  obtain ⟨l, fuel, rfl, hf⟩ := agg_cells Tryz.underlying69 hv h
  obtain ⟨e0, e1, k2, z0, z1, he, g0, g1⟩ := part2 Tryz.underlying69 rfl rfl (by kernel_rfl) (by kernel_rfl) (by kernel_rfl) hf
  subst he
  obtain ⟨dd, od, cd, hdd, q4, q5, q6⟩ := reads_div5 _ _ _ g0
  obtain ⟨pk, op, cp, hpk, q7, q8, q9⟩ := reads_ints _ _ _ g1
  simp at hdd hpk
  subst hdd hpk
  exact ⟨dd, od, cd, pk, op, cp, rfl, q4, q5, q6, q7, q8, q9⟩
end

end Go.Proofs.YtnigfddanoaonaaGreat

namespace Go.Proofs.YtnigfddanoaonaaGreat
open Go.RowKit

def Non : Foot := fun _ => False

section
variable {P : Program} (w : World)

theorem run_append_empty (base : Nat) (t ty e : TypeId) (i : TypeInfo) (size : Nat) (ht : P.underlying t = some (.slice e)) (hi : P.info? e = some i)
    (v : Value) (n : Nat) (xs : List Value) (hown : w.ownsRow base e size v n xs) (c : Nat) : (Builtin.append_ #[t, t] ty #[v, .slice none 0 c]).run P w = .ok v w := by
  rcases hown.2 with ⟨rfl, rfl⟩ | ⟨g, cap, cur, rfl, _, _, hnc, _⟩
  · simp [Builtin.append_, run_underlying ht, sizeOf, typeInfo, hi, Builtin.lenOf, Builtin.firstCells]
  · simp [Builtin.append_, run_underlying ht, sizeOf, typeInfo, hi, Builtin.lenOf, Builtin.firstCells, hnc, storeCells]

/-- append(v, x...), v the call's own, x whatever slice: nil, empty or not. -/
theorem run_append_src (base : Nat) (t ty e : TypeId) (i : TypeInfo) (z : Value) (size bytes : Nat) (ht : P.underlying t = some (.slice e)) (hi : P.info? e = some i) (hz : i.zero = some z)
    (hsize : i.size = size) (hby : i.bytes = bytes) (hzs : z.cells.size = size) (hsz : 0 < size)
    (v : Value) (n : Nat) (xs : List Value) (hown : w.ownsRow base e size v n xs)
    (oa : Option Addr) (m c : Nat) (news : List Value) (hl : news.length = m * size) (hc : ∀ j u, news[j]? = some u → ∃ b off, oa = some ⟨b, off, none⟩ ∧ w.cell? ⟨b, off + j, none⟩ = some u) (h1 : ∀ u ∈ news, u.oneCell' = true)
    (h63 : n + m ≤ maxLen) (hbytes : (n + m) * bytes ≤ 140737488355328) (hbase : base ≤ w.heap.size) :
    ∃ v' w', (Builtin.append_ #[t, t] ty #[v, .slice oa m c]).run P w = .ok v' w' ∧ w'.ownsRow base e size v' (n + m) (xs ++ news) ∧ w.grownBy w' v.ownBlock := by
  rcases oa with _ | ad
  · have hn : news = [] := by
      cases news with
      | nil => rfl
      | cons u r => obtain ⟨b, off, h, _⟩ := hc 0 u rfl; cases h
    subst hn
    have hm : m = 0 := by
      rcases Nat.eq_zero_or_pos m with h | h
      · exact h
      · have h2 := Nat.mul_pos h hsz
        simp at hl
        omega
    subst hm
    exact ⟨v, w, run_append_empty w base t ty e i size ht hi v n xs hown c, by simpa using hown, rfl, rfl, rfl, Nat.le_refl _, fun _ _ _ => rfl⟩
  · have hcells : ∀ j u, news[j]? = some u → w.cell? (ad.add j) = some u := by
      intro j u hu
      obtain ⟨b, off, h, hcc⟩ := hc j u hu
      injection h with h
      subst h
      rw [Addr.add_lit]
      exact hcc
    obtain ⟨v', w', h2, h3, h4, _⟩ := run_append_own (P := P) w base t ty e i z size bytes ht hi hz hsize hby hzs hsz v n xs hown ad m c news hl hcells h1 h63 hbytes hbase
    exact ⟨v', w', h2, h3, h4⟩

theorem wpList_append_src {ops : Array Oper} {rest : List Oper} {o : Oper} {a : Act} {Q : Exit → Act → World → Prop} (hgd : o.guard = none) (s x : Operand) (t : TypeId)
    (ho : o.op = .call { callee := .builtin .append, args := #[s, x], argTypes := #[t, t] })
    (base : Nat) (e : TypeId) (i : TypeInfo) (z : Value) (size bytes : Nat) (ht : P.underlying t = some (.slice e)) (hi : P.info? e = some i) (hz : i.zero = some z)
    (hsize : i.size = size) (hby : i.bytes = bytes) (hzs : z.cells.size = size) (hsz : 0 < size)
    (v : Value) (n : Nat) (xs : List Value) (hs : a.eval s = v) (hown : w.ownsRow base e size v n xs)
    (oa : Option Addr) (m c : Nat) (news : List Value) (hx : a.eval x = .slice oa m c) (hl : news.length = m * size) (hc : ∀ j u, news[j]? = some u → ∃ b off, oa = some ⟨b, off, none⟩ ∧ w.cell? ⟨b, off + j, none⟩ = some u) (h1 : ∀ u ∈ news, u.oneCell' = true)
    (h63 : n + m ≤ maxLen) (hbytes : (n + m) * bytes ≤ 140737488355328) (hbase : base ≤ w.heap.size)
    (h : ∀ v' w', w'.ownsRow base e size v' (n + m) (xs ++ news) → w.grownBy w' v.ownBlock → wpList P ops Q rest (a.put o.dst v') w') : wpList P ops Q (o :: rest) a w :=
  wpList_plain hgd fun _ hK => by
    obtain ⟨v', w', hrun, h2, h3⟩ := run_append_src (P := P) w base t o.type e i z size bytes ht hi hz hsize hby hzs hsz v n xs hown oa m c news hl hc h1 h63 hbytes hbase
    unfold Oper.wp execOp
    simp only [ho, resolve, invoke, builtin, Sem.run_bind, Sem.run_pure, Result.andThen_ok, List.map_toArray, List.map_cons, List.map_nil, hs, hx, hrun]
    exact hK _ _ (h v' w' h2 h3)
end

def chunk (sz i : Nat) (l : List Value) : List Value := (l.drop (i * sz)).take sz

theorem chunk_get {sz i j : Nat} {l : List Value} {u : Value} (h : (chunk sz i l)[j]? = some u) : j < sz ∧ l[i * sz + j]? = some u := by
  unfold chunk at h
  rw [List.getElem?_take] at h
  split at h
  · rw [List.getElem?_drop] at h
    exact ⟨by assumption, h⟩
  · cases h

/-- The cells of a slice, in a row, part by part. -/
theorem SliceR.cells {α : Type} {R : Rep α} {sz : Nat} {F : Foot} {w : World} {oa : Option Addr} (ok : RepOk R sz) :
    ∀ {xs : List α}, SliceR R sz F w oa xs → ∃ news, news.length = xs.length * sz ∧ (∀ j u, news[j]? = some u → ∃ b off, oa = some ⟨b, off, none⟩ ∧ w.cell? ⟨b, off + j, none⟩ = some u) ∧
      (∀ u ∈ news, u.oneCell' = true) ∧ ∀ i x, xs[i]? = some x → R F w (chunk sz i news) x := by
  intro xs h
  rcases Nat.eq_zero_or_pos xs.length with h0 | h0
  · have : xs = [] := List.eq_nil_of_length_eq_zero h0
    subst this
    exact ⟨[], by simp, by simp, by simp, by simp⟩
  obtain ⟨b, off, cs0, hoa, hF0, hR0, hc0⟩ := h 0 _ (List.getElem?_eq_getElem h0)
  subst hoa
  have key : ∀ i x, xs[i]? = some x → ∃ cs, R F w cs x ∧ ∀ j u, cs[j]? = some u → w.cell? ⟨b, off + i * sz + j, none⟩ = some u := by
    intro i x hx
    obtain ⟨b', off', cs, he, _, hR, hc⟩ := h i x hx
    simp only [Option.some.injEq, Addr.mk.injEq, and_true] at he
    obtain ⟨rfl, rfl⟩ := he
    exact ⟨cs, hR, hc⟩
  have cell : ∀ j, j < xs.length * sz → ∃ u, w.cell? ⟨b, off + j, none⟩ = some u ∧ u.oneCell' = true := by
    intro j hj
    have hsz : 0 < sz := by
      rcases Nat.eq_zero_or_pos sz with h | h
      · subst h; simp at hj
      · exact h
    have hi : j / sz < xs.length := (Nat.div_lt_iff_lt_mul hsz).2 hj
    obtain ⟨cs, hR, hc⟩ := key (j / sz) _ (List.getElem?_eq_getElem hi)
    have hm : j % sz < cs.length := by rw [ok.len hR]; exact Nat.mod_lt _ hsz
    have hcc := hc (j % sz) _ (List.getElem?_eq_getElem hm)
    have hj2 : off + j / sz * sz + j % sz = off + j := by
      have := Nat.div_add_mod' j sz
      omega
    rw [hj2] at hcc
    exact ⟨_, hcc, ok.one hR _ (List.getElem_mem hm)⟩
  let news := (List.range (xs.length * sz)).map fun j => (w.cell? ⟨b, off + j, none⟩).getD undef
  have get : ∀ j u, news[j]? = some u → j < xs.length * sz ∧ w.cell? ⟨b, off + j, none⟩ = some u := by
    intro j u hu
    simp only [news, List.getElem?_map, Option.map_eq_some_iff] at hu
    obtain ⟨k, hk, hu⟩ := hu
    have hk2 := List.getElem?_eq_some_iff.1 hk
    obtain ⟨hlt, hkk⟩ := hk2
    simp only [List.length_range] at hlt
    simp only [List.getElem_range] at hkk
    subst hkk
    obtain ⟨u', hu', _⟩ := cell j hlt
    rw [hu'] at hu
    simp only [Option.getD_some] at hu
    subst hu
    exact ⟨hlt, hu'⟩
  refine ⟨news, by simp [news], fun j u hu => ⟨b, off, rfl, (get j u hu).2⟩, ?_, ?_⟩
  · intro u hu
    obtain ⟨j, hj, rfl⟩ := List.getElem_of_mem hu
    obtain ⟨h1, h2⟩ := get j _ (List.getElem?_eq_getElem hj)
    obtain ⟨u', hu', ho⟩ := cell j h1
    rw [h2] at hu'
    injection hu' with hu'
    rw [hu']; exact ho
  · intro i x hx
    obtain ⟨cs, hR, hc⟩ := key i x hx
    have hi : i < xs.length := (List.getElem?_eq_some_iff.1 hx).1
    have hle : i * sz + sz ≤ xs.length * sz := by
      have := Nat.mul_le_mul_right sz (Nat.succ_le_of_lt hi)
      rw [Nat.succ_mul] at this
      exact this
    have : chunk sz i news = cs := by
      apply List.ext_getElem?
      intro j
      unfold chunk
      rw [List.getElem?_take]
      split
      · rename_i hj
        rw [List.getElem?_drop]
        have hjl : j < cs.length := by rw [ok.len hR]; exact hj
        have h1 := hc j _ (List.getElem?_eq_getElem hjl)
        have hn : i * sz + j < news.length := by simp only [news, List.length_map, List.length_range]; omega
        have h2 := (get _ _ (List.getElem?_eq_getElem hn)).2
        rw [Nat.add_assoc] at h1
        rw [h1] at h2
        rw [List.getElem?_eq_getElem hn, List.getElem?_eq_getElem hjl, h2]
      · rename_i hj
        rw [List.getElem?_eq_none (by rw [ok.len hR]; omega)]
    rw [this]
    exact hR

/-- The slice value v, which the call itself made (blocks from base on), holds xs. -/
def OwnS {α : Type} (R : Rep α) (sz base : Nat) (e : TypeId) (F : Foot) (w : World) (v : Value) (xs : List α) : Prop :=
  ∃ cells, w.ownsRow base e sz v xs.length cells ∧ (∀ u ∈ cells, u.oneCell' = true) ∧ ∀ i x, xs[i]? = some x → R F w (chunk sz i cells) x

section
variable {α : Type} {R : Rep α} {sz base : Nat} {e : TypeId} {F : Foot} {w w' : World} {v : Value} {xs : List α}

theorem OwnS.nil (R : Rep α) (sz base : Nat) (e : TypeId) (F : Foot) (w : World) : OwnS R sz base e F w (.slice none 0 0) [] :=
  ⟨[], World.ownsRow_nil w base e sz, by simp, by simp⟩

theorem chunk_app_left {cells news : List Value} {i n : Nat} (hl : cells.length = n * sz) (hi : i < n) : chunk sz i (cells ++ news) = chunk sz i cells := by
  have hle : i * sz + sz ≤ n * sz := by
    have := Nat.mul_le_mul_right sz (Nat.succ_le_of_lt hi)
    rw [Nat.succ_mul] at this
    exact this
  unfold chunk
  rw [List.drop_append_of_le_length (by omega), List.take_append_of_le_length (by rw [List.length_drop]; omega)]

theorem chunk_app_right {cells news : List Value} {i n : Nat} (hl : cells.length = n * sz) (hi : n ≤ i) : chunk sz i (cells ++ news) = chunk sz (i - n) news := by
  have hle := Nat.mul_le_mul_right sz hi
  unfold chunk
  rw [List.drop_append, List.drop_eq_nil_of_le (by omega), List.nil_append, hl, Nat.sub_mul]

/-- What an append of ys leaves. -/
theorem OwnS.app {cells news : List Value} {ys : List α} {v' : Value} (hx : xs.length * sz = cells.length) (ho : w'.ownsRow base e sz v' (xs.length + ys.length) (cells ++ news))
    (h1 : ∀ u ∈ cells, u.oneCell' = true) (h2 : ∀ u ∈ news, u.oneCell' = true)
    (hc : ∀ i x, xs[i]? = some x → R F w' (chunk sz i cells) x) (hn : ∀ i x, ys[i]? = some x → R F w' (chunk sz i news) x) : OwnS R sz base e F w' v' (xs ++ ys) := by
  refine ⟨cells ++ news, by rw [List.length_append]; exact ho, ?_, ?_⟩
  · intro u hu
    rcases List.mem_append.1 hu with h | h
    · exact h1 u h
    · exact h2 u h
  · intro i x hxx
    rcases Nat.lt_or_ge i xs.length with hi | hi
    · rw [List.getElem?_append_left hi] at hxx
      rw [chunk_app_left hx.symm hi]
      exact hc i x hxx
    · rw [List.getElem?_append_right hi] at hxx
      rw [chunk_app_right hx.symm hi]
      exact hn _ x hxx

theorem OwnS.block (h : OwnS R sz base e F w v xs) : ∀ g, v.ownBlock = some g → base ≤ g ∧ g < w.heap.size := by
  obtain ⟨cells, ho, _⟩ := h
  exact ho.lt

/-- What is owned stays owned while other blocks turn. -/
theorem OwnS.keep (ok : RepOk R sz) (h : OwnS R sz base e F w v xs) (hb : ∀ g, v.ownBlock = some g → w'.heap[g]? = w.heap[g]?) (hs : SameOn F w w') : OwnS R sz base e F w' v xs := by
  obtain ⟨cells, ho, h1, hc⟩ := h
  refine ⟨cells, ⟨ho.1, ?_⟩, h1, fun i x hx => ok.keep (hc i x hx) hs⟩
  rcases ho.2 with hn | ⟨g, cap, cur, rfl, hg, hh, rest⟩
  · exact .inl hn
  · exact .inr ⟨g, cap, cur, rfl, hg, by rw [hb g rfl]; exact hh, rest⟩
theorem OwnS.below (ok : RepOk R sz) (h : OwnS R sz base e F w v xs) (hb : Below w.heap.size w w') : OwnS R sz base e F w' v xs :=
  h.keep ok (fun g hg => hb.block g (h.block g hg).2) (SameOn.of_below hb)

theorem OwnS.rebase {base' : Nat} (h : OwnS R sz base e F w v xs) (hb : base' ≤ base) : OwnS R sz base' e F w v xs := by
  obtain ⟨cells, ho, h1, hc⟩ := h
  refine ⟨cells, ⟨ho.1, ?_⟩, h1, hc⟩
  rcases ho.2 with hn | ⟨g, cap, cur, rfl, hg, rest⟩
  · exact .inl hn
  · exact .inr ⟨g, cap, cur, rfl, by omega, rest⟩
theorem OwnS.new (ok : RepOk R sz) (h : OwnS R sz base e F w v xs) (o : Obj) : OwnS R sz base e F (w.alloc o) v xs := h.below ok (bnew (Below.refl _ _) o)
theorem OwnS.draw (ok : RepOk R sz) (h : OwnS R sz base e F w v xs) : OwnS R sz base e F w.drew v xs := h.keep ok (fun _ _ => rfl) fun _ _ _ => rfl
/-- A box that was laid just before the append is as it was. -/
theorem OwnS.boxed {w1 : World} {cs : Array Value} {t : TypeId} (h : OwnS R sz base e F w v xs) (hg : (w.alloc (.cells cs t)).grownBy w1 v.ownBlock) (i : Nat) : w1.cell? ⟨w.heap.size, i, none⟩ = cs[i]? := by
  have hb : w1.heap[w.heap.size]? = (w.alloc (.cells cs t)).heap[w.heap.size]? := hg.block w.heap.size (by simp) fun he => by
    have := (h.block w.heap.size he.symm).2
    omega
  exact cell_of_row w1 w.heap.size i cs t (0, 0) (hb.trans (heap_alloc_new w _))
/-- As a slice. -/
theorem OwnS.slice (ok : RepOk R sz) (h : OwnS R sz base e F w v xs) : ∃ oa c, v = .slice oa xs.length c ∧ xs.length ≤ c ∧ SliceR R sz (fun k => F k ∨ base ≤ k) w oa xs := by
  obtain ⟨cells, ho, h1, hc⟩ := h
  rcases ho.2 with ⟨rfl, hn⟩ | ⟨g, cap, cur, rfl, hg, hh, hle, _, hcs, htake⟩
  · have : xs = [] := List.eq_nil_of_length_eq_zero hn
    subst this
    exact ⟨none, 0, rfl, by simp, SliceR.nil _ _ _ _ _⟩
  · refine ⟨_, cap, rfl, hle, fun i x hx => ⟨g, 0, chunk sz i cells, rfl, .inr hg, ok.wide (hc i x hx) fun _ h _ => .inl h, fun j u hu => ?_⟩⟩
    obtain ⟨hj, hu⟩ := chunk_get hu
    have hi : i < xs.length := (List.getElem?_eq_some_iff.1 hx).1
    rw [cell_of_row w g _ cur e (0, 0) hh]
    rw [← htake, List.getElem?_take] at hu
    split at hu
    · rw [show 0 + i * sz + j = i * sz + j from by omega]
      simpa using hu
    · cases hu
end

/-- The arm for 'out = append(out, src...)'. -/
theorem wpList_append_rep {α : Type} {R : Rep α} {P : Program} {w : World} {ops : Array Oper} {rest : List Oper} {o : Oper} {a : Act} {Q : Exit → Act → World → Prop} (hgd : o.guard = none) (s x : Operand) (t : TypeId)
    (ho : o.op = .call { callee := .builtin .append, args := #[s, x], argTypes := #[t, t] })
    (base : Nat) (e : TypeId) (z : Value) (size bytes : Nat) (ht : P.underlying t = some (.slice e)) (hinfo : (P.info? e).map (fun i => (i.zero, i.size, i.bytes)) = some (some z, size, bytes))
    (hzs : z.cells.size = size) (hsz : 0 < size) (ok : RepOk R size)
    (F G : Foot) (v : Value) (xs : List α) (hs : a.eval s = v) (hown : OwnS R size base e F w v xs)
    (oa : Option Addr) (c : Nat) (ys : List α) (hx : a.eval x = .slice oa ys.length c) (hsrc : SliceR R size G w oa ys) (hW : ∀ cs x, R G w cs x → R F w cs x) (hF : ∀ k, F k → k < base)
    (hbytes : (xs.length + ys.length) * bytes ≤ 140737488355328) (hm : xs.length + ys.length ≤ 9223372036854775807) (hbase : base ≤ w.heap.size)
    (h : ∀ v' w', OwnS R size base e F w' v' (xs ++ ys) → Below base w w' → w.grownBy w' v.ownBlock → wpList P ops Q rest (a.put o.dst v') w') : wpList P ops Q (o :: rest) a w := by
  obtain ⟨i0, hi, hz0, hz1, hz2⟩ := info_parts hinfo
  obtain ⟨cells, hown0, h1, hc⟩ := hown
  obtain ⟨news, hn1, hn2, hn3, hn4⟩ := hsrc.cells ok
  refine wpList_append_src w hgd s x t ho base e i0 z size bytes ht hi hz0 hz1 hz2 hzs hsz v xs.length cells hs hown0 oa ys.length c news hx hn1 hn2 hn3 (by unfold maxLen; omega) hbytes hbase fun v' w' ho' hg => ?_
  have hb : Below base w w' := (Below.refl base w).grown hg hbase fun k hk => (hown0.lt k hk).1
  have hsame : SameOn F w w' := fun k hk _ => hb.block k (hF k hk)
  refine h v' w' (OwnS.app hown0.1.symm ho' h1 hn3 (fun i x hx => ok.keep (hc i x hx) hsame) (fun i x hx => ok.keep (hW _ _ (hn4 i x hx)) hsame)) hb hg

end Go.Proofs.YtnigfddanoaonaaGreat

set_option linter.unusedVariables false
namespace Go.Proofs.YtnigfddanoaonaaGreat
open Go.RowKit

/-- Block g holds f of xs, and behind them rest. -/
def Row1 {α : Type} (f : α → Value) (w : World) (g : Nat) (e : TypeId) (xs : List α) (rest : List Value) : Prop := w.heap[g]? = some (.cells (xs.map f ++ rest).toArray e (0, 0))

section
variable {α : Type} {f : α → Value} {w w' : World} {g : Nat} {e : TypeId} {xs : List α} {rest : List Value}
theorem Row1.lt (h : Row1 f w g e xs rest) : g < w.heap.size := (Array.getElem?_eq_some_iff.1 h).1
theorem Row1.cell (h : Row1 f w g e xs rest) {i : Nat} {x : α} (hi : xs[i]? = some x) : w.cell? ⟨g, i, none⟩ = some (f x) := by
  have hl : i < xs.length := (List.getElem?_eq_some_iff.1 hi).1
  rw [cell_of_row w g _ _ _ _ h]
  simp only [List.getElem?_toArray]
  rw [List.getElem?_append_left (by simpa using hl), List.getElem?_map, hi]
  rfl
theorem Row1.free (h : Row1 f w g e xs rest) (i : Nat) : w.frozen? ⟨g, i, none⟩ = false := frozen_of_row w g i _ _ h
theorem Row1.keep (h : Row1 f w g e xs rest) (hb : w'.heap[g]? = w.heap[g]?) : Row1 f w' g e xs rest := hb.trans h
theorem Row1.below (h : Row1 f w g e xs rest) (hb : Below w.heap.size w w') : Row1 f w' g e xs rest := h.keep (hb.block g h.lt)
theorem Row1.new (h : Row1 f w g e xs rest) (o : Obj) : Row1 f (w.alloc o) g e xs rest := h.below (bnew (Below.refl _ _) o)
theorem Row1.draw (h : Row1 f w g e xs rest) : Row1 f w.drew g e xs rest := h
theorem heap_set1 (w : World) (g i : Nat) (l : List Value) (e : TypeId) (u : Value) (h : w.heap[g]? = some (.cells l.toArray e (0, 0))) : (w.setCell ⟨g, i, none⟩ u).heap[g]? = some (.cells (l.set i u).toArray e (0, 0)) := by
  simp [World.setCell, Array.getElem?_modify, h]
theorem Row1.put (h : Row1 f w g e xs rest) {i : Nat} (hi : i < xs.length) (y : α) : Row1 f (w.setCell ⟨g, i, none⟩ (f y)) g e (xs.set i y) rest := by
  unfold Row1
  rw [heap_set1 w g i _ e _ h, List.set_append_left _ _ (by simpa using hi), List.map_set]
/-- A store into another block. -/
theorem Row1.other (h : Row1 f w g e xs rest) {p : Addr} (hp : g ≠ p.block) (u : Value) : Row1 f (w.setCell p u) g e xs rest := h.keep (Below.heap_setCell w p u g hp)
theorem Row1.of (cur : List Value) (h : w.heap[g]? = some (.cells cur.toArray e (0, 0))) (hx : xs.map f = cur.take xs.length) : Row1 f w g e xs (cur.drop xs.length) := by
  unfold Row1
  rw [hx, List.take_append_drop]
  exact h
theorem Row1.own (h : Row1 f w g e xs rest) (hone : ∀ x, (f x).cells = #[f x]) {base cap : Nat} (hg : base ≤ g) (hc : cap = xs.length + rest.length) (hm : cap ≤ maxLen) :
    w.ownsRow base e 1 (.slice (some ⟨g, 0, none⟩) xs.length cap) xs.length (xs.map f) :=
  ⟨by simp, .inr ⟨g, cap, _, rfl, hg, h, by omega, hm, by simp; omega, by simp⟩⟩
end

section
variable {w w' : World} {g base : Nat} {e : TypeId} {F : Foot} {rest : List Value} {v : Value}
theorem Row1.ints {xs : List Int} (h : Row1 (Value.int .i64) w g e xs rest) (hx : ∀ x ∈ xs, I64 x) (hF : F g) : SliceR intR 1 F w (some ⟨g, 0, none⟩) xs := by
  intro i x hi
  refine ⟨g, 0, [.int .i64 x], rfl, hF, ⟨rfl, hx x (List.mem_of_getElem? hi)⟩, fun j u hu => ?_⟩
  have hj : j = 0 := by
    have := (List.getElem?_eq_some_iff.1 hu).1
    simp at this
    exact this
  subst hj
  simp at hu
  subst hu
  simpa using h.cell hi
/-- A row of ints that append made (or grew), known whole. -/
theorem OwnS.row {xs : List Int} (h : OwnS intR 1 base e F w v xs) (hne : xs ≠ []) : ∃ g cap rest, v = .slice (some ⟨g, 0, none⟩) xs.length cap ∧ base ≤ g ∧ cap = xs.length + rest.length ∧ cap ≤ maxLen ∧ Row1 (Value.int .i64) w g e xs rest ∧ ∀ x ∈ xs, I64 x := by
  obtain ⟨cells, ho, h1, hc⟩ := h
  have hcells : cells = xs.map (Value.int .i64) := by
    have hl := ho.1
    apply List.ext_getElem?
    intro i
    rw [List.getElem?_map]
    rcases Nat.lt_or_ge i xs.length with hi | hi
    · have h2 := (hc i _ (List.getElem?_eq_getElem hi)).1
      rw [List.getElem?_eq_getElem hi]
      have h3 := congrArg (fun l => l[0]?) h2
      simp only [chunk, Nat.mul_one] at h3
      rw [List.getElem?_take_of_lt (by omega), List.getElem?_drop] at h3
      simpa using h3
    · rw [List.getElem?_eq_none (by omega), List.getElem?_eq_none (by omega)]
      rfl
  have h64 : ∀ x ∈ xs, I64 x := fun x hx => by
    obtain ⟨i, hi, rfl⟩ := List.getElem_of_mem hx
    exact (hc i _ (List.getElem?_eq_getElem hi)).2
  rcases ho.2 with ⟨_, hn⟩ | ⟨g, cap, cur, rfl, hg, hh, hle, hcm, hcs, htake⟩
  · exact absurd (List.eq_nil_of_length_eq_zero hn) hne
  · refine ⟨g, cap, cur.toList.drop xs.length, rfl, hg, by simp; omega, hcm, Row1.of cur.toList hh ?_, h64⟩
    rw [← hcells, ← htake, Nat.mul_one]
/-- Back. -/
theorem Row1.ownInts {xs : List Int} (h : Row1 (Value.int .i64) w g e xs rest) (hx : ∀ x ∈ xs, I64 x) {cap : Nat} (hg : base ≤ g) (hc : cap = xs.length + rest.length) (hm : cap ≤ maxLen) :
    OwnS intR 1 base e F w (.slice (some ⟨g, 0, none⟩) xs.length cap) xs := by
  refine ⟨xs.map (Value.int .i64), h.own (fun _ => rfl) hg hc hm, ?_, ?_⟩
  · intro u hu
    obtain ⟨x, _, rfl⟩ := List.mem_map.1 hu
    rfl
  · intro i x hi
    refine ⟨?_, hx x (List.mem_of_getElem? hi)⟩
    have hl : i < xs.length := (List.getElem?_eq_some_iff.1 hi).1
    apply List.ext_getElem?
    intro j
    unfold chunk
    match j with
    | 0 =>
      rw [List.getElem?_take_of_lt (by omega), List.getElem?_drop, List.getElem?_map]
      simp [hi]
    | j + 1 => rw [List.getElem?_eq_none (by simp; omega), List.getElem?_eq_none (by simp)]
end

/-- make([]T, n): a row of n zeros. -/
theorem wpList_make_row {α : Type} {f : α → Value} {P : Program} (w : World) {ops : Array Oper} {rest : List Oper} {o : Oper} {a : Act} {Q : Exit → Act → World → Prop}
    (hg : o.guard = none) (l c : Operand) (t : TypeId) (hop : o.op = Op.makeSlice t l c) (e : TypeId) (x0 : α) (bytes : Nat) (h1 : P.underlying t = some (.slice e)) (hinfo : (P.info? e).map (fun i => (i.zero, i.size, i.bytes)) = some (some (f x0), 1, bytes))
    (hone : (f x0).cells = #[f x0]) (kl kc : IntKind) (L C : Int) (n : Nat) (hl : a.eval l = .int kl L) (hc : a.eval c = .int kc C) (hL : L = (n : Int)) (hC : C = (n : Int)) (b2 : bytes * n ≤ 281474976710656) (b3 : n ≤ maxLen)
    (hK : ∀ w', Row1 f w' w.heap.size e (List.replicate n x0) [] → Below w.heap.size w w' → w.grownBy w' none → wpList P ops Q rest (a.put o.dst (.slice (some ⟨w.heap.size, 0, none⟩) n n)) w') :
    wpList P ops Q (o :: rest) a w := by
  obtain ⟨i0, hi, hz0, hz1, hz2⟩ := info_parts hinfo
  refine wpList_make_full w hg l c t hop w.heap.size e i0 (f x0) 1 h1 hi hz0 hz1 kl kc L C n hl hc hL hC (by rw [hz2]; exact b2) b3 (Nat.le_refl _) fun w' hown hgr => hK w' ?_ ((Below.refl _ _).grown hgr (Nat.le_refl _) fun k hk => by cases hk) hgr
  rcases hown.2 with ⟨he, _⟩ | ⟨g, cap, cur, he, _, hh, _, _, hcs, htake⟩
  · cases he
  · injection he with e1 e2 e3
    injection e1 with e1
    injection e1 with e1
    subst e1 e3
    have hcur : cur.toList = (List.replicate n x0).map f ++ [] := by
      rw [List.append_nil, List.map_replicate]
      rw [← List.take_of_length_le (l := cur.toList) (i := n * 1) (by simp; omega), htake]
      apply List.ext_getElem?
      intro j
      simp only [Array.getElem?_toList, madeCells, Array.getElem?_map, Array.getElem?_range, List.getElem?_replicate, hone]
      by_cases hj : j < n
      · simp [hj, Nat.mod_one]
      · simp [hj]
    unfold Row1
    rw [← hcur]
    exact hh

end Go.Proofs.YtnigfddanoaonaaGreat

set_option linter.unusedVariables false
namespace Go.Proofs.YtnigfddanoaonaaGreat
open Go.RowKit

theorem run_copy_cells {P : Program} (w : World) (dT sT ty elem : TypeId) (g dLen dCap sz n : Nat) (ad : Addr) (sLen sCap : Nat) (cur : Array Value) (t : TypeId) (cs : List Value)
    (hu : P.underlying dT = some (.slice elem)) (hs : (P.info? elem).map (·.size) = some sz) (hg : w.heap[g]? = some (.cells cur t (0, 0))) (hn : n = Nat.min sLen dLen) (hc : cs.length = n * sz)
    (hsrc : ∀ j v, cs[j]? = some v → w.cell? (ad.add j) = some v) (hfit : cs.length = cur.size) (h1 : ∀ v ∈ cs, v.oneCell' = true) :
    (Builtin.copy_ #[dT, sT] ty #[.slice (some ⟨g, 0, none⟩) dLen dCap, .slice (some ad) sLen sCap]).run P w = .ok (goInt n) (w.setRow g cs.toArray) := by
  have hl := run_loadCells_list (P := P) w ad cs hsrc
  have hst := run_storeCells_at P g 0 t cs 0 cur w hg (by simp; omega) h1
  have hd : cur.toList.drop cs.length = [] := List.drop_eq_nil_of_le (by simp; omega)
  cases hq : P.info? elem with
  | none => simp [hq] at hs
  | some i =>
    have hi : i.size = sz := by simpa [hq] using hs
    rw [hc] at hl
    simp [hd] at hst
    simp [Builtin.copy_, run_underlying hu, Builtin.lenOf, Builtin.firstCells, sizeOf, typeInfo, hq, hi, ← hn, hl, hst]

section
variable {α : Type} {R : Rep α} {sz base : Nat} {e : TypeId} {F : Foot}
theorem wpList_copy_fresh (ok : RepOk R sz) {P : Program} {w : World} {ops : Array Oper} {rest : List Oper} {o : Oper} {a : Act} {Q : Exit → Act → World → Prop} (hgd : o.guard = none) (d s : Operand) (dT sT : TypeId)
    (ho : o.op = .call { callee := .builtin .copy, args := #[d, s], argTypes := #[dT, sT] }) (elem : TypeId) (hu : P.underlying dT = some (.slice elem)) (hsz : (P.info? elem).map (·.size) = some sz)
    (g n : Nat) (ad : Option Addr) (sCap : Nat) (hd : a.eval d = .slice (some ⟨g, 0, none⟩) n n) (hs : a.eval s = .slice ad n sCap)
    (xs : List α) (zs : List Value) (hown : w.ownsRow base e sz (.slice (some ⟨g, 0, none⟩) n n) n zs) (hx : xs.length = n) (hn : 0 < n) (hz : 0 < sz) (hsr : SliceR R sz F w ad xs) (hF : ¬ F g)
    (hK : ∀ w', OwnS R sz base e F w' (.slice (some ⟨g, 0, none⟩) n n) xs → w.grownBy w' (some g) → wpList P ops Q rest (a.put o.dst (goInt n)) w') : wpList P ops Q (o :: rest) a w := by
  obtain ⟨news, hl, hsrc, h1, hR⟩ := hsr.cells ok
  rw [hx] at hl
  have hpos : 0 < news.length := by rw [hl]; exact Nat.mul_pos hn hz
  obtain ⟨b, off, had, _⟩ := hsrc 0 _ (List.getElem?_eq_getElem hpos)
  subst had
  rcases hown.2 with ⟨he, _⟩ | ⟨g', cap, cur, he, hbg, hh, _, hcap, hcs, _⟩
  · cases he
  injection he with e1 e2 e3
  injection e1 with e1
  injection e1 with e1
  subst e1 e3
  have hrun := run_copy_cells (P := P) w dT sT o.type elem g n n sz n ⟨b, off, none⟩ n sCap cur e news hu hsz hh (by simp) hl (fun j v hj => by
    obtain ⟨b', off', h2, h3⟩ := hsrc j v hj
    injection h2 with h2
    injection h2 with h4 h5
    subst h4 h5
    rw [Addr.add_lit]
    exact h3) (by rw [hl, hcs]) h1
  refine wpList_plain hgd fun K hK' => ?_
  have hfin := hK (w.setRow g news.toArray) ?_ ⟨rfl, rfl, rfl, by simp [World.setRow], fun k _ hne => setRow_other w g k _ fun he => hne (by rw [he])⟩
  · unfold Oper.wp
    simp [execOp, ho, resolve, invoke, builtin, hd, hs, hrun, Result.andThen]
    exact hK' _ _ hfin
  refine ⟨news, ⟨by rw [hl, hx], .inr ⟨g, n, news.toArray, by rw [hx], hbg, setRow_heap w g cur _ e (0, 0) hh, by omega, hcap, by simp [hl], by rw [hx]; exact List.take_of_length_le (Nat.le_of_eq hl)⟩⟩, h1, fun i x hi => ?_⟩
  refine ok.keep (hR i x hi) fun k hk _ => setRow_other w g k _ fun he => hF (he ▸ hk)
end

/-- make([]T, n): a row of the call's own. -/
theorem wpList_make_cells {P : Program} (w : World) {ops : Array Oper} {rest : List Oper} {o : Oper} {a : Act} {Q : Exit → Act → World → Prop}
    (hg : o.guard = none) (l c : Operand) (t : TypeId) (hop : o.op = Op.makeSlice t l c) (e : TypeId) (z : Value) (size bytes : Nat) (h1 : P.underlying t = some (.slice e)) (hinfo : (P.info? e).map (fun i => (i.zero, i.size, i.bytes)) = some (some z, size, bytes))
    (kl kc : IntKind) (L C : Int) (n : Nat) (hl : a.eval l = .int kl L) (hc : a.eval c = .int kc C) (hL : L = (n : Int)) (hC : C = (n : Int)) (b2 : bytes * n ≤ 281474976710656) (b3 : n ≤ maxLen)
    (hK : ∀ w' zs, w'.ownsRow w.heap.size e size (.slice (some ⟨w.heap.size, 0, none⟩) n n) n zs → w.grownBy w' none → wpList P ops Q rest (a.put o.dst (.slice (some ⟨w.heap.size, 0, none⟩) n n)) w') :
    wpList P ops Q (o :: rest) a w := by
  obtain ⟨i0, hi, hz0, hz1, hz2⟩ := info_parts hinfo
  exact wpList_make_full w hg l c t hop w.heap.size e i0 z size h1 hi hz0 hz1 kl kc L C n hl hc hL hC (by rw [hz2]; exact b2) b3 (Nat.le_refl _) fun w' hown hgr => hK w' _ hown hgr

end Go.Proofs.YtnigfddanoaonaaGreat

set_option linter.unusedVariables false
namespace Go.Proofs.YtnigfddanoaonaaGreat
open Go.RowKit

def InF (P : Foot) (v : Value) : Foot := fun k => P k ∧ some k ≠ v.ownBlock
theorem ownsRow_keep {w w' : World} {base : Nat} {e : TypeId} {sz : Nat} {v : Value} {n : Nat} {zs : List Value} (h : w.ownsRow base e sz v n zs) (hk : ∀ g, v.ownBlock = some g → w'.heap[g]? = w.heap[g]?) : w'.ownsRow base e sz v n zs :=
  ⟨h.1, h.2.imp id fun ⟨g, cap, cur, hv, hb, hh, r⟩ => ⟨g, cap, cur, hv, hb, (hk g (by rw [hv]; rfl)).trans hh, r⟩⟩
section
variable {α : Type} {R : Rep α} {sz base : Nat} {e : TypeId} {P : Foot} {w w' : World} {v v' : Value} {xs : List α}
theorem own_snoc (ok : RepOk R sz) {y : α} {cells news : List Value} (hown0 : w.ownsRow base e sz v xs.length cells) (h1 : ∀ u ∈ cells, u.oneCell' = true) (hc : ∀ i x, xs[i]? = some x → R (InF P v) w (chunk sz i cells) x) (hR : R (InF P v) w news y)
    (h2 : w'.ownsRow base e sz v' (xs.length + 1) (cells ++ news)) (h3 : w.grownBy w' v.ownBlock) (h4 : ∀ k, v'.ownBlock = some k → v.ownBlock = some k ∨ k = w.heap.size) : OwnS R sz base e (InF P v') w' v' (xs ++ [y]) := by
  have key : ∀ {cs : List Value} {x : α}, R (InF P v) w cs x → R (InF P v') w' cs x := fun {cs x} hx => by
    have a1 : R (fun k => InF P v k ∧ k < w.heap.size) w cs x := ok.wide hx fun k hk hl => ⟨hk, hl⟩
    have a2 : R (fun k => InF P v k ∧ k < w.heap.size) w' cs x := ok.keep a1 fun k hk hl => h3.block k hl hk.1.2
    refine ok.wide a2 fun k hk _ => ⟨hk.1.1, fun he => ?_⟩
    rcases h4 k he.symm with h | h
    · exact hk.1.2 h.symm
    · have := hk.2; omega
  have hnl := ok.len hR
  have hl : (xs ++ [y]).length = xs.length + 1 := by simp
  refine ⟨cells ++ news, by rw [hl]; exact h2, fun u hu => ?_, fun i q hq => ?_⟩
  · rcases List.mem_append.1 hu with hu | hu
    · exact h1 u hu
    · exact ok.one hR u hu
  · have hcl : cells.length = xs.length * sz := hown0.1
    by_cases hlt : i < xs.length
    · rw [chunk_app_left hcl hlt]
      rw [List.getElem?_append_left hlt] at hq
      exact key (hc i q hq)
    · have hie : i = xs.length := by
        have := (List.getElem?_eq_some_iff.1 hq).1
        simp at this
        omega
      subst hie
      have hqy : q = y := by simpa using hq.symm
      subst hqy
      have : chunk sz xs.length (cells ++ news) = news := by
        unfold chunk
        rw [← hcl, List.drop_left, List.take_of_length_le (by omega)]
      rw [this]
      exact key hR
end

theorem wpList_append_in {α : Type} {R : Rep α} {P : Program} {w : World} {ops : Array Oper} {rest : List Oper} {o : Oper} {a : Act} {Q : Exit → Act → World → Prop} (hgd : o.guard = none) (s x : Operand) (t : TypeId)
    (ho : o.op = .call { callee := .builtin .append, args := #[s, x], argTypes := #[t, t] })
    (base : Nat) (e : TypeId) (z : Value) (size bytes : Nat) (ht : P.underlying t = some (.slice e)) (hinfo : (P.info? e).map (fun i => (i.zero, i.size, i.bytes)) = some (some z, size, bytes))
    (hzs : z.cells.size = size) (hsz : 0 < size) (ok : RepOk R size)
    (F : Foot) (v : Value) (xs : List α) (hs : a.eval s = v) (hown : OwnS R size base e (InF F v) w v xs)
    (ad : Addr) (c : Nat) (news : List Value) (y : α) (hx : a.eval x = .slice (some ad) 1 c) (hnews : ∀ j u, news[j]? = some u → w.cell? (ad.add j) = some u) (hR : R (InF F v) w news y)
    (hbytes : (xs.length + 1) * bytes ≤ 140737488355328) (hm : xs.length + 1 ≤ maxLen) (hbase : base ≤ w.heap.size)
    (hK : ∀ v' w', OwnS R size base e (InF F v') w' v' (xs ++ [y]) → Below base w w' → w.grownBy w' v.ownBlock → (∀ k, v'.ownBlock = some k → v.ownBlock = some k ∨ k = w.heap.size) → wpList P ops Q rest (a.put o.dst v') w') :
    wpList P ops Q (o :: rest) a w := by
  obtain ⟨i0, hi, hz0, hz1, hz2⟩ := info_parts hinfo
  obtain ⟨cells, hown0, h1, hc⟩ := hown
  have hnl := ok.len hR
  refine wpList_append_lies (w := w) hgd s x t ho base e i0 z size bytes ht hi hz0 hz1 hz2 hzs hsz v xs.length cells hs hown0 ad 1 c news hx (by rw [hnl, Nat.one_mul]) hnews (ok.one hR) (by omega) hm hbytes hbase w.heap.size rfl fun g cap w' h2 h3 h4 h5 => ?_
  have hb : Below base w w' := (Below.refl base w).grown h3 hbase fun k hk => (hown0.lt k hk).1
  have hat : ∀ k, (Value.slice (some ⟨g, 0, none⟩) (xs.length + 1) cap).ownBlock = some k → v.ownBlock = some k ∨ k = w.heap.size := fun k hk => by
    simp [Value.ownBlock] at hk
    subst hk
    exact h4
  exact hK _ w' (own_snoc ok hown0 h1 hc hR h2 h3 hat) hb h3 hat

theorem step_append_in {α : Type} {R : Rep α} {P : Program} {ops : Array Oper} {o : Oper} {a : Act} {w : World} {K : Act → World → Prop} {Q : Exit → Act → World → Prop} {E : Prop} (hgd : o.guard = none) (s x : Operand) (t : TypeId)
    (ho : o.op = .call { callee := .builtin .append, args := #[s, x], argTypes := #[t, t] })
    (base : Nat) (e : TypeId) (z : Value) (size bytes : Nat) (ht : P.underlying t = some (.slice e)) (hinfo : (P.info? e).map (fun i => (i.zero, i.size, i.bytes)) = some (some z, size, bytes))
    (hzs : z.cells.size = size) (hsz : 0 < size) (ok : RepOk R size)
    (F : Foot) (v : Value) (xs : List α) (hs : a.eval s = v) (hown : OwnS R size base e (InF F v) w v xs)
    (ad : Addr) (c : Nat) (news : List Value) (y : α) (hx : a.eval x = .slice (some ad) 1 c) (hnews : ∀ j u, news[j]? = some u → w.cell? (ad.add j) = some u) (hR : R (InF F v) w news y)
    (hbytes : (xs.length + 1) * bytes ≤ 140737488355328) (hm : xs.length + 1 ≤ maxLen) (hbase : base ≤ w.heap.size)
    (hK : ∀ v' w', OwnS R size base e (InF F v') w' v' (xs ++ [y]) → Below base w w' → w.grownBy w' v.ownBlock → (∀ k, v'.ownBlock = some k → v.ownBlock = some k ∨ k = w.heap.size) → K (a.put o.dst v') w') :
    if Region.wanted o (yielded ops a.tmps) = true then Oper.wp P o a w K Q else E := by
  obtain ⟨i0, hi, hz0, hz1, hz2⟩ := info_parts hinfo
  obtain ⟨cells, hown0, h1, hc⟩ := hown
  have hnl := ok.len hR
  refine step_append_lies (w := w) hgd s x t ho base e i0 z size bytes ht hi hz0 hz1 hz2 hzs hsz v xs.length cells hs hown0 ad 1 c news hx (by rw [hnl, Nat.one_mul]) hnews (ok.one hR) (by omega) hm hbytes hbase w.heap.size rfl fun g cap w' h2 h3 h4 h5 => ?_
  have hb : Below base w w' := (Below.refl base w).grown h3 hbase fun k hk => (hown0.lt k hk).1
  have hat : ∀ k, (Value.slice (some ⟨g, 0, none⟩) (xs.length + 1) cap).ownBlock = some k → v.ownBlock = some k ∨ k = w.heap.size := fun k hk => by
    simp [Value.ownBlock] at hk
    subst hk
    exact h4
  exact hK _ w' (own_snoc ok hown0 h1 hc hR h2 h3 hat) hb h3 hat

end Go.Proofs.YtnigfddanoaonaaGreat

set_option linter.unusedVariables false
set_option linter.unusedSimpArgs false
set_option linter.unnecessarySimpa false
namespace Go.Proofs.YtnigfddanoaonaaGreat
open Go.RowKit

/-- A line: the letters queued, how many were removed, when the first was sent last (0: never), how many were accepted. -/
structure Ln where
  q : List Int
  rm : Nat
  sn : Nat
  ac : Nat
/-- A packet on a line: a letter with its number, or an acknowledgement. -/
inductive Pk where
  | lett (l num : Nat) (kind : Int)
  | ack (l num : Nat)
/-- All that goes on. -/
structure Wr where
  st : List Int
  wt : List (List Int)
  ct : List (List Int)
  ls : List Ln
  fl : List (Pk × Nat)
  tk : Nat
  se : Nat
  lg : Bool
def Ln.none : Ln := ⟨[], 0, 0, 0⟩
def fateS (fates : List Int) (se : Nat) : Int := fates.getD se 0
def delayS (f : Int) : List Nat := if f = 0 then [1] else if f = 2 then [1, 2] else if f = 3 then [6] else []
def sendS (fates : List Int) (p : Pk) (w : Wr) : Wr := { w with se := w.se + 1, fl := w.fl ++ (delayS (fateS fates w.se)).map fun n => (p, w.tk + n) }
def bump (wt : List (List Int)) (p k : Nat) (x : Int) : List (List Int) := wt.set p ((wt.getD p []).set k ((wt.getD p []).getD k 0 + x))
def waitS (p k : Nat) (w : Wr) : Wr := { w with wt := bump w.wt p k 1, lg := w.lg || decide (1048576 < (w.wt.getD p []).getD k 0 + 1) }
def dropL : List Int → Nat → Nat → Nat → List Int × Nat × Nat
  | [], rm, sn, _ => ([], rm, sn)
  | x :: r, rm, sn, num => if rm < num then dropL r (rm + 1) 0 num else (x :: r, rm, sn)
def Ln.drop (l : Ln) (num : Nat) : Ln := ⟨(dropL l.q l.rm l.sn num).1, (dropL l.q l.rm l.sn num).2.1, (dropL l.q l.rm l.sn num).2.2, l.ac⟩
/-- N processors; line p * N + q leads from p to q. -/
def handleS (N : Nat) (fates : List Int) (p : Pk) (w : Wr) : Wr :=
  match p with
  | .lett l num kind =>
    if num = (w.ls.getD l Ln.none).ac + 1 then
      sendS fates (.ack l ((w.ls.getD l Ln.none).ac + 1)) (waitS (l % N) kind.toNat { w with ls := w.ls.set l { w.ls.getD l Ln.none with ac := (w.ls.getD l Ln.none).ac + 1 } })
    else sendS fates (.ack l (w.ls.getD l Ln.none).ac) w
  | .ack l num => { w with ls := w.ls.set l ((w.ls.getD l Ln.none).drop num) }
def arriveS (N : Nat) (fates : List Int) (w : Wr) : Wr :=
  (w.fl.filter fun a => a.2 == w.tk).foldl (fun w a => handleS N fates a.1 w) { w with fl := w.fl.filter fun a => !(a.2 == w.tk) }
/-- The least letter that waits. -/
def leastS (row : List Int) : Option Nat := row.findIdx? fun n => decide (0 < n)
/-- What a processor sends. -/
def putS (N p : Nat) (x : Int × Int) (w : Wr) : Wr :=
  if x.1 = (p : Int) then waitS p x.2.toNat w
  else { w with ls := w.ls.set (p * N + x.1.toNat) { w.ls.getD (p * N + x.1.toNat) Ln.none with q := (w.ls.getD (p * N + x.1.toNat) Ln.none).q ++ [x.2] } }
/-- next and sent: the rules (processor, state, letter). -/
def readS (N : Nat) (next : Nat → Int → Nat → Int) (sent : Nat → Int → Nat → List (Int × Int)) (p : Nat) (w : Wr) : Wr :=
  match leastS (w.wt.getD p []) with
  | none => w
  | some k => (sent p (w.st.getD p 0) k).foldl (fun w x => putS N p x w) { w with wt := bump w.wt p k (-1), ct := bump w.ct p k 1, st := w.st.set p (next p (w.st.getD p 0) k) }
def lineS (fates : List Int) (j : Nat) (w : Wr) : Wr :=
  match (w.ls.getD j Ln.none).q with
  | [] => w
  | a :: _ =>
    if (w.ls.getD j Ln.none).sn = 0 ∨ (w.ls.getD j Ln.none).sn + 4 ≤ w.tk then
      { sendS fates (.lett j ((w.ls.getD j Ln.none).rm + 1) a) w with ls := w.ls.set j { w.ls.getD j Ln.none with sn := w.tk } }
    else w
def tickS (N : Nat) (next : Nat → Int → Nat → Int) (sent : Nat → Int → Nat → List (Int × Int)) (fates : List Int) (w : Wr) : Wr :=
  (List.range (N * N)).foldl (fun w j => lineS fates j w) ((List.range N).foldl (fun w p => readS N next sent p w) (arriveS N fates { w with tk := w.tk + 1 }))
/-- Something waits, flies or is queued. -/
def busyS (w : Wr) : Bool := (!w.fl.isEmpty) || w.ls.any (fun l => !l.q.isEmpty) || w.wt.any (fun row => row.any fun n => n != 0)
def beginS (st : List Int) (wt : List (List Int)) (N : Nat) : Wr := ⟨st, wt, wt.map fun l => List.replicate l.length 0, List.replicate (N * N) Ln.none, [], 0, 0, false⟩

def ticksS (N : Nat) (next : Nat → Int → Nat → Int) (sent : Nat → Int → Nat → List (Int × Int)) (fates : List Int) (w : Wr) : Nat → Wr
  | 0 => w
  | i + 1 => tickS N next sent fates (ticksS N next sent fates w i)
end Go.Proofs.YtnigfddanoaonaaGreat

set_option linter.unusedVariables false
namespace Go.Proofs.YtnigfddanoaonaaGreat
open Go.RowKit

/-- v is a part, from some place on to the end, of a row of the call's own, and holds xs. -/
def OwnQ (base : Nat) (e : TypeId) (w : World) (v : Value) (xs : List Int) : Prop :=
  ∃ g o cap cur, v = .slice (some ⟨g, o, none⟩) xs.length cap ∧ base ≤ g ∧ w.heap[g]? = some (.cells cur e (0, 0)) ∧ xs.length ≤ cap ∧ cap ≤ maxLen ∧ o + cap ≤ cur.size ∧ (cur.toList.drop o).take xs.length = xs.map (Value.int .i64) ∧ ∀ x ∈ xs, I64 x

section
variable {base : Nat} {e : TypeId} {w w' : World} {v : Value} {xs : List Int}

theorem OwnQ.block (h : OwnQ base e w v xs) : ∀ g, v.ownBlock = some g → base ≤ g ∧ g < w.heap.size := by
  obtain ⟨g, o, cap, cur, rfl, h1, h2, _⟩ := h
  intro k hk
  simp [Value.ownBlock] at hk
  subst hk
  exact ⟨h1, (Array.getElem?_eq_some_iff.1 h2).1⟩

theorem OwnQ.keep (h : OwnQ base e w v xs) (hb : ∀ g, v.ownBlock = some g → w'.heap[g]? = w.heap[g]?) : OwnQ base e w' v xs := by
  obtain ⟨g, o, cap, cur, rfl, h1, h2, h3⟩ := h
  exact ⟨g, o, cap, cur, rfl, h1, by rw [hb g rfl]; exact h2, h3⟩
theorem OwnQ.below (h : OwnQ base e w v xs) (hb : Below w.heap.size w w') : OwnQ base e w' v xs :=
  h.keep fun g hg => hb.block g (h.block g hg).2
theorem OwnQ.new (h : OwnQ base e w v xs) (o : Obj) : OwnQ base e (w.alloc o) v xs := h.below (bnew (Below.refl _ _) o)

theorem OwnQ.rebase {base' : Nat} (h : OwnQ base e w v xs) (hb : base' ≤ base) : OwnQ base' e w v xs := by
  obtain ⟨g, o, cap, cur, rfl, h1, h2⟩ := h
  exact ⟨g, o, cap, cur, rfl, by omega, h2⟩
/-- The list of ints that a literal lays. -/
theorem OwnQ.lit (w : World) (e : TypeId) (xs : List Int) (h : ∀ x ∈ xs, I64 x) (hl : xs.length ≤ 1000000000000) :
    OwnQ w.heap.size e (w.alloc (.cells (xs.map (Value.int .i64)).toArray e)) (.slice (some ⟨w.heap.size, 0, none⟩) xs.length xs.length) xs :=
  ⟨w.heap.size, 0, xs.length, _, rfl, Nat.le_refl _, heap_alloc_new w _, Nat.le_refl _, by unfold maxLen; omega, by simp, by simp [List.take_of_length_le], h⟩

theorem OwnQ.get (h : OwnQ base e w v xs) {g o cap : Nat} (hv : v = .slice (some ⟨g, o, none⟩) xs.length cap) : ∀ (i : Nat) (x : Int), xs[i]? = some x → w.cell? ⟨g, o + i, none⟩ = some (.int .i64 x) := by
  obtain ⟨g', o', cap', cur, hv', h1, h2, h3, h4, h5, h6, h7⟩ := h
  rw [hv] at hv'
  injection hv' with e1 e2 e3
  injection e1 with e1
  injection e1 with e4 e5
  subst e4 e5
  intro i x hx
  have hi : i < xs.length := (List.getElem?_eq_some_iff.1 hx).1
  have h8 := congrArg (fun l => l[i]?) h6
  simp only [List.getElem?_map, hx, Option.map_some] at h8
  rw [List.getElem?_take_of_lt hi, List.getElem?_drop] at h8
  rw [cell_of_row w g _ cur e (0, 0) h2, ← Array.getElem?_toList]
  exact h8

theorem OwnQ.slice (h : OwnQ base e w v xs) : ∃ oa c, v = .slice oa xs.length c ∧ xs.length ≤ c ∧ SliceR intR 1 (fun k => base ≤ k) w oa xs := by
  have h0 := h
  obtain ⟨g, o, cap, cur, rfl, h1, h2, h3, h4, h5, h6, h7⟩ := h
  refine ⟨_, cap, rfl, h3, fun i x hx => ⟨g, o, [.int .i64 x], rfl, h1, ⟨rfl, h7 x (List.mem_of_getElem? hx)⟩, fun j u hu => ?_⟩⟩
  have hj : j = 0 := by
    have := (List.getElem?_eq_some_iff.1 hu).1
    simp at this
    exact this
  subst hj
  simp at hu
  subst hu
  have := h0.get rfl i x hx
  simpa using this

/-- The first element, and what is left. -/
theorem OwnQ.head {x : Int} {r : List Int} (h : OwnQ base e w v (x :: r)) : ∃ g o cap, v = .slice (some ⟨g, o, none⟩) (r.length + 1) (cap + 1) ∧ base ≤ g ∧ g < w.heap.size ∧ r.length ≤ cap ∧ cap + 1 ≤ maxLen ∧ w.cell? ⟨g, o, none⟩ = some (.int .i64 x) ∧ I64 x ∧
    OwnQ base e w (.slice (some (if cap = 0 then ⟨g, o, none⟩ else ⟨g, o + 1, none⟩)) r.length cap) r := by
  have h0 := h
  obtain ⟨g, o, cap, cur, rfl, h1, h2, h3, h4, h5, h6, h7⟩ := h
  simp only [List.length_cons] at h3
  obtain ⟨cap, rfl⟩ : ∃ k, cap = k + 1 := ⟨cap - 1, by omega⟩
  have hx := h0.get rfl 0 x rfl
  refine ⟨g, o, cap, rfl, h1, (Array.getElem?_eq_some_iff.1 h2).1, by omega, h4, by simpa using hx, h7 x (by simp), ?_⟩
  by_cases hc : cap = 0
  · subst hc
    have hr : r = [] := List.eq_nil_of_length_eq_zero (by omega)
    subst hr
    exact ⟨g, o, 0, cur, by simp, h1, h2, by simp, by simp, by omega, by simp, by simp⟩
  · refine ⟨g, o + 1, cap, cur, by simp [hc], h1, h2, by omega, by omega, by omega, ?_, fun y hy => h7 y (by simp [hy])⟩
    have h8 := congrArg (List.drop 1) h6
    rw [List.drop_take, List.drop_drop] at h8
    simpa using h8

theorem run_append_q {P : Program} (t ty : TypeId) (i : TypeInfo) (z : Value) (ht : P.underlying t = some (.slice e)) (hi : P.info? e = some i) (hz : i.zero = some z)
    (hsize : i.size = 1) (hby : i.bytes = 8) (hzs : z.cells.size = 1) (h : OwnQ base e w v xs)
    (ad : Addr) (c : Nat) (x : Int) (hx : w.cell? (ad.add 0) = some (.int .i64 x)) (ix : I64 x) (hn : xs.length + 1 ≤ 1000000000) (hbase : base ≤ w.heap.size) :
    ∃ v' w', (Builtin.append_ #[t, t] ty #[v, .slice (some ad) 1 c]).run P w = .ok v' w' ∧ OwnQ base e w' v' (xs ++ [x]) ∧ w.grownBy w' v.ownBlock ∧ (∀ k, v'.ownBlock = some k → v.ownBlock = some k ∨ w.heap.size ≤ k) := by
  have h0 := h
  obtain ⟨g, o, cap, cur, rfl, h1, h2, h3, h4, h5, h6, h7⟩ := h
  have hg : g < w.heap.size := (Array.getElem?_eq_some_iff.1 h2).1
  have h7' : ∀ y ∈ xs ++ [x], I64 y := by
    intro y hy
    rcases List.mem_append.1 hy with hy | hy
    · exact h7 y hy
    · simp at hy; subst hy; exact ix
  by_cases hroom : xs.length + 1 ≤ cap
  · have hr := run_append_room_cells (P := P) (w := w) t ty e i ht hi g o xs.length cap ad 1 c [.int .i64 x] (by simp [hsize]) (fun j u hu => by
        have hj : j = 0 := by
          have := (List.getElem?_eq_some_iff.1 hu).1
          simp at this
          exact this
        subst hj
        simp at hu
        subst hu
        exact hx) (by simp [Value.oneCell']) hroom (fun j hj => by
        simp at hj
        subst hj
        rw [cell_of_row w g _ cur e (0, 0) h2, hsize]
        have : o + xs.length * 1 + 0 < cur.size := by omega
        simp; omega) (fun j _ => frozen_of_row w g _ cur e h2)
    rw [hsize] at hr
    refine ⟨_, _, hr, ?_, ?_, fun k hk => .inl hk⟩
    · have hlt : o + xs.length < cur.size := by omega
      have hh : (w.setCells g (o + xs.length * 1) [.int .i64 x]).heap[g]? = some (.cells (cur.set! (o + xs.length) (.int .i64 x)) e (0, 0)) := by
        simp [World.setCells, World.setCell, Array.getElem?_modify, h2]
      refine ⟨g, o, cap, _, by simp, h1, hh, by simpa using hroom, h4, by simpa using h5, ?_, h7'⟩
      have hl6 := congrArg List.length h6
      simp at hl6
      apply List.ext_getElem?
      intro j
      have h6j := congrArg (fun l => l[j]?) h6
      simp only [List.map_append, List.map_cons, List.map_nil, List.length_append, List.length_cons, List.length_nil]
      rcases Nat.lt_trichotomy j xs.length with hj | hj | hj
      · rw [List.getElem?_take_of_lt (by omega), List.getElem?_drop, List.getElem?_append_left (by simpa using hj), ← h6j]
        rw [List.getElem?_take_of_lt hj, List.getElem?_drop]
        simp [show ¬ (xs.length = j) from by omega]
      · subst hj
        rw [List.getElem?_take_of_lt (by omega), List.getElem?_drop, List.getElem?_append_right (by simp)]
        simp [hlt]
      · rw [List.getElem?_eq_none (by simp; omega), List.getElem?_eq_none (by simp; omega)]
    · refine ⟨rfl, rfl, rfl, by simp [World.setCells], fun k _ hne => ?_⟩
      have : ¬ (g = k) := fun he => hne (by simp [Value.ownBlock, he])
      simp [World.setCells, World.setCell, Array.getElem?_modify, this]
  · have hr := run_append_grow (P := P) w t ty e i z ht hi hz ⟨g, o, none⟩ xs.length cap (xs.map (Value.int .i64)) (by simp [hsize]) (fun j u hu => by
        rw [List.getElem?_map, Option.map_eq_some_iff] at hu
        obtain ⟨y, hy, rfl⟩ := hu
        rw [Addr.add_lit]
        exact h0.get rfl j y hy) ad 1 c [.int .i64 x] (by simp [hsize]) (fun j u hu => by
        have hj : j = 0 := by
          have := (List.getElem?_eq_some_iff.1 hu).1
          simp at this
          exact this
        subst hj
        simp at hu
        subst hu
        exact hx) (by omega) (by omega) (growslice_fits (by omega) (by rw [hby]; omega))
    have hge := grownCap_ge w (xs.length + 1) cap e
    have hcm : grownCap w (xs.length + 1) cap e ≤ maxLen := grownCap_le_maxLen w (xs.length + 1) cap e (by unfold maxLen; omega)
    refine ⟨_, _, hr, ⟨w.heap.size, 0, _, _, by simp, hbase, heap_alloc_new w.drew _, by simpa using hge, hcm, ?_, ?_, h7'⟩, ⟨rfl, rfl, rfl, by simp, fun k hk _ => heap_alloc_old w.drew _ hk⟩, fun k hk => .inr (by simp [Value.ownBlock] at hk; omega)⟩
    · simp only [Array.size_append, List.size_toArray, size_zeroCells, hzs]
      simp
      omega
    · simp only [Array.toList_append, List.drop_zero, List.length_append, List.length_cons, List.length_nil, List.map_append, List.map_cons, List.map_nil]
      rw [show xs.length + (0 + 1) = (xs.map (Value.int .i64) ++ [Value.int .i64 x]).length from by simp]
      exact List.take_left
end

end Go.Proofs.YtnigfddanoaonaaGreat

set_option linter.unusedVariables false
set_option linter.unusedSimpArgs false
namespace Go.Proofs.YtnigfddanoaonaaGreat
open Go.RowKit

def OwnN (base : Nat) (e : TypeId) (w : World) (v : Value) (xs : List Int) : Prop := (v = .slice none 0 0 ∧ xs = []) ∨ OwnQ base e w v xs

section
variable {base : Nat} {e : TypeId} {w w' : World} {v : Value} {xs : List Int}
theorem OwnN.nil : OwnN base e w (.slice none 0 0) [] := .inl ⟨rfl, rfl⟩
theorem OwnN.block (h : OwnN base e w v xs) : ∀ g, v.ownBlock = some g → base ≤ g ∧ g < w.heap.size := by
  intro g hg
  rcases h with ⟨rfl, _⟩ | h
  · simp [Value.ownBlock] at hg
  · exact h.block g hg
theorem OwnN.keep (h : OwnN base e w v xs) (hb : ∀ g, v.ownBlock = some g → w'.heap[g]? = w.heap[g]?) : OwnN base e w' v xs := h.imp id fun h => h.keep hb
theorem OwnN.below (h : OwnN base e w v xs) (hb : Below w.heap.size w w') : OwnN base e w' v xs := h.keep fun g hg => hb.block g (h.block g hg).2
theorem OwnN.new (h : OwnN base e w v xs) (o : Obj) : OwnN base e (w.alloc o) v xs := h.below (bnew (Below.refl _ _) o)
theorem OwnN.draw (h : OwnN base e w v xs) : OwnN base e w.drew v xs := h.keep fun _ _ => rfl
theorem OwnN.slice (h : OwnN base e w v xs) : ∃ oa c, v = .slice oa xs.length c ∧ xs.length ≤ c ∧ SliceR intR 1 (fun k => base ≤ k) w oa xs := by
  rcases h with ⟨rfl, rfl⟩ | h
  · exact ⟨none, 0, rfl, by simp, SliceR.nil _ _ _ _ _⟩
  · exact h.slice
theorem OwnN.rebase {base' : Nat} (h : OwnN base e w v xs) (hb : base' ≤ base) : OwnN base' e w v xs := h.imp id fun h => h.rebase hb

theorem run_append_n {P : Program} (t ty : TypeId) (i : TypeInfo) (z : Value) (ht : P.underlying t = some (.slice e)) (hi : P.info? e = some i) (hz : i.zero = some z)
    (hsize : i.size = 1) (hby : i.bytes = 8) (hzs : z.cells.size = 1) (h : OwnN base e w v xs)
    (ad : Addr) (c : Nat) (x : Int) (hx : w.cell? (ad.add 0) = some (.int .i64 x)) (ix : I64 x) (hn : xs.length + 1 ≤ 1000000000) (hbase : base ≤ w.heap.size) :
    ∃ v' w', (Builtin.append_ #[t, t] ty #[v, .slice (some ad) 1 c]).run P w = .ok v' w' ∧ OwnN base e w' v' (xs ++ [x]) ∧ w.grownBy w' v.ownBlock ∧ (∀ k, v'.ownBlock = some k → v.ownBlock = some k ∨ w.heap.size ≤ k) := by
  rcases h with ⟨rfl, rfl⟩ | h
  · have hr := run_append_nil (P := P) w t ty e i z ht hi hz ad 1 c [.int .i64 x] (by simp [hsize]) (fun j u hu => by
      have hj : j = 0 := by
        have := (List.getElem?_eq_some_iff.1 hu).1
        simp at this
        exact this
      subst hj
      simp at hu
      subst hu
      exact hx) (by omega) (by omega) (by rw [hby]; omega)
    have hge := grownCap_ge w 1 0 e
    have hcm : grownCap w 1 0 e ≤ maxLen := grownCap_le_maxLen w 1 0 e (by unfold maxLen; omega)
    refine ⟨_, _, hr, .inr ⟨w.heap.size, 0, _, _, by simp, hbase, heap_alloc_new w.drew _, by simpa using hge, hcm, ?_, ?_, ?_⟩, ⟨rfl, rfl, rfl, by simp, fun k hk _ => heap_alloc_old w.drew _ hk⟩, fun k hk => .inr (by simp [Value.ownBlock] at hk; omega)⟩
    · simp only [Array.size_append, List.size_toArray, size_zeroCells, hzs]
      simp
      omega
    · simp
    · intro y hy
      simp at hy
      subst hy
      exact ix
  · obtain ⟨v', w', h1, h2, h3, h4⟩ := run_append_q (P := P) t ty i z ht hi hz hsize hby hzs h ad c x hx ix hn hbase
    exact ⟨v', w', h1, .inr h2, h3, h4⟩
end

/-- The arm for 'v = append(v, x)', v nil or the call's own. -/
theorem wpList_append_n {P : Program} {w : World} {ops : Array Oper} {rest : List Oper} {o : Oper} {a : Act} {Q : Exit → Act → World → Prop} (hgd : o.guard = none) (s y : Operand) (t : TypeId)
    (ho : o.op = .call { callee := .builtin .append, args := #[s, y], argTypes := #[t, t] })
    (base : Nat) (e : TypeId) (z : Value) (ht : P.underlying t = some (.slice e)) (hinfo : (P.info? e).map (fun i => (i.zero, i.size, i.bytes)) = some (some z, 1, 8))
    (hzs : z.cells.size = 1) (v : Value) (xs : List Int) (hs : a.eval s = v) (hown : OwnN base e w v xs)
    (ad : Addr) (c : Nat) (x : Int) (hy : a.eval y = .slice (some ad) 1 c) (hx : w.cell? (ad.add 0) = some (.int .i64 x)) (ix : I64 x) (hn : xs.length + 1 ≤ 1000000000) (hbase : base ≤ w.heap.size)
    (h : ∀ v' w', OwnN base e w' v' (xs ++ [x]) → Below base w w' → w.grownBy w' v.ownBlock → (∀ k, v'.ownBlock = some k → v.ownBlock = some k ∨ w.heap.size ≤ k) → wpList P ops Q rest (a.put o.dst v') w') : wpList P ops Q (o :: rest) a w := by
  obtain ⟨i0, hi, hz0, hz1, hz2⟩ := info_parts hinfo
  refine wpList_plain hgd fun _ hK => ?_
  obtain ⟨v', w', hrun, h2, h3, h4⟩ := run_append_n (P := P) t o.type i0 z ht hi hz0 hz1 hz2 hzs hown ad c x hx ix hn hbase
  have hb : Below base w w' := (Below.refl base w).grown h3 hbase fun k hk => (hown.block k hk).1
  unfold Oper.wp execOp
  simp only [ho, resolve, invoke, builtin, Sem.run_bind, Sem.run_pure, Result.andThen_ok, List.map_toArray, List.map_cons, List.map_nil, hs, hy, hrun]
  exact hK _ _ (h v' w' h2 hb h3 h4)

/-- Many lists side by side, no two in one block. -/
structure OwnM (base : Nat) (e : TypeId) (w : World) (vs : List Value) (xss : List (List Int)) : Prop where
  len : vs.length = xss.length
  own : ∀ (i : Nat) (v : Value) (xs : List Int), vs[i]? = some v → xss[i]? = some xs → OwnN base e w v xs
  apart : ∀ (i j : Nat) (v u : Value) (k : Nat), vs[i]? = some v → vs[j]? = some u → v.ownBlock = some k → u.ownBlock = some k → i = j

section
variable {base : Nat} {e : TypeId} {w w' : World} {vs : List Value} {xss : List (List Int)}
theorem OwnM.nils (n : Nat) : OwnM base e w (List.replicate n (.slice none 0 0)) (List.replicate n []) :=
  by
  refine ⟨by simp, fun i v xs h1 h2 => ?_, fun i j v u k h1 h2 h3 _ => ?_⟩
  · rw [List.getElem?_replicate] at h1 h2
    split at h1
    · rename_i hi
      simp [hi] at h1 h2
      subst h1 h2
      exact OwnN.nil
    · cases h1
  · rw [List.getElem?_replicate] at h1
    split at h1
    · injection h1 with h1
      subst h1
      simp [Value.ownBlock] at h3
    · cases h1
theorem OwnM.keep (h : OwnM base e w vs xss) (hb : ∀ (i : Nat) (v : Value) (g : Nat), vs[i]? = some v → v.ownBlock = some g → w'.heap[g]? = w.heap[g]?) : OwnM base e w' vs xss :=
  ⟨h.len, fun i v xs h1 h2 => (h.own i v xs h1 h2).keep fun g hg => hb i v g h1 hg, h.apart⟩
theorem OwnM.block (h : OwnM base e w vs xss) {i : Nat} {v : Value} (hi : vs[i]? = some v) : ∀ g, v.ownBlock = some g → base ≤ g ∧ g < w.heap.size := by
  have hl : i < vs.length := (List.getElem?_eq_some_iff.1 hi).1
  have hl2 : i < xss.length := by rw [← h.len]; exact hl
  exact (h.own i v xss[i] hi (List.getElem?_eq_getElem hl2)).block
theorem OwnM.below (h : OwnM base e w vs xss) (hb : Below w.heap.size w w') : OwnM base e w' vs xss := h.keep fun i v g h1 hg => hb.block g (h.block h1 g hg).2
theorem OwnM.new (h : OwnM base e w vs xss) (o : Obj) : OwnM base e (w.alloc o) vs xss := h.below (bnew (Below.refl _ _) o)
theorem OwnM.draw (h : OwnM base e w vs xss) : OwnM base e w.drew vs xss := h.keep fun _ _ _ _ _ => rfl
/-- A store into a block that is none of theirs. -/
theorem OwnM.other (h : OwnM base e w vs xss) {p : Addr} (hp : p.block < base) (u : Value) : OwnM base e (w.setCell p u) vs xss :=
  h.keep fun i v g h1 hg => Below.heap_setCell w p u g (by have := (h.block h1 g hg).1; omega)
/-- List i has grown. -/
theorem OwnM.grow (h : OwnM base e w vs xss) {i : Nat} {v v' : Value} {xs : List Int} {x : Int} {o : Obj} (hi : vs[i]? = some v) (hx : xss[i]? = some xs)
    (ho : OwnN base e w' v' (xs ++ [x])) (hg : (w.alloc o).grownBy w' v.ownBlock) (hv : ∀ k, v'.ownBlock = some k → v.ownBlock = some k ∨ (w.alloc o).heap.size ≤ k) : OwnM base e w' (vs.set i v') (xss.set i (xs ++ [x])) := by
  have hil : i < vs.length := (List.getElem?_eq_some_iff.1 hi).1
  refine ⟨by simp [h.len], fun j u ys hu hy => ?_, fun j l u t k hu ht hku hkt => ?_⟩
  · by_cases e1 : i = j
    · subst e1
      rw [List.getElem?_set_self hil] at hu
      rw [List.getElem?_set_self (by rw [← h.len]; exact hil)] at hy
      injection hu with hu
      injection hy with hy
      subst hu hy
      exact ho
    · rw [List.getElem?_set_ne e1] at hu hy
      refine ((h.own j u ys hu hy).new o).keep fun g hgu => hg.block g (by have := (h.block hu g hgu).2; simp; omega) fun he => e1 (h.apart i j v u g hi hu he.symm hgu)
  · have key : ∀ (m : Nat) (y : Value), (vs.set i v')[m]? = some y → y.ownBlock = some k → (m = i ∧ y = v') ∨ (m ≠ i ∧ vs[m]? = some y) := fun m y hy _ => by
      by_cases e1 : i = m
      · subst e1
        rw [List.getElem?_set_self hil] at hy
        injection hy with hy
        exact .inl ⟨rfl, hy.symm⟩
      · rw [List.getElem?_set_ne e1] at hy
        exact .inr ⟨fun e => e1 e.symm, hy⟩
    have cross : ∀ (m : Nat) (y : Value), vs[m]? = some y → m ≠ i → y.ownBlock = some k → v'.ownBlock = some k → False := fun m y hy hm hky hkv => by
      rcases hv k hkv with h1 | h1
      · exact hm (h.apart m i y v k hy hi hky h1)
      · have := (h.block hy k hky).2; simp at h1; omega
    rcases key j u hu hku with ⟨a1, a2⟩ | ⟨a1, a2⟩ <;> rcases key l t ht hkt with ⟨b1, b2⟩ | ⟨b1, b2⟩
    · rw [a1, b1]
    · subst a2; exact (cross l t b2 b1 hkt hku).elim
    · subst b2; exact (cross j u a2 a1 hku hkt).elim
    · exact h.apart j l u t k a2 b2 hku hkt
/-- One more, empty. -/
theorem OwnM.snoc (h : OwnM base e w vs xss) : OwnM base e w (vs ++ [.slice none 0 0]) (xss ++ [[]]) := by
  refine ⟨by simp [h.len], fun j u ys hu hy => ?_, fun j l u t k hu ht hku hkt => ?_⟩
  · rcases Nat.lt_or_ge j vs.length with hj | hj
    · rw [List.getElem?_append_left hj] at hu
      rw [List.getElem?_append_left (by rw [← h.len]; exact hj)] at hy
      exact h.own j u ys hu hy
    · rw [List.getElem?_append_right hj] at hu
      rw [List.getElem?_append_right (by rw [← h.len]; exact hj)] at hy
      have : j - vs.length = 0 := by
        have := (List.getElem?_eq_some_iff.1 hu).1
        simp at this
        omega
      rw [this] at hu
      rw [← h.len, this] at hy
      simp at hu hy
      subst hu hy
      exact OwnN.nil
  · have key : ∀ (m : Nat) (y : Value), (vs ++ [.slice none 0 0])[m]? = some y → y.ownBlock = some k → vs[m]? = some y := fun m y hy hk => by
      rcases Nat.lt_or_ge m vs.length with hj | hj
      · rw [List.getElem?_append_left hj] at hy; exact hy
      · rw [List.getElem?_append_right hj] at hy
        have hm := List.mem_of_getElem? hy
        simp at hm
        subst hm
        simp [Value.ownBlock] at hk
    exact h.apart j l u t k (key j u hu hku) (key l t ht hkt) hku hkt
end

end Go.Proofs.YtnigfddanoaonaaGreat

set_option linter.unusedVariables false
set_option linter.unusedSimpArgs false
namespace Go.Proofs.YtnigfddanoaonaaGreat
open Go.RowKit

def Box (w : World) (B : Nat) (cs : List Value) (t : TypeId) : Prop := w.heap[B]? = some (.cells cs.toArray t (0, 0))
theorem cell_next {w : World} {a : Addr} {v : Value} (h : w.cell? a = some v) (o : Obj) : (w.alloc o).cell? a = some v := (World.cell?_alloc_lt w o a (World.block_lt_of_cell? _ _ h)).trans h
section
variable {w w' : World} {B : Nat} {cs : List Value} {t : TypeId}
theorem Box.lt (h : Box w B cs t) : B < w.heap.size := (Array.getElem?_eq_some_iff.1 h).1
theorem Box.cell (h : Box w B cs t) (i : Nat) : w.cell? ⟨B, i, none⟩ = cs[i]? := by
  rw [cell_of_row w B i _ t (0, 0) h]
  simp
theorem Box.free (h : Box w B cs t) (i : Nat) : w.frozen? ⟨B, i, none⟩ = false := frozen_of_row w B i _ _ h
theorem Box.keep (h : Box w B cs t) (hb : w'.heap[B]? = w.heap[B]?) : Box w' B cs t := hb.trans h
theorem Box.below (h : Box w B cs t) (hb : Below w.heap.size w w') : Box w' B cs t := h.keep (hb.block B h.lt)
theorem Box.under {n : Nat} (h : Box w B cs t) (hb : Below n w w') (hn : B < n) : Box w' B cs t := h.keep (hb.block B hn)
theorem Box.next (h : Box w B cs t) (o : Obj) : Box (w.alloc o) B cs t := h.below (bnew (Below.refl _ _) o)
theorem Box.draw (h : Box w B cs t) : Box w.drew B cs t := h
theorem Box.new (w : World) (cs : List Value) (t : TypeId) : Box (w.alloc (.cells cs.toArray t)) w.heap.size cs t := heap_alloc_new w _
theorem Box.put (h : Box w B cs t) (i : Nat) (v : Value) : Box (w.setCell ⟨B, i, none⟩ v) B (cs.set i v) t := by
  unfold Box at h ⊢
  simp [World.setCell, Array.getElem?_modify, h]
theorem Box.other (h : Box w B cs t) {p : Addr} (hp : B ≠ p.block) (u : Value) : Box (w.setCell p u) B cs t := h.keep (Below.heap_setCell w p u B hp)
theorem Box.grown {o : Option Nat} (h : Box w B cs t) (hg : w.grownBy w' o) (hne : some B ≠ o) : Box w' B cs t := h.keep (hg.block B h.lt hne)
end

end Go.Proofs.YtnigfddanoaonaaGreat

set_option linter.unusedVariables false
set_option linter.unusedSimpArgs false
set_option linter.unnecessarySimpa false
namespace Go.Proofs.YtnigfddanoaonaaGreat
open Go.RowKit

/-- The rows of ints of the machine: the states, the rows of what waits and of the counts, the letters of the lines. -/
inductive IR where
  | s
  | w (i : Nat)
  | c (i : Nat)
  | q (j : Nat)
/-- Where all lies: blocks, capacities, what is spare behind the rows. -/
structure WLay where
  p : Nat
  gs : Nat
  gw : Nat
  gc : Nat
  gl : Nat
  cs : Nat
  cw : Nat
  cc : Nat
  cl : Nat
  rs : List Value
  rw : List Value
  rc : List Value
  rl : List Value
  bw : Nat → Nat
  kw : Nat → Nat
  sw : Nat → List Value
  bc : Nat → Nat
  kc : Nat → Nat
  sc : Nat → List Value
  bl : Nat → Nat
  lv : Nat → Value
  fv : Value
def IR.blk (L : WLay) : IR → Option Nat
  | .s => some L.gs
  | .w i => some (L.bw i)
  | .c i => some (L.bc i)
  | .q j => (L.lv j).ownBlock
def IR.ok (N : Nat) : IR → Prop
  | .s => True
  | .w i => i < N
  | .c i => i < N
  | .q j => j < N * N
def slV (b len cap : Nat) : Value := .slice (some ⟨b, 0, none⟩) len cap
def lnC (L : WLay) (N j : Nat) (l : Ln) : List Value := [L.lv j, .int .i64 l.rm, .int .i64 l.sn, .int .i64 (j / N : Nat), .int .i64 (j % N : Nat), .int .i64 l.ac]
def mainC (L : WLay) (N : Nat) (oP : Option Addr) (cP : Nat) (oF : Option Addr) (nF cF : Nat) (S : Wr) : List Value :=
  [.slice oP N cP, slV L.gs N L.cs, slV L.gw N L.cw, slV L.gc N L.cc, slV L.gl (N * N) L.cl, .slice oF nF cF, L.fv, .int .i64 S.tk, .int .i64 S.se, .bool S.lg]

theorem ne_type {W : World} {a b : Nat} {x y : Array Value} {t u : TypeId} (ha : W.heap[a]? = some (.cells x t (0, 0))) (hb : W.heap[b]? = some (.cells y u (0, 0))) (h : t ≠ u) : a ≠ b := by
  intro e
  rw [e, hb] at ha
  injection ha with ha
  injection ha with _ h2
  exact h h2.symm
section
variable {B N : Nat} {L : WLay} {oP : Option Addr} {cP : Nat} {oF : Option Addr} {nF cF : Nat} {S : Wr} {W W' : World}

end

end Go.Proofs.YtnigfddanoaonaaGreat

set_option linter.unusedVariables false
set_option linter.unusedSimpArgs false
set_option linter.unnecessarySimpa false
namespace Go.Proofs.YtnigfddanoaonaaGreat
open Go.RowKit

/-- The machine's own blocks. -/
def Mine (L : WLay) (N k : Nat) : Prop :=
  k = L.p ∨ k = L.gs ∨ k = L.gw ∨ k = L.gc ∨ k = L.gl ∨ (∃ i, i < N ∧ k = L.bw i) ∨ (∃ i, i < N ∧ k = L.bc i) ∨ (∃ j, j < N * N ∧ k = L.bl j) ∨ (∃ j, j < N * N ∧ (L.lv j).ownBlock = some k) ∨ L.fv.ownBlock = some k
/-- A call has changed the machine's own blocks alone; it may have laid new ones. -/
structure Went (N : Nat) (L : WLay) (W : World) (L' : WLay) (W' : World) : Prop where
  os : W'.os = W.os
  tape : W'.tape = W.tape
  output : W'.output = W.output
  size : W.heap.size ≤ W'.heap.size
  block : ∀ k, k < W.heap.size → ¬ Mine L N k → W'.heap[k]? = W.heap[k]?
  mine : ∀ k, k < W.heap.size → Mine L' N k → Mine L N k
  fix : ∃ lv fv, L' = { L with lv := lv, fv := fv }
theorem Went.p {N : Nat} {L L' : WLay} {W W' : World} (h : Went N L W L' W') : L'.p = L.p := by obtain ⟨a, b, e⟩ := h.fix; rw [e]
theorem Went.bl {N : Nat} {L L' : WLay} {W W' : World} (h : Went N L W L' W') : L'.bl = L.bl := by obtain ⟨a, b, e⟩ := h.fix; rw [e]
theorem Went.gl {N : Nat} {L L' : WLay} {W W' : World} (h : Went N L W L' W') : L'.gl = L.gl := by obtain ⟨a, b, e⟩ := h.fix; rw [e]
theorem Went.refl (N : Nat) (L : WLay) (W : World) : Went N L W L W := ⟨rfl, rfl, rfl, Nat.le_refl _, fun _ _ _ => rfl, fun _ _ h => h, ⟨_, _, rfl⟩⟩
theorem Went.trans {N : Nat} {L L1 L2 : WLay} {W W1 W2 : World} (h : Went N L W L1 W1) (g : Went N L1 W1 L2 W2) : Went N L W L2 W2 :=
  ⟨g.os.trans h.os, g.tape.trans h.tape, g.output.trans h.output, Nat.le_trans h.size g.size,
   fun k hk hm => (g.block k (Nat.lt_of_lt_of_le hk h.size) fun hm1 => hm (h.mine k hk hm1)).trans (h.block k hk hm),
   fun k hk hm => h.mine k hk (g.mine k (Nat.lt_of_lt_of_le hk h.size) hm), by obtain ⟨a, b, e⟩ := h.fix; obtain ⟨c, d, e2⟩ := g.fix; exact ⟨c, d, by rw [e2, e]⟩⟩
theorem Went.put {N : Nat} {L : WLay} {W : World} {b i : Nat} {v : Value} (hb : Mine L N b) : Went N L W L (W.setCell ⟨b, i, none⟩ v) :=
  ⟨rfl, rfl, rfl, by show W.heap.size ≤ (W.heap.modify _ _).size; rw [Array.size_modify]; exact Nat.le_refl _,
   fun k _ hm => Below.heap_setCell W ⟨b, i, none⟩ v k fun e => hm (by rw [show k = b from e]; exact hb), fun _ _ h => h, ⟨_, _, rfl⟩⟩
theorem Went.drew {N : Nat} {L : WLay} {W : World} (n : Nat) : Went N L W L (W.drewN n) := ⟨rfl, rfl, rfl, Nat.le_refl _, fun _ _ _ => rfl, fun _ _ h => h, ⟨_, _, rfl⟩⟩
theorem Went.new {N : Nat} {L : WLay} {W : World} (o : Obj) : Went N L W L (W.alloc o) :=
  ⟨rfl, rfl, rfl, by simp, fun k hk _ => Below.heap_alloc W o k hk, fun _ _ h => h, ⟨_, _, rfl⟩⟩

section
variable {B N : Nat} {L : WLay} {oP : Option Addr} {cP : Nat} {oF : Option Addr} {nF cF : Nat} {S : Wr} {W W' : World}
end

end Go.Proofs.YtnigfddanoaonaaGreat

set_option linter.unusedVariables false
set_option linter.unusedSimpArgs false
set_option linter.unnecessarySimpa false
namespace Go.Proofs.YtnigfddanoaonaaGreat
open Go.RowKit

structure Rw where
  g : Nat
  c : Nat
  l : List Int
  rest : List Value
def Rw.val (r : Rw) : Value := slV r.g r.l.length r.c
def ptV (b : Nat) : Value := .pointer (some ⟨b, 0, none⟩)
def valR : Rep Value := fun _ _ cs x => cs = [x] ∧ x.oneCell' = true
theorem valR_ok : RepOk valR 1 where
  len := by rintro F w cs x ⟨rfl, _⟩; rfl
  one := by rintro F w cs x ⟨rfl, h⟩ u hu; simp at hu; subst hu; exact h
  keep := by rintro F w w' cs x h _; exact h
  wide := by rintro F F' w cs x h _; exact h
theorem own_heap {α : Type} {R : Rep α} {sz B : Nat} {e : TypeId} {F : Foot} {W : World} {v : Value} {xs : List α} (h : OwnS R sz B e F W v xs) {g : Nat} (hg : v.ownBlock = some g) : ∃ cur, W.heap[g]? = some (.cells cur e (0, 0)) := by
  obtain ⟨cells, ho, _⟩ := h
  rcases ho.2 with ⟨rfl, _⟩ | ⟨g', cap, cur, rfl, _, h4, _⟩
  · simp [Value.ownBlock] at hg
  · simp [Value.ownBlock] at hg; subst hg; exact ⟨cur, h4⟩
theorem OwnS.vrow {base : Nat} {e : TypeId} {F : Foot} {w : World} {v : Value} {xs : List Value} (h : OwnS valR 1 base e F w v xs) (hne : xs ≠ []) :
    ∃ g cap rest, v = .slice (some ⟨g, 0, none⟩) xs.length cap ∧ base ≤ g ∧ xs.length ≤ cap ∧ Row1 id w g e xs rest := by
  obtain ⟨cells, ho, h1, hc⟩ := h
  have hcells : cells = xs := by
    have hl := ho.1
    apply List.ext_getElem?
    intro i
    rcases Nat.lt_or_ge i xs.length with hi | hi
    · have h2 := (hc i _ (List.getElem?_eq_getElem hi)).1
      rw [List.getElem?_eq_getElem hi]
      have h3 := congrArg (fun l => l[0]?) h2
      simp only [chunk, Nat.mul_one] at h3
      rw [List.getElem?_take_of_lt (by omega), List.getElem?_drop] at h3
      simpa using h3
    · rw [List.getElem?_eq_none (by omega), List.getElem?_eq_none (by omega)]
  rcases ho.2 with ⟨_, hn⟩ | ⟨g, cap, cur, rfl, hg, hh, hle, hcm, hcs, htake⟩
  · exact absurd (List.eq_nil_of_length_eq_zero hn) hne
  · refine ⟨g, cap, cur.toList.drop xs.length, rfl, hg, hle, Row1.of cur.toList hh ?_⟩
    rw [← hcells, Nat.mul_one] at *
    simp
    rw [htake]
theorem snoc_get {α : Type} {l : List α} {x y : α} {i : Nat} (h : (l ++ [x])[i]? = some y) : (i = l.length ∧ y = x) ∨ l[i]? = some y := by
  rcases Nat.lt_or_ge i l.length with hi | hi
  · rw [List.getElem?_append_left hi] at h
    exact .inr h
  · rw [List.getElem?_append_right hi] at h
    have : i - l.length = 0 := by
      have := (List.getElem?_eq_some_iff.1 h).1
      simp at this
      omega
    rw [this] at h
    simp at h
    exact .inl ⟨by omega, h.symm⟩

section
variable {B n p : Nat} {oP : Option Addr} {cP : Nat} {oF : Option Addr} {nF cF : Nat} {gs cs : Nat} {st : List Int} {rs : List Value} {tw tc tl : Value} {rw_ rc : List Rw} {rl : List Nat} {W W' : World}
theorem OwnS.ext {R : Rep Value} {sz B : Nat} {e : TypeId} {w w' : World} {v : Value} {xs : List Value} (ok : RepOk R sz) (h : OwnS R sz B e Non w v xs) (hk : ∀ g, v.ownBlock = some g → w'.heap[g]? = w.heap[g]?) : OwnS R sz B e Non w' v xs := h.keep ok hk (fun _ hk _ => hk.elim)
/-- Capacities are as great as lengths. -/
structure Caps (N : Nat) (wt ct : List (List Int)) (L : WLay) : Prop where
  cs : N ≤ L.cs
  cw : N ≤ L.cw
  cc : N ≤ L.cc
  kw : ∀ (i : Nat) (l : List Int), wt[i]? = some l → l.length ≤ L.kw i
  kc : ∀ (i : Nat) (l : List Int), ct[i]? = some l → l.length ≤ L.kc i

end

end Go.Proofs.YtnigfddanoaonaaGreat

set_option linter.unusedVariables false
set_option linter.unusedSimpArgs false
namespace Go.Proofs.YtnigfddanoaonaaGreat
open Go.RowKit

structure RTab (B : Nat) (tw : Value) (rs : List Rw) (W : World) : Prop where
  tab : OwnS valR 1 B 23 Non W tw (rs.map Rw.val)
  row : ∀ r ∈ rs, Row1 (Value.int .i64) W r.g 3 r.l r.rest ∧ B ≤ r.g ∧ r.l.length ≤ r.c
  inj : ∀ (i j : Nat) (r r' : Rw), rs[i]? = some r → rs[j]? = some r' → r.g = r'.g → i = j
def tabL (rs : List Rw) : List (List Int) := rs.map (·.l)
/-- The row with number i holds l instead. -/
def rwSet (rs : List Rw) (i : Nat) (l : List Int) : List Rw := rs.modify i fun r => { r with l := l }

section
variable {B : Nat} {tw : Value} {rs : List Rw} {W W' : World}
theorem RTab.nil (B : Nat) (W : World) : RTab B (.slice none 0 0) [] W := ⟨OwnS.nil _ _ _ _ _ _, (fun r hr => by simp at hr), (fun i j r r' h => by simp at h)⟩
theorem RTab.keep (h : RTab B tw rs W) (h1 : ∀ g, tw.ownBlock = some g → W'.heap[g]? = W.heap[g]?) (h2 : ∀ r ∈ rs, W'.heap[r.g]? = W.heap[r.g]?) : RTab B tw rs W' :=
  ⟨OwnS.ext valR_ok h.tab h1, fun r hr => ⟨(h.row r hr).1.keep (h2 r hr), (h.row r hr).2⟩, h.inj⟩
theorem RTab.above (h : RTab B tw rs W) (hk : ∀ k, k < W.heap.size → B ≤ k → W'.heap[k]? = W.heap[k]?) : RTab B tw rs W' :=
  h.keep (fun g hg => hk g (h.tab.block g hg).2 (h.tab.block g hg).1) fun r hr => hk r.g (h.row r hr).1.lt (h.row r hr).2.1
theorem RTab.below (h : RTab B tw rs W) (hb : Below W.heap.size W W') : RTab B tw rs W' := h.above fun k hk _ => hb.block k hk
theorem RTab.draw (h : RTab B tw rs W) : RTab B tw rs W.drew := h.above fun _ _ _ => rfl
theorem RTab.push (h : RTab B tw rs W) {tw' : Value} {r : Rw} (hown : OwnS valR 1 B 23 Non W' tw' (rs.map Rw.val ++ [r.val])) (hk : ∀ k, k < W.heap.size → some k ≠ tw.ownBlock → W'.heap[k]? = W.heap[k]?)
    (hrow : Row1 (Value.int .i64) W' r.g 3 r.l r.rest) (hrg : W.heap.size ≤ r.g) (hB : B ≤ W.heap.size) (hlen : r.l.length ≤ r.c) : RTab B tw' (rs ++ [r]) W' where
  tab := by rw [List.map_append]; exact hown
  row := fun r' hr' => by
    rcases List.mem_append.1 hr' with hr' | hr'
    · have h1 := (h.row r' hr').1
      refine ⟨h1.keep (hk _ h1.lt fun e => ?_), (h.row r' hr').2⟩
      obtain ⟨cur, hcur⟩ := own_heap h.tab e.symm
      exact ne_type h1 hcur (by decide) rfl
    · rw [List.mem_singleton] at hr'
      subst hr'
      exact ⟨hrow, by omega, hlen⟩
  inj := fun i j a b ha hb e => by
    rcases snoc_get ha with ⟨ha1, ha2⟩ | ha <;> rcases snoc_get hb with ⟨hb1, hb2⟩ | hb
    · omega
    · have := (h.row b (List.mem_of_getElem? hb)).1.lt; subst ha2; omega
    · have := (h.row a (List.mem_of_getElem? ha)).1.lt; subst hb2; omega
    · exact h.inj i j a b ha hb e
/-- The row with number i, in memory. -/
theorem RTab.get (h : RTab B tw rs W) {i : Nat} {r : Rw} (hr : rs[i]? = some r) :
    ∃ g cap, tw = .slice (some ⟨g, 0, none⟩) rs.length cap ∧ rs.length ≤ cap ∧ B ≤ g ∧ W.cell? ⟨g, i, none⟩ = some (slV r.g r.l.length r.c) ∧ Row1 (Value.int .i64) W r.g 3 r.l r.rest ∧ B ≤ r.g ∧ r.l.length ≤ r.c ∧ r.g ≠ g := by
  have hne : rs.map Rw.val ≠ [] := fun e => by
    have := (List.getElem?_eq_some_iff.1 hr).1
    have h2 := congrArg List.length e
    simp at h2
    rw [h2] at this
    simp at this
  obtain ⟨g, cap, rest, ht, hg, hc, hrow⟩ := h.tab.vrow hne
  obtain ⟨h1, h2, h3⟩ := h.row r (List.mem_of_getElem? hr)
  rw [List.length_map] at ht hc
  have hcell := hrow.cell (i := i) (x := r.val) (by simp [hr])
  exact ⟨g, cap, ht, hc, hg, hcell, h1, h2, h3, ne_type h1 hrow (by decide)⟩
theorem RTab.len (h : RTab B tw rs W) : ∃ oa cap, tw = .slice oa rs.length cap ∧ rs.length ≤ cap := by
  obtain ⟨oa, c, ht, hc, _⟩ := h.tab.slice valR_ok
  rw [List.length_map] at ht hc
  exact ⟨oa, c, ht, hc⟩
theorem rwSet_at (rs : List Rw) (i j : Nat) (l : List Int) : (rwSet rs i l)[j]? = if i = j then rs[j]?.map (fun r => { r with l := l }) else rs[j]? := by
  unfold rwSet
  rw [List.getElem?_modify]
  by_cases h : i = j
  · subst h
    simp
  · rw [if_neg h]
    simp [h]
theorem rwSet_get {rs : List Rw} {i j : Nat} {l : List Int} {r : Rw} (h : (rwSet rs i l)[j]? = some r) : (j = i ∧ ∃ r0, rs[i]? = some r0 ∧ r = { r0 with l := l }) ∨ (j ≠ i ∧ rs[j]? = some r) := by
  rw [rwSet_at] at h
  split at h
  · rename_i e
    subst e
    left
    rw [Option.map_eq_some_iff] at h
    obtain ⟨r0, h1, h2⟩ := h
    exact ⟨rfl, r0, h1, h2.symm⟩
  · right
    rename_i e
    exact ⟨fun e2 => e e2.symm, h⟩
theorem tabL_set (rs : List Rw) (i : Nat) (l : List Int) : tabL (rwSet rs i l) = (tabL rs).set i l := by
  unfold tabL
  apply List.ext_getElem?
  intro j
  rw [List.getElem?_set, List.getElem?_map, rwSet_at]
  by_cases hij : i = j
  · subst hij
    rw [if_pos rfl, if_pos rfl, List.length_map]
    by_cases hi : i < rs.length
    · rw [if_pos hi, List.getElem?_eq_getElem hi]; rfl
    · rw [if_neg hi, List.getElem?_eq_none (by omega)]; rfl
  · rw [if_neg hij, if_neg hij, List.getElem?_map]
/-- A number changes. -/
theorem RTab.put (h : RTab B tw rs W) {i k : Nat} {r : Rw} (hr : rs[i]? = some r) (hk : k < r.l.length) (x : Int) : RTab B tw (rwSet rs i (r.l.set k x)) (W.setCell ⟨r.g, k, none⟩ (.int .i64 x)) := by
  have hrow := (h.row r (List.mem_of_getElem? hr)).1
  have hval : (rwSet rs i (r.l.set k x)).map Rw.val = rs.map Rw.val := by
    apply List.ext_getElem?
    intro j
    rw [List.getElem?_map, List.getElem?_map, rwSet_at]
    by_cases hij : i = j
    · subst hij
      rw [if_pos rfl, hr]
      simp [Rw.val]
    · rw [if_neg hij]
  refine ⟨?_, fun r' hr' => ?_, fun a b ra rb ha hb e => ?_⟩
  · rw [hval]
    refine OwnS.ext valR_ok h.tab fun g hg => Below.heap_setCell _ _ _ g ?_
    obtain ⟨cur, hcur⟩ := own_heap h.tab hg
    exact fun e => ne_type hrow hcur (by decide) e.symm
  · obtain ⟨j, hj⟩ := List.mem_iff_getElem?.1 hr'
    rcases rwSet_get hj with ⟨_, r0, h0, rfl⟩ | ⟨hji, hj⟩
    · rw [hr] at h0
      injection h0 with h0
      subst h0
      refine ⟨hrow.put hk x, (h.row r (List.mem_of_getElem? hr)).2.1, ?_⟩
      simp only [List.length_set]
      exact (h.row r (List.mem_of_getElem? hr)).2.2
    · have h1 := h.row r' (List.mem_of_getElem? hj)
      exact ⟨h1.1.other (fun e => hji (h.inj j i r' r hj hr e)) _, h1.2⟩
  · have key : ∀ {a : Nat} {ra : Rw}, (rwSet rs i (r.l.set k x))[a]? = some ra → ∃ r0, rs[a]? = some r0 ∧ r0.g = ra.g := fun {a ra} ha => by
      rcases rwSet_get ha with ⟨rfl, r0, h0, rfl⟩ | ⟨_, ha⟩
      · exact ⟨r0, h0, rfl⟩
      · exact ⟨ra, ha, rfl⟩
    obtain ⟨r1, h1, e1⟩ := key ha
    obtain ⟨r2, h2, e2⟩ := key hb
    exact h.inj a b r1 r2 h1 h2 (by rw [e1, e2, e])
theorem RTab.slices (h : RTab B tw rs W) (hb : ∀ r ∈ rs, r.l.length ≤ 9223372036854775807 ∧ ∀ k ∈ r.l, I64 k) : ∃ oa cap, tw = .slice oa (tabL rs).length cap ∧ (tabL rs).length ≤ cap ∧ SliceR (slcR intR 1) 1 (fun k => B ≤ k) W oa (tabL rs) := by
  obtain ⟨oa, cap, ht, hc⟩ := h.len
  have hl : (tabL rs).length = rs.length := by unfold tabL; rw [List.length_map]
  refine ⟨oa, cap, by rw [hl]; exact ht, by rw [hl]; exact hc, fun i l hi => ?_⟩
  unfold tabL at hi
  rw [List.getElem?_map, Option.map_eq_some_iff] at hi
  obtain ⟨r, hr, rfl⟩ := hi
  obtain ⟨g, cap', ht', hc', hg, hcell, hrow, hBr, hrc, _⟩ := h.get hr
  rw [ht] at ht'
  injection ht' with e1
  subst e1
  obtain ⟨b1, b2⟩ := hb r (List.mem_of_getElem? hr)
  refine ⟨g, 0, [slV r.g r.l.length r.c], rfl, hg, ⟨some ⟨r.g, 0, none⟩, r.c, rfl, hrc, b1, hrow.ints b2 hBr⟩, fun j u hu => ?_⟩
  have hj : j = 0 := by
    have := (List.getElem?_eq_some_iff.1 hu).1
    simp at this
    exact this
  subst hj
  simp at hu
  subst hu
  simpa using hcell
end

end Go.Proofs.YtnigfddanoaonaaGreat

namespace Go.Proofs.YtnigfddanoaonaaGreat
open Go.RowKit

def ruleAt (rs : List (List Rul)) (s a : Int) : Rul := (rs.getD s.toNat []).getD a.toNat ⟨0, []⟩
def readSpec (rs : List (List Rul)) : Int → List Int → Int × List Out
  | s, [] => (s, [])
  | s, a :: r => ((readSpec rs (ruleAt rs s a).next r).1, (ruleAt rs s a).sent ++ (readSpec rs (ruleAt rs s a).next r).2)

theorem sentErr_zero {N : Int} : ∀ {l : List Out}, sentErr N l = 0 → ∀ o ∈ l, (0 ≤ o.dst ∧ o.dst < N) ∧ 0 ≤ o.letter ∧ o.letter < 8
  | [], _, o, ho => by cases ho
  | x :: r, h, o, ho => by
    unfold sentErr at h
    split at h
    · rename_i hx
      simp [belowB] at hx
      rcases List.mem_cons.1 ho with rfl | ho
      · exact ⟨hx.1, hx.2⟩
      · exact sentErr_zero h o ho
    · cases h
theorem ruleErr_zero {S N : Int} {r : Rul} (h : ruleErr S N r = 0) : (0 ≤ r.next ∧ r.next < S) ∧ r.sent.length ≤ 16 ∧ ∀ o ∈ r.sent, (0 ≤ o.dst ∧ o.dst < N) ∧ 0 ≤ o.letter ∧ o.letter < 8 := by
  unfold ruleErr at h
  split at h
  · rename_i hx
    split at h
    · simp [belowB] at hx
      exact ⟨hx, by assumption, sentErr_zero h⟩
    · cases h
  · cases h
theorem rowErr_zero {S N : Int} : ∀ {l : List Rul}, rowErr S N l = 0 → ∀ r ∈ l, ruleErr S N r = 0
  | [], _, o, ho => by cases ho
  | x :: r, h, o, ho => by
    unfold rowErr at h
    split at h
    · rcases List.mem_cons.1 ho with rfl | ho
      · assumption
      · exact rowErr_zero h o ho
    · rename_i hx; exact absurd h hx
theorem rowsErr_zero {S L N : Int} : ∀ {l : List (List Rul)}, rowsErr S L N l = 0 → ∀ r ∈ l, (r.length : Int) = L ∧ rowErr S N r = 0
  | [], _, o, ho => by cases ho
  | x :: r, h, o, ho => by
    unfold rowsErr at h
    split at h
    · split at h
      · rcases List.mem_cons.1 ho with rfl | ho
        · exact ⟨by assumption, by assumption⟩
        · exact rowsErr_zero h o ho
      · rename_i hx; exact absurd h hx
    · cases h
theorem check_zero {p : Prc} {N : Int} (h : checkErr p N = 0) : (1 ≤ N ∧ N ≤ 12) ∧ (1 ≤ p.states ∧ p.states ≤ 16) ∧ (1 ≤ p.letters ∧ p.letters ≤ 8) ∧ (p.rules.length : Int) = p.states ∧ rowsErr p.states p.letters N p.rules = 0 := by
  unfold checkErr at h
  split at h
  · cases h
  split at h
  · cases h
  split at h
  · cases h
  · exact ⟨by omega, by omega, by omega, by omega, h⟩
theorem valid_row {p : Prc} {N : Int} (h : checkErr p N = 0) {i : Nat} {row : List Rul} (hi : p.rules[i]? = some row) : (row.length : Int) = p.letters :=
  (rowsErr_zero (check_zero h).2.2.2.2 row (List.mem_of_getElem? hi)).1
theorem valid_rule {p : Prc} {N : Int} (h : checkErr p N = 0) {i j : Nat} {row : List Rul} {r : Rul} (hi : p.rules[i]? = some row) (hj : row[j]? = some r) :
    (0 ≤ r.next ∧ r.next < p.states) ∧ r.sent.length ≤ 16 ∧ ∀ o ∈ r.sent, (0 ≤ o.dst ∧ o.dst < N) ∧ 0 ≤ o.letter ∧ o.letter < 8 :=
  ruleErr_zero (rowErr_zero (rowsErr_zero (check_zero h).2.2.2.2 row (List.mem_of_getElem? hi)).2 r (List.mem_of_getElem? hj))
theorem letters_zero {L : Int} : ∀ {l : List Int}, lettersErr L l = 0 → ∀ a ∈ l, 0 ≤ a ∧ a < L
  | [], _, o, ho => by cases ho
  | x :: r, h, o, ho => by
    unfold lettersErr at h
    split at h
    · rename_i hx
      simp [belowB] at hx
      rcases List.mem_cons.1 ho with rfl | ho
      · exact hx
      · exact letters_zero h o ho
    · cases h
theorem letters_at {L : Int} {l : List Int} (h : lettersErr L l = 0) {i : Nat} {a : Int} (hi : l[i]? = some a) : 0 ≤ a ∧ a < L := letters_zero h a (List.mem_of_getElem? hi)
theorem ruleAt_eq {rs : List (List Rul)} {s a : Nat} {row : List Rul} {r : Rul} (hi : rs[s]? = some row) (hj : row[a]? = some r) : ruleAt rs (s : Int) (a : Int) = r := by
  simp [ruleAt, hi, hj]
/-- One letter more has been read. -/
theorem read_step {rs : List (List Rul)} {s0 : Int} {word : List Int} {s a k : Nat} {out : List Out} {row : List Rul} {nx : Int} {st : List Out}
    (he : readSpec rs s0 word = ((readSpec rs (s : Int) (word.drop k)).1, out ++ (readSpec rs (s : Int) (word.drop k)).2)) (hd : word.drop k = (a : Int) :: word.drop (k + 1))
    (hi : rs[s]? = some row) (hj : row[a]? = some ⟨nx, st⟩) : readSpec rs s0 word = ((readSpec rs nx (word.drop (k + 1))).1, (out ++ st) ++ (readSpec rs nx (word.drop (k + 1))).2) := by
  rw [he, hd, readSpec, ruleAt_eq hi hj, List.append_assoc]
theorem read_end {rs : List (List Rul)} {s0 : Int} {word : List Int} {s k : Nat} {out : List Out}
    (he : readSpec rs s0 word = ((readSpec rs (s : Int) (word.drop k)).1, out ++ (readSpec rs (s : Int) (word.drop k)).2)) (hk : word.length ≤ k) : readSpec rs s0 word = ((s : Int), out) := by
  rw [he, List.drop_eq_nil_of_le hk]
  simp [readSpec]

end Go.Proofs.YtnigfddanoaonaaGreat

set_option linter.unusedVariables false
set_option linter.unusedSimpArgs false
set_option linter.unnecessarySimpa false
namespace Go.Proofs.YtnigfddanoaonaaGreat
open Go.RowKit

def prc0 : Prc := ⟨0, 0, []⟩
/-- All letters are read by those to which they are sent. -/
def outsOk (procs : List Prc) : List Out → Bool
  | [] => true
  | o :: r => if o.letter < (procs.getD o.dst.toNat prc0).letters then outsOk procs r else false
def rulesOk (procs : List Prc) : List Rul → Bool
  | [] => true
  | x :: r => if outsOk procs x.sent = true then rulesOk procs r else false
def rowsOk (procs : List Prc) : List (List Rul) → Bool
  | [] => true
  | x :: r => if rulesOk procs x = true then rowsOk procs r else false
def procsErr (N : Int) : List Prc → Int
  | [] => 0
  | p :: r => if checkErr p N = 0 then procsErr N r else checkErr p N
def procsOk (procs : List Prc) : List Prc → Bool
  | [] => true
  | p :: r => if rowsOk procs p.rules = true then procsOk procs r else false
def statesErr : List Int → List Prc → Int
  | s :: r, p :: l => if belowB s p.states then statesErr r l else 2
  | _, _ => 0
def shapesErr : List (List Int) → List Prc → Int
  | t :: r, p :: l => if (t.length : Int) = p.letters then shapesErr r l else 8
  | _, _ => 0
def numsErr : List Int → Int
  | [] => 0
  | k :: r => if 0 ≤ k ∧ k ≤ 1048576 then numsErr r else 2
def tableErr : List (List Int) → Int
  | [] => 0
  | l :: r => if numsErr l = 0 then tableErr r else numsErr l
def shapedErr (procs : List Prc) (t : List (List Int)) : Int := if t.length = procs.length then shapesErr t procs else 8
def waitsErr (x : Nwk) : Int := if shapedErr x.procs x.waiting = 0 then tableErr x.waiting else shapedErr x.procs x.waiting
def netErr (x : Nwk) : Int :=
  if x.procs.length < 1 ∨ 12 < x.procs.length then 2
  else if procsErr x.procs.length x.procs = 0 then
    if procsOk x.procs x.procs = true then
      if x.state.length = x.procs.length then
        if statesErr x.state x.procs = 0 then waitsErr x else statesErr x.state x.procs
      else 8
    else 6
  else procsErr x.procs.length x.procs

theorem outsOk_all {procs : List Prc} : ∀ {l : List Out}, outsOk procs l = true → ∀ o ∈ l, o.letter < (procs.getD o.dst.toNat prc0).letters
  | [], _, o, ho => by cases ho
  | x :: r, h, o, ho => by
    unfold outsOk at h
    split at h
    · rcases List.mem_cons.1 ho with rfl | ho
      · assumption
      · exact outsOk_all h o ho
    · cases h
theorem rulesOk_all {procs : List Prc} : ∀ {l : List Rul}, rulesOk procs l = true → ∀ o ∈ l, outsOk procs o.sent = true
  | [], _, o, ho => by cases ho
  | x :: r, h, o, ho => by
    unfold rulesOk at h
    split at h
    · rcases List.mem_cons.1 ho with rfl | ho
      · assumption
      · exact rulesOk_all h o ho
    · cases h
theorem rowsOk_all {procs : List Prc} : ∀ {l : List (List Rul)}, rowsOk procs l = true → ∀ o ∈ l, rulesOk procs o = true
  | [], _, o, ho => by cases ho
  | x :: r, h, o, ho => by
    unfold rowsOk at h
    split at h
    · rcases List.mem_cons.1 ho with rfl | ho
      · assumption
      · exact rowsOk_all h o ho
    · cases h
theorem procsErr_zero {N : Int} : ∀ {l : List Prc}, procsErr N l = 0 → ∀ p ∈ l, checkErr p N = 0
  | [], _, o, ho => by cases ho
  | x :: r, h, o, ho => by
    unfold procsErr at h
    split at h
    · rcases List.mem_cons.1 ho with rfl | ho
      · assumption
      · exact procsErr_zero h o ho
    · rename_i hx; exact absurd h hx
theorem procsOk_all {procs : List Prc} : ∀ {l : List Prc}, procsOk procs l = true → ∀ p ∈ l, rowsOk procs p.rules = true
  | [], _, o, ho => by cases ho
  | x :: r, h, o, ho => by
    unfold procsOk at h
    split at h
    · rcases List.mem_cons.1 ho with rfl | ho
      · assumption
      · exact procsOk_all h o ho
    · cases h
theorem statesErr_zero : ∀ {l : List Int} {ps : List Prc}, statesErr l ps = 0 → ∀ (i : Nat) (s : Int) (p : Prc), l[i]? = some s → ps[i]? = some p → 0 ≤ s ∧ s < p.states
  | [], _, _, i, s, p, hs, _ => by simp at hs
  | _ :: _, [], _, i, s, p, _, hp => by simp at hp
  | x :: r, y :: ps, h, i, s, p, hs, hp => by
    unfold statesErr at h
    split at h
    · rename_i hx
      cases i with
      | zero => simp at hs hp; subst hs hp; simpa [belowB] using hx
      | succ i => exact statesErr_zero h i s p (by simpa using hs) (by simpa using hp)
    · cases h
theorem shapesErr_zero : ∀ {l : List (List Int)} {ps : List Prc}, shapesErr l ps = 0 → ∀ (i : Nat) (t : List Int) (p : Prc), l[i]? = some t → ps[i]? = some p → (t.length : Int) = p.letters
  | [], _, _, i, s, p, hs, _ => by simp at hs
  | _ :: _, [], _, i, s, p, _, hp => by simp at hp
  | x :: r, y :: ps, h, i, s, p, hs, hp => by
    unfold shapesErr at h
    split at h
    · rename_i hx
      cases i with
      | zero => simp at hs hp; subst hs hp; exact hx
      | succ i => exact shapesErr_zero h i s p (by simpa using hs) (by simpa using hp)
    · cases h
theorem numsErr_zero : ∀ {l : List Int}, numsErr l = 0 → ∀ k ∈ l, 0 ≤ k ∧ k ≤ 1048576
  | [], _, o, ho => by cases ho
  | x :: r, h, o, ho => by
    unfold numsErr at h
    split at h
    · rcases List.mem_cons.1 ho with rfl | ho
      · assumption
      · exact numsErr_zero h o ho
    · cases h
theorem tableErr_zero : ∀ {l : List (List Int)}, tableErr l = 0 → ∀ k ∈ l, numsErr k = 0
  | [], _, o, ho => by cases ho
  | x :: r, h, o, ho => by
    unfold tableErr at h
    split at h
    · rcases List.mem_cons.1 ho with rfl | ho
      · assumption
      · exact tableErr_zero h o ho
    · rename_i hx; exact absurd h hx

/-- What a right network holds. -/
structure Right (x : Nwk) : Prop where
  n : 1 ≤ x.procs.length ∧ x.procs.length ≤ 12
  proc : ∀ (i : Nat) (p : Prc), x.procs[i]? = some p → checkErr p x.procs.length = 0
  und : ∀ (i : Nat) (p : Prc), x.procs[i]? = some p → rowsOk x.procs p.rules = true
  nst : x.state.length = x.procs.length
  st : ∀ (i : Nat) (s : Int) (p : Prc), x.state[i]? = some s → x.procs[i]? = some p → 0 ≤ s ∧ s < p.states
  nwt : x.waiting.length = x.procs.length
  wl : ∀ (i : Nat) (t : List Int) (p : Prc), x.waiting[i]? = some t → x.procs[i]? = some p → (t.length : Int) = p.letters
  wb : ∀ t ∈ x.waiting, ∀ k ∈ t, 0 ≤ k ∧ k ≤ 1048576
theorem netErr_zero {x : Nwk} (h : netErr x = 0) : Right x := by
  unfold netErr at h
  split at h
  · cases h
  split at h
  · split at h
    · split at h
      · split at h
        · unfold waitsErr at h
          split at h
          · rename_i h1 h2 h3 h4 h5 h6
            unfold shapedErr at h6
            split at h6
            · rename_i h7
              exact ⟨by omega, fun i p hp => procsErr_zero h2 p (List.mem_of_getElem? hp), fun i p hp => procsOk_all h3 p (List.mem_of_getElem? hp), h4, statesErr_zero h5, h7, shapesErr_zero h6, fun t ht => numsErr_zero (tableErr_zero h t ht)⟩
            · cases h6
          · rename_i hx; exact absurd h hx
        · rename_i hx; exact absurd h hx
      · cases h
    · cases h
  · rename_i hx; exact absurd h hx

end Go.Proofs.YtnigfddanoaonaaGreat

set_option linter.unusedVariables false
namespace Go.Proofs.YtnigfddanoaonaaGreat
open Go.RowKit

theorem below_any (n b : Int) (w : World) :
    Calls Tryz.prog 145 #[.int .i64 n, .int .i64 b] w fun e w' => e = .returned (.bool (belowB n b)) ∧ w = w' := by
  go_enter Tryz.func145, Tryz.ntmps145
  go_wp2
  all_goals go_ret
  all_goals (refine ⟨ret_bool ?_, rfl⟩; unfold belowB)
  · simp only [decide_eq_true ‹0 ≤ n›, Bool.true_and]
  · rw [decide_eq_false (by omega), Bool.false_and]

set_option maxHeartbeats 400000 in
theorem sent_any (l : List Out) (N : Int) (oa : Option Addr) (c : Nat) (F : Foot) (w : World) (hs : SliceR outR 2 F w oa l) (hc : l.length ≤ c) (hc2 : l.length ≤ 9223372036854775807) :
    Calls Tryz.prog 146 #[.slice oa l.length c, .int .i64 N] w fun e w' => e = .returned (.int .i64 (sentErr N l)) ∧ Below w.heap.size w w' := by
  go_enter Tryz.func146, Tryz.ntmps146
  go_wp2
  go_loopw [9] (fun i wr => ∃ k : Nat, k ≤ l.length ∧ i = .int .i64 k ∧ Hid (sentErr N l = sentErr N (l.drop k)) ∧ Below w.heap.size w wr) (fun i _ => l.length - (intOf i).toNat)
  case atStart => exact ⟨0, by omega, rfl, rfl, Below.refl _ _⟩
  case round =>
    obtain ⟨k, hk, rfl, HE, hb⟩ := hrel
    by_cases hlt : k < l.length
    · obtain ⟨x, y, hd, _, _, _, b, off, rfl, _, h0, h1⟩ := (hs.below outR_ok hb).out_at hlt
      have HD := hide hd
      clear hd hs
      cases h1 : belowB x N <;> cases h2 : belowB y 8
      all_goals go_wp2_with (go_at_call 145; refine (below_any _ _ _).mono ?_; rintro e w' ⟨rfl, rfl⟩)
      all_goals first
        | (go_ret; exact ⟨ret_int (by rw [HE.out, HD.out]; simp [sentErr, h1, h2]), bnew hb _⟩)
        | (go_roundw
           case rel => exact ⟨k + 1, by omega, by go_num, by show _ = _; rw [HE.out, HD.out]; simp [sentErr, h1, h2], bnew hb _⟩
           case measure => simp [intOf]; omega)
    · go_wp2_with fail
      go_ret
      refine ⟨ret_int ?_, hb⟩
      rw [HE.out, List.drop_eq_nil_of_le (by omega)]; rfl

set_option maxHeartbeats 400000 in
theorem rule_any (nx : Int) (st : List Out) (S N : Int) (oa : Option Addr) (c : Nat) (F : Foot) (w : World) (hs : SliceR outR 2 F w oa st) (hc : st.length ≤ c) (hc2 : st.length ≤ 9223372036854775807) :
    Calls Tryz.prog 121 #[.agg #[.int .i64 nx, .slice oa st.length c], .int .i64 S, .int .i64 N] w fun e w' => e = .returned (.int .i64 (ruleErr S N ⟨nx, st⟩)) ∧ Below w.heap.size w w' := by
  go_enter Tryz.func121, Tryz.ntmps121
  cases h1 : belowB nx S
  all_goals go_wp2_with (first
    | (go_at_call 145; refine (below_any _ _ _).mono ?_; rintro e w' ⟨rfl, rfl⟩)
    | (go_at_call 146; go_loud (refine (sent_any st N oa c F _ (hs.below outR_ok (bnew (Below.refl _ _) _)) hc hc2).mono ?_; rintro e w2 ⟨rfl, hb2⟩)))
  · go_ret; exact ⟨ret_int (by simp [ruleErr, h1]), bnew (Below.refl _ _) _⟩
  · have hl : ¬ st.length ≤ 16 := by omega
    go_ret; exact ⟨ret_int (by simp [ruleErr, h1, hl]), bnew (Below.refl _ _) _⟩
  · have hl : st.length ≤ 16 := by omega
    go_ret; exact ⟨ret_int (by simp [ruleErr, h1, hl]), below_then (bnew (Below.refl _ _) _) hb2⟩

set_option maxHeartbeats 1000000 in
theorem check_any (S L N : Int) (rs : List (List Rul)) (oa : Option Addr) (c : Nat) (F : Foot) (w : World) (hs : SliceR (slcR ruleR 2) 1 F w oa rs) (hc : rs.length ≤ c) (hc2 : rs.length ≤ 9223372036854775807) :
    Calls Tryz.prog 89 #[.agg #[.int .i64 S, .int .i64 L, .slice oa rs.length c], .int .i64 N] w fun e w' => e = .returned (.int .i64 (checkErr ⟨S, L, rs⟩ N)) ∧ Below w.heap.size w w' := by
  by_cases h1 : N < 1 ∨ 12 < N
  · have HR : Hid (checkErr ⟨S, L, rs⟩ N = 1) := by show _ = _; simp [checkErr, h1]
    go_enter Tryz.func89, Tryz.ntmps89
    go_wp2_with fail
    all_goals (go_ret; exact ⟨ret_int HR.out.symm, bnew (Below.refl _ _) _⟩)
  by_cases h2 : S < 1 ∨ S > 16 ∨ L < 1 ∨ L > 8
  · have HR : Hid (checkErr ⟨S, L, rs⟩ N = 2) := by show _ = _; rw [checkErr, if_neg h1, if_pos h2]
    have h1a : 1 ≤ N := by omega
    have h1b : N ≤ 12 := by omega
    clear h1
    go_enter Tryz.func89, Tryz.ntmps89
    go_wp2_with fail
    all_goals first | (go_ret; exact ⟨ret_int HR.out.symm, bnew (Below.refl _ _) _⟩) | (exfalso; omega)
  by_cases h3 : (rs.length : Int) = S
  · subst h3
    have HR : Hid (checkErr ⟨rs.length, L, rs⟩ N = rowsErr rs.length L N rs) := by show _ = _; simp only [checkErr]; rw [if_neg h1, if_neg h2, if_neg (by simp)]
    have h1a : 1 ≤ N := by omega
    have h1b : N ≤ 12 := by omega
    have h2a : 1 ≤ rs.length := by omega
    have h2b : rs.length ≤ 16 := by omega
    have h2c : 1 ≤ L := by omega
    have h2d : L ≤ 8 := by omega
    clear h1 h2
    go_enter Tryz.func89, Tryz.ntmps89
    go_wp2_with fail
    clear h1a h1b
    go_loopw [46] (fun i wr => ∃ k : Nat, k ≤ rs.length ∧ i = .int .i64 k ∧ Hid (rowsErr rs.length L N rs = rowsErr rs.length L N (rs.drop k)) ∧
        Below (w.heap.size + 1) (w.alloc (.cells #[.int .i64 rs.length, .int .i64 L, .slice oa rs.length c] 89)) wr) (fun i _ => rs.length - (intOf i).toNat)
    case atStart => exact ⟨0, by omega, rfl, rfl, box_refl _ _⟩
    case round =>
      obtain ⟨k, hk, rfl, HE, hb⟩ := hrel
      have d0 := box_cell hb 0
      have d1 := box_cell hb 1
      have d2 := box_cell hb 2
      simp at d0 d1 d2
      by_cases hlt : k < rs.length
      · obtain ⟨row, hd, _, b, off, oa', c', rfl, _, c0, hcl, hcl2, hsr⟩ := (hs.below rowR_ok (below_box hb)).slc_at hlt
        have HD := hide hd
        clear hd
        by_cases hle : (row.length : Int) = L
        · have ht : ((row.length : Int) != L) = false := by simp [hle]
          have HL := hide hle
          clear hle
          go_wp2_with fail
          obtain ⟨wo, rfl⟩ : ∃ wo : World, wo = wr := ⟨_, rfl⟩
          go_loopw [57] (fun i wr => ∃ j : Nat, j ≤ row.length ∧ i = .int .i64 j ∧ Hid (rowErr rs.length N row = rowErr rs.length N (row.drop j)) ∧
            Below wo.heap.size wo wr) (fun i _ => row.length - (intOf i).toNat)
          case atStart => exact ⟨0, by omega, rfl, rfl, Below.refl _ _⟩
          case round =>
            obtain ⟨j, hj, rfl, HF, hbj⟩ := hrel
            have hbb := box_then hb (by simp) hbj
            have e0 := box_cell hbb 0
            simp at e0
            have hsz : w.heap.size < wr.heap.size := box_lt hbb
            by_cases hlj : j < row.length
            · obtain ⟨nx, sent, hd, _, _, b', off', oa2, c2, rfl, _, c20, c21, hl2, hl22, hss⟩ := (hsr.below ruleR_ok hbj).rule_at hlj
              have HD2 := hide hd
              clear hd
              go_wp2_with fail
              refine (rule_any nx sent _ N oa2 c2 F _ (hss.below outR_ok (bnew (Below.refl _ _) _)) hl2 hl22).mono ?_
              rintro e w2 ⟨rfl, hb2⟩
              have hb3 := below_then (bnew hbj _) hb2
              clear hb2
              by_cases hz : ruleErr rs.length N ⟨nx, sent⟩ = 0
              · have hz1 : (ruleErr rs.length N ⟨nx, sent⟩ != 0) = false := by simp [hz]
                have HZ := hide hz
                clear hz
                go_wp2_with fail
                go_roundw
                case rel => exact ⟨j + 1, by omega, by go_num, by show _ = _; rw [HF.out, HD2.out, rowErr, if_pos HZ.out], hb3⟩
                case measure => simp [intOf]; omega
              · have hz1 : (ruleErr rs.length N ⟨nx, sent⟩ != 0) = true := by simp [hz]
                have HZ := hide hz
                clear hz
                go_wp2_with fail
                go_ret
                refine ⟨ret_int ?_, below_box (box_then hb (by simp) hb3)⟩
                rw [HR.out, HE.out, HD.out, rowsErr, if_pos HL.out, HF.out, HD2.out, rowErr, if_neg HZ.out, if_neg HZ.out]
            · go_wp2_with fail
              go_roundw
              case rel =>
                refine ⟨k + 1, by omega, by go_num, ?_, box_then hb (by simp) hbj⟩
                show _ = _
                have hn : row.drop j = [] := List.drop_eq_nil_of_le (by omega)
                rw [HE.out, HD.out, rowsErr, if_pos HL.out, HF.out, hn, rowErr, if_pos rfl]
              case measure => simp [intOf]; omega
        · have ht : ((row.length : Int) != L) = true := by simp [hle]
          go_wp2_with fail
          go_ret
          exact ⟨ret_int (by rw [HR.out, HE.out, HD.out, rowsErr, if_neg hle]), below_box hb⟩
      · go_wp2_with fail
        go_ret
        exact ⟨ret_int (by rw [HR.out, HE.out, List.drop_eq_nil_of_le (by omega)]; rfl), below_box hb⟩
  · have HR : Hid (checkErr ⟨S, L, rs⟩ N = 8) := by show _ = _; rw [checkErr, if_neg h1, if_neg h2, if_pos h3]
    have h1a : 1 ≤ N := by omega
    have h1b : N ≤ 12 := by omega
    have h2a : 1 ≤ S := by omega
    have h2b : S ≤ 16 := by omega
    have h2c : 1 ≤ L := by omega
    have h2d : L ≤ 8 := by omega
    have h3' : ((rs.length : Int) != S) = true := by simp [h3]
    clear h1 h2 h3
    go_enter Tryz.func89, Tryz.ntmps89
    go_wp2_with fail
    go_ret; exact ⟨ret_int HR.out.symm, bnew (Below.refl _ _) _⟩

end Go.Proofs.YtnigfddanoaonaaGreat

set_option linter.unusedVariables false
set_option linter.unusedSimpArgs false
set_option linter.unnecessarySimpa false
namespace Go.Proofs.YtnigfddanoaonaaGreat
open Go.RowKit

theorem SliceR.prc_at {F : Foot} {w : World} {oa : Option Addr} {xs : List Prc} (h : SliceR prcR 3 F w oa xs) {i : Nat} (hi : i < xs.length) :
    ∃ S Le rs b off oa' c, xs.drop i = ⟨S, Le, rs⟩ :: xs.drop (i + 1) ∧ xs[i]? = some ⟨S, Le, rs⟩ ∧ oa = some ⟨b, off, none⟩ ∧ F b ∧ w.cell? ⟨b, off + i * 3, none⟩ = some (.int .i64 S) ∧ w.cell? ⟨b, off + i * 3 + 1, none⟩ = some (.int .i64 Le) ∧ w.cell? ⟨b, off + i * 3 + 2, none⟩ = some (.slice oa' rs.length c) ∧ I64 S ∧ I64 Le ∧ rs.length ≤ c ∧ rs.length ≤ 9223372036854775807 ∧ SliceR (slcR ruleR 2) 1 F w oa' rs := by
  obtain ⟨⟨S, Le, rs⟩, h1, h2, b, off, cs, h3, h4, ⟨oa', c, rfl, h5, h6, h7, h8, h9⟩, h10⟩ := h.at hi
  exact ⟨S, Le, rs, b, off, oa', c, h1, h2, h3, h4, by simpa using h10 0 _ rfl, by simpa using h10 1 _ rfl, by simpa using h10 2 _ rfl, h5, h6, h7, h8, h9⟩

set_option maxHeartbeats 2000000 in
theorem understood_any (procs : List Prc) (op : Option Addr) (cp : Nat) (os : Option Addr) (ns cs : Nat) (ow : Option Addr) (nw cw : Nat) (S Le : Int) (rs : List (List Rul)) (oa : Option Addr) (c : Nat) (F G : Foot) (w : World)
    (hp : SliceR prcR 3 F w op procs) (hp2 : procs.length ≤ 12) (hs : SliceR (slcR ruleR 2) 1 G w oa rs) (hc : rs.length ≤ c) (hc2 : rs.length ≤ 9223372036854775807) (hv : checkErr ⟨S, Le, rs⟩ procs.length = 0) :
    Calls Tryz.prog 90 #[.agg #[.slice op procs.length cp, .slice os ns cs, .slice ow nw cw], .agg #[.int .i64 S, .int .i64 Le, .slice oa rs.length c]] w fun e w' => e = .returned (.bool (rowsOk procs rs)) ∧ Below w.heap.size w w' := by
  have HV := hide hv
  have HP := hide hp
  have HS := hide hs
  clear hv hp hs
  obtain ⟨W1, e1⟩ : ∃ W1, w.alloc (.cells #[.slice op procs.length cp, .slice os ns cs, .slice ow nw cw] 26) = W1 := ⟨_, rfl⟩
  have bx1 : Box W1 w.heap.size [.slice op procs.length cp, .slice os ns cs, .slice ow nw cw] 26 := by rw [← e1]; exact Box.new w [.slice op procs.length cp, .slice os ns cs, .slice ow nw cw] 26
  have bb1 := bnew (Below.refl w.heap.size w) (.cells #[.slice op procs.length cp, .slice os ns cs, .slice ow nw cw] 26)
  rw [e1] at bb1
  obtain ⟨W2, e2⟩ : ∃ W2, W1.alloc (.cells #[.int .i64 S, .int .i64 Le, .slice oa rs.length c] 89) = W2 := ⟨_, rfl⟩
  have bx2 : Box W2 W1.heap.size [.int .i64 S, .int .i64 Le, .slice oa rs.length c] 89 := by rw [← e2]; exact Box.new W1 [.int .i64 S, .int .i64 Le, .slice oa rs.length c] 89
  have bb2 := bnew (Below.refl W1.heap.size W1) (.cells #[.int .i64 S, .int .i64 Le, .slice oa rs.length c] 89)
  rw [e2] at bb2
  have bx1' := bx1.below bb2
  have HB := hide (bb1.trans (bb2.mono bb1.size))
  have HX1 := hide bx1'
  have c2 := bx2.cell 2
  simp only [List.getElem?_cons_zero, List.getElem?_cons_succ] at c2
  clear bx1 bx1' bx2 bb1 bb2
  go_enter Tryz.func90, Tryz.ntmps90
  go_wp2_with fail
  go_loopw [14] (fun iv wr => ∃ i : Nat, i ≤ rs.length ∧ iv = .int .i64 i ∧ Hid (rowsOk procs rs = rowsOk procs (rs.drop i)) ∧ Hid (Below W2.heap.size W2 wr)) (fun iv _ => rs.length - (intOf iv).toNat)
  case atStart => exact ⟨0, by omega, rfl, rfl, Below.refl _ _⟩
  case round =>
    obtain ⟨i, hi, rfl, HE, HBi⟩ := hrel
    by_cases hlt : i < rs.length
    · obtain ⟨row, hd, hrow, b2, off2, oa3, c3, rfl, _, c4, hcl, hcl2, hsr⟩ := (((HS.out.below rowR_ok HB.out).below rowR_ok HBi.out).slc_at hlt)
      have HRW := hide hrow
      have HD : Hid (rowsOk procs (rs.drop i) = if rulesOk procs row = true then rowsOk procs (rs.drop (i + 1)) else false) := by show _ = _; rw [hd]; rfl
      have HSR := hide hsr
      clear hd hrow hsr
      go_wp2_with fail
      go_loopw [20] (fun iv wr2 => ∃ j : Nat, j ≤ row.length ∧ iv = .int .i64 j ∧ Hid (rulesOk procs row = rulesOk procs (row.drop j)) ∧ Hid (Below wr.heap.size wr wr2)) (fun iv _ => row.length - (intOf iv).toNat)
      case atStart => exact ⟨0, by omega, rfl, rfl, Below.refl _ _⟩
      case round =>
        obtain ⟨j, hj, rfl, HE2, HBj⟩ := hrel
        by_cases hlj : j < row.length
        · obtain ⟨nx, st, hd, hru, _, b4, off4, oa5, c5, rfl, _, c40, c41, hl2, hl22, hss⟩ := (HSR.out.below ruleR_ok HBj.out).rule_at hlj
          have hvr := (valid_rule HV.out HRW.out hru).2.2
          have HVR := hide hvr
          have HD2 : Hid (rulesOk procs (row.drop j) = if outsOk procs st = true then rulesOk procs (row.drop (j + 1)) else false) := by show _ = _; rw [hd]; rfl
          obtain ⟨W4, e4⟩ : ∃ W4, wr.alloc (.cells #[.int .i64 nx, .slice oa5 st.length c5] 99) = W4 := ⟨_, rfl⟩
          have bx4 : Box W4 wr.heap.size [.int .i64 nx, .slice oa5 st.length c5] 99 := by rw [← e4]; exact Box.new wr [.int .i64 nx, .slice oa5 st.length c5] 99
          have bb4 := bnew (Below.refl wr.heap.size wr) (.cells #[.int .i64 nx, .slice oa5 st.length c5] 99)
          rw [e4] at bb4
          have c6 := bx4.cell 1
          simp only [List.getElem?_cons_zero, List.getElem?_cons_succ] at c6
          have HSS := hide (hss.below outR_ok bb4)
          have HB4 := hide (HBj.out.trans (bb4.mono HBj.out.size))
          clear hd hru hvr hss bx4 bb4
          go_wp2_with fail
          go_loopw [27] (fun iv wr3 => ∃ k : Nat, k ≤ st.length ∧ iv = .int .i64 k ∧ Hid (outsOk procs st = outsOk procs (st.drop k)) ∧ Hid (Below W4.heap.size W4 wr3)) (fun iv _ => st.length - (intOf iv).toNat)
          case atStart => exact ⟨0, by omega, rfl, rfl, Below.refl _ _⟩
          case round =>
            obtain ⟨k, hk, rfl, HE3, HBk⟩ := hrel
            have HBW : Hid (Below W2.heap.size W2 wr) := (HBi.out.trans (HB4.out.mono HBi.out.size)).trans (HBk.out.mono (Nat.le_trans HBi.out.size HB4.out.size))
            by_cases hlk : k < st.length
            · obtain ⟨tt, le, hd, hxo, it, il, b6, off6, rfl, _, oc0, oc1⟩ := (HSS.out.below outR_ok HBk.out).out_at hlk
              obtain ⟨⟨m1, m2⟩, m3, m4⟩ := HVR.out _ (List.mem_of_getElem? hxo)
              simp only at m1 m2 m3 m4
              obtain ⟨tn, rfl⟩ := Int.eq_ofNat_of_zero_le m1
              have htn : tn < procs.length := by omega
              obtain ⟨W6, e6⟩ : ∃ W6, wr.alloc (.cells #[.int .i64 tn, .int .i64 le] 102) = W6 := ⟨_, rfl⟩
              have bx6 : Box W6 wr.heap.size [.int .i64 tn, .int .i64 le] 102 := by rw [← e6]; exact Box.new wr [.int .i64 tn, .int .i64 le] 102
              have bb6 := bnew (Below.refl wr.heap.size wr) (.cells #[.int .i64 tn, .int .i64 le] 102)
              rw [e6] at bb6
              have k0 := bx6.cell 0
              have k1 := bx6.cell 1
              have HBW6 : Below W2.heap.size W2 W6 := HBW.out.trans (bb6.mono HBW.out.size)
              have x0 := (HX1.out.below HBW6).cell 0
              simp only [List.getElem?_cons_zero, List.getElem?_cons_succ] at k0 k1 x0
              obtain ⟨S5, Le5, rs5, b7, off7, oa7, c7, _, hpr, rfl, _, _, y1, _, _, il5, _, _, _⟩ := ((HP.out.below prcR_ok HB.out).below prcR_ok HBW6).prc_at htn
              have hD3 : outsOk procs (st.drop k) = if le < Le5 then outsOk procs (st.drop (k + 1)) else false := by
                rw [hd]
                show (if le < (procs.getD ((tn : Int)).toNat prc0).letters then _ else _) = _
                rw [Int.toNat_natCast, List.getD_eq_getElem?_getD, hpr]
                rfl
              have HD3 := hide hD3
              have HBB := hide bb6
              clear hd hxo hpr hD3 bx6 bb6 HBW6
              by_cases hle : le < Le5
              · have q1 : decide (Le5 ≤ le) = false := by simp; omega
                go_wp2_with fail
                go_quiet (fail)
                go_wp2_with fail
                go_roundw
                case rel => exact ⟨k + 1, by omega, by go_num, by show _ = _; rw [HE3.out, HD3.out, if_pos hle], below_drewN (HBk.out.trans (HBB.out.mono HBk.out.size)) _⟩
                case measure => simp [intOf]; omega
              · have q1 : decide (Le5 ≤ le) = true := by simp; omega
                have hF : rowsOk procs rs = false := by
                  rw [HE.out, HD.out, HE2.out, HD2.out, HE3.out, HD3.out, if_neg hle]
                  rfl
                have HF := hide hF
                clear hF
                go_wp2_with fail
                go_quiet (fail)
                go_wp2_with fail
                go_ret
                exact ⟨ret_bool (by rw [HF.out]), HB.out.trans ((below_drewN (HBW.out.trans (HBB.out.mono HBW.out.size)) _).mono HB.out.size)⟩
            · have HT : Hid (outsOk procs st = true) := by show _ = _; rw [HE3.out, List.drop_eq_nil_of_le (by omega)]; rfl
              go_wp2_with fail
              go_roundw
              case rel => exact ⟨j + 1, by omega, by go_num, by show _ = _; rw [HE2.out, HD2.out, if_pos HT.out], HB4.out.trans (HBk.out.mono HB4.out.size)⟩
              case measure => simp [intOf]; omega
        · have HT : Hid (rulesOk procs row = true) := by show _ = _; rw [HE2.out, List.drop_eq_nil_of_le (by omega)]; rfl
          go_wp2_with fail
          go_roundw
          case rel => exact ⟨i + 1, by omega, by go_num, by show _ = _; rw [HE.out, HD.out, if_pos HT.out], HBi.out.trans (HBj.out.mono HBi.out.size)⟩
          case measure => simp [intOf]; omega
    · go_wp2_with fail
      go_ret
      exact ⟨ret_bool (by rw [HE.out, List.drop_eq_nil_of_le (by omega)]; rfl), HB.out.trans (HBi.out.mono HB.out.size)⟩

set_option maxHeartbeats 2000000 in
theorem shaped_any (procs : List Prc) (op : Option Addr) (cp : Nat) (os : Option Addr) (ns cs : Nat) (ow : Option Addr) (nw cw : Nat) (t : List (List Int)) (ot : Option Addr) (ct : Nat) (F G : Foot) (w : World)
    (hp : SliceR prcR 3 F w op procs) (hp2 : procs.length ≤ 9223372036854775807) (ht : SliceR (slcR intR 1) 1 G w ot t) (ht2 : t.length ≤ 9223372036854775807) :
    Calls Tryz.prog 91 #[.agg #[.slice op procs.length cp, .slice os ns cs, .slice ow nw cw], .slice ot t.length ct] w fun e w' => e = .returned (.int .i64 (shapedErr procs t)) ∧ Below w.heap.size w w' := by
  have HP := hide hp
  have HS := hide ht
  clear hp ht
  obtain ⟨W1, e1⟩ : ∃ W1, w.alloc (.cells #[.slice op procs.length cp, .slice os ns cs, .slice ow nw cw] 26) = W1 := ⟨_, rfl⟩
  have bx1 : Box W1 w.heap.size [.slice op procs.length cp, .slice os ns cs, .slice ow nw cw] 26 := by rw [← e1]; exact Box.new w [.slice op procs.length cp, .slice os ns cs, .slice ow nw cw] 26
  have bb1 := bnew (Below.refl w.heap.size w) (.cells #[.slice op procs.length cp, .slice os ns cs, .slice ow nw cw] 26)
  rw [e1] at bb1
  have c0 := bx1.cell 0
  simp only [List.getElem?_cons_zero, List.getElem?_cons_succ] at c0
  have HB := hide bb1
  clear bx1 bb1
  by_cases hl : t.length = procs.length
  · have q0 : (((t.length : Nat) : Int) != ((procs.length : Nat) : Int)) = false := by simp [hl]
    have HR : Hid (shapedErr procs t = shapesErr t procs) := if_pos hl
    obtain ⟨tl, htl⟩ : ∃ tl, tl = t.length := ⟨_, rfl⟩
    rw [← htl] at hl q0 ht2 ⊢
    have HTL := hide htl
    have HL := hide hl
    clear hl htl
    go_enter Tryz.func91, Tryz.ntmps91
    go_wp2_with fail
    go_loop [15] (fun iv => ∃ i : Nat, i ≤ tl ∧ iv = .int .i64 i ∧ Hid (shapesErr t procs = shapesErr (t.drop i) (procs.drop i))) (fun iv => tl - (intOf iv).toNat)
    case atStart => exact ⟨0, by omega, rfl, rfl⟩
    case round =>
      obtain ⟨i, hi, rfl, HE⟩ := hrel
      by_cases hlt : i < tl
      · obtain ⟨l, hd, hxl, b2, off2, oa3, c3, rfl, _, c4, hcl, hcl2, _⟩ := (HS.out.below (slcR_ok intR_ok (by decide)) HB.out).slc_at (i := i) (by have := HTL.out; omega)
        have hip : i < procs.length := by have := HL.out; omega
        obtain ⟨S5, Le5, rs5, b7, off7, oa7, c7, hd7, _, rfl, _, _, y1, _, _, il5, _, _, _⟩ := (HP.out.below prcR_ok HB.out).prc_at hip
        have HD : Hid (shapesErr (t.drop i) (procs.drop i) = if (l.length : Int) = Le5 then shapesErr (t.drop (i + 1)) (procs.drop (i + 1)) else 8) := by show _ = _; rw [hd, hd7]; rfl
        clear hd hd7 hxl
        by_cases he : (l.length : Int) = Le5
        · have q1 : (((l.length : Nat) : Int) != Le5) = false := by simp [he]
          have HD2 : Hid (shapesErr (t.drop i) (procs.drop i) = shapesErr (t.drop (i + 1)) (procs.drop (i + 1))) := by show _ = _; rw [HD.out, if_pos he]
          clear he
          go_wp2_with fail
          go_round
          case rel => exact ⟨i + 1, by omega, by go_num, by show _ = _; rw [HE.out, HD2.out]⟩
          case measure => simp [intOf]; omega
        · have q1 : (((l.length : Nat) : Int) != Le5) = true := by simp [he]
          have HD2 : Hid (shapesErr (t.drop i) (procs.drop i) = 8) := by show _ = _; rw [HD.out, if_neg he]
          clear he
          go_wp2_with fail
          go_ret
          exact ⟨ret_int (by rw [HR.out, HE.out, HD2.out]), HB.out⟩
      · go_wp2_with fail
        go_ret
        exact ⟨ret_int (by rw [HR.out, HE.out, List.drop_eq_nil_of_le (by have := HTL.out; omega)]; rfl), HB.out⟩
  · have q0 : (((t.length : Nat) : Int) != ((procs.length : Nat) : Int)) = true := by simp; omega
    have HR : Hid (shapedErr procs t = 8) := if_neg hl
    obtain ⟨tl, htl⟩ : ∃ tl, tl = t.length := ⟨_, rfl⟩
    rw [← htl] at q0 ht2 ⊢
    clear hl htl
    go_enter Tryz.func91, Tryz.ntmps91
    go_wp2_with fail
    go_ret
    exact ⟨ret_int (by rw [HR.out]), HB.out⟩

end Go.Proofs.YtnigfddanoaonaaGreat

set_option linter.unusedVariables false
set_option linter.unusedSimpArgs false
namespace Go.Proofs.YtnigfddanoaonaaGreat
open Go.RowKit

end Go.Proofs.YtnigfddanoaonaaGreat

set_option linter.unusedVariables false
namespace Go.Proofs.YtnigfddanoaonaaGreat
open Go.RowKit

end Go.Proofs.YtnigfddanoaonaaGreat

set_option linter.unusedVariables false
namespace Go.Proofs.YtnigfddanoaonaaGreat
open Go.RowKit

end Go.Proofs.YtnigfddanoaonaaGreat

set_option linter.unusedVariables false
set_option linter.unusedSimpArgs false
namespace Go.Proofs.YtnigfddanoaonaaGreat
open Go.RowKit

end Go.Proofs.YtnigfddanoaonaaGreat

namespace Go.Proofs.YtnigfddanoaonaaGreat
open Go.RowKit

/-- An empty slice that the call has just made owns nothing. -/
theorem OwnS.made {α : Type} (R : Rep α) (sz : Nat) (e : TypeId) (F : Foot) (w : World) : OwnS R sz w.heap.size e F (w.alloc (.cells #[] e)) (.slice (some ⟨w.heap.size, 0, none⟩) 0 0) [] :=
  ⟨[], World.ownsRow_made w #[] 0 (Nat.le_refl _) (by unfold maxLen; omega) (by simp), by simp, by simp⟩

end Go.Proofs.YtnigfddanoaonaaGreat

namespace Go.Proofs.YtnigfddanoaonaaGreat
open Go.RowKit

def cmpIo (x y : Int) : Int := if x < y then -1 else if y < x then 1 else 0
def cmpO (a b : Out) : Int := if cmpIo a.dst b.dst = 0 then cmpIo a.letter b.letter else cmpIo a.dst b.dst
def leO (a b : Out) : Prop := a.dst < b.dst ∨ (a.dst = b.dst ∧ a.letter ≤ b.letter)
instance (a b : Out) : Decidable (leO a b) := by unfold leO; infer_instance

theorem cmpO_neg {a b : Out} : cmpO a b < 0 ↔ ¬ leO b a := by
  unfold cmpO cmpIo leO
  by_cases h1 : a.dst < b.dst <;> by_cases h2 : b.dst < a.dst <;> by_cases h3 : a.letter < b.letter <;> by_cases h4 : b.letter < a.letter <;> simp [h1, h2, h3, h4] <;> omega
theorem leO_refl (a : Out) : leO a a := .inr ⟨rfl, Int.le_refl _⟩
theorem leO_trans {a b c : Out} (h : leO a b) (k : leO b c) : leO a c := by unfold leO at *; omega
theorem leO_total (a b : Out) : leO a b ∨ leO b a := by unfold leO; omega
theorem leO_antisymm {a b : Out} (h : leO a b) (k : leO b a) : a = b := by
  obtain ⟨t, l⟩ := a
  obtain ⟨t', l'⟩ := b
  unfold leO at *
  simp only [Out.mk.injEq] at *
  omega

def ins (x : Out) : List Out → List Out
  | [] => [x]
  | y :: r => if leO x y then x :: y :: r else y :: ins x r
def isort : List Out → List Out
  | [] => []
  | x :: r => ins x (isort r)
abbrev Srt (l : List Out) : Prop := l.Pairwise leO

theorem ins_perm (x : Out) : ∀ l, (ins x l).Perm (x :: l)
  | [] => List.Perm.refl _
  | y :: r => by
    unfold ins
    split
    · exact List.Perm.refl _
    · exact (List.Perm.cons y (ins_perm x r)).trans (List.Perm.swap x y r)
theorem isort_perm : ∀ l, (isort l).Perm l
  | [] => List.Perm.refl _
  | x :: r => (ins_perm x _).trans (List.Perm.cons x (isort_perm r))
theorem isort_length (l : List Out) : (isort l).length = l.length := (isort_perm l).length_eq
theorem ins_srt (x : Out) : ∀ {l}, Srt l → Srt (ins x l)
  | [], _ => by simp [ins]
  | y :: r, h => by
    unfold ins
    have hy := List.pairwise_cons.1 h
    split
    · rename_i hle
      refine List.pairwise_cons.2 ⟨fun z hz => ?_, h⟩
      rcases List.mem_cons.1 hz with rfl | hz
      · exact hle
      · exact leO_trans hle (hy.1 z hz)
    · rename_i hle
      refine List.pairwise_cons.2 ⟨fun z hz => ?_, ins_srt x hy.2⟩
      have hz2 := (ins_perm x r).mem_iff.1 hz
      rcases List.mem_cons.1 hz2 with rfl | hz2
      · exact (leO_total z y).resolve_left hle
      · exact hy.1 z hz2
theorem isort_srt : ∀ l, Srt (isort l)
  | [] => List.Pairwise.nil
  | x :: r => ins_srt x (isort_srt r)
theorem srt_unique : ∀ {l l' : List Out}, Srt l → Srt l' → l.Perm l' → l = l'
  | [], l', _, _, h => by simpa using h.length_eq.symm
  | x :: r, [], _, _, h => by simpa using h.length_eq
  | x :: r, y :: r', h, h', hp => by
    have hx := List.pairwise_cons.1 h
    have hy := List.pairwise_cons.1 h'
    have hxy : x = y := by
      have m1 := hp.mem_iff.1 (List.mem_cons_self (a := x) (l := r))
      have m2 := hp.mem_iff.2 (List.mem_cons_self (a := y) (l := r'))
      rcases List.mem_cons.1 m1 with e | m1
      · exact e
      · rcases List.mem_cons.1 m2 with e | m2
        · exact e.symm
        · exact leO_antisymm (hx.1 _ m2) (hy.1 _ m1)
    subst hxy
    rw [srt_unique hx.2 hy.2 ((List.perm_cons x).1 hp)]
theorem isort_of {l l' : List Out} (h : Srt l) (hp : l.Perm l') : l = isort l' := srt_unique h (isort_srt l') (hp.trans (isort_perm l').symm)
theorem isort_id {l : List Out} (h : Srt l) : isort l = l := (isort_of h (List.Perm.refl _)).symm
theorem isort_perm_eq {l l' : List Out} (h : l.Perm l') : isort l = isort l' := isort_of (isort_srt l) ((isort_perm l).trans h)
theorem isort_join {l l' : List Out} (h : ∀ x ∈ l, ∀ y ∈ l', leO x y) : isort l ++ isort l' = isort (l ++ l') :=
  isort_of (List.pairwise_append.2 ⟨isort_srt l, isort_srt l', fun x hx y hy => h x ((isort_perm l).mem_iff.1 hx) y ((isort_perm l').mem_iff.1 hy)⟩) ((isort_perm l).append (isort_perm l'))
end Go.Proofs.YtnigfddanoaonaaGreat

set_option linter.unusedVariables false
namespace Go.Proofs.YtnigfddanoaonaaGreat
open Go.RowKit

theorem key1_any (t l : Int) (w : World) : Calls Tryz.prog 158 #[.agg #[.int .i64 t, .int .i64 l]] w fun e w' => e = .returned (.int .i64 t) ∧ Below w.heap.size w w' := by
  go_enter Tryz.func158, Tryz.ntmps158
  go_wp2_with fail
  go_ret
  exact ⟨rfl, bnew (Below.refl _ _) _⟩
theorem key2_any (t l : Int) (w : World) : Calls Tryz.prog 159 #[.agg #[.int .i64 t, .int .i64 l]] w fun e w' => e = .returned (.int .i64 l) ∧ Below w.heap.size w w' := by
  go_enter Tryz.func159, Tryz.ntmps159
  go_wp2_with fail
  go_ret
  exact ⟨rfl, bnew (Below.refl _ _) _⟩
theorem isNaN_any (x : Int) (w : World) : Calls Tryz.prog 165 #[.int .i64 x] w fun e w' => e = .returned (.bool false) ∧ w = w' := by
  go_enter Tryz.func165, Tryz.ntmps165
  go_wp2_with fail
  go_ret
  simp
theorem compare_any (x y : Int) (w : World) : Calls Tryz.prog 149 #[.int .i64 x, .int .i64 y] w fun e w' => e = .returned (.int .i64 (cmpIo x y)) ∧ w = w' := by
  go_enter Tryz.func149, Tryz.ntmps149
  go_wp2_with (go_at_call 165; refine (isNaN_any _ _).mono ?_; rintro e w' ⟨rfl, rfl⟩)
  · go_ret
    have h : x < y := by assumption
    exact ⟨ret_int (by simp [cmpIo, h]), rfl⟩
  · go_ret
    have h : y < x := by assumption
    have h' : ¬ x < y := by omega
    exact ⟨ret_int (by simp [cmpIo, h, h']), rfl⟩
  · go_ret
    have h : ¬ y < x := by omega
    have h' : ¬ x < y := by omega
    exact ⟨ret_int (by simp [cmpIo, h, h']), rfl⟩

theorem two_boxes (w : World) (a b : Array Value) (t : TypeId) :
    ((w.alloc (.cells a t)).alloc (.cells b t)).cell? ⟨w.heap.size, 0, none⟩ = a[0]? ∧ ((w.alloc (.cells a t)).alloc (.cells b t)).cell? ⟨w.heap.size, 1, none⟩ = a[1]? ∧
    ((w.alloc (.cells a t)).alloc (.cells b t)).cell? ⟨w.heap.size + 1, 0, none⟩ = b[0]? ∧ ((w.alloc (.cells a t)).alloc (.cells b t)).cell? ⟨w.heap.size + 1, 1, none⟩ = b[1]? ∧
    Below w.heap.size w ((w.alloc (.cells a t)).alloc (.cells b t)) := by
  have h1 : ∀ i, ((w.alloc (.cells a t)).alloc (.cells b t)).cell? ⟨w.heap.size, i, none⟩ = a[i]? := fun i => box_cell (bnew' (box_refl w _) _) i
  have h2 : ∀ i, ((w.alloc (.cells a t)).alloc (.cells b t)).cell? ⟨w.heap.size + 1, i, none⟩ = b[i]? := fun i => by
    have h := box_cell (box_refl (w.alloc (.cells a t)) (.cells b t)) i
    simp at h ⊢
  exact ⟨h1 0, h1 1, h2 0, h2 1, bnew (bnew (Below.refl _ _) _) _⟩
where
  bnew' {B : Nat} {a w' : World} (h : Below (B + 1) a w') (o : Obj) (hB : B + 1 ≤ w'.heap.size := by simp) : Below (B + 1) a (w'.alloc o) := h.alloc hB o

def keyF (n : Nat) : Value := .func (.func n) #[] #[]
/-- The captured keys. -/
def Keys (w : World) (kb ka : Nat) : Prop :=
  w.heap[kb]? = some (.cells #[.slice (some ⟨ka, 0, none⟩) 2 2] 224 (0, 0)) ∧ w.heap[ka]? = some (.cells #[keyF 158, keyF 159] 214 (0, 0))

def Held6 (w : World) (B : Nat) (t l t' l' : Int) (kb ka : Nat) : Prop :=
  w.cell? ⟨B, 0, none⟩ = some (.int .i64 t) ∧ w.cell? ⟨B, 1, none⟩ = some (.int .i64 l) ∧ w.cell? ⟨B + 1, 0, none⟩ = some (.int .i64 t') ∧ w.cell? ⟨B + 1, 1, none⟩ = some (.int .i64 l') ∧
  w.cell? ⟨kb, 0, none⟩ = some (.slice (some ⟨ka, 0, none⟩) 2 2) ∧ w.cell? ⟨ka, 0, none⟩ = some (.func (.func 158) #[] #[]) ∧ w.cell? ⟨ka, 1, none⟩ = some (.func (.func 159) #[] #[])

set_option maxHeartbeats 4000000 in
theorem cmpO_any (t l t' l' : Int) (kb ka : Nat) (w : World) (hk : Hid (Keys w kb ka)) :
    Calls Tryz.prog 170 #[.agg #[.int .i64 t, .int .i64 l], .agg #[.int .i64 t', .int .i64 l'], .pointer (some ⟨kb, 0, none⟩)] w fun e w' =>
      e = .returned (.int .i64 (cmpO ⟨t, l⟩ ⟨t', l'⟩)) ∧ Below w.heap.size w w' := by
  have k0 : w.cell? ⟨kb, 0, none⟩ = some (.slice (some ⟨ka, 0, none⟩) 2 2) := cell_of_row w kb 0 _ _ _ hk.out.1
  have k1 : w.cell? ⟨ka, 0, none⟩ = some (keyF 158) := cell_of_row w ka 0 _ _ _ hk.out.2
  have k2 : w.cell? ⟨ka, 1, none⟩ = some (keyF 159) := cell_of_row w ka 1 _ _ _ hk.out.2
  have b0 := World.block_lt_of_cell? _ _ k0
  have b1 := World.block_lt_of_cell? _ _ k1
  simp only at b0 b1
  unfold keyF at k1 k2
  go_enter Tryz.func170, Tryz.ntmps170
  go_wp2_with fail
  obtain ⟨c0, c1, c2, c3, hbW⟩ := two_boxes w #[.int .i64 t, .int .i64 l] #[.int .i64 t', .int .i64 l'] 102
  have k0' := (hbW.cell (World.block_lt_of_cell? _ _ k0)).trans k0
  have k1' := (hbW.cell (World.block_lt_of_cell? _ _ k1)).trans k1
  have k2' := (hbW.cell (World.block_lt_of_cell? _ _ k2)).trans k2
  simp only [List.getElem?_toArray, List.getElem?_cons_zero, List.getElem?_cons_succ] at c0 c1 c2 c3
  clear k0 k1 k2 hk
  generalize (w.alloc (.cells #[.int .i64 t, .int .i64 l] 102)).alloc (.cells #[.int .i64 t', .int .i64 l'] 102) = W at *
  go_loopw [11] (fun i wr => ∃ k : Nat, k ≤ 2 ∧ i = .int .i64 k ∧ Hid (k = 0 ∨ cmpIo t t' = 0) ∧ Hid (k ≤ 1 ∨ cmpIo l l' = 0) ∧ Held6 wr w.heap.size t l t' l' kb ka ∧ Below w.heap.size w wr) (fun i _ => 2 - (intOf i).toNat)
  case atStart => exact ⟨0, by omega, rfl, .inl rfl, .inl (by omega), ⟨c0, c1, c2, c3, k0', k1', k2'⟩, hbW⟩
  case round =>
    clear c0 c1 c2 c3 k0' k1' k2' hbW
    obtain ⟨k, hk, rfl, HK0, HK1, ⟨c0, c1, c2, c3, k0', k1', k2'⟩, hb⟩ := hrel
    rcases (show k = 0 ∨ k = 1 ∨ k = 2 from by omega) with rfl | rfl | rfl
    · have hz : Hid (cmpO ⟨t, l⟩ ⟨t', l'⟩ = if cmpIo t t' = 0 then cmpIo l l' else cmpIo t t') := rfl
      by_cases hc : cmpIo t t' = 0
      · have hc1 := is_err hc
        have HC := hide hc
        clear hc
        go_wp2_with fail
        have hb := hb.drew
        go_region_held3 (fun w' => w'.cell? ⟨w.heap.size, 0, none⟩ = some (.int .i64 t) ∧ w'.cell? ⟨w.heap.size, 1, none⟩ = some (.int .i64 l) ∧ w'.cell? ⟨w.heap.size + 1, 0, none⟩ = some (.int .i64 t') ∧ w'.cell? ⟨w.heap.size + 1, 1, none⟩ = some (.int .i64 l')) (first | exact ⟨c0, c1, c2, c3⟩) (first
          | (go_at_call 158; refine (key1_any _ _ _).mono ?_; rintro e w2 ⟨rfl, hb2⟩; have c0 := (hb2.cell (World.block_lt_of_cell? _ _ c0)).trans c0; have c1 := (hb2.cell (World.block_lt_of_cell? _ _ c1)).trans c1; have c2 := (hb2.cell (World.block_lt_of_cell? _ _ c2)).trans c2; have c3 := (hb2.cell (World.block_lt_of_cell? _ _ c3)).trans c3; have k0' := (hb2.cell (World.block_lt_of_cell? _ _ k0')).trans k0'; have k1' := (hb2.cell (World.block_lt_of_cell? _ _ k1')).trans k1'; have k2' := (hb2.cell (World.block_lt_of_cell? _ _ k2')).trans k2'; have hb := below_then hb hb2)
          | (go_at_call 159; refine (key2_any _ _ _).mono ?_; rintro e w2 ⟨rfl, hb2⟩; have c0 := (hb2.cell (World.block_lt_of_cell? _ _ c0)).trans c0; have c1 := (hb2.cell (World.block_lt_of_cell? _ _ c1)).trans c1; have c2 := (hb2.cell (World.block_lt_of_cell? _ _ c2)).trans c2; have c3 := (hb2.cell (World.block_lt_of_cell? _ _ c3)).trans c3; have k0' := (hb2.cell (World.block_lt_of_cell? _ _ k0')).trans k0'; have k1' := (hb2.cell (World.block_lt_of_cell? _ _ k1')).trans k1'; have k2' := (hb2.cell (World.block_lt_of_cell? _ _ k2')).trans k2'; have hb := below_then hb hb2)
          | (go_at_call 149; refine (compare_any _ _ _).mono ?_; rintro e w' ⟨rfl, rfl⟩))
        all_goals
          go_wp2_with fail
          go_roundw
          case rel => exact ⟨1, by omega, by go_num, .inr HC.out, .inl (by omega), ⟨c0, c1, c2, c3, k0', k1', k2'⟩, hb⟩
          case measure => simp [intOf]
      · have hc1 := not_err hc
        have HC := hide hc
        clear hc
        go_wp2_with fail
        have hb := hb.drew
        go_region_held3 (fun w' => w'.cell? ⟨w.heap.size, 0, none⟩ = some (.int .i64 t) ∧ w'.cell? ⟨w.heap.size, 1, none⟩ = some (.int .i64 l) ∧ w'.cell? ⟨w.heap.size + 1, 0, none⟩ = some (.int .i64 t') ∧ w'.cell? ⟨w.heap.size + 1, 1, none⟩ = some (.int .i64 l')) (first | exact ⟨c0, c1, c2, c3⟩) (first
          | (go_at_call 158; refine (key1_any _ _ _).mono ?_; rintro e w2 ⟨rfl, hb2⟩; have c0 := (hb2.cell (World.block_lt_of_cell? _ _ c0)).trans c0; have c1 := (hb2.cell (World.block_lt_of_cell? _ _ c1)).trans c1; have c2 := (hb2.cell (World.block_lt_of_cell? _ _ c2)).trans c2; have c3 := (hb2.cell (World.block_lt_of_cell? _ _ c3)).trans c3; have k0' := (hb2.cell (World.block_lt_of_cell? _ _ k0')).trans k0'; have k1' := (hb2.cell (World.block_lt_of_cell? _ _ k1')).trans k1'; have k2' := (hb2.cell (World.block_lt_of_cell? _ _ k2')).trans k2'; have hb := below_then hb hb2)
          | (go_at_call 159; refine (key2_any _ _ _).mono ?_; rintro e w2 ⟨rfl, hb2⟩; have c0 := (hb2.cell (World.block_lt_of_cell? _ _ c0)).trans c0; have c1 := (hb2.cell (World.block_lt_of_cell? _ _ c1)).trans c1; have c2 := (hb2.cell (World.block_lt_of_cell? _ _ c2)).trans c2; have c3 := (hb2.cell (World.block_lt_of_cell? _ _ c3)).trans c3; have k0' := (hb2.cell (World.block_lt_of_cell? _ _ k0')).trans k0'; have k1' := (hb2.cell (World.block_lt_of_cell? _ _ k1')).trans k1'; have k2' := (hb2.cell (World.block_lt_of_cell? _ _ k2')).trans k2'; have hb := below_then hb hb2)
          | (go_at_call 149; refine (compare_any _ _ _).mono ?_; rintro e w' ⟨rfl, rfl⟩))
        all_goals
          go_wp2_with fail
          go_ret
          exact ⟨ret_int (by rw [hz.out, if_neg HC.out]), hb⟩
    · have hz : Hid (cmpO ⟨t, l⟩ ⟨t', l'⟩ = cmpIo l l') := if_pos (HK0.out.resolve_left (by omega))
      by_cases hc : cmpIo l l' = 0
      · have hc1 := is_err hc
        have HC := hide hc
        clear hc
        go_wp2_with fail
        have hb := hb.drew
        go_region_held3 (fun w' => w'.cell? ⟨w.heap.size, 0, none⟩ = some (.int .i64 t) ∧ w'.cell? ⟨w.heap.size, 1, none⟩ = some (.int .i64 l) ∧ w'.cell? ⟨w.heap.size + 1, 0, none⟩ = some (.int .i64 t') ∧ w'.cell? ⟨w.heap.size + 1, 1, none⟩ = some (.int .i64 l')) (first | exact ⟨c0, c1, c2, c3⟩) (first
          | (go_at_call 158; refine (key1_any _ _ _).mono ?_; rintro e w2 ⟨rfl, hb2⟩; have c0 := (hb2.cell (World.block_lt_of_cell? _ _ c0)).trans c0; have c1 := (hb2.cell (World.block_lt_of_cell? _ _ c1)).trans c1; have c2 := (hb2.cell (World.block_lt_of_cell? _ _ c2)).trans c2; have c3 := (hb2.cell (World.block_lt_of_cell? _ _ c3)).trans c3; have k0' := (hb2.cell (World.block_lt_of_cell? _ _ k0')).trans k0'; have k1' := (hb2.cell (World.block_lt_of_cell? _ _ k1')).trans k1'; have k2' := (hb2.cell (World.block_lt_of_cell? _ _ k2')).trans k2'; have hb := below_then hb hb2)
          | (go_at_call 159; refine (key2_any _ _ _).mono ?_; rintro e w2 ⟨rfl, hb2⟩; have c0 := (hb2.cell (World.block_lt_of_cell? _ _ c0)).trans c0; have c1 := (hb2.cell (World.block_lt_of_cell? _ _ c1)).trans c1; have c2 := (hb2.cell (World.block_lt_of_cell? _ _ c2)).trans c2; have c3 := (hb2.cell (World.block_lt_of_cell? _ _ c3)).trans c3; have k0' := (hb2.cell (World.block_lt_of_cell? _ _ k0')).trans k0'; have k1' := (hb2.cell (World.block_lt_of_cell? _ _ k1')).trans k1'; have k2' := (hb2.cell (World.block_lt_of_cell? _ _ k2')).trans k2'; have hb := below_then hb hb2)
          | (go_at_call 149; refine (compare_any _ _ _).mono ?_; rintro e w' ⟨rfl, rfl⟩))
        all_goals
          go_wp2_with fail
          go_roundw
          case rel => exact ⟨2, by omega, by go_num, .inr (HK0.out.resolve_left (by omega)), .inr HC.out, ⟨c0, c1, c2, c3, k0', k1', k2'⟩, hb⟩
          case measure => simp [intOf]
      · have hc1 := not_err hc
        have HC := hide hc
        clear hc
        go_wp2_with fail
        have hb := hb.drew
        go_region_held3 (fun w' => w'.cell? ⟨w.heap.size, 0, none⟩ = some (.int .i64 t) ∧ w'.cell? ⟨w.heap.size, 1, none⟩ = some (.int .i64 l) ∧ w'.cell? ⟨w.heap.size + 1, 0, none⟩ = some (.int .i64 t') ∧ w'.cell? ⟨w.heap.size + 1, 1, none⟩ = some (.int .i64 l')) (first | exact ⟨c0, c1, c2, c3⟩) (first
          | (go_at_call 158; refine (key1_any _ _ _).mono ?_; rintro e w2 ⟨rfl, hb2⟩; have c0 := (hb2.cell (World.block_lt_of_cell? _ _ c0)).trans c0; have c1 := (hb2.cell (World.block_lt_of_cell? _ _ c1)).trans c1; have c2 := (hb2.cell (World.block_lt_of_cell? _ _ c2)).trans c2; have c3 := (hb2.cell (World.block_lt_of_cell? _ _ c3)).trans c3; have k0' := (hb2.cell (World.block_lt_of_cell? _ _ k0')).trans k0'; have k1' := (hb2.cell (World.block_lt_of_cell? _ _ k1')).trans k1'; have k2' := (hb2.cell (World.block_lt_of_cell? _ _ k2')).trans k2'; have hb := below_then hb hb2)
          | (go_at_call 159; refine (key2_any _ _ _).mono ?_; rintro e w2 ⟨rfl, hb2⟩; have c0 := (hb2.cell (World.block_lt_of_cell? _ _ c0)).trans c0; have c1 := (hb2.cell (World.block_lt_of_cell? _ _ c1)).trans c1; have c2 := (hb2.cell (World.block_lt_of_cell? _ _ c2)).trans c2; have c3 := (hb2.cell (World.block_lt_of_cell? _ _ c3)).trans c3; have k0' := (hb2.cell (World.block_lt_of_cell? _ _ k0')).trans k0'; have k1' := (hb2.cell (World.block_lt_of_cell? _ _ k1')).trans k1'; have k2' := (hb2.cell (World.block_lt_of_cell? _ _ k2')).trans k2'; have hb := below_then hb hb2)
          | (go_at_call 149; refine (compare_any _ _ _).mono ?_; rintro e w' ⟨rfl, rfl⟩))
        all_goals
          go_wp2_with fail
          go_ret
          exact ⟨ret_int (by rw [hz.out]), hb⟩
    · have hz : Hid (cmpO ⟨t, l⟩ ⟨t', l'⟩ = 0) := (if_pos (HK0.out.resolve_left (by omega))).trans (HK1.out.resolve_left (by omega))
      go_wp2_with fail
      go_ret
      exact ⟨ret_int hz.out.symm, hb⟩

end Go.Proofs.YtnigfddanoaonaaGreat

set_option linter.unusedVariables false
namespace Go.Proofs.YtnigfddanoaonaaGreat
open Go.RowKit

def flatO (d : List Out) : List Value := d.flatMap fun o => [.int .i64 o.dst, .int .i64 o.letter]
theorem flatO_len (d : List Out) : (flatO d).length = d.length * 2 := by
  induction d with
  | nil => rfl
  | cons x r ih => simp only [flatO, List.flatMap_cons, List.length_append, List.length_cons, List.length_nil] at *; omega
theorem flatO_get {d : List Out} {i : Nat} {t l : Int} (h : d[i]? = some ⟨t, l⟩) : (flatO d)[i * 2]? = some (.int .i64 t) ∧ (flatO d)[i * 2 + 1]? = some (.int .i64 l) := by
  induction d generalizing i with
  | nil => simp at h
  | cons x r ih =>
    match i, h with
    | 0, h =>
      simp at h
      subst h
      exact ⟨rfl, rfl⟩
    | i + 1, h =>
      have h2 := ih (by simpa using h)
      rw [show (i + 1) * 2 = i * 2 + 1 + 1 from by omega]
      exact ⟨by simpa [flatO] using h2.1, by simpa [flatO] using h2.2⟩
theorem flatO_set (d : List Out) (i : Nat) (t l : Int) : flatO (d.set i ⟨t, l⟩) = ((flatO d).set (i * 2) (.int .i64 t)).set (i * 2 + 1) (.int .i64 l) := by
  induction d generalizing i with
  | nil => simp [flatO]
  | cons x r ih =>
    match i with
    | 0 => simp [flatO]
    | i + 1 =>
      rw [show (i + 1) * 2 = i * 2 + 1 + 1 from by omega]
      have h2 := ih i
      simp only [flatO] at h2
      simp [flatO, h2]

def RowO (w : World) (g : Nat) (d : List Out) (rest : List Value) : Prop := w.heap[g]? = some (.cells (flatO d ++ rest).toArray 102 (0, 0))

section
variable {w w' : World} {g : Nat} {d : List Out} {rest : List Value}
theorem RowO.lt (h : RowO w g d rest) : g < w.heap.size := (Array.getElem?_eq_some_iff.1 h).1
theorem RowO.cells (h : RowO w g d rest) {i : Nat} {t l : Int} (hi : d[i]? = some ⟨t, l⟩) : w.cell? ⟨g, i * 2, none⟩ = some (.int .i64 t) ∧ w.cell? ⟨g, i * 2 + 1, none⟩ = some (.int .i64 l) := by
  have hl : i < d.length := (List.getElem?_eq_some_iff.1 hi).1
  have hg := flatO_get hi
  rw [cell_of_row w g _ _ _ _ h, cell_of_row w g _ _ _ _ h]
  simp only [List.getElem?_toArray]
  rw [List.getElem?_append_left (by rw [flatO_len]; omega), List.getElem?_append_left (by rw [flatO_len]; omega)]
  exact hg
theorem RowO.free (h : RowO w g d rest) (i : Nat) : w.frozen? ⟨g, i, none⟩ = false := frozen_of_row w g i _ _ h
theorem RowO.keep (h : RowO w g d rest) (hb : w'.heap[g]? = w.heap[g]?) : RowO w' g d rest := hb.trans h
theorem RowO.below (h : RowO w g d rest) (hb : Below w.heap.size w w') : RowO w' g d rest := h.keep (hb.block g h.lt)
theorem RowO.put (h : RowO w g d rest) {i : Nat} (hi : i < d.length) (t l : Int) : RowO ((w.setCell ⟨g, i * 2, none⟩ (.int .i64 t)).setCell ⟨g, i * 2 + 1, none⟩ (.int .i64 l)) g (d.set i ⟨t, l⟩) rest := by
  have h1 := heap_setCell_same w g (i * 2) _ _ (.int .i64 t) h
  have h2 := heap_setCell_same (w.setCell ⟨g, i * 2, none⟩ (.int .i64 t)) g (i * 2 + 1) _ _ (.int .i64 l) h1
  unfold RowO
  rw [h2, flatO_set]
  congr 2
  rw [List.setIfInBounds_toArray, List.setIfInBounds_toArray, List.set_append_left _ _ (by rw [flatO_len]; omega), List.set_append_left _ _ (by rw [List.length_set, flatO_len]; omega)]
end

theorem Keys.ne {w : World} {kb ka g : Nat} {d : List Out} {rest : List Value} (hk : Keys w kb ka) (h : RowO w g d rest) : kb ≠ g ∧ ka ≠ g := by
  constructor
  · rintro rfl
    have := hk.1.symm.trans h
    simp at this
  · rintro rfl
    have := hk.2.symm.trans h
    simp at this
theorem Keys.grown {w w' : World} {kb ka g : Nat} (hk : Keys w kb ka) (hne : kb ≠ g ∧ ka ≠ g) (hg : w.grownBy w' (some g)) : Keys w' kb ka :=
  ⟨(hg.block kb (Array.getElem?_eq_some_iff.1 hk.1).1 (fun e => hne.1 (by injection e))).trans hk.1, (hg.block ka (Array.getElem?_eq_some_iff.1 hk.2).1 (fun e => hne.2 (by injection e))).trans hk.2⟩

theorem grown_refl (w : World) (r : Option Nat) : w.grownBy w r := ⟨rfl, rfl, rfl, Nat.le_refl _, fun _ _ _ => rfl⟩
theorem grown_below {a w w' : World} {r : Option Nat} (h : a.grownBy w r) (hb : Below w.heap.size w w') : a.grownBy w' r :=
  ⟨hb.os.trans h.os, hb.tape.trans h.tape, hb.output.trans h.output, Nat.le_trans h.size hb.size, fun k hk hne => (hb.block k (Nat.lt_of_lt_of_le hk h.size)).trans (h.block k hk hne)⟩
theorem grown_trans {a w w' : World} {r : Option Nat} (h : a.grownBy w r) (k : w.grownBy w' r) : a.grownBy w' r :=
  ⟨k.os.trans h.os, k.tape.trans h.tape, k.output.trans h.output, Nat.le_trans h.size k.size, fun i hi hne => (k.block i (Nat.lt_of_lt_of_le hi h.size) hne).trans (h.block i hi hne)⟩
theorem grown_set {a w : World} {g : Nat} (h : a.grownBy w (some g)) (i : Nat) (u : Value) : a.grownBy (w.setCell ⟨g, i, none⟩ u) (some g) :=
  ⟨h.os, h.tape, h.output, by simpa [World.setCell] using h.size, fun k hk hne => (Below.heap_setCell w ⟨g, i, none⟩ u k (fun e => hne (by rw [e]))).trans (h.block k hk hne)⟩
theorem grown_drew {a w : World} {r : Option Nat} (h : a.grownBy w r) : a.grownBy w.drew r := ⟨h.os, h.tape, h.output, h.size, h.block⟩
theorem grown_drewN {a w : World} {r : Option Nat} (h : a.grownBy w r) (n : Nat) : a.grownBy (w.drewN n) r := ⟨h.os, h.tape, h.output, h.size, h.block⟩

theorem swap_adj (A B : List Out) (x y : Out) : ((A ++ y :: x :: B).set (A.length + 1) y).set A.length x = A ++ x :: y :: B := by
  rw [List.set_append_right _ _ (by omega), List.set_append_right _ _ (by omega)]
  simp

def cmpFun (kb : Nat) : Value := .func (.func 170) #[] #[.pointer (some ⟨kb, 0, none⟩)]

set_option maxRecDepth 100000 in
set_option maxHeartbeats 4000000 in
theorem insSort_any (X M Y : List Out) (rest : List Value) (g kb ka n a b c : Nat) (w : World) (hr : RowO w g (X ++ (M ++ Y)) rest) (hk : Keys w kb ka) (hn : Hid (n = (X ++ (M ++ Y)).length)) (ha : Hid (a = X.length)) (hb : Hid (b = X.length + M.length)) (hlen : n ≤ 1000000000000000) :
    Calls Tryz.prog 178 #[.slice (some ⟨g, 0, none⟩) n c, .int .i64 a, .int .i64 b, .func (.func 170) #[] #[.pointer (some ⟨kb, 0, none⟩)]] w fun e w' =>
      e = .returned (.tuple #[]) ∧ RowO w' g (X ++ (isort M ++ Y)) rest ∧ w.grownBy w' (some g) := by
  have hne := hk.ne hr
  have hbn : a ≤ b ∧ b ≤ n := by have h1 := hn.out; have h2 := ha.out; have h3 := hb.out; simp at h1; omega
  have hbn1 := hbn.1
  have hbn2 := hbn.2
  clear hbn
  cases M with
  | nil =>
    have hab : b = a := by have h2 := ha.out; have h3 := hb.out; simp at h3; omega
    subst hab
    clear hbn1
    go_enter Tryz.func178, Tryz.ntmps178
    go_wp2_with fail
    refine wp_loop_rounds 1 ?_
    rw [rounds_succ]
    go_wp2_with fail
    go_end0
    exact ⟨rfl, hr, grown_refl _ _⟩
  | cons m M =>
  go_enter Tryz.func178, Tryz.ntmps178
  go_wp2_with fail
  go_loopw [8] (fun i wr => ∃ (k : Nat) (S R : List Out), i = .int .i64 k ∧ k ≤ n ∧ a < k ∧ Hid (k = a + S.length) ∧ Hid (Srt S) ∧ Hid ((S ++ R).Perm (m :: M)) ∧ Hid (b = a + (S ++ R).length) ∧ RowO wr g (X ++ (S ++ (R ++ Y))) rest ∧ w.grownBy wr (some g)) (fun i _ => n + 1 - (intOf i).toNat)
  case atStart =>
    have h1 := hn.out
    have h2 := ha.out
    have h3 := hb.out
    simp at h1 h3
    refine ⟨a + 1, [m], M, by go_num, by omega, by omega, rfl, List.pairwise_singleton _ _, List.Perm.refl _, ?_, by simpa using hr, grown_refl _ _⟩
    show _ = _
    simp; omega
  case round =>
    obtain ⟨k, S, R, rfl, hkn, hka, HK, HS, HP, HB, hrr, hgr⟩ := hrel
    cases R with
    | nil =>
      have hlt : ¬ k < b := by have h1 := HB.out; have h2 := HK.out; simp at h1; omega
      go_wp2_with fail
      go_end0
      refine ⟨rfl, ?_, hgr⟩
      have h1 := HP.out
      rw [List.append_nil] at h1
      rw [← isort_of HS.out h1]
      simpa using hrr
    | cons x R =>
      have hlt : k < b := by have h1 := HB.out; have h2 := HK.out; simp at h1; omega
      go_wp2_with fail
      obtain ⟨wo, rfl⟩ : ∃ wo : World, wo = wr := ⟨_, rfl⟩
      go_loopw [9] (fun i wr => ∃ (j : Nat) (P Q : List Out), i = .int .i64 j ∧ a ≤ j ∧ j ≤ k ∧ Hid (j = a + P.length) ∧ Hid (S = P ++ Q) ∧ Hid (∀ q ∈ Q, leO x q) ∧ RowO wr g (X ++ (P ++ x :: (Q ++ (R ++ Y)))) rest ∧ w.grownBy wr (some g)) (fun i _ => (intOf i).toNat)
      case atStart =>
        exact ⟨k, S, [], rfl, by omega, by omega, HK, by show _ = _; simp, by show ∀ q ∈ _, _; simp, by simpa using hrr, hgr⟩
      case round =>
        obtain ⟨j, P, Q, rfl, haj, hjk, HJ, HPQ, HQ, hrj, hgj⟩ := hrel
        have out : ∀ wx, RowO wx g (X ++ (P ++ x :: (Q ++ (R ++ Y)))) rest → w.grownBy wx (some g) → Srt (P ++ x :: Q) →
            ∃ (k2 : Nat) (S R : List Out), Value.int .i64 ((k : Int) + 1) = .int .i64 k2 ∧ k2 ≤ n ∧ a < k2 ∧ Hid (k2 = a + S.length) ∧ Hid (Srt S) ∧ Hid ((S ++ R).Perm (m :: M)) ∧ Hid (b = a + (S ++ R).length) ∧ RowO wx g (X ++ (S ++ (R ++ Y))) rest ∧ w.grownBy wx (some g) := by
          intro wx hx hg hsr
          have h1 := HPQ.out
          have h2 := HK.out
          have h3 := HB.out
          subst h1
          simp at h2 h3
          refine ⟨k + 1, P ++ x :: Q, R, by go_num, by omega, by omega, by show _ = _; simp; omega, hsr, ?_, by show _ = _; simp; omega, by simpa using hx, hg⟩
          show List.Perm _ _
          refine List.Perm.trans ?_ HP.out
          simp only [List.append_assoc, List.cons_append]
          exact List.Perm.append_left P (List.perm_middle.symm)
        have OUT := hide out
        clear out
        by_cases hj : a < j
        · have hp : P ≠ [] := by intro h; have := HJ.out; subst h; simp at this; omega
          obtain ⟨P', y, rfl⟩ : ∃ P' y, P = P' ++ [y] := ⟨P.dropLast, P.getLast hp, (List.dropLast_concat_getLast hp).symm⟩
          clear hp
          obtain ⟨i, rfl⟩ : ∃ i, j = i + 1 := ⟨j - 1, by omega⟩
          have hi : Hid (i = (X ++ P').length) := by have h1 := HJ.out; have h2 := ha.out; show _ = _; simp at h1 ⊢; omega
          have hrA : RowO wr g ((X ++ P') ++ y :: x :: (Q ++ (R ++ Y))) rest := by simpa using hrj
          have hyd : ((X ++ P') ++ y :: x :: (Q ++ (R ++ Y)))[i]? = some y := by rw [hi.out, List.getElem?_append_right (Nat.le_refl _)]; simp
          have hxd : ((X ++ P') ++ y :: x :: (Q ++ (R ++ Y)))[i + 1]? = some x := by rw [hi.out, List.getElem?_append_right (by omega)]; simp
          obtain ⟨yt, yl⟩ := y
          obtain ⟨xt, xl⟩ := x
          obtain ⟨cy0, cy1⟩ := hrA.cells hyd
          obtain ⟨cx0, cx1⟩ := hrA.cells hxd
          have hkw := hide ((hk.grown hne hgj).grown hne (grown_drew (grown_refl wr (some g))))
          clear hyd hxd hrj hrr
          have hgd : decide ((a : Int) < (i : Int) + 1) = true := by simp; omega
          have b1 : 0 ≤ (i : Int) + 1 := by omega
          have b2 : (i : Int) + 1 < (n : Int) := by omega
          have b3 : 0 ≤ (i : Int) := by omega
          have b4 : (i : Int) < (n : Int) := by omega
          have b5 : ((i : Int) + 1).toNat = i + 1 := by omega
          have b6 : IntKind.i64.wrap (i : Int) = (i : Int) := IntWalk.i64_in _ (by omega)
          by_cases hle : leO ⟨yt, yl⟩ ⟨xt, xl⟩
          · have hcm : 0 ≤ cmpO ⟨xt, xl⟩ ⟨yt, yl⟩ := by have := (cmpO_neg (a := ⟨xt, xl⟩) (b := ⟨yt, yl⟩)); simp only [hle, not_true, iff_false] at this; omega
            have HLE := hide hle
            clear hle
            go_wp2_with fail
            go_still_tail 14, (by kernel_rfl)
            change wpList _ _ _ _ _ wr.drew
            clear b1 b2 b3 b4 b5 b6
            go_wp2_with fail
            refine (cmpO_any xt xl yt yl kb ka wr.drew hkw).mono ?_
            rintro e w2 ⟨rfl, hb2⟩
            go_wp2_with fail
            go_roundw
            case rel =>
              refine OUT.out _ (by have h := RowO.below (w := wr.drew) hrA hb2; simpa using h) (grown_below (grown_drew hgj) hb2) ?_
              have h2 := HS.out
              rw [HPQ.out] at h2
              obtain ⟨h3, h4, h5⟩ := List.pairwise_append.1 h2
              refine List.pairwise_append.2 ⟨h3, List.pairwise_cons.2 ⟨HQ.out, h4⟩, fun p hp q hq => ?_⟩
              rcases List.mem_cons.1 hq with rfl | hq
              · rcases List.mem_append.1 hp with hp | hp
                · have := (List.pairwise_append.1 h3).2.2 p hp _ (List.mem_singleton.2 rfl)
                  exact leO_trans this HLE.out
                · rw [List.mem_singleton.1 hp]; exact HLE.out
              · exact h5 p hp q hq
            case measure => simp [intOf]; omega
          · have hcm : cmpO ⟨xt, xl⟩ ⟨yt, yl⟩ < 0 := cmpO_neg.2 hle
            have HLE := hide hle
            clear hle
            go_wp2_with fail
            go_still_tail 14, (by kernel_rfl)
            change wpList _ _ _ _ _ wr.drew
            clear b1 b2 b3 b4 b5 b6
            go_wp2_with fail
            refine (cmpO_any xt xl yt yl kb ka wr.drew hkw).mono ?_
            rintro e w2 ⟨rfl, hb2⟩
            have hr2 := RowO.below (w := wr.drew) hrA hb2
            have hg2 := grown_below (grown_drew hgj) hb2
            have cy0 := (hb2.cell (World.block_lt_of_cell? _ _ cy0)).trans cy0
            have cy1 := (hb2.cell (World.block_lt_of_cell? _ _ cy1)).trans cy1
            have cx0 := (hb2.cell (World.block_lt_of_cell? _ _ cx0)).trans cx0
            have cx1 := (hb2.cell (World.block_lt_of_cell? _ _ cx1)).trans cx1
            have f0 := hr2.free (i * 2)
            have f1 := hr2.free (i * 2 + 1)
            have f2 := hr2.free ((i + 1) * 2)
            have f3 := hr2.free ((i + 1) * 2 + 1)
            clear hb2
            go_wp2_with fail
            go_region
            have hr3 := RowO.put (RowO.put (w := w2) hr2 (i := i + 1) (by rw [hi.out]; simp <;> omega) yt yl) (i := i) (by rw [hi.out]; simp <;> omega) xt xl
            have hg3 := grown_set (grown_set (grown_set (grown_set hg2 ((i + 1) * 2) (.int .i64 yt)) ((i + 1) * 2 + 1) (.int .i64 yl)) (i * 2) (.int .i64 xt)) (i * 2 + 1) (.int .i64 xl)
            have hsw : (((X ++ P') ++ ⟨yt, yl⟩ :: ⟨xt, xl⟩ :: (Q ++ (R ++ Y))).set (i + 1) ⟨yt, yl⟩).set i ⟨xt, xl⟩ = (X ++ P') ++ ⟨xt, xl⟩ :: ⟨yt, yl⟩ :: (Q ++ (R ++ Y)) := by rw [hi.out]; exact swap_adj _ _ _ _
            rw [hsw] at hr3
            rw [show (X ++ P') ++ ⟨xt, xl⟩ :: ⟨yt, yl⟩ :: (Q ++ (R ++ Y)) = X ++ (P' ++ ⟨xt, xl⟩ :: ((⟨yt, yl⟩ :: Q) ++ (R ++ Y))) from by simp] at hr3
            have hr4 := hr3
            have hg4 := grown_drew hg3
            clear hsw hr2 hr3 hg3 hg2 f0 f1 f2 f3 cy0 cy1 cx0 cx1 hrA hkw
            go_wp2_with fail
            go_roundw
            case rel =>
              refine ⟨i, P', ⟨yt, yl⟩ :: Q, by go_num, by omega, by omega, ?_, ?_, ?_, hr4, hg4⟩
              · have h1 := HJ.out
                show _ = _
                simp at h1; omega
              · have h1 := HPQ.out
                show _ = _
                simpa using h1
              · intro q hq
                rcases List.mem_cons.1 hq with rfl | hq
                · exact (leO_total _ _).resolve_right HLE.out
                · exact HQ.out q hq
            case measure => simp [intOf]
        · have hd : decide ((a : Int) < (j : Int)) = false := by simp; omega
          go_wp2_with fail
          go_quiet (fail)
          go_wp2_with fail
          go_roundw
          case rel => 
            refine OUT.out _ hrj (grown_drewN hgj _) ?_
            have h1 := HJ.out
            have : P = [] := List.eq_nil_of_length_eq_zero (by omega)
            subst this
            have h2 := HS.out
            rw [HPQ.out] at h2
            exact List.pairwise_cons.2 ⟨HQ.out, h2⟩
          case measure => simp [intOf]; omega

end Go.Proofs.YtnigfddanoaonaaGreat

set_option linter.unusedVariables false
namespace Go.Proofs.YtnigfddanoaonaaGreat
open Go.RowKit

theorem outInfo : (Tryz.prog.info? 102).map (fun i => (i.zero, i.size, i.bytes)) = some (some (.agg #[.int .i64 0, .int .i64 0]), 2, 16) := by kernel_rfl

def ReadPost (w : World) (rs : List (List Rul)) (s : Int) (word : List Int) (e : Ending) (w' : World) : Prop :=
  ∃ v, e = .returned (.tuple #[.int .i64 (readSpec rs s word).1, v]) ∧ OwnS outR 2 w.heap.size 102 Non w' v (readSpec rs s word).2 ∧ Below w.heap.size w w'

set_option maxRecDepth 100000 in
set_option maxHeartbeats 1000000 in
theorem read_any (S L : Int) (rs : List (List Rul)) (oa : Option Addr) (c : Nat) (s0 : Int) (word : List Int) (ob : Option Addr) (d : Nat) (F G : Foot) (w : World) (hs : SliceR (slcR ruleR 2) 1 F w oa rs)
    (hw : SliceR intR 1 G w ob word) (hV : Hid (checkErr ⟨S, L, rs⟩ 12 = 0)) (hS : 0 ≤ s0 ∧ s0 < S) (hL : Hid (lettersErr L word = 0)) (hlen : word.length ≤ 1000000) :
    Calls Tryz.prog 136 #[.agg #[.int .i64 S, .int .i64 L, .slice oa rs.length c], .int .i64 s0, .slice ob word.length d] w (ReadPost w rs s0 word) := by
  obtain ⟨n0, rfl⟩ := Int.eq_ofNat_of_zero_le hS.1
  have hS2 : n0 < rs.length := by have := (check_zero hV.out).2.2.2.1; simp at this; omega
  clear hS
  have HL16 : Hid ((rs.length : Int) = S) := (check_zero hV.out).2.2.2.1
  go_enter Tryz.func136, Tryz.ntmps136
  go_wp2_with fail
  go_loopw [1, 8, 14] (fun sv v i wr => ∃ (n k : Nat) (out : List Out), n < rs.length ∧ k ≤ word.length ∧ sv = .int .i64 n ∧ i = .int .i64 k ∧ out.length ≤ 16 * k ∧
      Hid (readSpec rs n0 word = ((readSpec rs (n : Int) (word.drop k)).1, out ++ (readSpec rs (n : Int) (word.drop k)).2)) ∧
      OwnS outR 2 (w.heap.size + 1) 102 Non wr v out ∧
      Below (w.heap.size + 1) (w.alloc (.cells #[.int .i64 S, .int .i64 L, .slice oa rs.length c] 89)) wr) (fun _ _ i _ => word.length - (intOf i).toNat)
  case atStart => exact ⟨n0, 0, [], hS2, by omega, rfl, rfl, by simp, by show _ = _; simp, OwnS.nil _ _ _ _ _ _, box_refl _ _⟩
  case round =>
    obtain ⟨n, k, out, hn, hk, rfl, rfl, hol, HE, hown, hb⟩ := hrel
    have d2 := box_cell hb 2
    simp at d2
    have hsz : w.heap.size < wr.heap.size := box_lt hb
    by_cases hlt : k < word.length
    · obtain ⟨x, hd, hx, _, b1, off1, rfl, _, c1⟩ := (hw.below intR_ok (below_box hb)).int_at hlt
      obtain ⟨hx0, hxL⟩ := letters_at hL.out hx
      obtain ⟨a, rfl⟩ := Int.eq_ofNat_of_zero_le hx0
      obtain ⟨row, _, hrow, b2, off2, oa3, c3, rfl, _, c2, _, _, hsr⟩ := (hs.below rowR_ok (below_box hb)).slc_at hn
      have hrl := valid_row hV.out hrow
      have ha : a < row.length := by simp at hrl; omega
      obtain ⟨nx, sent, _, hru, _, b4, off4, oa5, c5, rfl, _, c40, c41, _, _, hss⟩ := hsr.rule_at ha
      have hvr := valid_rule hV.out hrow hru
      obtain ⟨m, rfl⟩ := Int.eq_ofNat_of_zero_le hvr.1.1
      have hmlt : m < rs.length := by have h1 := hvr.1.2; have h2 := HL16.out; simp at h1; omega
      have hs16 : sent.length ≤ 16 := hvr.2.1
      have HE2 := hide (read_step HE.out hd hrow hru)
      have hfin : (out ++ sent).length ≤ 16 * (k + 1) := by simp; omega
      clear hd hx hrow hru hrl hvr hw hs hsr hx0 hxL HE
      go_wp2_with (at_builtin; refine wpList_append_rep rfl (.tmp 26) (.tmp 28) 97 rfl (w.heap.size + 1) 102 _ 2 16 Tryz.underlying97 outInfo rfl (by decide) outR_ok Non F u8 out rfl (hown.new outR_ok _) oa5 c5 sent rfl (hss.below outR_ok (bnew (Below.refl _ _) _)) (fun _ _ h => h) (fun _ h => h.elim) (by omega) (by omega) (by simp; omega) ?_; intro v' w1 ho hb1 hg; have cv := hown.boxed hg 0; simp at cv)
      go_roundw
      case rel => exact ⟨m, k + 1, out ++ sent, hmlt, by omega, rfl, by go_num, hfin, HE2, ho, (box_new hb (by simp) _).trans hb1⟩
      case measure => simp [intOf]; omega
    · have HE3 := hide (read_end HE.out (by omega))
      clear HE
      go_wp2_with fail
      go_ret2
      exact ⟨u8, by rw [HE3.out]; rfl, by rw [HE3.out]; exact hown.rebase (by omega), below_box hb⟩

end Go.Proofs.YtnigfddanoaonaaGreat

set_option linter.unusedVariables false
namespace Go.Proofs.YtnigfddanoaonaaGreat
open Go.RowKit


set_option maxHeartbeats 400000 in
theorem cloneOut_any (l : List Out) (oa : Option Addr) (c : Nat) (F : Foot) (w : World) (hs : SliceR outR 2 F w oa l) (hc : l.length ≤ c) (hc2 : l.length ≤ 1000000000000) :
    Calls Tryz.prog 95 #[.slice oa l.length c] w fun e w' => ∃ v, e = .returned v ∧ OwnS outR 2 w.heap.size 102 Non w' v l ∧ Below w.heap.size w w' := by
  cases oa with
  | none =>
    have hl : l = [] := by
      cases l with
      | nil => rfl
      | cons x r => obtain ⟨b, off, cs, h, _⟩ := hs 0 x rfl; cases h
    subst hl
    have hq : ∀ w : World, (binOp .eql 97 (.slice none 0 c) (.slice none 0 0)).run Tryz.prog w = .ok (.bool true) w := fun w => Lib.run_eql_slice_nil w _ 102 none 0 c 0 0 Tryz.underlying97
    go_enter Tryz.func95, Tryz.ntmps95
    go_wp2_with fail
    go_ret
    exact ⟨_, rfl, OwnS.nil _ _ _ _ _ _, Below.refl _ _⟩
  | some ad =>
    have hq : ∀ w : World, (binOp .eql 97 (.slice (some ad) l.length c) (.slice none 0 0)).run Tryz.prog w = .ok (.bool false) w := fun w => Lib.run_eql_slice_nil w _ 102 (some ad) l.length c 0 0 Tryz.underlying97
    go_enter Tryz.func95, Tryz.ntmps95
    go_wp2_with (at_builtin; refine wpList_append_rep rfl (.tmp 5) (.tmp 6) 97 rfl w.heap.size 102 _ 2 16 Tryz.underlying97 outInfo rfl (by decide) outR_ok Non F (.slice (some ⟨w.heap.size, 0, none⟩) 0 0) [] rfl (OwnS.made _ _ _ _ _) (some ad) c l rfl (hs.below outR_ok (bnew (Below.refl _ _) _)) (fun _ _ h => h) (fun _ h => h.elim) (by simp; omega) (by simp; omega) (by simp) ?_; intro v' w1 ho hb1 hg)
    go_ret
    exact ⟨_, rfl, by simpa using ho, (bnew (Below.refl _ _) _).trans hb1⟩

end Go.Proofs.YtnigfddanoaonaaGreat

set_option linter.unusedVariables false
namespace Go.Proofs.YtnigfddanoaonaaGreat
open Go.RowKit

theorem flat_of_chunks : ∀ {l : List Out} {cells : List Value}, cells.length = l.length * 2 → (∀ i x, l[i]? = some x → chunk 2 i cells = [.int .i64 x.dst, .int .i64 x.letter]) → cells = flatO l
  | [], cells, h, _ => List.eq_nil_of_length_eq_zero (by simpa using h)
  | x :: r, [], h, _ => by simp at h
  | x :: r, [_], h, _ => by simp at h; omega
  | x :: r, a :: b :: cells, h, hc => by
    have h0 := hc 0 x rfl
    simp [chunk] at h0
    have hr := flat_of_chunks (l := r) (cells := cells) (by simp at h; omega) fun i y hy => by
      have := hc (i + 1) y (by simpa using hy)
      unfold chunk at this ⊢
      rw [show (i + 1) * 2 = i * 2 + 1 + 1 from by omega] at this
      simpa using this
    rw [h0.1, h0.2, hr]
    rfl
theorem chunks_of_flat {l : List Out} {i : Nat} {x : Out} (h : l[i]? = some x) : chunk 2 i (flatO l) = [.int .i64 x.dst, .int .i64 x.letter] := by
  induction l generalizing i with
  | nil => simp at h
  | cons y r ih =>
    match i, h with
    | 0, h => simp at h; subst h; simp [chunk, flatO]
    | i + 1, h =>
      have := ih (by simpa using h)
      unfold chunk at this ⊢
      rw [show (i + 1) * 2 = i * 2 + 1 + 1 from by omega]
      simpa [flatO] using this

/-- A list of outputs that the call owns, as a row that can be sorted; and back. -/
theorem OwnS.rowO {base : Nat} {w : World} {v : Value} {l : List Out} (h : OwnS outR 2 base 102 Non w v l) (hl : l ≠ []) :
    (∀ x ∈ l, I64 x.dst ∧ I64 x.letter) ∧ ∃ g cap rest, v = .slice (some ⟨g, 0, none⟩) l.length cap ∧ base ≤ g ∧ RowO w g l rest ∧
      ∀ w' l', l'.length = l.length → (∀ x ∈ l', I64 x.dst ∧ I64 x.letter) → RowO w' g l' rest → OwnS outR 2 base 102 Non w' v l' := by
  obtain ⟨cells, ho, h1, hc⟩ := h
  have hcl := ho.1
  have hfl : cells = flatO l := flat_of_chunks hcl fun i x hx => (hc i x hx).1
  subst hfl
  refine ⟨fun x hx => ?_, ?_⟩
  · obtain ⟨i, hi, rfl⟩ := List.getElem_of_mem hx
    exact (hc i _ (List.getElem?_eq_getElem hi)).2
  rcases ho.2 with ⟨_, hn⟩ | ⟨g, cap, cur, rfl, hg, hh, hle, hm, hcs, htake⟩
  · exact absurd (List.eq_nil_of_length_eq_zero hn) hl
  · have hcur : cur = (flatO l ++ cur.toList.drop (l.length * 2)).toArray := by
      apply Array.toList_inj.1
      rw [← htake]
      simp
    refine ⟨g, cap, cur.toList.drop (l.length * 2), rfl, hg, by unfold RowO; rw [hh]; exact congrArg (fun c => some (Obj.cells c 102 (0, 0))) hcur, ?_⟩
    intro w' l' hl' hI hr
    refine ⟨flatO l', ⟨by rw [flatO_len], .inr ⟨g, cap, _, by rw [hl'], hg, hr, by omega, hm, ?_, ?_⟩⟩, ?_, ?_⟩
    · have h2 : cur.toList.length = cap * 2 := hcs
      rw [List.size_toArray, List.length_append, flatO_len, List.length_drop, h2, hl']
      omega
    · rw [← flatO_len l']
      exact List.take_left
    · intro u hu
      simp only [flatO, List.mem_flatMap] at hu
      obtain ⟨o, _, hu⟩ := hu
      simp at hu
      rcases hu with rfl | rfl <;> rfl
    · intro i x hx
      exact ⟨chunks_of_flat hx, hI x (List.mem_of_getElem? hx)⟩

theorem insSort_int (X M Y : List Out) (rest : List Value) (g kb ka n c : Nat) (A B : Int) (w : World) (hr : RowO w g (X ++ (M ++ Y)) rest) (hk : Keys w kb ka) (hn : Hid (n = (X ++ (M ++ Y)).length)) (hA : Hid (A = X.length)) (hB : Hid (B = X.length + M.length)) (hlen : n ≤ 1000000000000000) :
    Calls Tryz.prog 178 #[.slice (some ⟨g, 0, none⟩) n c, .int .i64 A, .int .i64 B, .func (.func 170) #[] #[.pointer (some ⟨kb, 0, none⟩)]] w fun e w' =>
      e = .returned (.tuple #[]) ∧ RowO w' g (X ++ (isort M ++ Y)) rest ∧ w.grownBy w' (some g) := by
  have h1 := hA.out
  have h2 := hB.out
  subst h1 h2
  have := insSort_any X M Y rest g kb ka n X.length (X.length + M.length) c w hr hk hn rfl rfl hlen
  simpa using this

theorem insSort_zero (oa : Option Addr) (c kb : Nat) (w : World) :
    Calls Tryz.prog 178 #[.slice oa 0 c, .int .i64 0, .int .i64 0, .func (.func 170) #[] #[.pointer (some ⟨kb, 0, none⟩)]] w fun e w' =>
      e = .returned (.tuple #[]) ∧ w = w' := by
  go_enter Tryz.func178, Tryz.ntmps178
  go_wp2_with fail
  refine wp_loop_rounds 1 ?_
  rw [rounds_succ]
  go_wp2_with fail
  go_end0
  exact ⟨rfl, rfl⟩

def StableUpto (N : Nat) : Prop := ∀ (d : List Out) (rest : List Value) (g kb ka c : Nat) (w : World), RowO w g d rest → Keys w kb ka → d.length ≤ N →
  Calls Tryz.prog 177 #[.slice (some ⟨g, 0, none⟩) d.length c, .int .i64 d.length, .func (.func 170) #[] #[.pointer (some ⟨kb, 0, none⟩)]] w fun e w' =>
    e = .returned (.tuple #[]) ∧ RowO w' g (isort d) rest ∧ w.grownBy w' (some g)

set_option maxHeartbeats 400000 in
theorem stable_zero (oa : Option Addr) (c kb : Nat) (w : World) :
    Calls Tryz.prog 177 #[.slice oa 0 c, .int .i64 0, .func (.func 170) #[] #[.pointer (some ⟨kb, 0, none⟩)]] w fun e w' =>
      e = .returned (.tuple #[]) ∧ w = w' := by
  go_enter Tryz.func177, Tryz.ntmps177
  go_wp2_with fail
  refine wp_loop_rounds 1 ?_
  rw [rounds_succ]
  go_wp2_with fail
  refine (insSort_zero _ _ _ _).mono ?_
  rintro e w' ⟨rfl, rfl⟩
  go_wp2_with fail
  refine wp_loop_rounds 1 ?_
  rw [rounds_succ]
  go_wp2_with fail
  go_end0
  exact ⟨rfl, rfl⟩

theorem ssf_zero (oa : Option Addr) (c kb : Nat) (w : World) :
    Calls Tryz.prog 169 #[.slice oa 0 c, .func (.func 170) #[] #[.pointer (some ⟨kb, 0, none⟩)]] w fun e w' =>
      e = .returned (.tuple #[]) ∧ w = w' := by
  go_enter Tryz.func169, Tryz.ntmps169
  go_wp2_with fail
  refine (stable_zero _ _ _ _).mono ?_
  rintro e w' ⟨rfl, rfl⟩
  go_wp2_with fail
  go_end0
  exact ⟨rfl, rfl⟩
theorem ssf_of {N : Nat} (H : Hid (StableUpto N)) (d : List Out) (rest : List Value) (g kb ka c : Nat) (w : World) (hr : RowO w g d rest) (hk : Keys w kb ka) (hd : d.length ≤ N) :
    Calls Tryz.prog 169 #[.slice (some ⟨g, 0, none⟩) d.length c, .func (.func 170) #[] #[.pointer (some ⟨kb, 0, none⟩)]] w fun e w' =>
      e = .returned (.tuple #[]) ∧ RowO w' g (isort d) rest ∧ w.grownBy w' (some g) := by
  go_enter Tryz.func169, Tryz.ntmps169
  go_wp2_with fail
  refine (H.out d rest g kb ka c w hr hk hd).mono ?_
  rintro e w' ⟨rfl, h1, h2⟩
  go_wp2_with fail
  go_end0
  exact ⟨rfl, h1, h2⟩

def SortedUpto (N : Nat) : Prop := ∀ (l : List Out) (oa : Option Addr) (c : Nat) (F : Foot) (w : World), SliceR outR 2 F w oa l → l.length ≤ c → l.length ≤ N →
  Calls Tryz.prog 137 #[.slice oa l.length c] w fun e w' => ∃ v, e = .returned v ∧ OwnS outR 2 w.heap.size 102 Non w' v (isort l) ∧ Below w.heap.size w w'

set_option maxHeartbeats 1000000 in
theorem ordered_of {N : Nat} (H : StableUpto N) (hN : N ≤ 1000000000000) (l : List Out) (oa : Option Addr) (c ka : Nat) (F : Foot) (w : World) (hs : SliceR outR 2 F w oa l) (hc : l.length ≤ c) (hl : l.length ≤ N)
    (hka : w.heap[ka]? = some (.cells #[keyF 158, keyF 159] 214 (0, 0))) :
    Calls Tryz.prog 157 #[.slice oa l.length c, .slice (some ⟨ka, 0, none⟩) 2 2] w fun e w' => ∃ v, e = .returned v ∧ OwnS outR 2 w.heap.size 102 Non w' v (isort l) ∧ Below w.heap.size w w' := by
  have HH := hide H
  clear H
  have hkal : ka < w.heap.size := (Array.getElem?_eq_some_iff.1 hka).1
  have HK := hide hka
  clear hka
  go_enter Tryz.func157, Tryz.ntmps157
  go_wp2_with fail
  refine (cloneOut_any l oa c F _ (hs.below outR_ok (bnew (Below.refl _ _) _)) hc (by omega)).mono ?_
  rintro e w2 ⟨v, rfl, ho, hb2⟩
  have hx2 := hb2.mono (B' := w.heap.size + 1) (by simp)
  have hkeys : Keys w2 w.heap.size ka := by
    refine ⟨?_, ?_⟩
    · rw [hx2.block _ (by omega)]; exact heap_alloc_new w _
    · rw [hx2.block _ (by omega), Below.heap_alloc _ _ _ hkal]; exact HK.out
  have ho1 := ho.rebase (base' := w.heap.size) (by simp)
  clear ho hb2
  by_cases hnil : l = []
  · subst hnil
    obtain ⟨oa', c', rfl, _, _⟩ := ho1.slice outR_ok
    go_wp2_with fail
    refine (ssf_zero _ _ _ _).mono ?_
    rintro e w' ⟨rfl, rfl⟩
    go_wp2_with fail
    go_ret
    exact ⟨_, rfl, ho1, below_box hx2⟩
  · obtain ⟨hI, g, cap, rest, rfl, hg, hr, hback⟩ := ho1.rowO hnil
    have HBK := hide hback
    clear hback
    go_wp2_with fail
    refine (ssf_of HH l rest g _ ka cap _ hr hkeys hl).mono ?_
    rintro e w3 ⟨rfl, hr3, hg3⟩
    go_wp2_with fail
    go_ret
    refine ⟨_, rfl, HBK.out w3 (isort l) (isort_length l) (fun x hx => hI x ((isort_perm l).mem_iff.1 hx)) hr3, ?_⟩
    exact (below_box hx2).grown hg3 (below_box hx2).size (fun k hk => by injection hk with hk; omega)

theorem sorted_of {N : Nat} (H : StableUpto N) (hN : N ≤ 1000000000000) : SortedUpto N := by
  intro l oa c F w hs hc hl
  have HH := hide H
  clear H
  go_enter Tryz.func137, Tryz.ntmps137
  go_wp2_with fail
  have hka : (w.alloc (.cells #[keyF 158, keyF 159] 214)).heap[w.heap.size]? = some (.cells #[keyF 158, keyF 159] 214 (0, 0)) := heap_alloc_new w _
  refine (ordered_of HH.out hN l oa c w.heap.size F _ (hs.below outR_ok (bnew (Below.refl _ _) _)) hc hl hka).mono ?_
  rintro e w2 ⟨v, rfl, ho, hb2⟩
  go_wp2_with fail
  go_ret
  exact ⟨v, rfl, ho.rebase (by simp), below_then (bnew (Below.refl _ _) _) hb2⟩

end Go.Proofs.YtnigfddanoaonaaGreat

namespace Go.Proofs.YtnigfddanoaonaaGreat
open Go.RowKit

def pick (l : List Out) (t a : Nat) : List Out := l.filter fun o => decide (o.dst = t) && decide (o.letter = a)
def pickRow (l : List Out) (t : Nat) (A : Nat) : List Out := (List.range A).flatMap (pick l t)
def picks (l : List Out) (T : Nat) : List Out := (List.range T).flatMap fun t => pickRow l t 8

end Go.Proofs.YtnigfddanoaonaaGreat

set_option linter.unusedVariables false
namespace Go.Proofs.YtnigfddanoaonaaGreat
open Go.RowKit

end Go.Proofs.YtnigfddanoaonaaGreat

set_option linter.unusedVariables false
namespace Go.Proofs.YtnigfddanoaonaaGreat
open Go.RowKit

theorem neqGuard_out (op : BinOp) (a b : Operand) (x y : Array Value) (w : World) : (eqGuard op 102 a b (.agg x) (.agg y)).run Tryz.prog w = .ok () w :=
  run_eqGuard_agg w op 102 a b x y (by kernel_rfl)
theorem neq_out (a b c d : Int) (w : World) : (binOp .neq 102 (.agg #[.int .i64 a, .int .i64 b]) (.agg #[.int .i64 c, .int .i64 d])).run Tryz.prog w = .ok (.bool (!(a == c && b == d))) w := by
  have u3 := Tryz.underlying3
  have a3 := Tryz.isAgg3
  have z3 := Tryz.sizeOf3
  have hS : Tryz.prog.underlying 102 = some (.struct (Tryz.prog.fieldsOf 102)) := by kernel_rfl
  have hp : Tryz.prog.stoodInHeld 102 = false := by kernel_rfl
  rw [run_neq_struct, show (10000 : Nat) = 9999 + 1 from rfl, run_equalIn_agg w 9999 102 _ _ hS hp]
  simp only [Program.fieldsOf, Tryz.underlying102]
  go_simp
  by_cases h1 : a = c <;> by_cases h2 : b = d <;> simp [h1, h2]

end Go.Proofs.YtnigfddanoaonaaGreat

set_option linter.unusedVariables false
set_option linter.unusedSimpArgs false
set_option linter.unnecessarySimpa false
namespace Go.Proofs.YtnigfddanoaonaaGreat
open Go.RowKit

set_option maxHeartbeats 400000 in
theorem equalInt_any (l m : List Int) (oa ob : Option Addr) (c d : Nat) (F : Foot) (w : World) (hs : SliceR intR 1 F w oa l) (ht : SliceR intR 1 F w ob m) (hc : l.length ≤ c) (hc2 : l.length ≤ 9223372036854775807) :
    Calls Tryz.prog 32 #[.slice oa l.length c, .slice ob m.length d] w fun e w' => e = .returned (.bool (decide (l = m))) ∧ Below w.heap.size w w' := by
  by_cases hlen : l.length = m.length
  case neg =>
    have hl' : ((l.length : Int) != m.length) = true := by simp; omega
    have HL : Hid (decide (l = m) = false) := decide_eq_false fun h => hlen (by rw [h])
    clear hlen
    go_enter Tryz.func32, Tryz.ntmps32
    go_wp2_with fail
    go_ret; exact ⟨ret_bool HL.out.symm, Below.refl _ _⟩
  have hl' : ((l.length : Int) != m.length) = false := by simp [hlen]
  have HL := hide hlen
  clear hlen
  go_enter Tryz.func32, Tryz.ntmps32
  go_wp2_with fail
  go_loopw [13] (fun i wr => ∃ k : Nat, k ≤ l.length ∧ i = .int .i64 k ∧ Hid (l = m ↔ l.drop k = m.drop k) ∧ Below w.heap.size w wr) (fun i _ => l.length - (intOf i).toNat)
  case atStart => exact ⟨0, by omega, rfl, Iff.rfl, Below.refl _ _⟩
  case round =>
    obtain ⟨k, hk, rfl, HE, hb⟩ := hrel
    by_cases hlt : k < l.length
    · obtain ⟨x, hd, _, _, b, off, rfl, _, c0⟩ := (hs.below intR_ok hb).int_at hlt
      have hlt2 : k < m.length := by rw [← HL.out]; exact hlt
      obtain ⟨x', hd', _, _, b', off', rfl, _, c0'⟩ := (ht.below intR_ok hb).int_at hlt2
      have HD := hide hd
      have HD' := hide hd'
      clear hd hd' hs ht
      by_cases hx : x = x'
      · obtain rfl := hx
        go_wp2_with fail
        go_quiet (fail)
        go_wp2_with fail
        go_roundw
        case rel =>
          refine ⟨k + 1, by omega, by go_num, ?_, below_drewN hb _⟩
          show _ ↔ _
          rw [HE.out, HD.out, HD'.out]; simp
        case measure => simp [intOf]; omega
      · have hne : (x != x') = true := by simp [hx]
        have HX := hide hx
        clear hx
        go_wp2_with fail
        go_quiet (fail)
        go_wp2_with fail
        go_ret
        refine ⟨ret_bool ?_, below_drewN hb _⟩
        symm
        refine decide_eq_false fun h => HX.out ?_
        have h2 := HE.out.1 h
        rw [HD.out, HD'.out] at h2
        simp at h2
        exact h2.1
    · go_wp2_with fail
      go_ret
      refine ⟨ret_bool ?_, hb⟩
      symm
      refine decide_eq_true (HE.out.2 ?_)
      rw [List.drop_eq_nil_of_le (by omega), List.drop_eq_nil_of_le (by have := HL.out; omega)]

end Go.Proofs.YtnigfddanoaonaaGreat

set_option linter.unusedVariables false
namespace Go.Proofs.YtnigfddanoaonaaGreat
open Go.RowKit

set_option maxHeartbeats 400000 in
theorem equalOut_any (l m : List Out) (oa ob : Option Addr) (c d : Nat) (F : Foot) (w : World) (hs : SliceR outR 2 F w oa l) (ht : SliceR outR 2 F w ob m) (hc : l.length ≤ c) (hc2 : l.length ≤ 9223372036854775807) :
    Calls Tryz.prog 60 #[.slice oa l.length c, .slice ob m.length d] w fun e w' => e = .returned (.bool (decide (l = m))) ∧ Below w.heap.size w w' := by
  by_cases hlen : l.length = m.length
  case neg =>
    have hl' : ((l.length : Int) != m.length) = true := by simp; omega
    have HL : Hid (decide (l = m) = false) := decide_eq_false fun h => hlen (by rw [h])
    clear hlen
    go_enter Tryz.func60, Tryz.ntmps60
    go_wp2_with fail
    go_ret; exact ⟨ret_bool HL.out.symm, Below.refl _ _⟩
  have hl' : ((l.length : Int) != m.length) = false := by simp [hlen]
  have HL := hide hlen
  clear hlen
  go_enter Tryz.func60, Tryz.ntmps60
  go_wp2_with fail
  go_loopw [13] (fun i wr => ∃ k : Nat, k ≤ l.length ∧ i = .int .i64 k ∧ Hid (l = m ↔ l.drop k = m.drop k) ∧ Below w.heap.size w wr) (fun i _ => l.length - (intOf i).toNat)
  case atStart => exact ⟨0, by omega, rfl, Iff.rfl, Below.refl _ _⟩
  case round =>
    obtain ⟨k, hk, rfl, HE, hb⟩ := hrel
    by_cases hlt : k < l.length
    · obtain ⟨x, y, hd, _, _, _, b, off, rfl, _, c0, c1⟩ := (hs.below outR_ok hb).out_at hlt
      have hlt2 : k < m.length := by rw [← HL.out]; exact hlt
      obtain ⟨x', y', hd', _, _, _, b', off', rfl, _, c0', c1'⟩ := (ht.below outR_ok hb).out_at hlt2
      have HD := hide hd
      have HD' := hide hd'
      clear hd hd' hs ht
      have q1 := neqGuard_out
      have q2 := neq_out
      by_cases hx : x = x' ∧ y = y'
      · obtain ⟨rfl, rfl⟩ := hx
        go_wp2_with fail
        go_quiet (fail)
        go_wp2_with fail
        go_roundw
        case rel =>
          refine ⟨k + 1, by omega, by go_num, ?_, below_drewN hb _⟩
          show _ ↔ _
          rw [HE.out, HD.out, HD'.out]; simp
        case measure => simp [intOf]; omega
      · have hne : (!x == x' || !y == y') = true := by
          by_cases h1 : x = x' <;> by_cases h2 : y = y' <;> simp_all
        have HX := hide hx
        clear hx
        go_wp2_with fail
        go_quiet (fail)
        go_wp2_with fail
        go_ret
        refine ⟨ret_bool ?_, below_drewN hb _⟩
        symm
        refine decide_eq_false fun h => HX.out ?_
        have h2 := HE.out.1 h
        rw [HD.out, HD'.out] at h2
        simp at h2
        exact h2.1
    · go_wp2_with fail
      go_ret
      refine ⟨ret_bool ?_, hb⟩
      symm
      refine decide_eq_true (HE.out.2 ?_)
      rw [List.drop_eq_nil_of_le (by omega), List.drop_eq_nil_of_le (by have := HL.out; omega)]


end Go.Proofs.YtnigfddanoaonaaGreat

set_option linter.unusedVariables false
namespace Go.Proofs.YtnigfddanoaonaaGreat
open Go.RowKit

theorem flatten_get {sz : Nat} : ∀ {css : List (List Value)}, (∀ cs ∈ css, cs.length = sz) → ∀ {i : Nat} {cs : List Value}, css[i]? = some cs → ∀ {j : Nat} {u : Value}, cs[j]? = some u → css.flatten[i * sz + j]? = some u
  | [], _, i, cs, h, _, _, _ => by simp at h
  | c :: r, hl, 0, cs, h, j, u, hj => by
    simp at h
    subst h
    have h1 : j < c.length := (List.getElem?_eq_some_iff.1 hj).1
    rw [List.flatten_cons, Nat.zero_mul, Nat.zero_add, List.getElem?_append_left h1]
    exact hj
  | c :: r, hl, i + 1, cs, h, j, u, hj => by
    have h1 := hl c (by simp)
    have h2 := flatten_get (css := r) (fun x hx => hl x (by simp [hx])) (i := i) (cs := cs) (by simpa using h) hj
    rw [List.flatten_cons, List.getElem?_append_right (by rw [h1, Nat.succ_mul]; omega), h1]
    rw [show (i + 1) * sz + j - sz = i * sz + j from by rw [Nat.succ_mul]; omega]
    exact h2

theorem SliceR.lit {α : Type} {R : Rep α} {sz : Nat} {F G : Foot} (ok : RepOk R sz) (w : World) (e : TypeId) (css : List (List Value)) (xs : List α)
    (h : ∀ (i : Nat) (x : α), xs[i]? = some x → ∃ cs, css[i]? = some cs ∧ R F w cs x) (hl : css.length = xs.length) (hFG : ∀ k, F k → G k) (hG : G w.heap.size) :
    SliceR R sz G (w.alloc (.cells css.flatten.toArray e)) (some ⟨w.heap.size, 0, none⟩) xs := by
  have hlen : ∀ cs ∈ css, cs.length = sz := by
    intro cs hcs
    obtain ⟨i, hi, rfl⟩ := List.getElem_of_mem hcs
    obtain ⟨cs, hc, hR⟩ := h i _ (List.getElem?_eq_getElem (by omega))
    rw [List.getElem?_eq_getElem hi] at hc
    injection hc with hc
    rw [hc]
    exact ok.len hR
  intro i x hx
  obtain ⟨cs, hcs, hR⟩ := h i x hx
  refine ⟨w.heap.size, 0, cs, rfl, hG, ok.keep (ok.wide hR fun k hk _ => hFG k hk) (SameOn.of_below (bnew (Below.refl _ _) _)), fun j u hu => ?_⟩
  rw [cell_of_row (w.alloc (.cells css.flatten.toArray e)) w.heap.size _ _ e (0, 0) (heap_alloc_new w _)]
  have := flatten_get hlen hcs hu
  rw [show 0 + i * sz + j = i * sz + j from by omega]
  simpa using this

theorem ints_lit {F G : Foot} (w : World) (e : TypeId) (xs : List Int) (h : ∀ x ∈ xs, I64 x) (hG : G w.heap.size) : SliceR intR 1 G (w.alloc (.cells (xs.map (Value.int .i64)).toArray e)) (some ⟨w.heap.size, 0, none⟩) xs := by
  have h1 : xs.map (Value.int .i64) = (xs.map fun x => [Value.int .i64 x]).flatten := by
    induction xs with
    | nil => rfl
    | cons x r ih => simp [ih fun y hy => h y (by simp [hy])]
  rw [h1]
  refine SliceR.lit (F := fun _ => False) intR_ok w e _ xs (fun i x hx => ⟨[.int .i64 x], by simp [hx], rfl, h x (List.mem_of_getElem? hx)⟩) (by simp) (fun _ h => h.elim) hG

/-- The list of ints that a literal lays, as the call's own. -/
theorem OwnS.ints (w : World) (e : TypeId) (xs : List Int) (h : ∀ x ∈ xs, I64 x) (hl : xs.length ≤ 1000000000000) :
    OwnS intR 1 w.heap.size e Non (w.alloc (.cells (xs.map (Value.int .i64)).toArray e)) (.slice (some ⟨w.heap.size, 0, none⟩) xs.length xs.length) xs := by
  have h1 := World.ownsRow_lit (base := w.heap.size) (e := e) (size := 1) w (xs.map (Value.int .i64)).toArray xs.length (Nat.le_refl _) (by unfold maxLen; omega) (by simp)
  refine ⟨xs.map (Value.int .i64), by simpa using h1, ?_, ?_⟩
  · intro u hu
    obtain ⟨x, _, rfl⟩ := List.mem_map.1 hu
    rfl
  · intro i x hx
    refine ⟨?_, h x (List.mem_of_getElem? hx)⟩
    apply List.ext_getElem?
    intro j
    unfold chunk
    rw [List.getElem?_take]
    split
    · have : j = 0 := by omega
      subst this
      simp [hx]
    · rw [List.getElem?_eq_none (by simp; omega)]

end Go.Proofs.YtnigfddanoaonaaGreat

set_option linter.unusedVariables false
namespace Go.Proofs.YtnigfddanoaonaaGreat
open Go.RowKit

end Go.Proofs.YtnigfddanoaonaaGreat

set_option linter.unusedVariables false
namespace Go.Proofs.YtnigfddanoaonaaGreat
open Go.RowKit

end Go.Proofs.YtnigfddanoaonaaGreat

set_option linter.unusedVariables false
namespace Go.Proofs.YtnigfddanoaonaaGreat
open Go.RowKit

def rlettersErr (L : Int) (l : List Int) : Int := if 256 < l.length then 5 else lettersErr L l

end Go.Proofs.YtnigfddanoaonaaGreat

set_option linter.unusedVariables false
namespace Go.Proofs.YtnigfddanoaonaaGreat
open Go.RowKit

def runRes (p : Prc) (s : Int) (word : List Int) : Int × List Out × Int :=
  if stateErr p s = 0 then (if rlettersErr p.letters word = 0 then ((readSpec p.rules s word).1, (readSpec p.rules s word).2, 0) else (0, [], rlettersErr p.letters word)) else (0, [], stateErr p s)
def stepRes (p : Prc) (s a : Int) : Int × List Out × Int :=
  if stateErr p s = 0 then (if belowB a p.letters then ((readSpec p.rules s [a]).1, (readSpec p.rules s [a]).2, 0) else (0, [], 2)) else (0, [], stateErr p s)

def OutsPost (w : World) (r : Int × List Out × Int) (e : Ending) (w' : World) : Prop :=
  ∃ v, e = .returned (.tuple #[.int .i64 r.1, v, .int .i64 r.2.2]) ∧ OwnS outR 2 w.heap.size 102 Non w' v r.2.1 ∧ Below w.heap.size w w'

end Go.Proofs.YtnigfddanoaonaaGreat

set_option linter.unusedVariables false
namespace Go.Proofs.YtnigfddanoaonaaGreat
open Go.RowKit

end Go.Proofs.YtnigfddanoaonaaGreat

set_option linter.unusedVariables false
namespace Go.Proofs.YtnigfddanoaonaaGreat
open Go.RowKit

def commB (rs : List (List Rul)) (s a b : Int) : Bool :=
  decide ((readSpec rs s [a, b]).1 = (readSpec rs s [b, a]).1) && decide (isort (readSpec rs s [a, b]).2 = isort (readSpec rs s [b, a]).2)

theorem letters_two {L a b : Int} (ha : belowB a L = true) (hb : belowB b L = true) : lettersErr L [a, b] = 0 := by simp [lettersErr, ha, hb]

theorem ruleAt_mem {p : Prc} {N : Int} (h : checkErr p N = 0) {s a : Int} (hs : 0 ≤ s ∧ s < p.states) (ha : 0 ≤ a ∧ a < p.letters) :
    (0 ≤ (ruleAt p.rules s a).next ∧ (ruleAt p.rules s a).next < p.states) ∧ (ruleAt p.rules s a).sent.length ≤ 16 ∧ ∀ o ∈ (ruleAt p.rules s a).sent, (0 ≤ o.dst ∧ o.dst < N) ∧ 0 ≤ o.letter ∧ o.letter < 8 := by
  obtain ⟨n, rfl⟩ := Int.eq_ofNat_of_zero_le hs.1
  obtain ⟨m, rfl⟩ := Int.eq_ofNat_of_zero_le ha.1
  have h1 := (check_zero h).2.2.2.1
  have hn : n < p.rules.length := by omega
  have hrow := List.getElem?_eq_getElem hn
  have hl := valid_row h hrow
  have hm : m < (p.rules[n]).length := by omega
  have hr := List.getElem?_eq_getElem hm
  rw [ruleAt_eq hrow hr]
  exact valid_rule h hrow hr
theorem readSpec_right {p : Prc} {N : Int} (h : checkErr p N = 0) : ∀ (word : List Int) (s : Int), 0 ≤ s ∧ s < p.states → lettersErr p.letters word = 0 →
    (0 ≤ (readSpec p.rules s word).1 ∧ (readSpec p.rules s word).1 < p.states) ∧ (readSpec p.rules s word).2.length ≤ 16 * word.length ∧ ∀ o ∈ (readSpec p.rules s word).2, (0 ≤ o.dst ∧ o.dst < N) ∧ 0 ≤ o.letter ∧ o.letter < 8
  | [], s, hs, _ => ⟨hs, by simp [readSpec], by simp [readSpec]⟩
  | a :: r, s, hs, hw => by
    have ha := letters_zero hw a (by simp)
    have hr : lettersErr p.letters r = 0 := by
      unfold lettersErr at hw
      split at hw
      · exact hw
      · cases hw
    obtain ⟨h1, h2, h3⟩ := ruleAt_mem h hs ha
    obtain ⟨h4, h5, h6⟩ := readSpec_right h r _ h1 hr
    refine ⟨h4, ?_, ?_⟩
    · simp only [readSpec, List.length_append, List.length_cons]; omega
    · intro o ho
      simp only [readSpec, List.mem_append] at ho
      rcases ho with ho | ho
      · exact h3 o ho
      · exact h6 o ho

set_option maxRecDepth 100000 in
set_option maxHeartbeats 1000000 in
theorem commute_any {N : Nat} (HS : Hid (SortedUpto N)) (S L s a b : Int) (rs : List (List Rul)) (oa : Option Addr) (c : Nat) (F : Foot) (w : World) (hs : SliceR (slcR ruleR 2) 1 F w oa rs)
    (hV : Hid (checkErr ⟨S, L, rs⟩ 12 = 0)) (hS : 0 ≤ s ∧ s < S) (hA : belowB a L = true) (hB : belowB b L = true) (ia : I64 a) (ib : I64 b) (HN : Hid ((readSpec rs s [a, b]).2.length ≤ N ∧ (readSpec rs s [b, a]).2.length ≤ N)) :
    Calls Tryz.prog 110 #[.agg #[.int .i64 S, .int .i64 L, .slice oa rs.length c], .int .i64 s, .int .i64 a, .int .i64 b] w fun e w' => e = .returned (.bool (commB rs s a b)) ∧ Below w.heap.size w w' := by
  have HL1 := hide (letters_two hA hB)
  have HL2 := hide (letters_two hB hA)
  have HR1 := hide (readSpec_right hV.out [a, b] s hS HL1.out)
  have HR2 := hide (readSpec_right hV.out [b, a] s hS HL2.out)
  have HC : Hid (commB rs s a b = (decide ((readSpec rs s [a, b]).1 = (readSpec rs s [b, a]).1) && decide (isort (readSpec rs s [a, b]).2 = isort (readSpec rs s [b, a]).2))) := rfl
  have HSS := hide hS
  have IA := hide ia
  have IB := hide ib
  clear hS hA hB ia ib
  go_enter Tryz.func110, Tryz.ntmps110
  go_wp2_with fail
  have hb0 := box_refl w (.cells #[.int .i64 S, .int .i64 L, .slice oa rs.length c] 89)
  have hb1 := bnew (below_box hb0) (.cells #[.int .i64 a, .int .i64 b] 3)
  refine (read_any S L rs oa c s [a, b] (some ⟨w.heap.size + 1, 0, none⟩) 2 F All _ (hs.below rowR_ok hb1) ?hw hV HSS.out HL1 (by simp)).mono ?_
  case hw =>
    have := ints_lit (F := All) (G := All) (w.alloc (.cells #[.int .i64 S, .int .i64 L, .slice oa rs.length c] 89)) 3 [a, b] (by intro x hx; simp at hx; rcases hx with rfl | rfl; exact IA.out; exact IB.out) trivial
    simpa using this
  rintro e w2 ⟨v, rfl, ho, hb2⟩
  have hx2 := box_then (box_new hb0 (by simp) (.cells #[.int .i64 a, .int .i64 b] 3)) (by simp) hb2
  have d0 := box_cell hx2 0
  have d1 := box_cell hx2 1
  have d2 := box_cell hx2 2
  simp at d0 d1 d2
  obtain ⟨oa1, c1, rfl, hc1, hsl1⟩ := ho.slice outR_ok
  clear hb0 hb1 hb2 ho
  generalize readSpec rs s [a, b] = r1 at *
  obtain ⟨t1, l1⟩ := r1
  go_wp2_with fail
  have hxl := below_box hx2
  refine (read_any S L rs oa c s [b, a] (some ⟨w2.heap.size, 0, none⟩) 2 F All _ (hs.below rowR_ok (bnew hxl _)) ?hw2 hV HSS.out HL2 (by simp)).mono ?_
  case hw2 =>
    have := ints_lit (F := All) (G := All) w2 3 [b, a] (by intro x hx; simp at hx; rcases hx with rfl | rfl; exact IB.out; exact IA.out) trivial
    simpa using this
  rintro e w3 ⟨v, rfl, ho, hb3⟩
  have hsl2 := (hsl1.below outR_ok (bnew (Below.refl _ _) _)).below outR_ok hb3
  have hx3 := below_then (bnew hxl _) hb3
  obtain ⟨oa2, c2, rfl, hc2, hsl3⟩ := ho.slice outR_ok
  clear hsl1 hb3 ho hxl hx2 d0 d1 d2
  generalize readSpec rs s [b, a] = r2 at *
  obtain ⟨t2, l2⟩ := r2
  have hN1 : l1.length ≤ 32 := by have := HR1.out.2.1; simpa using this
  have hN2 : l2.length ≤ 32 := by have := HR2.out.2.1; simpa using this
  by_cases ht : t1 = t2
  case neg =>
    have HC2 : Hid (commB rs s a b = false) := by show _ = _; rw [HC.out]; simp [ht]
    have hq : (t1 == t2) = false := by simp [ht]
    clear ht
    go_wp2_with fail
    go_ret
    exact ⟨ret_bool HC2.out.symm, hx3⟩
  subst ht
  have HC2 : Hid (commB rs s a b = decide (isort l1 = isort l2)) := by show _ = _; rw [HC.out]; simp
  go_wp2_with fail
  refine (HS.out l1 oa1 c1 _ _ hsl2 hc1 HN.out.1).mono ?_
  rintro e w4 ⟨v4, rfl, ho4, hb4⟩
  obtain ⟨oa4, c4, rfl, hc4, hsl4⟩ := ho4.slice outR_ok
  have hsl5 := hsl3.below outR_ok hb4
  have hx4 := below_then hx3 hb4
  clear ho4 hsl2 hsl3 hb4 hx3
  go_wp2_with fail
  refine (HS.out l2 oa2 c2 _ _ hsl5 hc2 HN.out.2).mono ?_
  rintro e w5 ⟨v5, rfl, ho5, hb5⟩
  obtain ⟨oa5, c5, rfl, hc5, hsl6⟩ := ho5.slice outR_ok
  have hsl7 := hsl4.below outR_ok hb5
  have hx5 := below_then hx4 hb5
  clear ho5 hsl4 hsl5 hb5 hx4
  go_wp2_with fail
  refine (equalOut_any (isort l1) (isort l2) oa4 oa5 c4 c5 (fun _ => True) _ (hsl7.all outR_ok (by omega)) (hsl6.all outR_ok (by omega)) hc4 (by rw [isort_length]; omega)).mono ?_
  rintro e w6 ⟨rfl, hb6⟩
  have hx6 := below_then hx5 hb6
  go_wp2_with fail
  go_ret
  exact ⟨ret_bool HC2.out.symm, hx6⟩

end Go.Proofs.YtnigfddanoaonaaGreat

set_option linter.unusedVariables false
namespace Go.Proofs.YtnigfddanoaonaaGreat
open Go.RowKit

/-- The first state and letters that do not commute. -/
def witB (f : Nat → Nat → Nat → Bool) (s a : Nat) : Nat → Nat → Option (Nat × Nat × Nat)
  | 0, _ => none
  | n + 1, b => if f s a b then witB f s a n (b + 1) else some (s, a, b)
def witA (f : Nat → Nat → Nat → Bool) (s L : Nat) : Nat → Nat → Option (Nat × Nat × Nat)
  | 0, _ => none
  | n + 1, a => (witB f s a L 0).or (witA f s L n (a + 1))
def witS (f : Nat → Nat → Nat → Bool) (L : Nat) : Nat → Nat → Option (Nat × Nat × Nat)
  | 0, _ => none
  | n + 1, s => (witA f s L L 0).or (witS f L n (s + 1))
def witL : Option (Nat × Nat × Nat) → List Int
  | none => []
  | some (s, a, b) => [(s : Int), (a : Int), (b : Int)]
theorem witB_good (f : Nat → Nat → Nat → Bool) (s a : Nat) {L b : Nat} (h : b < L) (hf : f s a b = true) : witB f s a (L - b) b = witB f s a (L - (b + 1)) (b + 1) := by
  rw [show L - b = (L - (b + 1)) + 1 from by omega, witB, if_pos hf]
theorem witB_bad (f : Nat → Nat → Nat → Bool) (s a : Nat) {L b : Nat} (h : b < L) (hf : f s a b = false) : witB f s a (L - b) b = some (s, a, b) := by
  rw [show L - b = (L - (b + 1)) + 1 from by omega, witB, if_neg (by simp [hf])]
theorem witA_step (f : Nat → Nat → Nat → Bool) (s : Nat) {L a : Nat} (h : a < L) : witA f s L (L - a) a = (witB f s a L 0).or (witA f s L (L - (a + 1)) (a + 1)) := by
  rw [show L - a = (L - (a + 1)) + 1 from by omega, witA]
theorem witS_step (f : Nat → Nat → Nat → Bool) (L : Nat) {S s : Nat} (h : s < S) : witS f L (S - s) s = (witA f s L (L - 0) 0).or (witS f L (S - (s + 1)) (s + 1)) := by
  rw [show S - s = (S - (s + 1)) + 1 from by omega, witS]
  rfl
def commN (rs : List (List Rul)) (s a b : Nat) : Bool := commB rs s a b
def abelRes (p : Prc) : Bool × List Int × Int :=
  if checkErr p 12 = 0 then ((witS (commN p.rules) p.letters.toNat p.states.toNat 0).isNone, witL (witS (commN p.rules) p.letters.toNat p.states.toNat 0), 0) else (false, [], checkErr p 12)
def AbelPost (w : World) (r : Bool × List Int × Int) (e : Ending) (w' : World) : Prop :=
  ∃ v, e = .returned (.tuple #[.bool r.1, v, .int .i64 r.2.2]) ∧ OwnS intR 1 w.heap.size 3 Non w' v r.2.1 ∧ Below w.heap.size w w'
def IntsPost (w : World) (r : List Int) (e : Ending) (w' : World) : Prop :=
  ∃ v, e = .returned v ∧ OwnS intR 1 w.heap.size 3 Non w' v r ∧ Below w.heap.size w w'
theorem belowN {k n : Nat} (h : k < n) : belowB (k : Int) (n : Int) = true := by simp [belowB]; omega
theorem i64_small {x : Int} (h : 0 ≤ x ∧ x ≤ 1000) : I64 x := by unfold I64; omega

set_option maxRecDepth 100000 in
set_option maxHeartbeats 1000000 in
theorem abelian_any {N : Nat} (HS : Hid (SortedUpto N)) (S L : Int) (rs : List (List Rul)) (oa : Option Addr) (c : Nat) (F : Foot) (w : World) (hs : SliceR (slcR ruleR 2) 1 F w oa rs) (hc : rs.length ≤ c) (hc2 : rs.length ≤ 9223372036854775807)
    (HN : Hid (checkErr ⟨S, L, rs⟩ 12 = 0 → ∀ s a b : Int, 0 ≤ s ∧ s < S → 0 ≤ a ∧ a < L → 0 ≤ b ∧ b < L → (readSpec rs s [a, b]).2.length ≤ N)) :
    Calls Tryz.prog 77 #[.agg #[.int .i64 S, .int .i64 L, .slice oa rs.length c]] w (AbelPost w (abelRes ⟨S, L, rs⟩)) := by
  go_enter Tryz.func77, Tryz.ntmps77
  go_wp2_with fail
  refine (check_any S L 12 rs oa c F _ (hs.below rowR_ok (bnew (Below.refl _ _) _)) hc hc2).mono ?_
  rintro e w2 ⟨rfl, hb2⟩
  have hx2 := hb2.mono (B' := w.heap.size + 1) (by simp)
  have d0 := box_cell hx2 0
  have d1 := box_cell hx2 1
  have d2 := box_cell hx2 2
  simp at d0 d1 d2
  clear hb2
  by_cases hz : checkErr ⟨S, L, rs⟩ 12 = 0
  case neg =>
    have hz1 := not_err hz
    have HZ : Hid (abelRes ⟨S, L, rs⟩ = (false, [], checkErr ⟨S, L, rs⟩ 12)) := by show _ = _; simp [abelRes, hz]
    clear hz
    go_wp2_with fail
    go_ret3
    exact ⟨_, by rw [HZ.out]; rfl, by rw [HZ.out]; exact OwnS.nil _ _ _ _ _ _, below_box hx2⟩
  have hz1 := is_err hz
  have HV := hide hz
  have hck := check_zero hz
  simp only at hck
  obtain ⟨S', rfl⟩ := Int.eq_ofNat_of_zero_le (show 0 ≤ S by omega)
  obtain ⟨L', rfl⟩ := Int.eq_ofNat_of_zero_le (show 0 ≤ L by omega)
  have hS16 : S' ≤ 16 := by omega
  have hL8 : L' ≤ 8 := by omega
  have HW : Hid (abelRes ⟨S', L', rs⟩ = ((witS (commN rs) L' S' 0).isNone, witL (witS (commN rs) L' S' 0), 0)) := by show _ = _; simp [abelRes, hz]
  clear hz hck hc hc2
  generalize hW : witS (commN rs) L' S' 0 = W at HW
  have HWW := hide hW
  clear hW
  go_wp2_with fail
  go_loopw [16] (fun i wr => ∃ k : Nat, k ≤ S' ∧ i = .int .i64 k ∧ Hid (W = witS (commN rs) L' (S' - k) k) ∧
      Below (w.heap.size + 1) (w.alloc (.cells #[.int .i64 S', .int .i64 L', .slice oa rs.length c] 89)) wr) (fun i _ => S' - (intOf i).toNat)
  case atStart => exact ⟨0, by omega, rfl, HWW.out.symm, hx2⟩
  case round =>
    clear hx2 d0 d1 d2
    obtain ⟨k, hk, rfl, HE, hb⟩ := hrel
    have d0 := box_cell hb 0
    have d1 := box_cell hb 1
    have d2 := box_cell hb 2
    simp at d0 d1 d2
    by_cases hlt : k < S'
    · have hltb : decide ((k : Int) < (S' : Int)) = true := by simp; omega
      have HE2 := hide (HE.out.trans (witS_step (commN rs) L' hlt))
      go_wp2_with fail
      obtain ⟨wo, rfl⟩ : ∃ wo : World, wo = wr := ⟨_, rfl⟩
      go_loopw [21] (fun i wr => ∃ j : Nat, j ≤ L' ∧ i = .int .i64 j ∧ Hid (W = (witA (commN rs) k L' (L' - j) j).or (witS (commN rs) L' (S' - (k + 1)) (k + 1))) ∧
        Below (w.heap.size + 1) (w.alloc (.cells #[.int .i64 S', .int .i64 L', .slice oa rs.length c] 89)) wr) (fun i _ => L' - (intOf i).toNat)
      case atStart => exact ⟨0, by omega, rfl, HE2, hb⟩
      case round =>
        clear hb d0 d1 d2
        obtain ⟨j, hj, rfl, HF, hb⟩ := hrel
        have d0 := box_cell hb 0
        have d1 := box_cell hb 1
        have d2 := box_cell hb 2
        simp at d0 d1 d2
        by_cases hlj : j < L'
        · have hljb : decide ((j : Int) < (L' : Int)) = true := by simp; omega
          have HF2 : Hid (W = ((witB (commN rs) k j (L' - 0) 0).or (witA (commN rs) k L' (L' - (j + 1)) (j + 1))).or (witS (commN rs) L' (S' - (k + 1)) (k + 1))) := by show _ = _; rw [HF.out, witA_step (commN rs) k hlj]; rfl
          go_wp2_with fail
          obtain ⟨wp, rfl⟩ : ∃ wp : World, wp = wr := ⟨_, rfl⟩
          go_loopw [26] (fun i wr => ∃ m : Nat, m ≤ L' ∧ i = .int .i64 m ∧ Hid (W = ((witB (commN rs) k j (L' - m) m).or (witA (commN rs) k L' (L' - (j + 1)) (j + 1))).or (witS (commN rs) L' (S' - (k + 1)) (k + 1))) ∧
            Below (w.heap.size + 1) (w.alloc (.cells #[.int .i64 S', .int .i64 L', .slice oa rs.length c] 89)) wr) (fun i _ => L' - (intOf i).toNat)
          case atStart => exact ⟨0, by omega, rfl, HF2, hb⟩
          case round =>
            clear hb d0 d1 d2
            obtain ⟨m, hm, rfl, HG, hb⟩ := hrel
            have d0 := box_cell hb 0
            have d1 := box_cell hb 1
            have d2 := box_cell hb 2
            simp at d0 d1 d2
            by_cases hlm : m < L'
            · have hlmb : decide ((m : Int) < (L' : Int)) = true := by simp; omega
              go_wp2_with fail
              refine (commute_any HS S' L' k j m rs oa c F _ (hs.below rowR_ok (below_box hb)) HV (by omega) (belowN hlj) (belowN hlm) (i64_small (by omega)) (i64_small (by omega)) (show _ ∧ _ from ⟨HN.out HV.out k j m (by omega) (by omega) (by omega), HN.out HV.out k m j (by omega) (by omega) (by omega)⟩)).mono ?_
              rintro e w5 ⟨rfl, hb5⟩
              have hb6 := box_then hb (by simp) hb5
              clear hb5 d0 d1 d2
              cases hcm : commB rs k j m
              · have HR : Hid (W = some (k, j, m)) := by
                  show _ = _
                  rw [HG.out, witB_bad (commN rs) k j hlm hcm]; rfl
                go_wp2_with fail
                go_ret3
                refine ⟨_, by rw [HW.out, HR.out]; rfl, ?_, bnew (below_box hb6) _⟩
                rw [HW.out, HR.out]
                have hI : ∀ x ∈ [(k : Int), (j : Int), (m : Int)], I64 x := by intro x hx; simp at hx; rcases hx with rfl | rfl | rfl <;> exact i64_small (by omega)
                exact (OwnS.ints w5 3 _ hI (by simp)).rebase (below_box hb6).size
              · go_wp2_with fail
                go_roundw
                case rel => exact ⟨m + 1, by omega, by go_num, by show _ = _; rw [HG.out, witB_good (commN rs) k j hlm hcm], hb6⟩
                case measure => simp [intOf]; omega
            · go_wp2_with fail
              go_roundw
              case rel =>
                refine ⟨j + 1, by omega, by go_num, ?_, hb⟩
                show _ = _
                have : L' - m = 0 := by omega
                rw [HG.out, this]; rfl
              case measure => simp [intOf]; omega
        · go_wp2_with fail
          go_roundw
          case rel =>
            refine ⟨k + 1, by omega, by go_num, ?_, hb⟩
            show _ = _
            have : L' - j = 0 := by omega
            rw [HF.out, this]; rfl
          case measure => simp [intOf]; omega
    · have HR : Hid (W = none) := by
        show _ = _
        have : S' - k = 0 := by omega
        rw [HE.out, this]; rfl
      go_wp2_with fail
      go_ret3
      exact ⟨_, by rw [HW.out, HR.out]; rfl, by rw [HW.out, HR.out]; exact OwnS.nil _ _ _ _ _ _, below_box hb⟩

end Go.Proofs.YtnigfddanoaonaaGreat

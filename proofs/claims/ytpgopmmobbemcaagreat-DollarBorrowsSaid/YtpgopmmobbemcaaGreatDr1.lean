/-
  Representation of Go data in the model's memory: a value's cells stand for a Lean datum. No program is named here.
  The data of the chapters on processors and networks, as plain Lean; how they lie in memory.
  From the reading of an argument to the list or the structure that it stands for.
  Graphs as plain Lean; how they lie in memory; which are right.
  From the reading of an argument to the representations: a ribbon graph, a place, a game.
  From the reading of an argument to the representations: a graph, a divisor, a sink with rotors and chips, a divisor with picks.
  Slices that a call itself makes: what they own, what an append does, how they read afterwards. No program is named here.
  Slices that a literal lays.
  A block of the call's own that is known whole: a boxed variable, struct or array. No program is named here.
  Comparing pairs: cmp.Compare, cmp.Or, (pair).compare; vertices.
  Check of graphs: the program and the reference.
  Check of graphs: the reference.
  A row of the call's own, one cell an element, that is known whole: read, written in place. No program is named here.
  The single edges of a graph: the iterator, Ends.
  The wire machine in plain Lean: packets over lines that lose, repeat and delay them; what is quiet remains so.
  A list of integers that the call made and from whose front it takes: 'work = work[1:]', 'work = append(work, x)'.
  A list of integers of the call's own, nil or not; many such lists side by side. No program is named here.
  The wire machine in memory: what lies where, and what a store of each kind does.
  The wire machine in memory: what a call of one of its functions leaves alone; wait.
  The wire machine while it is laid: what lies where, row by row.
  A table of rows of ints that the code makes row by row, and whose numbers it changes.
  make([]T, n) and copy(d, s) at elements of several cells: the copy is the call's own.
  append of one element to a list of the call's own whose elements hold data in other rows: these lie in P, and not in the list's own row.
  Plain facts on right processors, and what reading a word comes to.
  Networks of processors: the error of a network, in plain Lean; what a right one holds.
  The walks of package processor: below, sent, rule, Check.
  network.Check.
  The reference of networks: understood, waits.
  The walks of the reference of layer 54: rule, Check.
  The walk of the reference of layer 54: Check.
  The reference of networks: Check.
  A slice that the call has just made, and that holds nothing yet.
  The order of outputs, and sorting: plain Lean.
  The closures that compare outputs.
  A row of outputs that is sorted in place: the insertion sort.
  Reading a word: the program and the reference.
  slices.Clone of outputs; sorting a small list.
  sorted: a copy of a list of outputs, in order; here for lists of fewer than 20 elements, whose sort is one insertion sort.
  What the reference's Order comes to is the list in order.
  The reference's Order.
  Two lists of outputs, two lists of ints: SameOutputs, SameInts.
  slices.Equal of ints.
  slices.Equal of outputs and of ints.
  Unary, state: the program and the reference.
  Unary, state: the reference.
  letters: the program and the reference; Few.
  Run: the program and the reference.
  Step: the program and the reference.
  commute, Commuting.
  Abelian: the program and the reference.
  The wire machine in plain Lean: what stays true of it while it goes on, and how great its numbers become.
  The wire machine over a right network: its rules are within bounds.
  The reference of networks: Few, Small, Commutes.
  slices.Clone at the lists of a network (printed by wip/mkClone.py).
  A slice of the call's own of which one element is open: a store into an element of a list of lists. No program is named here.
  The wire machine: processors with lists of their own.
  append to a slice of the call's own, as one step of a region that draws its order. No program is named here.
  append of one element to a slice of the call's own, as one step of a region that draws its order: and where the new slice lies. No program is named here.
  network.copied: a network that shares no memory with the given one.
  A network that runs, in memory: start, network, moves.
  The wire machine: letters that were acknowledged are removed.
  The wire machine: packets are sent.
  The wire machine in memory: the letters of a line grow.
  slices.IndexFunc and slices.ContainsFunc at the closures of the wire machine (printed by wip/mkIdx.py).
  The wire machine: a packet that arrives is handled.
  The wire machine: the packets of a tick arrive: what is needed of the lists.
  A slice of the call's own whose elements are lists of integers of the call's own, no two in one block. No program is named here.
  The wire machine: a processor reads a letter.
  A network that runs, in memory: make, a move.
  Networks that run, in plain Lean: a move keeps a network right; a run by picks.
  Rows of outputs: swapping two parts of the same length, and rotating two parts.
  Merging two sorted lists: plain Lean.
  The merge of two sorted parts of a row: one part has one element.
  The merge of two sorted parts of a row: the second part has one element.
  The merge of two sorted parts of a row: both parts have at least two elements.
  The stable sort of a row of outputs: blocks of 20, then merges.
  The examples of chapter 54: Vertex, Rotor, Setter.
  awake: the examples of chapter 54 hold.
  The walk of ProcessorRuns.
  The walk of ProcessorCommutes.
  right: whether a processor, a state and a word are right and small.
  slices.Grow of the nil slice, and slices.Concat, at lists of outputs.
  The walk of ProcessorSplits.
  slices.Min of ints: whether it is negative.
  slices.Repeat of a list of one integer.
  Counts of letters: the least count, the error of counts, the word of counts.
  The word of counts and the error of counts: the reference.
  The error of counts: the reference.
-/
import Derived.WalkKit
import Derived.WalkSpells
import Derived.WalkLawsBesides
import Derived.KernelRfl
import Derived.Test.YtpgopmmobbemcaaGreatProg
import Derived.ProofKit
import Derived.Deep.Slices
import Derived.Lib.RowBridge
import Derived.OwnWalk
import Derived.Deep.RegionHeld3
import Derived.RangeFuncBox
import Derived.RangeFuncNested
import Derived.RangeFuncLeaves
import Derived.Shelf.Abstract
import Derived.OwnWalkIn
import Derived.TacticsInMore
import Derived.LoopNIn
import Derived.LoopIn
import Derived.Maps.AppendAt
import Derived.ArgAppend
import Derived.BigQuiet
import Derived.Laws.CopyOwn
import Derived.Deep.AppendLies
import Derived.Deep.QuietTactic
import Derived.StillTailTactics
import Derived.Deep.RegionLaw
import Derived.Deep.LoopGhost
import Derived.Deep.DeepCutAuto
import Derived.Laws.ResultCell
import Derived.Laws.OwnMore
import Derived.Maps.OwnOps
import Derived.OneCell
import Derived.Lib.SmallJoins
import Derived.BigRegion
import Derived.Lib.AppendZeros
import Derived.Laws.Bits64b

namespace Go.Proofs.YtpgopmmobbemcaaGreat
open Go.RowKit

abbrev Foot := Nat → Prop
abbrev Rep (α : Type) := Foot → World → List Value → α → Prop
def All : Foot := fun _ => True
def Lt (B : Nat) : Foot := fun k => k < B
def Ge (B : Nat) : Foot := fun k => B ≤ k

def SameOn (F : Foot) (w w' : World) : Prop := ∀ k, F k → k < w.heap.size → w'.heap[k]? = w.heap[k]?

theorem SameOn.refl (F : Foot) (w : World) : SameOn F w w := fun _ _ _ => rfl
theorem SameOn.of_below {F : Foot} {w w' : World} (h : Below w.heap.size w w') : SameOn F w w' := fun k _ hk => h.block k hk
structure RepOk {α : Type} (R : Rep α) (sz : Nat) : Prop where
  len : ∀ {F w cs x}, R F w cs x → cs.length = sz
  one : ∀ {F w cs x}, R F w cs x → ∀ u ∈ cs, u.oneCell' = true
  keep : ∀ {F w w' cs x}, R F w cs x → SameOn F w w' → R F w' cs x
  wide : ∀ {F F' w cs x}, R F w cs x → (∀ k, F k → k < w.heap.size → F' k) → R F' w cs x

def I64 (x : Int) : Prop := -9223372036854775808 ≤ x ∧ x ≤ 9223372036854775807

def intR : Rep Int := fun _ _ cs x => cs = [.int .i64 x] ∧ I64 x
def boolR : Rep Bool := fun _ _ cs x => cs = [.bool x]

theorem intR_ok : RepOk intR 1 where
  len := by rintro F w cs x ⟨rfl, _⟩; rfl
  one := by rintro F w cs x ⟨rfl, _⟩ u hu; simp at hu; subst hu; rfl
  keep := by rintro F w w' cs x h _; exact h
  wide := by rintro F F' w cs x h _; exact h
/-- The address oa holds, from its place on, the elements xs, sz cells each. -/
def SliceR {α : Type} (R : Rep α) (sz : Nat) (F : Foot) (w : World) (oa : Option Addr) (xs : List α) : Prop :=
  ∀ i x, xs[i]? = some x → ∃ b off cs, oa = some ⟨b, off, none⟩ ∧ F b ∧ R F w cs x ∧ ∀ j u, cs[j]? = some u → w.cell? ⟨b, off + i * sz + j, none⟩ = some u

section
variable {α : Type} {R : Rep α} {sz : Nat} {F F' : Foot} {w w' : World} {oa : Option Addr} {xs : List α}

theorem SliceR.nil (R : Rep α) (sz : Nat) (F : Foot) (w : World) (oa : Option Addr) : SliceR R sz F w oa [] := by intro i x h; simp at h

theorem SliceR.keep (ok : RepOk R sz) (h : SliceR R sz F w oa xs) (hs : SameOn F w w') : SliceR R sz F w' oa xs := by
  intro i x hx
  obtain ⟨b, off, cs, rfl, hF, hR, hc⟩ := h i x hx
  refine ⟨b, off, cs, rfl, hF, ok.keep hR hs, fun j u hu => ?_⟩
  have h1 := hc j u hu
  have hb : b < w.heap.size := World.block_lt_of_cell? _ _ h1
  rw [World.cell?_of_block (hs b hF hb)]
  exact h1

theorem SliceR.below (ok : RepOk R sz) (h : SliceR R sz F w oa xs) (hb : Below w.heap.size w w') : SliceR R sz F w' oa xs := h.keep ok (SameOn.of_below hb)

theorem SliceR.wide (ok : RepOk R sz) (hsz : 0 < sz) (h : SliceR R sz F w oa xs) (hs : ∀ k, F k → k < w.heap.size → F' k) : SliceR R sz F' w oa xs := by
  intro i x hx
  obtain ⟨b, off, cs, rfl, hF, hR, hc⟩ := h i x hx
  have hl := ok.len hR
  have h0 : cs[0]? = some (cs[0]'(by omega)) := List.getElem?_eq_getElem (by omega)
  exact ⟨b, off, cs, rfl, hs b hF (World.block_lt_of_cell? _ _ (hc 0 _ h0)), ok.wide hR hs, hc⟩

theorem SliceR.all (ok : RepOk R sz) (hsz : 0 < sz) (h : SliceR R sz F w oa xs) : SliceR R sz All w oa xs := h.wide ok hsz fun _ _ _ => trivial

/-- The element at i, with what is left of the list. -/
theorem SliceR.at (h : SliceR R sz F w oa xs) {i : Nat} (hi : i < xs.length) :
    ∃ x, xs.drop i = x :: xs.drop (i + 1) ∧ xs[i]? = some x ∧ ∃ b off cs, oa = some ⟨b, off, none⟩ ∧ F b ∧ R F w cs x ∧ ∀ j u, cs[j]? = some u → w.cell? ⟨b, off + i * sz + j, none⟩ = some u :=
  ⟨xs[i], List.drop_eq_getElem_cons hi, List.getElem?_eq_getElem hi, h i _ (List.getElem?_eq_getElem hi)⟩
end

/-- A slice value that stands for a list. -/
def slcR {α : Type} (R : Rep α) (sz : Nat) : Rep (List α) := fun F w cs xs =>
  ∃ oa c, cs = [.slice oa xs.length c] ∧ xs.length ≤ c ∧ xs.length ≤ 9223372036854775807 ∧ SliceR R sz F w oa xs

theorem slcR_ok {α : Type} {R : Rep α} {sz : Nat} (ok : RepOk R sz) (hsz : 0 < sz) : RepOk (slcR R sz) 1 where
  len := by rintro F w cs x ⟨oa, c, rfl, _⟩; rfl
  one := by rintro F w cs x ⟨oa, c, rfl, _⟩ u hu; simp at hu; subst hu; rfl
  keep := by rintro F w w' cs x ⟨oa, c, rfl, h1, h2, h⟩ hs; exact ⟨oa, c, rfl, h1, h2, h.keep ok hs⟩
  wide := by rintro F F' w cs x ⟨oa, c, rfl, h1, h2, h⟩ hs; exact ⟨oa, c, rfl, h1, h2, h.wide ok hsz hs⟩

section
variable {F : Foot} {w : World} {oa : Option Addr}
theorem SliceR.int_at {xs : List Int} (h : SliceR intR 1 F w oa xs) {i : Nat} (hi : i < xs.length) :
    ∃ x, xs.drop i = x :: xs.drop (i + 1) ∧ xs[i]? = some x ∧ I64 x ∧ ∃ b off, oa = some ⟨b, off, none⟩ ∧ F b ∧ w.cell? ⟨b, off + i, none⟩ = some (.int .i64 x) := by
  obtain ⟨x, h1, h2, b, off, cs, h3, h4, ⟨rfl, h5⟩, h6⟩ := h.at hi
  exact ⟨x, h1, h2, h5, b, off, h3, h4, by simpa using h6 0 _ rfl⟩
theorem SliceR.slc_at {α : Type} {R : Rep α} {sz : Nat} {xs : List (List α)} (h : SliceR (slcR R sz) 1 F w oa xs) {i : Nat} (hi : i < xs.length) :
    ∃ x, xs.drop i = x :: xs.drop (i + 1) ∧ xs[i]? = some x ∧ ∃ b off oa' c, oa = some ⟨b, off, none⟩ ∧ F b ∧ w.cell? ⟨b, off + i, none⟩ = some (.slice oa' x.length c) ∧ x.length ≤ c ∧ x.length ≤ 9223372036854775807 ∧ SliceR R sz F w oa' x := by
  obtain ⟨x, h1, h2, b, off, cs, h3, h4, ⟨oa', c, rfl, h5, h6, h7⟩, h8⟩ := h.at hi
  exact ⟨x, h1, h2, b, off, oa', c, h3, h4, by simpa using h8 0 _ rfl, h5, h6, h7⟩
end

theorem ret_int {k : IntKind} {a b : Int} (h : a = b) : Ending.returned (.int k a) = .returned (.int k b) := by rw [h]
theorem ret_bool {a b : Bool} (h : a = b) : Ending.returned (.bool a) = .returned (.bool b) := by rw [h]
theorem hide {p : Prop} (h : p) : Hid p := h

theorem bnew {w w' : World} (h : Below w.heap.size w w') (o : Obj) : Below w.heap.size w (w'.alloc o) := h.alloc h.size o
/-- Behind a box that the call laid first: below it all is as it was. -/
theorem below_box {w wr : World} {o : Obj} (hb : Below (w.heap.size + 1) (w.alloc o) wr) : Below w.heap.size w wr :=
  ((Below.refl w.heap.size w).alloc (Nat.le_refl _) o).trans (hb.mono (by omega))
theorem box_refl (w : World) (o : Obj) : Below (w.heap.size + 1) (w.alloc o) (w.alloc o) := Below.refl _ _
theorem box_cell {w wr : World} {cs : Array Value} {t : TypeId} (hb : Below (w.heap.size + 1) (w.alloc (.cells cs t)) wr) (i : Nat) : wr.cell? ⟨w.heap.size, i, none⟩ = cs[i]? := by
  rw [hb.cell (p := ⟨w.heap.size, i, none⟩) (by simp)]
  exact cell_of_row (w.alloc (.cells cs t)) w.heap.size i cs t (0, 0) (heap_alloc_new w _)
theorem box_lt {w wr : World} {o : Obj} (hb : Below (w.heap.size + 1) (w.alloc o) wr) : w.heap.size < wr.heap.size := by
  have := hb.size
  simp at this
  omega
theorem box_new {B : Nat} {a wr : World} (hb : Below B a wr) (hB : B ≤ a.heap.size) (o : Obj) : Below B a (wr.alloc o) := hb.alloc (Nat.le_trans hB hb.size) o
theorem box_then {B : Nat} {a wr w2 : World} (hb : Below B a wr) (hB : B ≤ a.heap.size) (h2 : Below wr.heap.size wr w2) : Below B a w2 := hb.trans (h2.mono (Nat.le_trans hB hb.size))
theorem below_drewN {B : Nat} {a w : World} (h : Below B a w) (n : Nat) : Below B a (w.drewN n) := ⟨h.os, h.tape, h.output, h.size, h.block⟩
theorem SliceR.drewN {α : Type} {R : Rep α} {sz : Nat} {F : Foot} {w : World} {oa : Option Addr} {xs : List α} (ok : RepOk R sz) (h : SliceR R sz F w oa xs) (n : Nat) : SliceR R sz F (w.drewN n) oa xs :=
  h.keep ok fun _ _ _ => rfl
theorem below_then {a wr w2 : World} (hb : Below a.heap.size a wr) (h2 : Below wr.heap.size wr w2) : Below a.heap.size a w2 := hb.trans (h2.mono hb.size)

end Go.Proofs.YtpgopmmobbemcaaGreat

namespace Go.Proofs.YtpgopmmobbemcaaGreat
open Go.RowKit

structure Out where
  dst : Int
  letter : Int
  deriving DecidableEq
structure Rul where
  next : Int
  sent : List Out
  deriving DecidableEq
structure Prc where
  states : Int
  letters : Int
  rules : List (List Rul)
  deriving DecidableEq
structure Nwk where
  procs : List Prc
  state : List Int
  waiting : List (List Int)
  deriving DecidableEq

def outR : Rep Out := fun _ _ cs x => cs = [.int .i64 x.dst, .int .i64 x.letter] ∧ I64 x.dst ∧ I64 x.letter
def ruleR : Rep Rul := fun F w cs r => ∃ oa c, cs = [.int .i64 r.next, .slice oa r.sent.length c] ∧ I64 r.next ∧ r.sent.length ≤ c ∧ r.sent.length ≤ 9223372036854775807 ∧ SliceR outR 2 F w oa r.sent
def prcR : Rep Prc := fun F w cs p => ∃ oa c, cs = [.int .i64 p.states, .int .i64 p.letters, .slice oa p.rules.length c] ∧ I64 p.states ∧ I64 p.letters ∧ p.rules.length ≤ c ∧ p.rules.length ≤ 9223372036854775807 ∧ SliceR (slcR ruleR 2) 1 F w oa p.rules

section
variable {F : Foot} {w : World} {oa : Option Addr}
end

/- The specifications of layer 54. -/
def belowB (n b : Int) : Bool := decide (0 ≤ n) && decide (n < b)
def sentErr (N : Int) : List Out → Int
  | [] => 0
  | x :: r => if belowB x.dst N && belowB x.letter 8 then sentErr N r else 2
def ruleErr (states N : Int) (r : Rul) : Int := if belowB r.next states then (if r.sent.length ≤ 16 then sentErr N r.sent else 5) else 2
def rowErr (states N : Int) : List Rul → Int
  | [] => 0
  | r :: l => if ruleErr states N r = 0 then rowErr states N l else ruleErr states N r
def rowsErr (states letters N : Int) : List (List Rul) → Int
  | [] => 0
  | l :: r => if (l.length : Int) = letters then (if rowErr states N l = 0 then rowsErr states letters N r else rowErr states N l) else 8
def checkErr (p : Prc) (N : Int) : Int :=
  if N < 1 ∨ N > 12 then 1
  else if p.states < 1 ∨ p.states > 16 ∨ p.letters < 1 ∨ p.letters > 8 then 2
  else if (p.rules.length : Int) ≠ p.states then 8
  else rowsErr p.states p.letters N p.rules

def unaryRes (p : Prc) : Bool × Int := if checkErr p 12 = 0 then (p.letters == 1, 0) else (false, checkErr p 12)
def stateErr (p : Prc) (s : Int) : Int := if checkErr p 12 = 0 then (if belowB s p.states then 0 else 2) else checkErr p 12
def lettersErr (L : Int) : List Int → Int
  | [] => 0
  | a :: r => if belowB a L then lettersErr L r else 2
def SomeBool (w : World) (e : Ending) (w' : World) : Prop := ∃ b, e = .returned (.bool b) ∧ Below w.heap.size w w'

end Go.Proofs.YtpgopmmobbemcaaGreat

set_option linter.unusedVariables false
namespace Go.Proofs.YtpgopmmobbemcaaGreat
open Go.RowKit Go.ChangeShapes Go.WideShapes Go.ChangeAt Go.Deep

section
variable {H : Type} {enc : TypeId × Value → H} {P : Program} {w : World} {base : Nat} {spare : Nat → Bool} {held : Bool}

/-- Whatever reads as data of type t stands for something. -/
def ReadsAs {α : Type} (enc : TypeId × Value → H) (P : Program) (w : World) (base : Nat) (spare : Nat → Bool) (held : Bool) (t : TypeId) (R : Rep α) : Prop :=
  ∀ fuel cs x, DataW.trod enc P w base spare held fuel t cs = some x → ∃ y, R All w cs y

theorem ReadsAs.int {t : TypeId} (ht : P.underlying t = some (.int .i64)) : ReadsAs enc P w base spare held t intR := by
  intro fuel cs x h
  obtain ⟨n, rfl, _, hw⟩ := DataW.trod_int ht h
  refine ⟨n, rfl, ?_⟩
  simpa [Lit.wf, IntKind.min, IntKind.max, IntKind.signed, IntKind.bits, I64] using hw

theorem listOf {α : Type} {Q : Nat → α → Prop} : ∀ n, (∀ i, i < n → ∃ y, Q i y) → ∃ ys : List α, ys.length = n ∧ ∀ i y, ys[i]? = some y → Q i y
  | 0, _ => ⟨[], rfl, by simp⟩
  | n + 1, h => by
    obtain ⟨ys, hl, hq⟩ := listOf n fun i hi => h i (by omega)
    obtain ⟨y, hy⟩ := h n (by omega)
    refine ⟨ys ++ [y], by simp [hl], fun i z hz => ?_⟩
    rcases Nat.lt_or_ge i n with hi | hi
    · rw [List.getElem?_append_left (by omega)] at hz
      exact hq i z hz
    · rw [List.getElem?_append_right (by omega)] at hz
      have : i - ys.length = 0 := by
        rcases Nat.eq_zero_or_pos (i - ys.length) with h0 | h0
        · exact h0
        · rw [List.getElem?_eq_none (by simp; omega)] at hz; cases hz
      rw [this] at hz
      simp at hz
      subst hz
      have : i = n := by omega
      subst this
      exact hy

theorem ReadsAs.slice {α : Type} {R : Rep α} {sz : Nat} {t e : TypeId} (ok : RepOk R sz) (hsz : 0 < sz) (ht : P.underlying t = some (.slice e)) (hC : P.cellsOf e = sz) (hR : ReadsAs enc P w base spare held e R) :
    ReadsAs enc P w base spare held t (slcR R sz) := by
  intro fuel cs x h
  rcases open_slice ht h with ⟨rfl, _⟩ | ⟨a, len, cap, m, n, D, Pl, rfl, _, hl, hm, hmm, _, hi⟩
  · exact ⟨[], none, 0, rfl, by simp, by simp, SliceR.nil _ _ _ _ _⟩
  · have hlm : len ≤ m := by rw [hmm]; split <;> omega
    have key : ∀ i, i < len → ∃ y cs', R All w cs' y ∧ ∀ j, j < sz → w.cell? ((a.add (i * sz)).add j) = cs'[j]? := by
      intro i hil
      obtain ⟨cs', hc, hd⟩ := hi i (by omega)
      rw [hC] at hc
      obtain ⟨_, hcl, hat⟩ := World.cells?_some hc
      obtain ⟨y, hy⟩ := hR _ _ _ hd
      exact ⟨y, cs', hy, hat⟩
    rcases Nat.eq_zero_or_pos len with h0 | h0
    · subst h0
      exact ⟨[], some a, cap, rfl, by simp, by simp, SliceR.nil _ _ _ _ _⟩
    obtain ⟨y0, cs0, hR0, hat0⟩ := key 0 h0
    obtain ⟨b, off, spot⟩ := a
    have hspot : spot = none := by
      have h1 := hat0 0 hsz
      have h2 : cs0[0]? = some (cs0[0]'(by rw [ok.len hR0]; exact hsz)) := List.getElem?_eq_getElem _
      rw [h2] at h1
      simpa [Addr.add] using World.cell?_spot h1
    subst hspot
    obtain ⟨ys, hyl, hyq⟩ := listOf len key
    refine ⟨ys, some ⟨b, off, none⟩, cap, by rw [hyl], by omega, by unfold maxLen at hm; omega, fun i y hy => ?_⟩
    obtain ⟨cs', hRy, hat⟩ := hyq i y hy
    refine ⟨b, off, cs', rfl, trivial, hRy, fun j u hu => ?_⟩
    have hj : j < sz := by rw [← ok.len hRy]; exact (List.getElem?_eq_some_iff.1 hu).1
    have := hat j hj
    rw [Addr.add_lit, Addr.add_lit, hu] at this
    exact this

theorem part2 {f0 f1 : Field} {t : TypeId} {fuel : Nat} {cs : List Value} {x : DataW H × List MemPlace} (hs : P.underlying t = some (.struct #[f0, f1])) (o0 : f0.offset = 0) (o1 : f1.offset = 1) (k0 : P.cellsOf f0.type = 1) (k1 : P.cellsOf f1.type = 1) (kt : P.cellsOf t = 2)
    (h : DataW.trod enc P w base spare held fuel t cs = some x) : ∃ c0 c1 n y0 y1, cs = [c0, c1] ∧ DataW.trod enc P w base spare held n f0.type [c0] = some y0 ∧ DataW.trod enc P w base spare held n f1.type [c1] = some y1 := by
  obtain ⟨xs, n, _, _, hcl, hxl, hg⟩ := DataW.trod_struct hs h
  rw [kt] at hcl
  match cs, hcl, xs, hxl with
  | [c0, c1], _, [y0, y1], _ =>
    exact ⟨c0, c1, n, y0, y1, rfl, by simpa [o0, k0] using hg 0 f0 rfl, by simpa [o1, k1] using hg 1 f1 rfl⟩
theorem part3 {f0 f1 f2 : Field} {t : TypeId} {fuel : Nat} {cs : List Value} {x : DataW H × List MemPlace} (hs : P.underlying t = some (.struct #[f0, f1, f2])) (o0 : f0.offset = 0) (o1 : f1.offset = 1) (o2 : f2.offset = 2) (k0 : P.cellsOf f0.type = 1) (k1 : P.cellsOf f1.type = 1) (k2 : P.cellsOf f2.type = 1) (kt : P.cellsOf t = 3)
    (h : DataW.trod enc P w base spare held fuel t cs = some x) : ∃ c0 c1 c2 n y0 y1 y2, cs = [c0, c1, c2] ∧ DataW.trod enc P w base spare held n f0.type [c0] = some y0 ∧ DataW.trod enc P w base spare held n f1.type [c1] = some y1 ∧ DataW.trod enc P w base spare held n f2.type [c2] = some y2 := by
  obtain ⟨xs, n, _, _, hcl, hxl, hg⟩ := DataW.trod_struct hs h
  rw [kt] at hcl
  match cs, hcl, xs, hxl with
  | [c0, c1, c2], _, [y0, y1, y2], _ =>
    exact ⟨c0, c1, c2, n, y0, y1, y2, rfl, by simpa [o0, k0] using hg 0 f0 rfl, by simpa [o1, k1] using hg 1 f1 rfl, by simpa [o2, k2] using hg 2 f2 rfl⟩

theorem agg_cells {r : Reach} {b0 : Nat} {t : TypeId} {fs : Array Field} {v : Value} {d : DataW H} {p : List MemPlace} (hs : P.underlying t = some (.struct fs))
    (hv : Value.okWide P w r b0 t v) (h : DataW.Trod enc P w base spare held t v d p) : ∃ l fuel, v = .agg ⟨l⟩ ∧ DataW.trod enc P w base spare held fuel t l = some (d, p) := by
  obtain ⟨cs, rfl, _⟩ := okWide_struct hs hv
  obtain ⟨l⟩ := cs
  obtain ⟨fuel, hf⟩ := h
  exact ⟨l, fuel, rfl, by simpa [Value.cells] using hf⟩
end

section
variable {H : Type} {enc : TypeId × Value → H} {w : World} {base : Nat} {spare : Nat → Bool} {held : Bool}
theorem reads_int : ReadsAs enc Tryz.prog w base spare held 3 intR := ReadsAs.int Tryz.underlying3
theorem reads_ints : ReadsAs enc Tryz.prog w base spare held 25 (slcR intR 1) := ReadsAs.slice intR_ok (by omega) Tryz.underlying25 (by kernel_rfl) reads_int
set_option maxRecDepth 100000 in
theorem open_is {r : Reach} {b0 : Nat} {v : Value} {d : DataW H} {p : List MemPlace} (hv : Value.okWide Tryz.prog w r b0 25 v) (h : DataW.Trod enc Tryz.prog w base spare held 25 v d p) :
    ∃ xs oa c, v = .slice oa xs.length c ∧ xs.length ≤ c ∧ xs.length ≤ 9223372036854775807 ∧ SliceR intR 1 All w oa xs := by
  obtain ⟨oa, n, c, rfl⟩ := okWide_slice Tryz.underlying25 hv
  obtain ⟨fuel, hf⟩ := h
  obtain ⟨xs, oa', c', h1, h2, h3, h4⟩ := reads_ints _ _ _ hf
  simp [Value.cells] at h1
  obtain ⟨rfl, rfl, rfl⟩ := h1
  exact ⟨xs, _, _, rfl, h2, h3, h4⟩
end

theorem own_knob : ownKnob Tryz.prog.godebug = none := by kernel_rfl
theorem laid_out : laidOutB Tryz.prog = true := by kernel_rfl

end Go.Proofs.YtpgopmmobbemcaaGreat

set_option linter.unusedVariables false
set_option linter.unusedSimpArgs false
namespace Go.Proofs.YtpgopmmobbemcaaGreat
open Go.RowKit

structure Edg where
  a : Int
  b : Int
  m : Int
  deriving DecidableEq

def edgR : Rep Edg := fun _ _ cs x => cs = [.int .i64 x.a, .int .i64 x.b, .int .i64 x.m] ∧ I64 x.a ∧ I64 x.b ∧ I64 x.m
def prR : Rep (Int × Int) := fun _ _ cs x => cs = [.int .i64 x.1, .int .i64 x.2] ∧ I64 x.1 ∧ I64 x.2

theorem edgR_ok : RepOk edgR 3 := {
  len := by rintro F w cs x ⟨rfl, _⟩; rfl
  one := by rintro F w cs x ⟨rfl, _⟩ u hu; simp at hu; rcases hu with rfl | rfl | rfl <;> rfl
  keep := by rintro F w w' cs x h _; exact h
  wide := by rintro F F' w cs x h _; exact h }
theorem prR_ok : RepOk prR 2 := {
  len := by rintro F w cs x ⟨rfl, _⟩; rfl
  one := by rintro F w cs x ⟨rfl, _⟩ u hu; simp at hu; rcases hu with rfl | rfl <;> rfl
  keep := by rintro F w w' cs x h _; exact h
  wide := by rintro F F' w cs x h _; exact h }

section
variable {F : Foot} {w : World} {oa : Option Addr}
theorem SliceR.edg_at {xs : List Edg} (h : SliceR edgR 3 F w oa xs) {i : Nat} (hi : i < xs.length) :
    ∃ a b m, xs.drop i = ⟨a, b, m⟩ :: xs.drop (i + 1) ∧ xs[i]? = some ⟨a, b, m⟩ ∧ I64 a ∧ I64 b ∧ I64 m ∧ ∃ bl off, oa = some ⟨bl, off, none⟩ ∧ F bl ∧ w.cell? ⟨bl, off + i * 3, none⟩ = some (.int .i64 a) ∧ w.cell? ⟨bl, off + i * 3 + 1, none⟩ = some (.int .i64 b) ∧ w.cell? ⟨bl, off + i * 3 + 2, none⟩ = some (.int .i64 m) := by
  obtain ⟨⟨a, b, m⟩, h1, h2, bl, off, cs, h3, h4, ⟨rfl, h5, h6, h7⟩, h8⟩ := h.at hi
  exact ⟨a, b, m, h1, h2, h5, h6, h7, bl, off, h3, h4, by simpa using h8 0 _ rfl, by simpa using h8 1 _ rfl, by simpa using h8 2 _ rfl⟩
end

/- The specifications of layer 8. -/
def vtxB (n v : Int) : Bool := decide (0 ≤ v) && decide (v < n)
def cmpI (a b : Int) : Int := if a < b then -1 else if b < a then 1 else 0
def cmpP (p q : Int × Int) : Int := if cmpI p.1 q.1 = 0 then cmpI p.2 q.2 else cmpI p.1 q.1
def edgeErr (n : Int) (last : Int × Int) (x : Edg) : Int :=
  if vtxB n x.a && vtxB n x.b && decide (1 ≤ x.m) && decide (x.m ≤ 50) then (if decide (x.a ≤ x.b) && decide (cmpP last (x.a, x.b) < 0) then 0 else 9) else 2
def edgesErr (n : Int) : Int × Int → List Edg → Int
  | _, [] => 0
  | last, x :: r => if edgeErr n last x = 0 then edgesErr n (x.a, x.b) r else edgeErr n last x
def gErr (n : Int) (es : List Edg) : Int := if n < 1 ∨ n > 12 then 2 else edgesErr n (-1, -1) es

theorem vtxB_iff {n v : Int} : vtxB n v = true ↔ 0 ≤ v ∧ v < n := by simp [vtxB]
theorem cmpI_neg {a b : Int} : cmpI a b < 0 ↔ a < b := by unfold cmpI; split <;> (try split) <;> omega
theorem cmpI_zero {a b : Int} : cmpI a b = 0 ↔ a = b := by unfold cmpI; split <;> (try split) <;> omega
theorem cmpP_neg {p q : Int × Int} : cmpP p q < 0 ↔ p.1 < q.1 ∨ (p.1 = q.1 ∧ p.2 < q.2) := by
  unfold cmpP
  split
  · rename_i h
    have := cmpI_zero.1 h
    have h2 := cmpI_neg (a := p.2) (b := q.2)
    omega
  · rename_i h
    have h1 := cmpI_neg (a := p.1) (b := q.1)
    have h2 := cmpI_zero (a := p.1) (b := q.1)
    omega

theorem edgeErr_zero {n : Int} {last : Int × Int} {x : Edg} (h : edgeErr n last x = 0) : (0 ≤ x.a ∧ x.a < n) ∧ (0 ≤ x.b ∧ x.b < n) ∧ 1 ≤ x.m ∧ x.m ≤ 50 ∧ x.a ≤ x.b ∧ cmpP last (x.a, x.b) < 0 := by
  unfold edgeErr at h
  split at h
  · rename_i h1
    simp only [Bool.and_eq_true, decide_eq_true_eq, vtxB_iff] at h1
    split at h
    · rename_i h2
      simp only [Bool.and_eq_true, decide_eq_true_eq] at h2
      omega
    · cases h
  · cases h
theorem edgesErr_zero {n : Int} : ∀ {es : List Edg} {last : Int × Int}, edgesErr n last es = 0 →
    (∀ x ∈ es, (0 ≤ x.a ∧ x.a < n) ∧ (0 ≤ x.b ∧ x.b < n) ∧ 1 ≤ x.m ∧ x.m ≤ 50 ∧ x.a ≤ x.b ∧ cmpP last (x.a, x.b) < 0) ∧ es.Pairwise fun x y => cmpP (x.a, x.b) (y.a, y.b) < 0
  | [], _, _ => by simp
  | x :: r, last, h => by
    unfold edgesErr at h
    split at h
    · rename_i h0
      have h1 := edgeErr_zero h0
      have ih := edgesErr_zero h
      refine ⟨fun y hy => ?_, ?_⟩
      · rcases List.mem_cons.1 hy with rfl | hy
        · exact h1
        · have h2 := ih.1 y hy
          refine ⟨h2.1, h2.2.1, h2.2.2.1, h2.2.2.2.1, h2.2.2.2.2.1, ?_⟩
          have h3 := cmpP_neg.1 h1.2.2.2.2.2
          have h4 := cmpP_neg.1 h2.2.2.2.2.2
          rw [cmpP_neg]
          simp only at h3 h4 ⊢
          omega
      · rw [List.pairwise_cons]
        exact ⟨fun y hy => (ih.1 y hy).2.2.2.2.2, ih.2⟩
    · rename_i hx; exact absurd h hx
theorem gErr_zero {n : Int} {es : List Edg} (h : gErr n es = 0) : (1 ≤ n ∧ n ≤ 12) ∧ (∀ x ∈ es, (0 ≤ x.a ∧ x.a < n) ∧ (0 ≤ x.b ∧ x.b < n) ∧ 1 ≤ x.m ∧ x.m ≤ 50 ∧ x.a ≤ x.b) ∧ es.Pairwise fun x y => cmpP (x.a, x.b) (y.a, y.b) < 0 := by
  unfold gErr at h
  split at h
  · cases h
  · have h1 := edgesErr_zero h
    refine ⟨by omega, fun x hx => ?_, h1.2⟩
    have := h1.1 x hx
    exact ⟨this.1, this.2.1, this.2.2.1, this.2.2.2.1, this.2.2.2.2.1⟩

/-- The ends of the single edges, one after the other. -/
def endsL (es : List Edg) : List (Int × Int) := es.flatMap fun x => List.replicate x.m.toNat (x.a, x.b)
theorem endsL_cons (x : Edg) (r : List Edg) : endsL (x :: r) = List.replicate x.m.toNat (x.a, x.b) ++ endsL r := rfl
theorem endsL_len {es : List Edg} (h : ∀ x ∈ es, x.m ≤ 50) : (endsL es).length ≤ 50 * es.length := by
  induction es with
  | nil => simp [endsL]
  | cons x r ih =>
    have h1 := ih fun y hy => h y (by simp [hy])
    have h2 := h x (by simp)
    rw [endsL_cons]
    simp
    omega
theorem endsL_mem {es : List Edg} {p : Int × Int} (h : p ∈ endsL es) : ∃ x ∈ es, p = (x.a, x.b) := by
  unfold endsL at h
  rw [List.mem_flatMap] at h
  obtain ⟨x, hx, hp⟩ := h
  exact ⟨x, hx, (List.mem_replicate.1 hp).2⟩

/-- How often two vertices are joined. -/
def betw (es : List Edg) (a b : Int) : Int :=
  match es with
  | [] => 0
  | x :: r => if x.a = min a b ∧ x.b = max a b then x.m else betw r a b
theorem betw_symm (es : List Edg) (a b : Int) : betw es a b = betw es b a := by
  induction es with
  | nil => rfl
  | cons x r ih => simp only [betw]; rw [Int.min_comm a b, Int.max_comm a b, ih]

end Go.Proofs.YtpgopmmobbemcaaGreat

set_option linter.unusedVariables false
namespace Go.Proofs.YtpgopmmobbemcaaGreat
open Go.RowKit Go.ChangeShapes Go.WideShapes Go.ChangeAt Go.Deep

section
variable {H : Type} {enc : TypeId × Value → H} {P : Program} {w : World} {base : Nat} {spare : Nat → Bool} {held : Bool}






end

section
variable {H : Type} {enc : TypeId × Value → H} {w : World} {base : Nat} {spare : Nat → Bool} {held : Bool}
theorem reads_edge : ReadsAs enc Tryz.prog w base spare held 123 edgR := by
  intro fuel cs x h
  obtain ⟨c0, c1, c2, n, y0, y1, y2, rfl, h0, h1, h2⟩ := part3 Tryz.underlying123 rfl rfl rfl (by kernel_rfl) (by kernel_rfl) (by kernel_rfl) (by kernel_rfl) h
  obtain ⟨a, ha, ia⟩ := reads_int _ _ _ h0
  obtain ⟨b, hb, ib⟩ := reads_int _ _ _ h1
  obtain ⟨m, hm, im⟩ := reads_int _ _ _ h2
  simp at ha hb hm
  subst ha hb hm
  exact ⟨⟨a, b, m⟩, rfl, ia, ib, im⟩
theorem reads_edges : ReadsAs enc Tryz.prog w base spare held 22 (slcR edgR 3) := ReadsAs.slice edgR_ok (by omega) Tryz.underlying22 (by kernel_rfl) reads_edge
end


end Go.Proofs.YtpgopmmobbemcaaGreat

set_option linter.unusedVariables false
namespace Go.Proofs.YtpgopmmobbemcaaGreat
open Go.RowKit Go.ChangeShapes Go.WideShapes Go.ChangeAt Go.Deep

section
variable {H : Type} {enc : TypeId × Value → H} {w : World} {base : Nat} {spare : Nat → Bool} {held : Bool}
theorem reads_div5 : ReadsAs enc Tryz.prog w base spare held 28 (slcR intR 1) := ReadsAs.slice intR_ok (by omega) Tryz.underlying28 (by kernel_rfl) reads_int
set_option maxRecDepth 100000 in
theorem open_div {r : Reach} {b0 : Nat} {v : Value} {d : DataW H} {p : List MemPlace} (hv : Value.okWide Tryz.prog w r b0 28 v) (h : DataW.Trod enc Tryz.prog w base spare held 28 v d p) :
    ∃ xs oa c, v = .slice oa (List.length xs) c ∧ xs.length ≤ c ∧ xs.length ≤ 9223372036854775807 ∧ SliceR intR 1 All w oa xs := by
  obtain ⟨oa, n, c, rfl⟩ := okWide_slice Tryz.underlying28 hv
  obtain ⟨fuel, hf⟩ := h
  obtain ⟨xs, oa', c', h1, h2, h3, h4⟩ := reads_div5 _ _ _ hf
  simp [Value.cells] at h1
  obtain ⟨rfl, rfl, rfl⟩ := h1
  exact ⟨xs, _, _, rfl, h2, h3, h4⟩
set_option maxRecDepth 100000 in
theorem open_graph {r : Reach} {b0 : Nat} {v : Value} {d : DataW H} {p : List MemPlace} (hv : Value.okWide Tryz.prog w r b0 24 v) (h : DataW.Trod enc Tryz.prog w base spare held 24 v d p) :
    ∃ n es oe c, v = .agg #[.int .i64 n, .slice oe (List.length es) c] ∧ es.length ≤ c ∧ es.length ≤ 9223372036854775807 ∧ SliceR edgR 3 All w oe es := by
  obtain ⟨l, fuel, rfl, hf⟩ := agg_cells Tryz.underlying24 hv h
  obtain ⟨e0, e1, k2, z0, z1, he, g0, g1⟩ := part2 Tryz.underlying24 rfl rfl (by kernel_rfl) (by kernel_rfl) (by kernel_rfl) hf
  subst he
  obtain ⟨n, hn, _⟩ := reads_int _ _ _ g0
  obtain ⟨es, oe, c, hes, q1, q2, q3⟩ := reads_edges _ _ _ g1
  simp at hn hes
  subst hn hes
  exact ⟨n, es, oe, c, rfl, q1, q2, q3⟩
end

end Go.Proofs.YtpgopmmobbemcaaGreat

namespace Go.Proofs.YtpgopmmobbemcaaGreat
open Go.RowKit

def Non : Foot := fun _ => False

section
variable {P : Program} (w : World)

theorem run_append_empty (base : Nat) (t ty e : TypeId) (i : TypeInfo) (size : Nat) (ht : P.underlying t = some (.slice e)) (hi : P.info? e = some i)
    (v : Value) (n : Nat) (xs : List Value) (hown : w.ownsRow base e size v n xs) (c : Nat) : (Builtin.append_ #[t, t] ty #[v, .slice none 0 c]).run P w = .ok v w := by
  rcases hown.2 with ⟨rfl, rfl⟩ | ⟨g, cap, cur, rfl, _, _, hnc, _⟩
  · simp [Builtin.append_, run_underlying ht, sizeOf, typeInfo, hi, Builtin.lenOf, Builtin.firstCells]
  · simp [Builtin.append_, run_underlying ht, sizeOf, typeInfo, hi, Builtin.lenOf, Builtin.firstCells, hnc, storeCells]

/-- append(v, x...), v the call's own, x whatever slice: nil, empty or not. -/
theorem run_append_src (base : Nat) (t ty e : TypeId) (i : TypeInfo) (z : Value) (size bytes : Nat) (ht : P.underlying t = some (.slice e)) (hi : P.info? e = some i) (hz : i.zero = some z)
    (hsize : i.size = size) (hby : i.bytes = bytes) (hzs : z.cells.size = size) (hsz : 0 < size)
    (v : Value) (n : Nat) (xs : List Value) (hown : w.ownsRow base e size v n xs)
    (oa : Option Addr) (m c : Nat) (news : List Value) (hl : news.length = m * size) (hc : ∀ j u, news[j]? = some u → ∃ b off, oa = some ⟨b, off, none⟩ ∧ w.cell? ⟨b, off + j, none⟩ = some u) (h1 : ∀ u ∈ news, u.oneCell' = true)
    (h63 : n + m ≤ maxLen) (hbytes : (n + m) * bytes ≤ 140737488355328) (hbase : base ≤ w.heap.size) :
    ∃ v' w', (Builtin.append_ #[t, t] ty #[v, .slice oa m c]).run P w = .ok v' w' ∧ w'.ownsRow base e size v' (n + m) (xs ++ news) ∧ w.grownBy w' v.ownBlock := by
  rcases oa with _ | ad
  · have hn : news = [] := by
      cases news with
      | nil => rfl
      | cons u r => obtain ⟨b, off, h, _⟩ := hc 0 u rfl; cases h
    subst hn
    have hm : m = 0 := by
      rcases Nat.eq_zero_or_pos m with h | h
      · exact h
      · have h2 := Nat.mul_pos h hsz
        simp at hl
        omega
    subst hm
    exact ⟨v, w, run_append_empty w base t ty e i size ht hi v n xs hown c, by simpa using hown, rfl, rfl, rfl, Nat.le_refl _, fun _ _ _ => rfl⟩
  · have hcells : ∀ j u, news[j]? = some u → w.cell? (ad.add j) = some u := by
      intro j u hu
      obtain ⟨b, off, h, hcc⟩ := hc j u hu
      injection h with h
      subst h
      rw [Addr.add_lit]
      exact hcc
    obtain ⟨v', w', h2, h3, h4, _⟩ := run_append_own (P := P) w base t ty e i z size bytes ht hi hz hsize hby hzs hsz v n xs hown ad m c news hl hcells h1 h63 hbytes hbase
    exact ⟨v', w', h2, h3, h4⟩

theorem wpList_append_src {ops : Array Oper} {rest : List Oper} {o : Oper} {a : Act} {Q : Exit → Act → World → Prop} (hgd : o.guard = none) (s x : Operand) (t : TypeId)
    (ho : o.op = .call { callee := .builtin .append, args := #[s, x], argTypes := #[t, t] })
    (base : Nat) (e : TypeId) (i : TypeInfo) (z : Value) (size bytes : Nat) (ht : P.underlying t = some (.slice e)) (hi : P.info? e = some i) (hz : i.zero = some z)
    (hsize : i.size = size) (hby : i.bytes = bytes) (hzs : z.cells.size = size) (hsz : 0 < size)
    (v : Value) (n : Nat) (xs : List Value) (hs : a.eval s = v) (hown : w.ownsRow base e size v n xs)
    (oa : Option Addr) (m c : Nat) (news : List Value) (hx : a.eval x = .slice oa m c) (hl : news.length = m * size) (hc : ∀ j u, news[j]? = some u → ∃ b off, oa = some ⟨b, off, none⟩ ∧ w.cell? ⟨b, off + j, none⟩ = some u) (h1 : ∀ u ∈ news, u.oneCell' = true)
    (h63 : n + m ≤ maxLen) (hbytes : (n + m) * bytes ≤ 140737488355328) (hbase : base ≤ w.heap.size)
    (h : ∀ v' w', w'.ownsRow base e size v' (n + m) (xs ++ news) → w.grownBy w' v.ownBlock → wpList P ops Q rest (a.put o.dst v') w') : wpList P ops Q (o :: rest) a w :=
  wpList_plain hgd fun _ hK => by
    obtain ⟨v', w', hrun, h2, h3⟩ := run_append_src (P := P) w base t o.type e i z size bytes ht hi hz hsize hby hzs hsz v n xs hown oa m c news hl hc h1 h63 hbytes hbase
    unfold Oper.wp execOp
    simp only [ho, resolve, invoke, builtin, Sem.run_bind, Sem.run_pure, Result.andThen_ok, List.map_toArray, List.map_cons, List.map_nil, hs, hx, hrun]
    exact hK _ _ (h v' w' h2 h3)
end

def chunk (sz i : Nat) (l : List Value) : List Value := (l.drop (i * sz)).take sz

theorem chunk_get {sz i j : Nat} {l : List Value} {u : Value} (h : (chunk sz i l)[j]? = some u) : j < sz ∧ l[i * sz + j]? = some u := by
  unfold chunk at h
  rw [List.getElem?_take] at h
  split at h
  · rw [List.getElem?_drop] at h
    exact ⟨by assumption, h⟩
  · cases h

/-- The cells of a slice, in a row, part by part. -/
theorem SliceR.cells {α : Type} {R : Rep α} {sz : Nat} {F : Foot} {w : World} {oa : Option Addr} (ok : RepOk R sz) :
    ∀ {xs : List α}, SliceR R sz F w oa xs → ∃ news, news.length = xs.length * sz ∧ (∀ j u, news[j]? = some u → ∃ b off, oa = some ⟨b, off, none⟩ ∧ w.cell? ⟨b, off + j, none⟩ = some u) ∧
      (∀ u ∈ news, u.oneCell' = true) ∧ ∀ i x, xs[i]? = some x → R F w (chunk sz i news) x := by
  intro xs h
  rcases Nat.eq_zero_or_pos xs.length with h0 | h0
  · have : xs = [] := List.eq_nil_of_length_eq_zero h0
    subst this
    exact ⟨[], by simp, by simp, by simp, by simp⟩
  obtain ⟨b, off, cs0, hoa, hF0, hR0, hc0⟩ := h 0 _ (List.getElem?_eq_getElem h0)
  subst hoa
  have key : ∀ i x, xs[i]? = some x → ∃ cs, R F w cs x ∧ ∀ j u, cs[j]? = some u → w.cell? ⟨b, off + i * sz + j, none⟩ = some u := by
    intro i x hx
    obtain ⟨b', off', cs, he, _, hR, hc⟩ := h i x hx
    simp only [Option.some.injEq, Addr.mk.injEq, and_true] at he
    obtain ⟨rfl, rfl⟩ := he
    exact ⟨cs, hR, hc⟩
  have cell : ∀ j, j < xs.length * sz → ∃ u, w.cell? ⟨b, off + j, none⟩ = some u ∧ u.oneCell' = true := by
    intro j hj
    have hsz : 0 < sz := by
      rcases Nat.eq_zero_or_pos sz with h | h
      · subst h; simp at hj
      · exact h
    have hi : j / sz < xs.length := (Nat.div_lt_iff_lt_mul hsz).2 hj
    obtain ⟨cs, hR, hc⟩ := key (j / sz) _ (List.getElem?_eq_getElem hi)
    have hm : j % sz < cs.length := by rw [ok.len hR]; exact Nat.mod_lt _ hsz
    have hcc := hc (j % sz) _ (List.getElem?_eq_getElem hm)
    have hj2 : off + j / sz * sz + j % sz = off + j := by
      have := Nat.div_add_mod' j sz
      omega
    rw [hj2] at hcc
    exact ⟨_, hcc, ok.one hR _ (List.getElem_mem hm)⟩
  let news := (List.range (xs.length * sz)).map fun j => (w.cell? ⟨b, off + j, none⟩).getD undef
  have get : ∀ j u, news[j]? = some u → j < xs.length * sz ∧ w.cell? ⟨b, off + j, none⟩ = some u := by
    intro j u hu
    simp only [news, List.getElem?_map, Option.map_eq_some_iff] at hu
    obtain ⟨k, hk, hu⟩ := hu
    have hk2 := List.getElem?_eq_some_iff.1 hk
    obtain ⟨hlt, hkk⟩ := hk2
    simp only [List.length_range] at hlt
    simp only [List.getElem_range] at hkk
    subst hkk
    obtain ⟨u', hu', _⟩ := cell j hlt
    rw [hu'] at hu
    simp only [Option.getD_some] at hu
    subst hu
    exact ⟨hlt, hu'⟩
  refine ⟨news, by simp [news], fun j u hu => ⟨b, off, rfl, (get j u hu).2⟩, ?_, ?_⟩
  · intro u hu
    obtain ⟨j, hj, rfl⟩ := List.getElem_of_mem hu
    obtain ⟨h1, h2⟩ := get j _ (List.getElem?_eq_getElem hj)
    obtain ⟨u', hu', ho⟩ := cell j h1
    rw [h2] at hu'
    injection hu' with hu'
    rw [hu']; exact ho
  · intro i x hx
    obtain ⟨cs, hR, hc⟩ := key i x hx
    have hi : i < xs.length := (List.getElem?_eq_some_iff.1 hx).1
    have hle : i * sz + sz ≤ xs.length * sz := by
      have := Nat.mul_le_mul_right sz (Nat.succ_le_of_lt hi)
      rw [Nat.succ_mul] at this
      exact this
    have : chunk sz i news = cs := by
      apply List.ext_getElem?
      intro j
      unfold chunk
      rw [List.getElem?_take]
      split
      · rename_i hj
        rw [List.getElem?_drop]
        have hjl : j < cs.length := by rw [ok.len hR]; exact hj
        have h1 := hc j _ (List.getElem?_eq_getElem hjl)
        have hn : i * sz + j < news.length := by simp only [news, List.length_map, List.length_range]; omega
        have h2 := (get _ _ (List.getElem?_eq_getElem hn)).2
        rw [Nat.add_assoc] at h1
        rw [h1] at h2
        rw [List.getElem?_eq_getElem hn, List.getElem?_eq_getElem hjl, h2]
      · rename_i hj
        rw [List.getElem?_eq_none (by rw [ok.len hR]; omega)]
    rw [this]
    exact hR

/-- The slice value v, which the call itself made (blocks from base on), holds xs. -/
def OwnS {α : Type} (R : Rep α) (sz base : Nat) (e : TypeId) (F : Foot) (w : World) (v : Value) (xs : List α) : Prop :=
  ∃ cells, w.ownsRow base e sz v xs.length cells ∧ (∀ u ∈ cells, u.oneCell' = true) ∧ ∀ i x, xs[i]? = some x → R F w (chunk sz i cells) x

section
variable {α : Type} {R : Rep α} {sz base : Nat} {e : TypeId} {F : Foot} {w w' : World} {v : Value} {xs : List α}

theorem OwnS.nil (R : Rep α) (sz base : Nat) (e : TypeId) (F : Foot) (w : World) : OwnS R sz base e F w (.slice none 0 0) [] :=
  ⟨[], World.ownsRow_nil w base e sz, by simp, by simp⟩

theorem chunk_app_left {cells news : List Value} {i n : Nat} (hl : cells.length = n * sz) (hi : i < n) : chunk sz i (cells ++ news) = chunk sz i cells := by
  have hle : i * sz + sz ≤ n * sz := by
    have := Nat.mul_le_mul_right sz (Nat.succ_le_of_lt hi)
    rw [Nat.succ_mul] at this
    exact this
  unfold chunk
  rw [List.drop_append_of_le_length (by omega), List.take_append_of_le_length (by rw [List.length_drop]; omega)]

theorem chunk_app_right {cells news : List Value} {i n : Nat} (hl : cells.length = n * sz) (hi : n ≤ i) : chunk sz i (cells ++ news) = chunk sz (i - n) news := by
  have hle := Nat.mul_le_mul_right sz hi
  unfold chunk
  rw [List.drop_append, List.drop_eq_nil_of_le (by omega), List.nil_append, hl, Nat.sub_mul]

/-- What an append of ys leaves. -/
theorem OwnS.app {cells news : List Value} {ys : List α} {v' : Value} (hx : xs.length * sz = cells.length) (ho : w'.ownsRow base e sz v' (xs.length + ys.length) (cells ++ news))
    (h1 : ∀ u ∈ cells, u.oneCell' = true) (h2 : ∀ u ∈ news, u.oneCell' = true)
    (hc : ∀ i x, xs[i]? = some x → R F w' (chunk sz i cells) x) (hn : ∀ i x, ys[i]? = some x → R F w' (chunk sz i news) x) : OwnS R sz base e F w' v' (xs ++ ys) := by
  refine ⟨cells ++ news, by rw [List.length_append]; exact ho, ?_, ?_⟩
  · intro u hu
    rcases List.mem_append.1 hu with h | h
    · exact h1 u h
    · exact h2 u h
  · intro i x hxx
    rcases Nat.lt_or_ge i xs.length with hi | hi
    · rw [List.getElem?_append_left hi] at hxx
      rw [chunk_app_left hx.symm hi]
      exact hc i x hxx
    · rw [List.getElem?_append_right hi] at hxx
      rw [chunk_app_right hx.symm hi]
      exact hn _ x hxx

theorem OwnS.block (h : OwnS R sz base e F w v xs) : ∀ g, v.ownBlock = some g → base ≤ g ∧ g < w.heap.size := by
  obtain ⟨cells, ho, _⟩ := h
  exact ho.lt

/-- What is owned stays owned while other blocks turn. -/
theorem OwnS.keep (ok : RepOk R sz) (h : OwnS R sz base e F w v xs) (hb : ∀ g, v.ownBlock = some g → w'.heap[g]? = w.heap[g]?) (hs : SameOn F w w') : OwnS R sz base e F w' v xs := by
  obtain ⟨cells, ho, h1, hc⟩ := h
  refine ⟨cells, ⟨ho.1, ?_⟩, h1, fun i x hx => ok.keep (hc i x hx) hs⟩
  rcases ho.2 with hn | ⟨g, cap, cur, rfl, hg, hh, rest⟩
  · exact .inl hn
  · exact .inr ⟨g, cap, cur, rfl, hg, by rw [hb g rfl]; exact hh, rest⟩
theorem OwnS.below (ok : RepOk R sz) (h : OwnS R sz base e F w v xs) (hb : Below w.heap.size w w') : OwnS R sz base e F w' v xs :=
  h.keep ok (fun g hg => hb.block g (h.block g hg).2) (SameOn.of_below hb)

theorem OwnS.rebase {base' : Nat} (h : OwnS R sz base e F w v xs) (hb : base' ≤ base) : OwnS R sz base' e F w v xs := by
  obtain ⟨cells, ho, h1, hc⟩ := h
  refine ⟨cells, ⟨ho.1, ?_⟩, h1, hc⟩
  rcases ho.2 with hn | ⟨g, cap, cur, rfl, hg, rest⟩
  · exact .inl hn
  · exact .inr ⟨g, cap, cur, rfl, by omega, rest⟩
theorem OwnS.new (ok : RepOk R sz) (h : OwnS R sz base e F w v xs) (o : Obj) : OwnS R sz base e F (w.alloc o) v xs := h.below ok (bnew (Below.refl _ _) o)
theorem OwnS.draw (ok : RepOk R sz) (h : OwnS R sz base e F w v xs) : OwnS R sz base e F w.drew v xs := h.keep ok (fun _ _ => rfl) fun _ _ _ => rfl
/-- As a slice. -/
theorem OwnS.slice (ok : RepOk R sz) (h : OwnS R sz base e F w v xs) : ∃ oa c, v = .slice oa xs.length c ∧ xs.length ≤ c ∧ SliceR R sz (fun k => F k ∨ base ≤ k) w oa xs := by
  obtain ⟨cells, ho, h1, hc⟩ := h
  rcases ho.2 with ⟨rfl, hn⟩ | ⟨g, cap, cur, rfl, hg, hh, hle, _, hcs, htake⟩
  · have : xs = [] := List.eq_nil_of_length_eq_zero hn
    subst this
    exact ⟨none, 0, rfl, by simp, SliceR.nil _ _ _ _ _⟩
  · refine ⟨_, cap, rfl, hle, fun i x hx => ⟨g, 0, chunk sz i cells, rfl, .inr hg, ok.wide (hc i x hx) fun _ h _ => .inl h, fun j u hu => ?_⟩⟩
    obtain ⟨hj, hu⟩ := chunk_get hu
    have hi : i < xs.length := (List.getElem?_eq_some_iff.1 hx).1
    rw [cell_of_row w g _ cur e (0, 0) hh]
    rw [← htake, List.getElem?_take] at hu
    split at hu
    · rw [show 0 + i * sz + j = i * sz + j from by omega]
      simpa using hu
    · cases hu
end

/-- The arm for 'out = append(out, src...)'. -/
theorem wpList_append_rep {α : Type} {R : Rep α} {P : Program} {w : World} {ops : Array Oper} {rest : List Oper} {o : Oper} {a : Act} {Q : Exit → Act → World → Prop} (hgd : o.guard = none) (s x : Operand) (t : TypeId)
    (ho : o.op = .call { callee := .builtin .append, args := #[s, x], argTypes := #[t, t] })
    (base : Nat) (e : TypeId) (z : Value) (size bytes : Nat) (ht : P.underlying t = some (.slice e)) (hinfo : (P.info? e).map (fun i => (i.zero, i.size, i.bytes)) = some (some z, size, bytes))
    (hzs : z.cells.size = size) (hsz : 0 < size) (ok : RepOk R size)
    (F G : Foot) (v : Value) (xs : List α) (hs : a.eval s = v) (hown : OwnS R size base e F w v xs)
    (oa : Option Addr) (c : Nat) (ys : List α) (hx : a.eval x = .slice oa ys.length c) (hsrc : SliceR R size G w oa ys) (hW : ∀ cs x, R G w cs x → R F w cs x) (hF : ∀ k, F k → k < base)
    (hbytes : (xs.length + ys.length) * bytes ≤ 140737488355328) (hm : xs.length + ys.length ≤ 9223372036854775807) (hbase : base ≤ w.heap.size)
    (h : ∀ v' w', OwnS R size base e F w' v' (xs ++ ys) → Below base w w' → w.grownBy w' v.ownBlock → wpList P ops Q rest (a.put o.dst v') w') : wpList P ops Q (o :: rest) a w := by
  obtain ⟨i0, hi, hz0, hz1, hz2⟩ := info_parts hinfo
  obtain ⟨cells, hown0, h1, hc⟩ := hown
  obtain ⟨news, hn1, hn2, hn3, hn4⟩ := hsrc.cells ok
  refine wpList_append_src w hgd s x t ho base e i0 z size bytes ht hi hz0 hz1 hz2 hzs hsz v xs.length cells hs hown0 oa ys.length c news hx hn1 hn2 hn3 (by unfold maxLen; omega) hbytes hbase fun v' w' ho' hg => ?_
  have hb : Below base w w' := (Below.refl base w).grown hg hbase fun k hk => (hown0.lt k hk).1
  have hsame : SameOn F w w' := fun k hk _ => hb.block k (hF k hk)
  refine h v' w' (OwnS.app hown0.1.symm ho' h1 hn3 (fun i x hx => ok.keep (hc i x hx) hsame) (fun i x hx => ok.keep (hW _ _ (hn4 i x hx)) hsame)) hb hg

end Go.Proofs.YtpgopmmobbemcaaGreat

set_option linter.unusedVariables false
namespace Go.Proofs.YtpgopmmobbemcaaGreat
open Go.RowKit

theorem flatten_get {sz : Nat} : ∀ {css : List (List Value)}, (∀ cs ∈ css, cs.length = sz) → ∀ {i : Nat} {cs : List Value}, css[i]? = some cs → ∀ {j : Nat} {u : Value}, cs[j]? = some u → css.flatten[i * sz + j]? = some u
  | [], _, i, cs, h, _, _, _ => by simp at h
  | c :: r, hl, 0, cs, h, j, u, hj => by
    simp at h
    subst h
    have h1 : j < c.length := (List.getElem?_eq_some_iff.1 hj).1
    rw [List.flatten_cons, Nat.zero_mul, Nat.zero_add, List.getElem?_append_left h1]
    exact hj
  | c :: r, hl, i + 1, cs, h, j, u, hj => by
    have h1 := hl c (by simp)
    have h2 := flatten_get (css := r) (fun x hx => hl x (by simp [hx])) (i := i) (cs := cs) (by simpa using h) hj
    rw [List.flatten_cons, List.getElem?_append_right (by rw [h1, Nat.succ_mul]; omega), h1]
    rw [show (i + 1) * sz + j - sz = i * sz + j from by rw [Nat.succ_mul]; omega]
    exact h2

theorem SliceR.lit {α : Type} {R : Rep α} {sz : Nat} {F G : Foot} (ok : RepOk R sz) (w : World) (e : TypeId) (css : List (List Value)) (xs : List α)
    (h : ∀ (i : Nat) (x : α), xs[i]? = some x → ∃ cs, css[i]? = some cs ∧ R F w cs x) (hl : css.length = xs.length) (hFG : ∀ k, F k → G k) (hG : G w.heap.size) :
    SliceR R sz G (w.alloc (.cells css.flatten.toArray e)) (some ⟨w.heap.size, 0, none⟩) xs := by
  have hlen : ∀ cs ∈ css, cs.length = sz := by
    intro cs hcs
    obtain ⟨i, hi, rfl⟩ := List.getElem_of_mem hcs
    obtain ⟨cs, hc, hR⟩ := h i _ (List.getElem?_eq_getElem (by omega))
    rw [List.getElem?_eq_getElem hi] at hc
    injection hc with hc
    rw [hc]
    exact ok.len hR
  intro i x hx
  obtain ⟨cs, hcs, hR⟩ := h i x hx
  refine ⟨w.heap.size, 0, cs, rfl, hG, ok.keep (ok.wide hR fun k hk _ => hFG k hk) (SameOn.of_below (bnew (Below.refl _ _) _)), fun j u hu => ?_⟩
  rw [cell_of_row (w.alloc (.cells css.flatten.toArray e)) w.heap.size _ _ e (0, 0) (heap_alloc_new w _)]
  have := flatten_get hlen hcs hu
  rw [show 0 + i * sz + j = i * sz + j from by omega]
  simpa using this

theorem ints_lit {F G : Foot} (w : World) (e : TypeId) (xs : List Int) (h : ∀ x ∈ xs, I64 x) (hG : G w.heap.size) : SliceR intR 1 G (w.alloc (.cells (xs.map (Value.int .i64)).toArray e)) (some ⟨w.heap.size, 0, none⟩) xs := by
  have h1 : xs.map (Value.int .i64) = (xs.map fun x => [Value.int .i64 x]).flatten := by
    induction xs with
    | nil => rfl
    | cons x r ih => simp [ih fun y hy => h y (by simp [hy])]
  rw [h1]
  refine SliceR.lit (F := fun _ => False) intR_ok w e _ xs (fun i x hx => ⟨[.int .i64 x], by simp [hx], rfl, h x (List.mem_of_getElem? hx)⟩) (by simp) (fun _ h => h.elim) hG

/-- The list of ints that a literal lays, as the call's own. -/
theorem OwnS.ints (w : World) (e : TypeId) (xs : List Int) (h : ∀ x ∈ xs, I64 x) (hl : xs.length ≤ 1000000000000) :
    OwnS intR 1 w.heap.size e Non (w.alloc (.cells (xs.map (Value.int .i64)).toArray e)) (.slice (some ⟨w.heap.size, 0, none⟩) xs.length xs.length) xs := by
  have h1 := World.ownsRow_lit (base := w.heap.size) (e := e) (size := 1) w (xs.map (Value.int .i64)).toArray xs.length (Nat.le_refl _) (by unfold maxLen; omega) (by simp)
  refine ⟨xs.map (Value.int .i64), by simpa using h1, ?_, ?_⟩
  · intro u hu
    obtain ⟨x, _, rfl⟩ := List.mem_map.1 hu
    rfl
  · intro i x hx
    refine ⟨?_, h x (List.mem_of_getElem? hx)⟩
    apply List.ext_getElem?
    intro j
    unfold chunk
    rw [List.getElem?_take]
    split
    · have : j = 0 := by omega
      subst this
      simp [hx]
    · rw [List.getElem?_eq_none (by simp; omega)]

end Go.Proofs.YtpgopmmobbemcaaGreat

set_option linter.unusedVariables false
set_option linter.unusedSimpArgs false
namespace Go.Proofs.YtpgopmmobbemcaaGreat
open Go.RowKit

def Box (w : World) (B : Nat) (cs : List Value) (t : TypeId) : Prop := w.heap[B]? = some (.cells cs.toArray t (0, 0))
theorem cell_next {w : World} {a : Addr} {v : Value} (h : w.cell? a = some v) (o : Obj) : (w.alloc o).cell? a = some v := (World.cell?_alloc_lt w o a (World.block_lt_of_cell? _ _ h)).trans h
section
variable {w w' : World} {B : Nat} {cs : List Value} {t : TypeId}
theorem Box.lt (h : Box w B cs t) : B < w.heap.size := (Array.getElem?_eq_some_iff.1 h).1
theorem Box.cell (h : Box w B cs t) (i : Nat) : w.cell? ⟨B, i, none⟩ = cs[i]? := by
  rw [cell_of_row w B i _ t (0, 0) h]
  simp
theorem Box.free (h : Box w B cs t) (i : Nat) : w.frozen? ⟨B, i, none⟩ = false := frozen_of_row w B i _ _ h
theorem Box.keep (h : Box w B cs t) (hb : w'.heap[B]? = w.heap[B]?) : Box w' B cs t := hb.trans h
theorem Box.below (h : Box w B cs t) (hb : Below w.heap.size w w') : Box w' B cs t := h.keep (hb.block B h.lt)
theorem Box.under {n : Nat} (h : Box w B cs t) (hb : Below n w w') (hn : B < n) : Box w' B cs t := h.keep (hb.block B hn)
theorem Box.next (h : Box w B cs t) (o : Obj) : Box (w.alloc o) B cs t := h.below (bnew (Below.refl _ _) o)
theorem Box.draw (h : Box w B cs t) : Box w.drew B cs t := h
theorem Box.new (w : World) (cs : List Value) (t : TypeId) : Box (w.alloc (.cells cs.toArray t)) w.heap.size cs t := heap_alloc_new w _
theorem Box.put (h : Box w B cs t) (i : Nat) (v : Value) : Box (w.setCell ⟨B, i, none⟩ v) B (cs.set i v) t := by
  unfold Box at h ⊢
  simp [World.setCell, Array.getElem?_modify, h]
theorem Box.other (h : Box w B cs t) {p : Addr} (hp : B ≠ p.block) (u : Value) : Box (w.setCell p u) B cs t := h.keep (Below.heap_setCell w p u B hp)
theorem Box.grown {o : Option Nat} (h : Box w B cs t) (hg : w.grownBy w' o) (hne : some B ≠ o) : Box w' B cs t := h.keep (hg.block B h.lt hne)
end

end Go.Proofs.YtpgopmmobbemcaaGreat

set_option linter.unusedVariables false
set_option linter.unusedSimpArgs false
namespace Go.Proofs.YtpgopmmobbemcaaGreat
open Go.RowKit

theorem cmpC_any (x y : Int) (w : World) : Calls Tryz.prog 124 #[.int .i64 x, .int .i64 y] w fun e w' => e = .returned (.int .i64 (cmpI x y)) ∧ w = w' := by
  have h1 : (x != x) = false := by simp
  have h2 : (y != y) = false := by simp
  by_cases h : x < y
  · have HR : Hid (cmpI x y = -1) := by show _ = _; simp [cmpI, h]
    go_enter Tryz.func124, Tryz.ntmps124
    go_wp2
    go_ret
    exact ⟨ret_int HR.out.symm, rfl⟩
  · by_cases h' : y < x
    · have HR : Hid (cmpI x y = 1) := by show _ = _; simp [cmpI, h, h']
      go_enter Tryz.func124, Tryz.ntmps124
      go_wp2
      go_ret
      exact ⟨ret_int HR.out.symm, rfl⟩
    · have HR : Hid (cmpI x y = 0) := by show _ = _; simp [cmpI, h, h']
      go_enter Tryz.func124, Tryz.ntmps124
      go_wp2
      go_ret
      exact ⟨ret_int HR.out.symm, rfl⟩

def orI (x y : Int) : Int := if x = 0 then y else x
theorem orI_zero {x y : Int} (h : x = 0) : orI x y = y := if_pos h
theorem orI_ne {x y : Int} (h : ¬ x = 0) : orI x y = x := if_neg h
theorem or2_any (x y : Int) (b : Nat) (w : World) (c0 : w.cell? ⟨b, 0, none⟩ = some (.int .i64 x)) (c1 : w.cell? ⟨b, 1, none⟩ = some (.int .i64 y)) :
    Calls Tryz.prog 157 #[.slice (some ⟨b, 0, none⟩) 2 2] w fun e w' => e = .returned (.int .i64 (orI x y)) ∧ w = w' := by
  go_enter Tryz.func157, Tryz.ntmps157
  go_wp2_with fail
  go_loop [8] (fun i => ∃ k : Nat, k ≤ 2 ∧ i = .int .i64 k ∧ Hid (0 < k → x = 0) ∧ Hid (1 < k → y = 0)) (fun i => 2 - (intOf i).toNat)
  case atStart => exact ⟨0, by omega, rfl, fun h => by omega, fun h => by omega⟩
  case round =>
    obtain ⟨k, hk, rfl, HX, HY⟩ := hrel
    match k, hk with
    | 0, _ =>
      by_cases hx : x = 0
      · have hq : (x != 0) = false := by simp [hx]
        have HH := hide hx
        clear hx
        go_wp2_with fail
        go_round
        case rel => exact ⟨1, by omega, by go_num, fun _ => HH.out, fun h => by omega⟩
        case measure => simp [intOf]
      · have hq : (x != 0) = true := by simp [hx]
        have HH := hide hx
        clear hx
        go_wp2_with fail
        go_ret
        exact ⟨ret_int ((orI_ne HH.out).symm), rfl⟩
    | 1, _ =>
      have hx := HX.out (by omega)
      have HH := hide hx
      clear hx
      by_cases hy : y = 0
      · have hq : (y != 0) = false := by simp [hy]
        have HHY := hide hy
        clear hy
        go_wp2_with fail
        go_round
        case rel => exact ⟨2, by omega, by go_num, fun _ => HH.out, fun _ => HHY.out⟩
        case measure => simp [intOf]
      · have hq : (y != 0) = true := by simp [hy]
        have HHY := hide hy
        clear hy
        go_wp2_with fail
        go_ret
        exact ⟨ret_int ((orI_zero HH.out).symm), rfl⟩
    | 2, _ =>
      have HH := hide (HX.out (by omega))
      have HHY := hide (HY.out (by omega))
      clear HX HY
      go_wp2_with fail
      go_ret
      exact ⟨ret_int (by rw [orI_zero HH.out, HHY.out]), rfl⟩

set_option maxHeartbeats 1000000 in
theorem pcmp_any (a b c d : Int) (w : World) :
    Calls Tryz.prog 137 #[.agg #[.int .i64 a, .int .i64 b], .agg #[.int .i64 c, .int .i64 d]] w fun e w' => e = .returned (.int .i64 (cmpP (a, b) (c, d))) ∧ Below w.heap.size w w' := by
  have HR : Hid (cmpP (a, b) (c, d) = orI (cmpI a c) (cmpI b d)) := rfl
  go_enter Tryz.func137, Tryz.ntmps137
  go_wp2_with fail
  have hball : Below w.heap.size w ((w.alloc (.cells #[.int .i64 a, .int .i64 b] 175)).alloc (.cells #[.int .i64 c, .int .i64 d] 175)) := ((Below.refl w.heap.size w).alloc (Nat.le_refl _) _).alloc (by simp) _
  have B1 := (Box.new w [.int .i64 a, .int .i64 b] 175).next (.cells #[.int .i64 c, .int .i64 d] 175)
  have B2 := Box.new (w.alloc (.cells #[.int .i64 a, .int .i64 b] 175)) [.int .i64 c, .int .i64 d] 175
  rw [World.size_alloc] at B2
  generalize hWW : (w.alloc (.cells #[.int .i64 a, .int .i64 b] 175)).alloc (.cells #[.int .i64 c, .int .i64 d] 175) = WW at *
  have d0 := B1.cell 0
  have d1 := B1.cell 1
  have d2 := B2.cell 0
  have d3 := B2.cell 1
  simp at d0 d1 d2 d3
  clear B1 B2
  go_region_held3 (fun w' => w'.cell? ⟨w.heap.size, 0, none⟩ = some (.int .i64 a) ∧ w'.cell? ⟨w.heap.size, 1, none⟩ = some (.int .i64 b) ∧ w'.cell? ⟨w.heap.size + 1, 0, none⟩ = some (.int .i64 c) ∧ w'.cell? ⟨w.heap.size + 1, 1, none⟩ = some (.int .i64 d)) (first | exact ⟨d0, d1, d2, d3⟩ | exact ⟨cell_next d0 _, cell_next d1 _, cell_next d2 _, cell_next d3 _⟩)
    (first
      | (go_at_call 124; refine (cmpC_any _ _ _).mono ?_; rintro e w4 ⟨rfl, rfl⟩)
      | (go_at_call 157; refine (or2_any (cmpI a c) (cmpI b d) _ _ (by simp) (by simp)).mono ?_; rintro e w4 ⟨rfl, rfl⟩))
  all_goals
    go_wp2_with fail
    go_ret
    exact ⟨ret_int HR.out.symm, bnew hball.drew _⟩

theorem gvertex_any (n v : Int) (w : World) : Calls Tryz.prog 136 #[.int .i64 n, .int .i64 v] w fun e w' => e = .returned (.bool (vtxB n v)) ∧ w = w' := by
  by_cases h1 : 0 ≤ v
  · by_cases h2 : v < n
    · have HR : Hid (vtxB n v = true) := by show _ = _; simp [vtxB, h1, h2]
      go_enter Tryz.func136, Tryz.ntmps136
      go_wp2
      go_ret
      exact ⟨ret_bool HR.out.symm, rfl⟩
    · have HR : Hid (vtxB n v = false) := by show _ = _; simp [vtxB, h2]
      go_enter Tryz.func136, Tryz.ntmps136
      go_wp2
      go_ret
      exact ⟨ret_bool HR.out.symm, rfl⟩
  · have HR : Hid (vtxB n v = false) := by show _ = _; simp [vtxB, h1]
    have h2 : decide (0 ≤ v) = false := by simp [h1]
    go_enter Tryz.func136, Tryz.ntmps136
    go_wp2
    go_ret
    exact ⟨ret_bool HR.out.symm, rfl⟩
theorem rvertex_any (n v : Int) (oe : Option Addr) (k c : Nat) (w : World) : Calls Tryz.prog 75 #[.agg #[.int .i64 n, .slice oe k c], .int .i64 v] w fun e w' => e = .returned (.bool (vtxB n v)) ∧ Below w.heap.size w w' := by
  by_cases h1 : 0 ≤ v
  · by_cases h2 : v < n
    · have HR : Hid (vtxB n v = true) := by show _ = _; simp [vtxB, h1, h2]
      go_enter Tryz.func75, Tryz.ntmps75
      go_wp2
      go_ret
      exact ⟨ret_bool HR.out.symm, bnew (Below.refl _ _) _⟩
    · have HR : Hid (vtxB n v = false) := by show _ = _; simp [vtxB, h2]
      go_enter Tryz.func75, Tryz.ntmps75
      go_wp2
      go_ret
      exact ⟨ret_bool HR.out.symm, bnew (Below.refl _ _) _⟩
  · have HR : Hid (vtxB n v = false) := by show _ = _; simp [vtxB, h1]
    have h2 : decide (0 ≤ v) = false := by simp [h1]
    go_enter Tryz.func75, Tryz.ntmps75
    go_wp2
    go_ret
    exact ⟨ret_bool HR.out.symm, bnew (Below.refl _ _) _⟩

end Go.Proofs.YtpgopmmobbemcaaGreat

set_option linter.unusedVariables false
set_option linter.unusedSimpArgs false
namespace Go.Proofs.YtpgopmmobbemcaaGreat
open Go.RowKit

theorem edges_bad2 {n a b m : Int} {last : Int × Int} {r : List Edg} (h : ¬ (vtxB n a = true ∧ vtxB n b = true ∧ 1 ≤ m ∧ m ≤ 50)) : edgesErr n last (⟨a, b, m⟩ :: r) = 2 := by
  have h1 : edgeErr n last ⟨a, b, m⟩ = 2 := by
    unfold edgeErr
    rw [if_neg]
    simp only [Bool.and_eq_true, decide_eq_true_eq]
    intro h2; exact h ⟨h2.1.1.1, h2.1.1.2, h2.1.2, h2.2⟩
  simp [edgesErr, h1]
theorem edges_bad9 {n a b m : Int} {last : Int × Int} {r : List Edg} (h : vtxB n a = true ∧ vtxB n b = true ∧ 1 ≤ m ∧ m ≤ 50) (h2 : ¬ (a ≤ b ∧ cmpP last (a, b) < 0)) : edgesErr n last (⟨a, b, m⟩ :: r) = 9 := by
  have h1 : edgeErr n last ⟨a, b, m⟩ = 9 := by
    unfold edgeErr
    rw [if_pos, if_neg]
    · simp only [Bool.and_eq_true, decide_eq_true_eq]
      exact h2
    · simp only [Bool.and_eq_true, decide_eq_true_eq]
      exact ⟨⟨⟨h.1, h.2.1⟩, h.2.2.1⟩, h.2.2.2⟩
  simp [edgesErr, h1]
theorem edges_good {n a b m : Int} {last : Int × Int} {r : List Edg} (h : vtxB n a = true ∧ vtxB n b = true ∧ 1 ≤ m ∧ m ≤ 50) (h2 : a ≤ b ∧ cmpP last (a, b) < 0) : edgesErr n last (⟨a, b, m⟩ :: r) = edgesErr n (a, b) r := by
  have h1 : edgeErr n last ⟨a, b, m⟩ = 0 := by
    unfold edgeErr
    rw [if_pos, if_pos]
    · simp only [Bool.and_eq_true, decide_eq_true_eq]
      exact h2
    · simp only [Bool.and_eq_true, decide_eq_true_eq]
      exact ⟨⟨⟨h.1, h.2.1⟩, h.2.2.1⟩, h.2.2.2⟩
  simp [edgesErr, h1]

def ErrPost (w : World) (x : Int) (e : Ending) (w' : World) : Prop := e = .returned (.int .i64 x) ∧ Below w.heap.size w w'

set_option maxRecDepth 100000 in
set_option maxHeartbeats 4000000 in
theorem gcheck_any (n : Int) (es : List Edg) (oe : Option Addr) (c : Nat) (F : Foot) (w : World) (hs : SliceR edgR 3 F w oe es) (hc : es.length ≤ c) (hc2 : es.length ≤ 9223372036854775807) :
    Calls Tryz.prog 110 #[.agg #[.int .i64 n, .slice oe es.length c]] w (ErrPost w (gErr n es)) := by
  by_cases hn1 : n < 1
  · have HR : Hid (gErr n es = 2) := if_pos (.inl hn1)
    go_enter Tryz.func110, Tryz.ntmps110
    go_wp2_with fail
    go_ret
    exact ⟨ret_int HR.out.symm, bnew (Below.refl _ _) _⟩
  by_cases hn2 : 12 < n
  · have HR : Hid (gErr n es = 2) := if_pos (.inr hn2)
    go_enter Tryz.func110, Tryz.ntmps110
    go_wp2_with fail
    go_ret
    exact ⟨ret_int HR.out.symm, bnew (Below.refl _ _) _⟩
  have HR : Hid (gErr n es = edgesErr n (-1, -1) es) := if_neg (by omega)
  have hnb1 : 1 ≤ n := by omega
  have hnb2 : n ≤ 12 := by omega
  clear hn1 hn2
  go_enter Tryz.func110, Tryz.ntmps110
  go_wp2_with fail
  have hb0 := box_new (box_refl w (.cells #[.int .i64 n, .slice oe es.length c] 24)) (by simp) (.cells #[.int .i64 (-1), .int .i64 (-1)] 175)
  have hl0 := Box.new (w.alloc (.cells #[.int .i64 n, .slice oe es.length c] 24)) [.int .i64 (-1), .int .i64 (-1)] 175
  rw [World.size_alloc] at hl0
  go_loopw [19] (fun iv wr => ∃ (k : Nat) (la lb : Int), k ≤ es.length ∧ iv = .int .i64 k ∧ Hid (edgesErr n (-1, -1) es = edgesErr n (la, lb) (es.drop k)) ∧ Box wr (w.heap.size + 1) [.int .i64 la, .int .i64 lb] 175 ∧
     Below (w.heap.size + 1) (w.alloc (.cells #[.int .i64 n, .slice oe es.length c] 24)) wr) (fun i _ => es.length - (intOf i).toNat)
  case atStart => exact ⟨0, -1, -1, by omega, rfl, rfl, hl0, hb0⟩
  case round =>
    obtain ⟨k, la, lb, hk, rfl, HE, hl, hb⟩ := hrel
    have d0 := box_cell hb 0
    have d1 := box_cell hb 1
    have l0 := hl.cell 0
    have l1 := hl.cell 1
    simp at d0 d1 l0 l1
    have lf0 := hl.free 0
    have lf1 := hl.free 1
    have hsz := box_lt hb
    have hsz2 := hl.lt
    by_cases hlt : k < es.length
    · obtain ⟨a, b, m, hd, _, _, _, _, bl, off, rfl, _, c0, c1, c2⟩ := (hs.below edgR_ok (below_box hb)).edg_at hlt
      have hl1 := (hl.next (.cells #[.int .i64 a, .int .i64 b, .int .i64 m] 123)).next (.cells #[.int .i64 a, .int .i64 b] 175)
      rw [hd] at HE
      clear hd hs hl
      by_cases hg : vtxB n a = true ∧ vtxB n b = true ∧ 1 ≤ m ∧ m ≤ 50
      case neg =>
        have HX : Hid (gErr n es = 2) := by show _ = _; rw [HR.out, HE.out, edges_bad2 hg]
        clear HE
        have ways : vtxB n a = false ∨ (vtxB n a = true ∧ vtxB n b = false) ∨ (vtxB n a = true ∧ vtxB n b = true ∧ m < 1) ∨ (vtxB n a = true ∧ vtxB n b = true ∧ 1 ≤ m ∧ 50 < m) := by
          cases hva : vtxB n a
          · exact .inl rfl
          · cases hvb : vtxB n b
            · exact .inr (.inl ⟨rfl, rfl⟩)
            · by_cases h1 : m < 1
              · exact .inr (.inr (.inl ⟨rfl, rfl, h1⟩))
              · by_cases h2 : 50 < m
                · exact .inr (.inr (.inr ⟨rfl, rfl, by omega, h2⟩))
                · exact absurd ⟨hva, hvb, by omega, by omega⟩ hg
        clear hg
        rcases ways with h1 | ⟨h1, h2⟩ | ⟨h1, h2, h3⟩ | ⟨h1, h2, h3, h4⟩
        all_goals
          go_wp2_with (go_at_call 136; refine (gvertex_any _ _ _).mono ?_; rintro e w' ⟨rfl, rfl⟩)
          go_ret
          exact ⟨ret_int HX.out.symm, below_box (box_new (box_new hb (by simp) _) (by simp) _)⟩
      case pos =>
        by_cases ho : a ≤ b ∧ cmpP (la, lb) (a, b) < 0
        case neg =>
          have HX : Hid (gErr n es = 9) := by show _ = _; rw [HR.out, HE.out, edges_bad9 hg ho]
          clear HE
          obtain ⟨h1, h2, h3, h4⟩ := hg
          by_cases hab : b < a
          · clear ho
            go_wp2_with (go_at_call 136; refine (gvertex_any _ _ _).mono ?_; rintro e w' ⟨rfl, rfl⟩)
            go_ret
            exact ⟨ret_int HX.out.symm, below_box (box_new (box_new hb (by simp) _) (by simp) _)⟩
          · have hcc : 0 ≤ cmpP (la, lb) (a, b) := by omega
            have hab' : a ≤ b := by omega
            clear ho hab
            go_wp2_with (first
              | (go_at_call 136; refine (gvertex_any _ _ _).mono ?_; rintro e w' ⟨rfl, rfl⟩)
              | (go_at_call 137; refine (pcmp_any _ _ _ _ _).mono ?_; rintro e w4 ⟨rfl, hb4⟩))
            go_ret
            exact ⟨ret_int HX.out.symm, below_box (box_then (box_new (box_new hb (by simp) _) (by simp) _) (by simp) hb4)⟩
        case pos =>
          have HX := hide (HE.out.trans (edges_good hg ho))
          clear HE
          obtain ⟨h1, h2, h3, h4⟩ := hg
          obtain ⟨hab, hcc⟩ := ho
          have hcc2 : decide (0 ≤ cmpP (la, lb) (a, b)) = false := by simp; omega
          go_wp2_with (go_at_call 136; refine (gvertex_any _ _ _).mono ?_; rintro e w' ⟨rfl, rfl⟩)
          refine (pcmp_any _ _ _ _ _).mono ?_
          rintro e w4 ⟨rfl, hb4⟩
          have hp4 := (Box.new (wr.alloc (.cells #[.int .i64 a, .int .i64 b, .int .i64 m] 123)) [.int .i64 a, .int .i64 b] 175).below hb4
          rw [World.size_alloc] at hp4
          have hl4 := hl1.below hb4
          have hx4 := box_then (box_new (box_new hb (by simp) (.cells #[.int .i64 a, .int .i64 b, .int .i64 m] 123)) (by simp) (.cells #[.int .i64 a, .int .i64 b] 175)) (by simp) hb4
          have hsz4 := hl4.lt
          have q0 := hl4.cell 0
          have q1 := hl4.cell 1
          have qf0 := hl4.free 0
          have qf1 := hl4.free 1
          have p0 := hp4.cell 0
          have p1 := hp4.cell 1
          simp at q0 q1 p0 p1
          have hl5 := (hl4.put 0 (.int .i64 a)).put 1 (.int .i64 b)
          simp only [List.set_cons_zero, List.set_cons_succ] at hl5
          clear hl4 hp4 hb4 hl1
          go_wp2_with fail
          go_roundw
          case rel => exact ⟨k + 1, a, b, by omega, by go_num, HX, hl5, (hx4.setCell (p := ⟨w.heap.size + 1, 0, none⟩) (Nat.le_refl _) _).setCell (p := ⟨w.heap.size + 1, 1, none⟩) (Nat.le_refl _) _⟩
          case measure => simp [intOf]; omega
    · have HX : Hid (gErr n es = 0) := by show _ = _; rw [HR.out, HE.out, List.drop_eq_nil_of_le (by omega)]; rfl
      go_wp2_with fail
      go_ret
      exact ⟨ret_int HX.out.symm, below_box hb⟩

end Go.Proofs.YtpgopmmobbemcaaGreat

set_option linter.unusedVariables false
set_option linter.unusedSimpArgs false
namespace Go.Proofs.YtpgopmmobbemcaaGreat
open Go.RowKit

/-- The edge behind another one. -/
def edgeAt (n : Int) (es : List Edg) (k : Nat) : Int := edgeErr n (if k = 0 then (-1, -1) else ((es.getD (k - 1) ⟨0, 0, 0⟩).a, (es.getD (k - 1) ⟨0, 0, 0⟩).b)) (es.getD k ⟨0, 0, 0⟩)

theorem edgeAt_two {n : Int} {es : List Edg} {k : Nat} {a b m : Int} (hk : es[k]? = some ⟨a, b, m⟩) (h : ¬ (vtxB n a = true ∧ vtxB n b = true ∧ 1 ≤ m ∧ m ≤ 50)) : edgeAt n es k = 2 := by
  have h0 : es.getD k ⟨0, 0, 0⟩ = ⟨a, b, m⟩ := by rw [List.getD_eq_getElem?_getD, hk]; rfl
  unfold edgeAt
  rw [h0]
  unfold edgeErr
  rw [if_neg]
  simp only [Bool.and_eq_true, decide_eq_true_eq]
  intro h2
  exact h ⟨h2.1.1.1, h2.1.1.2, h2.1.2, h2.2⟩
theorem edgeAt_ok {n : Int} {es : List Edg} {k : Nat} {a b m : Int} {last : Int × Int} (hk : es[k]? = some ⟨a, b, m⟩) (h : vtxB n a = true ∧ vtxB n b = true ∧ 1 ≤ m ∧ m ≤ 50)
    (hl : last = if k = 0 then (-1, -1) else ((es.getD (k - 1) ⟨0, 0, 0⟩).a, (es.getD (k - 1) ⟨0, 0, 0⟩).b)) : (a ≤ b ∧ cmpP last (a, b) < 0 → edgeAt n es k = 0) ∧ (¬ (a ≤ b ∧ cmpP last (a, b) < 0) → edgeAt n es k = 9) := by
  have h0 : es.getD k ⟨0, 0, 0⟩ = ⟨a, b, m⟩ := by rw [List.getD_eq_getElem?_getD, hk]; rfl
  unfold edgeAt
  rw [h0, ← hl]
  unfold edgeErr
  rw [if_pos (by simp only [Bool.and_eq_true, decide_eq_true_eq]; exact ⟨⟨⟨h.1, h.2.1⟩, h.2.2.1⟩, h.2.2.2⟩)]
  constructor
  · intro h2; rw [if_pos (by simp only [Bool.and_eq_true, decide_eq_true_eq]; exact h2)]
  · intro h2; rw [if_neg (by simp only [Bool.and_eq_true, decide_eq_true_eq]; exact h2)]
theorem first_ok {a b : Int} (ha : 0 ≤ a) : cmpP (-1, -1) (a, b) < 0 := cmpP_neg.2 (.inl (by simp only; omega))

theorem not_errI {a : Int} (h : a ≠ 0) : (a != 0) = true := by simp [h]
theorem is_errI {a : Int} (h : a = 0) : (a != 0) = false := by simp [h]

set_option maxRecDepth 100000 in
set_option maxHeartbeats 4000000 in
theorem redge_first {n a b m : Int} {es : List Edg} {oe : Option Addr} {c k bl off : Nat} {w : World} (hoe : oe = some ⟨bl, off, none⟩) (hc : es.length ≤ c) (hc2 : es.length ≤ 9223372036854775807) (hk : k < es.length)
    (c0 : w.cell? ⟨bl, off + k * 3, none⟩ = some (.int .i64 a)) (c1 : w.cell? ⟨bl, off + k * 3 + 1, none⟩ = some (.int .i64 b)) (c2 : w.cell? ⟨bl, off + k * 3 + 2, none⟩ = some (.int .i64 m)) (x : Int)
    (ways : (vtxB n a = false ∧ x = 2) ∨ (vtxB n a = true ∧ vtxB n b = false ∧ x = 2) ∨ (vtxB n a = true ∧ vtxB n b = true ∧ m < 1 ∧ x = 2) ∨ (vtxB n a = true ∧ vtxB n b = true ∧ 1 ≤ m ∧ 50 < m ∧ x = 2) ∨
      (vtxB n a = true ∧ vtxB n b = true ∧ 1 ≤ m ∧ m ≤ 50 ∧ b < a ∧ x = 9) ∨ (vtxB n a = true ∧ vtxB n b = true ∧ 1 ≤ m ∧ m ≤ 50 ∧ a ≤ b ∧ k = 0 ∧ x = 0)) :
    Calls Tryz.prog 132 #[.agg #[.int .i64 n, .slice oe es.length c], .int .i64 k] w (ErrPost w x) := by
  subst hoe
  have hb0 := box_refl w (.cells #[.int .i64 n, .slice (some ⟨bl, off, none⟩) es.length c] 24)
  have hb1 := box_new hb0 (by simp) (.cells #[.int .i64 a, .int .i64 b, .int .i64 m] 123)
  have B1' := Box.new (w.alloc (.cells #[.int .i64 n, .slice (some ⟨bl, off, none⟩) es.length c] 24)) [.int .i64 a, .int .i64 b, .int .i64 m] 123
  rw [World.size_alloc] at B1'
  have B1 := hide B1'
  have HB1 := hide hb1
  have hbl := World.block_lt_of_cell? _ _ c0
  simp only at hbl
  clear B1' hb0 hb1
  rcases ways with ⟨h1, hx⟩ | ways
  · have HX := hide hx
    clear hx
    go_enter Tryz.func132, Tryz.ntmps132
    go_wp2_with fail
    refine (rvertex_any _ _ _ _ _ _).mono ?_
    rintro e w3 ⟨rfl, hb3⟩
    have hx3 := box_then HB1.out (by simp) hb3
    have B3 := B1.out.below hb3
    have e0 := box_cell hx3 0
    have e1 := box_cell hx3 1
    have x0 := B3.cell 0
    have x1 := B3.cell 1
    have x2 := B3.cell 2
    simp at e0 e1 x0 x1 x2
    go_wp2_with fail
    go_ret
    exact ⟨ret_int HX.out.symm, below_box hx3⟩
  rcases ways with ⟨h1, h2, hx⟩ | ⟨h1, h2, h3, hx⟩ | ⟨h1, h2, h3, h4, hx⟩ | ⟨h1, h2, h3, h4, h5, hx⟩ | ⟨h1, h2, h3, h4, h5, h6, hx⟩
  case' inr.inr.inr.inr => subst h6; simp only [Nat.zero_mul, Nat.add_zero, Int.natCast_zero] at *
  all_goals
    have HX := hide hx
    clear hx
    go_enter Tryz.func132, Tryz.ntmps132
    go_wp2_with fail
    refine (rvertex_any _ _ _ _ _ _).mono ?_
    rintro e w3 ⟨rfl, hb3⟩
    have hx3 := box_then HB1.out (by simp) hb3
    have B3 := B1.out.below hb3
    have e0 := box_cell hx3 0
    have e1 := box_cell hx3 1
    have x0 := B3.cell 0
    have x1 := B3.cell 1
    have x2 := B3.cell 2
    simp at e0 e1 x0 x1 x2
    go_wp2_with fail
    refine (rvertex_any _ _ _ _ _ _).mono ?_
    rintro e w4 ⟨rfl, hb4⟩
    have hx4 := box_then hx3 (by simp) hb4
    have B4 := B3.below hb4
    clear e0 e1 x0 x1 x2
    have e0 := box_cell hx4 0
    have e1 := box_cell hx4 1
    have x0 := B4.cell 0
    have x1 := B4.cell 1
    have x2 := B4.cell 2
    simp at e0 e1 x0 x1 x2
    go_wp2_with fail
    go_ret
    exact ⟨ret_int HX.out.symm, below_box hx4⟩

set_option maxRecDepth 100000 in
set_option maxHeartbeats 4000000 in
theorem redge_next {n a b m ya yb ym : Int} {es : List Edg} {oe : Option Addr} {c k bl off : Nat} {w : World} (hoe : oe = some ⟨bl, off, none⟩) (hc : es.length ≤ c) (hc2 : es.length ≤ 9223372036854775807) (hk : k + 1 < es.length)
    (c0 : w.cell? ⟨bl, off + (k + 1) * 3, none⟩ = some (.int .i64 a)) (c1 : w.cell? ⟨bl, off + (k + 1) * 3 + 1, none⟩ = some (.int .i64 b)) (c2 : w.cell? ⟨bl, off + (k + 1) * 3 + 2, none⟩ = some (.int .i64 m))
    (y0 : w.cell? ⟨bl, off + k * 3, none⟩ = some (.int .i64 ya)) (y1 : w.cell? ⟨bl, off + k * 3 + 1, none⟩ = some (.int .i64 yb)) (y2 : w.cell? ⟨bl, off + k * 3 + 2, none⟩ = some (.int .i64 ym)) (x : Int)
    (h1 : vtxB n a = true) (h2 : vtxB n b = true) (h3 : 1 ≤ m) (h4 : m ≤ 50) (h5 : a ≤ b)
    (ways : (a < ya ∧ x = 9) ∨ (ya ≤ a ∧ (a == ya) = true ∧ b ≤ yb ∧ x = 9) ∨ (ya ≤ a ∧ (a == ya) = true ∧ yb < b ∧ x = 0) ∨ (ya ≤ a ∧ (a == ya) = false ∧ x = 0)) :
    Calls Tryz.prog 132 #[.agg #[.int .i64 n, .slice oe es.length c], .int .i64 ((k : Int) + 1)] w (ErrPost w x) := by
  subst hoe
  have hb0 := box_refl w (.cells #[.int .i64 n, .slice (some ⟨bl, off, none⟩) es.length c] 24)
  have hb1 := box_new hb0 (by simp) (.cells #[.int .i64 a, .int .i64 b, .int .i64 m] 123)
  have B1' := Box.new (w.alloc (.cells #[.int .i64 n, .slice (some ⟨bl, off, none⟩) es.length c] 24)) [.int .i64 a, .int .i64 b, .int .i64 m] 123
  rw [World.size_alloc] at B1'
  have B1 := hide B1'
  have HB1 := hide hb1
  have hbl := World.block_lt_of_cell? _ _ c0
  simp only at hbl
  clear B1' hb0 hb1
  rcases ways with ⟨h6, hx⟩ | ⟨h6, h7, h8, hx⟩ | ⟨h6, h7, h8, hx⟩ | ⟨h6, h7, hx⟩
  all_goals
    have HX := hide hx
    clear hx
    go_enter Tryz.func132, Tryz.ntmps132
    go_wp2_with fail
    refine (rvertex_any _ _ _ _ _ _).mono ?_
    rintro e w3 ⟨rfl, hb3⟩
    have hx3 := box_then HB1.out (by simp) hb3
    have B3 := B1.out.below hb3
    have e0 := box_cell hx3 0
    have e1 := box_cell hx3 1
    have x0 := B3.cell 0
    have x1 := B3.cell 1
    have x2 := B3.cell 2
    simp at e0 e1 x0 x1 x2
    go_wp2_with fail
    refine (rvertex_any _ _ _ _ _ _).mono ?_
    rintro e w4 ⟨rfl, hb4⟩
    have hx4 := box_then hx3 (by simp) hb4
    have B4 := B3.below hb4
    have hbb := below_box hx4
    clear e0 e1 x0 x1 x2
    have e0 := box_cell hx4 0
    have e1 := box_cell hx4 1
    have x0 := B4.cell 0
    have x1 := B4.cell 1
    have x2 := B4.cell 2
    simp at e0 e1 x0 x1 x2
    have z0 := (hbb.cell (World.block_lt_of_cell? _ _ y0)).trans y0
    have z1 := (hbb.cell (World.block_lt_of_cell? _ _ y1)).trans y1
    have z2 := (hbb.cell (World.block_lt_of_cell? _ _ y2)).trans y2
    have hs4 := B4.lt
    have hs5 := hbb.size
    have hbl4 : bl < w4.heap.size := by omega
    go_wp2_with fail
    go_ret
    exact ⟨ret_int HX.out.symm, bnew hbb _⟩

theorem redge_any (n : Int) (es : List Edg) (oe : Option Addr) (c : Nat) (k : Nat) (F : Foot) (w : World) (hs : SliceR edgR 3 F w oe es) (hc : es.length ≤ c) (hc2 : es.length ≤ 9223372036854775807) (hk : k < es.length) :
    Calls Tryz.prog 132 #[.agg #[.int .i64 n, .slice oe es.length c], .int .i64 k] w (ErrPost w (edgeAt n es k)) := by
  obtain ⟨a, b, m, hd, hget, _, _, _, bl, off, rfl, _, c0, c1, c2⟩ := hs.edg_at hk
  by_cases hg : vtxB n a = true ∧ vtxB n b = true ∧ 1 ≤ m ∧ m ≤ 50
  case neg =>
    rw [edgeAt_two hget hg]
    refine redge_first rfl hc hc2 hk c0 c1 c2 2 ?_
    cases hva : vtxB n a
    · exact .inl ⟨rfl, rfl⟩
    · cases hvb : vtxB n b
      · exact .inr (.inl ⟨rfl, rfl, rfl⟩)
      · by_cases h1 : m < 1
        · exact .inr (.inr (.inl ⟨rfl, rfl, h1, rfl⟩))
        · by_cases h2 : 50 < m
          · exact .inr (.inr (.inr (.inl ⟨rfl, rfl, by omega, h2, rfl⟩)))
          · exact absurd ⟨hva, hvb, by omega, by omega⟩ hg
  case pos =>
    obtain ⟨h1, h2, h3, h4⟩ := hg
    by_cases hab : b < a
    · have := (edgeAt_ok hget ⟨h1, h2, h3, h4⟩ rfl).2 (by omega)
      rw [this]
      exact redge_first rfl hc hc2 hk c0 c1 c2 9 (.inr (.inr (.inr (.inr (.inl ⟨h1, h2, h3, h4, hab, rfl⟩)))))
    · match k, hk, hget, c0, c1, c2 with
      | 0, hk, hget, c0, c1, c2 =>
        have := (edgeAt_ok hget ⟨h1, h2, h3, h4⟩ rfl).1 ⟨by omega, first_ok (vtxB_iff.1 h1).1⟩
        rw [this]
        exact redge_first rfl hc hc2 hk c0 c1 c2 0 (.inr (.inr (.inr (.inr (.inr ⟨h1, h2, h3, h4, by omega, rfl, rfl⟩)))))
      | k + 1, hk, hget, c0, c1, c2 =>
        obtain ⟨ya, yb, ym, _, hgy, _, _, _, bl', off', he, _, y0, y1, y2⟩ := hs.edg_at (show k < es.length by omega)
        injection he with he
        injection he with e1 e2
        subst e1 e2
        have hok := edgeAt_ok (last := (ya, yb)) hget ⟨h1, h2, h3, h4⟩ (by
          rw [if_neg (by omega), Nat.add_sub_cancel, List.getD_eq_getElem?_getD, hgy]; rfl)
        rw [show ((k + 1 : Nat) : Int) = (k : Int) + 1 from by omega]
        have hcp := cmpP_neg (p := (ya, yb)) (q := (a, b))
        simp only at hcp
        by_cases e1 : a < ya
        · rw [hok.2 (by rw [hcp]; omega)]
          exact redge_next rfl hc hc2 hk c0 c1 c2 y0 y1 y2 9 h1 h2 h3 h4 (by omega) (.inl ⟨e1, rfl⟩)
        · by_cases e2 : a = ya
          · by_cases e3 : b ≤ yb
            · rw [hok.2 (by rw [hcp]; omega)]
              exact redge_next rfl hc hc2 hk c0 c1 c2 y0 y1 y2 9 h1 h2 h3 h4 (by omega) (.inr (.inl ⟨by omega, by simp [e2], e3, rfl⟩))
            · rw [hok.1 (by rw [hcp]; omega)]
              exact redge_next rfl hc hc2 hk c0 c1 c2 y0 y1 y2 0 h1 h2 h3 h4 (by omega) (.inr (.inr (.inl ⟨by omega, by simp [e2], by omega, rfl⟩)))
          · rw [hok.1 (by rw [hcp]; omega)]
            exact redge_next rfl hc hc2 hk c0 c1 c2 y0 y1 y2 0 h1 h2 h3 h4 (by omega) (.inr (.inr (.inr ⟨by omega, by simp [e2], rfl⟩)))

/-- All edges from k on. -/
def edgesFrom (n : Int) (es : List Edg) : Nat → Nat → Int
  | 0, _ => 0
  | j + 1, k => if edgeAt n es k = 0 then edgesFrom n es j (k + 1) else edgeAt n es k
theorem edgesFrom_eq (n : Int) (es : List Edg) : ∀ j k, k + j = es.length → edgesFrom n es j k = edgesErr n (if k = 0 then (-1, -1) else ((es.getD (k - 1) ⟨0, 0, 0⟩).a, (es.getD (k - 1) ⟨0, 0, 0⟩).b)) (es.drop k)
  | 0, k, h => by rw [List.drop_eq_nil_of_le (by omega)]; rfl
  | j + 1, k, h => by
    have hk : k < es.length := by omega
    rw [List.drop_eq_getElem_cons hk]
    unfold edgesFrom edgesErr
    have h0 : es.getD k ⟨0, 0, 0⟩ = es[k] := by rw [List.getD_eq_getElem?_getD, List.getElem?_eq_getElem hk]; rfl
    have h1 : edgeAt n es k = edgeErr n (if k = 0 then (-1, -1) else ((es.getD (k - 1) ⟨0, 0, 0⟩).a, (es.getD (k - 1) ⟨0, 0, 0⟩).b)) es[k] := by unfold edgeAt; rw [h0]
    rw [← h1, edgesFrom_eq n es j (k + 1) (by omega), if_neg (show ¬ k + 1 = 0 by omega), Nat.add_sub_cancel, h0]

set_option maxHeartbeats 1000000 in
theorem rgcheck_any (n : Int) (es : List Edg) (oe : Option Addr) (c : Nat) (F : Foot) (w : World) (hs : SliceR edgR 3 F w oe es) (hc : es.length ≤ c) (hc2 : es.length ≤ 9223372036854775807) :
    Calls Tryz.prog 107 #[.agg #[.int .i64 n, .slice oe es.length c]] w (ErrPost w (gErr n es)) := by
  by_cases hn1 : n < 1
  · have HR : Hid (gErr n es = 2) := if_pos (.inl hn1)
    go_enter Tryz.func107, Tryz.ntmps107
    go_wp2_with fail
    go_ret
    exact ⟨ret_int HR.out.symm, bnew (Below.refl _ _) _⟩
  by_cases hn2 : 12 < n
  · have HR : Hid (gErr n es = 2) := if_pos (.inr hn2)
    go_enter Tryz.func107, Tryz.ntmps107
    go_wp2_with fail
    go_ret
    exact ⟨ret_int HR.out.symm, bnew (Below.refl _ _) _⟩
  have HR : Hid (gErr n es = edgesFrom n es es.length 0) := by
    show _ = _
    rw [edgesFrom_eq n es es.length 0 (by omega)]
    exact if_neg (by omega)
  have hnb1 : 1 ≤ n := by omega
  have hnb2 : n ≤ 12 := by omega
  clear hn1 hn2
  go_enter Tryz.func107, Tryz.ntmps107
  go_wp2_with fail
  go_loopw [3] (fun iv wr => ∃ (k j : Nat), k + j = es.length ∧ iv = .int .i64 k ∧ Hid (gErr n es = edgesFrom n es j k) ∧
     Below (w.heap.size + 1) (w.alloc (.cells #[.int .i64 n, .slice oe es.length c] 24)) wr) (fun i _ => es.length - (intOf i).toNat)
  case atStart => exact ⟨0, es.length, by omega, rfl, HR, box_refl _ _⟩
  case round =>
    obtain ⟨k, j, hk, rfl, HE, hb⟩ := hrel
    have d0 := box_cell hb 0
    have d1 := box_cell hb 1
    simp at d0 d1
    by_cases hlt : k < es.length
    · obtain ⟨j, rfl⟩ : ∃ i, j = i + 1 := ⟨j - 1, by omega⟩
      go_wp2_with fail
      refine (redge_any n es oe c k F _ (hs.below edgR_ok (below_box hb)) hc hc2 hlt).mono ?_
      rintro e w3 ⟨rfl, hb3⟩
      by_cases hz : edgeAt n es k = 0
      · have hz1 := is_errI hz
        have HX : Hid (gErr n es = edgesFrom n es j (k + 1)) := by show _ = _; rw [HE.out, edgesFrom, if_pos hz]
        clear hz
        go_wp2_with fail
        go_roundw
        case rel => exact ⟨k + 1, j, by omega, by go_num, HX, box_then hb (by simp) hb3⟩
        case measure => simp [intOf]; omega
      · have hz1 := not_errI hz
        have HX : Hid (gErr n es = edgeAt n es k) := by show _ = _; rw [HE.out, edgesFrom, if_neg hz]
        clear hz
        go_wp2_with fail
        go_ret
        exact ⟨ret_int HX.out.symm, below_box (box_then hb (by simp) hb3)⟩
    · obtain rfl : j = 0 := by omega
      go_wp2_with fail
      go_ret
      exact ⟨ret_int HE.out.symm, below_box hb⟩

end Go.Proofs.YtpgopmmobbemcaaGreat

set_option linter.unusedVariables false
namespace Go.Proofs.YtpgopmmobbemcaaGreat
open Go.RowKit

/-- Block g holds f of xs, and behind them rest. -/
def Row1 {α : Type} (f : α → Value) (w : World) (g : Nat) (e : TypeId) (xs : List α) (rest : List Value) : Prop := w.heap[g]? = some (.cells (xs.map f ++ rest).toArray e (0, 0))

section
variable {α : Type} {f : α → Value} {w w' : World} {g : Nat} {e : TypeId} {xs : List α} {rest : List Value}
theorem Row1.lt (h : Row1 f w g e xs rest) : g < w.heap.size := (Array.getElem?_eq_some_iff.1 h).1
theorem Row1.cell (h : Row1 f w g e xs rest) {i : Nat} {x : α} (hi : xs[i]? = some x) : w.cell? ⟨g, i, none⟩ = some (f x) := by
  have hl : i < xs.length := (List.getElem?_eq_some_iff.1 hi).1
  rw [cell_of_row w g _ _ _ _ h]
  simp only [List.getElem?_toArray]
  rw [List.getElem?_append_left (by simpa using hl), List.getElem?_map, hi]
  rfl
theorem Row1.free (h : Row1 f w g e xs rest) (i : Nat) : w.frozen? ⟨g, i, none⟩ = false := frozen_of_row w g i _ _ h
theorem Row1.keep (h : Row1 f w g e xs rest) (hb : w'.heap[g]? = w.heap[g]?) : Row1 f w' g e xs rest := hb.trans h
theorem Row1.below (h : Row1 f w g e xs rest) (hb : Below w.heap.size w w') : Row1 f w' g e xs rest := h.keep (hb.block g h.lt)
theorem Row1.new (h : Row1 f w g e xs rest) (o : Obj) : Row1 f (w.alloc o) g e xs rest := h.below (bnew (Below.refl _ _) o)
theorem Row1.draw (h : Row1 f w g e xs rest) : Row1 f w.drew g e xs rest := h
theorem heap_set1 (w : World) (g i : Nat) (l : List Value) (e : TypeId) (u : Value) (h : w.heap[g]? = some (.cells l.toArray e (0, 0))) : (w.setCell ⟨g, i, none⟩ u).heap[g]? = some (.cells (l.set i u).toArray e (0, 0)) := by
  simp [World.setCell, Array.getElem?_modify, h]
theorem Row1.put (h : Row1 f w g e xs rest) {i : Nat} (hi : i < xs.length) (y : α) : Row1 f (w.setCell ⟨g, i, none⟩ (f y)) g e (xs.set i y) rest := by
  unfold Row1
  rw [heap_set1 w g i _ e _ h, List.set_append_left _ _ (by simpa using hi), List.map_set]
/-- A store into another block. -/
theorem Row1.other (h : Row1 f w g e xs rest) {p : Addr} (hp : g ≠ p.block) (u : Value) : Row1 f (w.setCell p u) g e xs rest := h.keep (Below.heap_setCell w p u g hp)
theorem Row1.of (cur : List Value) (h : w.heap[g]? = some (.cells cur.toArray e (0, 0))) (hx : xs.map f = cur.take xs.length) : Row1 f w g e xs (cur.drop xs.length) := by
  unfold Row1
  rw [hx, List.take_append_drop]
  exact h
theorem Row1.own (h : Row1 f w g e xs rest) (hone : ∀ x, (f x).cells = #[f x]) {base cap : Nat} (hg : base ≤ g) (hc : cap = xs.length + rest.length) (hm : cap ≤ maxLen) :
    w.ownsRow base e 1 (.slice (some ⟨g, 0, none⟩) xs.length cap) xs.length (xs.map f) :=
  ⟨by simp, .inr ⟨g, cap, _, rfl, hg, h, by omega, hm, by simp; omega, by simp⟩⟩
end

section
variable {w w' : World} {g base : Nat} {e : TypeId} {F : Foot} {rest : List Value} {v : Value}
theorem Row1.ints {xs : List Int} (h : Row1 (Value.int .i64) w g e xs rest) (hx : ∀ x ∈ xs, I64 x) (hF : F g) : SliceR intR 1 F w (some ⟨g, 0, none⟩) xs := by
  intro i x hi
  refine ⟨g, 0, [.int .i64 x], rfl, hF, ⟨rfl, hx x (List.mem_of_getElem? hi)⟩, fun j u hu => ?_⟩
  have hj : j = 0 := by
    have := (List.getElem?_eq_some_iff.1 hu).1
    simp at this
    exact this
  subst hj
  simp at hu
  subst hu
  simpa using h.cell hi
/-- A row of ints that append made (or grew), known whole. -/
theorem OwnS.row {xs : List Int} (h : OwnS intR 1 base e F w v xs) (hne : xs ≠ []) : ∃ g cap rest, v = .slice (some ⟨g, 0, none⟩) xs.length cap ∧ base ≤ g ∧ cap = xs.length + rest.length ∧ cap ≤ maxLen ∧ Row1 (Value.int .i64) w g e xs rest ∧ ∀ x ∈ xs, I64 x := by
  obtain ⟨cells, ho, h1, hc⟩ := h
  have hcells : cells = xs.map (Value.int .i64) := by
    have hl := ho.1
    apply List.ext_getElem?
    intro i
    rw [List.getElem?_map]
    rcases Nat.lt_or_ge i xs.length with hi | hi
    · have h2 := (hc i _ (List.getElem?_eq_getElem hi)).1
      rw [List.getElem?_eq_getElem hi]
      have h3 := congrArg (fun l => l[0]?) h2
      simp only [chunk, Nat.mul_one] at h3
      rw [List.getElem?_take_of_lt (by omega), List.getElem?_drop] at h3
      simpa using h3
    · rw [List.getElem?_eq_none (by omega), List.getElem?_eq_none (by omega)]
      rfl
  have h64 : ∀ x ∈ xs, I64 x := fun x hx => by
    obtain ⟨i, hi, rfl⟩ := List.getElem_of_mem hx
    exact (hc i _ (List.getElem?_eq_getElem hi)).2
  rcases ho.2 with ⟨_, hn⟩ | ⟨g, cap, cur, rfl, hg, hh, hle, hcm, hcs, htake⟩
  · exact absurd (List.eq_nil_of_length_eq_zero hn) hne
  · refine ⟨g, cap, cur.toList.drop xs.length, rfl, hg, by simp; omega, hcm, Row1.of cur.toList hh ?_, h64⟩
    rw [← hcells, ← htake, Nat.mul_one]
/-- Back. -/
theorem Row1.ownInts {xs : List Int} (h : Row1 (Value.int .i64) w g e xs rest) (hx : ∀ x ∈ xs, I64 x) {cap : Nat} (hg : base ≤ g) (hc : cap = xs.length + rest.length) (hm : cap ≤ maxLen) :
    OwnS intR 1 base e F w (.slice (some ⟨g, 0, none⟩) xs.length cap) xs := by
  refine ⟨xs.map (Value.int .i64), h.own (fun _ => rfl) hg hc hm, ?_, ?_⟩
  · intro u hu
    obtain ⟨x, _, rfl⟩ := List.mem_map.1 hu
    rfl
  · intro i x hi
    refine ⟨?_, hx x (List.mem_of_getElem? hi)⟩
    have hl : i < xs.length := (List.getElem?_eq_some_iff.1 hi).1
    apply List.ext_getElem?
    intro j
    unfold chunk
    match j with
    | 0 =>
      rw [List.getElem?_take_of_lt (by omega), List.getElem?_drop, List.getElem?_map]
      simp [hi]
    | j + 1 => rw [List.getElem?_eq_none (by simp; omega), List.getElem?_eq_none (by simp)]
end

/-- make([]T, n): a row of n zeros. -/
theorem wpList_make_row {α : Type} {f : α → Value} {P : Program} (w : World) {ops : Array Oper} {rest : List Oper} {o : Oper} {a : Act} {Q : Exit → Act → World → Prop}
    (hg : o.guard = none) (l c : Operand) (t : TypeId) (hop : o.op = Op.makeSlice t l c) (e : TypeId) (x0 : α) (bytes : Nat) (h1 : P.underlying t = some (.slice e)) (hinfo : (P.info? e).map (fun i => (i.zero, i.size, i.bytes)) = some (some (f x0), 1, bytes))
    (hone : (f x0).cells = #[f x0]) (kl kc : IntKind) (L C : Int) (n : Nat) (hl : a.eval l = .int kl L) (hc : a.eval c = .int kc C) (hL : L = (n : Int)) (hC : C = (n : Int)) (b2 : bytes * n ≤ 281474976710656) (b3 : n ≤ maxLen)
    (hK : ∀ w', Row1 f w' w.heap.size e (List.replicate n x0) [] → Below w.heap.size w w' → w.grownBy w' none → wpList P ops Q rest (a.put o.dst (.slice (some ⟨w.heap.size, 0, none⟩) n n)) w') :
    wpList P ops Q (o :: rest) a w := by
  obtain ⟨i0, hi, hz0, hz1, hz2⟩ := info_parts hinfo
  refine wpList_make_full w hg l c t hop w.heap.size e i0 (f x0) 1 h1 hi hz0 hz1 kl kc L C n hl hc hL hC (by rw [hz2]; exact b2) b3 (Nat.le_refl _) fun w' hown hgr => hK w' ?_ ((Below.refl _ _).grown hgr (Nat.le_refl _) fun k hk => by cases hk) hgr
  rcases hown.2 with ⟨he, _⟩ | ⟨g, cap, cur, he, _, hh, _, _, hcs, htake⟩
  · cases he
  · injection he with e1 e2 e3
    injection e1 with e1
    injection e1 with e1
    subst e1 e3
    have hcur : cur.toList = (List.replicate n x0).map f ++ [] := by
      rw [List.append_nil, List.map_replicate]
      rw [← List.take_of_length_le (l := cur.toList) (i := n * 1) (by simp; omega), htake]
      apply List.ext_getElem?
      intro j
      simp only [Array.getElem?_toList, madeCells, Array.getElem?_map, Array.getElem?_range, List.getElem?_replicate, hone]
      by_cases hj : j < n
      · simp [hj, Nat.mod_one]
      · simp [hj]
    unfold Row1
    rw [← hcur]
    exact hh

end Go.Proofs.YtpgopmmobbemcaaGreat

set_option linter.unusedVariables false
set_option linter.unusedSimpArgs false
namespace Go.Proofs.YtpgopmmobbemcaaGreat
open Go.RowKit Go.Shelf

attribute [local go_sem] Oper.semAt_some

/-- The single edges with their numbers. -/
def singL (es : List Edg) : List (Nat × Int × Int) := (endsL es).zipIdx.map fun p => (p.2, p.1)
theorem endsL_take (es : List Edg) (k : Nat) : endsL (es.take k) ++ endsL (es.drop k) = endsL es := by
  unfold endsL
  rw [← List.flatMap_append, List.take_append_drop]
theorem endsL_next {es : List Edg} {k : Nat} {x : Edg} (hx : es[k]? = some x) : (endsL (es.take (k + 1))).length = (endsL (es.take k)).length + x.m.toNat := by
  have hk : k < es.length := (List.getElem?_eq_some_iff.1 hx).1
  rw [List.take_add_one, hx]
  simp [endsL, List.flatMap_append]
/-- What lay below n₀ lies as it lay, and so do the blocks of type T, wherever they lie. -/
def KpE (T : TypeId) (n₀ : Nat) (W W' : World) : Prop := Below n₀ W W' ∧ ∀ (k : Nat) (cs : Array Value), W.heap[k]? = some (Obj.cells cs T (0, 0)) → W'.heap[k]? = some (Obj.cells cs T (0, 0))
theorem KpE.refl (T : TypeId) (n₀ : Nat) (W : World) : KpE T n₀ W W := ⟨Below.refl _ _, fun _ _ h => h⟩
theorem KpE.t {T : TypeId} {n₀ : Nat} {A B C : World} (h : KpE T n₀ A B) (k : KpE T n₀ B C) : KpE T n₀ A C := ⟨h.1.trans k.1, fun i cs hi => k.2 i cs (h.2 i cs hi)⟩
theorem KpE.b {T : TypeId} {n₀ : Nat} {w : World} (hn : n₀ ≤ w.heap.size) (W : World) (l : Nat) (o o' : Obj) (hl : w.heap.size ≤ l) (ho : W.heap[l]? = some o) (hc : o.isCells = false) (hw : o.isWalk = false) : KpE T n₀ W (W.putObj l o') := by
  refine ⟨belowK_b hn W l o o' hl ho hc hw, fun k cs hk => ?_⟩
  have : k ≠ l := fun e => by
    subst e
    rw [hk] at ho
    injection ho with ho
    subst ho
    cases hc
  rw [World.putObj_heap_other this]
  exact hk
theorem KpE.new {T : TypeId} {n₀ : Nat} {W W' : World} (h : KpE T n₀ W W') (hn : n₀ ≤ W'.heap.size) (o : Obj) : KpE T n₀ W (W'.alloc o) :=
  ⟨h.1.alloc hn o, fun k cs hk => (Below.heap_alloc W' o k (Array.getElem?_eq_some_iff.1 (h.2 k cs hk)).1).trans (h.2 k cs hk)⟩
theorem KpE.box {T : TypeId} {n₀ : Nat} {W W' : World} (h : KpE T n₀ W W') {B : Nat} {cs : List Value} (hb : Box W B cs T) : Box W' B cs T := h.2 B _ hb

def sEnc (x : Nat × Int × Int) : Array Value := #[.int .i64 (x.1 : Int), .agg #[.int .i64 x.2.1, .int .i64 x.2.2]]

/-- The edges as they lie, in a block below n₀. -/
def EdgesBelow (n₀ : Nat) (W : World) (oe : Option Addr) (es : List Edg) : Prop :=
  es = [] ∨ ∃ bl off, oe = some ⟨bl, off, none⟩ ∧ bl < n₀ ∧ ∀ i (x : Edg), es[i]? = some x → W.cell? ⟨bl, off + i * 3, none⟩ = some (.int .i64 x.a) ∧ W.cell? ⟨bl, off + i * 3 + 1, none⟩ = some (.int .i64 x.b) ∧ W.cell? ⟨bl, off + i * 3 + 2, none⟩ = some (.int .i64 x.m)
theorem EdgesBelow.of {F : Foot} {w : World} {oe : Option Addr} {es : List Edg} (h : SliceR edgR 3 F w oe es) : EdgesBelow w.heap.size w oe es := by
  rcases Nat.eq_zero_or_pos es.length with h0 | h0
  · exact .inl (List.eq_nil_of_length_eq_zero h0)
  · obtain ⟨a, b, m, _, _, _, _, _, bl, off, rfl, _, c0, _⟩ := h.edg_at h0
    refine .inr ⟨bl, off, rfl, World.block_lt_of_cell? _ _ c0, fun i x hx => ?_⟩
    obtain ⟨a', b', m', _, hg, _, _, _, bl', off', he, _, e0, e1, e2⟩ := h.edg_at (List.getElem?_eq_some_iff.1 hx).1
    injection he with he
    injection he with q1 q2
    subst q1 q2
    rw [hx] at hg
    injection hg with hg
    subst hg
    exact ⟨e0, e1, e2⟩
theorem EdgesBelow.below {n₀ : Nat} {A B : World} {oe : Option Addr} {es : List Edg} (h : Below n₀ A B) : EdgesBelow n₀ A oe es → EdgesBelow n₀ B oe es
  | .inl e => .inl e
  | .inr ⟨bl, off, e, hb, hc⟩ => .inr ⟨bl, off, e, hb, fun i x hx => ⟨(h.cell (p := ⟨bl, off + i * 3, none⟩) hb).trans (hc i x hx).1, (h.cell (p := ⟨bl, off + i * 3 + 1, none⟩) hb).trans (hc i x hx).2.1, (h.cell (p := ⟨bl, off + i * 3 + 2, none⟩) hb).trans (hc i x hx).2.2⟩⟩
theorem EdgesBelow.more {n₀ n₁ : Nat} {A : World} {oe : Option Addr} {es : List Edg} (h : EdgesBelow n₀ A oe es) (hn : n₀ ≤ n₁) : EdgesBelow n₁ A oe es :=
  h.imp id fun ⟨bl, off, e, hb, hc⟩ => ⟨bl, off, e, by omega, hc⟩

end Go.Proofs.YtpgopmmobbemcaaGreat

set_option linter.unusedVariables false
set_option linter.unusedSimpArgs false
set_option linter.unnecessarySimpa false
namespace Go.Proofs.YtpgopmmobbemcaaGreat
open Go.RowKit

/-- A line: the letters queued, how many were removed, when the first was sent last (0: never), how many were accepted. -/
structure Ln where
  q : List Int
  rm : Nat
  sn : Nat
  ac : Nat
/-- A packet on a line: a letter with its number, or an acknowledgement. -/
inductive Pk where
  | lett (l num : Nat) (kind : Int)
  | ack (l num : Nat)
/-- All that goes on. -/
structure Wr where
  st : List Int
  wt : List (List Int)
  ct : List (List Int)
  ls : List Ln
  fl : List (Pk × Nat)
  tk : Nat
  se : Nat
  lg : Bool
def Ln.none : Ln := ⟨[], 0, 0, 0⟩
def fateS (fates : List Int) (se : Nat) : Int := fates.getD se 0
def delayS (f : Int) : List Nat := if f = 0 then [1] else if f = 2 then [1, 2] else if f = 3 then [6] else []
def sendS (fates : List Int) (p : Pk) (w : Wr) : Wr := { w with se := w.se + 1, fl := w.fl ++ (delayS (fateS fates w.se)).map fun n => (p, w.tk + n) }
def bump (wt : List (List Int)) (p k : Nat) (x : Int) : List (List Int) := wt.set p ((wt.getD p []).set k ((wt.getD p []).getD k 0 + x))
def waitS (p k : Nat) (w : Wr) : Wr := { w with wt := bump w.wt p k 1, lg := w.lg || decide (1048576 < (w.wt.getD p []).getD k 0 + 1) }
def dropL : List Int → Nat → Nat → Nat → List Int × Nat × Nat
  | [], rm, sn, _ => ([], rm, sn)
  | x :: r, rm, sn, num => if rm < num then dropL r (rm + 1) 0 num else (x :: r, rm, sn)
def Ln.drop (l : Ln) (num : Nat) : Ln := ⟨(dropL l.q l.rm l.sn num).1, (dropL l.q l.rm l.sn num).2.1, (dropL l.q l.rm l.sn num).2.2, l.ac⟩
/-- N processors; line p * N + q leads from p to q. -/
def handleS (N : Nat) (fates : List Int) (p : Pk) (w : Wr) : Wr :=
  match p with
  | .lett l num kind =>
    if num = (w.ls.getD l Ln.none).ac + 1 then
      sendS fates (.ack l ((w.ls.getD l Ln.none).ac + 1)) (waitS (l % N) kind.toNat { w with ls := w.ls.set l { w.ls.getD l Ln.none with ac := (w.ls.getD l Ln.none).ac + 1 } })
    else sendS fates (.ack l (w.ls.getD l Ln.none).ac) w
  | .ack l num => { w with ls := w.ls.set l ((w.ls.getD l Ln.none).drop num) }
def arriveS (N : Nat) (fates : List Int) (w : Wr) : Wr :=
  (w.fl.filter fun a => a.2 == w.tk).foldl (fun w a => handleS N fates a.1 w) { w with fl := w.fl.filter fun a => !(a.2 == w.tk) }
/-- The least letter that waits. -/
def leastS (row : List Int) : Option Nat := row.findIdx? fun n => decide (0 < n)
/-- What a processor sends. -/
def putS (N p : Nat) (x : Int × Int) (w : Wr) : Wr :=
  if x.1 = (p : Int) then waitS p x.2.toNat w
  else { w with ls := w.ls.set (p * N + x.1.toNat) { w.ls.getD (p * N + x.1.toNat) Ln.none with q := (w.ls.getD (p * N + x.1.toNat) Ln.none).q ++ [x.2] } }
/-- next and sent: the rules (processor, state, letter). -/
def readS (N : Nat) (next : Nat → Int → Nat → Int) (sent : Nat → Int → Nat → List (Int × Int)) (p : Nat) (w : Wr) : Wr :=
  match leastS (w.wt.getD p []) with
  | none => w
  | some k => (sent p (w.st.getD p 0) k).foldl (fun w x => putS N p x w) { w with wt := bump w.wt p k (-1), ct := bump w.ct p k 1, st := w.st.set p (next p (w.st.getD p 0) k) }
def lineS (fates : List Int) (j : Nat) (w : Wr) : Wr :=
  match (w.ls.getD j Ln.none).q with
  | [] => w
  | a :: _ =>
    if (w.ls.getD j Ln.none).sn = 0 ∨ (w.ls.getD j Ln.none).sn + 4 ≤ w.tk then
      { sendS fates (.lett j ((w.ls.getD j Ln.none).rm + 1) a) w with ls := w.ls.set j { w.ls.getD j Ln.none with sn := w.tk } }
    else w
def tickS (N : Nat) (next : Nat → Int → Nat → Int) (sent : Nat → Int → Nat → List (Int × Int)) (fates : List Int) (w : Wr) : Wr :=
  (List.range (N * N)).foldl (fun w j => lineS fates j w) ((List.range N).foldl (fun w p => readS N next sent p w) (arriveS N fates { w with tk := w.tk + 1 }))
/-- Something waits, flies or is queued. -/
def busyS (w : Wr) : Bool := (!w.fl.isEmpty) || w.ls.any (fun l => !l.q.isEmpty) || w.wt.any (fun row => row.any fun n => n != 0)
def beginS (st : List Int) (wt : List (List Int)) (N : Nat) : Wr := ⟨st, wt, wt.map fun l => List.replicate l.length 0, List.replicate (N * N) Ln.none, [], 0, 0, false⟩

def ticksS (N : Nat) (next : Nat → Int → Nat → Int) (sent : Nat → Int → Nat → List (Int × Int)) (fates : List Int) (w : Wr) : Nat → Wr
  | 0 => w
  | i + 1 => tickS N next sent fates (ticksS N next sent fates w i)
end Go.Proofs.YtpgopmmobbemcaaGreat

set_option linter.unusedVariables false
namespace Go.Proofs.YtpgopmmobbemcaaGreat
open Go.RowKit

/-- v is a part, from some place on to the end, of a row of the call's own, and holds xs. -/
def OwnQ (base : Nat) (e : TypeId) (w : World) (v : Value) (xs : List Int) : Prop :=
  ∃ g o cap cur, v = .slice (some ⟨g, o, none⟩) xs.length cap ∧ base ≤ g ∧ w.heap[g]? = some (.cells cur e (0, 0)) ∧ xs.length ≤ cap ∧ cap ≤ maxLen ∧ o + cap ≤ cur.size ∧ (cur.toList.drop o).take xs.length = xs.map (Value.int .i64) ∧ ∀ x ∈ xs, I64 x

section
variable {base : Nat} {e : TypeId} {w w' : World} {v : Value} {xs : List Int}

theorem OwnQ.block (h : OwnQ base e w v xs) : ∀ g, v.ownBlock = some g → base ≤ g ∧ g < w.heap.size := by
  obtain ⟨g, o, cap, cur, rfl, h1, h2, _⟩ := h
  intro k hk
  simp [Value.ownBlock] at hk
  subst hk
  exact ⟨h1, (Array.getElem?_eq_some_iff.1 h2).1⟩

theorem OwnQ.keep (h : OwnQ base e w v xs) (hb : ∀ g, v.ownBlock = some g → w'.heap[g]? = w.heap[g]?) : OwnQ base e w' v xs := by
  obtain ⟨g, o, cap, cur, rfl, h1, h2, h3⟩ := h
  exact ⟨g, o, cap, cur, rfl, h1, by rw [hb g rfl]; exact h2, h3⟩
theorem OwnQ.below (h : OwnQ base e w v xs) (hb : Below w.heap.size w w') : OwnQ base e w' v xs :=
  h.keep fun g hg => hb.block g (h.block g hg).2
theorem OwnQ.new (h : OwnQ base e w v xs) (o : Obj) : OwnQ base e (w.alloc o) v xs := h.below (bnew (Below.refl _ _) o)

theorem OwnQ.rebase {base' : Nat} (h : OwnQ base e w v xs) (hb : base' ≤ base) : OwnQ base' e w v xs := by
  obtain ⟨g, o, cap, cur, rfl, h1, h2⟩ := h
  exact ⟨g, o, cap, cur, rfl, by omega, h2⟩
/-- The list of ints that a literal lays. -/
theorem OwnQ.lit (w : World) (e : TypeId) (xs : List Int) (h : ∀ x ∈ xs, I64 x) (hl : xs.length ≤ 1000000000000) :
    OwnQ w.heap.size e (w.alloc (.cells (xs.map (Value.int .i64)).toArray e)) (.slice (some ⟨w.heap.size, 0, none⟩) xs.length xs.length) xs :=
  ⟨w.heap.size, 0, xs.length, _, rfl, Nat.le_refl _, heap_alloc_new w _, Nat.le_refl _, by unfold maxLen; omega, by simp, by simp [List.take_of_length_le], h⟩

theorem OwnQ.get (h : OwnQ base e w v xs) {g o cap : Nat} (hv : v = .slice (some ⟨g, o, none⟩) xs.length cap) : ∀ (i : Nat) (x : Int), xs[i]? = some x → w.cell? ⟨g, o + i, none⟩ = some (.int .i64 x) := by
  obtain ⟨g', o', cap', cur, hv', h1, h2, h3, h4, h5, h6, h7⟩ := h
  rw [hv] at hv'
  injection hv' with e1 e2 e3
  injection e1 with e1
  injection e1 with e4 e5
  subst e4 e5
  intro i x hx
  have hi : i < xs.length := (List.getElem?_eq_some_iff.1 hx).1
  have h8 := congrArg (fun l => l[i]?) h6
  simp only [List.getElem?_map, hx, Option.map_some] at h8
  rw [List.getElem?_take_of_lt hi, List.getElem?_drop] at h8
  rw [cell_of_row w g _ cur e (0, 0) h2, ← Array.getElem?_toList]
  exact h8

theorem OwnQ.slice (h : OwnQ base e w v xs) : ∃ oa c, v = .slice oa xs.length c ∧ xs.length ≤ c ∧ SliceR intR 1 (fun k => base ≤ k) w oa xs := by
  have h0 := h
  obtain ⟨g, o, cap, cur, rfl, h1, h2, h3, h4, h5, h6, h7⟩ := h
  refine ⟨_, cap, rfl, h3, fun i x hx => ⟨g, o, [.int .i64 x], rfl, h1, ⟨rfl, h7 x (List.mem_of_getElem? hx)⟩, fun j u hu => ?_⟩⟩
  have hj : j = 0 := by
    have := (List.getElem?_eq_some_iff.1 hu).1
    simp at this
    exact this
  subst hj
  simp at hu
  subst hu
  have := h0.get rfl i x hx
  simpa using this

/-- The first element, and what is left. -/
theorem OwnQ.head {x : Int} {r : List Int} (h : OwnQ base e w v (x :: r)) : ∃ g o cap, v = .slice (some ⟨g, o, none⟩) (r.length + 1) (cap + 1) ∧ base ≤ g ∧ g < w.heap.size ∧ r.length ≤ cap ∧ cap + 1 ≤ maxLen ∧ w.cell? ⟨g, o, none⟩ = some (.int .i64 x) ∧ I64 x ∧
    OwnQ base e w (.slice (some (if cap = 0 then ⟨g, o, none⟩ else ⟨g, o + 1, none⟩)) r.length cap) r := by
  have h0 := h
  obtain ⟨g, o, cap, cur, rfl, h1, h2, h3, h4, h5, h6, h7⟩ := h
  simp only [List.length_cons] at h3
  obtain ⟨cap, rfl⟩ : ∃ k, cap = k + 1 := ⟨cap - 1, by omega⟩
  have hx := h0.get rfl 0 x rfl
  refine ⟨g, o, cap, rfl, h1, (Array.getElem?_eq_some_iff.1 h2).1, by omega, h4, by simpa using hx, h7 x (by simp), ?_⟩
  by_cases hc : cap = 0
  · subst hc
    have hr : r = [] := List.eq_nil_of_length_eq_zero (by omega)
    subst hr
    exact ⟨g, o, 0, cur, by simp, h1, h2, by simp, by simp, by omega, by simp, by simp⟩
  · refine ⟨g, o + 1, cap, cur, by simp [hc], h1, h2, by omega, by omega, by omega, ?_, fun y hy => h7 y (by simp [hy])⟩
    have h8 := congrArg (List.drop 1) h6
    rw [List.drop_take, List.drop_drop] at h8
    simpa using h8

theorem run_append_q {P : Program} (t ty : TypeId) (i : TypeInfo) (z : Value) (ht : P.underlying t = some (.slice e)) (hi : P.info? e = some i) (hz : i.zero = some z)
    (hsize : i.size = 1) (hby : i.bytes = 8) (hzs : z.cells.size = 1) (h : OwnQ base e w v xs)
    (ad : Addr) (c : Nat) (x : Int) (hx : w.cell? (ad.add 0) = some (.int .i64 x)) (ix : I64 x) (hn : xs.length + 1 ≤ 1000000000) (hbase : base ≤ w.heap.size) :
    ∃ v' w', (Builtin.append_ #[t, t] ty #[v, .slice (some ad) 1 c]).run P w = .ok v' w' ∧ OwnQ base e w' v' (xs ++ [x]) ∧ w.grownBy w' v.ownBlock ∧ (∀ k, v'.ownBlock = some k → v.ownBlock = some k ∨ w.heap.size ≤ k) := by
  have h0 := h
  obtain ⟨g, o, cap, cur, rfl, h1, h2, h3, h4, h5, h6, h7⟩ := h
  have hg : g < w.heap.size := (Array.getElem?_eq_some_iff.1 h2).1
  have h7' : ∀ y ∈ xs ++ [x], I64 y := by
    intro y hy
    rcases List.mem_append.1 hy with hy | hy
    · exact h7 y hy
    · simp at hy; subst hy; exact ix
  by_cases hroom : xs.length + 1 ≤ cap
  · have hr := run_append_room_cells (P := P) (w := w) t ty e i ht hi g o xs.length cap ad 1 c [.int .i64 x] (by simp [hsize]) (fun j u hu => by
        have hj : j = 0 := by
          have := (List.getElem?_eq_some_iff.1 hu).1
          simp at this
          exact this
        subst hj
        simp at hu
        subst hu
        exact hx) (by simp [Value.oneCell']) hroom (fun j hj => by
        simp at hj
        subst hj
        rw [cell_of_row w g _ cur e (0, 0) h2, hsize]
        have : o + xs.length * 1 + 0 < cur.size := by omega
        simp; omega) (fun j _ => frozen_of_row w g _ cur e h2)
    rw [hsize] at hr
    refine ⟨_, _, hr, ?_, ?_, fun k hk => .inl hk⟩
    · have hlt : o + xs.length < cur.size := by omega
      have hh : (w.setCells g (o + xs.length * 1) [.int .i64 x]).heap[g]? = some (.cells (cur.set! (o + xs.length) (.int .i64 x)) e (0, 0)) := by
        simp [World.setCells, World.setCell, Array.getElem?_modify, h2]
      refine ⟨g, o, cap, _, by simp, h1, hh, by simpa using hroom, h4, by simpa using h5, ?_, h7'⟩
      have hl6 := congrArg List.length h6
      simp at hl6
      apply List.ext_getElem?
      intro j
      have h6j := congrArg (fun l => l[j]?) h6
      simp only [List.map_append, List.map_cons, List.map_nil, List.length_append, List.length_cons, List.length_nil]
      rcases Nat.lt_trichotomy j xs.length with hj | hj | hj
      · rw [List.getElem?_take_of_lt (by omega), List.getElem?_drop, List.getElem?_append_left (by simpa using hj), ← h6j]
        rw [List.getElem?_take_of_lt hj, List.getElem?_drop]
        simp [show ¬ (xs.length = j) from by omega]
      · subst hj
        rw [List.getElem?_take_of_lt (by omega), List.getElem?_drop, List.getElem?_append_right (by simp)]
        simp [hlt]
      · rw [List.getElem?_eq_none (by simp; omega), List.getElem?_eq_none (by simp; omega)]
    · refine ⟨rfl, rfl, rfl, by simp [World.setCells], fun k _ hne => ?_⟩
      have : ¬ (g = k) := fun he => hne (by simp [Value.ownBlock, he])
      simp [World.setCells, World.setCell, Array.getElem?_modify, this]
  · have hr := run_append_grow (P := P) w t ty e i z ht hi hz ⟨g, o, none⟩ xs.length cap (xs.map (Value.int .i64)) (by simp [hsize]) (fun j u hu => by
        rw [List.getElem?_map, Option.map_eq_some_iff] at hu
        obtain ⟨y, hy, rfl⟩ := hu
        rw [Addr.add_lit]
        exact h0.get rfl j y hy) ad 1 c [.int .i64 x] (by simp [hsize]) (fun j u hu => by
        have hj : j = 0 := by
          have := (List.getElem?_eq_some_iff.1 hu).1
          simp at this
          exact this
        subst hj
        simp at hu
        subst hu
        exact hx) (by omega) (by omega) (growslice_fits (by omega) (by rw [hby]; omega))
    have hge := grownCap_ge w (xs.length + 1) cap e
    have hcm : grownCap w (xs.length + 1) cap e ≤ maxLen := grownCap_le_maxLen w (xs.length + 1) cap e (by unfold maxLen; omega)
    refine ⟨_, _, hr, ⟨w.heap.size, 0, _, _, by simp, hbase, heap_alloc_new w.drew _, by simpa using hge, hcm, ?_, ?_, h7'⟩, ⟨rfl, rfl, rfl, by simp, fun k hk _ => heap_alloc_old w.drew _ hk⟩, fun k hk => .inr (by simp [Value.ownBlock] at hk; omega)⟩
    · simp only [Array.size_append, List.size_toArray, size_zeroCells, hzs]
      simp
      omega
    · simp only [Array.toList_append, List.drop_zero, List.length_append, List.length_cons, List.length_nil, List.map_append, List.map_cons, List.map_nil]
      rw [show xs.length + (0 + 1) = (xs.map (Value.int .i64) ++ [Value.int .i64 x]).length from by simp]
      exact List.take_left
end

/-- The arm for 'work = append(work, x)'. -/
theorem wpList_append_q {P : Program} {w : World} {ops : Array Oper} {rest : List Oper} {o : Oper} {a : Act} {Q : Exit → Act → World → Prop} (hgd : o.guard = none) (s y : Operand) (t : TypeId)
    (ho : o.op = .call { callee := .builtin .append, args := #[s, y], argTypes := #[t, t] })
    (base : Nat) (e : TypeId) (z : Value) (ht : P.underlying t = some (.slice e)) (hinfo : (P.info? e).map (fun i => (i.zero, i.size, i.bytes)) = some (some z, 1, 8))
    (hzs : z.cells.size = 1) (v : Value) (xs : List Int) (hs : a.eval s = v) (hown : OwnQ base e w v xs)
    (ad : Addr) (c : Nat) (x : Int) (hy : a.eval y = .slice (some ad) 1 c) (hx : w.cell? (ad.add 0) = some (.int .i64 x)) (ix : I64 x) (hn : xs.length + 1 ≤ 1000000000) (hbase : base ≤ w.heap.size)
    (h : ∀ v' w', OwnQ base e w' v' (xs ++ [x]) → Below base w w' → w.grownBy w' v.ownBlock → (∀ k, v'.ownBlock = some k → v.ownBlock = some k ∨ w.heap.size ≤ k) → wpList P ops Q rest (a.put o.dst v') w') : wpList P ops Q (o :: rest) a w := by
  obtain ⟨i0, hi, hz0, hz1, hz2⟩ := info_parts hinfo
  refine wpList_plain hgd fun _ hK => ?_
  obtain ⟨v', w', hrun, h2, h3, h4⟩ := run_append_q (P := P) t o.type i0 z ht hi hz0 hz1 hz2 hzs hown ad c x hx ix hn hbase
  have hb : Below base w w' := (Below.refl base w).grown h3 hbase fun k hk => (hown.block k hk).1
  unfold Oper.wp execOp
  simp only [ho, resolve, invoke, builtin, Sem.run_bind, Sem.run_pure, Result.andThen_ok, List.map_toArray, List.map_cons, List.map_nil, hs, hy, hrun]
  exact hK _ _ (h v' w' h2 hb h3 h4)

end Go.Proofs.YtpgopmmobbemcaaGreat

set_option linter.unusedVariables false
set_option linter.unusedSimpArgs false
namespace Go.Proofs.YtpgopmmobbemcaaGreat
open Go.RowKit

def OwnN (base : Nat) (e : TypeId) (w : World) (v : Value) (xs : List Int) : Prop := (v = .slice none 0 0 ∧ xs = []) ∨ OwnQ base e w v xs

section
variable {base : Nat} {e : TypeId} {w w' : World} {v : Value} {xs : List Int}
theorem OwnN.nil : OwnN base e w (.slice none 0 0) [] := .inl ⟨rfl, rfl⟩
theorem OwnN.block (h : OwnN base e w v xs) : ∀ g, v.ownBlock = some g → base ≤ g ∧ g < w.heap.size := by
  intro g hg
  rcases h with ⟨rfl, _⟩ | h
  · simp [Value.ownBlock] at hg
  · exact h.block g hg
theorem OwnN.keep (h : OwnN base e w v xs) (hb : ∀ g, v.ownBlock = some g → w'.heap[g]? = w.heap[g]?) : OwnN base e w' v xs := h.imp id fun h => h.keep hb
theorem OwnN.below (h : OwnN base e w v xs) (hb : Below w.heap.size w w') : OwnN base e w' v xs := h.keep fun g hg => hb.block g (h.block g hg).2
theorem OwnN.new (h : OwnN base e w v xs) (o : Obj) : OwnN base e (w.alloc o) v xs := h.below (bnew (Below.refl _ _) o)
theorem OwnN.draw (h : OwnN base e w v xs) : OwnN base e w.drew v xs := h.keep fun _ _ => rfl
theorem OwnN.slice (h : OwnN base e w v xs) : ∃ oa c, v = .slice oa xs.length c ∧ xs.length ≤ c ∧ SliceR intR 1 (fun k => base ≤ k) w oa xs := by
  rcases h with ⟨rfl, rfl⟩ | h
  · exact ⟨none, 0, rfl, by simp, SliceR.nil _ _ _ _ _⟩
  · exact h.slice
theorem OwnN.rebase {base' : Nat} (h : OwnN base e w v xs) (hb : base' ≤ base) : OwnN base' e w v xs := h.imp id fun h => h.rebase hb

theorem run_append_n {P : Program} (t ty : TypeId) (i : TypeInfo) (z : Value) (ht : P.underlying t = some (.slice e)) (hi : P.info? e = some i) (hz : i.zero = some z)
    (hsize : i.size = 1) (hby : i.bytes = 8) (hzs : z.cells.size = 1) (h : OwnN base e w v xs)
    (ad : Addr) (c : Nat) (x : Int) (hx : w.cell? (ad.add 0) = some (.int .i64 x)) (ix : I64 x) (hn : xs.length + 1 ≤ 1000000000) (hbase : base ≤ w.heap.size) :
    ∃ v' w', (Builtin.append_ #[t, t] ty #[v, .slice (some ad) 1 c]).run P w = .ok v' w' ∧ OwnN base e w' v' (xs ++ [x]) ∧ w.grownBy w' v.ownBlock ∧ (∀ k, v'.ownBlock = some k → v.ownBlock = some k ∨ w.heap.size ≤ k) := by
  rcases h with ⟨rfl, rfl⟩ | h
  · have hr := run_append_nil (P := P) w t ty e i z ht hi hz ad 1 c [.int .i64 x] (by simp [hsize]) (fun j u hu => by
      have hj : j = 0 := by
        have := (List.getElem?_eq_some_iff.1 hu).1
        simp at this
        exact this
      subst hj
      simp at hu
      subst hu
      exact hx) (by omega) (by omega) (by rw [hby]; omega)
    have hge := grownCap_ge w 1 0 e
    have hcm : grownCap w 1 0 e ≤ maxLen := grownCap_le_maxLen w 1 0 e (by unfold maxLen; omega)
    refine ⟨_, _, hr, .inr ⟨w.heap.size, 0, _, _, by simp, hbase, heap_alloc_new w.drew _, by simpa using hge, hcm, ?_, ?_, ?_⟩, ⟨rfl, rfl, rfl, by simp, fun k hk _ => heap_alloc_old w.drew _ hk⟩, fun k hk => .inr (by simp [Value.ownBlock] at hk; omega)⟩
    · simp only [Array.size_append, List.size_toArray, size_zeroCells, hzs]
      simp
      omega
    · simp
    · intro y hy
      simp at hy
      subst hy
      exact ix
  · obtain ⟨v', w', h1, h2, h3, h4⟩ := run_append_q (P := P) t ty i z ht hi hz hsize hby hzs h ad c x hx ix hn hbase
    exact ⟨v', w', h1, .inr h2, h3, h4⟩
end

/-- Many lists side by side, no two in one block. -/
structure OwnM (base : Nat) (e : TypeId) (w : World) (vs : List Value) (xss : List (List Int)) : Prop where
  len : vs.length = xss.length
  own : ∀ (i : Nat) (v : Value) (xs : List Int), vs[i]? = some v → xss[i]? = some xs → OwnN base e w v xs
  apart : ∀ (i j : Nat) (v u : Value) (k : Nat), vs[i]? = some v → vs[j]? = some u → v.ownBlock = some k → u.ownBlock = some k → i = j

section
variable {base : Nat} {e : TypeId} {w w' : World} {vs : List Value} {xss : List (List Int)}
theorem OwnM.nils (n : Nat) : OwnM base e w (List.replicate n (.slice none 0 0)) (List.replicate n []) :=
  by
  refine ⟨by simp, fun i v xs h1 h2 => ?_, fun i j v u k h1 h2 h3 _ => ?_⟩
  · rw [List.getElem?_replicate] at h1 h2
    split at h1
    · rename_i hi
      simp [hi] at h1 h2
      subst h1 h2
      exact OwnN.nil
    · cases h1
  · rw [List.getElem?_replicate] at h1
    split at h1
    · injection h1 with h1
      subst h1
      simp [Value.ownBlock] at h3
    · cases h1
theorem OwnM.keep (h : OwnM base e w vs xss) (hb : ∀ (i : Nat) (v : Value) (g : Nat), vs[i]? = some v → v.ownBlock = some g → w'.heap[g]? = w.heap[g]?) : OwnM base e w' vs xss :=
  ⟨h.len, fun i v xs h1 h2 => (h.own i v xs h1 h2).keep fun g hg => hb i v g h1 hg, h.apart⟩
theorem OwnM.block (h : OwnM base e w vs xss) {i : Nat} {v : Value} (hi : vs[i]? = some v) : ∀ g, v.ownBlock = some g → base ≤ g ∧ g < w.heap.size := by
  have hl : i < vs.length := (List.getElem?_eq_some_iff.1 hi).1
  have hl2 : i < xss.length := by rw [← h.len]; exact hl
  exact (h.own i v xss[i] hi (List.getElem?_eq_getElem hl2)).block
theorem OwnM.below (h : OwnM base e w vs xss) (hb : Below w.heap.size w w') : OwnM base e w' vs xss := h.keep fun i v g h1 hg => hb.block g (h.block h1 g hg).2
theorem OwnM.new (h : OwnM base e w vs xss) (o : Obj) : OwnM base e (w.alloc o) vs xss := h.below (bnew (Below.refl _ _) o)
theorem OwnM.draw (h : OwnM base e w vs xss) : OwnM base e w.drew vs xss := h.keep fun _ _ _ _ _ => rfl
/-- A store into a block that is none of theirs. -/
theorem OwnM.other (h : OwnM base e w vs xss) {p : Addr} (hp : p.block < base) (u : Value) : OwnM base e (w.setCell p u) vs xss :=
  h.keep fun i v g h1 hg => Below.heap_setCell w p u g (by have := (h.block h1 g hg).1; omega)
/-- List i has grown. -/
theorem OwnM.grow (h : OwnM base e w vs xss) {i : Nat} {v v' : Value} {xs : List Int} {x : Int} {o : Obj} (hi : vs[i]? = some v) (hx : xss[i]? = some xs)
    (ho : OwnN base e w' v' (xs ++ [x])) (hg : (w.alloc o).grownBy w' v.ownBlock) (hv : ∀ k, v'.ownBlock = some k → v.ownBlock = some k ∨ (w.alloc o).heap.size ≤ k) : OwnM base e w' (vs.set i v') (xss.set i (xs ++ [x])) := by
  have hil : i < vs.length := (List.getElem?_eq_some_iff.1 hi).1
  refine ⟨by simp [h.len], fun j u ys hu hy => ?_, fun j l u t k hu ht hku hkt => ?_⟩
  · by_cases e1 : i = j
    · subst e1
      rw [List.getElem?_set_self hil] at hu
      rw [List.getElem?_set_self (by rw [← h.len]; exact hil)] at hy
      injection hu with hu
      injection hy with hy
      subst hu hy
      exact ho
    · rw [List.getElem?_set_ne e1] at hu hy
      refine ((h.own j u ys hu hy).new o).keep fun g hgu => hg.block g (by have := (h.block hu g hgu).2; simp; omega) fun he => e1 (h.apart i j v u g hi hu he.symm hgu)
  · have key : ∀ (m : Nat) (y : Value), (vs.set i v')[m]? = some y → y.ownBlock = some k → (m = i ∧ y = v') ∨ (m ≠ i ∧ vs[m]? = some y) := fun m y hy _ => by
      by_cases e1 : i = m
      · subst e1
        rw [List.getElem?_set_self hil] at hy
        injection hy with hy
        exact .inl ⟨rfl, hy.symm⟩
      · rw [List.getElem?_set_ne e1] at hy
        exact .inr ⟨fun e => e1 e.symm, hy⟩
    have cross : ∀ (m : Nat) (y : Value), vs[m]? = some y → m ≠ i → y.ownBlock = some k → v'.ownBlock = some k → False := fun m y hy hm hky hkv => by
      rcases hv k hkv with h1 | h1
      · exact hm (h.apart m i y v k hy hi hky h1)
      · have := (h.block hy k hky).2; simp at h1; omega
    rcases key j u hu hku with ⟨a1, a2⟩ | ⟨a1, a2⟩ <;> rcases key l t ht hkt with ⟨b1, b2⟩ | ⟨b1, b2⟩
    · rw [a1, b1]
    · subst a2; exact (cross l t b2 b1 hkt hku).elim
    · subst b2; exact (cross j u a2 a1 hku hkt).elim
    · exact h.apart j l u t k a2 b2 hku hkt
/-- One more, empty. -/
theorem OwnM.snoc (h : OwnM base e w vs xss) : OwnM base e w (vs ++ [.slice none 0 0]) (xss ++ [[]]) := by
  refine ⟨by simp [h.len], fun j u ys hu hy => ?_, fun j l u t k hu ht hku hkt => ?_⟩
  · rcases Nat.lt_or_ge j vs.length with hj | hj
    · rw [List.getElem?_append_left hj] at hu
      rw [List.getElem?_append_left (by rw [← h.len]; exact hj)] at hy
      exact h.own j u ys hu hy
    · rw [List.getElem?_append_right hj] at hu
      rw [List.getElem?_append_right (by rw [← h.len]; exact hj)] at hy
      have : j - vs.length = 0 := by
        have := (List.getElem?_eq_some_iff.1 hu).1
        simp at this
        omega
      rw [this] at hu
      rw [← h.len, this] at hy
      simp at hu hy
      subst hu hy
      exact OwnN.nil
  · have key : ∀ (m : Nat) (y : Value), (vs ++ [.slice none 0 0])[m]? = some y → y.ownBlock = some k → vs[m]? = some y := fun m y hy hk => by
      rcases Nat.lt_or_ge m vs.length with hj | hj
      · rw [List.getElem?_append_left hj] at hy; exact hy
      · rw [List.getElem?_append_right hj] at hy
        have hm := List.mem_of_getElem? hy
        simp at hm
        subst hm
        simp [Value.ownBlock] at hk
    exact h.apart j l u t k (key j u hu hku) (key l t ht hkt) hku hkt
end

end Go.Proofs.YtpgopmmobbemcaaGreat

set_option linter.unusedVariables false
set_option linter.unusedSimpArgs false
set_option linter.unnecessarySimpa false
namespace Go.Proofs.YtpgopmmobbemcaaGreat
open Go.RowKit

/-- The rows of ints of the machine: the states, the rows of what waits and of the counts, the letters of the lines. -/
inductive IR where
  | s
  | w (i : Nat)
  | c (i : Nat)
  | q (j : Nat)
/-- Where all lies: blocks, capacities, what is spare behind the rows. -/
structure WLay where
  p : Nat
  gs : Nat
  gw : Nat
  gc : Nat
  gl : Nat
  cs : Nat
  cw : Nat
  cc : Nat
  cl : Nat
  rs : List Value
  rw : List Value
  rc : List Value
  rl : List Value
  bw : Nat → Nat
  kw : Nat → Nat
  sw : Nat → List Value
  bc : Nat → Nat
  kc : Nat → Nat
  sc : Nat → List Value
  bl : Nat → Nat
  lv : Nat → Value
  fv : Value
def IR.blk (L : WLay) : IR → Option Nat
  | .s => some L.gs
  | .w i => some (L.bw i)
  | .c i => some (L.bc i)
  | .q j => (L.lv j).ownBlock
def IR.ok (N : Nat) : IR → Prop
  | .s => True
  | .w i => i < N
  | .c i => i < N
  | .q j => j < N * N
def slV (b len cap : Nat) : Value := .slice (some ⟨b, 0, none⟩) len cap
def lnC (L : WLay) (N j : Nat) (l : Ln) : List Value := [L.lv j, .int .i64 l.rm, .int .i64 l.sn, .int .i64 (j / N : Nat), .int .i64 (j % N : Nat), .int .i64 l.ac]
def mainC (L : WLay) (N : Nat) (oP : Option Addr) (cP : Nat) (oF : Option Addr) (nF cF : Nat) (S : Wr) : List Value :=
  [.slice oP N cP, slV L.gs N L.cs, slV L.gw N L.cw, slV L.gc N L.cc, slV L.gl (N * N) L.cl, .slice oF nF cF, L.fv, .int .i64 S.tk, .int .i64 S.se, .bool S.lg]

theorem ne_type {W : World} {a b : Nat} {x y : Array Value} {t u : TypeId} (ha : W.heap[a]? = some (.cells x t (0, 0))) (hb : W.heap[b]? = some (.cells y u (0, 0))) (h : t ≠ u) : a ≠ b := by
  intro e
  rw [e, hb] at ha
  injection ha with ha
  injection ha with _ h2
  exact h h2.symm
section
variable {B N : Nat} {L : WLay} {oP : Option Addr} {cP : Nat} {oF : Option Addr} {nF cF : Nat} {S : Wr} {W W' : World}

end

end Go.Proofs.YtpgopmmobbemcaaGreat

set_option linter.unusedVariables false
set_option linter.unusedSimpArgs false
set_option linter.unnecessarySimpa false
namespace Go.Proofs.YtpgopmmobbemcaaGreat
open Go.RowKit

/-- The machine's own blocks. -/
def Mine (L : WLay) (N k : Nat) : Prop :=
  k = L.p ∨ k = L.gs ∨ k = L.gw ∨ k = L.gc ∨ k = L.gl ∨ (∃ i, i < N ∧ k = L.bw i) ∨ (∃ i, i < N ∧ k = L.bc i) ∨ (∃ j, j < N * N ∧ k = L.bl j) ∨ (∃ j, j < N * N ∧ (L.lv j).ownBlock = some k) ∨ L.fv.ownBlock = some k
/-- A call has changed the machine's own blocks alone; it may have laid new ones. -/
structure Went (N : Nat) (L : WLay) (W : World) (L' : WLay) (W' : World) : Prop where
  os : W'.os = W.os
  tape : W'.tape = W.tape
  output : W'.output = W.output
  size : W.heap.size ≤ W'.heap.size
  block : ∀ k, k < W.heap.size → ¬ Mine L N k → W'.heap[k]? = W.heap[k]?
  mine : ∀ k, k < W.heap.size → Mine L' N k → Mine L N k
  fix : ∃ lv fv, L' = { L with lv := lv, fv := fv }
theorem Went.p {N : Nat} {L L' : WLay} {W W' : World} (h : Went N L W L' W') : L'.p = L.p := by obtain ⟨a, b, e⟩ := h.fix; rw [e]
theorem Went.bl {N : Nat} {L L' : WLay} {W W' : World} (h : Went N L W L' W') : L'.bl = L.bl := by obtain ⟨a, b, e⟩ := h.fix; rw [e]
theorem Went.gl {N : Nat} {L L' : WLay} {W W' : World} (h : Went N L W L' W') : L'.gl = L.gl := by obtain ⟨a, b, e⟩ := h.fix; rw [e]
theorem Went.refl (N : Nat) (L : WLay) (W : World) : Went N L W L W := ⟨rfl, rfl, rfl, Nat.le_refl _, fun _ _ _ => rfl, fun _ _ h => h, ⟨_, _, rfl⟩⟩
theorem Went.trans {N : Nat} {L L1 L2 : WLay} {W W1 W2 : World} (h : Went N L W L1 W1) (g : Went N L1 W1 L2 W2) : Went N L W L2 W2 :=
  ⟨g.os.trans h.os, g.tape.trans h.tape, g.output.trans h.output, Nat.le_trans h.size g.size,
   fun k hk hm => (g.block k (Nat.lt_of_lt_of_le hk h.size) fun hm1 => hm (h.mine k hk hm1)).trans (h.block k hk hm),
   fun k hk hm => h.mine k hk (g.mine k (Nat.lt_of_lt_of_le hk h.size) hm), by obtain ⟨a, b, e⟩ := h.fix; obtain ⟨c, d, e2⟩ := g.fix; exact ⟨c, d, by rw [e2, e]⟩⟩
theorem Went.put {N : Nat} {L : WLay} {W : World} {b i : Nat} {v : Value} (hb : Mine L N b) : Went N L W L (W.setCell ⟨b, i, none⟩ v) :=
  ⟨rfl, rfl, rfl, by show W.heap.size ≤ (W.heap.modify _ _).size; rw [Array.size_modify]; exact Nat.le_refl _,
   fun k _ hm => Below.heap_setCell W ⟨b, i, none⟩ v k fun e => hm (by rw [show k = b from e]; exact hb), fun _ _ h => h, ⟨_, _, rfl⟩⟩
theorem Went.drew {N : Nat} {L : WLay} {W : World} (n : Nat) : Went N L W L (W.drewN n) := ⟨rfl, rfl, rfl, Nat.le_refl _, fun _ _ _ => rfl, fun _ _ h => h, ⟨_, _, rfl⟩⟩
theorem Went.new {N : Nat} {L : WLay} {W : World} (o : Obj) : Went N L W L (W.alloc o) :=
  ⟨rfl, rfl, rfl, by simp, fun k hk _ => Below.heap_alloc W o k hk, fun _ _ h => h, ⟨_, _, rfl⟩⟩

section
variable {B N : Nat} {L : WLay} {oP : Option Addr} {cP : Nat} {oF : Option Addr} {nF cF : Nat} {S : Wr} {W W' : World}
end

end Go.Proofs.YtpgopmmobbemcaaGreat

set_option linter.unusedVariables false
set_option linter.unusedSimpArgs false
set_option linter.unnecessarySimpa false
namespace Go.Proofs.YtpgopmmobbemcaaGreat
open Go.RowKit

structure Rw where
  g : Nat
  c : Nat
  l : List Int
  rest : List Value
def Rw.val (r : Rw) : Value := slV r.g r.l.length r.c
def ptV (b : Nat) : Value := .pointer (some ⟨b, 0, none⟩)
def valR : Rep Value := fun _ _ cs x => cs = [x] ∧ x.oneCell' = true
theorem valR_ok : RepOk valR 1 where
  len := by rintro F w cs x ⟨rfl, _⟩; rfl
  one := by rintro F w cs x ⟨rfl, h⟩ u hu; simp at hu; subst hu; exact h
  keep := by rintro F w w' cs x h _; exact h
  wide := by rintro F F' w cs x h _; exact h
theorem own_heap {α : Type} {R : Rep α} {sz B : Nat} {e : TypeId} {F : Foot} {W : World} {v : Value} {xs : List α} (h : OwnS R sz B e F W v xs) {g : Nat} (hg : v.ownBlock = some g) : ∃ cur, W.heap[g]? = some (.cells cur e (0, 0)) := by
  obtain ⟨cells, ho, _⟩ := h
  rcases ho.2 with ⟨rfl, _⟩ | ⟨g', cap, cur, rfl, _, h4, _⟩
  · simp [Value.ownBlock] at hg
  · simp [Value.ownBlock] at hg; subst hg; exact ⟨cur, h4⟩
theorem OwnS.vrow {base : Nat} {e : TypeId} {F : Foot} {w : World} {v : Value} {xs : List Value} (h : OwnS valR 1 base e F w v xs) (hne : xs ≠ []) :
    ∃ g cap rest, v = .slice (some ⟨g, 0, none⟩) xs.length cap ∧ base ≤ g ∧ xs.length ≤ cap ∧ Row1 id w g e xs rest := by
  obtain ⟨cells, ho, h1, hc⟩ := h
  have hcells : cells = xs := by
    have hl := ho.1
    apply List.ext_getElem?
    intro i
    rcases Nat.lt_or_ge i xs.length with hi | hi
    · have h2 := (hc i _ (List.getElem?_eq_getElem hi)).1
      rw [List.getElem?_eq_getElem hi]
      have h3 := congrArg (fun l => l[0]?) h2
      simp only [chunk, Nat.mul_one] at h3
      rw [List.getElem?_take_of_lt (by omega), List.getElem?_drop] at h3
      simpa using h3
    · rw [List.getElem?_eq_none (by omega), List.getElem?_eq_none (by omega)]
  rcases ho.2 with ⟨_, hn⟩ | ⟨g, cap, cur, rfl, hg, hh, hle, hcm, hcs, htake⟩
  · exact absurd (List.eq_nil_of_length_eq_zero hn) hne
  · refine ⟨g, cap, cur.toList.drop xs.length, rfl, hg, hle, Row1.of cur.toList hh ?_⟩
    rw [← hcells, Nat.mul_one] at *
    simp
    rw [htake]
theorem snoc_get {α : Type} {l : List α} {x y : α} {i : Nat} (h : (l ++ [x])[i]? = some y) : (i = l.length ∧ y = x) ∨ l[i]? = some y := by
  rcases Nat.lt_or_ge i l.length with hi | hi
  · rw [List.getElem?_append_left hi] at h
    exact .inr h
  · rw [List.getElem?_append_right hi] at h
    have : i - l.length = 0 := by
      have := (List.getElem?_eq_some_iff.1 h).1
      simp at this
      omega
    rw [this] at h
    simp at h
    exact .inl ⟨by omega, h.symm⟩

section
variable {B n p : Nat} {oP : Option Addr} {cP : Nat} {oF : Option Addr} {nF cF : Nat} {gs cs : Nat} {st : List Int} {rs : List Value} {tw tc tl : Value} {rw_ rc : List Rw} {rl : List Nat} {W W' : World}
theorem OwnS.ext {R : Rep Value} {sz B : Nat} {e : TypeId} {w w' : World} {v : Value} {xs : List Value} (ok : RepOk R sz) (h : OwnS R sz B e Non w v xs) (hk : ∀ g, v.ownBlock = some g → w'.heap[g]? = w.heap[g]?) : OwnS R sz B e Non w' v xs := h.keep ok hk (fun _ hk _ => hk.elim)
/-- Capacities are as great as lengths. -/
structure Caps (N : Nat) (wt ct : List (List Int)) (L : WLay) : Prop where
  cs : N ≤ L.cs
  cw : N ≤ L.cw
  cc : N ≤ L.cc
  kw : ∀ (i : Nat) (l : List Int), wt[i]? = some l → l.length ≤ L.kw i
  kc : ∀ (i : Nat) (l : List Int), ct[i]? = some l → l.length ≤ L.kc i

end

end Go.Proofs.YtpgopmmobbemcaaGreat

set_option linter.unusedVariables false
set_option linter.unusedSimpArgs false
namespace Go.Proofs.YtpgopmmobbemcaaGreat
open Go.RowKit

structure RTab (B : Nat) (tw : Value) (rs : List Rw) (W : World) : Prop where
  tab : OwnS valR 1 B 25 Non W tw (rs.map Rw.val)
  row : ∀ r ∈ rs, Row1 (Value.int .i64) W r.g 3 r.l r.rest ∧ B ≤ r.g ∧ r.l.length ≤ r.c
  inj : ∀ (i j : Nat) (r r' : Rw), rs[i]? = some r → rs[j]? = some r' → r.g = r'.g → i = j
def tabL (rs : List Rw) : List (List Int) := rs.map (·.l)
/-- The row with number i holds l instead. -/
def rwSet (rs : List Rw) (i : Nat) (l : List Int) : List Rw := rs.modify i fun r => { r with l := l }

section
variable {B : Nat} {tw : Value} {rs : List Rw} {W W' : World}
theorem RTab.nil (B : Nat) (W : World) : RTab B (.slice none 0 0) [] W := ⟨OwnS.nil _ _ _ _ _ _, (fun r hr => by simp at hr), (fun i j r r' h => by simp at h)⟩
theorem RTab.keep (h : RTab B tw rs W) (h1 : ∀ g, tw.ownBlock = some g → W'.heap[g]? = W.heap[g]?) (h2 : ∀ r ∈ rs, W'.heap[r.g]? = W.heap[r.g]?) : RTab B tw rs W' :=
  ⟨OwnS.ext valR_ok h.tab h1, fun r hr => ⟨(h.row r hr).1.keep (h2 r hr), (h.row r hr).2⟩, h.inj⟩
theorem RTab.above (h : RTab B tw rs W) (hk : ∀ k, k < W.heap.size → B ≤ k → W'.heap[k]? = W.heap[k]?) : RTab B tw rs W' :=
  h.keep (fun g hg => hk g (h.tab.block g hg).2 (h.tab.block g hg).1) fun r hr => hk r.g (h.row r hr).1.lt (h.row r hr).2.1
theorem RTab.below (h : RTab B tw rs W) (hb : Below W.heap.size W W') : RTab B tw rs W' := h.above fun k hk _ => hb.block k hk
theorem RTab.draw (h : RTab B tw rs W) : RTab B tw rs W.drew := h.above fun _ _ _ => rfl
theorem RTab.push (h : RTab B tw rs W) {tw' : Value} {r : Rw} (hown : OwnS valR 1 B 25 Non W' tw' (rs.map Rw.val ++ [r.val])) (hk : ∀ k, k < W.heap.size → some k ≠ tw.ownBlock → W'.heap[k]? = W.heap[k]?)
    (hrow : Row1 (Value.int .i64) W' r.g 3 r.l r.rest) (hrg : W.heap.size ≤ r.g) (hB : B ≤ W.heap.size) (hlen : r.l.length ≤ r.c) : RTab B tw' (rs ++ [r]) W' where
  tab := by rw [List.map_append]; exact hown
  row := fun r' hr' => by
    rcases List.mem_append.1 hr' with hr' | hr'
    · have h1 := (h.row r' hr').1
      refine ⟨h1.keep (hk _ h1.lt fun e => ?_), (h.row r' hr').2⟩
      obtain ⟨cur, hcur⟩ := own_heap h.tab e.symm
      exact ne_type h1 hcur (by decide) rfl
    · rw [List.mem_singleton] at hr'
      subst hr'
      exact ⟨hrow, by omega, hlen⟩
  inj := fun i j a b ha hb e => by
    rcases snoc_get ha with ⟨ha1, ha2⟩ | ha <;> rcases snoc_get hb with ⟨hb1, hb2⟩ | hb
    · omega
    · have := (h.row b (List.mem_of_getElem? hb)).1.lt; subst ha2; omega
    · have := (h.row a (List.mem_of_getElem? ha)).1.lt; subst hb2; omega
    · exact h.inj i j a b ha hb e
/-- The row with number i, in memory. -/
theorem RTab.get (h : RTab B tw rs W) {i : Nat} {r : Rw} (hr : rs[i]? = some r) :
    ∃ g cap, tw = .slice (some ⟨g, 0, none⟩) rs.length cap ∧ rs.length ≤ cap ∧ B ≤ g ∧ W.cell? ⟨g, i, none⟩ = some (slV r.g r.l.length r.c) ∧ Row1 (Value.int .i64) W r.g 3 r.l r.rest ∧ B ≤ r.g ∧ r.l.length ≤ r.c ∧ r.g ≠ g := by
  have hne : rs.map Rw.val ≠ [] := fun e => by
    have := (List.getElem?_eq_some_iff.1 hr).1
    have h2 := congrArg List.length e
    simp at h2
    rw [h2] at this
    simp at this
  obtain ⟨g, cap, rest, ht, hg, hc, hrow⟩ := h.tab.vrow hne
  obtain ⟨h1, h2, h3⟩ := h.row r (List.mem_of_getElem? hr)
  rw [List.length_map] at ht hc
  have hcell := hrow.cell (i := i) (x := r.val) (by simp [hr])
  exact ⟨g, cap, ht, hc, hg, hcell, h1, h2, h3, ne_type h1 hrow (by decide)⟩
theorem RTab.len (h : RTab B tw rs W) : ∃ oa cap, tw = .slice oa rs.length cap ∧ rs.length ≤ cap := by
  obtain ⟨oa, c, ht, hc, _⟩ := h.tab.slice valR_ok
  rw [List.length_map] at ht hc
  exact ⟨oa, c, ht, hc⟩
theorem rwSet_len (rs : List Rw) (i : Nat) (l : List Int) : (rwSet rs i l).length = rs.length := by simp [rwSet]
theorem rwSet_at (rs : List Rw) (i j : Nat) (l : List Int) : (rwSet rs i l)[j]? = if i = j then rs[j]?.map (fun r => { r with l := l }) else rs[j]? := by
  unfold rwSet
  rw [List.getElem?_modify]
  by_cases h : i = j
  · subst h
    simp
  · rw [if_neg h]
    simp [h]
theorem rwSet_get {rs : List Rw} {i j : Nat} {l : List Int} {r : Rw} (h : (rwSet rs i l)[j]? = some r) : (j = i ∧ ∃ r0, rs[i]? = some r0 ∧ r = { r0 with l := l }) ∨ (j ≠ i ∧ rs[j]? = some r) := by
  rw [rwSet_at] at h
  split at h
  · rename_i e
    subst e
    left
    rw [Option.map_eq_some_iff] at h
    obtain ⟨r0, h1, h2⟩ := h
    exact ⟨rfl, r0, h1, h2.symm⟩
  · right
    rename_i e
    exact ⟨fun e2 => e e2.symm, h⟩
theorem tabL_set (rs : List Rw) (i : Nat) (l : List Int) : tabL (rwSet rs i l) = (tabL rs).set i l := by
  unfold tabL
  apply List.ext_getElem?
  intro j
  rw [List.getElem?_set, List.getElem?_map, rwSet_at]
  by_cases hij : i = j
  · subst hij
    rw [if_pos rfl, if_pos rfl, List.length_map]
    by_cases hi : i < rs.length
    · rw [if_pos hi, List.getElem?_eq_getElem hi]; rfl
    · rw [if_neg hi, List.getElem?_eq_none (by omega)]; rfl
  · rw [if_neg hij, if_neg hij, List.getElem?_map]
/-- A number changes. -/
theorem RTab.put (h : RTab B tw rs W) {i k : Nat} {r : Rw} (hr : rs[i]? = some r) (hk : k < r.l.length) (x : Int) : RTab B tw (rwSet rs i (r.l.set k x)) (W.setCell ⟨r.g, k, none⟩ (.int .i64 x)) := by
  have hrow := (h.row r (List.mem_of_getElem? hr)).1
  have hval : (rwSet rs i (r.l.set k x)).map Rw.val = rs.map Rw.val := by
    apply List.ext_getElem?
    intro j
    rw [List.getElem?_map, List.getElem?_map, rwSet_at]
    by_cases hij : i = j
    · subst hij
      rw [if_pos rfl, hr]
      simp [Rw.val]
    · rw [if_neg hij]
  refine ⟨?_, fun r' hr' => ?_, fun a b ra rb ha hb e => ?_⟩
  · rw [hval]
    refine OwnS.ext valR_ok h.tab fun g hg => Below.heap_setCell _ _ _ g ?_
    obtain ⟨cur, hcur⟩ := own_heap h.tab hg
    exact fun e => ne_type hrow hcur (by decide) e.symm
  · obtain ⟨j, hj⟩ := List.mem_iff_getElem?.1 hr'
    rcases rwSet_get hj with ⟨_, r0, h0, rfl⟩ | ⟨hji, hj⟩
    · rw [hr] at h0
      injection h0 with h0
      subst h0
      refine ⟨hrow.put hk x, (h.row r (List.mem_of_getElem? hr)).2.1, ?_⟩
      simp only [List.length_set]
      exact (h.row r (List.mem_of_getElem? hr)).2.2
    · have h1 := h.row r' (List.mem_of_getElem? hj)
      exact ⟨h1.1.other (fun e => hji (h.inj j i r' r hj hr e)) _, h1.2⟩
  · have key : ∀ {a : Nat} {ra : Rw}, (rwSet rs i (r.l.set k x))[a]? = some ra → ∃ r0, rs[a]? = some r0 ∧ r0.g = ra.g := fun {a ra} ha => by
      rcases rwSet_get ha with ⟨rfl, r0, h0, rfl⟩ | ⟨_, ha⟩
      · exact ⟨r0, h0, rfl⟩
      · exact ⟨ra, ha, rfl⟩
    obtain ⟨r1, h1, e1⟩ := key ha
    obtain ⟨r2, h2, e2⟩ := key hb
    exact h.inj a b r1 r2 h1 h2 (by rw [e1, e2, e])
end

end Go.Proofs.YtpgopmmobbemcaaGreat

set_option linter.unusedVariables false
namespace Go.Proofs.YtpgopmmobbemcaaGreat
open Go.RowKit

section
variable {α : Type} {R : Rep α} {sz base : Nat} {e : TypeId} {F : Foot}
end

end Go.Proofs.YtpgopmmobbemcaaGreat

set_option linter.unusedVariables false
namespace Go.Proofs.YtpgopmmobbemcaaGreat
open Go.RowKit

def InF (P : Foot) (v : Value) : Foot := fun k => P k ∧ some k ≠ v.ownBlock
section
variable {α : Type} {R : Rep α} {sz base : Nat} {e : TypeId} {P : Foot} {w w' : World} {v v' : Value} {xs : List α}
theorem own_snoc (ok : RepOk R sz) {y : α} {cells news : List Value} (hown0 : w.ownsRow base e sz v xs.length cells) (h1 : ∀ u ∈ cells, u.oneCell' = true) (hc : ∀ i x, xs[i]? = some x → R (InF P v) w (chunk sz i cells) x) (hR : R (InF P v) w news y)
    (h2 : w'.ownsRow base e sz v' (xs.length + 1) (cells ++ news)) (h3 : w.grownBy w' v.ownBlock) (h4 : ∀ k, v'.ownBlock = some k → v.ownBlock = some k ∨ k = w.heap.size) : OwnS R sz base e (InF P v') w' v' (xs ++ [y]) := by
  have key : ∀ {cs : List Value} {x : α}, R (InF P v) w cs x → R (InF P v') w' cs x := fun {cs x} hx => by
    have a1 : R (fun k => InF P v k ∧ k < w.heap.size) w cs x := ok.wide hx fun k hk hl => ⟨hk, hl⟩
    have a2 : R (fun k => InF P v k ∧ k < w.heap.size) w' cs x := ok.keep a1 fun k hk hl => h3.block k hl hk.1.2
    refine ok.wide a2 fun k hk _ => ⟨hk.1.1, fun he => ?_⟩
    rcases h4 k he.symm with h | h
    · exact hk.1.2 h.symm
    · have := hk.2; omega
  have hnl := ok.len hR
  have hl : (xs ++ [y]).length = xs.length + 1 := by simp
  refine ⟨cells ++ news, by rw [hl]; exact h2, fun u hu => ?_, fun i q hq => ?_⟩
  · rcases List.mem_append.1 hu with hu | hu
    · exact h1 u hu
    · exact ok.one hR u hu
  · have hcl : cells.length = xs.length * sz := hown0.1
    by_cases hlt : i < xs.length
    · rw [chunk_app_left hcl hlt]
      rw [List.getElem?_append_left hlt] at hq
      exact key (hc i q hq)
    · have hie : i = xs.length := by
        have := (List.getElem?_eq_some_iff.1 hq).1
        simp at this
        omega
      subst hie
      have hqy : q = y := by simpa using hq.symm
      subst hqy
      have : chunk sz xs.length (cells ++ news) = news := by
        unfold chunk
        rw [← hcl, List.drop_left, List.take_of_length_le (by omega)]
      rw [this]
      exact key hR
end

theorem wpList_append_in {α : Type} {R : Rep α} {P : Program} {w : World} {ops : Array Oper} {rest : List Oper} {o : Oper} {a : Act} {Q : Exit → Act → World → Prop} (hgd : o.guard = none) (s x : Operand) (t : TypeId)
    (ho : o.op = .call { callee := .builtin .append, args := #[s, x], argTypes := #[t, t] })
    (base : Nat) (e : TypeId) (z : Value) (size bytes : Nat) (ht : P.underlying t = some (.slice e)) (hinfo : (P.info? e).map (fun i => (i.zero, i.size, i.bytes)) = some (some z, size, bytes))
    (hzs : z.cells.size = size) (hsz : 0 < size) (ok : RepOk R size)
    (F : Foot) (v : Value) (xs : List α) (hs : a.eval s = v) (hown : OwnS R size base e (InF F v) w v xs)
    (ad : Addr) (c : Nat) (news : List Value) (y : α) (hx : a.eval x = .slice (some ad) 1 c) (hnews : ∀ j u, news[j]? = some u → w.cell? (ad.add j) = some u) (hR : R (InF F v) w news y)
    (hbytes : (xs.length + 1) * bytes ≤ 140737488355328) (hm : xs.length + 1 ≤ maxLen) (hbase : base ≤ w.heap.size)
    (hK : ∀ v' w', OwnS R size base e (InF F v') w' v' (xs ++ [y]) → Below base w w' → w.grownBy w' v.ownBlock → (∀ k, v'.ownBlock = some k → v.ownBlock = some k ∨ k = w.heap.size) → wpList P ops Q rest (a.put o.dst v') w') :
    wpList P ops Q (o :: rest) a w := by
  obtain ⟨i0, hi, hz0, hz1, hz2⟩ := info_parts hinfo
  obtain ⟨cells, hown0, h1, hc⟩ := hown
  have hnl := ok.len hR
  refine wpList_append_lies (w := w) hgd s x t ho base e i0 z size bytes ht hi hz0 hz1 hz2 hzs hsz v xs.length cells hs hown0 ad 1 c news hx (by rw [hnl, Nat.one_mul]) hnews (ok.one hR) (by omega) hm hbytes hbase w.heap.size rfl fun g cap w' h2 h3 h4 h5 => ?_
  have hb : Below base w w' := (Below.refl base w).grown h3 hbase fun k hk => (hown0.lt k hk).1
  have hat : ∀ k, (Value.slice (some ⟨g, 0, none⟩) (xs.length + 1) cap).ownBlock = some k → v.ownBlock = some k ∨ k = w.heap.size := fun k hk => by
    simp [Value.ownBlock] at hk
    subst hk
    exact h4
  exact hK _ w' (own_snoc ok hown0 h1 hc hR h2 h3 hat) hb h3 hat

end Go.Proofs.YtpgopmmobbemcaaGreat

namespace Go.Proofs.YtpgopmmobbemcaaGreat
open Go.RowKit

def ruleAt (rs : List (List Rul)) (s a : Int) : Rul := (rs.getD s.toNat []).getD a.toNat ⟨0, []⟩
def readSpec (rs : List (List Rul)) : Int → List Int → Int × List Out
  | s, [] => (s, [])
  | s, a :: r => ((readSpec rs (ruleAt rs s a).next r).1, (ruleAt rs s a).sent ++ (readSpec rs (ruleAt rs s a).next r).2)

theorem sentErr_zero {N : Int} : ∀ {l : List Out}, sentErr N l = 0 → ∀ o ∈ l, (0 ≤ o.dst ∧ o.dst < N) ∧ 0 ≤ o.letter ∧ o.letter < 8
  | [], _, o, ho => by cases ho
  | x :: r, h, o, ho => by
    unfold sentErr at h
    split at h
    · rename_i hx
      simp [belowB] at hx
      rcases List.mem_cons.1 ho with rfl | ho
      · exact ⟨hx.1, hx.2⟩
      · exact sentErr_zero h o ho
    · cases h
theorem ruleErr_zero {S N : Int} {r : Rul} (h : ruleErr S N r = 0) : (0 ≤ r.next ∧ r.next < S) ∧ r.sent.length ≤ 16 ∧ ∀ o ∈ r.sent, (0 ≤ o.dst ∧ o.dst < N) ∧ 0 ≤ o.letter ∧ o.letter < 8 := by
  unfold ruleErr at h
  split at h
  · rename_i hx
    split at h
    · simp [belowB] at hx
      exact ⟨hx, by assumption, sentErr_zero h⟩
    · cases h
  · cases h
theorem rowErr_zero {S N : Int} : ∀ {l : List Rul}, rowErr S N l = 0 → ∀ r ∈ l, ruleErr S N r = 0
  | [], _, o, ho => by cases ho
  | x :: r, h, o, ho => by
    unfold rowErr at h
    split at h
    · rcases List.mem_cons.1 ho with rfl | ho
      · assumption
      · exact rowErr_zero h o ho
    · rename_i hx; exact absurd h hx
theorem rowsErr_zero {S L N : Int} : ∀ {l : List (List Rul)}, rowsErr S L N l = 0 → ∀ r ∈ l, (r.length : Int) = L ∧ rowErr S N r = 0
  | [], _, o, ho => by cases ho
  | x :: r, h, o, ho => by
    unfold rowsErr at h
    split at h
    · split at h
      · rcases List.mem_cons.1 ho with rfl | ho
        · exact ⟨by assumption, by assumption⟩
        · exact rowsErr_zero h o ho
      · rename_i hx; exact absurd h hx
    · cases h
theorem check_zero {p : Prc} {N : Int} (h : checkErr p N = 0) : (1 ≤ N ∧ N ≤ 12) ∧ (1 ≤ p.states ∧ p.states ≤ 16) ∧ (1 ≤ p.letters ∧ p.letters ≤ 8) ∧ (p.rules.length : Int) = p.states ∧ rowsErr p.states p.letters N p.rules = 0 := by
  unfold checkErr at h
  split at h
  · cases h
  split at h
  · cases h
  split at h
  · cases h
  · exact ⟨by omega, by omega, by omega, by omega, h⟩
theorem valid_row {p : Prc} {N : Int} (h : checkErr p N = 0) {i : Nat} {row : List Rul} (hi : p.rules[i]? = some row) : (row.length : Int) = p.letters :=
  (rowsErr_zero (check_zero h).2.2.2.2 row (List.mem_of_getElem? hi)).1
theorem valid_rule {p : Prc} {N : Int} (h : checkErr p N = 0) {i j : Nat} {row : List Rul} {r : Rul} (hi : p.rules[i]? = some row) (hj : row[j]? = some r) :
    (0 ≤ r.next ∧ r.next < p.states) ∧ r.sent.length ≤ 16 ∧ ∀ o ∈ r.sent, (0 ≤ o.dst ∧ o.dst < N) ∧ 0 ≤ o.letter ∧ o.letter < 8 :=
  ruleErr_zero (rowErr_zero (rowsErr_zero (check_zero h).2.2.2.2 row (List.mem_of_getElem? hi)).2 r (List.mem_of_getElem? hj))
theorem letters_zero {L : Int} : ∀ {l : List Int}, lettersErr L l = 0 → ∀ a ∈ l, 0 ≤ a ∧ a < L
  | [], _, o, ho => by cases ho
  | x :: r, h, o, ho => by
    unfold lettersErr at h
    split at h
    · rename_i hx
      simp [belowB] at hx
      rcases List.mem_cons.1 ho with rfl | ho
      · exact hx
      · exact letters_zero h o ho
    · cases h
theorem ruleAt_eq {rs : List (List Rul)} {s a : Nat} {row : List Rul} {r : Rul} (hi : rs[s]? = some row) (hj : row[a]? = some r) : ruleAt rs (s : Int) (a : Int) = r := by
  simp [ruleAt, hi, hj]
end Go.Proofs.YtpgopmmobbemcaaGreat

set_option linter.unusedVariables false
set_option linter.unusedSimpArgs false
set_option linter.unnecessarySimpa false
namespace Go.Proofs.YtpgopmmobbemcaaGreat
open Go.RowKit

def prc0 : Prc := ⟨0, 0, []⟩
/-- All letters are read by those to which they are sent. -/
def outsOk (procs : List Prc) : List Out → Bool
  | [] => true
  | o :: r => if o.letter < (procs.getD o.dst.toNat prc0).letters then outsOk procs r else false
def rulesOk (procs : List Prc) : List Rul → Bool
  | [] => true
  | x :: r => if outsOk procs x.sent = true then rulesOk procs r else false
def rowsOk (procs : List Prc) : List (List Rul) → Bool
  | [] => true
  | x :: r => if rulesOk procs x = true then rowsOk procs r else false
def procsErr (N : Int) : List Prc → Int
  | [] => 0
  | p :: r => if checkErr p N = 0 then procsErr N r else checkErr p N
def procsOk (procs : List Prc) : List Prc → Bool
  | [] => true
  | p :: r => if rowsOk procs p.rules = true then procsOk procs r else false
def statesErr : List Int → List Prc → Int
  | s :: r, p :: l => if belowB s p.states then statesErr r l else 2
  | _, _ => 0
def shapesErr : List (List Int) → List Prc → Int
  | t :: r, p :: l => if (t.length : Int) = p.letters then shapesErr r l else 8
  | _, _ => 0
def numsErr : List Int → Int
  | [] => 0
  | k :: r => if 0 ≤ k ∧ k ≤ 1048576 then numsErr r else 2
def tableErr : List (List Int) → Int
  | [] => 0
  | l :: r => if numsErr l = 0 then tableErr r else numsErr l
def shapedErr (procs : List Prc) (t : List (List Int)) : Int := if t.length = procs.length then shapesErr t procs else 8
def waitsErr (x : Nwk) : Int := if shapedErr x.procs x.waiting = 0 then tableErr x.waiting else shapedErr x.procs x.waiting
def netErr (x : Nwk) : Int :=
  if x.procs.length < 1 ∨ 12 < x.procs.length then 2
  else if procsErr x.procs.length x.procs = 0 then
    if procsOk x.procs x.procs = true then
      if x.state.length = x.procs.length then
        if statesErr x.state x.procs = 0 then waitsErr x else statesErr x.state x.procs
      else 8
    else 6
  else procsErr x.procs.length x.procs

theorem outsOk_all {procs : List Prc} : ∀ {l : List Out}, outsOk procs l = true → ∀ o ∈ l, o.letter < (procs.getD o.dst.toNat prc0).letters
  | [], _, o, ho => by cases ho
  | x :: r, h, o, ho => by
    unfold outsOk at h
    split at h
    · rcases List.mem_cons.1 ho with rfl | ho
      · assumption
      · exact outsOk_all h o ho
    · cases h
theorem rulesOk_all {procs : List Prc} : ∀ {l : List Rul}, rulesOk procs l = true → ∀ o ∈ l, outsOk procs o.sent = true
  | [], _, o, ho => by cases ho
  | x :: r, h, o, ho => by
    unfold rulesOk at h
    split at h
    · rcases List.mem_cons.1 ho with rfl | ho
      · assumption
      · exact rulesOk_all h o ho
    · cases h
theorem rowsOk_all {procs : List Prc} : ∀ {l : List (List Rul)}, rowsOk procs l = true → ∀ o ∈ l, rulesOk procs o = true
  | [], _, o, ho => by cases ho
  | x :: r, h, o, ho => by
    unfold rowsOk at h
    split at h
    · rcases List.mem_cons.1 ho with rfl | ho
      · assumption
      · exact rowsOk_all h o ho
    · cases h
/-- What a right network holds. -/
structure Right (x : Nwk) : Prop where
  n : 1 ≤ x.procs.length ∧ x.procs.length ≤ 12
  proc : ∀ (i : Nat) (p : Prc), x.procs[i]? = some p → checkErr p x.procs.length = 0
  und : ∀ (i : Nat) (p : Prc), x.procs[i]? = some p → rowsOk x.procs p.rules = true
  nst : x.state.length = x.procs.length
  st : ∀ (i : Nat) (s : Int) (p : Prc), x.state[i]? = some s → x.procs[i]? = some p → 0 ≤ s ∧ s < p.states
  nwt : x.waiting.length = x.procs.length
  wl : ∀ (i : Nat) (t : List Int) (p : Prc), x.waiting[i]? = some t → x.procs[i]? = some p → (t.length : Int) = p.letters
  wb : ∀ t ∈ x.waiting, ∀ k ∈ t, 0 ≤ k ∧ k ≤ 1048576
end Go.Proofs.YtpgopmmobbemcaaGreat

set_option linter.unusedVariables false
namespace Go.Proofs.YtpgopmmobbemcaaGreat
open Go.RowKit

end Go.Proofs.YtpgopmmobbemcaaGreat

set_option linter.unusedVariables false
set_option linter.unusedSimpArgs false
set_option linter.unnecessarySimpa false
namespace Go.Proofs.YtpgopmmobbemcaaGreat
open Go.RowKit

end Go.Proofs.YtpgopmmobbemcaaGreat

set_option linter.unusedVariables false
set_option linter.unusedSimpArgs false
namespace Go.Proofs.YtpgopmmobbemcaaGreat
open Go.RowKit

end Go.Proofs.YtpgopmmobbemcaaGreat

set_option linter.unusedVariables false
namespace Go.Proofs.YtpgopmmobbemcaaGreat
open Go.RowKit

end Go.Proofs.YtpgopmmobbemcaaGreat

set_option linter.unusedVariables false
namespace Go.Proofs.YtpgopmmobbemcaaGreat
open Go.RowKit

end Go.Proofs.YtpgopmmobbemcaaGreat

set_option linter.unusedVariables false
set_option linter.unusedSimpArgs false
namespace Go.Proofs.YtpgopmmobbemcaaGreat
open Go.RowKit

end Go.Proofs.YtpgopmmobbemcaaGreat

namespace Go.Proofs.YtpgopmmobbemcaaGreat
open Go.RowKit

/-- An empty slice that the call has just made owns nothing. -/
theorem OwnS.made {α : Type} (R : Rep α) (sz : Nat) (e : TypeId) (F : Foot) (w : World) : OwnS R sz w.heap.size e F (w.alloc (.cells #[] e)) (.slice (some ⟨w.heap.size, 0, none⟩) 0 0) [] :=
  ⟨[], World.ownsRow_made w #[] 0 (Nat.le_refl _) (by unfold maxLen; omega) (by simp), by simp, by simp⟩

end Go.Proofs.YtpgopmmobbemcaaGreat

namespace Go.Proofs.YtpgopmmobbemcaaGreat
open Go.RowKit

def cmpIo (x y : Int) : Int := if x < y then -1 else if y < x then 1 else 0
def cmpO (a b : Out) : Int := if cmpIo a.dst b.dst = 0 then cmpIo a.letter b.letter else cmpIo a.dst b.dst
def leO (a b : Out) : Prop := a.dst < b.dst ∨ (a.dst = b.dst ∧ a.letter ≤ b.letter)
instance (a b : Out) : Decidable (leO a b) := by unfold leO; infer_instance

def ins (x : Out) : List Out → List Out
  | [] => [x]
  | y :: r => if leO x y then x :: y :: r else y :: ins x r
def isort : List Out → List Out
  | [] => []
  | x :: r => ins x (isort r)
abbrev Srt (l : List Out) : Prop := l.Pairwise leO

theorem ins_perm (x : Out) : ∀ l, (ins x l).Perm (x :: l)
  | [] => List.Perm.refl _
  | y :: r => by
    unfold ins
    split
    · exact List.Perm.refl _
    · exact (List.Perm.cons y (ins_perm x r)).trans (List.Perm.swap x y r)
theorem isort_perm : ∀ l, (isort l).Perm l
  | [] => List.Perm.refl _
  | x :: r => (ins_perm x _).trans (List.Perm.cons x (isort_perm r))
end Go.Proofs.YtpgopmmobbemcaaGreat

set_option linter.unusedVariables false
namespace Go.Proofs.YtpgopmmobbemcaaGreat
open Go.RowKit

def keyF (n : Nat) : Value := .func (.func n) #[] #[]
end Go.Proofs.YtpgopmmobbemcaaGreat

set_option linter.unusedVariables false
namespace Go.Proofs.YtpgopmmobbemcaaGreat
open Go.RowKit

def flatO (d : List Out) : List Value := d.flatMap fun o => [.int .i64 o.dst, .int .i64 o.letter]
section
variable {w w' : World} {g : Nat} {d : List Out} {rest : List Value}
end

end Go.Proofs.YtpgopmmobbemcaaGreat

set_option linter.unusedVariables false
namespace Go.Proofs.YtpgopmmobbemcaaGreat
open Go.RowKit

end Go.Proofs.YtpgopmmobbemcaaGreat

set_option linter.unusedVariables false
namespace Go.Proofs.YtpgopmmobbemcaaGreat
open Go.RowKit


end Go.Proofs.YtpgopmmobbemcaaGreat

set_option linter.unusedVariables false
namespace Go.Proofs.YtpgopmmobbemcaaGreat
open Go.RowKit

end Go.Proofs.YtpgopmmobbemcaaGreat

namespace Go.Proofs.YtpgopmmobbemcaaGreat
open Go.RowKit

def pick (l : List Out) (t a : Nat) : List Out := l.filter fun o => decide (o.dst = t) && decide (o.letter = a)
def pickRow (l : List Out) (t : Nat) (A : Nat) : List Out := (List.range A).flatMap (pick l t)
def picks (l : List Out) (T : Nat) : List Out := (List.range T).flatMap fun t => pickRow l t 8

end Go.Proofs.YtpgopmmobbemcaaGreat

set_option linter.unusedVariables false
namespace Go.Proofs.YtpgopmmobbemcaaGreat
open Go.RowKit

end Go.Proofs.YtpgopmmobbemcaaGreat

set_option linter.unusedVariables false
namespace Go.Proofs.YtpgopmmobbemcaaGreat
open Go.RowKit

end Go.Proofs.YtpgopmmobbemcaaGreat

set_option linter.unusedVariables false
set_option linter.unusedSimpArgs false
set_option linter.unnecessarySimpa false
namespace Go.Proofs.YtpgopmmobbemcaaGreat
open Go.RowKit

end Go.Proofs.YtpgopmmobbemcaaGreat

set_option linter.unusedVariables false
namespace Go.Proofs.YtpgopmmobbemcaaGreat
open Go.RowKit

end Go.Proofs.YtpgopmmobbemcaaGreat

set_option linter.unusedVariables false
namespace Go.Proofs.YtpgopmmobbemcaaGreat
open Go.RowKit

end Go.Proofs.YtpgopmmobbemcaaGreat

set_option linter.unusedVariables false
namespace Go.Proofs.YtpgopmmobbemcaaGreat
open Go.RowKit

end Go.Proofs.YtpgopmmobbemcaaGreat

set_option linter.unusedVariables false
namespace Go.Proofs.YtpgopmmobbemcaaGreat
open Go.RowKit

def rlettersErr (L : Int) (l : List Int) : Int := if 256 < l.length then 5 else lettersErr L l

end Go.Proofs.YtpgopmmobbemcaaGreat

set_option linter.unusedVariables false
namespace Go.Proofs.YtpgopmmobbemcaaGreat
open Go.RowKit

def runRes (p : Prc) (s : Int) (word : List Int) : Int × List Out × Int :=
  if stateErr p s = 0 then (if rlettersErr p.letters word = 0 then ((readSpec p.rules s word).1, (readSpec p.rules s word).2, 0) else (0, [], rlettersErr p.letters word)) else (0, [], stateErr p s)
def stepRes (p : Prc) (s a : Int) : Int × List Out × Int :=
  if stateErr p s = 0 then (if belowB a p.letters then ((readSpec p.rules s [a]).1, (readSpec p.rules s [a]).2, 0) else (0, [], 2)) else (0, [], stateErr p s)

end Go.Proofs.YtpgopmmobbemcaaGreat

set_option linter.unusedVariables false
namespace Go.Proofs.YtpgopmmobbemcaaGreat
open Go.RowKit

end Go.Proofs.YtpgopmmobbemcaaGreat

set_option linter.unusedVariables false
namespace Go.Proofs.YtpgopmmobbemcaaGreat
open Go.RowKit

def commB (rs : List (List Rul)) (s a b : Int) : Bool :=
  decide ((readSpec rs s [a, b]).1 = (readSpec rs s [b, a]).1) && decide (isort (readSpec rs s [a, b]).2 = isort (readSpec rs s [b, a]).2)

theorem ruleAt_mem {p : Prc} {N : Int} (h : checkErr p N = 0) {s a : Int} (hs : 0 ≤ s ∧ s < p.states) (ha : 0 ≤ a ∧ a < p.letters) :
    (0 ≤ (ruleAt p.rules s a).next ∧ (ruleAt p.rules s a).next < p.states) ∧ (ruleAt p.rules s a).sent.length ≤ 16 ∧ ∀ o ∈ (ruleAt p.rules s a).sent, (0 ≤ o.dst ∧ o.dst < N) ∧ 0 ≤ o.letter ∧ o.letter < 8 := by
  obtain ⟨n, rfl⟩ := Int.eq_ofNat_of_zero_le hs.1
  obtain ⟨m, rfl⟩ := Int.eq_ofNat_of_zero_le ha.1
  have h1 := (check_zero h).2.2.2.1
  have hn : n < p.rules.length := by omega
  have hrow := List.getElem?_eq_getElem hn
  have hl := valid_row h hrow
  have hm : m < (p.rules[n]).length := by omega
  have hr := List.getElem?_eq_getElem hm
  rw [ruleAt_eq hrow hr]
  exact valid_rule h hrow hr
theorem readSpec_right {p : Prc} {N : Int} (h : checkErr p N = 0) : ∀ (word : List Int) (s : Int), 0 ≤ s ∧ s < p.states → lettersErr p.letters word = 0 →
    (0 ≤ (readSpec p.rules s word).1 ∧ (readSpec p.rules s word).1 < p.states) ∧ (readSpec p.rules s word).2.length ≤ 16 * word.length ∧ ∀ o ∈ (readSpec p.rules s word).2, (0 ≤ o.dst ∧ o.dst < N) ∧ 0 ≤ o.letter ∧ o.letter < 8
  | [], s, hs, _ => ⟨hs, by simp [readSpec], by simp [readSpec]⟩
  | a :: r, s, hs, hw => by
    have ha := letters_zero hw a (by simp)
    have hr : lettersErr p.letters r = 0 := by
      unfold lettersErr at hw
      split at hw
      · exact hw
      · cases hw
    obtain ⟨h1, h2, h3⟩ := ruleAt_mem h hs ha
    obtain ⟨h4, h5, h6⟩ := readSpec_right h r _ h1 hr
    refine ⟨h4, ?_, ?_⟩
    · simp only [readSpec, List.length_append, List.length_cons]; omega
    · intro o ho
      simp only [readSpec, List.mem_append] at ho
      rcases ho with ho | ho
      · exact h3 o ho
      · exact h6 o ho

end Go.Proofs.YtpgopmmobbemcaaGreat

set_option linter.unusedVariables false
namespace Go.Proofs.YtpgopmmobbemcaaGreat
open Go.RowKit

/-- The first state and letters that do not commute. -/
def witB (f : Nat → Nat → Nat → Bool) (s a : Nat) : Nat → Nat → Option (Nat × Nat × Nat)
  | 0, _ => none
  | n + 1, b => if f s a b then witB f s a n (b + 1) else some (s, a, b)
def witA (f : Nat → Nat → Nat → Bool) (s L : Nat) : Nat → Nat → Option (Nat × Nat × Nat)
  | 0, _ => none
  | n + 1, a => (witB f s a L 0).or (witA f s L n (a + 1))
def witS (f : Nat → Nat → Nat → Bool) (L : Nat) : Nat → Nat → Option (Nat × Nat × Nat)
  | 0, _ => none
  | n + 1, s => (witA f s L L 0).or (witS f L n (s + 1))
def witL : Option (Nat × Nat × Nat) → List Int
  | none => []
  | some (s, a, b) => [(s : Int), (a : Int), (b : Int)]
def commN (rs : List (List Rul)) (s a b : Nat) : Bool := commB rs s a b
def abelRes (p : Prc) : Bool × List Int × Int :=
  if checkErr p 12 = 0 then ((witS (commN p.rules) p.letters.toNat p.states.toNat 0).isNone, witL (witS (commN p.rules) p.letters.toNat p.states.toNat 0), 0) else (false, [], checkErr p 12)
def AbelPost (w : World) (r : Bool × List Int × Int) (e : Ending) (w' : World) : Prop :=
  ∃ v, e = .returned (.tuple #[.bool r.1, v, .int .i64 r.2.2]) ∧ OwnS intR 1 w.heap.size 3 Non w' v r.2.1 ∧ Below w.heap.size w w'
def IntsPost (w : World) (r : List Int) (e : Ending) (w' : World) : Prop :=
  ∃ v, e = .returned v ∧ OwnS intR 1 w.heap.size 3 Non w' v r ∧ Below w.heap.size w w'
end Go.Proofs.YtpgopmmobbemcaaGreat

set_option linter.unusedVariables false
set_option linter.unusedSimpArgs false
set_option linter.unnecessarySimpa false
namespace Go.Proofs.YtpgopmmobbemcaaGreat
open Go.RowKit

def Ln.tot (l : Ln) : Nat := l.rm + l.q.length
def Pk.L : Pk → Int
  | .lett _ _ _ => 1
  | .ack _ _ => 0
def Pk.W : Pk → Int
  | .lett _ _ _ => 3
  | .ack _ _ => 1
def Lc : List (Pk × Nat) → Int
  | [] => 0
  | a :: r => a.1.L + Lc r
def Wc : List (Pk × Nat) → Int
  | [] => 0
  | a :: r => a.1.W + Wc r
theorem Pk.L_nonneg (p : Pk) : 0 ≤ p.L := by cases p <;> simp [Pk.L]
theorem Pk.W_pos (p : Pk) : 1 ≤ p.W := by cases p <;> simp [Pk.W]
theorem Lc_nonneg : ∀ l, 0 ≤ Lc l
  | [] => by simp [Lc]
  | a :: r => by have := Lc_nonneg r; have := a.1.L_nonneg; simp only [Lc]; omega
theorem Lc_append : ∀ l k, Lc (l ++ k) = Lc l + Lc k
  | [], k => by simp [Lc]
  | a :: r, k => by simp only [List.cons_append, Lc, Lc_append r k]; omega
theorem Wc_append : ∀ l k, Wc (l ++ k) = Wc l + Wc k
  | [], k => by simp [Wc]
  | a :: r, k => by simp only [List.cons_append, Wc, Wc_append r k]; omega
theorem Lc_split (f : Pk × Nat → Bool) : ∀ l, Lc (l.filter f) + Lc (l.filter fun a => !f a) = Lc l
  | [] => by simp [Lc]
  | a :: r => by
    have ih := Lc_split f r
    cases h : f a <;> simp [List.filter_cons, h, Lc] at ih ⊢ <;> omega
theorem Wc_split (f : Pk × Nat → Bool) : ∀ l, Wc (l.filter f) + Wc (l.filter fun a => !f a) = Wc l
  | [] => by simp [Wc]
  | a :: r => by
    have ih := Wc_split f r
    cases h : f a <;> simp [List.filter_cons, h, Wc] at ih ⊢ <;> omega

def PkOk (N : Nat) (m : Nat → Nat) (ls : List Ln) : Pk → Prop
  | .lett l num kind => l < N * N ∧ num ≤ (ls.getD l Ln.none).tot ∧ 0 ≤ kind ∧ kind < (m (l % N) : Nat)
  | .ack l num => l < N * N ∧ num ≤ (ls.getD l Ln.none).tot

/-- m: letters of a processor, ns: its states; pend: packets that arrived and were not handled yet. -/
structure WInv (N : Nat) (m : Nat → Nat) (ns : Nat → Int) (X M K A T : Int) (pend : List (Pk × Nat)) (S : Wr) : Prop where
  nst : S.st.length = N
  nwt : S.wt.length = N
  nct : S.ct.length = N
  nls : S.ls.length = N * N
  st : ∀ (p : Nat) (s : Int), S.st[p]? = some s → 0 ≤ s ∧ s < ns p
  wl : ∀ (p : Nat) (row : List Int), S.wt[p]? = some row → row.length = m p
  cl : ∀ (p : Nat) (row : List Int), S.ct[p]? = some row → row.length = m p
  wb : ∀ (p : Nat) (row : List Int), S.wt[p]? = some row → ∀ (k : Nat) (x : Int), row[k]? = some x → 0 ≤ x ∧ x + Lc (pend ++ S.fl) ≤ M
  cb : ∀ (p : Nat) (row : List Int), S.ct[p]? = some row → ∀ (k : Nat) (x : Int), row[k]? = some x → 0 ≤ x ∧ x ≤ T
  lb : ∀ (j : Nat) (l : Ln), S.ls[j]? = some l → (l.tot : Int) ≤ T ∧ l.ac ≤ l.tot ∧ l.sn ≤ S.tk ∧ ∀ a ∈ l.q, 0 ≤ a ∧ a < (m (j % N) : Nat)
  pk : ∀ a ∈ pend ++ S.fl, PkOk N m S.ls a.1
  wgt : Wc (pend ++ S.fl) ≤ K
  seb : S.se + Lc (pend ++ S.fl) ≤ A
  lg : X ≤ 1048576 → S.lg = false
  mx : M ≤ X

structure NetOk (N σ : Nat) (m : Nat → Nat) (ns : Nat → Int) (next : Nat → Int → Nat → Int) (sent : Nat → Int → Nat → List (Int × Int)) : Prop where
  next : ∀ p s k, p < N → 0 ≤ s → s < ns p → k < m p → 0 ≤ next p s k ∧ next p s k < ns p
  few : ∀ p s k, p < N → 0 ≤ s → s < ns p → k < m p → (sent p s k).length ≤ σ
  out : ∀ p s k, p < N → 0 ≤ s → s < ns p → k < m p → ∀ x ∈ sent p s k, 0 ≤ x.1 ∧ x.1 < N ∧ 0 ≤ x.2 ∧ x.2 < (m x.1.toNat : Nat)

theorem set_get {α : Type} {l : List α} {i j : Nat} {y x : α} (h : (l.set i y)[j]? = some x) : (j = i ∧ x = y) ∨ (j ≠ i ∧ l[j]? = some x) := by
  rw [List.getElem?_set] at h
  split at h
  · rename_i e
    split at h
    · injection h with h; exact .inl ⟨e.symm, h.symm⟩
    · cases h
  · rename_i e
    exact .inr ⟨fun h => e h.symm, h⟩
theorem getD_some {α : Type} {l : List α} {i : Nat} {d x : α} (h : l[i]? = some x) : l.getD i d = x := by
  rw [List.getD_eq_getElem?_getD, h]; rfl
theorem getD_set {α : Type} {l : List α} {i j : Nat} {d y : α} : (l.set i y).getD j d = if j = i ∧ i < l.length then y else l.getD j d := by
  rw [List.getD_eq_getElem?_getD, List.getD_eq_getElem?_getD, List.getElem?_set]
  by_cases e : i = j
  · subst e
    by_cases h : i < l.length
    · simp [h]
    · simp [h, List.getElem?_eq_none (Nat.le_of_not_lt h)]
  · have : ¬ j = i := fun h => e h.symm
    simp [e, this]

section
variable {N : Nat} {m : Nat → Nat} {ns : Nat → Int} {X M K A T : Int} {pend : List (Pk × Nat)} {S : Wr}

theorem PkOk.grow {ls ls' : List Ln} (h : ∀ j, (ls.getD j Ln.none).tot ≤ (ls'.getD j Ln.none).tot) {p : Pk} (hp : PkOk N m ls p) : PkOk N m ls' p := by
  cases p with
  | lett l num kind => obtain ⟨h1, h2, h3⟩ := hp; exact ⟨h1, Nat.le_trans h2 (h l), h3⟩
  | ack l num => obtain ⟨h1, h2⟩ := hp; exact ⟨h1, Nat.le_trans h2 (h l)⟩
theorem tot_set {ls : List Ln} {j : Nat} {l : Ln} (h : (ls.getD j Ln.none).tot ≤ l.tot) (i : Nat) : (ls.getD i Ln.none).tot ≤ ((ls.set j l).getD i Ln.none).tot := by
  rw [getD_set]
  split
  · rename_i e; rw [e.1]; exact h
  · exact Nat.le_refl _

theorem WInv.mono (h : WInv N m ns X M K A T pend S) {X' M' K' A' T' : Int} (h1 : M ≤ M') (h2 : K ≤ K') (h3 : A ≤ A') (h4 : T ≤ T') (h5 : X ≤ X') (h6 : M' ≤ X') : WInv N m ns X' M' K' A' T' pend S :=
  { h with
    wb := fun p row hp k x hx => by have := h.wb p row hp k x hx; omega
    cb := fun p row hp k x hx => by have := h.cb p row hp k x hx; omega
    lb := fun j l hl => by obtain ⟨a, b⟩ := h.lb j l hl; exact ⟨by omega, b⟩
    wgt := by have := h.wgt; omega
    seb := by have := h.seb; omega
    lg := fun hM => h.lg (by omega)
    mx := h6 }
theorem WInv.line (h : WInv N m ns X M K A T pend S) {j : Nat} (hj : j < N * N) : ∃ l, S.ls[j]? = some l ∧ S.ls.getD j Ln.none = l := by
  have : j < S.ls.length := by rw [h.nls]; exact hj
  exact ⟨_, List.getElem?_eq_getElem this, getD_some (List.getElem?_eq_getElem this)⟩
theorem WInv.wrow (h : WInv N m ns X M K A T pend S) {p : Nat} (hp : p < N) : ∃ row, S.wt[p]? = some row ∧ S.wt.getD p [] = row ∧ row.length = m p := by
  have : p < S.wt.length := by rw [h.nwt]; exact hp
  exact ⟨_, List.getElem?_eq_getElem this, getD_some (List.getElem?_eq_getElem this), h.wl _ _ (List.getElem?_eq_getElem this)⟩
theorem WInv.state (h : WInv N m ns X M K A T pend S) {p : Nat} (hp : p < N) : ∃ s, S.st[p]? = some s ∧ S.st.getD p 0 = s ∧ 0 ≤ s ∧ s < ns p := by
  have : p < S.st.length := by rw [h.nst]; exact hp
  exact ⟨_, List.getElem?_eq_getElem this, getD_some (List.getElem?_eq_getElem this), h.st _ _ (List.getElem?_eq_getElem this)⟩

/-- A packet is taken. -/
theorem WInv.pop {a : Pk × Nat} (h : WInv N m ns X M K A T (a :: pend) S) : WInv N m ns X (M - a.1.L) (K - a.1.W) (A - a.1.L) T pend S ∧ PkOk N m S.ls a.1 := by
  refine ⟨{ h with
    wb := fun p row hp k x hx => by have := h.wb p row hp k x hx; simp only [List.cons_append, Lc] at this; omega
    pk := fun b hb => h.pk b (by simp only [List.cons_append]; exact List.mem_cons_of_mem _ hb)
    wgt := by have := h.wgt; simp only [List.cons_append, Wc] at this; omega
    seb := by have := h.seb; simp only [List.cons_append, Lc] at this; omega
    mx := by have := h.mx; have := a.1.L_nonneg; omega }, h.pk a (by simp)⟩
/-- A packet is sent. -/
theorem WInv.send (h : WInv N m ns X M K A T pend S) (fates : List Int) {p : Pk} (hp : PkOk N m S.ls p) (hX : M + 2 * p.L ≤ X) : WInv N m ns X (M + 2 * p.L) (K + 2 * p.W) (A + 1 + 2 * p.L) T pend (sendS fates p S) := by
  have hL : Lc (pend ++ (sendS fates p S).fl) ≤ Lc (pend ++ S.fl) + 2 * p.L := by
    have := p.L_nonneg
    unfold sendS delayS
    simp only [Lc_append]
    split
    · simp [Lc]; omega
    · split
      · simp [Lc]; omega
      · split
        · simp [Lc]; omega
        · simp [Lc]; omega
  have hW : Wc (pend ++ (sendS fates p S).fl) ≤ Wc (pend ++ S.fl) + 2 * p.W := by
    have := p.W_pos
    unfold sendS delayS
    simp only [Wc_append]
    split
    · simp [Wc]; omega
    · split
      · simp [Wc]; omega
      · split
        · simp [Wc]; omega
        · simp [Wc]; omega
  exact { h with
    wb := fun q row hq k x hx => by have := h.wb q row hq k x hx; omega
    pk := fun b hb => by
      rcases List.mem_append.1 hb with hb | hb
      · exact h.pk b (List.mem_append_left _ hb)
      · rcases List.mem_append.1 hb with hb | hb
        · exact h.pk b (List.mem_append_right _ hb)
        · obtain ⟨n, _, rfl⟩ := List.mem_map.1 hb
          exact hp
    wgt := by have := h.wgt; omega
    seb := by
      have := h.seb
      have e : (sendS fates p S).se = S.se + 1 := rfl
      rw [e]
      omega
    mx := hX }
/-- A letter waits. -/
theorem WInv.wait (h : WInv N m ns X M K A T pend S) {p k : Nat} (hp : p < N) (hk : k < m p) (hX : M + 1 ≤ X) : WInv N m ns X (M + 1) K A T pend (waitS p k S) := by
  obtain ⟨row, hr, hg, hl⟩ := h.wrow hp
  have hk' : k < row.length := by omega
  have hx := List.getElem?_eq_getElem hk'
  have e : waitS p k S = { S with wt := S.wt.set p (row.set k (row[k] + 1)), lg := S.lg || decide (1048576 < row[k] + 1) } := by
    unfold waitS bump
    rw [hg, getD_some hx]
  rw [e]
  have hb := h.wb p row hr k _ hx
  have hn := Lc_nonneg (pend ++ S.fl)
  exact { h with
    nwt := by show (S.wt.set p _).length = N; rw [List.length_set]; exact h.nwt
    wl := fun q r hq => by
      rcases set_get hq with ⟨rfl, rfl⟩ | ⟨_, hq⟩
      · rw [List.length_set]; exact hl
      · exact h.wl q r hq
    wb := fun q r hq i x hi => by
      show 0 ≤ x ∧ x + Lc (pend ++ S.fl) ≤ M + 1
      rcases set_get hq with ⟨rfl, rfl⟩ | ⟨_, hq⟩
      · rcases set_get hi with ⟨rfl, rfl⟩ | ⟨_, hi⟩
        · omega
        · have := h.wb q row hr i x hi; omega
      · have := h.wb q r hq i x hi; omega
    lg := fun hM => by
      show (S.lg || decide (1048576 < row[k] + 1)) = false
      rw [h.lg hM]
      simp
      omega
    mx := hX }
/-- A line's numbers change, what it holds in all does not become less. -/
theorem WInv.setLn (h : WInv N m ns X M K A T pend S) {j : Nat} {l l' : Ln} (hl : S.ls[j]? = some l) (hj : j < N * N) {T' : Int} (hT : T ≤ T') (ht : l.tot ≤ l'.tot) (htT : (l'.tot : Int) ≤ T') (hac : l'.ac ≤ l'.tot) (hsn : l'.sn ≤ S.tk) (hq : ∀ a ∈ l'.q, 0 ≤ a ∧ a < (m (j % N) : Nat)) :
    WInv N m ns X M K A T' pend { S with ls := S.ls.set j l' } :=
  { h with
    nls := by show (S.ls.set j l').length = N * N; rw [List.length_set]; exact h.nls
    cb := fun p row hp k x hx => by have := h.cb p row hp k x hx; omega
    lb := fun i y hi => by
      rcases set_get hi with ⟨rfl, rfl⟩ | ⟨_, hi⟩
      · exact ⟨htT, hac, hsn, hq⟩
      · obtain ⟨a, b⟩ := h.lb i y hi; exact ⟨by omega, b⟩
    pk := fun b hb => PkOk.grow (tot_set (by rw [getD_some hl]; exact ht)) (h.pk b hb) }

/-- A tick begins: the packets of this tick are taken out. -/
theorem WInv.begin_ (h : WInv N m ns X M K A T [] S) : WInv N m ns X M K A T ((S.fl.filter fun a => a.2 == S.tk + 1)) { S with tk := S.tk + 1, fl := S.fl.filter fun a => !(a.2 == S.tk + 1) } := by
  have hL : Lc ((S.fl.filter fun a => a.2 == S.tk + 1) ++ S.fl.filter fun a => !(a.2 == S.tk + 1)) = Lc S.fl := by rw [Lc_append]; exact Lc_split (fun a => a.2 == S.tk + 1) S.fl
  have hW : Wc ((S.fl.filter fun a => a.2 == S.tk + 1) ++ S.fl.filter fun a => !(a.2 == S.tk + 1)) = Wc S.fl := by rw [Wc_append]; exact Wc_split (fun a => a.2 == S.tk + 1) S.fl
  exact { h with
    wb := fun p row hp k x hx => by have := h.wb p row hp k x hx; simp only [List.nil_append] at this; rw [hL]; exact this
    lb := fun j l hl => by obtain ⟨a, b, c, d⟩ := h.lb j l hl; exact ⟨a, b, by show l.sn ≤ S.tk + 1; omega, d⟩
    pk := fun b hb => h.pk b (by
      simp only [List.nil_append]
      rcases List.mem_append.1 hb with hb | hb
      · exact (List.mem_filter.1 hb).1
      · exact (List.mem_filter.1 hb).1)
    wgt := by have := h.wgt; simp only [List.nil_append] at this; rw [hW]; exact this
    seb := by have := h.seb; simp only [List.nil_append] at this; rw [hL]; exact this }

/-- One output. -/
theorem WInv.put (h : WInv N m ns X M K A T pend S) {p : Nat} (hp : p < N) {x : Int × Int} (h1 : 0 ≤ x.1 ∧ x.1 < N) (h2 : 0 ≤ x.2 ∧ x.2 < (m x.1.toNat : Nat)) (hX : M + 1 ≤ X) : WInv N m ns X (M + 1) K A (T + 1) pend (putS N p x S) := by
  unfold putS
  split
  · rename_i e
    have e2 : x.1.toNat = p := by omega
    rw [e2] at h2
    exact (h.wait hp (k := x.2.toNat) (by omega) hX).mono (Int.le_refl _) (Int.le_refl _) (Int.le_refl _) (by omega) (Int.le_refl _) hX
  · have hq : x.1.toNat < N := by omega
    have hj : p * N + x.1.toNat < N * N := by
      have : (p + 1) * N ≤ N * N := Nat.mul_le_mul_right N hp
      rw [Nat.succ_mul] at this
      omega
    obtain ⟨l, hl, hgl⟩ := h.line hj
    obtain ⟨a1, a2, a3, a4⟩ := h.lb _ l hl
    rw [hgl]
    have hm : (p * N + x.1.toNat) % N = x.1.toNat := by rw [Nat.add_comm, Nat.add_mul_mod_self_right, Nat.mod_eq_of_lt hq]
    have e : ({ l with q := l.q ++ [x.2] } : Ln).tot = l.tot + 1 := by unfold Ln.tot; simp; omega
    exact (h.setLn (l' := { l with q := l.q ++ [x.2] }) (T' := T + 1) hl hj (by omega) (by rw [e]; omega) (by rw [e]; push_cast; omega) (by rw [e]; show l.ac ≤ _; omega) a3 (fun a ha => by
      rcases List.mem_append.1 ha with ha | ha
      · exact a4 a ha
      · rw [List.mem_singleton] at ha; rw [ha, hm]; exact h2)).mono (by omega) (Int.le_refl _) (Int.le_refl _) (Int.le_refl _) (Int.le_refl _) hX
/-- A line sends. -/
theorem WInv.lineS (h : WInv N m ns X M K A T [] S) (fates : List Int) {j : Nat} (hj : j < N * N) (hX : M + 2 ≤ X) : WInv N m ns X (M + 2) (K + 6) (A + 3) T [] (lineS fates j S) := by
  obtain ⟨l, hl, hgl⟩ := h.line hj
  obtain ⟨a1, a2, a3, a4⟩ := h.lb _ l hl
  unfold Go.Proofs.YtpgopmmobbemcaaGreat.lineS
  rw [hgl]
  rcases hq : l.q with _ | ⟨a, r⟩
  · exact h.mono (by omega) (by omega) (by omega) (Int.le_refl _) (Int.le_refl _) hX
  · simp only
    split
    · have ht : l.rm + 1 ≤ l.tot := by unfold Ln.tot; rw [hq]; simp
      have hp : PkOk N m S.ls (.lett j (l.rm + 1) a) := ⟨hj, by rw [hgl]; exact ht, (a4 a (by rw [hq]; simp)).1, (a4 a (by rw [hq]; simp)).2⟩
      have h1 := h.send fates hp (by simp only [Pk.L]; omega)
      simp only [Pk.L, Pk.W] at h1
      have h2 := h1.setLn (l' := { l with sn := S.tk }) hl hj (Int.le_refl T) (Nat.le_refl _) a1 a2 (Nat.le_refl _) a4
      exact (h2.mono (by omega) (by omega) (by omega) (Int.le_refl _) (Int.le_refl _) hX)
    · exact h.mono (by omega) (by omega) (by omega) (Int.le_refl _) (Int.le_refl _) hX

end

end Go.Proofs.YtpgopmmobbemcaaGreat

set_option linter.unusedVariables false
set_option linter.unusedSimpArgs false
set_option linter.unnecessarySimpa false
namespace Go.Proofs.YtpgopmmobbemcaaGreat
open Go.RowKit

def ruleP (procs : List Prc) (p : Nat) (s : Int) (k : Nat) : Rul := ruleAt (procs.getD p prc0).rules s k
def nextP (procs : List Prc) (p : Nat) (s : Int) (k : Nat) : Int := (ruleP procs p s k).next
def pairO (o : Out) : Int × Int := (o.dst, o.letter)
def sentP (procs : List Prc) (p : Nat) (s : Int) (k : Nat) : List (Int × Int) := (ruleP procs p s k).sent.map pairO
def lettersP (procs : List Prc) (p : Nat) : Nat := (procs.getD p prc0).letters.toNat
def statesP (procs : List Prc) (p : Nat) : Int := (procs.getD p prc0).states

theorem Right.rule {x : Nwk} (h : Right x) {p k : Nat} {s : Int} (hp : p < x.procs.length) (h0 : 0 ≤ s) (h1 : s < statesP x.procs p) (hk : k < lettersP x.procs p) :
    ∃ pr row r, x.procs[p]? = some pr ∧ x.procs.getD p prc0 = pr ∧ pr.rules[s.toNat]? = some row ∧ row[k]? = some r ∧ ruleP x.procs p s k = r ∧ (0 ≤ r.next ∧ r.next < pr.states) ∧ r.sent.length ≤ 16 ∧
      ∀ o ∈ r.sent, (0 ≤ o.dst ∧ o.dst < x.procs.length) ∧ 0 ≤ o.letter ∧ o.letter < lettersP x.procs o.dst.toNat := by
  have hpr := List.getElem?_eq_getElem hp
  have hg : x.procs.getD p prc0 = x.procs[p] := getD_some hpr
  have hc := h.proc p _ hpr
  unfold statesP at h1
  unfold lettersP at hk
  rw [hg] at h1 hk
  have hz := check_zero hc
  have hs : s.toNat < (x.procs[p]).rules.length := by have := hz.2.2.2.1; omega
  have hrow := List.getElem?_eq_getElem hs
  have hl := valid_row hc hrow
  have hk2 : k < ((x.procs[p]).rules[s.toNat]).length := by omega
  have hr := List.getElem?_eq_getElem hk2
  obtain ⟨v1, v2, v3⟩ := valid_rule hc hrow hr
  refine ⟨_, _, _, hpr, hg, hrow, hr, ?_, v1, v2, fun o ho => ?_⟩
  · unfold ruleP ruleAt
    rw [hg, getD_some hrow, show ((k : Nat) : Int).toNat = k from Int.toNat_natCast k, getD_some hr]
  · obtain ⟨a, b, c⟩ := v3 o ho
    have ha : o.dst < x.procs.length := a.2
    refine ⟨⟨a.1, ha⟩, b, ?_⟩
    have := outsOk_all (rulesOk_all (rowsOk_all (h.und p _ hpr) _ (List.mem_of_getElem? hrow)) _ (List.mem_of_getElem? hr)) o ho
    unfold lettersP
    omega
theorem Right.ok {x : Nwk} (h : Right x) : NetOk x.procs.length 16 (lettersP x.procs) (statesP x.procs) (nextP x.procs) (sentP x.procs) where
  next := fun p s k hp h0 h1 hk => by
    obtain ⟨pr, row, r, e1, e2, e3, e4, e5, e6, _⟩ := h.rule hp h0 h1 hk
    unfold nextP statesP
    rw [e5, e2]
    exact e6
  few := fun p s k hp h0 h1 hk => by
    obtain ⟨pr, row, r, e1, e2, e3, e4, e5, e6, e7, _⟩ := h.rule hp h0 h1 hk
    unfold sentP
    rw [e5, List.length_map]
    exact e7
  out := fun p s k hp h0 h1 hk y hy => by
    obtain ⟨pr, row, r, e1, e2, e3, e4, e5, e6, e7, e8⟩ := h.rule hp h0 h1 hk
    unfold sentP at hy
    rw [e5] at hy
    obtain ⟨o, ho, rfl⟩ := List.mem_map.1 hy
    obtain ⟨a, b, c⟩ := e8 o ho
    exact ⟨a.1, a.2, b, c⟩
theorem Right.letters {x : Nwk} (h : Right x) (p : Nat) (hp : p < x.procs.length) : 1 ≤ lettersP x.procs p ∧ lettersP x.procs p ≤ 8 := by
  have hpr := List.getElem?_eq_getElem hp
  have hz := check_zero (h.proc p _ hpr)
  unfold lettersP
  rw [getD_some hpr]
  omega
/-- The machine at its beginning. -/
theorem Right.begin_ {x : Nwk} (h : Right x) {M X : Int} (hM : ∀ t ∈ x.waiting, ∀ k ∈ t, k ≤ M) (hX : M ≤ X) : WInv x.procs.length (lettersP x.procs) (statesP x.procs) X M 0 0 0 [] (beginS x.state x.waiting x.procs.length) where
  nst := h.nst
  nwt := h.nwt
  nct := by show (x.waiting.map _).length = _; rw [List.length_map]; exact h.nwt
  nls := by simp [beginS]
  st := fun p s hs => by
    have hp : p < x.procs.length := by have := (List.getElem?_eq_some_iff.1 hs).1; have := h.nst; simp only [beginS] at *; omega
    have hpr := List.getElem?_eq_getElem hp
    unfold statesP
    rw [getD_some hpr]
    exact h.st p s _ hs hpr
  wl := fun p row hr => by
    have hp : p < x.procs.length := by have := (List.getElem?_eq_some_iff.1 hr).1; have := h.nwt; simp only [beginS] at *; omega
    have hpr := List.getElem?_eq_getElem hp
    unfold lettersP
    rw [getD_some hpr]
    have := h.wl p row _ hr hpr
    omega
  cl := fun p row hr => by
    simp only [beginS, List.getElem?_map, Option.map_eq_some_iff] at hr
    obtain ⟨t, ht, rfl⟩ := hr
    have hp : p < x.procs.length := by have := (List.getElem?_eq_some_iff.1 ht).1; have := h.nwt; omega
    have hpr := List.getElem?_eq_getElem hp
    unfold lettersP
    rw [getD_some hpr, List.length_replicate]
    have := h.wl p t _ ht hpr
    omega
  wb := fun p row hr k y hy => by
    have h1 := h.wb row (List.mem_of_getElem? hr) y (List.mem_of_getElem? hy)
    have h2 := hM row (List.mem_of_getElem? hr) y (List.mem_of_getElem? hy)
    refine ⟨h1.1, ?_⟩
    show y + Lc ([] ++ []) ≤ M
    simp [Lc]
    exact h2
  cb := fun p row hr k y hy => by
    simp only [beginS, List.getElem?_map, Option.map_eq_some_iff] at hr
    obtain ⟨t, ht, rfl⟩ := hr
    rw [List.getElem?_replicate] at hy
    split at hy
    · injection hy with hy; omega
    · cases hy
  lb := fun j l hl => by
    simp only [beginS, List.getElem?_replicate] at hl
    split at hl
    · injection hl with hl
      subst hl
      exact ⟨by simp [Ln.tot, Ln.none], by simp [Ln.tot, Ln.none], by simp [Ln.none], fun a ha => by simp [Ln.none] at ha⟩
    · cases hl
  pk := fun a ha => by simp [beginS] at ha
  wgt := by simp [beginS, Wc]
  seb := by simp [beginS, Lc]
  lg := fun _ => rfl
  mx := hX
end Go.Proofs.YtpgopmmobbemcaaGreat

set_option linter.unusedVariables false
set_option linter.unusedSimpArgs false
namespace Go.Proofs.YtpgopmmobbemcaaGreat
open Go.RowKit

theorem checkErr_more {p : Prc} {N : Int} (h : checkErr p N = 0) : checkErr p 12 = 0 := by
  obtain ⟨h1, h2, h3, h4, h5⟩ := check_zero h
  have hs : ∀ l : List Out, sentErr N l = 0 → sentErr 12 l = 0 := fun l => by
    induction l with
    | nil => intro _; rfl
    | cons x r ih =>
      intro hl
      unfold sentErr at hl ⊢
      split at hl
      · rename_i hx
        simp [belowB] at hx
        rw [if_pos (by simp [belowB]; omega)]
        exact ih hl
      · cases hl
  have hr : ∀ r : Rul, ruleErr p.states N r = 0 → ruleErr p.states 12 r = 0 := fun r hr => by
    unfold ruleErr at hr ⊢
    split at hr
    · rename_i hx
      rw [if_pos hx]
      split at hr
      · rename_i hy
        rw [if_pos hy]
        exact hs _ hr
      · cases hr
    · cases hr
  have ho : ∀ l : List Rul, rowErr p.states N l = 0 → rowErr p.states 12 l = 0 := fun l => by
    induction l with
    | nil => intro _; rfl
    | cons x r ih =>
      intro hl
      unfold rowErr at hl ⊢
      split at hl
      · rename_i hx
        rw [if_pos (hr x hx)]
        exact ih hl
      · rename_i hx; exact absurd hl hx
  have hw : ∀ l : List (List Rul), rowsErr p.states p.letters N l = 0 → rowsErr p.states p.letters 12 l = 0 := fun l => by
    induction l with
    | nil => intro _; rfl
    | cons x r ih =>
      intro hl
      unfold rowsErr at hl ⊢
      split at hl
      · rename_i hx
        rw [if_pos hx]
        split at hl
        · rename_i hy
          rw [if_pos (ho x hy)]
          exact ih hl
        · rename_i hy; exact absurd hl hy
      · cases hl
  unfold checkErr
  rw [if_neg (by omega), if_neg (by omega), if_neg (by omega)]
  exact hw _ h5

/-- All processors are abelian. -/
def commP (procs : List Prc) : Bool := procs.all fun p => (witS (commN p.rules) p.letters.toNat p.states.toNat 0).isNone

end Go.Proofs.YtpgopmmobbemcaaGreat

set_option linter.unusedVariables false
set_option linter.unusedSimpArgs false
set_option linter.unnecessarySimpa false
namespace Go.Proofs.YtpgopmmobbemcaaGreat
open Go.RowKit

end Go.Proofs.YtpgopmmobbemcaaGreat

set_option linter.unusedVariables false
set_option linter.unusedSimpArgs false
set_option linter.unnecessarySimpa false
namespace Go.Proofs.YtpgopmmobbemcaaGreat
open Go.RowKit

theorem chunk_cell {sz i j : Nat} {l : List Value} (hj : j < sz) : (chunk sz i l)[j]? = l[i * sz + j]? := by
  unfold chunk
  rw [List.getElem?_take, if_pos hj, List.getElem?_drop]
theorem chunk_set_same {sz i j : Nat} {l : List Value} {u : Value} (hj : j < sz) : chunk sz i (l.set (i * sz + j) u) = (chunk sz i l).set j u := by
  unfold chunk
  rw [List.drop_set, if_neg (by omega), show i * sz + j - i * sz = j from by omega, List.take_set]
theorem chunk_set_other {sz i j k : Nat} {l : List Value} {u : Value} (hj : j < sz) (hk : k ≠ i) : chunk sz k (l.set (i * sz + j) u) = chunk sz k l := by
  unfold chunk
  apply List.ext_getElem?
  intro n
  rw [List.getElem?_take, List.getElem?_take]
  split
  · rename_i hn
    rw [List.getElem?_drop, List.getElem?_drop, List.getElem?_set]
    rw [if_neg]
    intro e
    rcases Nat.lt_or_ge k i with h | h
    · have := Nat.mul_le_mul_right sz (Nat.succ_le_of_lt h)
      rw [Nat.succ_mul] at this
      omega
    · have h2 : i + 1 ≤ k := by omega
      have := Nat.mul_le_mul_right sz h2
      rw [Nat.succ_mul] at this
      omega
  · rfl

/-- The slice v at block g holds xs, but for element i, of which the cells hc are known. -/
def RowH {α : Type} (R : Rep α) (sz base : Nat) (e : TypeId) (F : Foot) (w : World) (v : Value) (g : Nat) (xs : List α) (i : Nat) (hc : List Value) : Prop :=
  ∃ cap cur, v = .slice (some ⟨g, 0, none⟩) xs.length cap ∧ base ≤ g ∧ w.heap[g]? = some (.cells cur e (0, 0)) ∧ xs.length ≤ cap ∧ cap ≤ maxLen ∧ cur.size = cap * sz ∧
    (∀ u ∈ cur.toList.take (xs.length * sz), u.oneCell' = true) ∧ i < xs.length ∧ hc = chunk sz i cur.toList ∧ ∀ k x, k ≠ i → xs[k]? = some x → R F w (chunk sz k cur.toList) x
section
variable {α : Type} {R : Rep α} {sz base : Nat} {e : TypeId} {F F' : Foot} {w w' : World} {v : Value} {xs : List α} {g i : Nat} {hc : List Value}

theorem RowH.free (h : RowH R sz base e F w v g xs i hc) (k : Nat) : w.frozen? ⟨g, k, none⟩ = false := by
  obtain ⟨cap, cur, _, _, hh, _⟩ := h
  exact frozen_of_row w g k _ _ hh
theorem RowH.cell (h : RowH R sz base e F w v g xs i hc) {j : Nat} (hj : j < sz) : w.cell? ⟨g, i * sz + j, none⟩ = hc[j]? := by
  obtain ⟨cap, cur, _, _, hh, _, _, _, _, hi, rfl, _⟩ := h
  rw [chunk_cell hj, cell_of_row w g _ cur e (0, 0) hh]
  simp
theorem RowH.keep (ok : RepOk R sz) (h : RowH R sz base e F w v g xs i hc) (hb : w'.heap[g]? = w.heap[g]?) (hs : SameOn F w w') : RowH R sz base e F w' v g xs i hc := by
  obtain ⟨cap, cur, h1, h2, hh, h3, h4, h5, h6, hi, h7, h8⟩ := h
  exact ⟨cap, cur, h1, h2, by rw [hb]; exact hh, h3, h4, h5, h6, hi, h7, fun k x hk hx => ok.keep (h8 k x hk hx) hs⟩
theorem RowH.wide (ok : RepOk R sz) (h : RowH R sz base e F w v g xs i hc) (hs : ∀ k, F k → k < w.heap.size → F' k) : RowH R sz base e F' w v g xs i hc := by
  obtain ⟨cap, cur, h1, h2, hh, h3, h4, h5, h6, hi, h7, h8⟩ := h
  exact ⟨cap, cur, h1, h2, hh, h3, h4, h5, h6, hi, h7, fun k x hk hx => ok.wide (h8 k x hk hx) hs⟩
theorem RowH.put (ok : RepOk R sz) (h : RowH R sz base e F w v g xs i hc) (hF : ¬ F g) {j : Nat} (hj : j < sz) {u : Value} (hu : u.oneCell' = true) : RowH R sz base e F (w.setCell ⟨g, i * sz + j, none⟩ u) v g xs i (hc.set j u) := by
  obtain ⟨cap, cur, h1, h2, hh, h3, h4, h5, h6, hi, h7, h8⟩ := h
  have hle : i * sz + sz ≤ xs.length * sz := by
    have := Nat.mul_le_mul_right sz (Nat.succ_le_of_lt hi)
    rw [Nat.succ_mul] at this
    exact this
  have hle2 := Nat.mul_le_mul_right sz h3
  have hheap := heap_set1 w g (i * sz + j) cur.toList e u (by simpa using hh)
  refine ⟨cap, (cur.toList.set (i * sz + j) u).toArray, h1, h2, hheap, h3, h4, by simp [h5], ?_, hi, ?_, ?_⟩
  · intro x hx
    simp only [List.take_set] at hx
    rcases List.mem_or_eq_of_mem_set hx with hx | rfl
    · exact h6 x hx
    · exact hu
  · rw [h7]
    exact (chunk_set_same hj).symm
  · intro k x hk hx
    have := h8 k x hk hx
    simp only
    rw [chunk_set_other hj hk]
    exact ok.keep this fun m hm hml => Below.heap_setCell w ⟨g, i * sz + j, none⟩ u m fun e => hF (by rw [show g = m from e.symm]; exact hm)
theorem OwnS.wide (ok : RepOk R sz) (h : OwnS R sz base e F w v xs) (hs : ∀ k, F k → k < w.heap.size → F' k) : OwnS R sz base e F' w v xs := by
  obtain ⟨cells, ho, h1, hcs⟩ := h
  exact ⟨cells, ho, h1, fun i x hx => ok.wide (hcs i x hx) hs⟩
end

end Go.Proofs.YtpgopmmobbemcaaGreat

set_option linter.unusedVariables false
set_option linter.unusedSimpArgs false
set_option linter.unnecessarySimpa false
namespace Go.Proofs.YtpgopmmobbemcaaGreat
open Go.RowKit

end Go.Proofs.YtpgopmmobbemcaaGreat

set_option linter.unusedVariables false
set_option linter.unusedSimpArgs false
namespace Go.Proofs.YtpgopmmobbemcaaGreat
open Go.RowKit

theorem step_append_rep {α : Type} {R : Rep α} {P : Program} {ops : Array Oper} {o : Oper} {a : Act} {w : World} {K : Act → World → Prop} {Q : Exit → Act → World → Prop} {E : Prop} (hgd : o.guard = none) (s x : Operand) (t : TypeId)
    (ho : o.op = .call { callee := .builtin .append, args := #[s, x], argTypes := #[t, t] })
    (base : Nat) (e : TypeId) (z : Value) (size bytes : Nat) (ht : P.underlying t = some (.slice e)) (hinfo : (P.info? e).map (fun i => (i.zero, i.size, i.bytes)) = some (some z, size, bytes))
    (hzs : z.cells.size = size) (hsz : 0 < size) (ok : RepOk R size)
    (F G : Foot) (v : Value) (xs : List α) (hs : a.eval s = v) (hown : OwnS R size base e F w v xs)
    (oa : Option Addr) (c : Nat) (ys : List α) (hx : a.eval x = .slice oa ys.length c) (hsrc : SliceR R size G w oa ys) (hW : ∀ cs x, R G w cs x → R F w cs x) (hF : ∀ k, F k → k < base)
    (hbytes : (xs.length + ys.length) * bytes ≤ 140737488355328) (hm : xs.length + ys.length ≤ 9223372036854775807) (hbase : base ≤ w.heap.size)
    (hK : ∀ v' w', OwnS R size base e F w' v' (xs ++ ys) → Below base w w' → w.grownBy w' v.ownBlock → K (a.put o.dst v') w') :
    if Region.wanted o (yielded ops a.tmps) = true then Oper.wp P o a w K Q else E := by
  have hw : Region.wanted o (yielded ops a.tmps) = true := by simp [Region.wanted, hgd]
  rw [if_pos hw]
  obtain ⟨i0, hi, hz0, hz1, hz2⟩ := info_parts hinfo
  obtain ⟨cells, hown0, h1, hc⟩ := hown
  obtain ⟨news, hn1, hn2, hn3, hn4⟩ := hsrc.cells ok
  obtain ⟨v', w', hrun, ho', hg⟩ := run_append_src (P := P) w base t o.type e i0 z size bytes ht hi hz0 hz1 hz2 hzs hsz v xs.length cells hown0 oa ys.length c news hn1 hn2 hn3 (by unfold maxLen; omega) hbytes hbase
  have hb : Below base w w' := (Below.refl base w).grown hg hbase fun k hk => (hown0.lt k hk).1
  have hsame : SameOn F w w' := fun k hk _ => hb.block k (hF k hk)
  have hfin := hK v' w' (OwnS.app hown0.1.symm ho' h1 hn3 (fun i x hx => ok.keep (hc i x hx) hsame) (fun i x hx => ok.keep (hW _ _ (hn4 i x hx)) hsame)) hb hg
  unfold Oper.wp execOp
  simp only [ho, resolve, invoke, builtin, Sem.run_bind, Sem.run_pure, Result.andThen_ok, List.map_toArray, List.map_cons, List.map_nil, hs, hx, hrun]
  exact hfin

end Go.Proofs.YtpgopmmobbemcaaGreat

set_option linter.unusedVariables false
set_option linter.unusedSimpArgs false
namespace Go.Proofs.YtpgopmmobbemcaaGreat
open Go.RowKit

end Go.Proofs.YtpgopmmobbemcaaGreat

set_option linter.unusedVariables false
set_option linter.unusedSimpArgs false
namespace Go.Proofs.YtpgopmmobbemcaaGreat
open Go.RowKit

theorem alloc_size' (w : World) (o : Obj) : (w.alloc o).heap.size = w.heap.size + 1 := by simp
theorem results_cell_row {P : Program} {fn : Func} {p : Tmp} {ty : TypeId} (h : fn.results = #[.cell p ty]) (tmps : Array Value) (w : World) (g : Nat) (t : TypeId) (cs : Array Value) (fr : Nat × Nat) (d : TypeDesc)
    (hp : tmps.getD p undef = .pointer (some ⟨g, 0, none⟩)) (hg : w.heap[g]? = some (.cells cs t fr))
    (hu : P.underlying ty = some d) (hd : (match d with | .struct _ | .array _ _ => true | _ => false) = true) (hi : (P.info? ty).map (·.size) = some cs.size) :
    (results fn tmps).run P w = .ok (.agg cs) w := by
  have hp' : tmps[p]?.getD undef = .pointer (some ⟨g, 0, none⟩) := by simpa using hp
  simp only [results, h]
  simp [hp', asAddr, Result.andThen, Sem.run_bind, run_loadVar_row w g t ty cs fr d hg hu hd hi]
/-- In the memory that was there, or in blocks from K on. -/
def OldNew (F : Foot) (B K : Nat) : Foot := fun k => (F k ∧ k < B) ∨ K ≤ k

end Go.Proofs.YtpgopmmobbemcaaGreat

set_option linter.unusedVariables false
set_option linter.unusedSimpArgs false
namespace Go.Proofs.YtpgopmmobbemcaaGreat
open Go.RowKit

def machV (p : Nat) : Value := .pointer (some ⟨p, 0, none⟩)
section
variable {O : Foot} {B0 K H p gs : Nat} {vp tw : Value} {rs : List Rw} {x : Nwk} {W W' : World}
end

section
variable {O : Foot} {B0 K H p gs : Nat} {vp tw : Value} {rs : List Rw} {x : Nwk} {W : World}
def mvR : Rep (Nat × Nat) := fun _ _ cs x => cs = [.int .i64 (x.1 : Nat), .int .i64 (x.2 : Nat)]
/-- The letters of one processor that may be read. -/
def rowMv (p : Nat) (l : List Int) (k : Nat) : List (Nat × Nat) := ((List.range k).filter fun a => decide (0 < l.getD a 0)).map fun a => (p, a)
/-- The moves: the letters that wait, in order. -/
def movesS (wt : List (List Int)) : List (Nat × Nat) := (List.range wt.length).flatMap fun p => rowMv p (wt.getD p []) (wt.getD p []).length
def movesUpto (wt : List (List Int)) (i : Nat) : List (Nat × Nat) := (List.range i).flatMap fun p => rowMv p (wt.getD p []) (wt.getD p []).length
end

end Go.Proofs.YtpgopmmobbemcaaGreat

set_option linter.unusedVariables false
set_option linter.unusedSimpArgs false
set_option linter.unnecessarySimpa false
namespace Go.Proofs.YtpgopmmobbemcaaGreat
open Go.RowKit

def WLay.setQ (L : WLay) (j : Nat) (v : Value) : WLay := { L with lv := fun m => if m = j then v else L.lv m }
theorem setQ_blk {L : WLay} {j : Nat} {v : Value} (hv : v.ownBlock = (L.lv j).ownBlock) (r : IR) : r.blk (L.setQ j v) = r.blk L := by
  cases r with
  | s => rfl
  | w i => rfl
  | c i => rfl
  | q m =>
    show (if m = j then v else L.lv m).ownBlock = (L.lv m).ownBlock
    split
    · rename_i e; rw [hv, e]
    · rfl
theorem setQ_mine {L : WLay} {N j : Nat} {v : Value} (hv : v.ownBlock = (L.lv j).ownBlock) (k : Nat) : Mine (L.setQ j v) N k ↔ Mine L N k := by
  have h : ∀ m, ((L.setQ j v).lv m).ownBlock = (L.lv m).ownBlock := fun m => setQ_blk hv (.q m)
  unfold Mine
  simp only [h]
  exact Iff.rfl
section
variable {B N : Nat} {L : WLay} {oP : Option Addr} {cP : Nat} {oF : Option Addr} {nF cF : Nat} {S : Wr} {W W' : World}

theorem Went.setQ {j : Nat} {v : Value} (hv : v.ownBlock = (L.lv j).ownBlock) (hj : j < N * N) (i : Nat) (u : Value) : Went N L W (L.setQ j v) (W.setCell ⟨L.bl j, i, none⟩ u) :=
  { Went.put (W := W) (i := i) (v := u) (show Mine L N (L.bl j) from .inr (.inr (.inr (.inr (.inr (.inr (.inr (.inl ⟨j, hj, rfl⟩)))))))) with
    mine := fun k _ hm => (setQ_mine hv k).1 hm, fix := ⟨_, _, rfl⟩ }
end

theorem OwnN.cons {base : Nat} {e : TypeId} {w : World} {v : Value} {x : Int} {r : List Int} (h : OwnN base e w v (x :: r)) : OwnQ base e w v (x :: r) := by
  rcases h with ⟨_, h⟩ | h
  · cases h
  · exact h

end Go.Proofs.YtpgopmmobbemcaaGreat

set_option linter.unusedVariables false
set_option linter.unusedSimpArgs false
set_option linter.unnecessarySimpa false
namespace Go.Proofs.YtpgopmmobbemcaaGreat
open Go.RowKit

section
variable {B N : Nat} {L : WLay} {oP : Option Addr} {cP : Nat} {oF : Option Addr} {nF cF : Nat} {S : Wr} {W W' : World}
end

end Go.Proofs.YtpgopmmobbemcaaGreat

set_option linter.unusedVariables false
set_option linter.unusedSimpArgs false
set_option linter.unnecessarySimpa false
namespace Go.Proofs.YtpgopmmobbemcaaGreat
open Go.RowKit

section
variable {B N : Nat} {L : WLay} {oP : Option Addr} {cP : Nat} {oF : Option Addr} {nF cF : Nat} {S : Wr} {W W' : World}
end

end Go.Proofs.YtpgopmmobbemcaaGreat

set_option linter.unusedVariables false
set_option linter.unusedSimpArgs false
set_option linter.unnecessarySimpa false
namespace Go.Proofs.YtpgopmmobbemcaaGreat
open Go.RowKit

def idxI : Option Nat → Int
  | some k => k
  | none => -1
end Go.Proofs.YtpgopmmobbemcaaGreat

set_option linter.unusedVariables false
set_option linter.unusedSimpArgs false
set_option linter.unnecessarySimpa false
namespace Go.Proofs.YtpgopmmobbemcaaGreat
open Go.RowKit

theorem Went.of_below {N : Nat} {L : WLay} {W W' : World} (hb : Below W.heap.size W W') : Went N L W L W' := ⟨hb.os, hb.tape, hb.output, hb.size, fun k hk _ => hb.block k hk, fun _ _ h => h, ⟨_, _, rfl⟩⟩
section
variable {B N : Nat} {L : WLay} {oP : Option Addr} {cP : Nat} {oF : Option Addr} {nF cF : Nat} {S : Wr} {W W' : World}

end

end Go.Proofs.YtpgopmmobbemcaaGreat

set_option linter.unusedVariables false
set_option linter.unusedSimpArgs false
set_option linter.unnecessarySimpa false
namespace Go.Proofs.YtpgopmmobbemcaaGreat
open Go.RowKit

section
variable {B N : Nat} {L : WLay} {oP : Option Addr} {cP : Nat} {oF : Option Addr} {nF cF : Nat} {S : Wr} {W W' : World}
variable {m : Nat → Nat} {ns : Nat → Int} {X M K A T : Int} {pend : List (Pk × Nat)}

end

end Go.Proofs.YtpgopmmobbemcaaGreat

set_option linter.unusedVariables false
set_option linter.unusedSimpArgs false
namespace Go.Proofs.YtpgopmmobbemcaaGreat
open Go.RowKit

/-- ov holds the headers vs (elements of type lt) of the lists xss (of elements of type e). -/
structure Lists (base : Nat) (e lt : TypeId) (w : World) (ov : Value) (vs : List Value) (xss : List (List Int)) : Prop where
  row : w.ownsRow base lt 1 ov vs.length vs
  ms : OwnM base e w vs xss
  off : ∀ (i : Nat) (v : Value) (k : Nat), vs[i]? = some v → v.ownBlock = some k → ov.ownBlock ≠ some k

section
variable {base : Nat} {e lt : TypeId} {w w' : World} {ov : Value} {vs : List Value} {xss : List (List Int)}
theorem Lists.nil (base : Nat) (e lt : TypeId) (w : World) : Lists base e lt w (.slice none 0 0) [] [] :=
  ⟨World.ownsRow_nil _ _ _ _, OwnM.nils 0, fun i v k h => by simp at h⟩
theorem Lists.len (h : Lists base e lt w ov vs xss) : vs.length = xss.length := h.ms.len
theorem Lists.below (h : Lists base e lt w ov vs xss) (hb : Below w.heap.size w w') : Lists base e lt w' ov vs xss := by
  refine ⟨h.row.kept (row := none) ⟨hb.os, hb.tape, hb.output, hb.size, fun k hk _ => hb.block k hk⟩ ?_, h.ms.below hb, h.off⟩
  cases ov.ownBlock <;> simp
theorem Lists.new (h : Lists base e lt w ov vs xss) (o : Obj) : Lists base e lt (w.alloc o) ov vs xss := h.below (bnew (Below.refl _ _) o)
theorem Lists.draw (h : Lists base e lt w ov vs xss) : Lists base e lt w.drew ov vs xss := ⟨h.row.drew, h.ms.draw, h.off⟩
/-- A change in blocks that are not theirs. -/
theorem Lists.under (h : Lists base e lt w ov vs xss) {k : Nat} (hg : w.grownBy w' (some k)) (hk : k < base) : Lists base e lt w' ov vs xss := by
  refine ⟨h.row.kept hg ?_, h.ms.keep fun i v g h1 hgv => hg.block g (h.ms.block h1 g hgv).2 ?_, h.off⟩
  · refine .inr fun he => ?_
    have := (h.row.lt k he).1
    omega
  · intro he
    injection he with he
    have := (h.ms.block h1 g hgv).1
    omega
/-- One more list, empty: 'out = append(out, nil)'. -/
theorem Lists.snoc (h : Lists base e lt w ov vs xss) {o : Obj} {ov' : Value} (hr : w'.ownsRow base lt 1 ov' (vs.length + 1) (vs ++ [.slice none 0 0])) (hg : (w.alloc o).grownBy w' ov.ownBlock)
    (hat : ov'.ownBlock = ov.ownBlock ∨ ov'.ownBlock = some (w.alloc o).heap.size) : Lists base e lt w' ov' (vs ++ [.slice none 0 0]) (xss ++ [[]]) := by
  have hnew : ∀ (i : Nat) (v : Value) (k : Nat), (vs ++ [.slice none 0 0])[i]? = some v → v.ownBlock = some k → vs[i]? = some v := fun i v k hi hk => by
    rcases Nat.lt_or_ge i vs.length with hj | hj
    · rw [List.getElem?_append_left hj] at hi; exact hi
    · rw [List.getElem?_append_right hj] at hi
      have hm := List.mem_of_getElem? hi
      simp at hm
      subst hm
      simp [Value.ownBlock] at hk
  refine ⟨by rw [List.length_append]; exact hr, ((h.ms.new o).keep fun i v g h1 hgv => hg.block g ?_ fun he => h.off i v g h1 hgv he.symm).snoc, fun i v k hi hk he => ?_⟩
  · have := (h.ms.block h1 g hgv).2; simp; omega
  · have h1 := hnew i v k hi hk
    rcases hat with ha | ha
    · exact h.off i v k h1 hk (ha ▸ he)
    · rw [ha] at he
      injection he with he
      have := (h.ms.block h1 k hk).2
      simp at he
      omega
/-- List i has grown, and its header was stored: 'out[i] = append(out[i], x)'. -/
theorem Lists.grow {g cap : Nat} (h : Lists base e lt w (.slice (some ⟨g, 0, none⟩) vs.length cap) vs xss) {i : Nat} {v v' : Value} {xs : List Int} {x : Int} {o : Obj} (hi : vs[i]? = some v) (hx : xss[i]? = some xs)
    (ho : OwnN base e w' v' (xs ++ [x])) (hg : (w.alloc o).grownBy w' v.ownBlock) (hv : ∀ k, v'.ownBlock = some k → v.ownBlock = some k ∨ (w.alloc o).heap.size ≤ k) :
    Lists base e lt (w'.setCell ⟨g, i, none⟩ v') (.slice (some ⟨g, 0, none⟩) (vs.set i v').length cap) (vs.set i v') (xss.set i (xs ++ [x])) := by
  have hgl := (h.row.lt g rfl).2
  have hng : v.ownBlock ≠ some g := fun he => h.off i v g hi he rfl
  have hng' : v'.ownBlock ≠ some g := fun he => by
    rcases hv g he with h1 | h1
    · exact hng h1
    · simp at h1; omega
  have hrow : w'.ownsRow base lt 1 (.slice (some ⟨g, 0, none⟩) vs.length cap) vs.length vs := (h.row.alloc o).kept hg (.inr fun he => hng he.symm)
  have hms := h.ms.grow hi hx ho hg hv
  have hoff : ∀ (j : Nat) (u : Value) (k : Nat), (vs.set i v')[j]? = some u → u.ownBlock = some k → k ≠ g := fun j u k hu hk he => by
    subst he
    by_cases e1 : i = j
    · subst e1
      rw [List.getElem?_set_self (List.getElem?_eq_some_iff.1 hi).1] at hu
      injection hu with hu
      subst hu
      exact hng' hk
    · rw [List.getElem?_set_ne e1] at hu
      exact h.off j u k hu hk rfl
  refine ⟨by rw [List.length_set]; exact (hrow.stored i v').1, hms.keep fun j u k hu hk => Below.heap_setCell _ _ _ _ ?_, fun j u k hu hk he => hoff j u k hu hk ?_⟩
  · exact hoff j u k hu hk
  · simp [Value.ownBlock] at he; exact he.symm
end

/-- 'append(v, x)' as one step of a region that draws its order. -/
theorem step_append_n {P : Program} {ops : Array Oper} {o : Oper} {a : Act} {w : World} {K : Act → World → Prop} {Q : Exit → Act → World → Prop} {E : Prop} (hgd : o.guard = none) (s y : Operand) (t : TypeId)
    (ho : o.op = .call { callee := .builtin .append, args := #[s, y], argTypes := #[t, t] })
    (base : Nat) (e : TypeId) (z : Value) (ht : P.underlying t = some (.slice e)) (hinfo : (P.info? e).map (fun i => (i.zero, i.size, i.bytes)) = some (some z, 1, 8))
    (hzs : z.cells.size = 1) (v : Value) (xs : List Int) (hs : a.eval s = v) (hown : OwnN base e w v xs)
    (ad : Addr) (c : Nat) (x : Int) (hy : a.eval y = .slice (some ad) 1 c) (hx : w.cell? (ad.add 0) = some (.int .i64 x)) (ix : I64 x) (hn : xs.length + 1 ≤ 1000000000) (hbase : base ≤ w.heap.size)
    (hK : ∀ v' w', OwnN base e w' v' (xs ++ [x]) → Below base w w' → w.grownBy w' v.ownBlock → (∀ k, v'.ownBlock = some k → v.ownBlock = some k ∨ w.heap.size ≤ k) → K (a.put o.dst v') w') :
    if Region.wanted o (yielded ops a.tmps) = true then Oper.wp P o a w K Q else E := by
  have hw : Region.wanted o (yielded ops a.tmps) = true := by simp [Region.wanted, hgd]
  rw [if_pos hw]
  obtain ⟨i0, hi, hz0, hz1, hz2⟩ := info_parts hinfo
  obtain ⟨v', w', hrun, h2, h3, h4⟩ := run_append_n (P := P) t o.type i0 z ht hi hz0 hz1 hz2 hzs hown ad c x hx ix hn hbase
  have hb : Below base w w' := (Below.refl base w).grown h3 hbase fun k hk => (hown.block k hk).1
  unfold Oper.wp execOp
  simp only [ho, resolve, invoke, builtin, Sem.run_bind, Sem.run_pure, Result.andThen_ok, List.map_toArray, List.map_cons, List.map_nil, hs, hy, hrun]
  exact hK v' w' h2 hb h3 h4

end Go.Proofs.YtpgopmmobbemcaaGreat

set_option linter.unusedVariables false
set_option linter.unusedSimpArgs false
set_option linter.unnecessarySimpa false
namespace Go.Proofs.YtpgopmmobbemcaaGreat
open Go.RowKit

section
variable {B N : Nat} {L : WLay} {oP : Option Addr} {cP : Nat} {oF : Option Addr} {nF cF : Nat} {S : Wr} {W W' : World}
variable {X M K A T : Int}

end

end Go.Proofs.YtpgopmmobbemcaaGreat

set_option linter.unusedVariables false
set_option linter.unusedSimpArgs false
namespace Go.Proofs.YtpgopmmobbemcaaGreat
open Go.RowKit

def addO (wt : List (List Int)) (o : Int × Int) : List (List Int) := bump wt o.1.toNat o.2.toNat 1
/-- The network behind the move that lets processor p read the letter a. -/
def moveX (x : Nwk) (p a : Nat) : Nwk :=
  { x with state := x.state.set p (nextP x.procs p (x.state.getD p 0) a), waiting := (sentP x.procs p (x.state.getD p 0) a).foldl addO (bump x.waiting p a (-1)) }
/-- What a move leaves alone. -/
structure Kept (B0 gs : Nat) (rs : List Rw) (W W' : World) : Prop where
  low : Below B0 W W'
  size : W.heap.size ≤ W'.heap.size
  fix : ∀ k, k < W.heap.size → k ≠ gs → (∀ r ∈ rs, k ≠ r.g) → W'.heap[k]? = W.heap[k]?
theorem Kept.refl (B0 gs : Nat) (rs : List Rw) (W : World) : Kept B0 gs rs W W := ⟨Below.refl _ _, Nat.le_refl _, fun _ _ _ _ => rfl⟩
theorem Kept.trans {B0 gs : Nat} {rs : List Rw} {W W1 W2 : World} (h : Kept B0 gs rs W W1) (g : Kept B0 gs rs W1 W2) : Kept B0 gs rs W W2 :=
  ⟨h.low.trans g.low, Nat.le_trans h.size g.size, fun k hk h1 h2 => (g.fix k (Nat.lt_of_lt_of_le hk h.size) h1 h2).trans (h.fix k hk h1 h2)⟩
theorem Kept.of_below {B0 gs : Nat} {rs : List Rw} {W W1 : World} (h : Below W.heap.size W W1) (hB : B0 ≤ W.heap.size) : Kept B0 gs rs W W1 := ⟨h.mono hB, h.size, fun k hk _ _ => h.block k hk⟩
section
variable {O : Foot} {B0 K H p gs : Nat} {vp tw : Value} {rs : List Rw} {x : Nwk} {W W' : World}
theorem Kept.put (hB : B0 ≤ gs ∧ B0 ≤ H) (ht : ∀ r ∈ rs, H ≤ r.g) {b k : Nat} (hb : b = gs ∨ ∃ r ∈ rs, b = r.g) (v : Value) : Kept B0 gs rs W (W.setCell ⟨b, k, none⟩ v) := by
  have hB0 : B0 ≤ b := by
    rcases hb with rfl | ⟨r, hr, rfl⟩
    · exact hB.1
    · have := ht r hr; omega
  refine ⟨(Below.refl _ _).setCell hB0 _, by simp [World.setCell], fun q hq h1 h2 => Below.heap_setCell _ _ _ q ?_⟩
  rcases hb with rfl | ⟨r, hr, rfl⟩
  · exact h1
  · exact h2 r hr
end

/-- Tables of one shape, with numbers from 0 to c. -/
structure Shape (wt wt' : List (List Int)) (c : Int) : Prop where
  len : wt'.length = wt.length
  row : ∀ (j : Nat) (l' : List Int), wt'[j]? = some l' → ∃ l, wt[j]? = some l ∧ l'.length = l.length
  num : ∀ l ∈ wt', ∀ z ∈ l, 0 ≤ z ∧ z ≤ c
theorem bump_eq {wt : List (List Int)} {p k : Nat} {l : List Int} {z : Int} (hl : wt[p]? = some l) (hz : l[k]? = some z) (y : Int) : bump wt p k y = wt.set p (l.set k (z + y)) := by
  unfold bump
  rw [getD_some hl, getD_some hz]
theorem Shape.put {wt wt' : List (List Int)} {c c' : Int} (h : Shape wt wt' c) (hc : c ≤ c') {p k : Nat} {l : List Int} (hl : wt'[p]? = some l) (hk : k < l.length) {y : Int} (hy : 0 ≤ y ∧ y ≤ c') : Shape wt (wt'.set p (l.set k y)) c' where
  len := by rw [List.length_set]; exact h.len
  row := fun j l' hj => by
    rw [List.getElem?_set] at hj
    split at hj
    · rename_i e
      subst e
      split at hj
      · injection hj with hj
        subst hj
        obtain ⟨l0, h1, h2⟩ := h.row p l hl
        exact ⟨l0, h1, by rw [List.length_set]; exact h2⟩
      · cases hj
    · exact h.row j l' hj
  num := fun l' hl' z hz => by
    rcases List.mem_or_eq_of_mem_set hl' with hm | rfl
    · have := h.num l' hm z hz; omega
    · rcases List.mem_or_eq_of_mem_set hz with hm | rfl
      · have := h.num l (List.mem_of_getElem? hl) z hm; omega
      · exact hy

section
variable {O : Foot} {B0 K H p gs : Nat} {vp tw : Value} {rs : List Rw} {x : Nwk} {W : World}
end

end Go.Proofs.YtpgopmmobbemcaaGreat

set_option linter.unusedVariables false
set_option linter.unusedSimpArgs false
namespace Go.Proofs.YtpgopmmobbemcaaGreat
open Go.RowKit

theorem Shape.add {wt wt' : List (List Int)} {c : Int} (h : Shape wt wt' c) {o : Int × Int} (ho : ∃ l, wt[o.1.toNat]? = some l ∧ o.2.toNat < l.length) : Shape wt (addO wt' o) (c + 1) := by
  obtain ⟨l, h1, h2⟩ := ho
  have hi : o.1.toNat < wt'.length := by rw [h.len]; exact (List.getElem?_eq_some_iff.1 h1).1
  have hl' := List.getElem?_eq_getElem hi
  obtain ⟨l0, h3, h4⟩ := h.row _ _ hl'
  rw [h1] at h3
  injection h3 with h3
  subst h3
  have hk : o.2.toNat < (wt'[o.1.toNat]).length := by omega
  have hz := List.getElem?_eq_getElem hk
  have hb := h.num _ (List.mem_of_getElem? hl') _ (List.mem_of_getElem? hz)
  unfold addO
  rw [bump_eq hl' hz]
  exact h.put (by omega) hl' hk (by omega)
theorem Right.row {x : Nwk} (h : Right x) {p : Nat} (hp : p < x.procs.length) : ∃ l, x.waiting[p]? = some l ∧ l.length = lettersP x.procs p := by
  have hw := List.getElem?_eq_getElem (show p < x.waiting.length by rw [h.nwt]; exact hp)
  have hpr := List.getElem?_eq_getElem hp
  have h1 := h.wl p _ _ hw hpr
  refine ⟨_, hw, ?_⟩
  unfold lettersP
  rw [getD_some hpr]
  omega
/-- The pick with number i among some moves. -/
def pickS (picks : List Int) (l : List (Nat × Nat)) (i : Nat) : Nat × Nat := l.getD ((picks.getD (i % picks.length) 0).toNat % l.length) (0, 0)
/-- A run by picks: the network and the counts when it has halted; none where the moves are used up. -/
def runX (picks : List Int) : Nat → Nat → Nwk → List (List Int) → Option (Nwk × List (List Int))
  | 0, i, x, ct => if (movesS x.waiting).isEmpty then some (x, ct) else none
  | n + 1, i, x, ct => if (movesS x.waiting).isEmpty then some (x, ct) else runX picks n (i + 1) (moveX x (pickS picks (movesS x.waiting) i).1 (pickS picks (movesS x.waiting) i).2) (bump ct (pickS picks (movesS x.waiting) i).1 (pickS picks (movesS x.waiting) i).2 1)
end Go.Proofs.YtpgopmmobbemcaaGreat

set_option linter.unusedVariables false
namespace Go.Proofs.YtpgopmmobbemcaaGreat
open Go.RowKit

end Go.Proofs.YtpgopmmobbemcaaGreat

set_option linter.unusedVariables false
namespace Go.Proofs.YtpgopmmobbemcaaGreat
open Go.RowKit

end Go.Proofs.YtpgopmmobbemcaaGreat

set_option linter.unusedVariables false
namespace Go.Proofs.YtpgopmmobbemcaaGreat
open Go.RowKit

end Go.Proofs.YtpgopmmobbemcaaGreat

set_option linter.unusedVariables false
namespace Go.Proofs.YtpgopmmobbemcaaGreat
open Go.RowKit

end Go.Proofs.YtpgopmmobbemcaaGreat

set_option linter.unusedVariables false
namespace Go.Proofs.YtpgopmmobbemcaaGreat
open Go.RowKit

end Go.Proofs.YtpgopmmobbemcaaGreat

set_option linter.unusedVariables false
namespace Go.Proofs.YtpgopmmobbemcaaGreat
open Go.RowKit

inductive Bk (s : Nat) : List Out → Prop
  | last (l : List Out) : Srt l → l.length ≤ s → Bk s l
  | cons (l r : List Out) : Srt l → l.length = s → Bk s r → Bk s (l ++ r)
inductive Full (s : Nat) : List Out → Prop
  | nil : Full s []
  | snoc (D l : List Out) : Full s D → Srt l → l.length = s → Full s (D ++ l)
theorem Bk.split {s : Nat} {R : List Out} (h : Bk s R) (hs : s ≤ R.length) : ∃ l r, R = l ++ r ∧ Srt l ∧ l.length = s ∧ Bk s r := by
  cases h with
  | last _ h1 h2 => exact ⟨R, [], by simp, h1, by omega, Bk.last [] List.Pairwise.nil (by simp)⟩
  | cons l r h1 h2 h3 => exact ⟨l, r, rfl, h1, h2, h3⟩
end Go.Proofs.YtpgopmmobbemcaaGreat

set_option linter.unusedVariables false
namespace Go.Proofs.YtpgopmmobbemcaaGreat
open Go.RowKit

def vertexRs : List (List Rul) := [[⟨1, []⟩], [⟨0, [⟨1, 0⟩, ⟨2, 0⟩]⟩]]
def rotorRs : List (List Rul) := [[⟨1, [⟨1, 0⟩]⟩], [⟨0, [⟨2, 0⟩]⟩]]
def setterRs : List (List Rul) := [[⟨0, []⟩, ⟨1, []⟩], [⟨0, []⟩, ⟨1, []⟩]]
def PrcPost (w : World) (S L : Int) (rs : List (List Rul)) (e : Ending) (w' : World) : Prop :=
  ∃ oa c, e = .returned (.agg #[.int .i64 S, .int .i64 L, .slice oa rs.length c]) ∧ rs.length ≤ c ∧ SliceR (slcR ruleR 2) 1 All w' oa rs ∧ Below w.heap.size w w'

end Go.Proofs.YtpgopmmobbemcaaGreat

set_option linter.unusedVariables false
namespace Go.Proofs.YtpgopmmobbemcaaGreat
open Go.RowKit

end Go.Proofs.YtpgopmmobbemcaaGreat

set_option linter.unusedVariables false
namespace Go.Proofs.YtpgopmmobbemcaaGreat
open Go.RowKit

theorem OwnS.bound {α : Type} {R : Rep α} {sz base : Nat} {e : TypeId} {F : Foot} {w : World} {v : Value} {xs : List α} (h : OwnS R sz base e F w v xs) : xs.length ≤ 9223372036854775807 := by
  obtain ⟨cells, ho, _⟩ := h
  rcases ho.2 with ⟨_, hn⟩ | ⟨g, cap, cur, _, _, _, hle, hm, _⟩
  · omega
  · unfold maxLen at hm; omega

end Go.Proofs.YtpgopmmobbemcaaGreat

set_option linter.unusedVariables false
namespace Go.Proofs.YtpgopmmobbemcaaGreat
open Go.RowKit

def commRes (p : Prc) (s a b : Int) : Bool × Int :=
  if stateErr p s = 0 then (if belowB a p.letters && belowB b p.letters then (commB p.rules s a b, 0) else (false, 2)) else (false, stateErr p s)
def BoolPost (w : World) (r : Bool × Int) (e : Ending) (w' : World) : Prop :=
  e = .returned (.tuple #[.bool r.1, .int .i64 r.2]) ∧ Below w.heap.size w w'
end Go.Proofs.YtpgopmmobbemcaaGreat

set_option linter.unusedVariables false
namespace Go.Proofs.YtpgopmmobbemcaaGreat
open Go.RowKit

def RightP (S L s : Int) (rs : List (List Rul)) (word : List Int) : Prop := checkErr ⟨S, L, rs⟩ 12 = 0 ∧ (0 ≤ s ∧ s < S) ∧ word.length ≤ 40 ∧ lettersErr L word = 0

end Go.Proofs.YtpgopmmobbemcaaGreat

set_option linter.unusedVariables false
namespace Go.Proofs.YtpgopmmobbemcaaGreat
open Go.RowKit

def sumLen (l : List (List Out)) : Nat := (l.map List.length).sum

end Go.Proofs.YtpgopmmobbemcaaGreat

set_option linter.unusedVariables false
namespace Go.Proofs.YtpgopmmobbemcaaGreat
open Go.RowKit

theorem readSpec_app (rs : List (List Rul)) : ∀ (a b : List Int) (s : Int), readSpec rs s (a ++ b) = ((readSpec rs (readSpec rs s a).1 b).1, (readSpec rs s a).2 ++ (readSpec rs (readSpec rs s a).1 b).2)
  | [], b, s => by simp [readSpec]
  | x :: a, b, s => by
    have h := readSpec_app rs a b (ruleAt rs s x).next
    simp only [List.cons_append, readSpec]
    rw [h]
    simp
theorem letters_of {L : Int} : ∀ {l : List Int}, (∀ a ∈ l, 0 ≤ a ∧ a < L) → lettersErr L l = 0
  | [], _ => rfl
  | a :: r, h => by
    have h1 := h a (by simp)
    have h2 : belowB a L = true := by simp [belowB]; omega
    simp only [lettersErr, h2]
    exact letters_of fun x hx => h x (by simp [hx])
theorem SliceR.take {α : Type} {R : Rep α} {sz : Nat} {F : Foot} {w : World} {oa : Option Addr} {xs : List α} (h : SliceR R sz F w oa xs) (k : Nat) : SliceR R sz F w oa (xs.take k) := by
  intro i x hx
  rw [List.getElem?_take] at hx
  split at hx
  · exact h i x hx
  · cases hx
end Go.Proofs.YtpgopmmobbemcaaGreat

set_option linter.unusedVariables false
set_option linter.unusedSimpArgs false
set_option linter.unnecessarySimpa false
namespace Go.Proofs.YtpgopmmobbemcaaGreat
open Go.RowKit

def negB (l : List Int) : Bool := l.any fun x => decide (x < 0)

set_option maxHeartbeats 400000 in
theorem min_any (l : List Int) (oa : Option Addr) (c : Nat) (F : Foot) (w : World) (hs : SliceR intR 1 F w oa l) (hc : l.length ≤ c) (hc2 : l.length ≤ 9223372036854775807) (hne : 0 < l.length) :
    Calls Tryz.prog 90 #[.slice oa l.length c] w fun e w' => ∃ m : Int, e = .returned (.int .i64 m) ∧ decide (m < 0) = negB l ∧ w = w' := by
  obtain ⟨x0, hd0, _, i0, b, off, hoa, _, c0⟩ := hs.int_at hne
  have hoa' := hoa
  subst hoa'
  have HD0 := hide hd0
  have H0 : Hid (decide (x0 < 0) = negB (l.take 1)) := by
    rw [List.drop_zero] at hd0
    show _ = _
    rw [hd0]
    simp [negB]
  have I0 := hide i0
  clear hd0 hoa i0
  rw [Nat.add_zero] at c0
  have hl1 : decide ((l.length : Int) < 1) = false := by simp; omega
  go_enter Tryz.func90, Tryz.ntmps90
  go_wp2_with fail
  go_loop [3, 4] (fun mv i => ∃ (k : Nat) (m : Int), 0 < k ∧ k ≤ l.length ∧ mv = .int .i64 m ∧ i = .int .i64 k ∧ Hid (decide (m < 0) = negB (l.take k))) (fun _ i => l.length - (intOf i).toNat)
  case atStart => exact ⟨1, x0, by omega, by omega, rfl, rfl, H0⟩
  case round =>
    obtain ⟨k, m, hk0, hk, rfl, rfl, HM⟩ := hrel
    by_cases hlt : k < l.length
    · obtain ⟨x, hd, hget, _, b', off', hoa, _, cx⟩ := hs.int_at hlt
      injection hoa with hoa
      injection hoa with e1 e2
      subst e1 e2
      have HN : Hid (negB (l.take (k + 1)) = (negB (l.take k) || decide (x < 0))) := by
        show _ = _
        rw [List.take_add_one, hget]
        simp [negB]
      clear hd hget
      by_cases hmx : x < m
      · go_wp2_with fail
        go_round
        case rel =>
          refine ⟨k + 1, _, by omega, by omega, rfl, by go_num, ?_⟩
          show _ = _
          rw [HN.out, ← HM.out]
          by_cases h1 : m < 0 <;> by_cases h2 : x < 0 <;> simp [h1, h2] <;> omega
        case measure => simp [intOf]; omega
      · go_wp2_with fail
        go_round
        case rel =>
          refine ⟨k + 1, _, by omega, by omega, rfl, by go_num, ?_⟩
          show _ = _
          rw [HN.out, ← HM.out]
          by_cases h1 : m < 0 <;> by_cases h2 : x < 0 <;> simp [h1, h2] <;> omega
        case measure => simp [intOf]; omega
    · go_wp2_with fail
      go_ret
      refine ⟨m, rfl, ?_, rfl⟩
      rw [HM.out, List.take_of_length_le (by omega)]

end Go.Proofs.YtpgopmmobbemcaaGreat

set_option linter.unusedVariables false
namespace Go.Proofs.YtpgopmmobbemcaaGreat
open Go.RowKit

theorem mul64_one (n : Nat) (hn : n ≤ 1000000) (w : World) : Calls Tryz.prog 135 #[.int .u64 1, .int .u64 n] w fun e w' => e = .returned (.tuple #[.int .u64 0, .int .u64 n]) ∧ w = w' := by
  have h1 : bits .and .u64 (1 : Int) 4294967295 = 1 := by decide
  have h2 : bits .and .u64 (n : Int) 4294967295 = n := by
    have h := bits_and_u64_nat n 4294967295 (by omega) (by omega)
    have e : n &&& 4294967295 = n % 4294967296 := Nat.and_two_pow_sub_one_eq_mod n 32
    rw [e, Nat.mod_eq_of_lt (by omega)] at h
    exact h
  have h3 : bits .and .u64 (0 : Int) 4294967295 = 0 := by decide
  have h4 : (n : Int) / 4294967296 = 0 := by omega
  have h5 : IntKind.u64.wrap (n : Int) = n := by rw [IntKind.wrap_u64]; omega
  go_enter Tryz.func135, Tryz.ntmps135
  go_wp2_with fail
  go_ret2
  simp
theorem mul_one (n : Nat) (hn : n ≤ 1000000) (w : World) : Calls Tryz.prog 109 #[.int .u64 1, .int .u64 n] w fun e w' => e = .returned (.tuple #[.int .u64 0, .int .u64 n]) ∧ w = w' := by
  go_enter Tryz.func109, Tryz.ntmps109
  go_wp2_with (go_at_call 135; refine (mul64_one n hn _).mono ?_; rintro e w' ⟨rfl, rfl⟩)
  go_ret2
  exact ⟨rfl, rfl⟩

theorem intInfo : (Tryz.prog.info? 3).map (fun i => (i.zero, i.size, i.bytes)) = some (some (.int .i64 0), 1, 8) := by kernel_rfl
theorem intSize : (Tryz.prog.info? 3).map (·.size) = some 1 := by kernel_rfl

def IntsMade (w : World) (r : List Int) (e : Ending) (w' : World) : Prop :=
  ∃ v, e = .returned v ∧ OwnS intR 1 w.heap.size 3 Non w' v r ∧ Below w.heap.size w w'

/-- A row of n cells, of which the first m hold x. -/
def RowI (w : World) (g n : Nat) (x : Int) (m : Nat) : Prop := ∃ cur : List Value, w.heap[g]? = some (.cells cur.toArray 3 (0, 0)) ∧ cur.length = n ∧ ∀ j, j < m → cur[j]? = some (.int .i64 x)

theorem copy_first {w w1 : World} {n c b off : Nat} {x : Int} {zs : List Value} (hown : w1.ownsRow w.heap.size 3 1 (.slice (some ⟨w.heap.size, 0, none⟩) n n) n zs) (hg : w.grownBy w1 none) (cx : w.cell? ⟨b, off, none⟩ = some (.int .i64 x)) :
    ∃ (m : Nat) (w2 : World), Hid (m = min n 1) ∧ (Builtin.copy_ #[25, 25] 3 #[.slice (some ⟨w.heap.size, 0, none⟩) n n, .slice (some ⟨b, off, none⟩) 1 c]).run Tryz.prog w1 = .ok (.int .i64 m) w2 ∧ RowI w2 w.heap.size n x m ∧ Below w.heap.size w w2 := by
  obtain ⟨hl, hv⟩ := hown
  have hb1 : Below w.heap.size w w1 := (Below.refl w.heap.size w).grown hg (Nat.le_refl _) fun k hk => by cases hk
  rcases hv with ⟨he, _⟩ | ⟨g, cap, cur, he, _, hh, _, _, hcs, _⟩
  · cases he
  · injection he with h1 h2 h3
    injection h1 with h1
    injection h1 with h1
    subst h1 h3
    rcases Nat.eq_zero_or_pos n with h0 | h0
    · subst h0
      refine ⟨0, w1, rfl, run_copy_none w1 _ _ _ 3 _ _ _ _ _ _ Tryz.underlying25 intSize (by simp), ⟨cur.toList, by simpa using hh, by simpa using hcs, fun j hj => by omega⟩, hb1⟩
    · have hcell : w1.cell? ⟨b, off, none⟩ = some (.int .i64 x) := (hb1.cell (World.block_lt_of_cell? _ _ cx)).trans cx
      have hrun := run_copy_row (P := Tryz.prog) w1 25 25 3 3 w.heap.size 0 n n ⟨b, off, none⟩ 1 c cur 3 [.int .i64 x] Tryz.underlying25 intSize hh (by show 1 = min 1 n; omega) (fun j v hj => by
        match j, hj with
        | 0, hj => simp at hj; subst hj; simpa [Addr.add] using hcell) (by rw [hcs]; simp; omega) (by simp [Value.oneCell'])
      refine ⟨1, _, by show _ = _; omega, hrun, ⟨_, setRow_heap w1 _ _ _ _ _ hh, ?_, ?_⟩, below_setRow hb1 (Nat.le_refl _) _⟩
      · simp [hcs]; omega
      · intro j hj
        have : j = 0 := by omega
        subst this
        simp

set_option maxRecDepth 100000 in
set_option maxHeartbeats 2000000 in
theorem repeat_any (x : Int) (n c : Nat) (oa : Option Addr) (F : Foot) (w : World) (ix : I64 x) (hn : n ≤ 256) (hs : SliceR intR 1 F w oa [x]) :
    Calls Tryz.prog 153 #[.slice oa 1 c, .int .i64 n] w (IntsMade w (List.replicate n x)) := by
  obtain ⟨x', _, hx', _, b, off, rfl, _, cx⟩ := hs.int_at (i := 0) (by simp)
  simp at hx'
  subst hx'
  rw [Nat.add_zero] at cx
  obtain ⟨i, hi, hz, hsz, hby⟩ := info_parts intInfo
  have IX := hide ix
  have HI := hide (And.intro hi (And.intro hz (And.intro hsz hby)))
  clear hi hz hsz hby ix
  have hd1 : decide ((n : Int) < 0) = false := by simp
  have hd2 : decide (9223372036854775807 < (n : Int)) = false := by simp; omega
  go_enter Tryz.func153, Tryz.ntmps153
  go_wp2_with (first
    | (go_at_call 109; refine (mul_one n (by omega) _).mono ?_; rintro e w' ⟨rfl, rfl⟩)
    | (at_make; refine wpList_make_full _ rfl _ _ 25 rfl w.heap.size 3 i _ 1 Tryz.underlying25 HI.out.1 HI.out.2.1 HI.out.2.2.1 .i64 .i64 _ _ n rfl rfl rfl rfl (by rw [HI.out.2.2.2]; omega) (by unfold maxLen; omega) (Nat.le_refl _) (fun w1 hown hgrow => ?_)
       obtain ⟨m0, w2, HM0, hcp, hrow, hbw⟩ := copy_first (c := c) hown hgrow cx
       clear hown hgrow))
  clear hcp cx
  go_loopw [8] (fun v wr => ∃ m : Nat, v = .int .i64 m ∧ m ≤ n ∧ (n = 0 ∨ 0 < m) ∧ RowI wr w.heap.size n x m ∧ Below w.heap.size w wr) (fun v _ => n - (intOf v).toNat)
  case atStart => exact ⟨m0, rfl, by have := HM0.out; omega, by have := HM0.out; omega, hrow, hbw⟩
  case round =>
    obtain ⟨m, rfl, hmn, hm0, ⟨cur, hcur, hcl, hcx⟩, hb⟩ := hrel
    by_cases hlt : m < n
    · have hm1 : 0 < m := by omega
      have hnm : ¬ n = m := by omega
      obtain ⟨q, hq⟩ : ∃ q, q = min m (n - m) := ⟨_, rfl⟩
      have hq1 : 0 < q := by omega
      have hq2 : m + q ≤ n := by omega
      have hqm : q ≤ m := by omega
      have hwr : IntKind.i64.wrap ((m : Int) + (q : Int)) = (m : Int) + q := IntWalk.i64_in _ (by omega)
      have HQ := hide hq
      have HCUR := hide hcur
      have HCX := hide hcx
      have HCL := hide hcl
      clear hq hcur hcx hcl hrow hbw
      go_wp2_with fail
      go_region_law (refine step_copy_splice rfl (.tmp 41) (.tmp 44) 25 25 rfl 3 Tryz.underlying25 intSize (some ⟨w.heap.size, m, none⟩) (some ⟨w.heap.size, 0, none⟩) (n - m) (n - m) m n (by simp [Act.eval, Act.put]) (by simp [Act.eval, Act.put]) w.heap.size m cur 3 HCUR.out (List.replicate q (.int .i64 x)) (by have := HQ.out; simp; omega) (fun _ => ⟨rfl, _, rfl, fun j v hj => by
        have hjq : j < q := by have := (List.getElem?_eq_some_iff.1 hj).1; simpa using this
        rw [List.getElem?_replicate] at hj
        simp [hjq] at hj
        subst hj
        rw [show (Addr.mk w.heap.size 0 none).add j = ⟨w.heap.size, j, none⟩ from by unfold Addr.add; split <;> simp_all]
        change wr.cell? ⟨w.heap.size, j, none⟩ = _
        rw [cell_of_row wr w.heap.size j _ _ _ HCUR.out]
        simpa using HCX.out j (by omega)⟩) (by simp; have := HCL.out; omega) (by simp [Value.oneCell']) w.heap.size w hb.drew (Nat.le_refl _) ?_; intro w4 hg4 hb4)
      all_goals
        simp [Act.put]
        go_roundw
        case rel =>
          refine ⟨_, _, _, _, _, _, _, _, _, _, _, _, _, _, ⟨m + q, by go_num, by omega, .inr (by omega), ⟨_, hg4.out, by rw [length_splice _ _ _ (by simp; have := HCL.out; omega)]; exact HCL.out, ?_⟩, hb4⟩, rfl⟩
          intro j hj
          unfold splice
          have hcl := HCL.out
          by_cases h : j < m
          · rw [List.getElem?_append_left (by simp; omega), List.getElem?_take_of_lt h]
            exact HCX.out j h
          · rw [List.getElem?_append_right (by simp; omega), List.getElem?_append_left (by simp; omega), List.getElem?_replicate]
            rw [if_pos (by simp; omega)]
        case measure => simp [intOf]; omega
    · have hmn2 : m = n := by omega
      subst hmn2
      have HCUR := hide hcur
      have HCX := hide hcx
      have HCL := hide hcl
      clear hcur hcx hcl
      go_wp2_with fail
      go_ret
      have hcl := HCL.out
      have hrep : cur = List.replicate m (.int .i64 x) := by
        apply List.ext_getElem?
        intro j
        by_cases h : j < m
        · rw [HCX.out j h, List.getElem?_replicate, if_pos h]
        · rw [List.getElem?_eq_none (by omega), List.getElem?_eq_none (by simp; omega)]
      subst hrep
      refine ⟨_, rfl, ⟨List.replicate m (.int .i64 x), ⟨by simp, .inr ⟨w.heap.size, m, _, by simp, Nat.le_refl _, HCUR.out, by simp, by unfold maxLen; omega, by simp, by simp⟩⟩, ?_, ?_⟩, hb⟩
      · intro u hu
        rw [List.eq_of_mem_replicate hu]
        rfl
      · intro j y hy
        have hj : j < m := by have := (List.getElem?_eq_some_iff.1 hy).1; simpa using this
        rw [List.getElem?_replicate, if_pos hj] at hy
        injection hy with hy
        subst hy
        refine ⟨?_, IX.out⟩
        unfold chunk
        apply List.ext_getElem?
        intro k
        rw [List.getElem?_take]
        split
        · have : k = 0 := by omega
          subst this
          rw [List.getElem?_drop, List.getElem?_replicate, if_pos (by omega)]
          rfl
        · rw [List.getElem?_eq_none (by simp; omega)]

end Go.Proofs.YtpgopmmobbemcaaGreat

set_option linter.unusedVariables false
namespace Go.Proofs.YtpgopmmobbemcaaGreat
open Go.RowKit

def wordFrom : Nat → List Int → List Int
  | _, [] => []
  | a, n :: r => List.replicate n.toNat (a : Int) ++ wordFrom (a + 1) r
def manyErr (L : Int) (l : List Int) : Int := if (l.length : Int) = L then (if negB l then 2 else if 256 < (wordFrom 0 l).length then 5 else 0) else 8

end Go.Proofs.YtpgopmmobbemcaaGreat

set_option linter.unusedVariables false
namespace Go.Proofs.YtpgopmmobbemcaaGreat
open Go.RowKit

end Go.Proofs.YtpgopmmobbemcaaGreat

set_option linter.unusedVariables false
namespace Go.Proofs.YtpgopmmobbemcaaGreat
open Go.RowKit

def capS : List Int → Int
  | [] => 0
  | n :: r => min n 257 + capS r
end Go.Proofs.YtpgopmmobbemcaaGreat

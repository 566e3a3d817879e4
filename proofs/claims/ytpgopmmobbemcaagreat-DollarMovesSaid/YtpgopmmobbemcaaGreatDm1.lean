/-
  Representation of Go data in the model's memory: a value's cells stand for a Lean datum. No program is named here.
  The data of the chapters on processors and networks, as plain Lean; how they lie in memory.
  From the reading of an argument to the list or the structure that it stands for.
  Graphs as plain Lean; how they lie in memory; which are right.
  From the reading of an argument to the representations: a ribbon graph, a place, a game.
  From the reading of an argument to the representations: a graph, a divisor, a sink with rotors and chips, a divisor with picks.
  From the reading of an argument to the representations: a script.
  The dollar game in plain Lean: the cheapest script of a script; the upper one of the middle numbers becomes 0.
  Slices that a call itself makes: what they own, what an append does, how they read afterwards. No program is named here.
  Slices that a literal lays.
  A block of the call's own that is known whole: a boxed variable, struct or array. No program is named here.
  Comparing pairs: cmp.Compare, cmp.Or, (pair).compare; vertices.
  Check of graphs: the program and the reference.
  Check of graphs: the reference.
  Which states are reachable: plain Lean. Within k steps; after S steps nothing new.
  The search for reachable states, and the fixed point: plain Lean.
  Joined vertices: the forest of the program, and what is reached: plain Lean.
  The forest of a graph: root, join, grown, joined.
  A list of integers that the call made and from whose front it takes: 'work = work[1:]', 'work = append(work, x)'.
  A row of the call's own, one cell an element, that is known whole: read, written in place. No program is named here.
  A list of integers of the call's own, nil or not; many such lists side by side. No program is named here.
  A slice of the call's own whose elements are lists of integers of the call's own, no two in one block. No program is named here.
  The parts of a forest: how many there are.
  The single edges of a graph: the iterator, Ends.
  append to a slice of the call's own, as one step of a region that draws its order. No program is named here.
  The ends of the single edges: the program and the reference.
  The half-edges at each vertex.
  slices.Contains at lists of integers.
  slices.BinarySearch at ascending lists of integers.
  The error of the list of a vertex.
  The forest of a graph: joined.
  Components, Connected, and joined of ribbon.
  ribbon.checked and ribbon.Check.
  The reference's counts on graphs: Between, Valence, Degree, Size, Half, At, Holds.
-/
import Derived.WalkKit
import Derived.WalkSpells
import Derived.WalkLawsBesides
import Derived.KernelRfl
import Derived.Test.YtpgopmmobbemcaaGreatProg
import Derived.ProofKit
import Derived.Deep.Slices
import Derived.Lib.RowBridge
import Derived.OwnWalk
import Derived.Deep.RegionHeld3
import Derived.ArgAppend
import Derived.Laws.OwnMore
import Derived.Maps.AppendAt
import Derived.Maps.OwnOps
import Derived.OneCell
import Derived.Deep.RegionLaw
import Derived.Lib.SmallJoins
import Derived.Deep.AppendLies
import Derived.Outline
import Derived.RangeFuncBox
import Derived.RangeFuncNested
import Derived.RangeFuncLeaves
import Derived.Shelf.Abstract
import Derived.OwnWalkIn
import Derived.TacticsInMore
import Derived.LoopNIn
import Derived.LoopIn
import Derived.BigQuiet

namespace Go.Proofs.YtpgopmmobbemcaaGreat
open Go.RowKit

abbrev Foot := Nat → Prop
abbrev Rep (α : Type) := Foot → World → List Value → α → Prop
def All : Foot := fun _ => True
def Lt (B : Nat) : Foot := fun k => k < B
def Ge (B : Nat) : Foot := fun k => B ≤ k

def SameOn (F : Foot) (w w' : World) : Prop := ∀ k, F k → k < w.heap.size → w'.heap[k]? = w.heap[k]?

theorem SameOn.refl (F : Foot) (w : World) : SameOn F w w := fun _ _ _ => rfl
theorem SameOn.of_below {F : Foot} {w w' : World} (h : Below w.heap.size w w') : SameOn F w w' := fun k _ hk => h.block k hk
structure RepOk {α : Type} (R : Rep α) (sz : Nat) : Prop where
  len : ∀ {F w cs x}, R F w cs x → cs.length = sz
  one : ∀ {F w cs x}, R F w cs x → ∀ u ∈ cs, u.oneCell' = true
  keep : ∀ {F w w' cs x}, R F w cs x → SameOn F w w' → R F w' cs x
  wide : ∀ {F F' w cs x}, R F w cs x → (∀ k, F k → k < w.heap.size → F' k) → R F' w cs x

def I64 (x : Int) : Prop := -9223372036854775808 ≤ x ∧ x ≤ 9223372036854775807

def intR : Rep Int := fun _ _ cs x => cs = [.int .i64 x] ∧ I64 x
def boolR : Rep Bool := fun _ _ cs x => cs = [.bool x]

theorem intR_ok : RepOk intR 1 where
  len := by rintro F w cs x ⟨rfl, _⟩; rfl
  one := by rintro F w cs x ⟨rfl, _⟩ u hu; simp at hu; subst hu; rfl
  keep := by rintro F w w' cs x h _; exact h
  wide := by rintro F F' w cs x h _; exact h
/-- The address oa holds, from its place on, the elements xs, sz cells each. -/
def SliceR {α : Type} (R : Rep α) (sz : Nat) (F : Foot) (w : World) (oa : Option Addr) (xs : List α) : Prop :=
  ∀ i x, xs[i]? = some x → ∃ b off cs, oa = some ⟨b, off, none⟩ ∧ F b ∧ R F w cs x ∧ ∀ j u, cs[j]? = some u → w.cell? ⟨b, off + i * sz + j, none⟩ = some u

section
variable {α : Type} {R : Rep α} {sz : Nat} {F F' : Foot} {w w' : World} {oa : Option Addr} {xs : List α}

theorem SliceR.nil (R : Rep α) (sz : Nat) (F : Foot) (w : World) (oa : Option Addr) : SliceR R sz F w oa [] := by intro i x h; simp at h

theorem SliceR.keep (ok : RepOk R sz) (h : SliceR R sz F w oa xs) (hs : SameOn F w w') : SliceR R sz F w' oa xs := by
  intro i x hx
  obtain ⟨b, off, cs, rfl, hF, hR, hc⟩ := h i x hx
  refine ⟨b, off, cs, rfl, hF, ok.keep hR hs, fun j u hu => ?_⟩
  have h1 := hc j u hu
  have hb : b < w.heap.size := World.block_lt_of_cell? _ _ h1
  rw [World.cell?_of_block (hs b hF hb)]
  exact h1

theorem SliceR.below (ok : RepOk R sz) (h : SliceR R sz F w oa xs) (hb : Below w.heap.size w w') : SliceR R sz F w' oa xs := h.keep ok (SameOn.of_below hb)

theorem SliceR.wide (ok : RepOk R sz) (hsz : 0 < sz) (h : SliceR R sz F w oa xs) (hs : ∀ k, F k → k < w.heap.size → F' k) : SliceR R sz F' w oa xs := by
  intro i x hx
  obtain ⟨b, off, cs, rfl, hF, hR, hc⟩ := h i x hx
  have hl := ok.len hR
  have h0 : cs[0]? = some (cs[0]'(by omega)) := List.getElem?_eq_getElem (by omega)
  exact ⟨b, off, cs, rfl, hs b hF (World.block_lt_of_cell? _ _ (hc 0 _ h0)), ok.wide hR hs, hc⟩

theorem SliceR.all (ok : RepOk R sz) (hsz : 0 < sz) (h : SliceR R sz F w oa xs) : SliceR R sz All w oa xs := h.wide ok hsz fun _ _ _ => trivial

/-- The element at i, with what is left of the list. -/
theorem SliceR.at (h : SliceR R sz F w oa xs) {i : Nat} (hi : i < xs.length) :
    ∃ x, xs.drop i = x :: xs.drop (i + 1) ∧ xs[i]? = some x ∧ ∃ b off cs, oa = some ⟨b, off, none⟩ ∧ F b ∧ R F w cs x ∧ ∀ j u, cs[j]? = some u → w.cell? ⟨b, off + i * sz + j, none⟩ = some u :=
  ⟨xs[i], List.drop_eq_getElem_cons hi, List.getElem?_eq_getElem hi, h i _ (List.getElem?_eq_getElem hi)⟩
end

/-- A slice value that stands for a list. -/
def slcR {α : Type} (R : Rep α) (sz : Nat) : Rep (List α) := fun F w cs xs =>
  ∃ oa c, cs = [.slice oa xs.length c] ∧ xs.length ≤ c ∧ xs.length ≤ 9223372036854775807 ∧ SliceR R sz F w oa xs

theorem slcR_ok {α : Type} {R : Rep α} {sz : Nat} (ok : RepOk R sz) (hsz : 0 < sz) : RepOk (slcR R sz) 1 where
  len := by rintro F w cs x ⟨oa, c, rfl, _⟩; rfl
  one := by rintro F w cs x ⟨oa, c, rfl, _⟩ u hu; simp at hu; subst hu; rfl
  keep := by rintro F w w' cs x ⟨oa, c, rfl, h1, h2, h⟩ hs; exact ⟨oa, c, rfl, h1, h2, h.keep ok hs⟩
  wide := by rintro F F' w cs x ⟨oa, c, rfl, h1, h2, h⟩ hs; exact ⟨oa, c, rfl, h1, h2, h.wide ok hsz hs⟩

section
variable {F : Foot} {w : World} {oa : Option Addr}
theorem SliceR.int_at {xs : List Int} (h : SliceR intR 1 F w oa xs) {i : Nat} (hi : i < xs.length) :
    ∃ x, xs.drop i = x :: xs.drop (i + 1) ∧ xs[i]? = some x ∧ I64 x ∧ ∃ b off, oa = some ⟨b, off, none⟩ ∧ F b ∧ w.cell? ⟨b, off + i, none⟩ = some (.int .i64 x) := by
  obtain ⟨x, h1, h2, b, off, cs, h3, h4, ⟨rfl, h5⟩, h6⟩ := h.at hi
  exact ⟨x, h1, h2, h5, b, off, h3, h4, by simpa using h6 0 _ rfl⟩
theorem SliceR.slc_at {α : Type} {R : Rep α} {sz : Nat} {xs : List (List α)} (h : SliceR (slcR R sz) 1 F w oa xs) {i : Nat} (hi : i < xs.length) :
    ∃ x, xs.drop i = x :: xs.drop (i + 1) ∧ xs[i]? = some x ∧ ∃ b off oa' c, oa = some ⟨b, off, none⟩ ∧ F b ∧ w.cell? ⟨b, off + i, none⟩ = some (.slice oa' x.length c) ∧ x.length ≤ c ∧ x.length ≤ 9223372036854775807 ∧ SliceR R sz F w oa' x := by
  obtain ⟨x, h1, h2, b, off, cs, h3, h4, ⟨oa', c, rfl, h5, h6, h7⟩, h8⟩ := h.at hi
  exact ⟨x, h1, h2, b, off, oa', c, h3, h4, by simpa using h8 0 _ rfl, h5, h6, h7⟩
end

theorem ret_int {k : IntKind} {a b : Int} (h : a = b) : Ending.returned (.int k a) = .returned (.int k b) := by rw [h]
theorem ret_bool {a b : Bool} (h : a = b) : Ending.returned (.bool a) = .returned (.bool b) := by rw [h]
theorem hide {p : Prop} (h : p) : Hid p := h

theorem bnew {w w' : World} (h : Below w.heap.size w w') (o : Obj) : Below w.heap.size w (w'.alloc o) := h.alloc h.size o
/-- Behind a box that the call laid first: below it all is as it was. -/
theorem below_box {w wr : World} {o : Obj} (hb : Below (w.heap.size + 1) (w.alloc o) wr) : Below w.heap.size w wr :=
  ((Below.refl w.heap.size w).alloc (Nat.le_refl _) o).trans (hb.mono (by omega))
theorem box_refl (w : World) (o : Obj) : Below (w.heap.size + 1) (w.alloc o) (w.alloc o) := Below.refl _ _
theorem box_cell {w wr : World} {cs : Array Value} {t : TypeId} (hb : Below (w.heap.size + 1) (w.alloc (.cells cs t)) wr) (i : Nat) : wr.cell? ⟨w.heap.size, i, none⟩ = cs[i]? := by
  rw [hb.cell (p := ⟨w.heap.size, i, none⟩) (by simp)]
  exact cell_of_row (w.alloc (.cells cs t)) w.heap.size i cs t (0, 0) (heap_alloc_new w _)
theorem box_lt {w wr : World} {o : Obj} (hb : Below (w.heap.size + 1) (w.alloc o) wr) : w.heap.size < wr.heap.size := by
  have := hb.size
  simp at this
  omega
theorem box_new {B : Nat} {a wr : World} (hb : Below B a wr) (hB : B ≤ a.heap.size) (o : Obj) : Below B a (wr.alloc o) := hb.alloc (Nat.le_trans hB hb.size) o
theorem box_then {B : Nat} {a wr w2 : World} (hb : Below B a wr) (hB : B ≤ a.heap.size) (h2 : Below wr.heap.size wr w2) : Below B a w2 := hb.trans (h2.mono (Nat.le_trans hB hb.size))
theorem below_drewN {B : Nat} {a w : World} (h : Below B a w) (n : Nat) : Below B a (w.drewN n) := ⟨h.os, h.tape, h.output, h.size, h.block⟩
theorem SliceR.drewN {α : Type} {R : Rep α} {sz : Nat} {F : Foot} {w : World} {oa : Option Addr} {xs : List α} (ok : RepOk R sz) (h : SliceR R sz F w oa xs) (n : Nat) : SliceR R sz F (w.drewN n) oa xs :=
  h.keep ok fun _ _ _ => rfl
theorem below_then {a wr w2 : World} (hb : Below a.heap.size a wr) (h2 : Below wr.heap.size wr w2) : Below a.heap.size a w2 := hb.trans (h2.mono hb.size)

end Go.Proofs.YtpgopmmobbemcaaGreat

namespace Go.Proofs.YtpgopmmobbemcaaGreat
open Go.RowKit

structure Out where
  dst : Int
  letter : Int
  deriving DecidableEq
structure Rul where
  next : Int
  sent : List Out
  deriving DecidableEq
structure Prc where
  states : Int
  letters : Int
  rules : List (List Rul)
  deriving DecidableEq
structure Nwk where
  procs : List Prc
  state : List Int
  waiting : List (List Int)
  deriving DecidableEq

def outR : Rep Out := fun _ _ cs x => cs = [.int .i64 x.dst, .int .i64 x.letter] ∧ I64 x.dst ∧ I64 x.letter
def ruleR : Rep Rul := fun F w cs r => ∃ oa c, cs = [.int .i64 r.next, .slice oa r.sent.length c] ∧ I64 r.next ∧ r.sent.length ≤ c ∧ r.sent.length ≤ 9223372036854775807 ∧ SliceR outR 2 F w oa r.sent
def prcR : Rep Prc := fun F w cs p => ∃ oa c, cs = [.int .i64 p.states, .int .i64 p.letters, .slice oa p.rules.length c] ∧ I64 p.states ∧ I64 p.letters ∧ p.rules.length ≤ c ∧ p.rules.length ≤ 9223372036854775807 ∧ SliceR (slcR ruleR 2) 1 F w oa p.rules

section
variable {F : Foot} {w : World} {oa : Option Addr}
end

/- The specifications of layer 54. -/
def belowB (n b : Int) : Bool := decide (0 ≤ n) && decide (n < b)
def sentErr (N : Int) : List Out → Int
  | [] => 0
  | x :: r => if belowB x.dst N && belowB x.letter 8 then sentErr N r else 2
def ruleErr (states N : Int) (r : Rul) : Int := if belowB r.next states then (if r.sent.length ≤ 16 then sentErr N r.sent else 5) else 2
def rowErr (states N : Int) : List Rul → Int
  | [] => 0
  | r :: l => if ruleErr states N r = 0 then rowErr states N l else ruleErr states N r
def rowsErr (states letters N : Int) : List (List Rul) → Int
  | [] => 0
  | l :: r => if (l.length : Int) = letters then (if rowErr states N l = 0 then rowsErr states letters N r else rowErr states N l) else 8
def checkErr (p : Prc) (N : Int) : Int :=
  if N < 1 ∨ N > 12 then 1
  else if p.states < 1 ∨ p.states > 16 ∨ p.letters < 1 ∨ p.letters > 8 then 2
  else if (p.rules.length : Int) ≠ p.states then 8
  else rowsErr p.states p.letters N p.rules

def unaryRes (p : Prc) : Bool × Int := if checkErr p 12 = 0 then (p.letters == 1, 0) else (false, checkErr p 12)
def stateErr (p : Prc) (s : Int) : Int := if checkErr p 12 = 0 then (if belowB s p.states then 0 else 2) else checkErr p 12
def lettersErr (L : Int) : List Int → Int
  | [] => 0
  | a :: r => if belowB a L then lettersErr L r else 2
def SomeBool (w : World) (e : Ending) (w' : World) : Prop := ∃ b, e = .returned (.bool b) ∧ Below w.heap.size w w'

end Go.Proofs.YtpgopmmobbemcaaGreat

set_option linter.unusedVariables false
namespace Go.Proofs.YtpgopmmobbemcaaGreat
open Go.RowKit Go.ChangeShapes Go.WideShapes Go.ChangeAt Go.Deep

section
variable {H : Type} {enc : TypeId × Value → H} {P : Program} {w : World} {base : Nat} {spare : Nat → Bool} {held : Bool}

/-- Whatever reads as data of type t stands for something. -/
def ReadsAs {α : Type} (enc : TypeId × Value → H) (P : Program) (w : World) (base : Nat) (spare : Nat → Bool) (held : Bool) (t : TypeId) (R : Rep α) : Prop :=
  ∀ fuel cs x, DataW.trod enc P w base spare held fuel t cs = some x → ∃ y, R All w cs y

theorem ReadsAs.int {t : TypeId} (ht : P.underlying t = some (.int .i64)) : ReadsAs enc P w base spare held t intR := by
  intro fuel cs x h
  obtain ⟨n, rfl, _, hw⟩ := DataW.trod_int ht h
  refine ⟨n, rfl, ?_⟩
  simpa [Lit.wf, IntKind.min, IntKind.max, IntKind.signed, IntKind.bits, I64] using hw

theorem listOf {α : Type} {Q : Nat → α → Prop} : ∀ n, (∀ i, i < n → ∃ y, Q i y) → ∃ ys : List α, ys.length = n ∧ ∀ i y, ys[i]? = some y → Q i y
  | 0, _ => ⟨[], rfl, by simp⟩
  | n + 1, h => by
    obtain ⟨ys, hl, hq⟩ := listOf n fun i hi => h i (by omega)
    obtain ⟨y, hy⟩ := h n (by omega)
    refine ⟨ys ++ [y], by simp [hl], fun i z hz => ?_⟩
    rcases Nat.lt_or_ge i n with hi | hi
    · rw [List.getElem?_append_left (by omega)] at hz
      exact hq i z hz
    · rw [List.getElem?_append_right (by omega)] at hz
      have : i - ys.length = 0 := by
        rcases Nat.eq_zero_or_pos (i - ys.length) with h0 | h0
        · exact h0
        · rw [List.getElem?_eq_none (by simp; omega)] at hz; cases hz
      rw [this] at hz
      simp at hz
      subst hz
      have : i = n := by omega
      subst this
      exact hy

theorem ReadsAs.slice {α : Type} {R : Rep α} {sz : Nat} {t e : TypeId} (ok : RepOk R sz) (hsz : 0 < sz) (ht : P.underlying t = some (.slice e)) (hC : P.cellsOf e = sz) (hR : ReadsAs enc P w base spare held e R) :
    ReadsAs enc P w base spare held t (slcR R sz) := by
  intro fuel cs x h
  rcases open_slice ht h with ⟨rfl, _⟩ | ⟨a, len, cap, m, n, D, Pl, rfl, _, hl, hm, hmm, _, hi⟩
  · exact ⟨[], none, 0, rfl, by simp, by simp, SliceR.nil _ _ _ _ _⟩
  · have hlm : len ≤ m := by rw [hmm]; split <;> omega
    have key : ∀ i, i < len → ∃ y cs', R All w cs' y ∧ ∀ j, j < sz → w.cell? ((a.add (i * sz)).add j) = cs'[j]? := by
      intro i hil
      obtain ⟨cs', hc, hd⟩ := hi i (by omega)
      rw [hC] at hc
      obtain ⟨_, hcl, hat⟩ := World.cells?_some hc
      obtain ⟨y, hy⟩ := hR _ _ _ hd
      exact ⟨y, cs', hy, hat⟩
    rcases Nat.eq_zero_or_pos len with h0 | h0
    · subst h0
      exact ⟨[], some a, cap, rfl, by simp, by simp, SliceR.nil _ _ _ _ _⟩
    obtain ⟨y0, cs0, hR0, hat0⟩ := key 0 h0
    obtain ⟨b, off, spot⟩ := a
    have hspot : spot = none := by
      have h1 := hat0 0 hsz
      have h2 : cs0[0]? = some (cs0[0]'(by rw [ok.len hR0]; exact hsz)) := List.getElem?_eq_getElem _
      rw [h2] at h1
      simpa [Addr.add] using World.cell?_spot h1
    subst hspot
    obtain ⟨ys, hyl, hyq⟩ := listOf len key
    refine ⟨ys, some ⟨b, off, none⟩, cap, by rw [hyl], by omega, by unfold maxLen at hm; omega, fun i y hy => ?_⟩
    obtain ⟨cs', hRy, hat⟩ := hyq i y hy
    refine ⟨b, off, cs', rfl, trivial, hRy, fun j u hu => ?_⟩
    have hj : j < sz := by rw [← ok.len hRy]; exact (List.getElem?_eq_some_iff.1 hu).1
    have := hat j hj
    rw [Addr.add_lit, Addr.add_lit, hu] at this
    exact this

theorem part2 {f0 f1 : Field} {t : TypeId} {fuel : Nat} {cs : List Value} {x : DataW H × List MemPlace} (hs : P.underlying t = some (.struct #[f0, f1])) (o0 : f0.offset = 0) (o1 : f1.offset = 1) (k0 : P.cellsOf f0.type = 1) (k1 : P.cellsOf f1.type = 1) (kt : P.cellsOf t = 2)
    (h : DataW.trod enc P w base spare held fuel t cs = some x) : ∃ c0 c1 n y0 y1, cs = [c0, c1] ∧ DataW.trod enc P w base spare held n f0.type [c0] = some y0 ∧ DataW.trod enc P w base spare held n f1.type [c1] = some y1 := by
  obtain ⟨xs, n, _, _, hcl, hxl, hg⟩ := DataW.trod_struct hs h
  rw [kt] at hcl
  match cs, hcl, xs, hxl with
  | [c0, c1], _, [y0, y1], _ =>
    exact ⟨c0, c1, n, y0, y1, rfl, by simpa [o0, k0] using hg 0 f0 rfl, by simpa [o1, k1] using hg 1 f1 rfl⟩
theorem part3 {f0 f1 f2 : Field} {t : TypeId} {fuel : Nat} {cs : List Value} {x : DataW H × List MemPlace} (hs : P.underlying t = some (.struct #[f0, f1, f2])) (o0 : f0.offset = 0) (o1 : f1.offset = 1) (o2 : f2.offset = 2) (k0 : P.cellsOf f0.type = 1) (k1 : P.cellsOf f1.type = 1) (k2 : P.cellsOf f2.type = 1) (kt : P.cellsOf t = 3)
    (h : DataW.trod enc P w base spare held fuel t cs = some x) : ∃ c0 c1 c2 n y0 y1 y2, cs = [c0, c1, c2] ∧ DataW.trod enc P w base spare held n f0.type [c0] = some y0 ∧ DataW.trod enc P w base spare held n f1.type [c1] = some y1 ∧ DataW.trod enc P w base spare held n f2.type [c2] = some y2 := by
  obtain ⟨xs, n, _, _, hcl, hxl, hg⟩ := DataW.trod_struct hs h
  rw [kt] at hcl
  match cs, hcl, xs, hxl with
  | [c0, c1, c2], _, [y0, y1, y2], _ =>
    exact ⟨c0, c1, c2, n, y0, y1, y2, rfl, by simpa [o0, k0] using hg 0 f0 rfl, by simpa [o1, k1] using hg 1 f1 rfl, by simpa [o2, k2] using hg 2 f2 rfl⟩

theorem agg_cells {r : Reach} {b0 : Nat} {t : TypeId} {fs : Array Field} {v : Value} {d : DataW H} {p : List MemPlace} (hs : P.underlying t = some (.struct fs))
    (hv : Value.okWide P w r b0 t v) (h : DataW.Trod enc P w base spare held t v d p) : ∃ l fuel, v = .agg ⟨l⟩ ∧ DataW.trod enc P w base spare held fuel t l = some (d, p) := by
  obtain ⟨cs, rfl, _⟩ := okWide_struct hs hv
  obtain ⟨l⟩ := cs
  obtain ⟨fuel, hf⟩ := h
  exact ⟨l, fuel, rfl, by simpa [Value.cells] using hf⟩
end

section
variable {H : Type} {enc : TypeId × Value → H} {w : World} {base : Nat} {spare : Nat → Bool} {held : Bool}
theorem reads_int : ReadsAs enc Tryz.prog w base spare held 3 intR := ReadsAs.int Tryz.underlying3
end

theorem own_knob : ownKnob Tryz.prog.godebug = none := by kernel_rfl
theorem laid_out : laidOutB Tryz.prog = true := by kernel_rfl

end Go.Proofs.YtpgopmmobbemcaaGreat

set_option linter.unusedVariables false
set_option linter.unusedSimpArgs false
namespace Go.Proofs.YtpgopmmobbemcaaGreat
open Go.RowKit

structure Edg where
  a : Int
  b : Int
  m : Int
  deriving DecidableEq

def edgR : Rep Edg := fun _ _ cs x => cs = [.int .i64 x.a, .int .i64 x.b, .int .i64 x.m] ∧ I64 x.a ∧ I64 x.b ∧ I64 x.m
def prR : Rep (Int × Int) := fun _ _ cs x => cs = [.int .i64 x.1, .int .i64 x.2] ∧ I64 x.1 ∧ I64 x.2

theorem edgR_ok : RepOk edgR 3 := {
  len := by rintro F w cs x ⟨rfl, _⟩; rfl
  one := by rintro F w cs x ⟨rfl, _⟩ u hu; simp at hu; rcases hu with rfl | rfl | rfl <;> rfl
  keep := by rintro F w w' cs x h _; exact h
  wide := by rintro F F' w cs x h _; exact h }
theorem prR_ok : RepOk prR 2 := {
  len := by rintro F w cs x ⟨rfl, _⟩; rfl
  one := by rintro F w cs x ⟨rfl, _⟩ u hu; simp at hu; rcases hu with rfl | rfl <;> rfl
  keep := by rintro F w w' cs x h _; exact h
  wide := by rintro F F' w cs x h _; exact h }

section
variable {F : Foot} {w : World} {oa : Option Addr}
theorem SliceR.edg_at {xs : List Edg} (h : SliceR edgR 3 F w oa xs) {i : Nat} (hi : i < xs.length) :
    ∃ a b m, xs.drop i = ⟨a, b, m⟩ :: xs.drop (i + 1) ∧ xs[i]? = some ⟨a, b, m⟩ ∧ I64 a ∧ I64 b ∧ I64 m ∧ ∃ bl off, oa = some ⟨bl, off, none⟩ ∧ F bl ∧ w.cell? ⟨bl, off + i * 3, none⟩ = some (.int .i64 a) ∧ w.cell? ⟨bl, off + i * 3 + 1, none⟩ = some (.int .i64 b) ∧ w.cell? ⟨bl, off + i * 3 + 2, none⟩ = some (.int .i64 m) := by
  obtain ⟨⟨a, b, m⟩, h1, h2, bl, off, cs, h3, h4, ⟨rfl, h5, h6, h7⟩, h8⟩ := h.at hi
  exact ⟨a, b, m, h1, h2, h5, h6, h7, bl, off, h3, h4, by simpa using h8 0 _ rfl, by simpa using h8 1 _ rfl, by simpa using h8 2 _ rfl⟩
end

/- The specifications of layer 8. -/
def vtxB (n v : Int) : Bool := decide (0 ≤ v) && decide (v < n)
def cmpI (a b : Int) : Int := if a < b then -1 else if b < a then 1 else 0
def cmpP (p q : Int × Int) : Int := if cmpI p.1 q.1 = 0 then cmpI p.2 q.2 else cmpI p.1 q.1
def edgeErr (n : Int) (last : Int × Int) (x : Edg) : Int :=
  if vtxB n x.a && vtxB n x.b && decide (1 ≤ x.m) && decide (x.m ≤ 50) then (if decide (x.a ≤ x.b) && decide (cmpP last (x.a, x.b) < 0) then 0 else 9) else 2
def edgesErr (n : Int) : Int × Int → List Edg → Int
  | _, [] => 0
  | last, x :: r => if edgeErr n last x = 0 then edgesErr n (x.a, x.b) r else edgeErr n last x
def gErr (n : Int) (es : List Edg) : Int := if n < 1 ∨ n > 12 then 2 else edgesErr n (-1, -1) es

theorem vtxB_iff {n v : Int} : vtxB n v = true ↔ 0 ≤ v ∧ v < n := by simp [vtxB]
theorem cmpI_neg {a b : Int} : cmpI a b < 0 ↔ a < b := by unfold cmpI; split <;> (try split) <;> omega
theorem cmpI_zero {a b : Int} : cmpI a b = 0 ↔ a = b := by unfold cmpI; split <;> (try split) <;> omega
theorem cmpP_neg {p q : Int × Int} : cmpP p q < 0 ↔ p.1 < q.1 ∨ (p.1 = q.1 ∧ p.2 < q.2) := by
  unfold cmpP
  split
  · rename_i h
    have := cmpI_zero.1 h
    have h2 := cmpI_neg (a := p.2) (b := q.2)
    omega
  · rename_i h
    have h1 := cmpI_neg (a := p.1) (b := q.1)
    have h2 := cmpI_zero (a := p.1) (b := q.1)
    omega

theorem edgeErr_zero {n : Int} {last : Int × Int} {x : Edg} (h : edgeErr n last x = 0) : (0 ≤ x.a ∧ x.a < n) ∧ (0 ≤ x.b ∧ x.b < n) ∧ 1 ≤ x.m ∧ x.m ≤ 50 ∧ x.a ≤ x.b ∧ cmpP last (x.a, x.b) < 0 := by
  unfold edgeErr at h
  split at h
  · rename_i h1
    simp only [Bool.and_eq_true, decide_eq_true_eq, vtxB_iff] at h1
    split at h
    · rename_i h2
      simp only [Bool.and_eq_true, decide_eq_true_eq] at h2
      omega
    · cases h
  · cases h
theorem edgesErr_zero {n : Int} : ∀ {es : List Edg} {last : Int × Int}, edgesErr n last es = 0 →
    (∀ x ∈ es, (0 ≤ x.a ∧ x.a < n) ∧ (0 ≤ x.b ∧ x.b < n) ∧ 1 ≤ x.m ∧ x.m ≤ 50 ∧ x.a ≤ x.b ∧ cmpP last (x.a, x.b) < 0) ∧ es.Pairwise fun x y => cmpP (x.a, x.b) (y.a, y.b) < 0
  | [], _, _ => by simp
  | x :: r, last, h => by
    unfold edgesErr at h
    split at h
    · rename_i h0
      have h1 := edgeErr_zero h0
      have ih := edgesErr_zero h
      refine ⟨fun y hy => ?_, ?_⟩
      · rcases List.mem_cons.1 hy with rfl | hy
        · exact h1
        · have h2 := ih.1 y hy
          refine ⟨h2.1, h2.2.1, h2.2.2.1, h2.2.2.2.1, h2.2.2.2.2.1, ?_⟩
          have h3 := cmpP_neg.1 h1.2.2.2.2.2
          have h4 := cmpP_neg.1 h2.2.2.2.2.2
          rw [cmpP_neg]
          simp only at h3 h4 ⊢
          omega
      · rw [List.pairwise_cons]
        exact ⟨fun y hy => (ih.1 y hy).2.2.2.2.2, ih.2⟩
    · rename_i hx; exact absurd h hx
theorem gErr_zero {n : Int} {es : List Edg} (h : gErr n es = 0) : (1 ≤ n ∧ n ≤ 12) ∧ (∀ x ∈ es, (0 ≤ x.a ∧ x.a < n) ∧ (0 ≤ x.b ∧ x.b < n) ∧ 1 ≤ x.m ∧ x.m ≤ 50 ∧ x.a ≤ x.b) ∧ es.Pairwise fun x y => cmpP (x.a, x.b) (y.a, y.b) < 0 := by
  unfold gErr at h
  split at h
  · cases h
  · have h1 := edgesErr_zero h
    refine ⟨by omega, fun x hx => ?_, h1.2⟩
    have := h1.1 x hx
    exact ⟨this.1, this.2.1, this.2.2.1, this.2.2.2.1, this.2.2.2.2.1⟩

/-- The ends of the single edges, one after the other. -/
def endsL (es : List Edg) : List (Int × Int) := es.flatMap fun x => List.replicate x.m.toNat (x.a, x.b)
theorem endsL_cons (x : Edg) (r : List Edg) : endsL (x :: r) = List.replicate x.m.toNat (x.a, x.b) ++ endsL r := rfl
theorem endsL_len {es : List Edg} (h : ∀ x ∈ es, x.m ≤ 50) : (endsL es).length ≤ 50 * es.length := by
  induction es with
  | nil => simp [endsL]
  | cons x r ih =>
    have h1 := ih fun y hy => h y (by simp [hy])
    have h2 := h x (by simp)
    rw [endsL_cons]
    simp
    omega
theorem endsL_mem {es : List Edg} {p : Int × Int} (h : p ∈ endsL es) : ∃ x ∈ es, p = (x.a, x.b) := by
  unfold endsL at h
  rw [List.mem_flatMap] at h
  obtain ⟨x, hx, hp⟩ := h
  exact ⟨x, hx, (List.mem_replicate.1 hp).2⟩

/-- How often two vertices are joined. -/
def betw (es : List Edg) (a b : Int) : Int :=
  match es with
  | [] => 0
  | x :: r => if x.a = min a b ∧ x.b = max a b then x.m else betw r a b
end Go.Proofs.YtpgopmmobbemcaaGreat

set_option linter.unusedVariables false
namespace Go.Proofs.YtpgopmmobbemcaaGreat
open Go.RowKit Go.ChangeShapes Go.WideShapes Go.ChangeAt Go.Deep

section
variable {H : Type} {enc : TypeId × Value → H} {P : Program} {w : World} {base : Nat} {spare : Nat → Bool} {held : Bool}






end

section
variable {H : Type} {enc : TypeId × Value → H} {w : World} {base : Nat} {spare : Nat → Bool} {held : Bool}
theorem reads_edge : ReadsAs enc Tryz.prog w base spare held 123 edgR := by
  intro fuel cs x h
  obtain ⟨c0, c1, c2, n, y0, y1, y2, rfl, h0, h1, h2⟩ := part3 Tryz.underlying123 rfl rfl rfl (by kernel_rfl) (by kernel_rfl) (by kernel_rfl) (by kernel_rfl) h
  obtain ⟨a, ha, ia⟩ := reads_int _ _ _ h0
  obtain ⟨b, hb, ib⟩ := reads_int _ _ _ h1
  obtain ⟨m, hm, im⟩ := reads_int _ _ _ h2
  simp at ha hb hm
  subst ha hb hm
  exact ⟨⟨a, b, m⟩, rfl, ia, ib, im⟩
theorem reads_edges : ReadsAs enc Tryz.prog w base spare held 22 (slcR edgR 3) := ReadsAs.slice edgR_ok (by omega) Tryz.underlying22 (by kernel_rfl) reads_edge
end


end Go.Proofs.YtpgopmmobbemcaaGreat

set_option linter.unusedVariables false
namespace Go.Proofs.YtpgopmmobbemcaaGreat
open Go.RowKit Go.ChangeShapes Go.WideShapes Go.ChangeAt Go.Deep

section
variable {H : Type} {enc : TypeId × Value → H} {w : World} {base : Nat} {spare : Nat → Bool} {held : Bool}
theorem reads_div5 : ReadsAs enc Tryz.prog w base spare held 28 (slcR intR 1) := ReadsAs.slice intR_ok (by omega) Tryz.underlying28 (by kernel_rfl) reads_int
set_option maxRecDepth 100000 in
theorem open_graph {r : Reach} {b0 : Nat} {v : Value} {d : DataW H} {p : List MemPlace} (hv : Value.okWide Tryz.prog w r b0 24 v) (h : DataW.Trod enc Tryz.prog w base spare held 24 v d p) :
    ∃ n es oe c, v = .agg #[.int .i64 n, .slice oe (List.length es) c] ∧ es.length ≤ c ∧ es.length ≤ 9223372036854775807 ∧ SliceR edgR 3 All w oe es := by
  obtain ⟨l, fuel, rfl, hf⟩ := agg_cells Tryz.underlying24 hv h
  obtain ⟨e0, e1, k2, z0, z1, he, g0, g1⟩ := part2 Tryz.underlying24 rfl rfl (by kernel_rfl) (by kernel_rfl) (by kernel_rfl) hf
  subst he
  obtain ⟨n, hn, _⟩ := reads_int _ _ _ g0
  obtain ⟨es, oe, c, hes, q1, q2, q3⟩ := reads_edges _ _ _ g1
  simp at hn hes
  subst hn hes
  exact ⟨n, es, oe, c, rfl, q1, q2, q3⟩
end

end Go.Proofs.YtpgopmmobbemcaaGreat

set_option linter.unusedVariables false
namespace Go.Proofs.YtpgopmmobbemcaaGreat
open Go.RowKit Go.ChangeShapes Go.WideShapes Go.ChangeAt Go.Deep

section
variable {H : Type} {enc : TypeId × Value → H} {w : World} {base : Nat} {spare : Nat → Bool} {held : Bool}
theorem reads_scr : ReadsAs enc Tryz.prog w base spare held 26 (slcR intR 1) := ReadsAs.slice intR_ok (by omega) Tryz.underlying26 (by kernel_rfl) reads_int
end
end Go.Proofs.YtpgopmmobbemcaaGreat

set_option linter.unusedVariables false
set_option linter.unusedSimpArgs false
namespace Go.Proofs.YtpgopmmobbemcaaGreat
open Go.RowKit

def magI (k : Int) : Int := max k (-k)
/-- The number of moves of a script. -/
def costS : List Int → Int
  | [] => 0
  | k :: r => magI k + costS r
def raisedS (s : List Int) (k : Int) : List Int := s.map fun x => x + k
/-- The cheapest script, as the reference finds it: behind some numbers, the best one and what was added. -/
def cheapStep (s : List Int) (b : Option (Int × List Int)) (k : Int) : Option (Int × List Int) :=
  match b with
  | none => some (-k, raisedS s (-k))
  | some (a, x) => if costS (raisedS s (-k)) < costS x ∨ costS (raisedS s (-k)) = costS x ∧ -k < a then some (-k, raisedS s (-k)) else some (a, x)
def cheapS (s : List Int) : List Int :=
  match s.foldl (cheapStep s) none with
  | none => s
  | some (_, x) => x
def cntLe (m : Int) (s : List Int) : Nat := s.countP fun x => decide (x ≤ m)
def cntLt (m : Int) (s : List Int) : Nat := s.countP fun x => decide (x < m)

theorem cost_up {m c : Int} (h : m ≤ c) : ∀ s : List Int, costS (raisedS s (-m)) + (c - m) * (2 * (cntLe m s : Int) - s.length) ≤ costS (raisedS s (-c))
  | [] => by simp [raisedS, costS, cntLe]
  | x :: r => by
    have ih := cost_up h r
    simp only [raisedS, List.map_cons, costS, cntLe, List.countP_cons, List.length_cons] at ih ⊢
    by_cases hx : x ≤ m
    · have e : (if decide (x ≤ m) = true then 1 else 0) = 1 := by simp [hx]
      rw [e]
      have h1 : magI (x + -m) + (c - m) ≤ magI (x + -c) := by unfold magI; omega
      have h2 : (c - m) * (2 * ((List.countP (fun x => decide (x ≤ m)) r + 1 : Nat) : Int) - ((r.length + 1 : Nat) : Int)) = (c - m) * (2 * (List.countP (fun x => decide (x ≤ m)) r : Int) - r.length) + (c - m) := by
        push_cast
        rw [show (2 * ((List.countP (fun x => decide (x ≤ m)) r : Int) + 1) - ((r.length : Int) + 1)) = (2 * (List.countP (fun x => decide (x ≤ m)) r : Int) - r.length) + 1 by omega, Int.mul_add, Int.mul_one]
      rw [h2]
      omega
    · have e : (if decide (x ≤ m) = true then 1 else 0) = 0 := by simp [hx]
      rw [e]
      have h1 : magI (x + -m) - (c - m) ≤ magI (x + -c) := by unfold magI; omega
      have h2 : (c - m) * (2 * ((List.countP (fun x => decide (x ≤ m)) r + 0 : Nat) : Int) - ((r.length + 1 : Nat) : Int)) = (c - m) * (2 * (List.countP (fun x => decide (x ≤ m)) r : Int) - r.length) - (c - m) := by
        push_cast
        rw [show (2 * ((List.countP (fun x => decide (x ≤ m)) r : Int) + 0) - ((r.length : Int) + 1)) = (2 * (List.countP (fun x => decide (x ≤ m)) r : Int) - r.length) - 1 by omega, Int.mul_sub, Int.mul_one]
      rw [h2]
      omega
theorem cost_down {m c : Int} (h : c ≤ m) : ∀ s : List Int, costS (raisedS s (-m)) + (m - c) * ((s.length : Int) - 2 * (cntLt m s : Int)) ≤ costS (raisedS s (-c))
  | [] => by simp [raisedS, costS, cntLt]
  | x :: r => by
    have ih := cost_down h r
    simp only [raisedS, List.map_cons, costS, cntLt, List.countP_cons, List.length_cons] at ih ⊢
    by_cases hx : x < m
    · have e : (if decide (x < m) = true then 1 else 0) = 1 := by simp [hx]
      rw [e]
      have h1 : magI (x + -m) - (m - c) ≤ magI (x + -c) := by unfold magI; omega
      have h2 : (m - c) * (((r.length + 1 : Nat) : Int) - 2 * ((List.countP (fun x => decide (x < m)) r + 1 : Nat) : Int)) = (m - c) * ((r.length : Int) - 2 * (List.countP (fun x => decide (x < m)) r : Int)) - (m - c) := by
        push_cast
        rw [show (((r.length : Int) + 1) - 2 * ((List.countP (fun x => decide (x < m)) r : Int) + 1)) = ((r.length : Int) - 2 * (List.countP (fun x => decide (x < m)) r : Int)) - 1 by omega, Int.mul_sub, Int.mul_one]
      rw [h2]
      omega
    · have e : (if decide (x < m) = true then 1 else 0) = 0 := by simp [hx]
      rw [e]
      have h1 : magI (x + -m) + (m - c) ≤ magI (x + -c) := by unfold magI; omega
      have h2 : (m - c) * (((r.length + 1 : Nat) : Int) - 2 * ((List.countP (fun x => decide (x < m)) r + 0 : Nat) : Int)) = (m - c) * ((r.length : Int) - 2 * (List.countP (fun x => decide (x < m)) r : Int)) + (m - c) := by
        push_cast
        rw [show (((r.length : Int) + 1) - 2 * ((List.countP (fun x => decide (x < m)) r : Int) + 0)) = ((r.length : Int) - 2 * (List.countP (fun x => decide (x < m)) r : Int)) + 1 by omega, Int.mul_add, Int.mul_one]
      rw [h2]
      omega
/-- A number that more than half are no greater than, and at most half less than. -/
structure MidN (s : List Int) (m : Int) : Prop where
  mem : m ∈ s
  le : s.length < 2 * cntLe m s
  lt : 2 * cntLt m s ≤ s.length
theorem MidN.above {s : List Int} {m c : Int} (h : MidN s m) (hc : m < c) : costS (raisedS s (-m)) < costS (raisedS s (-c)) := by
  have h1 := cost_up (m := m) (c := c) (by omega) s
  have h2 := h.le
  have h3 : 0 < (c - m) * (2 * (cntLe m s : Int) - s.length) := Int.mul_pos (by omega) (by omega)
  omega
theorem MidN.least {s : List Int} {m : Int} (h : MidN s m) (c : Int) : costS (raisedS s (-m)) ≤ costS (raisedS s (-c)) := by
  rcases Int.lt_or_le m c with hc | hc
  · exact Int.le_of_lt (h.above hc)
  · have h1 := cost_down hc s
    have h2 := h.lt
    have h3 : 0 ≤ (m - c) * ((s.length : Int) - 2 * (cntLt m s : Int)) := Int.mul_nonneg (by omega) (by omega)
    omega
/-- The middle number of a sorted list. -/
theorem mid_sorted {s l : List Int} {m : Int} (hp : l.Perm s) (hs : l.Pairwise (· ≤ ·)) (hm : l[s.length / 2]? = some m) : MidN s m := by
  have hlen := hp.length_eq
  have hlt := (List.getElem?_eq_some_iff.1 hm).1
  have hcut := List.take_append_drop (s.length / 2) l
  have hd : l.drop (s.length / 2) = m :: l.drop (s.length / 2 + 1) := by
    rw [List.drop_eq_getElem_cons hlt]
    rw [List.getElem?_eq_getElem hlt] at hm
    injection hm with hm
    rw [hm]
  have hs2 := hs
  rw [← hcut, hd] at hs2
  obtain ⟨_, q2, q3⟩ := List.pairwise_append.1 hs2
  have q4 := (List.pairwise_cons.1 q2).1
  refine ⟨hp.subset (List.mem_of_getElem? hm), ?_, ?_⟩
  · have e : cntLe m s = cntLe m l := (hp.countP_eq _).symm
    have e2 : cntLe m l = cntLe m (l.take (s.length / 2)) + (cntLe m (l.drop (s.length / 2 + 1)) + 1) := by
      unfold cntLe
      conv => lhs; rw [← hcut, hd, List.countP_append, List.countP_cons]
      simp
    have e3 : cntLe m (l.take (s.length / 2)) = (l.take (s.length / 2)).length := by
      unfold cntLe
      rw [List.countP_eq_length]
      intro a ha
      simpa using q3 a ha m (by simp)
    rw [List.length_take] at e3
    omega
  · have e : cntLt m s = cntLt m l := (hp.countP_eq _).symm
    have e2 : cntLt m l = cntLt m (l.take (s.length / 2)) + cntLt m (m :: l.drop (s.length / 2 + 1)) := by
      unfold cntLt
      conv => lhs; rw [← hcut, hd, List.countP_append]
    have e3 : cntLt m (m :: l.drop (s.length / 2 + 1)) = 0 := by
      unfold cntLt
      rw [List.countP_eq_zero]
      intro a ha
      rcases List.mem_cons.1 ha with rfl | ha
      · simp
      · have := q4 a ha
        simp
        omega
    have e4 : cntLt m (l.take (s.length / 2)) ≤ (l.take (s.length / 2)).length := List.countP_le_length
    rw [List.length_take] at e4
    omega
theorem cheap_fold {s : List Int} {m : Int} (h : MidN s m) : ∀ (r : List Int) (b : Option (Int × List Int)), (∀ a x, b = some (a, x) → x = raisedS s a) → (m ∈ r ∨ b = some (-m, raisedS s (-m))) → r.foldl (cheapStep s) b = some (-m, raisedS s (-m))
  | [], b, _, hm => by
    rcases hm with hm | hm
    · simp at hm
    · exact hm
  | k :: r, b, hb, hm => by
    rw [List.foldl_cons]
    refine cheap_fold h r _ ?_ ?_
    · intro a x hx
      unfold cheapStep at hx
      rcases b with _ | ⟨a0, x0⟩
      · simp only [Option.some.injEq, Prod.mk.injEq] at hx
        rw [← hx.1, ← hx.2]
      · simp only at hx
        split at hx
        · simp only [Option.some.injEq, Prod.mk.injEq] at hx
          rw [← hx.1, ← hx.2]
        · exact hb a x hx
    · by_cases hk : k = m
      · right
        subst hk
        unfold cheapStep
        rcases b with _ | ⟨a0, x0⟩
        · rfl
        · simp only
          have e := hb a0 x0 rfl
          split
          · rfl
          · rename_i hn
            have h1 := h.least (-a0)
            rw [Int.neg_neg, ← e] at h1
            have h2 : ¬ (-k < a0) := fun hh => hn (by omega)
            rcases Int.lt_or_le k (-a0) with h3 | h3
            · have := h.above h3
              rw [Int.neg_neg, ← e] at this
              exact absurd (Or.inl this) hn
            · have h4 : a0 = -k := by omega
              subst h4
              rw [e]
      · rcases hm with hm | hm
        · rcases List.mem_cons.1 hm with hm | hm
          · exact absurd hm.symm hk
          · exact .inl hm
        · right
          subst hm
          unfold cheapStep
          simp only
          rw [if_neg]
          rintro (h1 | ⟨h1, h2⟩)
          · have := h.least k
            omega
          · have := h.above (c := k) (by omega)
            omega
/-- The cheapest script of a script. -/
theorem cheap_mid {s : List Int} {m : Int} (h : MidN s m) : cheapS s = raisedS s (-m) := by
  unfold cheapS
  rw [cheap_fold h s none (fun a x e => by cases e) (.inl h.mem)]
end Go.Proofs.YtpgopmmobbemcaaGreat

namespace Go.Proofs.YtpgopmmobbemcaaGreat
open Go.RowKit

def Non : Foot := fun _ => False

section
variable {P : Program} (w : World)

theorem run_append_empty (base : Nat) (t ty e : TypeId) (i : TypeInfo) (size : Nat) (ht : P.underlying t = some (.slice e)) (hi : P.info? e = some i)
    (v : Value) (n : Nat) (xs : List Value) (hown : w.ownsRow base e size v n xs) (c : Nat) : (Builtin.append_ #[t, t] ty #[v, .slice none 0 c]).run P w = .ok v w := by
  rcases hown.2 with ⟨rfl, rfl⟩ | ⟨g, cap, cur, rfl, _, _, hnc, _⟩
  · simp [Builtin.append_, run_underlying ht, sizeOf, typeInfo, hi, Builtin.lenOf, Builtin.firstCells]
  · simp [Builtin.append_, run_underlying ht, sizeOf, typeInfo, hi, Builtin.lenOf, Builtin.firstCells, hnc, storeCells]

/-- append(v, x...), v the call's own, x whatever slice: nil, empty or not. -/
theorem run_append_src (base : Nat) (t ty e : TypeId) (i : TypeInfo) (z : Value) (size bytes : Nat) (ht : P.underlying t = some (.slice e)) (hi : P.info? e = some i) (hz : i.zero = some z)
    (hsize : i.size = size) (hby : i.bytes = bytes) (hzs : z.cells.size = size) (hsz : 0 < size)
    (v : Value) (n : Nat) (xs : List Value) (hown : w.ownsRow base e size v n xs)
    (oa : Option Addr) (m c : Nat) (news : List Value) (hl : news.length = m * size) (hc : ∀ j u, news[j]? = some u → ∃ b off, oa = some ⟨b, off, none⟩ ∧ w.cell? ⟨b, off + j, none⟩ = some u) (h1 : ∀ u ∈ news, u.oneCell' = true)
    (h63 : n + m ≤ maxLen) (hbytes : (n + m) * bytes ≤ 140737488355328) (hbase : base ≤ w.heap.size) :
    ∃ v' w', (Builtin.append_ #[t, t] ty #[v, .slice oa m c]).run P w = .ok v' w' ∧ w'.ownsRow base e size v' (n + m) (xs ++ news) ∧ w.grownBy w' v.ownBlock := by
  rcases oa with _ | ad
  · have hn : news = [] := by
      cases news with
      | nil => rfl
      | cons u r => obtain ⟨b, off, h, _⟩ := hc 0 u rfl; cases h
    subst hn
    have hm : m = 0 := by
      rcases Nat.eq_zero_or_pos m with h | h
      · exact h
      · have h2 := Nat.mul_pos h hsz
        simp at hl
        omega
    subst hm
    exact ⟨v, w, run_append_empty w base t ty e i size ht hi v n xs hown c, by simpa using hown, rfl, rfl, rfl, Nat.le_refl _, fun _ _ _ => rfl⟩
  · have hcells : ∀ j u, news[j]? = some u → w.cell? (ad.add j) = some u := by
      intro j u hu
      obtain ⟨b, off, h, hcc⟩ := hc j u hu
      injection h with h
      subst h
      rw [Addr.add_lit]
      exact hcc
    obtain ⟨v', w', h2, h3, h4, _⟩ := run_append_own (P := P) w base t ty e i z size bytes ht hi hz hsize hby hzs hsz v n xs hown ad m c news hl hcells h1 h63 hbytes hbase
    exact ⟨v', w', h2, h3, h4⟩

theorem wpList_append_src {ops : Array Oper} {rest : List Oper} {o : Oper} {a : Act} {Q : Exit → Act → World → Prop} (hgd : o.guard = none) (s x : Operand) (t : TypeId)
    (ho : o.op = .call { callee := .builtin .append, args := #[s, x], argTypes := #[t, t] })
    (base : Nat) (e : TypeId) (i : TypeInfo) (z : Value) (size bytes : Nat) (ht : P.underlying t = some (.slice e)) (hi : P.info? e = some i) (hz : i.zero = some z)
    (hsize : i.size = size) (hby : i.bytes = bytes) (hzs : z.cells.size = size) (hsz : 0 < size)
    (v : Value) (n : Nat) (xs : List Value) (hs : a.eval s = v) (hown : w.ownsRow base e size v n xs)
    (oa : Option Addr) (m c : Nat) (news : List Value) (hx : a.eval x = .slice oa m c) (hl : news.length = m * size) (hc : ∀ j u, news[j]? = some u → ∃ b off, oa = some ⟨b, off, none⟩ ∧ w.cell? ⟨b, off + j, none⟩ = some u) (h1 : ∀ u ∈ news, u.oneCell' = true)
    (h63 : n + m ≤ maxLen) (hbytes : (n + m) * bytes ≤ 140737488355328) (hbase : base ≤ w.heap.size)
    (h : ∀ v' w', w'.ownsRow base e size v' (n + m) (xs ++ news) → w.grownBy w' v.ownBlock → wpList P ops Q rest (a.put o.dst v') w') : wpList P ops Q (o :: rest) a w :=
  wpList_plain hgd fun _ hK => by
    obtain ⟨v', w', hrun, h2, h3⟩ := run_append_src (P := P) w base t o.type e i z size bytes ht hi hz hsize hby hzs hsz v n xs hown oa m c news hl hc h1 h63 hbytes hbase
    unfold Oper.wp execOp
    simp only [ho, resolve, invoke, builtin, Sem.run_bind, Sem.run_pure, Result.andThen_ok, List.map_toArray, List.map_cons, List.map_nil, hs, hx, hrun]
    exact hK _ _ (h v' w' h2 h3)
end

def chunk (sz i : Nat) (l : List Value) : List Value := (l.drop (i * sz)).take sz

theorem chunk_get {sz i j : Nat} {l : List Value} {u : Value} (h : (chunk sz i l)[j]? = some u) : j < sz ∧ l[i * sz + j]? = some u := by
  unfold chunk at h
  rw [List.getElem?_take] at h
  split at h
  · rw [List.getElem?_drop] at h
    exact ⟨by assumption, h⟩
  · cases h

/-- The cells of a slice, in a row, part by part. -/
theorem SliceR.cells {α : Type} {R : Rep α} {sz : Nat} {F : Foot} {w : World} {oa : Option Addr} (ok : RepOk R sz) :
    ∀ {xs : List α}, SliceR R sz F w oa xs → ∃ news, news.length = xs.length * sz ∧ (∀ j u, news[j]? = some u → ∃ b off, oa = some ⟨b, off, none⟩ ∧ w.cell? ⟨b, off + j, none⟩ = some u) ∧
      (∀ u ∈ news, u.oneCell' = true) ∧ ∀ i x, xs[i]? = some x → R F w (chunk sz i news) x := by
  intro xs h
  rcases Nat.eq_zero_or_pos xs.length with h0 | h0
  · have : xs = [] := List.eq_nil_of_length_eq_zero h0
    subst this
    exact ⟨[], by simp, by simp, by simp, by simp⟩
  obtain ⟨b, off, cs0, hoa, hF0, hR0, hc0⟩ := h 0 _ (List.getElem?_eq_getElem h0)
  subst hoa
  have key : ∀ i x, xs[i]? = some x → ∃ cs, R F w cs x ∧ ∀ j u, cs[j]? = some u → w.cell? ⟨b, off + i * sz + j, none⟩ = some u := by
    intro i x hx
    obtain ⟨b', off', cs, he, _, hR, hc⟩ := h i x hx
    simp only [Option.some.injEq, Addr.mk.injEq, and_true] at he
    obtain ⟨rfl, rfl⟩ := he
    exact ⟨cs, hR, hc⟩
  have cell : ∀ j, j < xs.length * sz → ∃ u, w.cell? ⟨b, off + j, none⟩ = some u ∧ u.oneCell' = true := by
    intro j hj
    have hsz : 0 < sz := by
      rcases Nat.eq_zero_or_pos sz with h | h
      · subst h; simp at hj
      · exact h
    have hi : j / sz < xs.length := (Nat.div_lt_iff_lt_mul hsz).2 hj
    obtain ⟨cs, hR, hc⟩ := key (j / sz) _ (List.getElem?_eq_getElem hi)
    have hm : j % sz < cs.length := by rw [ok.len hR]; exact Nat.mod_lt _ hsz
    have hcc := hc (j % sz) _ (List.getElem?_eq_getElem hm)
    have hj2 : off + j / sz * sz + j % sz = off + j := by
      have := Nat.div_add_mod' j sz
      omega
    rw [hj2] at hcc
    exact ⟨_, hcc, ok.one hR _ (List.getElem_mem hm)⟩
  let news := (List.range (xs.length * sz)).map fun j => (w.cell? ⟨b, off + j, none⟩).getD undef
  have get : ∀ j u, news[j]? = some u → j < xs.length * sz ∧ w.cell? ⟨b, off + j, none⟩ = some u := by
    intro j u hu
    simp only [news, List.getElem?_map, Option.map_eq_some_iff] at hu
    obtain ⟨k, hk, hu⟩ := hu
    have hk2 := List.getElem?_eq_some_iff.1 hk
    obtain ⟨hlt, hkk⟩ := hk2
    simp only [List.length_range] at hlt
    simp only [List.getElem_range] at hkk
    subst hkk
    obtain ⟨u', hu', _⟩ := cell j hlt
    rw [hu'] at hu
    simp only [Option.getD_some] at hu
    subst hu
    exact ⟨hlt, hu'⟩
  refine ⟨news, by simp [news], fun j u hu => ⟨b, off, rfl, (get j u hu).2⟩, ?_, ?_⟩
  · intro u hu
    obtain ⟨j, hj, rfl⟩ := List.getElem_of_mem hu
    obtain ⟨h1, h2⟩ := get j _ (List.getElem?_eq_getElem hj)
    obtain ⟨u', hu', ho⟩ := cell j h1
    rw [h2] at hu'
    injection hu' with hu'
    rw [hu']; exact ho
  · intro i x hx
    obtain ⟨cs, hR, hc⟩ := key i x hx
    have hi : i < xs.length := (List.getElem?_eq_some_iff.1 hx).1
    have hle : i * sz + sz ≤ xs.length * sz := by
      have := Nat.mul_le_mul_right sz (Nat.succ_le_of_lt hi)
      rw [Nat.succ_mul] at this
      exact this
    have : chunk sz i news = cs := by
      apply List.ext_getElem?
      intro j
      unfold chunk
      rw [List.getElem?_take]
      split
      · rename_i hj
        rw [List.getElem?_drop]
        have hjl : j < cs.length := by rw [ok.len hR]; exact hj
        have h1 := hc j _ (List.getElem?_eq_getElem hjl)
        have hn : i * sz + j < news.length := by simp only [news, List.length_map, List.length_range]; omega
        have h2 := (get _ _ (List.getElem?_eq_getElem hn)).2
        rw [Nat.add_assoc] at h1
        rw [h1] at h2
        rw [List.getElem?_eq_getElem hn, List.getElem?_eq_getElem hjl, h2]
      · rename_i hj
        rw [List.getElem?_eq_none (by rw [ok.len hR]; omega)]
    rw [this]
    exact hR

/-- The slice value v, which the call itself made (blocks from base on), holds xs. -/
def OwnS {α : Type} (R : Rep α) (sz base : Nat) (e : TypeId) (F : Foot) (w : World) (v : Value) (xs : List α) : Prop :=
  ∃ cells, w.ownsRow base e sz v xs.length cells ∧ (∀ u ∈ cells, u.oneCell' = true) ∧ ∀ i x, xs[i]? = some x → R F w (chunk sz i cells) x

section
variable {α : Type} {R : Rep α} {sz base : Nat} {e : TypeId} {F : Foot} {w w' : World} {v : Value} {xs : List α}

theorem OwnS.nil (R : Rep α) (sz base : Nat) (e : TypeId) (F : Foot) (w : World) : OwnS R sz base e F w (.slice none 0 0) [] :=
  ⟨[], World.ownsRow_nil w base e sz, by simp, by simp⟩

theorem chunk_app_left {cells news : List Value} {i n : Nat} (hl : cells.length = n * sz) (hi : i < n) : chunk sz i (cells ++ news) = chunk sz i cells := by
  have hle : i * sz + sz ≤ n * sz := by
    have := Nat.mul_le_mul_right sz (Nat.succ_le_of_lt hi)
    rw [Nat.succ_mul] at this
    exact this
  unfold chunk
  rw [List.drop_append_of_le_length (by omega), List.take_append_of_le_length (by rw [List.length_drop]; omega)]

theorem chunk_app_right {cells news : List Value} {i n : Nat} (hl : cells.length = n * sz) (hi : n ≤ i) : chunk sz i (cells ++ news) = chunk sz (i - n) news := by
  have hle := Nat.mul_le_mul_right sz hi
  unfold chunk
  rw [List.drop_append, List.drop_eq_nil_of_le (by omega), List.nil_append, hl, Nat.sub_mul]

/-- What an append of ys leaves. -/
theorem OwnS.app {cells news : List Value} {ys : List α} {v' : Value} (hx : xs.length * sz = cells.length) (ho : w'.ownsRow base e sz v' (xs.length + ys.length) (cells ++ news))
    (h1 : ∀ u ∈ cells, u.oneCell' = true) (h2 : ∀ u ∈ news, u.oneCell' = true)
    (hc : ∀ i x, xs[i]? = some x → R F w' (chunk sz i cells) x) (hn : ∀ i x, ys[i]? = some x → R F w' (chunk sz i news) x) : OwnS R sz base e F w' v' (xs ++ ys) := by
  refine ⟨cells ++ news, by rw [List.length_append]; exact ho, ?_, ?_⟩
  · intro u hu
    rcases List.mem_append.1 hu with h | h
    · exact h1 u h
    · exact h2 u h
  · intro i x hxx
    rcases Nat.lt_or_ge i xs.length with hi | hi
    · rw [List.getElem?_append_left hi] at hxx
      rw [chunk_app_left hx.symm hi]
      exact hc i x hxx
    · rw [List.getElem?_append_right hi] at hxx
      rw [chunk_app_right hx.symm hi]
      exact hn _ x hxx

theorem OwnS.block (h : OwnS R sz base e F w v xs) : ∀ g, v.ownBlock = some g → base ≤ g ∧ g < w.heap.size := by
  obtain ⟨cells, ho, _⟩ := h
  exact ho.lt

/-- What is owned stays owned while other blocks turn. -/
theorem OwnS.keep (ok : RepOk R sz) (h : OwnS R sz base e F w v xs) (hb : ∀ g, v.ownBlock = some g → w'.heap[g]? = w.heap[g]?) (hs : SameOn F w w') : OwnS R sz base e F w' v xs := by
  obtain ⟨cells, ho, h1, hc⟩ := h
  refine ⟨cells, ⟨ho.1, ?_⟩, h1, fun i x hx => ok.keep (hc i x hx) hs⟩
  rcases ho.2 with hn | ⟨g, cap, cur, rfl, hg, hh, rest⟩
  · exact .inl hn
  · exact .inr ⟨g, cap, cur, rfl, hg, by rw [hb g rfl]; exact hh, rest⟩
theorem OwnS.below (ok : RepOk R sz) (h : OwnS R sz base e F w v xs) (hb : Below w.heap.size w w') : OwnS R sz base e F w' v xs :=
  h.keep ok (fun g hg => hb.block g (h.block g hg).2) (SameOn.of_below hb)

theorem OwnS.rebase {base' : Nat} (h : OwnS R sz base e F w v xs) (hb : base' ≤ base) : OwnS R sz base' e F w v xs := by
  obtain ⟨cells, ho, h1, hc⟩ := h
  refine ⟨cells, ⟨ho.1, ?_⟩, h1, hc⟩
  rcases ho.2 with hn | ⟨g, cap, cur, rfl, hg, rest⟩
  · exact .inl hn
  · exact .inr ⟨g, cap, cur, rfl, by omega, rest⟩
theorem OwnS.new (ok : RepOk R sz) (h : OwnS R sz base e F w v xs) (o : Obj) : OwnS R sz base e F (w.alloc o) v xs := h.below ok (bnew (Below.refl _ _) o)
theorem OwnS.draw (ok : RepOk R sz) (h : OwnS R sz base e F w v xs) : OwnS R sz base e F w.drew v xs := h.keep ok (fun _ _ => rfl) fun _ _ _ => rfl
/-- As a slice. -/
theorem OwnS.slice (ok : RepOk R sz) (h : OwnS R sz base e F w v xs) : ∃ oa c, v = .slice oa xs.length c ∧ xs.length ≤ c ∧ SliceR R sz (fun k => F k ∨ base ≤ k) w oa xs := by
  obtain ⟨cells, ho, h1, hc⟩ := h
  rcases ho.2 with ⟨rfl, hn⟩ | ⟨g, cap, cur, rfl, hg, hh, hle, _, hcs, htake⟩
  · have : xs = [] := List.eq_nil_of_length_eq_zero hn
    subst this
    exact ⟨none, 0, rfl, by simp, SliceR.nil _ _ _ _ _⟩
  · refine ⟨_, cap, rfl, hle, fun i x hx => ⟨g, 0, chunk sz i cells, rfl, .inr hg, ok.wide (hc i x hx) fun _ h _ => .inl h, fun j u hu => ?_⟩⟩
    obtain ⟨hj, hu⟩ := chunk_get hu
    have hi : i < xs.length := (List.getElem?_eq_some_iff.1 hx).1
    rw [cell_of_row w g _ cur e (0, 0) hh]
    rw [← htake, List.getElem?_take] at hu
    split at hu
    · rw [show 0 + i * sz + j = i * sz + j from by omega]
      simpa using hu
    · cases hu
end

/-- The arm for 'out = append(out, src...)'. -/
theorem wpList_append_rep {α : Type} {R : Rep α} {P : Program} {w : World} {ops : Array Oper} {rest : List Oper} {o : Oper} {a : Act} {Q : Exit → Act → World → Prop} (hgd : o.guard = none) (s x : Operand) (t : TypeId)
    (ho : o.op = .call { callee := .builtin .append, args := #[s, x], argTypes := #[t, t] })
    (base : Nat) (e : TypeId) (z : Value) (size bytes : Nat) (ht : P.underlying t = some (.slice e)) (hinfo : (P.info? e).map (fun i => (i.zero, i.size, i.bytes)) = some (some z, size, bytes))
    (hzs : z.cells.size = size) (hsz : 0 < size) (ok : RepOk R size)
    (F G : Foot) (v : Value) (xs : List α) (hs : a.eval s = v) (hown : OwnS R size base e F w v xs)
    (oa : Option Addr) (c : Nat) (ys : List α) (hx : a.eval x = .slice oa ys.length c) (hsrc : SliceR R size G w oa ys) (hW : ∀ cs x, R G w cs x → R F w cs x) (hF : ∀ k, F k → k < base)
    (hbytes : (xs.length + ys.length) * bytes ≤ 140737488355328) (hm : xs.length + ys.length ≤ 9223372036854775807) (hbase : base ≤ w.heap.size)
    (h : ∀ v' w', OwnS R size base e F w' v' (xs ++ ys) → Below base w w' → w.grownBy w' v.ownBlock → wpList P ops Q rest (a.put o.dst v') w') : wpList P ops Q (o :: rest) a w := by
  obtain ⟨i0, hi, hz0, hz1, hz2⟩ := info_parts hinfo
  obtain ⟨cells, hown0, h1, hc⟩ := hown
  obtain ⟨news, hn1, hn2, hn3, hn4⟩ := hsrc.cells ok
  refine wpList_append_src w hgd s x t ho base e i0 z size bytes ht hi hz0 hz1 hz2 hzs hsz v xs.length cells hs hown0 oa ys.length c news hx hn1 hn2 hn3 (by unfold maxLen; omega) hbytes hbase fun v' w' ho' hg => ?_
  have hb : Below base w w' := (Below.refl base w).grown hg hbase fun k hk => (hown0.lt k hk).1
  have hsame : SameOn F w w' := fun k hk _ => hb.block k (hF k hk)
  refine h v' w' (OwnS.app hown0.1.symm ho' h1 hn3 (fun i x hx => ok.keep (hc i x hx) hsame) (fun i x hx => ok.keep (hW _ _ (hn4 i x hx)) hsame)) hb hg

end Go.Proofs.YtpgopmmobbemcaaGreat

set_option linter.unusedVariables false
namespace Go.Proofs.YtpgopmmobbemcaaGreat
open Go.RowKit

theorem flatten_get {sz : Nat} : ∀ {css : List (List Value)}, (∀ cs ∈ css, cs.length = sz) → ∀ {i : Nat} {cs : List Value}, css[i]? = some cs → ∀ {j : Nat} {u : Value}, cs[j]? = some u → css.flatten[i * sz + j]? = some u
  | [], _, i, cs, h, _, _, _ => by simp at h
  | c :: r, hl, 0, cs, h, j, u, hj => by
    simp at h
    subst h
    have h1 : j < c.length := (List.getElem?_eq_some_iff.1 hj).1
    rw [List.flatten_cons, Nat.zero_mul, Nat.zero_add, List.getElem?_append_left h1]
    exact hj
  | c :: r, hl, i + 1, cs, h, j, u, hj => by
    have h1 := hl c (by simp)
    have h2 := flatten_get (css := r) (fun x hx => hl x (by simp [hx])) (i := i) (cs := cs) (by simpa using h) hj
    rw [List.flatten_cons, List.getElem?_append_right (by rw [h1, Nat.succ_mul]; omega), h1]
    rw [show (i + 1) * sz + j - sz = i * sz + j from by rw [Nat.succ_mul]; omega]
    exact h2

theorem SliceR.lit {α : Type} {R : Rep α} {sz : Nat} {F G : Foot} (ok : RepOk R sz) (w : World) (e : TypeId) (css : List (List Value)) (xs : List α)
    (h : ∀ (i : Nat) (x : α), xs[i]? = some x → ∃ cs, css[i]? = some cs ∧ R F w cs x) (hl : css.length = xs.length) (hFG : ∀ k, F k → G k) (hG : G w.heap.size) :
    SliceR R sz G (w.alloc (.cells css.flatten.toArray e)) (some ⟨w.heap.size, 0, none⟩) xs := by
  have hlen : ∀ cs ∈ css, cs.length = sz := by
    intro cs hcs
    obtain ⟨i, hi, rfl⟩ := List.getElem_of_mem hcs
    obtain ⟨cs, hc, hR⟩ := h i _ (List.getElem?_eq_getElem (by omega))
    rw [List.getElem?_eq_getElem hi] at hc
    injection hc with hc
    rw [hc]
    exact ok.len hR
  intro i x hx
  obtain ⟨cs, hcs, hR⟩ := h i x hx
  refine ⟨w.heap.size, 0, cs, rfl, hG, ok.keep (ok.wide hR fun k hk _ => hFG k hk) (SameOn.of_below (bnew (Below.refl _ _) _)), fun j u hu => ?_⟩
  rw [cell_of_row (w.alloc (.cells css.flatten.toArray e)) w.heap.size _ _ e (0, 0) (heap_alloc_new w _)]
  have := flatten_get hlen hcs hu
  rw [show 0 + i * sz + j = i * sz + j from by omega]
  simpa using this

theorem ints_lit {F G : Foot} (w : World) (e : TypeId) (xs : List Int) (h : ∀ x ∈ xs, I64 x) (hG : G w.heap.size) : SliceR intR 1 G (w.alloc (.cells (xs.map (Value.int .i64)).toArray e)) (some ⟨w.heap.size, 0, none⟩) xs := by
  have h1 : xs.map (Value.int .i64) = (xs.map fun x => [Value.int .i64 x]).flatten := by
    induction xs with
    | nil => rfl
    | cons x r ih => simp [ih fun y hy => h y (by simp [hy])]
  rw [h1]
  refine SliceR.lit (F := fun _ => False) intR_ok w e _ xs (fun i x hx => ⟨[.int .i64 x], by simp [hx], rfl, h x (List.mem_of_getElem? hx)⟩) (by simp) (fun _ h => h.elim) hG

/-- The list of ints that a literal lays, as the call's own. -/
theorem OwnS.ints (w : World) (e : TypeId) (xs : List Int) (h : ∀ x ∈ xs, I64 x) (hl : xs.length ≤ 1000000000000) :
    OwnS intR 1 w.heap.size e Non (w.alloc (.cells (xs.map (Value.int .i64)).toArray e)) (.slice (some ⟨w.heap.size, 0, none⟩) xs.length xs.length) xs := by
  have h1 := World.ownsRow_lit (base := w.heap.size) (e := e) (size := 1) w (xs.map (Value.int .i64)).toArray xs.length (Nat.le_refl _) (by unfold maxLen; omega) (by simp)
  refine ⟨xs.map (Value.int .i64), by simpa using h1, ?_, ?_⟩
  · intro u hu
    obtain ⟨x, _, rfl⟩ := List.mem_map.1 hu
    rfl
  · intro i x hx
    refine ⟨?_, h x (List.mem_of_getElem? hx)⟩
    apply List.ext_getElem?
    intro j
    unfold chunk
    rw [List.getElem?_take]
    split
    · have : j = 0 := by omega
      subst this
      simp [hx]
    · rw [List.getElem?_eq_none (by simp; omega)]

end Go.Proofs.YtpgopmmobbemcaaGreat

set_option linter.unusedVariables false
set_option linter.unusedSimpArgs false
namespace Go.Proofs.YtpgopmmobbemcaaGreat
open Go.RowKit

def Box (w : World) (B : Nat) (cs : List Value) (t : TypeId) : Prop := w.heap[B]? = some (.cells cs.toArray t (0, 0))
theorem cell_next {w : World} {a : Addr} {v : Value} (h : w.cell? a = some v) (o : Obj) : (w.alloc o).cell? a = some v := (World.cell?_alloc_lt w o a (World.block_lt_of_cell? _ _ h)).trans h
section
variable {w w' : World} {B : Nat} {cs : List Value} {t : TypeId}
theorem Box.lt (h : Box w B cs t) : B < w.heap.size := (Array.getElem?_eq_some_iff.1 h).1
theorem Box.cell (h : Box w B cs t) (i : Nat) : w.cell? ⟨B, i, none⟩ = cs[i]? := by
  rw [cell_of_row w B i _ t (0, 0) h]
  simp
theorem Box.free (h : Box w B cs t) (i : Nat) : w.frozen? ⟨B, i, none⟩ = false := frozen_of_row w B i _ _ h
theorem Box.keep (h : Box w B cs t) (hb : w'.heap[B]? = w.heap[B]?) : Box w' B cs t := hb.trans h
theorem Box.below (h : Box w B cs t) (hb : Below w.heap.size w w') : Box w' B cs t := h.keep (hb.block B h.lt)
theorem Box.under {n : Nat} (h : Box w B cs t) (hb : Below n w w') (hn : B < n) : Box w' B cs t := h.keep (hb.block B hn)
theorem Box.next (h : Box w B cs t) (o : Obj) : Box (w.alloc o) B cs t := h.below (bnew (Below.refl _ _) o)
theorem Box.draw (h : Box w B cs t) : Box w.drew B cs t := h
theorem Box.new (w : World) (cs : List Value) (t : TypeId) : Box (w.alloc (.cells cs.toArray t)) w.heap.size cs t := heap_alloc_new w _
theorem Box.put (h : Box w B cs t) (i : Nat) (v : Value) : Box (w.setCell ⟨B, i, none⟩ v) B (cs.set i v) t := by
  unfold Box at h ⊢
  simp [World.setCell, Array.getElem?_modify, h]
theorem Box.other (h : Box w B cs t) {p : Addr} (hp : B ≠ p.block) (u : Value) : Box (w.setCell p u) B cs t := h.keep (Below.heap_setCell w p u B hp)
theorem Box.grown {o : Option Nat} (h : Box w B cs t) (hg : w.grownBy w' o) (hne : some B ≠ o) : Box w' B cs t := h.keep (hg.block B h.lt hne)
end

end Go.Proofs.YtpgopmmobbemcaaGreat

set_option linter.unusedVariables false
set_option linter.unusedSimpArgs false
namespace Go.Proofs.YtpgopmmobbemcaaGreat
open Go.RowKit

theorem cmpC_any (x y : Int) (w : World) : Calls Tryz.prog 124 #[.int .i64 x, .int .i64 y] w fun e w' => e = .returned (.int .i64 (cmpI x y)) ∧ w = w' := by
  have h1 : (x != x) = false := by simp
  have h2 : (y != y) = false := by simp
  by_cases h : x < y
  · have HR : Hid (cmpI x y = -1) := by show _ = _; simp [cmpI, h]
    go_enter Tryz.func124, Tryz.ntmps124
    go_wp2
    go_ret
    exact ⟨ret_int HR.out.symm, rfl⟩
  · by_cases h' : y < x
    · have HR : Hid (cmpI x y = 1) := by show _ = _; simp [cmpI, h, h']
      go_enter Tryz.func124, Tryz.ntmps124
      go_wp2
      go_ret
      exact ⟨ret_int HR.out.symm, rfl⟩
    · have HR : Hid (cmpI x y = 0) := by show _ = _; simp [cmpI, h, h']
      go_enter Tryz.func124, Tryz.ntmps124
      go_wp2
      go_ret
      exact ⟨ret_int HR.out.symm, rfl⟩

def orI (x y : Int) : Int := if x = 0 then y else x
theorem orI_zero {x y : Int} (h : x = 0) : orI x y = y := if_pos h
theorem orI_ne {x y : Int} (h : ¬ x = 0) : orI x y = x := if_neg h
theorem or2_any (x y : Int) (b : Nat) (w : World) (c0 : w.cell? ⟨b, 0, none⟩ = some (.int .i64 x)) (c1 : w.cell? ⟨b, 1, none⟩ = some (.int .i64 y)) :
    Calls Tryz.prog 157 #[.slice (some ⟨b, 0, none⟩) 2 2] w fun e w' => e = .returned (.int .i64 (orI x y)) ∧ w = w' := by
  go_enter Tryz.func157, Tryz.ntmps157
  go_wp2_with fail
  go_loop [8] (fun i => ∃ k : Nat, k ≤ 2 ∧ i = .int .i64 k ∧ Hid (0 < k → x = 0) ∧ Hid (1 < k → y = 0)) (fun i => 2 - (intOf i).toNat)
  case atStart => exact ⟨0, by omega, rfl, fun h => by omega, fun h => by omega⟩
  case round =>
    obtain ⟨k, hk, rfl, HX, HY⟩ := hrel
    match k, hk with
    | 0, _ =>
      by_cases hx : x = 0
      · have hq : (x != 0) = false := by simp [hx]
        have HH := hide hx
        clear hx
        go_wp2_with fail
        go_round
        case rel => exact ⟨1, by omega, by go_num, fun _ => HH.out, fun h => by omega⟩
        case measure => simp [intOf]
      · have hq : (x != 0) = true := by simp [hx]
        have HH := hide hx
        clear hx
        go_wp2_with fail
        go_ret
        exact ⟨ret_int ((orI_ne HH.out).symm), rfl⟩
    | 1, _ =>
      have hx := HX.out (by omega)
      have HH := hide hx
      clear hx
      by_cases hy : y = 0
      · have hq : (y != 0) = false := by simp [hy]
        have HHY := hide hy
        clear hy
        go_wp2_with fail
        go_round
        case rel => exact ⟨2, by omega, by go_num, fun _ => HH.out, fun _ => HHY.out⟩
        case measure => simp [intOf]
      · have hq : (y != 0) = true := by simp [hy]
        have HHY := hide hy
        clear hy
        go_wp2_with fail
        go_ret
        exact ⟨ret_int ((orI_zero HH.out).symm), rfl⟩
    | 2, _ =>
      have HH := hide (HX.out (by omega))
      have HHY := hide (HY.out (by omega))
      clear HX HY
      go_wp2_with fail
      go_ret
      exact ⟨ret_int (by rw [orI_zero HH.out, HHY.out]), rfl⟩

set_option maxHeartbeats 1000000 in
theorem pcmp_any (a b c d : Int) (w : World) :
    Calls Tryz.prog 137 #[.agg #[.int .i64 a, .int .i64 b], .agg #[.int .i64 c, .int .i64 d]] w fun e w' => e = .returned (.int .i64 (cmpP (a, b) (c, d))) ∧ Below w.heap.size w w' := by
  have HR : Hid (cmpP (a, b) (c, d) = orI (cmpI a c) (cmpI b d)) := rfl
  go_enter Tryz.func137, Tryz.ntmps137
  go_wp2_with fail
  have hball : Below w.heap.size w ((w.alloc (.cells #[.int .i64 a, .int .i64 b] 175)).alloc (.cells #[.int .i64 c, .int .i64 d] 175)) := ((Below.refl w.heap.size w).alloc (Nat.le_refl _) _).alloc (by simp) _
  have B1 := (Box.new w [.int .i64 a, .int .i64 b] 175).next (.cells #[.int .i64 c, .int .i64 d] 175)
  have B2 := Box.new (w.alloc (.cells #[.int .i64 a, .int .i64 b] 175)) [.int .i64 c, .int .i64 d] 175
  rw [World.size_alloc] at B2
  generalize hWW : (w.alloc (.cells #[.int .i64 a, .int .i64 b] 175)).alloc (.cells #[.int .i64 c, .int .i64 d] 175) = WW at *
  have d0 := B1.cell 0
  have d1 := B1.cell 1
  have d2 := B2.cell 0
  have d3 := B2.cell 1
  simp at d0 d1 d2 d3
  clear B1 B2
  go_region_held3 (fun w' => w'.cell? ⟨w.heap.size, 0, none⟩ = some (.int .i64 a) ∧ w'.cell? ⟨w.heap.size, 1, none⟩ = some (.int .i64 b) ∧ w'.cell? ⟨w.heap.size + 1, 0, none⟩ = some (.int .i64 c) ∧ w'.cell? ⟨w.heap.size + 1, 1, none⟩ = some (.int .i64 d)) (first | exact ⟨d0, d1, d2, d3⟩ | exact ⟨cell_next d0 _, cell_next d1 _, cell_next d2 _, cell_next d3 _⟩)
    (first
      | (go_at_call 124; refine (cmpC_any _ _ _).mono ?_; rintro e w4 ⟨rfl, rfl⟩)
      | (go_at_call 157; refine (or2_any (cmpI a c) (cmpI b d) _ _ (by simp) (by simp)).mono ?_; rintro e w4 ⟨rfl, rfl⟩))
  all_goals
    go_wp2_with fail
    go_ret
    exact ⟨ret_int HR.out.symm, bnew hball.drew _⟩

theorem gvertex_any (n v : Int) (w : World) : Calls Tryz.prog 136 #[.int .i64 n, .int .i64 v] w fun e w' => e = .returned (.bool (vtxB n v)) ∧ w = w' := by
  by_cases h1 : 0 ≤ v
  · by_cases h2 : v < n
    · have HR : Hid (vtxB n v = true) := by show _ = _; simp [vtxB, h1, h2]
      go_enter Tryz.func136, Tryz.ntmps136
      go_wp2
      go_ret
      exact ⟨ret_bool HR.out.symm, rfl⟩
    · have HR : Hid (vtxB n v = false) := by show _ = _; simp [vtxB, h2]
      go_enter Tryz.func136, Tryz.ntmps136
      go_wp2
      go_ret
      exact ⟨ret_bool HR.out.symm, rfl⟩
  · have HR : Hid (vtxB n v = false) := by show _ = _; simp [vtxB, h1]
    have h2 : decide (0 ≤ v) = false := by simp [h1]
    go_enter Tryz.func136, Tryz.ntmps136
    go_wp2
    go_ret
    exact ⟨ret_bool HR.out.symm, rfl⟩
theorem rvertex_any (n v : Int) (oe : Option Addr) (k c : Nat) (w : World) : Calls Tryz.prog 75 #[.agg #[.int .i64 n, .slice oe k c], .int .i64 v] w fun e w' => e = .returned (.bool (vtxB n v)) ∧ Below w.heap.size w w' := by
  by_cases h1 : 0 ≤ v
  · by_cases h2 : v < n
    · have HR : Hid (vtxB n v = true) := by show _ = _; simp [vtxB, h1, h2]
      go_enter Tryz.func75, Tryz.ntmps75
      go_wp2
      go_ret
      exact ⟨ret_bool HR.out.symm, bnew (Below.refl _ _) _⟩
    · have HR : Hid (vtxB n v = false) := by show _ = _; simp [vtxB, h2]
      go_enter Tryz.func75, Tryz.ntmps75
      go_wp2
      go_ret
      exact ⟨ret_bool HR.out.symm, bnew (Below.refl _ _) _⟩
  · have HR : Hid (vtxB n v = false) := by show _ = _; simp [vtxB, h1]
    have h2 : decide (0 ≤ v) = false := by simp [h1]
    go_enter Tryz.func75, Tryz.ntmps75
    go_wp2
    go_ret
    exact ⟨ret_bool HR.out.symm, bnew (Below.refl _ _) _⟩

end Go.Proofs.YtpgopmmobbemcaaGreat

set_option linter.unusedVariables false
set_option linter.unusedSimpArgs false
namespace Go.Proofs.YtpgopmmobbemcaaGreat
open Go.RowKit

theorem edges_bad2 {n a b m : Int} {last : Int × Int} {r : List Edg} (h : ¬ (vtxB n a = true ∧ vtxB n b = true ∧ 1 ≤ m ∧ m ≤ 50)) : edgesErr n last (⟨a, b, m⟩ :: r) = 2 := by
  have h1 : edgeErr n last ⟨a, b, m⟩ = 2 := by
    unfold edgeErr
    rw [if_neg]
    simp only [Bool.and_eq_true, decide_eq_true_eq]
    intro h2; exact h ⟨h2.1.1.1, h2.1.1.2, h2.1.2, h2.2⟩
  simp [edgesErr, h1]
theorem edges_bad9 {n a b m : Int} {last : Int × Int} {r : List Edg} (h : vtxB n a = true ∧ vtxB n b = true ∧ 1 ≤ m ∧ m ≤ 50) (h2 : ¬ (a ≤ b ∧ cmpP last (a, b) < 0)) : edgesErr n last (⟨a, b, m⟩ :: r) = 9 := by
  have h1 : edgeErr n last ⟨a, b, m⟩ = 9 := by
    unfold edgeErr
    rw [if_pos, if_neg]
    · simp only [Bool.and_eq_true, decide_eq_true_eq]
      exact h2
    · simp only [Bool.and_eq_true, decide_eq_true_eq]
      exact ⟨⟨⟨h.1, h.2.1⟩, h.2.2.1⟩, h.2.2.2⟩
  simp [edgesErr, h1]
theorem edges_good {n a b m : Int} {last : Int × Int} {r : List Edg} (h : vtxB n a = true ∧ vtxB n b = true ∧ 1 ≤ m ∧ m ≤ 50) (h2 : a ≤ b ∧ cmpP last (a, b) < 0) : edgesErr n last (⟨a, b, m⟩ :: r) = edgesErr n (a, b) r := by
  have h1 : edgeErr n last ⟨a, b, m⟩ = 0 := by
    unfold edgeErr
    rw [if_pos, if_pos]
    · simp only [Bool.and_eq_true, decide_eq_true_eq]
      exact h2
    · simp only [Bool.and_eq_true, decide_eq_true_eq]
      exact ⟨⟨⟨h.1, h.2.1⟩, h.2.2.1⟩, h.2.2.2⟩
  simp [edgesErr, h1]

def ErrPost (w : World) (x : Int) (e : Ending) (w' : World) : Prop := e = .returned (.int .i64 x) ∧ Below w.heap.size w w'

set_option maxRecDepth 100000 in
set_option maxHeartbeats 4000000 in
theorem gcheck_any (n : Int) (es : List Edg) (oe : Option Addr) (c : Nat) (F : Foot) (w : World) (hs : SliceR edgR 3 F w oe es) (hc : es.length ≤ c) (hc2 : es.length ≤ 9223372036854775807) :
    Calls Tryz.prog 110 #[.agg #[.int .i64 n, .slice oe es.length c]] w (ErrPost w (gErr n es)) := by
  by_cases hn1 : n < 1
  · have HR : Hid (gErr n es = 2) := if_pos (.inl hn1)
    go_enter Tryz.func110, Tryz.ntmps110
    go_wp2_with fail
    go_ret
    exact ⟨ret_int HR.out.symm, bnew (Below.refl _ _) _⟩
  by_cases hn2 : 12 < n
  · have HR : Hid (gErr n es = 2) := if_pos (.inr hn2)
    go_enter Tryz.func110, Tryz.ntmps110
    go_wp2_with fail
    go_ret
    exact ⟨ret_int HR.out.symm, bnew (Below.refl _ _) _⟩
  have HR : Hid (gErr n es = edgesErr n (-1, -1) es) := if_neg (by omega)
  have hnb1 : 1 ≤ n := by omega
  have hnb2 : n ≤ 12 := by omega
  clear hn1 hn2
  go_enter Tryz.func110, Tryz.ntmps110
  go_wp2_with fail
  have hb0 := box_new (box_refl w (.cells #[.int .i64 n, .slice oe es.length c] 24)) (by simp) (.cells #[.int .i64 (-1), .int .i64 (-1)] 175)
  have hl0 := Box.new (w.alloc (.cells #[.int .i64 n, .slice oe es.length c] 24)) [.int .i64 (-1), .int .i64 (-1)] 175
  rw [World.size_alloc] at hl0
  go_loopw [19] (fun iv wr => ∃ (k : Nat) (la lb : Int), k ≤ es.length ∧ iv = .int .i64 k ∧ Hid (edgesErr n (-1, -1) es = edgesErr n (la, lb) (es.drop k)) ∧ Box wr (w.heap.size + 1) [.int .i64 la, .int .i64 lb] 175 ∧
     Below (w.heap.size + 1) (w.alloc (.cells #[.int .i64 n, .slice oe es.length c] 24)) wr) (fun i _ => es.length - (intOf i).toNat)
  case atStart => exact ⟨0, -1, -1, by omega, rfl, rfl, hl0, hb0⟩
  case round =>
    obtain ⟨k, la, lb, hk, rfl, HE, hl, hb⟩ := hrel
    have d0 := box_cell hb 0
    have d1 := box_cell hb 1
    have l0 := hl.cell 0
    have l1 := hl.cell 1
    simp at d0 d1 l0 l1
    have lf0 := hl.free 0
    have lf1 := hl.free 1
    have hsz := box_lt hb
    have hsz2 := hl.lt
    by_cases hlt : k < es.length
    · obtain ⟨a, b, m, hd, _, _, _, _, bl, off, rfl, _, c0, c1, c2⟩ := (hs.below edgR_ok (below_box hb)).edg_at hlt
      have hl1 := (hl.next (.cells #[.int .i64 a, .int .i64 b, .int .i64 m] 123)).next (.cells #[.int .i64 a, .int .i64 b] 175)
      rw [hd] at HE
      clear hd hs hl
      by_cases hg : vtxB n a = true ∧ vtxB n b = true ∧ 1 ≤ m ∧ m ≤ 50
      case neg =>
        have HX : Hid (gErr n es = 2) := by show _ = _; rw [HR.out, HE.out, edges_bad2 hg]
        clear HE
        have ways : vtxB n a = false ∨ (vtxB n a = true ∧ vtxB n b = false) ∨ (vtxB n a = true ∧ vtxB n b = true ∧ m < 1) ∨ (vtxB n a = true ∧ vtxB n b = true ∧ 1 ≤ m ∧ 50 < m) := by
          cases hva : vtxB n a
          · exact .inl rfl
          · cases hvb : vtxB n b
            · exact .inr (.inl ⟨rfl, rfl⟩)
            · by_cases h1 : m < 1
              · exact .inr (.inr (.inl ⟨rfl, rfl, h1⟩))
              · by_cases h2 : 50 < m
                · exact .inr (.inr (.inr ⟨rfl, rfl, by omega, h2⟩))
                · exact absurd ⟨hva, hvb, by omega, by omega⟩ hg
        clear hg
        rcases ways with h1 | ⟨h1, h2⟩ | ⟨h1, h2, h3⟩ | ⟨h1, h2, h3, h4⟩
        all_goals
          go_wp2_with (go_at_call 136; refine (gvertex_any _ _ _).mono ?_; rintro e w' ⟨rfl, rfl⟩)
          go_ret
          exact ⟨ret_int HX.out.symm, below_box (box_new (box_new hb (by simp) _) (by simp) _)⟩
      case pos =>
        by_cases ho : a ≤ b ∧ cmpP (la, lb) (a, b) < 0
        case neg =>
          have HX : Hid (gErr n es = 9) := by show _ = _; rw [HR.out, HE.out, edges_bad9 hg ho]
          clear HE
          obtain ⟨h1, h2, h3, h4⟩ := hg
          by_cases hab : b < a
          · clear ho
            go_wp2_with (go_at_call 136; refine (gvertex_any _ _ _).mono ?_; rintro e w' ⟨rfl, rfl⟩)
            go_ret
            exact ⟨ret_int HX.out.symm, below_box (box_new (box_new hb (by simp) _) (by simp) _)⟩
          · have hcc : 0 ≤ cmpP (la, lb) (a, b) := by omega
            have hab' : a ≤ b := by omega
            clear ho hab
            go_wp2_with (first
              | (go_at_call 136; refine (gvertex_any _ _ _).mono ?_; rintro e w' ⟨rfl, rfl⟩)
              | (go_at_call 137; refine (pcmp_any _ _ _ _ _).mono ?_; rintro e w4 ⟨rfl, hb4⟩))
            go_ret
            exact ⟨ret_int HX.out.symm, below_box (box_then (box_new (box_new hb (by simp) _) (by simp) _) (by simp) hb4)⟩
        case pos =>
          have HX := hide (HE.out.trans (edges_good hg ho))
          clear HE
          obtain ⟨h1, h2, h3, h4⟩ := hg
          obtain ⟨hab, hcc⟩ := ho
          have hcc2 : decide (0 ≤ cmpP (la, lb) (a, b)) = false := by simp; omega
          go_wp2_with (go_at_call 136; refine (gvertex_any _ _ _).mono ?_; rintro e w' ⟨rfl, rfl⟩)
          refine (pcmp_any _ _ _ _ _).mono ?_
          rintro e w4 ⟨rfl, hb4⟩
          have hp4 := (Box.new (wr.alloc (.cells #[.int .i64 a, .int .i64 b, .int .i64 m] 123)) [.int .i64 a, .int .i64 b] 175).below hb4
          rw [World.size_alloc] at hp4
          have hl4 := hl1.below hb4
          have hx4 := box_then (box_new (box_new hb (by simp) (.cells #[.int .i64 a, .int .i64 b, .int .i64 m] 123)) (by simp) (.cells #[.int .i64 a, .int .i64 b] 175)) (by simp) hb4
          have hsz4 := hl4.lt
          have q0 := hl4.cell 0
          have q1 := hl4.cell 1
          have qf0 := hl4.free 0
          have qf1 := hl4.free 1
          have p0 := hp4.cell 0
          have p1 := hp4.cell 1
          simp at q0 q1 p0 p1
          have hl5 := (hl4.put 0 (.int .i64 a)).put 1 (.int .i64 b)
          simp only [List.set_cons_zero, List.set_cons_succ] at hl5
          clear hl4 hp4 hb4 hl1
          go_wp2_with fail
          go_roundw
          case rel => exact ⟨k + 1, a, b, by omega, by go_num, HX, hl5, (hx4.setCell (p := ⟨w.heap.size + 1, 0, none⟩) (Nat.le_refl _) _).setCell (p := ⟨w.heap.size + 1, 1, none⟩) (Nat.le_refl _) _⟩
          case measure => simp [intOf]; omega
    · have HX : Hid (gErr n es = 0) := by show _ = _; rw [HR.out, HE.out, List.drop_eq_nil_of_le (by omega)]; rfl
      go_wp2_with fail
      go_ret
      exact ⟨ret_int HX.out.symm, below_box hb⟩

end Go.Proofs.YtpgopmmobbemcaaGreat

set_option linter.unusedVariables false
set_option linter.unusedSimpArgs false
namespace Go.Proofs.YtpgopmmobbemcaaGreat
open Go.RowKit

/-- The edge behind another one. -/
def edgeAt (n : Int) (es : List Edg) (k : Nat) : Int := edgeErr n (if k = 0 then (-1, -1) else ((es.getD (k - 1) ⟨0, 0, 0⟩).a, (es.getD (k - 1) ⟨0, 0, 0⟩).b)) (es.getD k ⟨0, 0, 0⟩)

theorem edgeAt_two {n : Int} {es : List Edg} {k : Nat} {a b m : Int} (hk : es[k]? = some ⟨a, b, m⟩) (h : ¬ (vtxB n a = true ∧ vtxB n b = true ∧ 1 ≤ m ∧ m ≤ 50)) : edgeAt n es k = 2 := by
  have h0 : es.getD k ⟨0, 0, 0⟩ = ⟨a, b, m⟩ := by rw [List.getD_eq_getElem?_getD, hk]; rfl
  unfold edgeAt
  rw [h0]
  unfold edgeErr
  rw [if_neg]
  simp only [Bool.and_eq_true, decide_eq_true_eq]
  intro h2
  exact h ⟨h2.1.1.1, h2.1.1.2, h2.1.2, h2.2⟩
theorem edgeAt_ok {n : Int} {es : List Edg} {k : Nat} {a b m : Int} {last : Int × Int} (hk : es[k]? = some ⟨a, b, m⟩) (h : vtxB n a = true ∧ vtxB n b = true ∧ 1 ≤ m ∧ m ≤ 50)
    (hl : last = if k = 0 then (-1, -1) else ((es.getD (k - 1) ⟨0, 0, 0⟩).a, (es.getD (k - 1) ⟨0, 0, 0⟩).b)) : (a ≤ b ∧ cmpP last (a, b) < 0 → edgeAt n es k = 0) ∧ (¬ (a ≤ b ∧ cmpP last (a, b) < 0) → edgeAt n es k = 9) := by
  have h0 : es.getD k ⟨0, 0, 0⟩ = ⟨a, b, m⟩ := by rw [List.getD_eq_getElem?_getD, hk]; rfl
  unfold edgeAt
  rw [h0, ← hl]
  unfold edgeErr
  rw [if_pos (by simp only [Bool.and_eq_true, decide_eq_true_eq]; exact ⟨⟨⟨h.1, h.2.1⟩, h.2.2.1⟩, h.2.2.2⟩)]
  constructor
  · intro h2; rw [if_pos (by simp only [Bool.and_eq_true, decide_eq_true_eq]; exact h2)]
  · intro h2; rw [if_neg (by simp only [Bool.and_eq_true, decide_eq_true_eq]; exact h2)]
theorem first_ok {a b : Int} (ha : 0 ≤ a) : cmpP (-1, -1) (a, b) < 0 := cmpP_neg.2 (.inl (by simp only; omega))

theorem not_errI {a : Int} (h : a ≠ 0) : (a != 0) = true := by simp [h]
theorem is_errI {a : Int} (h : a = 0) : (a != 0) = false := by simp [h]

set_option maxRecDepth 100000 in
set_option maxHeartbeats 4000000 in
theorem redge_first {n a b m : Int} {es : List Edg} {oe : Option Addr} {c k bl off : Nat} {w : World} (hoe : oe = some ⟨bl, off, none⟩) (hc : es.length ≤ c) (hc2 : es.length ≤ 9223372036854775807) (hk : k < es.length)
    (c0 : w.cell? ⟨bl, off + k * 3, none⟩ = some (.int .i64 a)) (c1 : w.cell? ⟨bl, off + k * 3 + 1, none⟩ = some (.int .i64 b)) (c2 : w.cell? ⟨bl, off + k * 3 + 2, none⟩ = some (.int .i64 m)) (x : Int)
    (ways : (vtxB n a = false ∧ x = 2) ∨ (vtxB n a = true ∧ vtxB n b = false ∧ x = 2) ∨ (vtxB n a = true ∧ vtxB n b = true ∧ m < 1 ∧ x = 2) ∨ (vtxB n a = true ∧ vtxB n b = true ∧ 1 ≤ m ∧ 50 < m ∧ x = 2) ∨
      (vtxB n a = true ∧ vtxB n b = true ∧ 1 ≤ m ∧ m ≤ 50 ∧ b < a ∧ x = 9) ∨ (vtxB n a = true ∧ vtxB n b = true ∧ 1 ≤ m ∧ m ≤ 50 ∧ a ≤ b ∧ k = 0 ∧ x = 0)) :
    Calls Tryz.prog 132 #[.agg #[.int .i64 n, .slice oe es.length c], .int .i64 k] w (ErrPost w x) := by
  subst hoe
  have hb0 := box_refl w (.cells #[.int .i64 n, .slice (some ⟨bl, off, none⟩) es.length c] 24)
  have hb1 := box_new hb0 (by simp) (.cells #[.int .i64 a, .int .i64 b, .int .i64 m] 123)
  have B1' := Box.new (w.alloc (.cells #[.int .i64 n, .slice (some ⟨bl, off, none⟩) es.length c] 24)) [.int .i64 a, .int .i64 b, .int .i64 m] 123
  rw [World.size_alloc] at B1'
  have B1 := hide B1'
  have HB1 := hide hb1
  have hbl := World.block_lt_of_cell? _ _ c0
  simp only at hbl
  clear B1' hb0 hb1
  rcases ways with ⟨h1, hx⟩ | ways
  · have HX := hide hx
    clear hx
    go_enter Tryz.func132, Tryz.ntmps132
    go_wp2_with fail
    refine (rvertex_any _ _ _ _ _ _).mono ?_
    rintro e w3 ⟨rfl, hb3⟩
    have hx3 := box_then HB1.out (by simp) hb3
    have B3 := B1.out.below hb3
    have e0 := box_cell hx3 0
    have e1 := box_cell hx3 1
    have x0 := B3.cell 0
    have x1 := B3.cell 1
    have x2 := B3.cell 2
    simp at e0 e1 x0 x1 x2
    go_wp2_with fail
    go_ret
    exact ⟨ret_int HX.out.symm, below_box hx3⟩
  rcases ways with ⟨h1, h2, hx⟩ | ⟨h1, h2, h3, hx⟩ | ⟨h1, h2, h3, h4, hx⟩ | ⟨h1, h2, h3, h4, h5, hx⟩ | ⟨h1, h2, h3, h4, h5, h6, hx⟩
  case' inr.inr.inr.inr => subst h6; simp only [Nat.zero_mul, Nat.add_zero, Int.natCast_zero] at *
  all_goals
    have HX := hide hx
    clear hx
    go_enter Tryz.func132, Tryz.ntmps132
    go_wp2_with fail
    refine (rvertex_any _ _ _ _ _ _).mono ?_
    rintro e w3 ⟨rfl, hb3⟩
    have hx3 := box_then HB1.out (by simp) hb3
    have B3 := B1.out.below hb3
    have e0 := box_cell hx3 0
    have e1 := box_cell hx3 1
    have x0 := B3.cell 0
    have x1 := B3.cell 1
    have x2 := B3.cell 2
    simp at e0 e1 x0 x1 x2
    go_wp2_with fail
    refine (rvertex_any _ _ _ _ _ _).mono ?_
    rintro e w4 ⟨rfl, hb4⟩
    have hx4 := box_then hx3 (by simp) hb4
    have B4 := B3.below hb4
    clear e0 e1 x0 x1 x2
    have e0 := box_cell hx4 0
    have e1 := box_cell hx4 1
    have x0 := B4.cell 0
    have x1 := B4.cell 1
    have x2 := B4.cell 2
    simp at e0 e1 x0 x1 x2
    go_wp2_with fail
    go_ret
    exact ⟨ret_int HX.out.symm, below_box hx4⟩

set_option maxRecDepth 100000 in
set_option maxHeartbeats 4000000 in
theorem redge_next {n a b m ya yb ym : Int} {es : List Edg} {oe : Option Addr} {c k bl off : Nat} {w : World} (hoe : oe = some ⟨bl, off, none⟩) (hc : es.length ≤ c) (hc2 : es.length ≤ 9223372036854775807) (hk : k + 1 < es.length)
    (c0 : w.cell? ⟨bl, off + (k + 1) * 3, none⟩ = some (.int .i64 a)) (c1 : w.cell? ⟨bl, off + (k + 1) * 3 + 1, none⟩ = some (.int .i64 b)) (c2 : w.cell? ⟨bl, off + (k + 1) * 3 + 2, none⟩ = some (.int .i64 m))
    (y0 : w.cell? ⟨bl, off + k * 3, none⟩ = some (.int .i64 ya)) (y1 : w.cell? ⟨bl, off + k * 3 + 1, none⟩ = some (.int .i64 yb)) (y2 : w.cell? ⟨bl, off + k * 3 + 2, none⟩ = some (.int .i64 ym)) (x : Int)
    (h1 : vtxB n a = true) (h2 : vtxB n b = true) (h3 : 1 ≤ m) (h4 : m ≤ 50) (h5 : a ≤ b)
    (ways : (a < ya ∧ x = 9) ∨ (ya ≤ a ∧ (a == ya) = true ∧ b ≤ yb ∧ x = 9) ∨ (ya ≤ a ∧ (a == ya) = true ∧ yb < b ∧ x = 0) ∨ (ya ≤ a ∧ (a == ya) = false ∧ x = 0)) :
    Calls Tryz.prog 132 #[.agg #[.int .i64 n, .slice oe es.length c], .int .i64 ((k : Int) + 1)] w (ErrPost w x) := by
  subst hoe
  have hb0 := box_refl w (.cells #[.int .i64 n, .slice (some ⟨bl, off, none⟩) es.length c] 24)
  have hb1 := box_new hb0 (by simp) (.cells #[.int .i64 a, .int .i64 b, .int .i64 m] 123)
  have B1' := Box.new (w.alloc (.cells #[.int .i64 n, .slice (some ⟨bl, off, none⟩) es.length c] 24)) [.int .i64 a, .int .i64 b, .int .i64 m] 123
  rw [World.size_alloc] at B1'
  have B1 := hide B1'
  have HB1 := hide hb1
  have hbl := World.block_lt_of_cell? _ _ c0
  simp only at hbl
  clear B1' hb0 hb1
  rcases ways with ⟨h6, hx⟩ | ⟨h6, h7, h8, hx⟩ | ⟨h6, h7, h8, hx⟩ | ⟨h6, h7, hx⟩
  all_goals
    have HX := hide hx
    clear hx
    go_enter Tryz.func132, Tryz.ntmps132
    go_wp2_with fail
    refine (rvertex_any _ _ _ _ _ _).mono ?_
    rintro e w3 ⟨rfl, hb3⟩
    have hx3 := box_then HB1.out (by simp) hb3
    have B3 := B1.out.below hb3
    have e0 := box_cell hx3 0
    have e1 := box_cell hx3 1
    have x0 := B3.cell 0
    have x1 := B3.cell 1
    have x2 := B3.cell 2
    simp at e0 e1 x0 x1 x2
    go_wp2_with fail
    refine (rvertex_any _ _ _ _ _ _).mono ?_
    rintro e w4 ⟨rfl, hb4⟩
    have hx4 := box_then hx3 (by simp) hb4
    have B4 := B3.below hb4
    have hbb := below_box hx4
    clear e0 e1 x0 x1 x2
    have e0 := box_cell hx4 0
    have e1 := box_cell hx4 1
    have x0 := B4.cell 0
    have x1 := B4.cell 1
    have x2 := B4.cell 2
    simp at e0 e1 x0 x1 x2
    have z0 := (hbb.cell (World.block_lt_of_cell? _ _ y0)).trans y0
    have z1 := (hbb.cell (World.block_lt_of_cell? _ _ y1)).trans y1
    have z2 := (hbb.cell (World.block_lt_of_cell? _ _ y2)).trans y2
    have hs4 := B4.lt
    have hs5 := hbb.size
    have hbl4 : bl < w4.heap.size := by omega
    go_wp2_with fail
    go_ret
    exact ⟨ret_int HX.out.symm, bnew hbb _⟩

theorem redge_any (n : Int) (es : List Edg) (oe : Option Addr) (c : Nat) (k : Nat) (F : Foot) (w : World) (hs : SliceR edgR 3 F w oe es) (hc : es.length ≤ c) (hc2 : es.length ≤ 9223372036854775807) (hk : k < es.length) :
    Calls Tryz.prog 132 #[.agg #[.int .i64 n, .slice oe es.length c], .int .i64 k] w (ErrPost w (edgeAt n es k)) := by
  obtain ⟨a, b, m, hd, hget, _, _, _, bl, off, rfl, _, c0, c1, c2⟩ := hs.edg_at hk
  by_cases hg : vtxB n a = true ∧ vtxB n b = true ∧ 1 ≤ m ∧ m ≤ 50
  case neg =>
    rw [edgeAt_two hget hg]
    refine redge_first rfl hc hc2 hk c0 c1 c2 2 ?_
    cases hva : vtxB n a
    · exact .inl ⟨rfl, rfl⟩
    · cases hvb : vtxB n b
      · exact .inr (.inl ⟨rfl, rfl, rfl⟩)
      · by_cases h1 : m < 1
        · exact .inr (.inr (.inl ⟨rfl, rfl, h1, rfl⟩))
        · by_cases h2 : 50 < m
          · exact .inr (.inr (.inr (.inl ⟨rfl, rfl, by omega, h2, rfl⟩)))
          · exact absurd ⟨hva, hvb, by omega, by omega⟩ hg
  case pos =>
    obtain ⟨h1, h2, h3, h4⟩ := hg
    by_cases hab : b < a
    · have := (edgeAt_ok hget ⟨h1, h2, h3, h4⟩ rfl).2 (by omega)
      rw [this]
      exact redge_first rfl hc hc2 hk c0 c1 c2 9 (.inr (.inr (.inr (.inr (.inl ⟨h1, h2, h3, h4, hab, rfl⟩)))))
    · match k, hk, hget, c0, c1, c2 with
      | 0, hk, hget, c0, c1, c2 =>
        have := (edgeAt_ok hget ⟨h1, h2, h3, h4⟩ rfl).1 ⟨by omega, first_ok (vtxB_iff.1 h1).1⟩
        rw [this]
        exact redge_first rfl hc hc2 hk c0 c1 c2 0 (.inr (.inr (.inr (.inr (.inr ⟨h1, h2, h3, h4, by omega, rfl, rfl⟩)))))
      | k + 1, hk, hget, c0, c1, c2 =>
        obtain ⟨ya, yb, ym, _, hgy, _, _, _, bl', off', he, _, y0, y1, y2⟩ := hs.edg_at (show k < es.length by omega)
        injection he with he
        injection he with e1 e2
        subst e1 e2
        have hok := edgeAt_ok (last := (ya, yb)) hget ⟨h1, h2, h3, h4⟩ (by
          rw [if_neg (by omega), Nat.add_sub_cancel, List.getD_eq_getElem?_getD, hgy]; rfl)
        rw [show ((k + 1 : Nat) : Int) = (k : Int) + 1 from by omega]
        have hcp := cmpP_neg (p := (ya, yb)) (q := (a, b))
        simp only at hcp
        by_cases e1 : a < ya
        · rw [hok.2 (by rw [hcp]; omega)]
          exact redge_next rfl hc hc2 hk c0 c1 c2 y0 y1 y2 9 h1 h2 h3 h4 (by omega) (.inl ⟨e1, rfl⟩)
        · by_cases e2 : a = ya
          · by_cases e3 : b ≤ yb
            · rw [hok.2 (by rw [hcp]; omega)]
              exact redge_next rfl hc hc2 hk c0 c1 c2 y0 y1 y2 9 h1 h2 h3 h4 (by omega) (.inr (.inl ⟨by omega, by simp [e2], e3, rfl⟩))
            · rw [hok.1 (by rw [hcp]; omega)]
              exact redge_next rfl hc hc2 hk c0 c1 c2 y0 y1 y2 0 h1 h2 h3 h4 (by omega) (.inr (.inr (.inl ⟨by omega, by simp [e2], by omega, rfl⟩)))
          · rw [hok.1 (by rw [hcp]; omega)]
            exact redge_next rfl hc hc2 hk c0 c1 c2 y0 y1 y2 0 h1 h2 h3 h4 (by omega) (.inr (.inr (.inr ⟨by omega, by simp [e2], rfl⟩)))

/-- All edges from k on. -/
def edgesFrom (n : Int) (es : List Edg) : Nat → Nat → Int
  | 0, _ => 0
  | j + 1, k => if edgeAt n es k = 0 then edgesFrom n es j (k + 1) else edgeAt n es k
theorem edgesFrom_eq (n : Int) (es : List Edg) : ∀ j k, k + j = es.length → edgesFrom n es j k = edgesErr n (if k = 0 then (-1, -1) else ((es.getD (k - 1) ⟨0, 0, 0⟩).a, (es.getD (k - 1) ⟨0, 0, 0⟩).b)) (es.drop k)
  | 0, k, h => by rw [List.drop_eq_nil_of_le (by omega)]; rfl
  | j + 1, k, h => by
    have hk : k < es.length := by omega
    rw [List.drop_eq_getElem_cons hk]
    unfold edgesFrom edgesErr
    have h0 : es.getD k ⟨0, 0, 0⟩ = es[k] := by rw [List.getD_eq_getElem?_getD, List.getElem?_eq_getElem hk]; rfl
    have h1 : edgeAt n es k = edgeErr n (if k = 0 then (-1, -1) else ((es.getD (k - 1) ⟨0, 0, 0⟩).a, (es.getD (k - 1) ⟨0, 0, 0⟩).b)) es[k] := by unfold edgeAt; rw [h0]
    rw [← h1, edgesFrom_eq n es j (k + 1) (by omega), if_neg (show ¬ k + 1 = 0 by omega), Nat.add_sub_cancel, h0]

set_option maxHeartbeats 1000000 in
theorem rgcheck_any (n : Int) (es : List Edg) (oe : Option Addr) (c : Nat) (F : Foot) (w : World) (hs : SliceR edgR 3 F w oe es) (hc : es.length ≤ c) (hc2 : es.length ≤ 9223372036854775807) :
    Calls Tryz.prog 107 #[.agg #[.int .i64 n, .slice oe es.length c]] w (ErrPost w (gErr n es)) := by
  by_cases hn1 : n < 1
  · have HR : Hid (gErr n es = 2) := if_pos (.inl hn1)
    go_enter Tryz.func107, Tryz.ntmps107
    go_wp2_with fail
    go_ret
    exact ⟨ret_int HR.out.symm, bnew (Below.refl _ _) _⟩
  by_cases hn2 : 12 < n
  · have HR : Hid (gErr n es = 2) := if_pos (.inr hn2)
    go_enter Tryz.func107, Tryz.ntmps107
    go_wp2_with fail
    go_ret
    exact ⟨ret_int HR.out.symm, bnew (Below.refl _ _) _⟩
  have HR : Hid (gErr n es = edgesFrom n es es.length 0) := by
    show _ = _
    rw [edgesFrom_eq n es es.length 0 (by omega)]
    exact if_neg (by omega)
  have hnb1 : 1 ≤ n := by omega
  have hnb2 : n ≤ 12 := by omega
  clear hn1 hn2
  go_enter Tryz.func107, Tryz.ntmps107
  go_wp2_with fail
  go_loopw [3] (fun iv wr => ∃ (k j : Nat), k + j = es.length ∧ iv = .int .i64 k ∧ Hid (gErr n es = edgesFrom n es j k) ∧
     Below (w.heap.size + 1) (w.alloc (.cells #[.int .i64 n, .slice oe es.length c] 24)) wr) (fun i _ => es.length - (intOf i).toNat)
  case atStart => exact ⟨0, es.length, by omega, rfl, HR, box_refl _ _⟩
  case round =>
    obtain ⟨k, j, hk, rfl, HE, hb⟩ := hrel
    have d0 := box_cell hb 0
    have d1 := box_cell hb 1
    simp at d0 d1
    by_cases hlt : k < es.length
    · obtain ⟨j, rfl⟩ : ∃ i, j = i + 1 := ⟨j - 1, by omega⟩
      go_wp2_with fail
      refine (redge_any n es oe c k F _ (hs.below edgR_ok (below_box hb)) hc hc2 hlt).mono ?_
      rintro e w3 ⟨rfl, hb3⟩
      by_cases hz : edgeAt n es k = 0
      · have hz1 := is_errI hz
        have HX : Hid (gErr n es = edgesFrom n es j (k + 1)) := by show _ = _; rw [HE.out, edgesFrom, if_pos hz]
        clear hz
        go_wp2_with fail
        go_roundw
        case rel => exact ⟨k + 1, j, by omega, by go_num, HX, box_then hb (by simp) hb3⟩
        case measure => simp [intOf]; omega
      · have hz1 := not_errI hz
        have HX : Hid (gErr n es = edgeAt n es k) := by show _ = _; rw [HE.out, edgesFrom, if_neg hz]
        clear hz
        go_wp2_with fail
        go_ret
        exact ⟨ret_int HX.out.symm, below_box (box_then hb (by simp) hb3)⟩
    · obtain rfl : j = 0 := by omega
      go_wp2_with fail
      go_ret
      exact ⟨ret_int HE.out.symm, below_box hb⟩

end Go.Proofs.YtpgopmmobbemcaaGreat

set_option linter.unusedVariables false
namespace Go.Proofs.YtpgopmmobbemcaaGreat
open Go.RowKit

theorem countP_lt {p q : Nat → Bool} : ∀ {l : List Nat}, (∀ x ∈ l, p x = true → q x = true) → (∃ x ∈ l, q x = true ∧ p x = false) → l.countP p < l.countP q
  | [], _, h => by obtain ⟨x, hx, _⟩ := h; cases hx
  | y :: r, h, hx => by
    obtain ⟨x, hx, h1, h2⟩ := hx
    have hle : ∀ l : List Nat, (∀ x ∈ l, p x = true → q x = true) → l.countP p ≤ l.countP q := fun l hl => List.countP_mono_left hl
    have hr := hle r fun x hx => h x (by simp [hx])
    rw [List.countP_cons, List.countP_cons]
    rcases List.mem_cons.1 hx with rfl | hx
    · simp [h1, h2]; omega
    · have ih := countP_lt (l := r) (fun x hx => h x (by simp [hx])) ⟨x, hx, h1, h2⟩
      have hy := h y (by simp)
      by_cases h3 : p y = true
      · simp [h3, hy h3]; omega
      · have h4 : p y = false := by simpa using h3
        simp [h4]
        split <;> omega

/-- Reachable from s within k steps of nx, letters below L. -/
def within (nx : Nat → Nat → Nat) (L s : Nat) : Nat → Nat → Prop
  | 0, t => t = s
  | k + 1, t => within nx L s k t ∨ ∃ u a, within nx L s k u ∧ a < L ∧ t = nx u a
def Rch (nx : Nat → Nat → Nat) (L s t : Nat) : Prop := ∃ k, within nx L s k t

section
variable {nx : Nat → Nat → Nat} {L s S : Nat}
theorem within_lt (hs : s < S) (h : ∀ u a, u < S → a < L → nx u a < S) : ∀ k t, within nx L s k t → t < S
  | 0, t, e => by cases e; exact hs
  | k + 1, t, e => by
    rcases e with e | ⟨u, a, hu, ha, rfl⟩
    · exact within_lt hs h k t e
    · exact h u a (within_lt hs h k u hu) ha
theorem within_mono {k t : Nat} (h : within nx L s k t) : ∀ j, within nx L s (k + j) t
  | 0 => h
  | j + 1 => .inl (within_mono h j)
theorem within_closed {k : Nat} (hc : ∀ t, within nx L s (k + 1) t → within nx L s k t) : ∀ j t, within nx L s (k + j) t → within nx L s k t
  | 0, t, h => h
  | j + 1, t, h => by
    rcases h with h | ⟨u, a, hu, ha, rfl⟩
    · exact within_closed hc j t h
    · exact hc _ (.inr ⟨u, a, within_closed hc j u hu, ha, rfl⟩)
open Classical in
theorem within_more (hs : s < S) (h : ∀ u a, u < S → a < L → nx u a < S) (k : Nat) (hbase : k + 1 ≤ (List.range S).countP fun t => decide (within nx L s k t)) :
    (∀ t, within nx L s (k + 1) t → within nx L s k t) ∨ k + 2 ≤ (List.range S).countP fun t => decide (within nx L s (k + 1) t) := by
  by_cases hc : ∀ t, within nx L s (k + 1) t → within nx L s k t
  · exact .inl hc
  · refine .inr ?_
    have hx : ∃ t, within nx L s (k + 1) t ∧ ¬ within nx L s k t := by
      apply Classical.byContradiction
      intro hn
      exact hc fun t ht => Classical.byContradiction fun h2 => hn ⟨t, ht, h2⟩
    obtain ⟨t, h1, h2⟩ := hx
    have hlt := countP_lt (l := List.range S) (p := fun t => decide (within nx L s k t)) (q := fun t => decide (within nx L s (k + 1) t))
      (fun x _ hp => by simp at hp ⊢; exact .inl hp) ⟨t, by simp; exact within_lt hs h _ _ h1, by simp [h1], by simp [h2]⟩
    omega
open Classical in
theorem within_count (hs : s < S) (h : ∀ u a, u < S → a < L → nx u a < S) (k : Nat) : (∀ t, within nx L s (k + 1) t → within nx L s k t) ∨ k + 2 ≤ (List.range S).countP fun t => decide (within nx L s (k + 1) t) := by
  induction k with
  | zero =>
    refine within_more hs h 0 ?_
    have : 0 < (List.range S).countP fun t => decide (within nx L s 0 t) := List.countP_pos_iff.2 ⟨s, by simp [hs], by simp [within]⟩
    omega
  | succ k ih =>
    rcases ih with hcl | hcl
    · exact .inl fun t ht => Or.inl (within_closed hcl 2 t ht)
    · exact within_more hs h (k + 1) hcl
/-- After S steps all is reached. -/
theorem rch_within (hs : s < S) (h : ∀ u a, u < S → a < L → nx u a < S) (t : Nat) : Rch nx L s t ↔ within nx L s S t := by
  refine ⟨fun ⟨k, hk⟩ => ?_, fun h => ⟨S, h⟩⟩
  have hcl : ∀ t, within nx L s (S + 1) t → within nx L s S t := by
    rcases within_count hs h S with hc | hc
    · exact hc
    · exfalso
      have := List.countP_le_length (p := fun t => Classical.propDecidable (within nx L s (S + 1) t) |>.decide) (l := List.range S)
      simp only [List.length_range] at this
      omega
  have h1 := within_mono hk S
  rw [Nat.add_comm] at h1
  exact within_closed hcl k t h1
end

end Go.Proofs.YtpgopmmobbemcaaGreat

set_option linter.unusedVariables false
namespace Go.Proofs.YtpgopmmobbemcaaGreat
open Go.RowKit

def castL (l : List Nat) : List Int := l.map fun n : Nat => (n : Int)
theorem castL_len (l : List Nat) : (castL l).length = l.length := by simp [castL]
theorem castL_app (l m : List Nat) : castL (l ++ m) = castL l ++ castL m := by simp [castL]
theorem nodup_len {S : Nat} : ∀ {l : List Nat}, l.Nodup → (∀ x ∈ l, x < S) → l.length ≤ S := by
  induction S with
  | zero =>
    intro l _ h
    match l with
    | [] => simp
    | x :: r => exact absurd (h x (by simp)) (by omega)
  | succ S ih =>
    intro l hn h
    have h1 : (l.erase S).Nodup := hn.erase S
    have h2 : ∀ x ∈ l.erase S, x < S := fun x hx => by
      have h3 := List.mem_of_mem_erase hx
      have h4 := h x h3
      have h5 : x ≠ S := fun e => by subst e; exact (List.Nodup.not_mem_erase hn) hx
      omega
    have h3 := ih h1 h2
    have h4 : l.length ≤ (l.erase S).length + 1 := by
      rw [List.length_erase]; split <;> omega
    omega

section
variable {nx : Nat → Nat → Nat} {L S s : Nat}
theorem rch_refl : Rch nx L s s := ⟨0, rfl⟩
theorem rch_step {t a : Nat} (h : Rch nx L s t) (ha : a < L) : Rch nx L s (nx t a) := by
  obtain ⟨k, hk⟩ := h
  exact ⟨k + 1, .inr ⟨t, a, hk, ha, rfl⟩⟩
theorem rch_lt (hs : s < S) (h : ∀ u a, u < S → a < L → nx u a < S) {t : Nat} (ht : Rch nx L s t) : t < S := by
  obtain ⟨k, hk⟩ := ht
  exact within_lt hs h k t hk
theorem rch_in {P : Nat → Prop} (h0 : P s) (h : ∀ u a, P u → a < L → P (nx u a)) {t : Nat} (ht : Rch nx L s t) : P t := by
  obtain ⟨k, hk⟩ := ht
  induction k generalizing t with
  | zero => cases hk; exact h0
  | succ k ih =>
    rcases hk with hk | ⟨u, a, hu, ha, rfl⟩
    · exact ih hk
    · exact h u a (ih hu) ha
/-- The search: what waits, what was seen. -/
structure Bfs (nx : Nat → Nat → Nat) (L s : Nat) (work seen : List Nat) : Prop where
  nodup : seen.Nodup
  start : s ∈ seen
  sound : ∀ x ∈ seen, Rch nx L s x
  sub : ∀ x ∈ work, x ∈ seen
  closed : ∀ u ∈ seen, u ∉ work → ∀ a, a < L → nx u a ∈ seen
/-- .. while the letters of t from k on are still to come. -/
structure Mid (nx : Nat → Nat → Nat) (L s t k : Nat) (work seen : List Nat) : Prop where
  nodup : seen.Nodup
  start : s ∈ seen
  sound : ∀ x ∈ seen, Rch nx L s x
  sub : ∀ x ∈ work, x ∈ seen
  here : t ∈ seen
  done : ∀ a, a < k → nx t a ∈ seen
  closed : ∀ u ∈ seen, u ∉ work → u ≠ t → ∀ a, a < L → nx u a ∈ seen
theorem Bfs.begin : Bfs nx L s [s] [s] :=
  ⟨by simp, by simp, fun x hx => by simp at hx; subst hx; exact rch_refl, fun x hx => hx, fun u hu hn => absurd hu hn⟩
theorem Bfs.pop {t : Nat} {r seen : List Nat} (h : Bfs nx L s (t :: r) seen) : Mid nx L s t 0 r seen :=
  ⟨h.nodup, h.start, h.sound, fun x hx => h.sub x (by simp [hx]), h.sub t (by simp), fun a ha => by omega, fun u hu hn hne a ha => h.closed u hu (by simp [hn, hne]) a ha⟩
theorem Mid.old {t k : Nat} {work seen : List Nat} (h : Mid nx L s t k work seen) (hm : nx t k ∈ seen) : Mid nx L s t (k + 1) work seen := by
  refine ⟨h.nodup, h.start, h.sound, h.sub, h.here, fun a ha => ?_, h.closed⟩
  rcases Nat.lt_or_ge a k with h1 | h1
  · exact h.done a h1
  · have : a = k := by omega
    exact this ▸ hm
theorem Mid.more {t k : Nat} {work seen : List Nat} (h : Mid nx L s t k work seen) (hm : nx t k ∉ seen) (hk : k < L) : Mid nx L s t (k + 1) (work ++ [nx t k]) (seen ++ [nx t k]) where
  nodup := by
    rw [List.nodup_append]
    exact ⟨h.nodup, by simp, fun a ha b hb => by simp at hb; subst hb; exact fun e => hm (e ▸ ha)⟩
  start := by simp [h.start]
  sound := fun x hx => by
    rcases List.mem_append.1 hx with hx | hx
    · exact h.sound x hx
    · simp at hx; subst hx; exact rch_step (h.sound t h.here) hk
  sub := fun x hx => by
    rcases List.mem_append.1 hx with hx | hx
    · simp [h.sub x hx]
    · simp at hx; simp [hx]
  here := by simp [h.here]
  done := fun a ha => by
    rcases Nat.lt_or_ge a k with h1 | h1
    · simp [h.done a h1]
    · have : a = k := by omega
      subst this; simp
  closed := fun u hu hn hne a ha => by
    rcases List.mem_append.1 hu with hu | hu
    · simp [h.closed u hu (fun hw => hn (by simp [hw])) hne a ha]
    · exact absurd (by simp at hu; simp [hu]) hn
theorem Mid.finish {t : Nat} {work seen : List Nat} (h : Mid nx L s t L work seen) : Bfs nx L s work seen :=
  ⟨h.nodup, h.start, h.sound, h.sub, fun u hu hn a ha => by
    by_cases e : u = t
    · subst e; exact h.done a ha
    · exact h.closed u hu hn e a ha⟩
theorem Bfs.all {seen : List Nat} (h : Bfs nx L s [] seen) (t : Nat) : t ∈ seen ↔ Rch nx L s t :=
  ⟨h.sound t, fun ht => rch_in (P := fun x => x ∈ seen) h.start (fun u a hu ha => h.closed u hu (by simp) a ha) ht⟩
theorem Bfs.few {work seen : List Nat} (h : Bfs nx L s work seen) (hs : s < S) (hn : ∀ u a, u < S → a < L → nx u a < S) : seen.length ≤ S :=
  nodup_len h.nodup fun x hx => rch_lt hs hn (h.sound x hx)
theorem Mid.few {t k : Nat} {work seen : List Nat} (h : Mid nx L s t k work seen) (hs : s < S) (hn : ∀ u a, u < S → a < L → nx u a < S) : seen.length ≤ S :=
  nodup_len h.nodup fun x hx => rch_lt hs hn (h.sound x hx)
end

/-- The list of what is reachable, in order. -/
def IsReach (nx : Nat → Nat → Nat) (L s : Nat) (l : List Int) : Prop := l.Pairwise (· < ·) ∧ ∀ t : Int, t ∈ l ↔ ∃ n : Nat, t = n ∧ Rch nx L s n

/-- The fixed point, round by round: bs after k rounds; of the round after that the states below t have been taken; of t the letters below j. -/
structure Led (nx : Nat → Nat → Nat) (L S s k t : Nat) (bs : List Bool) : Prop where
  len : bs.length = S
  got : ∀ u, within nx L s k u → bs[u]? = some true
  sound : ∀ u, bs[u]? = some true → Rch nx L s u
  part : ∀ u, u < t → within nx L s k u → ∀ a, a < L → bs[nx u a]? = some true

section
variable {nx : Nat → Nat → Nat} {L S s : Nat}
theorem Led.begin (hs : s < S) : Led nx L S s 0 0 ((List.replicate S false).set s true) where
  len := by simp
  got := fun u hu => by cases hu; simp [hs]
  sound := fun u hu => by
    by_cases e : s = u
    · subst e; exact rch_refl
    · rw [List.getElem?_set_ne e, List.getElem?_replicate] at hu
      split at hu <;> simp at hu
  part := fun u hu => by omega
theorem Led.set {k t j : Nat} {bs : List Bool} (h : Led nx L S s k t bs) (ht : bs[t]? = some true) (hj : j < L) (hn : nx t j < S) (hd : ∀ a, a < j → bs[nx t a]? = some true) :
    Led nx L S s k t (bs.set (nx t j) true) ∧ (bs.set (nx t j) true)[t]? = some true ∧ ∀ a, a < j + 1 → (bs.set (nx t j) true)[nx t a]? = some true := by
  have mono : ∀ u, bs[u]? = some true → (bs.set (nx t j) true)[u]? = some true := fun u hu => by
    by_cases e : nx t j = u
    · subst e; rw [List.getElem?_set_self (by rw [h.len]; exact hn)]
    · rw [List.getElem?_set_ne e]; exact hu
  refine ⟨⟨by simp [h.len], fun u hu => mono u (h.got u hu), fun u hu => ?_, fun u hu hw a ha => mono _ (h.part u hu hw a ha)⟩, mono t ht, fun a ha => ?_⟩
  · by_cases e : nx t j = u
    · subst e; exact rch_step (h.sound t ht) hj
    · rw [List.getElem?_set_ne e] at hu; exact h.sound u hu
  · rcases Nat.lt_or_ge a j with h1 | h1
    · exact mono _ (hd a h1)
    · have : a = j := by omega
      subst this
      rw [List.getElem?_set_self (by rw [h.len]; exact hn)]
theorem Led.next {k t : Nat} {bs : List Bool} (h : Led nx L S s k t bs) (hd : bs[t]? = some true → ∀ a, a < L → bs[nx t a]? = some true) : Led nx L S s k (t + 1) bs := by
  refine ⟨h.len, h.got, h.sound, fun u hu hw a ha => ?_⟩
  rcases Nat.lt_or_ge u t with h1 | h1
  · exact h.part u h1 hw a ha
  · have : u = t := by omega
    subst this
    exact hd (h.got u hw) a ha
theorem Led.round (hs : s < S) (hn : ∀ u a, u < S → a < L → nx u a < S) {k : Nat} {bs : List Bool} (h : Led nx L S s k S bs) : Led nx L S s (k + 1) 0 bs where
  len := h.len
  got := fun u hu => by
    rcases hu with hu | ⟨v, a, hv, ha, rfl⟩
    · exact h.got u hu
    · exact h.part v (within_lt hs hn k v hv) hv a ha
  sound := h.sound
  part := fun u hu => by omega
/-- What the reference says in the end. -/
def Leads (nx : Nat → Nat → Nat) (L S s : Nat) (bs : List Bool) : Prop := bs.length = S ∧ ∀ u, bs[u]? = some true ↔ Rch nx L s u
theorem Led.all (hs : s < S) (hn : ∀ u a, u < S → a < L → nx u a < S) {bs : List Bool} (h : Led nx L S s S 0 bs) : Leads nx L S s bs :=
  ⟨h.len, fun u => ⟨h.sound u, fun hu => h.got u ((rch_within hs hn u).1 hu)⟩⟩
end

theorem true_of_getD {bs : List Bool} {n : Nat} (h : n < bs.length) : bs.getD n false = true ↔ bs[n]? = some true := by
  rw [List.getD_eq_getElem?_getD, List.getElem?_eq_getElem h]; simp

/-- The list of the states whose place in bs is true. -/
def trues (bs : List Bool) : Nat → List Int
  | 0 => []
  | k + 1 => if bs.getD k false then trues bs k ++ [(k : Int)] else trues bs k
/-- Recurrent: from all that is reachable one comes back. -/
def Back (nx : Nat → Nat → Nat) (L s : Nat) : Prop := ∀ t, Rch nx L s t → Rch nx L t s

end Go.Proofs.YtpgopmmobbemcaaGreat

set_option linter.unusedVariables false
set_option linter.unusedSimpArgs false
namespace Go.Proofs.YtpgopmmobbemcaaGreat
open Go.RowKit

/-- A forest: each vertex has one that is not greater. -/
structure Fst (f : List Nat) : Prop where
  len : f.length = 12
  le : ∀ v, v < 12 → f.getD v 0 ≤ v

def rootK (f : List Nat) : Nat → Nat → Nat
  | 0, v => v
  | k + 1, v => if f.getD v 0 = v then v else rootK f k (f.getD v 0)
def rootF (f : List Nat) (v : Nat) : Nat := rootK f v v

section
variable {f : List Nat}
theorem rootK_le (h : Fst f) : ∀ k v, v < 12 → rootK f k v ≤ v
  | 0, v, _ => Nat.le_refl v
  | k + 1, v, hv => by
    unfold rootK
    have h1 := h.le v hv
    split
    · exact Nat.le_refl v
    · exact Nat.le_trans (rootK_le h k _ (by omega)) h1
theorem rootK_fix (h : Fst f) : ∀ k v, v < 12 → v ≤ k → f.getD (rootK f k v) 0 = rootK f k v
  | 0, v, hv, hk => by
    have h0 : v = 0 := by omega
    subst h0
    have := h.le 0 (by omega)
    simp only [rootK]
    omega
  | k + 1, v, hv, hk => by
    unfold rootK
    have h1 := h.le v hv
    split
    · assumption
    · rename_i hne
      exact rootK_fix h k _ (by omega) (by omega)
theorem rootK_more (h : Fst f) : ∀ k v, v < 12 → v ≤ k → rootK f (k + 1) v = rootK f k v
  | 0, v, hv, hk => by
    have h0 : v = 0 := by omega
    subst h0
    have := h.le 0 (by omega)
    simp only [rootK]
    rw [if_pos (by omega)]
  | k + 1, v, hv, hk => by
    have h1 := h.le v hv
    show (if f.getD v 0 = v then v else rootK f (k + 1) (f.getD v 0)) = (if f.getD v 0 = v then v else rootK f k (f.getD v 0))
    by_cases hf : f.getD v 0 = v
    · rw [if_pos hf, if_pos hf]
    · rw [if_neg hf, if_neg hf]
      exact rootK_more h k _ (by omega) (by omega)
theorem rootK_eq (h : Fst f) {v : Nat} (hv : v < 12) : ∀ j, rootK f (v + j) v = rootF f v
  | 0 => rfl
  | j + 1 => by rw [← Nat.add_assoc, rootK_more h _ _ hv (by omega)]; exact rootK_eq h hv j
theorem rootF_le (h : Fst f) {v : Nat} (hv : v < 12) : rootF f v ≤ v := rootK_le h v v hv
theorem rootF_fix (h : Fst f) {v : Nat} (hv : v < 12) : f.getD (rootF f v) 0 = rootF f v := rootK_fix h v v hv (Nat.le_refl v)
theorem rootF_self (h : Fst f) {v : Nat} (hf : f.getD v 0 = v) : rootF f v = v := by
  unfold rootF
  cases v with
  | zero => rfl
  | succ k => rw [rootK, if_pos hf]
theorem rootF_step (h : Fst f) {v : Nat} (hv : v < 12) : rootF f v = rootF f (f.getD v 0) := by
  have h1 := h.le v hv
  by_cases hf : f.getD v 0 = v
  · rw [hf]
  · obtain ⟨k, rfl⟩ : ∃ k, v = k + 1 := ⟨v - 1, by omega⟩
    unfold rootF
    rw [rootK, if_neg hf]
    obtain ⟨j, hj⟩ : ∃ j, k = f.getD (k + 1) 0 + j := ⟨k - f.getD (k + 1) 0, by omega⟩
    have := rootK_eq h (show f.getD (k + 1) 0 < 12 by omega) j
    rw [← hj] at this
    exact this
end

/-- Two roots are joined; the lesser stands for both. -/
def joinF (f : List Nat) (a b : Nat) : List Nat := f.set (max (rootF f a) (rootF f b)) (min (rootF f a) (rootF f b))

section
variable {f : List Nat} {a b : Nat}
theorem getD_setN {l : List Nat} {i j x : Nat} (hi : i < l.length) : (l.set i x).getD j 0 = if i = j then x else l.getD j 0 := by
  rw [List.getD_eq_getElem?_getD, List.getD_eq_getElem?_getD]
  by_cases h : i = j
  · subst h; rw [List.getElem?_set_self hi, if_pos rfl]; rfl
  · rw [List.getElem?_set_ne h, if_neg h]
theorem joinF_get (h : Fst f) (ha : a < 12) (hb : b < 12) (j : Nat) : (joinF f a b).getD j 0 = if max (rootF f a) (rootF f b) = j then min (rootF f a) (rootF f b) else f.getD j 0 := by
  have h1 := rootF_le h ha
  have h2 := rootF_le h hb
  exact getD_setN (by rw [h.len]; omega)
theorem joinF_fst (h : Fst f) (ha : a < 12) (hb : b < 12) : Fst (joinF f a b) := by
  refine ⟨by simp [joinF, h.len], fun v hv => ?_⟩
  rw [joinF_get h ha hb]
  split
  · omega
  · exact h.le v hv
/-- What the roots are then. -/
theorem joinF_root (h : Fst f) (ha : a < 12) (hb : b < 12) : ∀ n v, v < n → v < 12 → rootF (joinF f a b) v = if rootF f v = max (rootF f a) (rootF f b) then min (rootF f a) (rootF f b) else rootF f v
  | 0, v, hn, _ => by omega
  | n + 1, v, hn, hv => by
    have hj := joinF_fst h ha hb
    have ih := joinF_root h ha hb n
    have ra := rootF_le h ha
    have rb := rootF_le h hb
    have fa := rootF_fix h ha
    have fb := rootF_fix h hb
    have h1 := h.le v hv
    have hget := joinF_get h ha hb
    generalize hA : rootF f a = A at *
    generalize hB : rootF f b = B at *
    have fM : f.getD (max A B) 0 = max A B := by
      rcases Nat.le_total A B with hab | hab
      · rw [Nat.max_eq_right hab]; exact fb
      · rw [Nat.max_eq_left hab]; exact fa
    have fm : f.getD (min A B) 0 = min A B := by
      rcases Nat.le_total A B with hab | hab
      · rw [Nat.min_eq_left hab]; exact fa
      · rw [Nat.min_eq_right hab]; exact fb
    have rM : rootF f (max A B) = max A B := rootF_self h fM
    have rm : rootF f (min A B) = min A B := rootF_self h fm
    by_cases hM : max A B = v
    · subst hM
      rw [rM, if_pos rfl]
      by_cases e : max A B = min A B
      · rw [rootF_self hj (by rw [hget, if_pos rfl]; exact e.symm), e]
      · have hlt : min A B < max A B := by omega
        rw [rootF_step hj hv, hget, if_pos rfl, ih (min A B) (by omega) (by omega), rm, if_neg (by omega)]
    · by_cases hf : f.getD v 0 = v
      · rw [rootF_self hj (by rw [hget, if_neg hM]; exact hf), rootF_self h hf, if_neg (fun e => hM e.symm)]
      · rw [rootF_step hj hv, hget, if_neg hM, ih (f.getD v 0) (by omega) (by omega), ← rootF_step h hv]
end

/-- The vertices that edges join stand in one class, whatever the classes are. -/
def Tied (es : List (Nat × Nat)) (u v : Nat) : Prop := ∀ c : Nat → Nat, (∀ x ∈ es, c x.1 = c x.2) → c u = c v

/-- The forest of the edges so far. -/
structure Uf (f : List Nat) (es : List (Nat × Nat)) : Prop where
  fst : Fst f
  tied : ∀ v, v < 12 → Tied es v (f.getD v 0)
  one : ∀ x ∈ es, rootF f x.1 = rootF f x.2

section
variable {f : List Nat} {es : List (Nat × Nat)}
theorem Uf.begin : Uf (List.range 12) [] := by
  have hg : ∀ v, v < 12 → (List.range 12).getD v 0 = v := fun v hv => by
    rw [List.getD_eq_getElem?_getD, List.getElem?_range hv]; rfl
  exact ⟨⟨by simp, fun v hv => by rw [hg v hv]; exact Nat.le_refl v⟩, fun v hv c _ => by rw [hg v hv], fun x hx => by simp at hx⟩
theorem Uf.root_tied (h : Uf f es) : ∀ n v, v < n → v < 12 → Tied es v (rootF f v)
  | 0, v, hn, _ => by omega
  | n + 1, v, hn, hv => fun c hc => by
    by_cases hf : f.getD v 0 = v
    · rw [rootF_self h.fst hf]
    · have h1 := h.fst.le v hv
      rw [rootF_step h.fst hv]
      exact (h.tied v hv c hc).trans (h.root_tied n (f.getD v 0) (by omega) (by omega) c hc)
theorem Uf.join (h : Uf f es) {a b : Nat} (ha : a < 12) (hb : b < 12) (hes : ∀ x ∈ es, x.1 < 12 ∧ x.2 < 12) : Uf (joinF f a b) (es ++ [(a, b)]) := by
  have ta := h.root_tied (a + 1) a (by omega) ha
  have tb := h.root_tied (b + 1) b (by omega) hb
  refine ⟨joinF_fst h.fst ha hb, fun v hv c hc => ?_, fun x hx => ?_⟩
  · have hc1 : ∀ x ∈ es, c x.1 = c x.2 := fun x hx => hc x (by simp [hx])
    rw [joinF_get h.fst ha hb]
    split
    · rename_i e
      have hab := hc (a, b) (by simp)
      simp only at hab
      have h1 := ta c hc1
      have h2 := tb c hc1
      rw [← e]
      rcases Nat.le_total (rootF f a) (rootF f b) with hl | hl
      · rw [Nat.max_eq_right hl, Nat.min_eq_left hl, ← h1, ← h2, hab]
      · rw [Nat.max_eq_left hl, Nat.min_eq_right hl, ← h1, ← h2, hab]
    · exact h.tied v hv c hc1
  · rcases List.mem_append.1 hx with hx | hx
    · rw [joinF_root h.fst ha hb 12 _ (hes x hx).1 (hes x hx).1, joinF_root h.fst ha hb 12 _ (hes x hx).2 (hes x hx).2, h.one x hx]
    · simp at hx
      subst hx
      rw [joinF_root h.fst ha hb 12 a ha ha, joinF_root h.fst ha hb 12 b hb hb]
      rcases Nat.le_total (rootF f a) (rootF f b) with hl | hl
      · rw [Nat.max_eq_right hl, Nat.min_eq_left hl]
        by_cases e : rootF f a = rootF f b
        · simp [e]
        · simp [e]
      · rw [Nat.max_eq_left hl, Nat.min_eq_right hl]
        by_cases e : rootF f b = rootF f a
        · simp [e]
        · simp [e]
theorem Uf.same (h : Uf f es) {u v : Nat} (hu : u < 12) (hv : v < 12) : rootF f u = rootF f v ↔ Tied es u v :=
  ⟨fun e c hc => (h.root_tied 12 u hu hu c hc).trans ((congrArg c e).trans (h.root_tied 12 v hv hv c hc).symm), fun ht => ht (rootF f) h.one⟩
/-- A root is the least of its class. -/
theorem Uf.least (h : Uf f es) {v : Nat} (hv : v < 12) : rootF f v = v ↔ ∀ u, u < v → ¬ Tied es u v := by
  constructor
  · intro e u hu ht
    have h1 := (h.same (by omega) hv).2 ht
    have h2 := rootF_le h.fst (show u < 12 by omega)
    omega
  · intro hn
    rcases Nat.lt_or_ge (rootF f v) v with h1 | h1
    · exact absurd (fun c hc => (h.root_tied 12 v hv hv c hc).symm) (hn _ h1)
    · have := rootF_le h.fst hv
      omega
end

theorem Tied.symm {es : List (Nat × Nat)} {u v : Nat} (h : Tied es u v) : Tied es v u := fun c hc => (h c hc).symm
theorem Tied.refl {es : List (Nat × Nat)} {u : Nat} : Tied es u u := fun c hc => rfl
theorem Tied.trans {es : List (Nat × Nat)} {u v x : Nat} (h : Tied es u v) (h2 : Tied es v x) : Tied es u x := fun c hc => (h c hc).trans (h2 c hc)

/-- Along the edges, step by step: adj says whether two vertices are joined. -/
def nxA (adj : Nat → Nat → Bool) (a b : Nat) : Nat := if adj a b then b else a
theorem rch_tied {adj : Nat → Nat → Bool} {N : Nat} {es : List (Nat × Nat)} (hadj : ∀ a b, adj a b = true ↔ (a, b) ∈ es ∨ (b, a) ∈ es) (hes : ∀ x ∈ es, x.1 < N ∧ x.2 < N) {u v : Nat} : Rch (nxA adj) N u v ↔ Tied es u v := by
  have step : ∀ x y : Nat, adj x y = true → Tied es x y := fun x y h c hc => by
    rcases (hadj x y).1 h with h | h
    · exact hc _ h
    · exact (hc _ h).symm
  constructor
  · intro h
    refine rch_in (P := fun t => Tied es u t) Tied.refl (fun x a hx ha => ?_) h
    unfold nxA
    split
    · exact hx.trans (step x a (by assumption))
    · exact hx
  · intro h
    have go : ∀ x y, y < N → adj x y = true → Rch (nxA adj) N u x → Rch (nxA adj) N u y := fun x y hy hxy hx => by
      have := rch_step hx hy
      simpa [nxA, hxy] using this
    have hcl : ∀ x ∈ es, (Rch (nxA adj) N u x.1 ↔ Rch (nxA adj) N u x.2) := fun x hx =>
      ⟨go _ _ (hes x hx).2 ((hadj _ _).2 (.inl hx)), go _ _ (hes x hx).1 ((hadj _ _).2 (.inr hx))⟩
    have key := h (fun t => @ite Nat (Rch (nxA adj) N u t) (Classical.propDecidable _) 0 1) (fun x hx => by
      by_cases h1 : Rch (nxA adj) N u x.1
      · rw [if_pos h1, if_pos ((hcl x hx).1 h1)]
      · rw [if_neg h1, if_neg fun h2 => h1 ((hcl x hx).2 h2)])
    rw [if_pos rch_refl] at key
    by_cases h2 : Rch (nxA adj) N u v
    · exact h2
    · rw [if_neg h2] at key; cases key

end Go.Proofs.YtpgopmmobbemcaaGreat

set_option linter.unusedVariables false
set_option linter.unusedSimpArgs false
namespace Go.Proofs.YtpgopmmobbemcaaGreat
open Go.RowKit

def castV (l : List Nat) : List Value := l.map fun n : Nat => .int .i64 n
theorem castV_get {l : List Nat} {i : Nat} (hi : i < l.length) : (castV l)[i]? = some (.int .i64 (l.getD i 0 : Nat)) := by
  simp only [castV, List.getElem?_map, List.getD_eq_getElem?_getD, List.getElem?_eq_getElem hi]
  rfl
theorem castV_set (l : List Nat) (i x : Nat) : (castV l).set i (.int .i64 x) = castV (l.set i x) := by simp [castV, List.map_set]
set_option maxHeartbeats 400000 in
theorem root_any (f : List Nat) (B v : Nat) (w : World) (hb : Box w B (castV f) 199) (hf : Hid (Fst f)) (hv : v < 12) :
    Calls Tryz.prog 168 #[.pointer (some ⟨B, 0, none⟩), .int .i64 v] w fun e w' => e = .returned (.int .i64 (rootF f v : Nat)) ∧ w = w' := by
  go_enter Tryz.func168, Tryz.ntmps168
  go_wp2_with fail
  go_loop [1] (fun uv => ∃ u : Nat, u < 12 ∧ uv = .int .i64 u ∧ Hid (rootF f v = rootF f u)) (fun uv => (intOf uv).toNat)
  case atStart => exact ⟨v, hv, rfl, rfl⟩
  case round =>
    obtain ⟨u, hu, rfl, HU⟩ := hrel
    have c0 := hb.cell u
    rw [castV_get (by rw [hf.out.len]; exact hu)] at c0
    have hle := hf.out.le u hu
    by_cases hfix : f.getD u 0 = u
    · have HR : Hid (rootF f v = u) := HU.out.trans (rootF_self hf.out hfix)
      rw [hfix] at c0
      have hq : ((u : Int) != (u : Int)) = false := by simp
      clear hfix hle
      go_wp2_with fail
      go_ret
      exact ⟨ret_int (by rw [HR.out]), rfl⟩
    · have HR : Hid (rootF f v = rootF f (f.getD u 0)) := HU.out.trans (rootF_step hf.out hu)
      generalize f.getD u 0 = x at c0 hle hfix HR
      have hq : ((x : Int) != (u : Int)) = true := by simp; omega
      have hlt : x < u := by omega
      clear hfix hle
      go_wp2_with fail
      go_round
      case rel => exact ⟨x, by omega, rfl, HR⟩
      case measure => simp [intOf]; omega

def JoinPost (w : World) (B : Nat) (f : List Nat) (a b : Nat) (e : Ending) (w' : World) : Prop :=
  e = .returned (.tuple #[]) ∧ Box w' B (castV (joinF f a b)) 199 ∧ ∀ n, n ≤ B → Below n w w'

set_option maxHeartbeats 400000 in
theorem join_any (f : List Nat) (B a b : Nat) (w : World) (hb : Box w B (castV f) 199) (hf : Hid (Fst f)) (ha : a < 12) (hbb : b < 12) :
    Calls Tryz.prog 167 #[.pointer (some ⟨B, 0, none⟩), .int .i64 a, .int .i64 b] w (JoinPost w B f a b) := by
  have h1 := rootF_le hf.out ha
  have h2 := rootF_le hf.out hbb
  go_enter Tryz.func167, Tryz.ntmps167
  go_wp2_with fail
  refine (root_any f B a _ hb hf ha).mono ?_
  rintro e w2 ⟨rfl, rfl⟩
  go_wp2_with fail
  refine (root_any f B b _ hb hf hbb).mono ?_
  rintro e w2 ⟨rfl, rfl⟩
  have HJ : Hid (joinF f a b = f.set (max (rootF f a) (rootF f b)) (min (rootF f a) (rootF f b))) := rfl
  generalize rootF f a = x at h1 HJ
  generalize rootF f b = y at h2 HJ
  have hlen : f.length = 12 := hf.out.len
  rcases Nat.lt_trichotomy x y with hxy | hxy | hxy
  · skip
    have c0 := hb.cell y
    rw [castV_get (by omega)] at c0
    have f0 := hb.free y
    have hp := hb.put y (.int .i64 x)
    rw [castV_set] at hp
    have HE : Hid (joinF f a b = f.set y x) := by show _ = _; rw [HJ.out, Nat.max_eq_right (by omega), Nat.min_eq_left (by omega)]
    go_wp2_with fail
    go_end0
    exact ⟨rfl, by rw [HE.out]; exact hp, fun n hn => (Below.refl n w).setCell hn _⟩
  · subst hxy
    have c0 := hb.cell x
    rw [castV_get (by omega)] at c0
    have f0 := hb.free x
    have hp := hb.put x (.int .i64 x)
    rw [castV_set] at hp
    have HE : Hid (joinF f a b = f.set x x) := by show _ = _; rw [HJ.out, Nat.max_self, Nat.min_self]
    go_wp2_with fail
    go_end0
    exact ⟨rfl, by rw [HE.out]; exact hp, fun n hn => (Below.refl n w).setCell hn _⟩
  · skip
    have c0 := hb.cell x
    rw [castV_get (by omega)] at c0
    have f0 := hb.free x
    have hp := hb.put x (.int .i64 y)
    rw [castV_set] at hp
    have HE : Hid (joinF f a b = f.set x y) := by show _ = _; rw [HJ.out, Nat.max_eq_left (by omega), Nat.min_eq_right (by omega)]
    go_wp2_with fail
    go_end0
    exact ⟨rfl, by rw [HE.out]; exact hp, fun n hn => (Below.refl n w).setCell hn _⟩

theorem twelve {α : Type} {l : List α} (h : l.length = 12) : ∃ a0 a1 a2 a3 a4 a5 a6 a7 a8 a9 a10 a11, l = [a0, a1, a2, a3, a4, a5, a6, a7, a8, a9, a10, a11] := by
  match l, h with
  | [a0, a1, a2, a3, a4, a5, a6, a7, a8, a9, a10, a11], _ => exact ⟨a0, a1, a2, a3, a4, a5, a6, a7, a8, a9, a10, a11, rfl⟩

set_option maxRecDepth 100000 in
set_option maxHeartbeats 1000000 in
theorem grown_any (w : World) : Calls Tryz.prog 166 #[] w fun e w' => e = .returned (.agg #[.int .i64 0, .int .i64 1, .int .i64 2, .int .i64 3, .int .i64 4, .int .i64 5, .int .i64 6, .int .i64 7, .int .i64 8, .int .i64 9, .int .i64 10, .int .i64 11]) ∧ Below w.heap.size w w' := by
  go_enter Tryz.func166, Tryz.ntmps166
  go_wp2_with fail
  have hb0 := box_refl w (.cells (castV (List.replicate 12 0)).toArray 199)
  have hb1 := Box.new (w.alloc (.cells (castV (List.replicate 12 0)).toArray 199)) (castV (List.replicate 12 0)) 199
  have hb2 := box_new hb0 (by simp) (.cells (castV (List.replicate 12 0)).toArray 199)
  rw [World.size_alloc] at hb1
  go_loopw [3] (fun iv wr => ∃ (k : Nat) (fl : List Nat), k ≤ 12 ∧ iv = .int .i64 k ∧ Hid (fl.length = 12 ∧ ∀ j, j < k → fl.getD j 0 = j) ∧ Box wr (w.heap.size + 1) (castV fl) 199 ∧
    Below (w.heap.size + 1) (w.alloc (.cells (castV (List.replicate 12 0)).toArray 199)) wr) (fun iv _ => 12 - (intOf iv).toNat)
  case atStart => exact ⟨0, _, by omega, rfl, ⟨by simp, fun j hj => by omega⟩, hb1, hb2⟩
  case round =>
    obtain ⟨k, fl, hk, rfl, HF, hbx, hbb⟩ := hrel
    by_cases hlt : k < 12
    · have c0 := hbx.cell k
      rw [castV_get (by rw [HF.out.1]; exact hlt)] at c0
      have f0 := hbx.free k
      have hp := hbx.put k (.int .i64 k)
      rw [castV_set] at hp
      have HF2 : Hid ((fl.set k k).length = 12 ∧ ∀ j, j < k + 1 → (fl.set k k).getD j 0 = j) := by
        refine ⟨by simp [HF.out.1], fun j hj => ?_⟩
        rw [getD_setN (by rw [HF.out.1]; exact hlt)]
        split
        · assumption
        · exact HF.out.2 j (by omega)
      go_wp2_with fail
      go_roundw
      case rel => exact ⟨k + 1, _, by omega, by go_num, HF2, hp, hbb.setCell (by simp) _⟩
      case measure => simp [intOf]; omega
    · have hfl : fl = List.range 12 := by
        apply List.ext_getElem
        · simp [HF.out.1]
        · intro i h1 h2
          have := HF.out.2 i (by have := HF.out.1; omega)
          rw [List.getD_eq_getElem?_getD, List.getElem?_eq_getElem h1] at this
          simpa using this
      subst hfl
      have q0 := hbx.cell 0
      have q1 := hbx.cell 1
      have q2 := hbx.cell 2
      have q3 := hbx.cell 3
      have q4 := hbx.cell 4
      have q5 := hbx.cell 5
      have q6 := hbx.cell 6
      have q7 := hbx.cell 7
      have q8 := hbx.cell 8
      have q9 := hbx.cell 9
      have q10 := hbx.cell 10
      have q11 := hbx.cell 11
      have E12 : castV (List.range 12) = [.int .i64 0, .int .i64 1, .int .i64 2, .int .i64 3, .int .i64 4, .int .i64 5, .int .i64 6, .int .i64 7, .int .i64 8, .int .i64 9, .int .i64 10, .int .i64 11] := rfl
      have Z12 : castV (List.replicate 12 0) = [.int .i64 0, .int .i64 0, .int .i64 0, .int .i64 0, .int .i64 0, .int .i64 0, .int .i64 0, .int .i64 0, .int .i64 0, .int .i64 0, .int .i64 0, .int .i64 0] := rfl
      rw [E12] at q0 q1 q2 q3 q4 q5 q6 q7 q8 q9 q10 q11
      simp only [List.getElem?_cons_zero, List.getElem?_cons_succ] at q0 q1 q2 q3 q4 q5 q6 q7 q8 q9 q10 q11
      have hr : Box wr w.heap.size (castV (List.replicate 12 0)) 199 := (hbb.block w.heap.size (by omega)).trans (heap_alloc_new w _)
      have r0 := hr.cell 0
      have r1 := hr.cell 1
      have r2 := hr.cell 2
      have r3 := hr.cell 3
      have r4 := hr.cell 4
      have r5 := hr.cell 5
      have r6 := hr.cell 6
      have r7 := hr.cell 7
      have r8 := hr.cell 8
      have r9 := hr.cell 9
      have r10 := hr.cell 10
      have r11 := hr.cell 11
      rw [Z12] at r0 r1 r2 r3 r4 r5 r6 r7 r8 r9 r10 r11
      simp only [List.getElem?_cons_zero, List.getElem?_cons_succ] at r0 r1 r2 r3 r4 r5 r6 r7 r8 r9 r10 r11
      have fr := fun i => hr.free i
      have hsz := hr.lt
      clear hb0 hb1 hb2 E12 Z12 HF hbx
      go_wp2_with fail
      have hfin := ((((((((((((hr.put 0 (.int .i64 0)).put 1 (.int .i64 1)).put 2 (.int .i64 2)).put 3 (.int .i64 3)).put 4 (.int .i64 4)).put 5 (.int .i64 5)).put 6 (.int .i64 6)).put 7 (.int .i64 7)).put 8 (.int .i64 8)).put 9 (.int .i64 9)).put 10 (.int .i64 10)).put 11 (.int .i64 11))
      rw [show castV (List.replicate 12 0) = [.int .i64 0, .int .i64 0, .int .i64 0, .int .i64 0, .int .i64 0, .int .i64 0, .int .i64 0, .int .i64 0, .int .i64 0, .int .i64 0, .int .i64 0, .int .i64 0] from rfl] at hfin
      simp only [List.set_cons_zero, List.set_cons_succ] at hfin
      have z0 := hfin.cell 0
      have z1 := hfin.cell 1
      have z2 := hfin.cell 2
      have z3 := hfin.cell 3
      have z4 := hfin.cell 4
      have z5 := hfin.cell 5
      have z6 := hfin.cell 6
      have z7 := hfin.cell 7
      have z8 := hfin.cell 8
      have z9 := hfin.cell 9
      have z10 := hfin.cell 10
      have z11 := hfin.cell 11
      simp only [List.getElem?_cons_zero, List.getElem?_cons_succ] at z0 z1 z2 z3 z4 z5 z6 z7 z8 z9 z10 z11
      have hbf := (below_box hbb)
      refine bodyPost_ret (v := .agg #[.int .i64 0, .int .i64 1, .int .i64 2, .int .i64 3, .int .i64 4, .int .i64 5, .int .i64 6, .int .i64 7, .int .i64 8, .int .i64 9, .int .i64 10, .int .i64 11]) ?_ rfl ⟨rfl, ?_⟩
      · simp [results, Tryz.results166, go_sem, z0, z1, z2, z3, z4, z5, z6, z7, z8, z9, z10, z11]
      · exact (((((((((((hbf.setCell (Nat.le_refl _) _).setCell (Nat.le_refl _) _).setCell (Nat.le_refl _) _).setCell (Nat.le_refl _) _).setCell (Nat.le_refl _) _).setCell (Nat.le_refl _) _).setCell (Nat.le_refl _) _).setCell (Nat.le_refl _) _).setCell (Nat.le_refl _) _).setCell (Nat.le_refl _) _).setCell (Nat.le_refl _) _).setCell (Nat.le_refl _) _

end Go.Proofs.YtpgopmmobbemcaaGreat

set_option linter.unusedVariables false
namespace Go.Proofs.YtpgopmmobbemcaaGreat
open Go.RowKit

/-- v is a part, from some place on to the end, of a row of the call's own, and holds xs. -/
def OwnQ (base : Nat) (e : TypeId) (w : World) (v : Value) (xs : List Int) : Prop :=
  ∃ g o cap cur, v = .slice (some ⟨g, o, none⟩) xs.length cap ∧ base ≤ g ∧ w.heap[g]? = some (.cells cur e (0, 0)) ∧ xs.length ≤ cap ∧ cap ≤ maxLen ∧ o + cap ≤ cur.size ∧ (cur.toList.drop o).take xs.length = xs.map (Value.int .i64) ∧ ∀ x ∈ xs, I64 x

section
variable {base : Nat} {e : TypeId} {w w' : World} {v : Value} {xs : List Int}

theorem OwnQ.block (h : OwnQ base e w v xs) : ∀ g, v.ownBlock = some g → base ≤ g ∧ g < w.heap.size := by
  obtain ⟨g, o, cap, cur, rfl, h1, h2, _⟩ := h
  intro k hk
  simp [Value.ownBlock] at hk
  subst hk
  exact ⟨h1, (Array.getElem?_eq_some_iff.1 h2).1⟩

theorem OwnQ.keep (h : OwnQ base e w v xs) (hb : ∀ g, v.ownBlock = some g → w'.heap[g]? = w.heap[g]?) : OwnQ base e w' v xs := by
  obtain ⟨g, o, cap, cur, rfl, h1, h2, h3⟩ := h
  exact ⟨g, o, cap, cur, rfl, h1, by rw [hb g rfl]; exact h2, h3⟩
theorem OwnQ.below (h : OwnQ base e w v xs) (hb : Below w.heap.size w w') : OwnQ base e w' v xs :=
  h.keep fun g hg => hb.block g (h.block g hg).2
theorem OwnQ.new (h : OwnQ base e w v xs) (o : Obj) : OwnQ base e (w.alloc o) v xs := h.below (bnew (Below.refl _ _) o)

theorem OwnQ.rebase {base' : Nat} (h : OwnQ base e w v xs) (hb : base' ≤ base) : OwnQ base' e w v xs := by
  obtain ⟨g, o, cap, cur, rfl, h1, h2⟩ := h
  exact ⟨g, o, cap, cur, rfl, by omega, h2⟩
/-- The list of ints that a literal lays. -/
theorem OwnQ.lit (w : World) (e : TypeId) (xs : List Int) (h : ∀ x ∈ xs, I64 x) (hl : xs.length ≤ 1000000000000) :
    OwnQ w.heap.size e (w.alloc (.cells (xs.map (Value.int .i64)).toArray e)) (.slice (some ⟨w.heap.size, 0, none⟩) xs.length xs.length) xs :=
  ⟨w.heap.size, 0, xs.length, _, rfl, Nat.le_refl _, heap_alloc_new w _, Nat.le_refl _, by unfold maxLen; omega, by simp, by simp [List.take_of_length_le], h⟩

theorem OwnQ.get (h : OwnQ base e w v xs) {g o cap : Nat} (hv : v = .slice (some ⟨g, o, none⟩) xs.length cap) : ∀ (i : Nat) (x : Int), xs[i]? = some x → w.cell? ⟨g, o + i, none⟩ = some (.int .i64 x) := by
  obtain ⟨g', o', cap', cur, hv', h1, h2, h3, h4, h5, h6, h7⟩ := h
  rw [hv] at hv'
  injection hv' with e1 e2 e3
  injection e1 with e1
  injection e1 with e4 e5
  subst e4 e5
  intro i x hx
  have hi : i < xs.length := (List.getElem?_eq_some_iff.1 hx).1
  have h8 := congrArg (fun l => l[i]?) h6
  simp only [List.getElem?_map, hx, Option.map_some] at h8
  rw [List.getElem?_take_of_lt hi, List.getElem?_drop] at h8
  rw [cell_of_row w g _ cur e (0, 0) h2, ← Array.getElem?_toList]
  exact h8

theorem OwnQ.slice (h : OwnQ base e w v xs) : ∃ oa c, v = .slice oa xs.length c ∧ xs.length ≤ c ∧ SliceR intR 1 (fun k => base ≤ k) w oa xs := by
  have h0 := h
  obtain ⟨g, o, cap, cur, rfl, h1, h2, h3, h4, h5, h6, h7⟩ := h
  refine ⟨_, cap, rfl, h3, fun i x hx => ⟨g, o, [.int .i64 x], rfl, h1, ⟨rfl, h7 x (List.mem_of_getElem? hx)⟩, fun j u hu => ?_⟩⟩
  have hj : j = 0 := by
    have := (List.getElem?_eq_some_iff.1 hu).1
    simp at this
    exact this
  subst hj
  simp at hu
  subst hu
  have := h0.get rfl i x hx
  simpa using this

/-- The first element, and what is left. -/
theorem OwnQ.head {x : Int} {r : List Int} (h : OwnQ base e w v (x :: r)) : ∃ g o cap, v = .slice (some ⟨g, o, none⟩) (r.length + 1) (cap + 1) ∧ base ≤ g ∧ g < w.heap.size ∧ r.length ≤ cap ∧ cap + 1 ≤ maxLen ∧ w.cell? ⟨g, o, none⟩ = some (.int .i64 x) ∧ I64 x ∧
    OwnQ base e w (.slice (some (if cap = 0 then ⟨g, o, none⟩ else ⟨g, o + 1, none⟩)) r.length cap) r := by
  have h0 := h
  obtain ⟨g, o, cap, cur, rfl, h1, h2, h3, h4, h5, h6, h7⟩ := h
  simp only [List.length_cons] at h3
  obtain ⟨cap, rfl⟩ : ∃ k, cap = k + 1 := ⟨cap - 1, by omega⟩
  have hx := h0.get rfl 0 x rfl
  refine ⟨g, o, cap, rfl, h1, (Array.getElem?_eq_some_iff.1 h2).1, by omega, h4, by simpa using hx, h7 x (by simp), ?_⟩
  by_cases hc : cap = 0
  · subst hc
    have hr : r = [] := List.eq_nil_of_length_eq_zero (by omega)
    subst hr
    exact ⟨g, o, 0, cur, by simp, h1, h2, by simp, by simp, by omega, by simp, by simp⟩
  · refine ⟨g, o + 1, cap, cur, by simp [hc], h1, h2, by omega, by omega, by omega, ?_, fun y hy => h7 y (by simp [hy])⟩
    have h8 := congrArg (List.drop 1) h6
    rw [List.drop_take, List.drop_drop] at h8
    simpa using h8

theorem run_append_q {P : Program} (t ty : TypeId) (i : TypeInfo) (z : Value) (ht : P.underlying t = some (.slice e)) (hi : P.info? e = some i) (hz : i.zero = some z)
    (hsize : i.size = 1) (hby : i.bytes = 8) (hzs : z.cells.size = 1) (h : OwnQ base e w v xs)
    (ad : Addr) (c : Nat) (x : Int) (hx : w.cell? (ad.add 0) = some (.int .i64 x)) (ix : I64 x) (hn : xs.length + 1 ≤ 1000000000) (hbase : base ≤ w.heap.size) :
    ∃ v' w', (Builtin.append_ #[t, t] ty #[v, .slice (some ad) 1 c]).run P w = .ok v' w' ∧ OwnQ base e w' v' (xs ++ [x]) ∧ w.grownBy w' v.ownBlock ∧ (∀ k, v'.ownBlock = some k → v.ownBlock = some k ∨ w.heap.size ≤ k) := by
  have h0 := h
  obtain ⟨g, o, cap, cur, rfl, h1, h2, h3, h4, h5, h6, h7⟩ := h
  have hg : g < w.heap.size := (Array.getElem?_eq_some_iff.1 h2).1
  have h7' : ∀ y ∈ xs ++ [x], I64 y := by
    intro y hy
    rcases List.mem_append.1 hy with hy | hy
    · exact h7 y hy
    · simp at hy; subst hy; exact ix
  by_cases hroom : xs.length + 1 ≤ cap
  · have hr := run_append_room_cells (P := P) (w := w) t ty e i ht hi g o xs.length cap ad 1 c [.int .i64 x] (by simp [hsize]) (fun j u hu => by
        have hj : j = 0 := by
          have := (List.getElem?_eq_some_iff.1 hu).1
          simp at this
          exact this
        subst hj
        simp at hu
        subst hu
        exact hx) (by simp [Value.oneCell']) hroom (fun j hj => by
        simp at hj
        subst hj
        rw [cell_of_row w g _ cur e (0, 0) h2, hsize]
        have : o + xs.length * 1 + 0 < cur.size := by omega
        simp; omega) (fun j _ => frozen_of_row w g _ cur e h2)
    rw [hsize] at hr
    refine ⟨_, _, hr, ?_, ?_, fun k hk => .inl hk⟩
    · have hlt : o + xs.length < cur.size := by omega
      have hh : (w.setCells g (o + xs.length * 1) [.int .i64 x]).heap[g]? = some (.cells (cur.set! (o + xs.length) (.int .i64 x)) e (0, 0)) := by
        simp [World.setCells, World.setCell, Array.getElem?_modify, h2]
      refine ⟨g, o, cap, _, by simp, h1, hh, by simpa using hroom, h4, by simpa using h5, ?_, h7'⟩
      have hl6 := congrArg List.length h6
      simp at hl6
      apply List.ext_getElem?
      intro j
      have h6j := congrArg (fun l => l[j]?) h6
      simp only [List.map_append, List.map_cons, List.map_nil, List.length_append, List.length_cons, List.length_nil]
      rcases Nat.lt_trichotomy j xs.length with hj | hj | hj
      · rw [List.getElem?_take_of_lt (by omega), List.getElem?_drop, List.getElem?_append_left (by simpa using hj), ← h6j]
        rw [List.getElem?_take_of_lt hj, List.getElem?_drop]
        simp [show ¬ (xs.length = j) from by omega]
      · subst hj
        rw [List.getElem?_take_of_lt (by omega), List.getElem?_drop, List.getElem?_append_right (by simp)]
        simp [hlt]
      · rw [List.getElem?_eq_none (by simp; omega), List.getElem?_eq_none (by simp; omega)]
    · refine ⟨rfl, rfl, rfl, by simp [World.setCells], fun k _ hne => ?_⟩
      have : ¬ (g = k) := fun he => hne (by simp [Value.ownBlock, he])
      simp [World.setCells, World.setCell, Array.getElem?_modify, this]
  · have hr := run_append_grow (P := P) w t ty e i z ht hi hz ⟨g, o, none⟩ xs.length cap (xs.map (Value.int .i64)) (by simp [hsize]) (fun j u hu => by
        rw [List.getElem?_map, Option.map_eq_some_iff] at hu
        obtain ⟨y, hy, rfl⟩ := hu
        rw [Addr.add_lit]
        exact h0.get rfl j y hy) ad 1 c [.int .i64 x] (by simp [hsize]) (fun j u hu => by
        have hj : j = 0 := by
          have := (List.getElem?_eq_some_iff.1 hu).1
          simp at this
          exact this
        subst hj
        simp at hu
        subst hu
        exact hx) (by omega) (by omega) (growslice_fits (by omega) (by rw [hby]; omega))
    have hge := grownCap_ge w (xs.length + 1) cap e
    have hcm : grownCap w (xs.length + 1) cap e ≤ maxLen := grownCap_le_maxLen w (xs.length + 1) cap e (by unfold maxLen; omega)
    refine ⟨_, _, hr, ⟨w.heap.size, 0, _, _, by simp, hbase, heap_alloc_new w.drew _, by simpa using hge, hcm, ?_, ?_, h7'⟩, ⟨rfl, rfl, rfl, by simp, fun k hk _ => heap_alloc_old w.drew _ hk⟩, fun k hk => .inr (by simp [Value.ownBlock] at hk; omega)⟩
    · simp only [Array.size_append, List.size_toArray, size_zeroCells, hzs]
      simp
      omega
    · simp only [Array.toList_append, List.drop_zero, List.length_append, List.length_cons, List.length_nil, List.map_append, List.map_cons, List.map_nil]
      rw [show xs.length + (0 + 1) = (xs.map (Value.int .i64) ++ [Value.int .i64 x]).length from by simp]
      exact List.take_left
end

/-- The arm for 'work = append(work, x)'. -/
theorem wpList_append_q {P : Program} {w : World} {ops : Array Oper} {rest : List Oper} {o : Oper} {a : Act} {Q : Exit → Act → World → Prop} (hgd : o.guard = none) (s y : Operand) (t : TypeId)
    (ho : o.op = .call { callee := .builtin .append, args := #[s, y], argTypes := #[t, t] })
    (base : Nat) (e : TypeId) (z : Value) (ht : P.underlying t = some (.slice e)) (hinfo : (P.info? e).map (fun i => (i.zero, i.size, i.bytes)) = some (some z, 1, 8))
    (hzs : z.cells.size = 1) (v : Value) (xs : List Int) (hs : a.eval s = v) (hown : OwnQ base e w v xs)
    (ad : Addr) (c : Nat) (x : Int) (hy : a.eval y = .slice (some ad) 1 c) (hx : w.cell? (ad.add 0) = some (.int .i64 x)) (ix : I64 x) (hn : xs.length + 1 ≤ 1000000000) (hbase : base ≤ w.heap.size)
    (h : ∀ v' w', OwnQ base e w' v' (xs ++ [x]) → Below base w w' → w.grownBy w' v.ownBlock → (∀ k, v'.ownBlock = some k → v.ownBlock = some k ∨ w.heap.size ≤ k) → wpList P ops Q rest (a.put o.dst v') w') : wpList P ops Q (o :: rest) a w := by
  obtain ⟨i0, hi, hz0, hz1, hz2⟩ := info_parts hinfo
  refine wpList_plain hgd fun _ hK => ?_
  obtain ⟨v', w', hrun, h2, h3, h4⟩ := run_append_q (P := P) t o.type i0 z ht hi hz0 hz1 hz2 hzs hown ad c x hx ix hn hbase
  have hb : Below base w w' := (Below.refl base w).grown h3 hbase fun k hk => (hown.block k hk).1
  unfold Oper.wp execOp
  simp only [ho, resolve, invoke, builtin, Sem.run_bind, Sem.run_pure, Result.andThen_ok, List.map_toArray, List.map_cons, List.map_nil, hs, hy, hrun]
  exact hK _ _ (h v' w' h2 hb h3 h4)

end Go.Proofs.YtpgopmmobbemcaaGreat

set_option linter.unusedVariables false
namespace Go.Proofs.YtpgopmmobbemcaaGreat
open Go.RowKit

/-- Block g holds f of xs, and behind them rest. -/
def Row1 {α : Type} (f : α → Value) (w : World) (g : Nat) (e : TypeId) (xs : List α) (rest : List Value) : Prop := w.heap[g]? = some (.cells (xs.map f ++ rest).toArray e (0, 0))

section
variable {α : Type} {f : α → Value} {w w' : World} {g : Nat} {e : TypeId} {xs : List α} {rest : List Value}
theorem Row1.lt (h : Row1 f w g e xs rest) : g < w.heap.size := (Array.getElem?_eq_some_iff.1 h).1
theorem Row1.cell (h : Row1 f w g e xs rest) {i : Nat} {x : α} (hi : xs[i]? = some x) : w.cell? ⟨g, i, none⟩ = some (f x) := by
  have hl : i < xs.length := (List.getElem?_eq_some_iff.1 hi).1
  rw [cell_of_row w g _ _ _ _ h]
  simp only [List.getElem?_toArray]
  rw [List.getElem?_append_left (by simpa using hl), List.getElem?_map, hi]
  rfl
theorem Row1.free (h : Row1 f w g e xs rest) (i : Nat) : w.frozen? ⟨g, i, none⟩ = false := frozen_of_row w g i _ _ h
theorem Row1.keep (h : Row1 f w g e xs rest) (hb : w'.heap[g]? = w.heap[g]?) : Row1 f w' g e xs rest := hb.trans h
theorem Row1.below (h : Row1 f w g e xs rest) (hb : Below w.heap.size w w') : Row1 f w' g e xs rest := h.keep (hb.block g h.lt)
theorem Row1.new (h : Row1 f w g e xs rest) (o : Obj) : Row1 f (w.alloc o) g e xs rest := h.below (bnew (Below.refl _ _) o)
theorem Row1.draw (h : Row1 f w g e xs rest) : Row1 f w.drew g e xs rest := h
theorem heap_set1 (w : World) (g i : Nat) (l : List Value) (e : TypeId) (u : Value) (h : w.heap[g]? = some (.cells l.toArray e (0, 0))) : (w.setCell ⟨g, i, none⟩ u).heap[g]? = some (.cells (l.set i u).toArray e (0, 0)) := by
  simp [World.setCell, Array.getElem?_modify, h]
theorem Row1.put (h : Row1 f w g e xs rest) {i : Nat} (hi : i < xs.length) (y : α) : Row1 f (w.setCell ⟨g, i, none⟩ (f y)) g e (xs.set i y) rest := by
  unfold Row1
  rw [heap_set1 w g i _ e _ h, List.set_append_left _ _ (by simpa using hi), List.map_set]
/-- A store into another block. -/
theorem Row1.other (h : Row1 f w g e xs rest) {p : Addr} (hp : g ≠ p.block) (u : Value) : Row1 f (w.setCell p u) g e xs rest := h.keep (Below.heap_setCell w p u g hp)
theorem Row1.of (cur : List Value) (h : w.heap[g]? = some (.cells cur.toArray e (0, 0))) (hx : xs.map f = cur.take xs.length) : Row1 f w g e xs (cur.drop xs.length) := by
  unfold Row1
  rw [hx, List.take_append_drop]
  exact h
theorem Row1.own (h : Row1 f w g e xs rest) (hone : ∀ x, (f x).cells = #[f x]) {base cap : Nat} (hg : base ≤ g) (hc : cap = xs.length + rest.length) (hm : cap ≤ maxLen) :
    w.ownsRow base e 1 (.slice (some ⟨g, 0, none⟩) xs.length cap) xs.length (xs.map f) :=
  ⟨by simp, .inr ⟨g, cap, _, rfl, hg, h, by omega, hm, by simp; omega, by simp⟩⟩
end

section
variable {w w' : World} {g base : Nat} {e : TypeId} {F : Foot} {rest : List Value} {v : Value}
theorem Row1.ints {xs : List Int} (h : Row1 (Value.int .i64) w g e xs rest) (hx : ∀ x ∈ xs, I64 x) (hF : F g) : SliceR intR 1 F w (some ⟨g, 0, none⟩) xs := by
  intro i x hi
  refine ⟨g, 0, [.int .i64 x], rfl, hF, ⟨rfl, hx x (List.mem_of_getElem? hi)⟩, fun j u hu => ?_⟩
  have hj : j = 0 := by
    have := (List.getElem?_eq_some_iff.1 hu).1
    simp at this
    exact this
  subst hj
  simp at hu
  subst hu
  simpa using h.cell hi
/-- A row of ints that append made (or grew), known whole. -/
theorem OwnS.row {xs : List Int} (h : OwnS intR 1 base e F w v xs) (hne : xs ≠ []) : ∃ g cap rest, v = .slice (some ⟨g, 0, none⟩) xs.length cap ∧ base ≤ g ∧ cap = xs.length + rest.length ∧ cap ≤ maxLen ∧ Row1 (Value.int .i64) w g e xs rest ∧ ∀ x ∈ xs, I64 x := by
  obtain ⟨cells, ho, h1, hc⟩ := h
  have hcells : cells = xs.map (Value.int .i64) := by
    have hl := ho.1
    apply List.ext_getElem?
    intro i
    rw [List.getElem?_map]
    rcases Nat.lt_or_ge i xs.length with hi | hi
    · have h2 := (hc i _ (List.getElem?_eq_getElem hi)).1
      rw [List.getElem?_eq_getElem hi]
      have h3 := congrArg (fun l => l[0]?) h2
      simp only [chunk, Nat.mul_one] at h3
      rw [List.getElem?_take_of_lt (by omega), List.getElem?_drop] at h3
      simpa using h3
    · rw [List.getElem?_eq_none (by omega), List.getElem?_eq_none (by omega)]
      rfl
  have h64 : ∀ x ∈ xs, I64 x := fun x hx => by
    obtain ⟨i, hi, rfl⟩ := List.getElem_of_mem hx
    exact (hc i _ (List.getElem?_eq_getElem hi)).2
  rcases ho.2 with ⟨_, hn⟩ | ⟨g, cap, cur, rfl, hg, hh, hle, hcm, hcs, htake⟩
  · exact absurd (List.eq_nil_of_length_eq_zero hn) hne
  · refine ⟨g, cap, cur.toList.drop xs.length, rfl, hg, by simp; omega, hcm, Row1.of cur.toList hh ?_, h64⟩
    rw [← hcells, ← htake, Nat.mul_one]
/-- Back. -/
theorem Row1.ownInts {xs : List Int} (h : Row1 (Value.int .i64) w g e xs rest) (hx : ∀ x ∈ xs, I64 x) {cap : Nat} (hg : base ≤ g) (hc : cap = xs.length + rest.length) (hm : cap ≤ maxLen) :
    OwnS intR 1 base e F w (.slice (some ⟨g, 0, none⟩) xs.length cap) xs := by
  refine ⟨xs.map (Value.int .i64), h.own (fun _ => rfl) hg hc hm, ?_, ?_⟩
  · intro u hu
    obtain ⟨x, _, rfl⟩ := List.mem_map.1 hu
    rfl
  · intro i x hi
    refine ⟨?_, hx x (List.mem_of_getElem? hi)⟩
    have hl : i < xs.length := (List.getElem?_eq_some_iff.1 hi).1
    apply List.ext_getElem?
    intro j
    unfold chunk
    match j with
    | 0 =>
      rw [List.getElem?_take_of_lt (by omega), List.getElem?_drop, List.getElem?_map]
      simp [hi]
    | j + 1 => rw [List.getElem?_eq_none (by simp; omega), List.getElem?_eq_none (by simp)]
end

/-- make([]T, n): a row of n zeros. -/
theorem wpList_make_row {α : Type} {f : α → Value} {P : Program} (w : World) {ops : Array Oper} {rest : List Oper} {o : Oper} {a : Act} {Q : Exit → Act → World → Prop}
    (hg : o.guard = none) (l c : Operand) (t : TypeId) (hop : o.op = Op.makeSlice t l c) (e : TypeId) (x0 : α) (bytes : Nat) (h1 : P.underlying t = some (.slice e)) (hinfo : (P.info? e).map (fun i => (i.zero, i.size, i.bytes)) = some (some (f x0), 1, bytes))
    (hone : (f x0).cells = #[f x0]) (kl kc : IntKind) (L C : Int) (n : Nat) (hl : a.eval l = .int kl L) (hc : a.eval c = .int kc C) (hL : L = (n : Int)) (hC : C = (n : Int)) (b2 : bytes * n ≤ 281474976710656) (b3 : n ≤ maxLen)
    (hK : ∀ w', Row1 f w' w.heap.size e (List.replicate n x0) [] → Below w.heap.size w w' → w.grownBy w' none → wpList P ops Q rest (a.put o.dst (.slice (some ⟨w.heap.size, 0, none⟩) n n)) w') :
    wpList P ops Q (o :: rest) a w := by
  obtain ⟨i0, hi, hz0, hz1, hz2⟩ := info_parts hinfo
  refine wpList_make_full w hg l c t hop w.heap.size e i0 (f x0) 1 h1 hi hz0 hz1 kl kc L C n hl hc hL hC (by rw [hz2]; exact b2) b3 (Nat.le_refl _) fun w' hown hgr => hK w' ?_ ((Below.refl _ _).grown hgr (Nat.le_refl _) fun k hk => by cases hk) hgr
  rcases hown.2 with ⟨he, _⟩ | ⟨g, cap, cur, he, _, hh, _, _, hcs, htake⟩
  · cases he
  · injection he with e1 e2 e3
    injection e1 with e1
    injection e1 with e1
    subst e1 e3
    have hcur : cur.toList = (List.replicate n x0).map f ++ [] := by
      rw [List.append_nil, List.map_replicate]
      rw [← List.take_of_length_le (l := cur.toList) (i := n * 1) (by simp; omega), htake]
      apply List.ext_getElem?
      intro j
      simp only [Array.getElem?_toList, madeCells, Array.getElem?_map, Array.getElem?_range, List.getElem?_replicate, hone]
      by_cases hj : j < n
      · simp [hj, Nat.mod_one]
      · simp [hj]
    unfold Row1
    rw [← hcur]
    exact hh

end Go.Proofs.YtpgopmmobbemcaaGreat

set_option linter.unusedVariables false
set_option linter.unusedSimpArgs false
namespace Go.Proofs.YtpgopmmobbemcaaGreat
open Go.RowKit

def OwnN (base : Nat) (e : TypeId) (w : World) (v : Value) (xs : List Int) : Prop := (v = .slice none 0 0 ∧ xs = []) ∨ OwnQ base e w v xs

section
variable {base : Nat} {e : TypeId} {w w' : World} {v : Value} {xs : List Int}
theorem OwnN.nil : OwnN base e w (.slice none 0 0) [] := .inl ⟨rfl, rfl⟩
theorem OwnN.block (h : OwnN base e w v xs) : ∀ g, v.ownBlock = some g → base ≤ g ∧ g < w.heap.size := by
  intro g hg
  rcases h with ⟨rfl, _⟩ | h
  · simp [Value.ownBlock] at hg
  · exact h.block g hg
theorem OwnN.keep (h : OwnN base e w v xs) (hb : ∀ g, v.ownBlock = some g → w'.heap[g]? = w.heap[g]?) : OwnN base e w' v xs := h.imp id fun h => h.keep hb
theorem OwnN.below (h : OwnN base e w v xs) (hb : Below w.heap.size w w') : OwnN base e w' v xs := h.keep fun g hg => hb.block g (h.block g hg).2
theorem OwnN.new (h : OwnN base e w v xs) (o : Obj) : OwnN base e (w.alloc o) v xs := h.below (bnew (Below.refl _ _) o)
theorem OwnN.draw (h : OwnN base e w v xs) : OwnN base e w.drew v xs := h.keep fun _ _ => rfl
theorem OwnN.slice (h : OwnN base e w v xs) : ∃ oa c, v = .slice oa xs.length c ∧ xs.length ≤ c ∧ SliceR intR 1 (fun k => base ≤ k) w oa xs := by
  rcases h with ⟨rfl, rfl⟩ | h
  · exact ⟨none, 0, rfl, by simp, SliceR.nil _ _ _ _ _⟩
  · exact h.slice
theorem OwnN.rebase {base' : Nat} (h : OwnN base e w v xs) (hb : base' ≤ base) : OwnN base' e w v xs := h.imp id fun h => h.rebase hb

theorem run_append_n {P : Program} (t ty : TypeId) (i : TypeInfo) (z : Value) (ht : P.underlying t = some (.slice e)) (hi : P.info? e = some i) (hz : i.zero = some z)
    (hsize : i.size = 1) (hby : i.bytes = 8) (hzs : z.cells.size = 1) (h : OwnN base e w v xs)
    (ad : Addr) (c : Nat) (x : Int) (hx : w.cell? (ad.add 0) = some (.int .i64 x)) (ix : I64 x) (hn : xs.length + 1 ≤ 1000000000) (hbase : base ≤ w.heap.size) :
    ∃ v' w', (Builtin.append_ #[t, t] ty #[v, .slice (some ad) 1 c]).run P w = .ok v' w' ∧ OwnN base e w' v' (xs ++ [x]) ∧ w.grownBy w' v.ownBlock ∧ (∀ k, v'.ownBlock = some k → v.ownBlock = some k ∨ w.heap.size ≤ k) := by
  rcases h with ⟨rfl, rfl⟩ | h
  · have hr := run_append_nil (P := P) w t ty e i z ht hi hz ad 1 c [.int .i64 x] (by simp [hsize]) (fun j u hu => by
      have hj : j = 0 := by
        have := (List.getElem?_eq_some_iff.1 hu).1
        simp at this
        exact this
      subst hj
      simp at hu
      subst hu
      exact hx) (by omega) (by omega) (by rw [hby]; omega)
    have hge := grownCap_ge w 1 0 e
    have hcm : grownCap w 1 0 e ≤ maxLen := grownCap_le_maxLen w 1 0 e (by unfold maxLen; omega)
    refine ⟨_, _, hr, .inr ⟨w.heap.size, 0, _, _, by simp, hbase, heap_alloc_new w.drew _, by simpa using hge, hcm, ?_, ?_, ?_⟩, ⟨rfl, rfl, rfl, by simp, fun k hk _ => heap_alloc_old w.drew _ hk⟩, fun k hk => .inr (by simp [Value.ownBlock] at hk; omega)⟩
    · simp only [Array.size_append, List.size_toArray, size_zeroCells, hzs]
      simp
      omega
    · simp
    · intro y hy
      simp at hy
      subst hy
      exact ix
  · obtain ⟨v', w', h1, h2, h3, h4⟩ := run_append_q (P := P) t ty i z ht hi hz hsize hby hzs h ad c x hx ix hn hbase
    exact ⟨v', w', h1, .inr h2, h3, h4⟩
end

/-- Many lists side by side, no two in one block. -/
structure OwnM (base : Nat) (e : TypeId) (w : World) (vs : List Value) (xss : List (List Int)) : Prop where
  len : vs.length = xss.length
  own : ∀ (i : Nat) (v : Value) (xs : List Int), vs[i]? = some v → xss[i]? = some xs → OwnN base e w v xs
  apart : ∀ (i j : Nat) (v u : Value) (k : Nat), vs[i]? = some v → vs[j]? = some u → v.ownBlock = some k → u.ownBlock = some k → i = j

section
variable {base : Nat} {e : TypeId} {w w' : World} {vs : List Value} {xss : List (List Int)}
theorem OwnM.nils (n : Nat) : OwnM base e w (List.replicate n (.slice none 0 0)) (List.replicate n []) :=
  by
  refine ⟨by simp, fun i v xs h1 h2 => ?_, fun i j v u k h1 h2 h3 _ => ?_⟩
  · rw [List.getElem?_replicate] at h1 h2
    split at h1
    · rename_i hi
      simp [hi] at h1 h2
      subst h1 h2
      exact OwnN.nil
    · cases h1
  · rw [List.getElem?_replicate] at h1
    split at h1
    · injection h1 with h1
      subst h1
      simp [Value.ownBlock] at h3
    · cases h1
theorem OwnM.keep (h : OwnM base e w vs xss) (hb : ∀ (i : Nat) (v : Value) (g : Nat), vs[i]? = some v → v.ownBlock = some g → w'.heap[g]? = w.heap[g]?) : OwnM base e w' vs xss :=
  ⟨h.len, fun i v xs h1 h2 => (h.own i v xs h1 h2).keep fun g hg => hb i v g h1 hg, h.apart⟩
theorem OwnM.block (h : OwnM base e w vs xss) {i : Nat} {v : Value} (hi : vs[i]? = some v) : ∀ g, v.ownBlock = some g → base ≤ g ∧ g < w.heap.size := by
  have hl : i < vs.length := (List.getElem?_eq_some_iff.1 hi).1
  have hl2 : i < xss.length := by rw [← h.len]; exact hl
  exact (h.own i v xss[i] hi (List.getElem?_eq_getElem hl2)).block
theorem OwnM.below (h : OwnM base e w vs xss) (hb : Below w.heap.size w w') : OwnM base e w' vs xss := h.keep fun i v g h1 hg => hb.block g (h.block h1 g hg).2
theorem OwnM.new (h : OwnM base e w vs xss) (o : Obj) : OwnM base e (w.alloc o) vs xss := h.below (bnew (Below.refl _ _) o)
theorem OwnM.draw (h : OwnM base e w vs xss) : OwnM base e w.drew vs xss := h.keep fun _ _ _ _ _ => rfl
/-- A store into a block that is none of theirs. -/
theorem OwnM.other (h : OwnM base e w vs xss) {p : Addr} (hp : p.block < base) (u : Value) : OwnM base e (w.setCell p u) vs xss :=
  h.keep fun i v g h1 hg => Below.heap_setCell w p u g (by have := (h.block h1 g hg).1; omega)
/-- List i has grown. -/
theorem OwnM.grow (h : OwnM base e w vs xss) {i : Nat} {v v' : Value} {xs : List Int} {x : Int} {o : Obj} (hi : vs[i]? = some v) (hx : xss[i]? = some xs)
    (ho : OwnN base e w' v' (xs ++ [x])) (hg : (w.alloc o).grownBy w' v.ownBlock) (hv : ∀ k, v'.ownBlock = some k → v.ownBlock = some k ∨ (w.alloc o).heap.size ≤ k) : OwnM base e w' (vs.set i v') (xss.set i (xs ++ [x])) := by
  have hil : i < vs.length := (List.getElem?_eq_some_iff.1 hi).1
  refine ⟨by simp [h.len], fun j u ys hu hy => ?_, fun j l u t k hu ht hku hkt => ?_⟩
  · by_cases e1 : i = j
    · subst e1
      rw [List.getElem?_set_self hil] at hu
      rw [List.getElem?_set_self (by rw [← h.len]; exact hil)] at hy
      injection hu with hu
      injection hy with hy
      subst hu hy
      exact ho
    · rw [List.getElem?_set_ne e1] at hu hy
      refine ((h.own j u ys hu hy).new o).keep fun g hgu => hg.block g (by have := (h.block hu g hgu).2; simp; omega) fun he => e1 (h.apart i j v u g hi hu he.symm hgu)
  · have key : ∀ (m : Nat) (y : Value), (vs.set i v')[m]? = some y → y.ownBlock = some k → (m = i ∧ y = v') ∨ (m ≠ i ∧ vs[m]? = some y) := fun m y hy _ => by
      by_cases e1 : i = m
      · subst e1
        rw [List.getElem?_set_self hil] at hy
        injection hy with hy
        exact .inl ⟨rfl, hy.symm⟩
      · rw [List.getElem?_set_ne e1] at hy
        exact .inr ⟨fun e => e1 e.symm, hy⟩
    have cross : ∀ (m : Nat) (y : Value), vs[m]? = some y → m ≠ i → y.ownBlock = some k → v'.ownBlock = some k → False := fun m y hy hm hky hkv => by
      rcases hv k hkv with h1 | h1
      · exact hm (h.apart m i y v k hy hi hky h1)
      · have := (h.block hy k hky).2; simp at h1; omega
    rcases key j u hu hku with ⟨a1, a2⟩ | ⟨a1, a2⟩ <;> rcases key l t ht hkt with ⟨b1, b2⟩ | ⟨b1, b2⟩
    · rw [a1, b1]
    · subst a2; exact (cross l t b2 b1 hkt hku).elim
    · subst b2; exact (cross j u a2 a1 hku hkt).elim
    · exact h.apart j l u t k a2 b2 hku hkt
/-- One more, empty. -/
theorem OwnM.snoc (h : OwnM base e w vs xss) : OwnM base e w (vs ++ [.slice none 0 0]) (xss ++ [[]]) := by
  refine ⟨by simp [h.len], fun j u ys hu hy => ?_, fun j l u t k hu ht hku hkt => ?_⟩
  · rcases Nat.lt_or_ge j vs.length with hj | hj
    · rw [List.getElem?_append_left hj] at hu
      rw [List.getElem?_append_left (by rw [← h.len]; exact hj)] at hy
      exact h.own j u ys hu hy
    · rw [List.getElem?_append_right hj] at hu
      rw [List.getElem?_append_right (by rw [← h.len]; exact hj)] at hy
      have : j - vs.length = 0 := by
        have := (List.getElem?_eq_some_iff.1 hu).1
        simp at this
        omega
      rw [this] at hu
      rw [← h.len, this] at hy
      simp at hu hy
      subst hu hy
      exact OwnN.nil
  · have key : ∀ (m : Nat) (y : Value), (vs ++ [.slice none 0 0])[m]? = some y → y.ownBlock = some k → vs[m]? = some y := fun m y hy hk => by
      rcases Nat.lt_or_ge m vs.length with hj | hj
      · rw [List.getElem?_append_left hj] at hy; exact hy
      · rw [List.getElem?_append_right hj] at hy
        have hm := List.mem_of_getElem? hy
        simp at hm
        subst hm
        simp [Value.ownBlock] at hk
    exact h.apart j l u t k (key j u hu hku) (key l t ht hkt) hku hkt
end

end Go.Proofs.YtpgopmmobbemcaaGreat

set_option linter.unusedVariables false
set_option linter.unusedSimpArgs false
namespace Go.Proofs.YtpgopmmobbemcaaGreat
open Go.RowKit

/-- ov holds the headers vs (elements of type lt) of the lists xss (of elements of type e). -/
structure Lists (base : Nat) (e lt : TypeId) (w : World) (ov : Value) (vs : List Value) (xss : List (List Int)) : Prop where
  row : w.ownsRow base lt 1 ov vs.length vs
  ms : OwnM base e w vs xss
  off : ∀ (i : Nat) (v : Value) (k : Nat), vs[i]? = some v → v.ownBlock = some k → ov.ownBlock ≠ some k

section
variable {base : Nat} {e lt : TypeId} {w w' : World} {ov : Value} {vs : List Value} {xss : List (List Int)}
theorem Lists.nil (base : Nat) (e lt : TypeId) (w : World) : Lists base e lt w (.slice none 0 0) [] [] :=
  ⟨World.ownsRow_nil _ _ _ _, OwnM.nils 0, fun i v k h => by simp at h⟩
theorem Lists.len (h : Lists base e lt w ov vs xss) : vs.length = xss.length := h.ms.len
theorem Lists.below (h : Lists base e lt w ov vs xss) (hb : Below w.heap.size w w') : Lists base e lt w' ov vs xss := by
  refine ⟨h.row.kept (row := none) ⟨hb.os, hb.tape, hb.output, hb.size, fun k hk _ => hb.block k hk⟩ ?_, h.ms.below hb, h.off⟩
  cases ov.ownBlock <;> simp
theorem Lists.new (h : Lists base e lt w ov vs xss) (o : Obj) : Lists base e lt (w.alloc o) ov vs xss := h.below (bnew (Below.refl _ _) o)
theorem Lists.draw (h : Lists base e lt w ov vs xss) : Lists base e lt w.drew ov vs xss := ⟨h.row.drew, h.ms.draw, h.off⟩
/-- A change in blocks that are not theirs. -/
theorem Lists.under (h : Lists base e lt w ov vs xss) {k : Nat} (hg : w.grownBy w' (some k)) (hk : k < base) : Lists base e lt w' ov vs xss := by
  refine ⟨h.row.kept hg ?_, h.ms.keep fun i v g h1 hgv => hg.block g (h.ms.block h1 g hgv).2 ?_, h.off⟩
  · refine .inr fun he => ?_
    have := (h.row.lt k he).1
    omega
  · intro he
    injection he with he
    have := (h.ms.block h1 g hgv).1
    omega
/-- One more list, empty: 'out = append(out, nil)'. -/
theorem Lists.snoc (h : Lists base e lt w ov vs xss) {o : Obj} {ov' : Value} (hr : w'.ownsRow base lt 1 ov' (vs.length + 1) (vs ++ [.slice none 0 0])) (hg : (w.alloc o).grownBy w' ov.ownBlock)
    (hat : ov'.ownBlock = ov.ownBlock ∨ ov'.ownBlock = some (w.alloc o).heap.size) : Lists base e lt w' ov' (vs ++ [.slice none 0 0]) (xss ++ [[]]) := by
  have hnew : ∀ (i : Nat) (v : Value) (k : Nat), (vs ++ [.slice none 0 0])[i]? = some v → v.ownBlock = some k → vs[i]? = some v := fun i v k hi hk => by
    rcases Nat.lt_or_ge i vs.length with hj | hj
    · rw [List.getElem?_append_left hj] at hi; exact hi
    · rw [List.getElem?_append_right hj] at hi
      have hm := List.mem_of_getElem? hi
      simp at hm
      subst hm
      simp [Value.ownBlock] at hk
  refine ⟨by rw [List.length_append]; exact hr, ((h.ms.new o).keep fun i v g h1 hgv => hg.block g ?_ fun he => h.off i v g h1 hgv he.symm).snoc, fun i v k hi hk he => ?_⟩
  · have := (h.ms.block h1 g hgv).2; simp; omega
  · have h1 := hnew i v k hi hk
    rcases hat with ha | ha
    · exact h.off i v k h1 hk (ha ▸ he)
    · rw [ha] at he
      injection he with he
      have := (h.ms.block h1 k hk).2
      simp at he
      omega
/-- List i has grown, and its header was stored: 'out[i] = append(out[i], x)'. -/
theorem Lists.grow {g cap : Nat} (h : Lists base e lt w (.slice (some ⟨g, 0, none⟩) vs.length cap) vs xss) {i : Nat} {v v' : Value} {xs : List Int} {x : Int} {o : Obj} (hi : vs[i]? = some v) (hx : xss[i]? = some xs)
    (ho : OwnN base e w' v' (xs ++ [x])) (hg : (w.alloc o).grownBy w' v.ownBlock) (hv : ∀ k, v'.ownBlock = some k → v.ownBlock = some k ∨ (w.alloc o).heap.size ≤ k) :
    Lists base e lt (w'.setCell ⟨g, i, none⟩ v') (.slice (some ⟨g, 0, none⟩) (vs.set i v').length cap) (vs.set i v') (xss.set i (xs ++ [x])) := by
  have hgl := (h.row.lt g rfl).2
  have hng : v.ownBlock ≠ some g := fun he => h.off i v g hi he rfl
  have hng' : v'.ownBlock ≠ some g := fun he => by
    rcases hv g he with h1 | h1
    · exact hng h1
    · simp at h1; omega
  have hrow : w'.ownsRow base lt 1 (.slice (some ⟨g, 0, none⟩) vs.length cap) vs.length vs := (h.row.alloc o).kept hg (.inr fun he => hng he.symm)
  have hms := h.ms.grow hi hx ho hg hv
  have hoff : ∀ (j : Nat) (u : Value) (k : Nat), (vs.set i v')[j]? = some u → u.ownBlock = some k → k ≠ g := fun j u k hu hk he => by
    subst he
    by_cases e1 : i = j
    · subst e1
      rw [List.getElem?_set_self (List.getElem?_eq_some_iff.1 hi).1] at hu
      injection hu with hu
      subst hu
      exact hng' hk
    · rw [List.getElem?_set_ne e1] at hu
      exact h.off j u k hu hk rfl
  refine ⟨by rw [List.length_set]; exact (hrow.stored i v').1, hms.keep fun j u k hu hk => Below.heap_setCell _ _ _ _ ?_, fun j u k hu hk he => hoff j u k hu hk ?_⟩
  · exact hoff j u k hu hk
  · simp [Value.ownBlock] at he; exact he.symm
end

/-- 'append(v, x)' as one step of a region that draws its order. -/
theorem step_append_n {P : Program} {ops : Array Oper} {o : Oper} {a : Act} {w : World} {K : Act → World → Prop} {Q : Exit → Act → World → Prop} {E : Prop} (hgd : o.guard = none) (s y : Operand) (t : TypeId)
    (ho : o.op = .call { callee := .builtin .append, args := #[s, y], argTypes := #[t, t] })
    (base : Nat) (e : TypeId) (z : Value) (ht : P.underlying t = some (.slice e)) (hinfo : (P.info? e).map (fun i => (i.zero, i.size, i.bytes)) = some (some z, 1, 8))
    (hzs : z.cells.size = 1) (v : Value) (xs : List Int) (hs : a.eval s = v) (hown : OwnN base e w v xs)
    (ad : Addr) (c : Nat) (x : Int) (hy : a.eval y = .slice (some ad) 1 c) (hx : w.cell? (ad.add 0) = some (.int .i64 x)) (ix : I64 x) (hn : xs.length + 1 ≤ 1000000000) (hbase : base ≤ w.heap.size)
    (hK : ∀ v' w', OwnN base e w' v' (xs ++ [x]) → Below base w w' → w.grownBy w' v.ownBlock → (∀ k, v'.ownBlock = some k → v.ownBlock = some k ∨ w.heap.size ≤ k) → K (a.put o.dst v') w') :
    if Region.wanted o (yielded ops a.tmps) = true then Oper.wp P o a w K Q else E := by
  have hw : Region.wanted o (yielded ops a.tmps) = true := by simp [Region.wanted, hgd]
  rw [if_pos hw]
  obtain ⟨i0, hi, hz0, hz1, hz2⟩ := info_parts hinfo
  obtain ⟨v', w', hrun, h2, h3, h4⟩ := run_append_n (P := P) t o.type i0 z ht hi hz0 hz1 hz2 hzs hown ad c x hx ix hn hbase
  have hb : Below base w w' := (Below.refl base w).grown h3 hbase fun k hk => (hown.block k hk).1
  unfold Oper.wp execOp
  simp only [ho, resolve, invoke, builtin, Sem.run_bind, Sem.run_pure, Result.andThen_ok, List.map_toArray, List.map_cons, List.map_nil, hs, hy, hrun]
  exact hK v' w' h2 hb h3 h4

end Go.Proofs.YtpgopmmobbemcaaGreat

set_option linter.unusedVariables false
set_option linter.unusedSimpArgs false
namespace Go.Proofs.YtpgopmmobbemcaaGreat
open Go.RowKit Go.Maps

theorem intInfo8 : (Tryz.prog.info? 3).map (fun i => (i.zero, i.size, i.bytes)) = some (some (.int .i64 0), 1, 8) := by kernel_rfl
theorem listInfo : (Tryz.prog.info? 25).map (fun i => (i.zero, i.size, i.bytes)) = some (some (.slice none 0 0), 1, 24) := by kernel_rfl
theorem keyLaw : Keyed Tryz.prog 3 := int_keyed Tryz.underlying3
theorem zeroInt (w : World) : (zeroValue 3).run Tryz.prog w = .ok (.int .i64 0) w := by kernel_rfl
abbrev DU := DataW Unit
def kl (r : Nat) : Lit := .int .i64 r
def vl (r : Nat) : DU := .lit (.int .i64 r)
theorem nat_wf {r : Nat} (h : r < 9223372036854775808) : (Lit.int .i64 (r : Nat)).wf = true := WalkArith.wf_i64 ⟨by omega, by omega⟩

set_option maxRecDepth 100000 in
theorem look_at {w : World} {b n : Nat} {D : DU} (h : w.ownsMap Tryz.prog 3 (plainElem (H := Unit) Tryz.prog 3) b n D) {r i : Nat} (hr : r < 9223372036854775808) (hat : D.atKey (kl r) (vl 0) = vl i) :
    (Instr.lookup 210 (.map (some b)) (.int .i64 (r : Nat)) false).run Tryz.prog w = .ok (.int .i64 (i : Nat)) w := by
  obtain ⟨c, hrun, hc, _⟩ := World.ownsMap.lookup_int h keyLaw Tryz.underlying210 Tryz.underlying3 (zeroInt w) (keyOf_int_mk Tryz.underlying3 (nat_wf hr))
  have : vl i = (.lit (.int .i64 c) : DU) := hat.symm.trans hc
  simp only [vl, DataW.lit.injEq, Lit.int.injEq, true_and] at this
  rw [hrun, this]

theorem grown_setR (w : World) (p : Addr) (v : Value) : w.grownBy (w.setCell p v) (some p.block) := ⟨rfl, rfl, rfl, by simp, fun k _ hk => heap_setCell_other w p k v (fun e => hk (by simp [e]))⟩
theorem one_cell {w : World} {t : TypeId} {v : Value} {j : Nat} {u : Value} (h : [v][j]? = some u) : (w.alloc (.cells #[v] t)).cell? ((⟨w.heap.size, 0, none⟩ : Addr).add j) = some u := by
  have hj : j = 0 := by
    have := (List.getElem?_eq_some_iff.1 h).1
    simp at this
    exact this
  subst hj
  simp at h
  subst h
  exact (Box.new w [v] t).cell 0

/-- How many of the first n vertices stand for themselves. -/
def cnt (f : List Nat) (n : Nat) : Nat := ((List.range n).filter fun v => rootF f v == v).length
theorem cnt_yes {f : List Nat} {k : Nat} (h : rootF f k = k) : cnt f (k + 1) = cnt f k + 1 := by
  simp [cnt, List.range_succ, List.filter_append, h]
theorem cnt_no {f : List Nat} {k : Nat} (h : ¬ rootF f k = k) : cnt f (k + 1) = cnt f k := by
  simp [cnt, List.range_succ, List.filter_append, h]

def PartsPost (w : World) (f : List Nat) (n : Nat) (e : Ending) (w' : World) : Prop := ∃ oa c, e = .returned (.slice oa (cnt f n) c) ∧ Below w.heap.size w w'

set_option maxRecDepth 100000 in
set_option maxHeartbeats 4000000 in
theorem parts_any (f : List Nat) (B n : Nat) (w : World) (hb : Box w B (castV f) 199) (hf : Hid (Fst f)) (hn : n ≤ 12) :
    Calls Tryz.prog 159 #[.pointer (some ⟨B, 0, none⟩), .int .i64 n] w (PartsPost w f n) := by
  have hmm := @run_makeMap Tryz.prog
  have hBl := hb.lt
  obtain ⟨i0, hi0, hz0, hz1, hz2⟩ := info_parts listInfo
  go_enter Tryz.func159, Tryz.ntmps159
  go_wp2_with fail
  have hm0 := World.ownsMap_made (H := Unit) w Tryz.prog 3 (plainElem (H := Unit) Tryz.prog 3)
  have hb0 : Below w.heap.size w (w.alloc (.map #[] 0)) := (Below.refl _ _).alloc (Nat.le_refl _) _
  go_loopw [5, 11] (fun ov iv wr => ∃ (k : Nat) (vs : List Value) (xss : List (List Int)) (m : Nat) (D : DU), k ≤ n ∧ iv = .int .i64 k ∧ Hid (vs.length = cnt f k) ∧ Lists (w.heap.size + 1) 3 25 wr ov vs xss ∧
      wr.ownsMap Tryz.prog 3 (plainElem (H := Unit) Tryz.prog 3) w.heap.size m D ∧ m ≤ k ∧ vs.length ≤ k ∧ Hid (∀ r, r < k → rootF f r = r → ∃ i, i < vs.length ∧ D.atKey (kl r) (vl 0) = vl i) ∧ Hid (∀ xs ∈ xss, xs.length ≤ k) ∧ Below w.heap.size w wr) (fun _ iv _ => n - (intOf iv).toNat)
  case atStart => exact ⟨0, [], [], 0, _, by omega, rfl, rfl, Lists.nil _ _ _ _, hm0, by omega, by simp, fun r hr => by omega, fun xs hx => by simp at hx, hb0⟩
  case round =>
    clear hm0 hb0
    obtain ⟨k, vs, xss, m, D, hk, rfl, HC, HL, hmap, hmk, hvk, HI, HS, hbW⟩ := hrel
    by_cases hlt : k < n
    · have HR : Hid (rootF f k ≤ k) := rootF_le hf.out (by omega)
      have HRR : Hid (rootF f (rootF f k) = rootF f k) := rootF_self hf.out (rootF_fix hf.out (by omega))
      have hbw := hb.below hbW
      have hk12 : k < 12 := by omega
      have hszr := hbW.size
      go_wp2_with fail
      refine (root_any f B k _ hbw hf hk12).mono ?_
      rintro e w2 ⟨rfl, rfl⟩
      have hrk := HR.out
      by_cases hroot : rootF f k = k
      · have HC2 : Hid (vs.length + 1 = cnt f (k + 1)) := by show _ = _; rw [cnt_yes hroot, HC.out]
        rw [hroot]
        have hiD : IsMap D := hmap.isMap
        have HI2 : Hid (∀ r, r < k + 1 → rootF f r = r → ∃ i, i < (vs ++ [Value.slice none 0 0]).length ∧ (D.put (kl k) (vl vs.length)).atKey (kl r) (vl 0) = vl i) := by
          intro r hr hrr
          by_cases he : r = k
          · subst he
            exact ⟨vs.length, by simp, atKey_put_same hiD (show WideAt.IsKeyLit (kl r) from trivial) _ _⟩
          · obtain ⟨i, h1, h2⟩ := HI.out r (by omega) hrr
            exact ⟨i, by simp; omega, (atKey_put_other (fun h => he (by simp [kl] at h; omega)) _ _).trans h2⟩
        have HS2 : Hid (∀ xs ∈ xss ++ [[]], xs.length ≤ k) := by
          intro xs hxs
          rcases List.mem_append.1 hxs with h | h
          · exact HS.out xs h
          · simp at h; subst h; simp
        have hvs : (Lit.int .i64 (vs.length : Nat)).wf = true := nat_wf (by omega)
        have hq : ((k : Int) == (k : Int)) = true := by simp
        have hlen : ∃ oa c, u5 = .slice oa vs.length c := by
          rcases Go.Joins.ownsRow_forms HL.row with ⟨h1, h2⟩ | ⟨g, c, h1⟩
          · rw [h2]; exact ⟨_, _, h1⟩
          · exact ⟨_, _, h1⟩
        obtain ⟨oa, c0, rfl⟩ := hlen
        clear hroot HC HI HS hrk HR HRR hiD
        go_wp2_with (first
          | (at_mapUpdate; refine wpList_mapUpdate_own _ rfl _ _ _ 210 rfl 3 3 keyLaw Tryz.underlying210 (plainElem (H := Unit) Tryz.prog 3) w.heap.size m D rfl hmap (by unfold maxLen; omega) _ _ (kl k) rfl rfl (keyOf_int_mk Tryz.underlying3 (nat_wf (by omega))) (vl vs.length) [] (plainElem_int Tryz.underlying3 hvs) ?_; intro w2 hmap2 hgm)
          | (at_builtin; refine wpList_append_own_at _ rfl (.tmp 24) (.tmp 25) 129 rfl (w.heap.size + 1) 25 i0 _ 1 24 Tryz.underlying129 hi0 hz0 hz1 hz2 rfl (by decide) (.slice oa vs.length c0) vs.length vs rfl ((HL.under hgm (by omega)).row.alloc _) ⟨w2.heap.size, 0, none⟩ 1 1 [.slice none 0 0] rfl rfl (fun j u hj => one_cell hj) (by simp [Value.oneCell']) (by unfold maxLen; omega) (by omega) (by have := hgm.size; simp; omega) ?_; intro ov2 w4 hrow4 hg4 hnil4 hat4)
          | fail)
        obtain ⟨vs', xss', m', D', i, HC, HL, hmap, hmk, hvk, HI, HS, hbW, hi, hat⟩ : ∃ (vs' : List Value) (xss' : List (List Int)) (m' : Nat) (D' : DU) (i : Nat), Hid (vs'.length = cnt f (k + 1)) ∧ Lists (w.heap.size + 1) 3 25 w4 ov2 vs' xss' ∧ w4.ownsMap Tryz.prog 3 (plainElem (H := Unit) Tryz.prog 3) w.heap.size m' D' ∧ m' ≤ k + 1 ∧ vs'.length ≤ k + 1 ∧
            Hid (∀ r, r < k + 1 → rootF f r = r → ∃ i, i < vs'.length ∧ D'.atKey (kl r) (vl 0) = vl i) ∧ Hid (∀ xs ∈ xss', xs.length ≤ k) ∧ Below w.heap.size w w4 ∧ i < vs'.length ∧ Hid (D'.atKey (kl k) (vl 0) = vl i) := by
          refine ⟨_, _, m + 1, _, vs.length, by simpa using HC2, (HL.under hgm (by omega)).snoc hrow4 hg4 hat4, (hmap2.alloc _).kept hg4 (fun he => by have := (HL.row.lt _ he.symm).1; omega), by omega, by simp; omega, HI2, HS2, ?_, by simp, hide (atKey_put_same hmap.isMap (show WideAt.IsKeyLit (kl k) from trivial) _ _)⟩
          exact (((hbW.grown hgm (by omega) fun q hq => by injection hq with hq; omega).alloc (by have := hgm.size; omega) _).grown hg4 (by have := hgm.size; simp; omega) fun q hq => by have := (HL.row.lt _ hq).1; omega)
        clear HC2 HI2 HS2 hmap2 hgm hrow4 hg4 hnil4 hat4 hvs
        obtain ⟨g, cap, rfl⟩ := Go.Joins.ownsRow_form HL.row (by omega)
        obtain ⟨v, hv⟩ : ∃ v, vs'[i]? = some v := ⟨vs'[i], List.getElem?_eq_getElem hi⟩
        obtain ⟨xs, hx⟩ : ∃ xs, xss'[i]? = some xs := ⟨xss'[i]'(by rw [← HL.len]; exact hi), List.getElem?_eq_getElem _⟩
        have hcell := HL.row.cellAt i (by omega)
        rw [hv] at hcell
        have hfree := HL.row.frozenAt i
        have hgl := (HL.row.lt g rfl).2
        have hgb := (HL.row.lt g rfl).1
        have hxl := HS.out xs (List.mem_of_getElem? hx)
        have hown := (HL.ms.own i v xs hv hx)
        have hvb := fun q hq => HL.ms.block hv q hq
        have HG := hide (fun w' v' h1 h2 h3 => HL.draw.grow (w' := w') (v' := v') (x := (k : Int)) (o := .cells #[.int .i64 (k : Nat)] 3) hv hx h1 h2 h3)
        have hoffv : v.ownBlock ≠ some g := fun he => HL.off i v g hv he rfl
        have hszW := hbW.size
        have HS2 : Hid (∀ ys ∈ xss'.set i (xs ++ [(k : Int)]), ys.length ≤ k + 1) := by
          intro ys hys
          rcases List.mem_or_eq_of_mem_set hys with h | h
          · exact Nat.le_succ_of_le (HS.out ys h)
          · subst h; simp; exact hxl
        have HBW := hide hbW
        have L1 := look_at hmap.drew (show k < 9223372036854775808 by omega) hat.out
        have L2 := look_at (hmap.alloc (.cells #[.int .i64 (k : Nat)] 3)).drew (show k < 9223372036854775808 by omega) hat.out
        clear hv hx HL hbW HS
        go_wp2_with fail
        go_region_law (refine step_append_n rfl (.tmp 36) (.tmp 38) 25 rfl (w.heap.size + 1) 3 _ Tryz.underlying25 intInfo8 rfl v xs (by simp [Act.eval, Act.put]) (hown.draw.new _) ⟨w4.heap.size, 0, none⟩ 1 (k : Int) (by simp [Act.eval, Act.put]) (one_cell rfl) (by constructor <;> omega) (by omega) (by simp; omega) ?_; intro v' w3 ho3 hb3 hg3 hv3; obtain ⟨oa3, c3, rfl, _, _⟩ := ho3.slice; have hm3 := (hmap.drew.alloc (.cells #[.int .i64 (k : Nat)] 3)).kept hg3 (fun he => by have := (hvb _ he.symm).1; omega); have L3 := look_at hm3 (show k < 9223372036854775808 by omega) hat.out; have hf3 : w3.frozen? ⟨g, i, none⟩ = false := (hg3.frozen_far ⟨g, i, none⟩ (by simp; omega) (fun he => hoffv he.symm)).trans (((World.grownBy_alloc w4.drew _ none).frozen_far ⟨g, i, none⟩ hgl (by simp)).trans hfree); have hc3 : w3.cell? ⟨g, i, none⟩ = some v := (hg3.cell_far ⟨g, i, none⟩ (by simp; omega) (fun he => hoffv he.symm)).trans (((World.grownBy_alloc w4.drew _ none).cell_far ⟨g, i, none⟩ hgl (by simp)).trans hcell))
        all_goals
          have hL := HG.out _ _ ho3 hg3 hv3
          rw [List.length_set] at hL
          have hBf := ((HBW.out.drew.alloc hszW (.cells #[.int .i64 (k : Nat)] 3)).trans (hb3.mono (by omega))).setCell (p := ⟨g, i, none⟩) (by simp; omega) (.slice oa3 (xs ++ [(k : Int)]).length c3)
          have hmf := hm3.kept (grown_setR w3 ⟨g, i, none⟩ (.slice oa3 (xs ++ [(k : Int)]).length c3)) (by simp; omega)
          simp only [List.length_append, List.length_cons, List.length_nil, Nat.zero_add] at hL hBf hmf
          have HH := hide (And.intro hL (And.intro hBf hmf))
          clear hL hBf hmf L1 L2 L3 hf3 hc3 hcell hfree ho3 hg3 hv3 hb3
          go_wp2_with fail
          go_roundw
          case rel => exact ⟨k + 1, _, _, m', D', by omega, by go_num, (by show _ = _; rw [List.length_set]; exact HC.out), HH.out.1, HH.out.2.2, hmk, by simp; exact hvk, by rw [List.length_set]; exact HI, HS2, HH.out.2.1⟩
          case measure => simp [intOf]; omega
      · have HC2 : Hid (vs.length = cnt f (k + 1)) := by show _ = _; rw [cnt_no hroot, HC.out]
        have HI2 : Hid (∀ r, r < k + 1 → rootF f r = r → ∃ i, i < vs.length ∧ D.atKey (kl r) (vl 0) = vl i) := by
          intro r hr hrr
          by_cases he : r = k
          · subst he; exact (hroot hrr).elim
          · exact HI.out r (by omega) hrr
        clear HI
        generalize rootF f k = r at hroot hrk HR HRR
        have hq : ((r : Int) == (k : Int)) = false := by simp; omega
        obtain ⟨i0', h1, h2⟩ := HI2.out r (by omega) HRR.out
        obtain ⟨vs', xss', m', D', i, HC, HL, hmap, hmk, hvk, HI, HS, hbW, hi, hat⟩ : ∃ (vs' : List Value) (xss' : List (List Int)) (m' : Nat) (D' : DU) (i : Nat), Hid (vs'.length = cnt f (k + 1)) ∧ Lists (w.heap.size + 1) 3 25 wr u5 vs' xss' ∧ wr.ownsMap Tryz.prog 3 (plainElem (H := Unit) Tryz.prog 3) w.heap.size m' D' ∧ m' ≤ k + 1 ∧ vs'.length ≤ k + 1 ∧
            Hid (∀ r, r < k + 1 → rootF f r = r → ∃ i, i < vs'.length ∧ D'.atKey (kl r) (vl 0) = vl i) ∧ Hid (∀ xs ∈ xss', xs.length ≤ k) ∧ Below w.heap.size w wr ∧ i < vs'.length ∧ Hid (D'.atKey (kl r) (vl 0) = vl i) := by
          exact ⟨_, _, m, _, i0', HC2, HL, hmap, by omega, by omega, HI2, HS, hbW, h1, h2⟩
        clear HC2 HI2 hroot HR HRR
        obtain ⟨g, cap, rfl⟩ := Go.Joins.ownsRow_form HL.row (by omega)
        obtain ⟨v, hv⟩ : ∃ v, vs'[i]? = some v := ⟨vs'[i], List.getElem?_eq_getElem hi⟩
        obtain ⟨xs, hx⟩ : ∃ xs, xss'[i]? = some xs := ⟨xss'[i]'(by rw [← HL.len]; exact hi), List.getElem?_eq_getElem _⟩
        have hcell := HL.row.cellAt i (by omega)
        rw [hv] at hcell
        have hfree := HL.row.frozenAt i
        have hgl := (HL.row.lt g rfl).2
        have hgb := (HL.row.lt g rfl).1
        have hxl := HS.out xs (List.mem_of_getElem? hx)
        have hown := (HL.ms.own i v xs hv hx)
        have hvb := fun q hq => HL.ms.block hv q hq
        have HG := hide (fun w' v' h1 h2 h3 => HL.draw.grow (w' := w') (v' := v') (x := (k : Int)) (o := .cells #[.int .i64 (k : Nat)] 3) hv hx h1 h2 h3)
        have hoffv : v.ownBlock ≠ some g := fun he => HL.off i v g hv he rfl
        have hszW := hbW.size
        have HS2 : Hid (∀ ys ∈ xss'.set i (xs ++ [(k : Int)]), ys.length ≤ k + 1) := by
          intro ys hys
          rcases List.mem_or_eq_of_mem_set hys with h | h
          · exact Nat.le_succ_of_le (HS.out ys h)
          · subst h; simp; exact hxl
        have HBW := hide hbW
        have L1 := look_at hmap.drew (show r < 9223372036854775808 by omega) hat.out
        have L2 := look_at (hmap.alloc (.cells #[.int .i64 (k : Nat)] 3)).drew (show r < 9223372036854775808 by omega) hat.out
        clear hv hx HL hbW HS
        go_wp2_with fail
        go_region_law (refine step_append_n rfl (.tmp 36) (.tmp 38) 25 rfl (w.heap.size + 1) 3 _ Tryz.underlying25 intInfo8 rfl v xs (by simp [Act.eval, Act.put]) (hown.draw.new _) ⟨wr.heap.size, 0, none⟩ 1 (k : Int) (by simp [Act.eval, Act.put]) (one_cell rfl) (by constructor <;> omega) (by omega) (by simp; omega) ?_; intro v' w3 ho3 hb3 hg3 hv3; obtain ⟨oa3, c3, rfl, _, _⟩ := ho3.slice; have hm3 := (hmap.drew.alloc (.cells #[.int .i64 (k : Nat)] 3)).kept hg3 (fun he => by have := (hvb _ he.symm).1; omega); have L3 := look_at hm3 (show r < 9223372036854775808 by omega) hat.out; have hf3 : w3.frozen? ⟨g, i, none⟩ = false := (hg3.frozen_far ⟨g, i, none⟩ (by simp; omega) (fun he => hoffv he.symm)).trans (((World.grownBy_alloc wr.drew _ none).frozen_far ⟨g, i, none⟩ hgl (by simp)).trans hfree); have hc3 : w3.cell? ⟨g, i, none⟩ = some v := (hg3.cell_far ⟨g, i, none⟩ (by simp; omega) (fun he => hoffv he.symm)).trans (((World.grownBy_alloc wr.drew _ none).cell_far ⟨g, i, none⟩ hgl (by simp)).trans hcell))
        all_goals
          have hL := HG.out _ _ ho3 hg3 hv3
          rw [List.length_set] at hL
          have hBf := ((HBW.out.drew.alloc hszW (.cells #[.int .i64 (k : Nat)] 3)).trans (hb3.mono (by omega))).setCell (p := ⟨g, i, none⟩) (by simp; omega) (.slice oa3 (xs ++ [(k : Int)]).length c3)
          have hmf := hm3.kept (grown_setR w3 ⟨g, i, none⟩ (.slice oa3 (xs ++ [(k : Int)]).length c3)) (by simp; omega)
          simp only [List.length_append, List.length_cons, List.length_nil, Nat.zero_add] at hL hBf hmf
          have HH := hide (And.intro hL (And.intro hBf hmf))
          clear hL hBf hmf L1 L2 L3 hf3 hc3 hcell hfree ho3 hg3 hv3 hb3
          go_wp2_with fail
          go_roundw
          case rel => exact ⟨k + 1, _, _, m', D', by omega, by go_num, (by show _ = _; rw [List.length_set]; exact HC.out), HH.out.1, HH.out.2.2, hmk, by simp; exact hvk, by rw [List.length_set]; exact HI, HS2, HH.out.2.1⟩
          case measure => simp [intOf]; omega
    · have : k = n := by omega
      subst this
      have hlen : ∃ oa c, u5 = .slice oa vs.length c := by
        rcases Go.Joins.ownsRow_forms HL.row with ⟨h1, h2⟩ | ⟨g, c, h1⟩
        · rw [h2]; exact ⟨_, _, h1⟩
        · exact ⟨_, _, h1⟩
      obtain ⟨oa, c0, rfl⟩ := hlen
      go_wp2_with fail
      go_ret
      exact ⟨oa, c0, congrArg (fun q : Nat => Ending.returned (.slice oa q c0)) HC.out, hbW⟩

end Go.Proofs.YtpgopmmobbemcaaGreat

set_option linter.unusedVariables false
set_option linter.unusedSimpArgs false
namespace Go.Proofs.YtpgopmmobbemcaaGreat
open Go.RowKit Go.Shelf

attribute [local go_sem] Oper.semAt_some

/-- The single edges with their numbers. -/
def singL (es : List Edg) : List (Nat × Int × Int) := (endsL es).zipIdx.map fun p => (p.2, p.1)
theorem endsL_take (es : List Edg) (k : Nat) : endsL (es.take k) ++ endsL (es.drop k) = endsL es := by
  unfold endsL
  rw [← List.flatMap_append, List.take_append_drop]
theorem endsL_next {es : List Edg} {k : Nat} {x : Edg} (hx : es[k]? = some x) : (endsL (es.take (k + 1))).length = (endsL (es.take k)).length + x.m.toNat := by
  have hk : k < es.length := (List.getElem?_eq_some_iff.1 hx).1
  rw [List.take_add_one, hx]
  simp [endsL, List.flatMap_append]
/-- What lay below n₀ lies as it lay, and so do the blocks of type T, wherever they lie. -/
def KpE (T : TypeId) (n₀ : Nat) (W W' : World) : Prop := Below n₀ W W' ∧ ∀ (k : Nat) (cs : Array Value), W.heap[k]? = some (Obj.cells cs T (0, 0)) → W'.heap[k]? = some (Obj.cells cs T (0, 0))
theorem KpE.refl (T : TypeId) (n₀ : Nat) (W : World) : KpE T n₀ W W := ⟨Below.refl _ _, fun _ _ h => h⟩
theorem KpE.t {T : TypeId} {n₀ : Nat} {A B C : World} (h : KpE T n₀ A B) (k : KpE T n₀ B C) : KpE T n₀ A C := ⟨h.1.trans k.1, fun i cs hi => k.2 i cs (h.2 i cs hi)⟩
theorem KpE.b {T : TypeId} {n₀ : Nat} {w : World} (hn : n₀ ≤ w.heap.size) (W : World) (l : Nat) (o o' : Obj) (hl : w.heap.size ≤ l) (ho : W.heap[l]? = some o) (hc : o.isCells = false) (hw : o.isWalk = false) : KpE T n₀ W (W.putObj l o') := by
  refine ⟨belowK_b hn W l o o' hl ho hc hw, fun k cs hk => ?_⟩
  have : k ≠ l := fun e => by
    subst e
    rw [hk] at ho
    injection ho with ho
    subst ho
    cases hc
  rw [World.putObj_heap_other this]
  exact hk
theorem KpE.new {T : TypeId} {n₀ : Nat} {W W' : World} (h : KpE T n₀ W W') (hn : n₀ ≤ W'.heap.size) (o : Obj) : KpE T n₀ W (W'.alloc o) :=
  ⟨h.1.alloc hn o, fun k cs hk => (Below.heap_alloc W' o k (Array.getElem?_eq_some_iff.1 (h.2 k cs hk)).1).trans (h.2 k cs hk)⟩
theorem KpE.box {T : TypeId} {n₀ : Nat} {W W' : World} (h : KpE T n₀ W W') {B : Nat} {cs : List Value} (hb : Box W B cs T) : Box W' B cs T := h.2 B _ hb

def sEnc (x : Nat × Int × Int) : Array Value := #[.int .i64 (x.1 : Int), .agg #[.int .i64 x.2.1, .int .i64 x.2.2]]

/-- The edges as they lie, in a block below n₀. -/
def EdgesBelow (n₀ : Nat) (W : World) (oe : Option Addr) (es : List Edg) : Prop :=
  es = [] ∨ ∃ bl off, oe = some ⟨bl, off, none⟩ ∧ bl < n₀ ∧ ∀ i (x : Edg), es[i]? = some x → W.cell? ⟨bl, off + i * 3, none⟩ = some (.int .i64 x.a) ∧ W.cell? ⟨bl, off + i * 3 + 1, none⟩ = some (.int .i64 x.b) ∧ W.cell? ⟨bl, off + i * 3 + 2, none⟩ = some (.int .i64 x.m)
theorem EdgesBelow.of {F : Foot} {w : World} {oe : Option Addr} {es : List Edg} (h : SliceR edgR 3 F w oe es) : EdgesBelow w.heap.size w oe es := by
  rcases Nat.eq_zero_or_pos es.length with h0 | h0
  · exact .inl (List.eq_nil_of_length_eq_zero h0)
  · obtain ⟨a, b, m, _, _, _, _, _, bl, off, rfl, _, c0, _⟩ := h.edg_at h0
    refine .inr ⟨bl, off, rfl, World.block_lt_of_cell? _ _ c0, fun i x hx => ?_⟩
    obtain ⟨a', b', m', _, hg, _, _, _, bl', off', he, _, e0, e1, e2⟩ := h.edg_at (List.getElem?_eq_some_iff.1 hx).1
    injection he with he
    injection he with q1 q2
    subst q1 q2
    rw [hx] at hg
    injection hg with hg
    subst hg
    exact ⟨e0, e1, e2⟩
theorem EdgesBelow.below {n₀ : Nat} {A B : World} {oe : Option Addr} {es : List Edg} (h : Below n₀ A B) : EdgesBelow n₀ A oe es → EdgesBelow n₀ B oe es
  | .inl e => .inl e
  | .inr ⟨bl, off, e, hb, hc⟩ => .inr ⟨bl, off, e, hb, fun i x hx => ⟨(h.cell (p := ⟨bl, off + i * 3, none⟩) hb).trans (hc i x hx).1, (h.cell (p := ⟨bl, off + i * 3 + 1, none⟩) hb).trans (hc i x hx).2.1, (h.cell (p := ⟨bl, off + i * 3 + 2, none⟩) hb).trans (hc i x hx).2.2⟩⟩
theorem EdgesBelow.more {n₀ n₁ : Nat} {A : World} {oe : Option Addr} {es : List Edg} (h : EdgesBelow n₀ A oe es) (hn : n₀ ≤ n₁) : EdgesBelow n₁ A oe es :=
  h.imp id fun ⟨bl, off, e, hb, hc⟩ => ⟨bl, off, e, by omega, hc⟩

end Go.Proofs.YtpgopmmobbemcaaGreat

set_option linter.unusedVariables false
set_option linter.unusedSimpArgs false
namespace Go.Proofs.YtpgopmmobbemcaaGreat
open Go.RowKit

theorem step_append_rep {α : Type} {R : Rep α} {P : Program} {ops : Array Oper} {o : Oper} {a : Act} {w : World} {K : Act → World → Prop} {Q : Exit → Act → World → Prop} {E : Prop} (hgd : o.guard = none) (s x : Operand) (t : TypeId)
    (ho : o.op = .call { callee := .builtin .append, args := #[s, x], argTypes := #[t, t] })
    (base : Nat) (e : TypeId) (z : Value) (size bytes : Nat) (ht : P.underlying t = some (.slice e)) (hinfo : (P.info? e).map (fun i => (i.zero, i.size, i.bytes)) = some (some z, size, bytes))
    (hzs : z.cells.size = size) (hsz : 0 < size) (ok : RepOk R size)
    (F G : Foot) (v : Value) (xs : List α) (hs : a.eval s = v) (hown : OwnS R size base e F w v xs)
    (oa : Option Addr) (c : Nat) (ys : List α) (hx : a.eval x = .slice oa ys.length c) (hsrc : SliceR R size G w oa ys) (hW : ∀ cs x, R G w cs x → R F w cs x) (hF : ∀ k, F k → k < base)
    (hbytes : (xs.length + ys.length) * bytes ≤ 140737488355328) (hm : xs.length + ys.length ≤ 9223372036854775807) (hbase : base ≤ w.heap.size)
    (hK : ∀ v' w', OwnS R size base e F w' v' (xs ++ ys) → Below base w w' → w.grownBy w' v.ownBlock → K (a.put o.dst v') w') :
    if Region.wanted o (yielded ops a.tmps) = true then Oper.wp P o a w K Q else E := by
  have hw : Region.wanted o (yielded ops a.tmps) = true := by simp [Region.wanted, hgd]
  rw [if_pos hw]
  obtain ⟨i0, hi, hz0, hz1, hz2⟩ := info_parts hinfo
  obtain ⟨cells, hown0, h1, hc⟩ := hown
  obtain ⟨news, hn1, hn2, hn3, hn4⟩ := hsrc.cells ok
  obtain ⟨v', w', hrun, ho', hg⟩ := run_append_src (P := P) w base t o.type e i0 z size bytes ht hi hz0 hz1 hz2 hzs hsz v xs.length cells hown0 oa ys.length c news hn1 hn2 hn3 (by unfold maxLen; omega) hbytes hbase
  have hb : Below base w w' := (Below.refl base w).grown hg hbase fun k hk => (hown0.lt k hk).1
  have hsame : SameOn F w w' := fun k hk _ => hb.block k (hF k hk)
  have hfin := hK v' w' (OwnS.app hown0.1.symm ho' h1 hn3 (fun i x hx => ok.keep (hc i x hx) hsame) (fun i x hx => ok.keep (hW _ _ (hn4 i x hx)) hsame)) hb hg
  unfold Oper.wp execOp
  simp only [ho, resolve, invoke, builtin, Sem.run_bind, Sem.run_pure, Result.andThen_ok, List.map_toArray, List.map_cons, List.map_nil, hs, hx, hrun]
  exact hfin

end Go.Proofs.YtpgopmmobbemcaaGreat

set_option linter.unusedVariables false
set_option linter.unusedSimpArgs false
set_option linter.unnecessarySimpa false
namespace Go.Proofs.YtpgopmmobbemcaaGreat
open Go.RowKit Go.Shelf

attribute [local go_sem] Oper.semAt_some

theorem prInfo : (Tryz.prog.info? 135).map (fun i => (i.zero, i.size, i.bytes)) = some (some (.agg #[.int .i64 0, .int .i64 0]), 2, 16) := by kernel_rfl

def flatP (l : List (Int × Int)) : List Value := l.flatMap fun p => [.int .i64 p.1, .int .i64 p.2]
def I64P (l : List (Int × Int)) : Prop := ∀ p ∈ l, I64 p.1 ∧ I64 p.2
/-- What an append to a row of type e and a store into a box of type t do to the blocks of a third type. -/
theorem KpE.appended {T t e : TypeId} {W w1 : World} {n₀ B size k : Nat} {v v' u : Value} {xs : List Value} {tmp : Obj} (hTe : T ≠ e) (hTt : T ≠ t) (hrow : W.ownsRow n₀ e size v k xs) (hv : Boxed W B t u)
    (hgrow : (W.alloc tmp).grownBy w1 v.ownBlock) (hb : Below n₀ W (w1.setCell ⟨B, 0, none⟩ v')) : KpE T n₀ W (w1.setCell ⟨B, 0, none⟩ v') := by
  refine ⟨hb, fun j cs hj => ?_⟩
  have hjl := (Array.getElem?_eq_some_iff.1 hj).1
  have h1 : j ≠ B := fun e1 => by
    subst e1
    have := (show W.heap[j]? = _ from hv).symm.trans hj
    simp at this
    exact hTt this.2.symm
  rw [Below.heap_setCell w1 ⟨B, 0, none⟩ v' j h1, hgrow.block j (by simp; omega) ?_, Below.heap_alloc W tmp j hjl]
  · exact hj
  · intro e1
    rcases hrow.2 with ⟨rfl, _⟩ | ⟨g, cap, cur, rfl, _, hgb, _⟩
    · simp [Value.ownBlock] at e1
    · obtain rfl : j = g := by simpa [Value.ownBlock] using e1
      rw [hj] at hgb
      simp at hgb
      exact hTe hgb.2

theorem pair_lit {w : World} {a b : Int} (ia : I64 a) (ib : I64 b) : SliceR prR 2 All (w.alloc (.cells #[.int .i64 a, .int .i64 b] 135)) (some ⟨w.heap.size, 0, none⟩) [(a, b)] :=
  SliceR.lit (F := fun _ => False) prR_ok w 135 [[.int .i64 a, .int .i64 b]] [(a, b)] (fun i x hx => by
    match i, hx with
    | 0, hx => simp at hx; subst hx; exact ⟨_, rfl, rfl, ia, ib⟩
    | i + 1, hx => simp at hx) rfl (fun _ h => h.elim) trivial
def EndsPost (w : World) (es : List Edg) (e : Ending) (w' : World) : Prop :=
  ∃ v, e = .returned (.tuple #[v, .int .i64 0]) ∧ OwnS prR 2 w.heap.size 135 Non w' v (endsL es) ∧ Below w.heap.size w w'

def endsRes (n : Int) (es : List Edg) : List (Int × Int) × Int := if gErr n es = 0 then (endsL es, 0) else ([], gErr n es)
def PairsPost (w : World) (r : List (Int × Int) × Int) (e : Ending) (w' : World) : Prop :=
  ∃ v, e = .returned (.tuple #[v, .int .i64 r.2]) ∧ OwnS prR 2 w.heap.size 135 Non w' v r.1 ∧ Below w.heap.size w w'

set_option maxRecDepth 100000 in
set_option maxHeartbeats 2000000 in
theorem rgends_any (n : Int) (es : List Edg) (oe : Option Addr) (c : Nat) (F : Foot) (w : World) (hs : SliceR edgR 3 F w oe es) (hc : es.length ≤ c) (hc2 : es.length ≤ 1000) (hm : Hid (∀ x ∈ es, x.m ≤ 50)) :
    Calls Tryz.prog 139 #[.agg #[.int .i64 n, .slice oe es.length c]] w fun e w' => ∃ v, e = .returned v ∧ OwnS prR 2 w.heap.size 135 Non w' v (endsL es) ∧ Below w.heap.size w w' := by
  have hcap : (endsL es).length ≤ 50000 := by have := endsL_len hm.out; omega
  go_enter Tryz.func139, Tryz.ntmps139
  go_wp2_with fail
  go_loopw [3, 4] (fun v iv wr => ∃ (k : Nat), k ≤ es.length ∧ iv = .int .i64 k ∧ OwnS prR 2 (w.heap.size + 1) 135 Non wr v (endsL (es.take k)) ∧ Below (w.heap.size + 1) (w.alloc (.cells #[.int .i64 n, .slice oe es.length c] 24)) wr) (fun _ i _ => es.length - (intOf i).toNat)
  case atStart => exact ⟨0, by omega, rfl, OwnS.nil _ _ _ _ _ _, box_refl _ _⟩
  case round =>
    obtain ⟨k, hk, rfl, hown, hb⟩ := hrel
    have d1 := box_cell hb 1
    simp at d1
    by_cases hlt : k < es.length
    · obtain ⟨a, b, m, _, hget, ia, ib, im, bl, off, rfl, _, c0, c1, c2⟩ := (hs.below edgR_ok (below_box hb)).edg_at hlt
      have HG := hide hget
      have hm50 : m ≤ 50 := hm.out _ (List.mem_of_getElem? hget)
      have HN := hide (endsL_next hget)
      have HA : Hid (endsL (es.take (k + 1)) = endsL (es.take k) ++ List.replicate m.toNat (a, b)) := by
        show _ = _
        rw [List.take_add_one, hget]
        simp [endsL, List.flatMap_append]
      have htl : (endsL (es.take k)).length ≤ 50000 := by
        have := congrArg List.length (endsL_take es k)
        simp at this
        omega
      clear hget
      go_wp2_with fail
      obtain ⟨wo, rfl⟩ : ∃ wo : World, wo = wr := ⟨_, rfl⟩
      go_loopw [3, 5] (fun v jv wr => ∃ (j : Nat) (l : List (Int × Int)), (j : Int) ≤ max m 0 ∧ jv = .int .i64 j ∧ Hid (l = endsL (es.take k) ++ List.replicate j (a, b)) ∧ OwnS prR 2 (w.heap.size + 1) 135 Non wr v l ∧ Below (w.heap.size + 1) (w.alloc (.cells #[.int .i64 n, .slice (some ⟨bl, off, none⟩) es.length c] 24)) wr) (fun _ j _ => m.toNat - (intOf j).toNat)
      case atStart => exact ⟨0, _, by omega, rfl, by show _ = _; simp, hown, hb⟩
      case round =>
        clear hown hb d1 c0 c1 c2
        obtain ⟨j, l, hj, rfl, HL, hown, hb⟩ := hrel
        have d1 := box_cell hb 1
        simp at d1
        obtain ⟨a', b', m', _, hget', _, _, _, bl', off', he, _, c0, c1, c2⟩ := (hs.below edgR_ok (below_box hb)).edg_at hlt
        injection he with he
        injection he with q1 q2
        subst q1 q2
        rw [HG.out] at hget'
        injection hget' with hget'
        injection hget' with q1 q2 q3
        subst q1 q2 q3
        have hbl := World.block_lt_of_cell? _ _ c0
        simp only at hbl
        have hsz := box_lt hb
        have hll : l.length ≤ 60000 := by rw [HL.out]; simp; omega
        by_cases hjm : (j : Int) < m
        · go_wp2_with fail
          go_region_law (refine step_append_rep rfl (.tmp 23) (.tmp 37) 179 rfl (w.heap.size + 1) 135 _ 2 16 Tryz.underlying179 prInfo rfl (by decide) prR_ok Non All u3 l (by simp [Act.eval, Act.put]) ((hown.draw prR_ok).new prR_ok _) (some ⟨wr.heap.size, 0, none⟩) 1 [(a, b)] (by simp [Act.eval, Act.put]) (pair_lit ia ib) (fun _ _ h => h) (fun _ h => h.elim) (by simp; omega) (by simp; omega) (by simp; omega) ?_; intro v' w3 ho hb1 hg)
          all_goals
            go_wp2_with fail
            go_roundw
            case rel =>
              refine ⟨j + 1, l ++ [(a, b)], by omega, by go_num, ?_, ho, (box_new hb.drew (by simp) _).trans hb1⟩
              show _ = _
              rw [HL.out, List.replicate_succ']
              simp
            case measure => simp [intOf]; omega
        · have HL2 : Hid (l = endsL (es.take (k + 1))) := by
            show _ = _
            rw [HL.out, HA.out, show j = m.toNat from by omega]
          go_wp2_with fail
          go_roundw
          case rel => exact ⟨k + 1, by omega, by go_num, by rw [← HL2.out]; exact hown, hb⟩
          case measure => simp [intOf]; omega
    · have : k = es.length := by omega
      subst this
      rw [List.take_length] at hown
      go_wp2_with fail
      go_ret
      exact ⟨u3, rfl, hown.rebase (by omega), below_box hb⟩

end Go.Proofs.YtpgopmmobbemcaaGreat

set_option linter.unusedVariables false
set_option linter.unusedSimpArgs false
set_option linter.unnecessarySimpa false
namespace Go.Proofs.YtpgopmmobbemcaaGreat
open Go.RowKit

/-- The vertex of a half-edge. -/
def hv (l : List (Int × Int)) (h : Nat) : Int := if h % 2 = 0 then (l.getD (h / 2) (0, 0)).1 else (l.getD (h / 2) (0, 0)).2

/-- The half-edges below H at a vertex. -/
def halfU (l : List (Int × Int)) (H : Nat) (v : Nat) : List Int := ((List.range H).filter fun h : Nat => hv l h == (v : Int)).map fun h : Nat => (h : Int)
theorem halfU_len (l : List (Int × Int)) (H v : Nat) : (halfU l H v).length ≤ H := by
  have := List.length_filter_le (fun h : Nat => hv l h == (v : Int)) (List.range H)
  simp [halfU]
  simpa using this
def halvesU (n : Nat) (l : List (Int × Int)) (H : Nat) : List (List Int) := (List.range n).map (halfU l H)
theorem halvesU_get {n : Nat} {l : List (Int × Int)} {H v : Nat} (hv : v < n) : (halvesU n l H)[v]? = some (halfU l H v) := by
  simp [halvesU, hv]
theorem Lists.made {e lt : TypeId} {w : World} {g n : Nat} (h : w.ownsRow g lt 1 (.slice (some ⟨g, 0, none⟩) n n) n (List.replicate n (.slice none 0 0))) :
    Lists g e lt w (.slice (some ⟨g, 0, none⟩) n n) (List.replicate n (.slice none 0 0)) (List.replicate n []) := by
  refine ⟨by simpa using h, OwnM.nils n, fun i v k hi hk => ?_⟩
  rw [List.getElem?_replicate] at hi
  split at hi
  · injection hi with hi
    subst hi
    simp [Value.ownBlock] at hk
  · cases hi

def HalvesPost (w : World) (n : Nat) (l : List (Int × Int)) (e : Ending) (w' : World) : Prop :=
  ∃ g vs, e = .returned (.slice (some ⟨g, 0, none⟩) n n) ∧ vs.length = n ∧ Lists w.heap.size 3 25 w' (.slice (some ⟨g, 0, none⟩) n n) vs (halvesU n l (2 * l.length)) ∧ Below w.heap.size w w'

end Go.Proofs.YtpgopmmobbemcaaGreat

set_option linter.unusedVariables false
namespace Go.Proofs.YtpgopmmobbemcaaGreat
open Go.RowKit

end Go.Proofs.YtpgopmmobbemcaaGreat

set_option linter.unusedVariables false
set_option linter.unusedSimpArgs false
namespace Go.Proofs.YtpgopmmobbemcaaGreat
open Go.RowKit

end Go.Proofs.YtpgopmmobbemcaaGreat

set_option linter.unusedVariables false
set_option linter.unusedSimpArgs false
set_option linter.unnecessarySimpa false
namespace Go.Proofs.YtpgopmmobbemcaaGreat
open Go.RowKit

/-- The first thing that is wrong with the half-edges one by one. -/
def scanE (own : List Int) : List Int → List Int → Int
  | _, [] => 0
  | pre, h :: r => if h ∈ own then (if h ∈ pre then 7 else scanE own (pre ++ [h]) r) else 2
def listE (l own : List Int) : Int := if l.length = own.length then (if scanE own [] l = 0 then (if l.head? = own.head? then 0 else 9) else scanE own [] l) else 8

theorem scanE_cons (own pre r : List Int) (h : Int) : scanE own pre (h :: r) = if h ∈ own then (if h ∈ pre then 7 else scanE own (pre ++ [h]) r) else 2 := rfl
theorem SliceR.pre {α : Type} {R : Rep α} {sz : Nat} {F : Foot} {w : World} {oa : Option Addr} {xs : List α} (h : SliceR R sz F w oa xs) (k : Nat) : SliceR R sz F w oa (xs.take k) := by
  intro i x hx
  rw [List.getElem?_take] at hx
  split at hx
  · exact h i x hx
  · cases hx

end Go.Proofs.YtpgopmmobbemcaaGreat

set_option linter.unusedVariables false
set_option linter.unusedSimpArgs false
namespace Go.Proofs.YtpgopmmobbemcaaGreat
open Go.RowKit

def eL (es : List Edg) : List (Nat × Nat) := es.map fun x => (x.a.toNat, x.b.toNat)
theorem eL_next {es : List Edg} {k : Nat} {a b : Nat} {m : Int} (h : es[k]? = some ⟨a, b, m⟩) : eL (es.take (k + 1)) = eL (es.take k) ++ [(a, b)] := by
  rw [List.take_add_one, h]
  simp [eL]
theorem eL_lt {n : Int} {es : List Edg} (hV : gErr n es = 0) (k : Nat) : ∀ x ∈ eL (es.take k), x.1 < 12 ∧ x.2 < 12 := by
  intro x hx
  simp only [eL, List.mem_map] at hx
  obtain ⟨y, hy, rfl⟩ := hx
  have h := (gErr_zero hV).2.1 y (List.mem_of_mem_take hy)
  have h2 := (gErr_zero hV).1
  constructor
  · simp only; omega
  · simp only; omega

def ForestPost (w : World) (es : List Edg) (e : Ending) (w' : World) : Prop :=
  ∃ f, e = .returned (.agg (castV f).toArray) ∧ Uf f (eL es) ∧ Below w.heap.size w w'

set_option maxRecDepth 100000 in
set_option maxHeartbeats 2000000 in
theorem joinedG_any (n : Int) (es : List Edg) (oe : Option Addr) (c : Nat) (F : Foot) (w : World) (hs : SliceR edgR 3 F w oe es) (hc : es.length ≤ c) (hc2 : es.length ≤ 9223372036854775807) (hV : Hid (gErr n es = 0)) :
    Calls Tryz.prog 158 #[.agg #[.int .i64 n, .slice oe es.length c]] w (ForestPost w es) := by
  go_enter Tryz.func158, Tryz.ntmps158
  go_wp2_with fail
  refine (grown_any _).mono ?_
  rintro e w2 ⟨rfl, hb2⟩
  have hx2 := box_then (box_new (box_refl w (.cells #[.int .i64 n, .slice oe es.length c] 24)) (by simp) (.cells #[.int .i64 0, .int .i64 0, .int .i64 0, .int .i64 0, .int .i64 0, .int .i64 0, .int .i64 0, .int .i64 0, .int .i64 0, .int .i64 0, .int .i64 0, .int .i64 0] 199)) (by simp) hb2
  have hr2 := (Box.new (w.alloc (.cells #[.int .i64 n, .slice oe es.length c] 24)) [.int .i64 0, .int .i64 0, .int .i64 0, .int .i64 0, .int .i64 0, .int .i64 0, .int .i64 0, .int .i64 0, .int .i64 0, .int .i64 0, .int .i64 0, .int .i64 0] 199).below hb2
  rw [World.size_alloc] at hr2
  have hsz2 := hr2.lt
  have d1 := box_cell hx2 1
  simp at d1
  have hszx : w.heap.size < w2.heap.size := by omega
  have d1n := cell_next d1 (.cells #[.int .i64 0, .int .i64 1, .int .i64 2, .int .i64 3, .int .i64 4, .int .i64 5, .int .i64 6, .int .i64 7, .int .i64 8, .int .i64 9, .int .i64 10, .int .i64 11] 199)
  clear hb2
  go_wp2_with fail
  have hx3 := box_new hx2 (by simp) (.cells #[.int .i64 0, .int .i64 1, .int .i64 2, .int .i64 3, .int .i64 4, .int .i64 5, .int .i64 6, .int .i64 7, .int .i64 8, .int .i64 9, .int .i64 10, .int .i64 11] 199)
  have hf3 : Box (w2.alloc (.cells #[.int .i64 0, .int .i64 1, .int .i64 2, .int .i64 3, .int .i64 4, .int .i64 5, .int .i64 6, .int .i64 7, .int .i64 8, .int .i64 9, .int .i64 10, .int .i64 11] 199)) w2.heap.size (castV (List.range 12)) 199 := Box.new w2 (castV (List.range 12)) _
  have hr3 := hr2.next (.cells #[.int .i64 0, .int .i64 1, .int .i64 2, .int .i64 3, .int .i64 4, .int .i64 5, .int .i64 6, .int .i64 7, .int .i64 8, .int .i64 9, .int .i64 10, .int .i64 11] 199)
  have hU := hide (Uf.begin)
  clear hx2 hr2 d1 d1n
  go_loopw [10] (fun iv wr => ∃ (k : Nat) (f : List Nat), k ≤ es.length ∧ iv = .int .i64 k ∧ Hid (Uf f (eL (es.take k))) ∧ Box wr w2.heap.size (castV f) 199 ∧ Box wr (w.heap.size + 1) [.int .i64 0, .int .i64 0, .int .i64 0, .int .i64 0, .int .i64 0, .int .i64 0, .int .i64 0, .int .i64 0, .int .i64 0, .int .i64 0, .int .i64 0, .int .i64 0] 199 ∧
    Below (w.heap.size + 1) (w.alloc (.cells #[.int .i64 n, .slice oe es.length c] 24)) wr) (fun iv _ => es.length - (intOf iv).toNat)
  case atStart => exact ⟨0, _, by omega, rfl, hU, hf3, hr3, hx3⟩
  case round =>
    obtain ⟨k, f, hk, rfl, HU, hf, hr, hb⟩ := hrel
    clear hx3 hf3 hr3 hU
    have hszf := hf.lt
    by_cases hlt : k < es.length
    · obtain ⟨a, b, m, _, hget, _, _, _, bl, off, rfl, _, c0, c1, c2⟩ := (hs.below edgR_ok (below_box hb)).edg_at hlt
      have hve := (gErr_zero hV.out).2.1 _ (List.mem_of_getElem? hget)
      have hvn := (gErr_zero hV.out).1
      simp only at hve
      obtain ⟨a, rfl⟩ := Int.eq_ofNat_of_zero_le hve.1.1
      obtain ⟨b, rfl⟩ := Int.eq_ofNat_of_zero_le hve.2.1.1
      have ha : a < 12 := by omega
      have hbb : b < 12 := by omega
      have hbl := World.block_lt_of_cell? _ _ c0
      simp only at hbl
      have HU2 : Hid (Uf (joinF f a b) (eL (es.take (k + 1)))) := by
        show Uf _ _
        rw [eL_next hget]
        exact HU.out.join ha hbb (eL_lt hV.out k)
      have HF := hide HU.out.fst
      have bx := Box.new wr [.int .i64 a, .int .i64 b, .int .i64 m] 123
      have x0 := bx.cell 0
      have x1 := bx.cell 1
      simp at x0 x1
      clear hget hve bx
      go_wp2_with fail
      refine (join_any f w2.heap.size a b _ (hf.next _) HF ha hbb).mono ?_
      rintro e w4 ⟨rfl, hf4, hb4⟩
      have hb4a := hb4 (w.heap.size + 2) (by omega)
      go_wp2_with fail
      go_roundw
      case rel => exact ⟨k + 1, _, by omega, by go_num, HU2, hf4, (hr.next _).under hb4a (by omega), (box_new hb (by simp) _).trans (hb4a.mono (by omega))⟩
      case measure => simp [intOf]; omega
    · have hk2 : k = es.length := by omega
      have HUF : Hid (Uf f (eL es)) := by
        have := HU.out
        rw [hk2, List.take_length] at this
        exact this
      obtain ⟨a0, a1, a2, a3, a4, a5, a6, a7, a8, a9, a10, a11, rfl⟩ := twelve HU.out.fst.len
      have q : ∀ i, wr.cell? ⟨w2.heap.size, i, none⟩ = ([.int .i64 (a0 : Nat), .int .i64 (a1 : Nat), .int .i64 (a2 : Nat), .int .i64 (a3 : Nat), .int .i64 (a4 : Nat), .int .i64 (a5 : Nat), .int .i64 (a6 : Nat), .int .i64 (a7 : Nat), .int .i64 (a8 : Nat), .int .i64 (a9 : Nat), .int .i64 (a10 : Nat), .int .i64 (a11 : Nat)] : List Value)[i]? := fun i => hf.cell i
      have q0 := q 0
      have q1 := q 1
      have q2 := q 2
      have q3 := q 3
      have q4 := q 4
      have q5 := q 5
      have q6 := q 6
      have q7 := q 7
      have q8 := q 8
      have q9 := q 9
      have q10 := q 10
      have q11 := q 11
      simp only [List.getElem?_cons_zero, List.getElem?_cons_succ] at q0 q1 q2 q3 q4 q5 q6 q7 q8 q9 q10 q11
      have r0 := hr.cell 0
      have r1 := hr.cell 1
      have r2 := hr.cell 2
      have r3 := hr.cell 3
      have r4 := hr.cell 4
      have r5 := hr.cell 5
      have r6 := hr.cell 6
      have r7 := hr.cell 7
      have r8 := hr.cell 8
      have r9 := hr.cell 9
      have r10 := hr.cell 10
      have r11 := hr.cell 11
      simp only [List.getElem?_cons_zero, List.getElem?_cons_succ] at r0 r1 r2 r3 r4 r5 r6 r7 r8 r9 r10 r11
      have fr := fun i => hr.free i
      have hszr := hr.lt
      have hbf := below_box hb
      have HHR := hide hr
      clear hk2 HU q hf hr
      go_wp2_with fail
      have hfin := ((((((((((((HHR.out.put 0 (.int .i64 (a0 : Nat))).put 1 (.int .i64 (a1 : Nat))).put 2 (.int .i64 (a2 : Nat))).put 3 (.int .i64 (a3 : Nat))).put 4 (.int .i64 (a4 : Nat))).put 5 (.int .i64 (a5 : Nat))).put 6 (.int .i64 (a6 : Nat))).put 7 (.int .i64 (a7 : Nat))).put 8 (.int .i64 (a8 : Nat))).put 9 (.int .i64 (a9 : Nat))).put 10 (.int .i64 (a10 : Nat))).put 11 (.int .i64 (a11 : Nat)))
      simp only [List.set_cons_zero, List.set_cons_succ] at hfin
      have z0 := hfin.cell 0
      have z1 := hfin.cell 1
      have z2 := hfin.cell 2
      have z3 := hfin.cell 3
      have z4 := hfin.cell 4
      have z5 := hfin.cell 5
      have z6 := hfin.cell 6
      have z7 := hfin.cell 7
      have z8 := hfin.cell 8
      have z9 := hfin.cell 9
      have z10 := hfin.cell 10
      have z11 := hfin.cell 11
      simp only [List.getElem?_cons_zero, List.getElem?_cons_succ] at z0 z1 z2 z3 z4 z5 z6 z7 z8 z9 z10 z11
      refine bodyPost_ret (v := .agg #[.int .i64 (a0 : Nat), .int .i64 (a1 : Nat), .int .i64 (a2 : Nat), .int .i64 (a3 : Nat), .int .i64 (a4 : Nat), .int .i64 (a5 : Nat), .int .i64 (a6 : Nat), .int .i64 (a7 : Nat), .int .i64 (a8 : Nat), .int .i64 (a9 : Nat), .int .i64 (a10 : Nat), .int .i64 (a11 : Nat)]) ?_ rfl ⟨[a0, a1, a2, a3, a4, a5, a6, a7, a8, a9, a10, a11], rfl, HUF.out, ?_⟩
      · simp [results, Tryz.results158, go_sem, z0, z1, z2, z3, z4, z5, z6, z7, z8, z9, z10, z11]
      · exact (((((((((((hbf.setCell (by simp) _).setCell (by simp) _).setCell (by simp) _).setCell (by simp) _).setCell (by simp) _).setCell (by simp) _).setCell (by simp) _).setCell (by simp) _).setCell (by simp) _).setCell (by simp) _).setCell (by simp) _).setCell (by simp) _

end Go.Proofs.YtpgopmmobbemcaaGreat

set_option linter.unusedVariables false
set_option linter.unusedSimpArgs false
set_option linter.unnecessarySimpa false
namespace Go.Proofs.YtpgopmmobbemcaaGreat
open Go.RowKit

theorem cnt_uf {E : List (Nat × Nat)} {f g : List Nat} (hf : Uf f E) (hg : Uf g E) {n : Nat} (hn : n ≤ 12) : cnt f n = cnt g n := by
  unfold cnt
  congr 1
  refine List.filter_congr fun v hv => ?_
  have hv2 : v < 12 := by have := List.mem_range.1 hv; omega
  have h1 := (hf.least hv2).trans (hg.least hv2).symm
  show (rootF f v == v) = (rootF g v == v)
  by_cases h : rootF f v = v
  · rw [h, h1.1 h]
  · rw [beq_eq_false_iff_ne.2 h, beq_eq_false_iff_ne.2 (fun e => h (h1.2 e))]

/-- How many parts a right graph has; 0 of a wrong one. -/
def partsN (n : Int) (es : List Edg) (f : List Nat) : Nat := if gErr n es = 0 then cnt f n.toNat else 0
def CompPost (w : World) (n : Int) (es : List Edg) (f : List Nat) (e : Ending) (w' : World) : Prop :=
  (∃ oa c, e = .returned (.tuple #[.slice oa (partsN n es f) c, .int .i64 (gErr n es)])) ∧ Below w.heap.size w w'

set_option maxRecDepth 100000 in
set_option maxHeartbeats 2000000 in
theorem comps_any (n : Int) (es : List Edg) (oe : Option Addr) (c : Nat) (F : Foot) (w : World) (hs : SliceR edgR 3 F w oe es) (hc : es.length ≤ c) (hc2 : es.length ≤ 9223372036854775807)
    (f : List Nat) (hU : Hid (gErr n es = 0 → Uf f (eL es))) : Calls Tryz.prog 140 #[.agg #[.int .i64 n, .slice oe es.length c]] w (CompPost w n es f) := by
  go_enter Tryz.func140, Tryz.ntmps140
  go_wp2_with fail
  have hb0 := box_refl w (.cells #[.int .i64 n, .slice oe es.length c] 24)
  refine (gcheck_any n es oe c F _ (hs.below edgR_ok (below_box hb0)) hc hc2).mono ?_
  rintro e w2 ⟨rfl, hb2⟩
  have hx2 := hb2.mono (B' := w.heap.size + 1) (by simp)
  have d0 := box_cell hx2 0
  have d1 := box_cell hx2 1
  simp at d0 d1
  clear hb2 hb0
  have hs2 := hs.below edgR_ok (below_box hx2)
  by_cases hV : gErr n es = 0
  · have HV := hide hV
    have HP : Hid (partsN n es f = cnt f n.toNat) := if_pos hV
    have hn := (gErr_zero hV).1
    rw [hV]
    obtain ⟨N, rfl⟩ := Int.eq_ofNat_of_zero_le (show 0 ≤ n by omega)
    go_wp2_with fail
    refine (joinedG_any N es oe c F _ hs2 hc hc2 HV).mono ?_
    rintro e w3 ⟨g, rfl, hg, hb3⟩
    have hx3 := hx2.trans (hb3.mono (box_lt hx2))
    have d0 := box_cell hx3 0
    simp at d0
    have HG := hide hg
    have hlt3 := box_lt hx3
    clear hb3 d1 hx2 hs2
    obtain ⟨a0, a1, a2, a3, a4, a5, a6, a7, a8, a9, a10, a11, hg12⟩ := twelve hg.fst.len
    have hca : castV g = [.int .i64 (a0 : Nat), .int .i64 (a1 : Nat), .int .i64 (a2 : Nat), .int .i64 (a3 : Nat), .int .i64 (a4 : Nat), .int .i64 (a5 : Nat), .int .i64 (a6 : Nat), .int .i64 (a7 : Nat), .int .i64 (a8 : Nat), .int .i64 (a9 : Nat), .int .i64 (a10 : Nat), .int .i64 (a11 : Nat)] := by rw [hg12]; rfl
    have d0n := cell_next d0 (.cells #[.int .i64 (a0 : Nat), .int .i64 (a1 : Nat), .int .i64 (a2 : Nat), .int .i64 (a3 : Nat), .int .i64 (a4 : Nat), .int .i64 (a5 : Nat), .int .i64 (a6 : Nat), .int .i64 (a7 : Nat), .int .i64 (a8 : Nat), .int .i64 (a9 : Nat), .int .i64 (a10 : Nat), .int .i64 (a11 : Nat)] 199)
    have hbx : Box (w3.alloc (.cells #[.int .i64 (a0 : Nat), .int .i64 (a1 : Nat), .int .i64 (a2 : Nat), .int .i64 (a3 : Nat), .int .i64 (a4 : Nat), .int .i64 (a5 : Nat), .int .i64 (a6 : Nat), .int .i64 (a7 : Nat), .int .i64 (a8 : Nat), .int .i64 (a9 : Nat), .int .i64 (a10 : Nat), .int .i64 (a11 : Nat)] 199)) w3.heap.size (castV g) 199 := by rw [hca]; exact Box.new w3 _ _
    rw [hca]
    have HB3 := hide (box_new hx3 (by simp) (.cells #[.int .i64 (a0 : Nat), .int .i64 (a1 : Nat), .int .i64 (a2 : Nat), .int .i64 (a3 : Nat), .int .i64 (a4 : Nat), .int .i64 (a5 : Nat), .int .i64 (a6 : Nat), .int .i64 (a7 : Nat), .int .i64 (a8 : Nat), .int .i64 (a9 : Nat), .int .i64 (a10 : Nat), .int .i64 (a11 : Nat)] 199))
    clear hca hg12 hg hV hx3
    go_wp2_with fail
    refine (parts_any g w3.heap.size N _ hbx (hide HG.out.fst) (by omega)).mono ?_
    rintro e w4 ⟨oa, c4, rfl, hb4⟩
    have HF : Hid (cnt g N = partsN (N : Int) es f) := by
      show _ = _
      rw [HP.out]
      exact cnt_uf HG.out (hU.out HV.out) (by omega)
    have HB4 := hide (below_then (below_box HB3.out) (hb4.mono (by simp)))
    clear hb4 hbx
    go_wp2_with fail
    go_ret2
    refine ⟨⟨oa, c4, ?_⟩, ?_⟩
    · rw [← HF.out, HV.out]; rfl
    · exact HB4.out
  · have HP : Hid (partsN n es f = 0) := if_neg hV
    have hx := hide (below_box hx2)
    have hq : (gErr n es != 0) = true := by simpa using hV
    go_wp2_with fail
    go_ret2
    exact ⟨⟨none, 0, by rw [HP.out]; rfl⟩, hx.out⟩

def ConnPost (w : World) (n : Int) (es : List Edg) (f : List Nat) (e : Ending) (w' : World) : Prop :=
  e = .returned (.tuple #[.bool (partsN n es f == 1), .int .i64 (gErr n es)]) ∧ Below w.heap.size w w'

set_option maxRecDepth 100000 in
set_option maxHeartbeats 1000000 in
theorem conn_any (n : Int) (es : List Edg) (oe : Option Addr) (c : Nat) (F : Foot) (w : World) (hs : SliceR edgR 3 F w oe es) (hc : es.length ≤ c) (hc2 : es.length ≤ 9223372036854775807)
    (f : List Nat) (hU : Hid (gErr n es = 0 → Uf f (eL es))) : Calls Tryz.prog 115 #[.agg #[.int .i64 n, .slice oe es.length c]] w (ConnPost w n es f) := by
  go_enter Tryz.func115, Tryz.ntmps115
  go_wp2_with fail
  have hb0 := box_refl w (.cells #[.int .i64 n, .slice oe es.length c] 24)
  refine (comps_any n es oe c F _ (hs.below edgR_ok (below_box hb0)) hc hc2 f hU).mono ?_
  rintro e w2 ⟨⟨oa, c2, rfl⟩, hb2⟩
  have hx := hide (below_box (hb2.mono (B' := w.heap.size + 1) (by simp)))
  clear hb2
  have HQ : Hid ((partsN n es f == 1) = decide (((partsN n es f : Nat) : Int) = 1)) := by
    show _ = _
    rw [Bool.eq_iff_iff]
    simp
    omega
  go_wp2_with fail
  go_ret2
  exact ⟨by rw [HQ.out]; rfl, hx.out⟩

/-- The error of a graph that has to be connected. -/
def jErr (n : Int) (es : List Edg) (f : List Nat) : Int := if gErr n es = 0 then (if partsN n es f = 1 then 0 else 13) else gErr n es
def jEnds (n : Int) (es : List Edg) : List (Int × Int) := if gErr n es = 0 then endsL es else []
def JoinedPost (w : World) (n : Int) (es : List Edg) (f : List Nat) (e : Ending) (w' : World) : Prop :=
  ∃ v, e = .returned (.tuple #[v, .int .i64 (jErr n es f)]) ∧ OwnS prR 2 w.heap.size 135 Non w' v (jEnds n es) ∧ Below w.heap.size w w'

end Go.Proofs.YtpgopmmobbemcaaGreat

set_option linter.unusedVariables false
set_option linter.unusedSimpArgs false
set_option linter.unnecessarySimpa false
namespace Go.Proofs.YtpgopmmobbemcaaGreat
open Go.RowKit

theorem hv_mem {l : List (Int × Int)} {h : Nat} (hh : h < 2 * l.length) : ∃ p ∈ l, hv l h = p.1 ∨ hv l h = p.2 := by
  have hq : h / 2 < l.length := by omega
  have hg : l.getD (h / 2) (0, 0) = l[h / 2] := by rw [List.getD_eq_getElem?_getD, List.getElem?_eq_getElem hq]; rfl
  refine ⟨l[h / 2], List.getElem_mem hq, ?_⟩
  unfold hv
  rw [hg]
  split
  · exact .inl rfl
  · exact .inr rfl
theorem hv_range {n : Int} {es : List Edg} (hV : gErr n es = 0) : ∀ h, h < 2 * (endsL es).length → 0 ≤ hv (endsL es) h ∧ hv (endsL es) h < n := by
  intro h hh
  obtain ⟨p, hp, hpe⟩ := hv_mem hh
  obtain ⟨x, hx, rfl⟩ := endsL_mem hp
  have h1 := (gErr_zero hV).2.1 x hx
  rcases hpe with e | e <;> (rw [e]; simp only; omega)
def rowsE : List (List Int) → List (List Int) → Int
  | a :: r, o :: q => if listE a o = 0 then rowsE r q else listE a o
  | _, _ => 0
theorem rowsE_cons (a o : List Int) (r q : List (List Int)) : rowsE (a :: r) (o :: q) = if listE a o = 0 then rowsE r q else listE a o := rfl
def halfs (n : Int) (es : List Edg) : List (List Int) := halvesU n.toNat (endsL es) (2 * (endsL es).length)
/-- The error of a ribbon graph. -/
def chkE (n : Int) (es : List Edg) (f : List Nat) (ar : List (List Int)) : Int :=
  if jErr n es f = 0 then (if (ar.length : Int) = n then rowsE ar (halfs n es) else 8) else jErr n es f
def CheckedPost (w : World) (n : Int) (es : List Edg) (f : List Nat) (ar : List (List Int)) (e : Ending) (w' : World) : Prop :=
  ∃ v, e = .returned (.tuple #[v, .int .i64 (chkE n es f ar)]) ∧ OwnS prR 2 w.heap.size 135 Non w' v (if chkE n es f ar = 0 then endsL es else []) ∧ Below w.heap.size w w'

theorem jErr_zero {n : Int} {es : List Edg} {f : List Nat} (h : jErr n es f = 0) : gErr n es = 0 := by
  unfold jErr at h
  split at h
  · assumption
  · exact h

end Go.Proofs.YtpgopmmobbemcaaGreat

set_option linter.unusedVariables false
set_option linter.unusedSimpArgs false
set_option linter.unnecessarySimpa false
namespace Go.Proofs.YtpgopmmobbemcaaGreat
open Go.RowKit

set_option maxRecDepth 100000 in
set_option maxHeartbeats 4000000 in
theorem betw_any (n : Int) (es : List Edg) (oe : Option Addr) (c : Nat) (F : Foot) (w : World) (hs : SliceR edgR 3 F w oe es) (hc : es.length ≤ c) (hc2 : es.length ≤ 9223372036854775807) (a b : Int) :
    Calls Tryz.prog 100 #[.agg #[.int .i64 n, .slice oe es.length c], .int .i64 a, .int .i64 b] w (ErrPost w (betw es a b)) := by
  rcases Int.lt_trichotomy a b with hab | hab | hab
  · have hmin : min a b = a := by omega
    have hmax : max a b = b := by omega
    go_enter Tryz.func100, Tryz.ntmps100
    go_wp2_with fail
    have hb0 := box_refl w (.cells #[.int .i64 n, .slice oe es.length c] 24)
    go_loopw [7] (fun iv wr => ∃ k : Nat, k ≤ es.length ∧ iv = .int .i64 k ∧ Hid (betw es a b = betw (es.drop k) a b) ∧ Below (w.heap.size + 1) (w.alloc (.cells #[.int .i64 n, .slice oe es.length c] 24)) wr) (fun iv _ => es.length - (intOf iv).toNat)
    case atStart => exact ⟨0, by omega, rfl, rfl, hb0⟩
    case round =>
      obtain ⟨k, hk, rfl, HB, hb⟩ := hrel
      have d1 := box_cell hb 1
      simp at d1
      clear hb0
      by_cases hlt : k < es.length
      · obtain ⟨x, y, m, hd, hget, _, _, _, bl, off, hoa, _, c0, c1, c2⟩ := (hs.below edgR_ok (below_box hb)).edg_at hlt
        subst hoa
        have hbl := World.block_lt_of_cell? _ _ c0
        simp only at hbl
        have hsz := box_lt hb
        have HS := HB.out
        rw [hd, betw] at HS
        simp only [hmin, hmax] at HS
        have HS := hide HS
        clear hd hget
        by_cases hx : x = a
        · by_cases hy : y = b
          · have HR : Hid (betw es a b = m) := by show _ = _; rw [HS.out, if_pos ⟨hx, hy⟩]
            have q1 : (x == a) = true := by simp [hx]
            have q2 : (y == b) = true := by simp [hy]
            have HX := hide (And.intro hx hy)
            clear hx hy
            go_wp2_with fail
            go_ret
            exact ⟨ret_int HR.out.symm, below_box (box_new hb (by simp) _)⟩
          · have HR : Hid (betw es a b = betw (es.drop (k + 1)) a b) := by show _ = _; rw [HS.out, if_neg (fun h => hy h.2)]
            have q1 : (x == a) = true := by simp [hx]
            have q2 : (y == b) = false := by simp [hy]
            have HX := hide (And.intro hx hy)
            clear hx hy
            go_wp2_with fail
            go_roundw
            case rel => exact ⟨k + 1, by omega, by go_num, HR, box_new hb (by simp) _⟩
            case measure => simp [intOf]; omega
        · have HR : Hid (betw es a b = betw (es.drop (k + 1)) a b) := by show _ = _; rw [HS.out, if_neg (fun h => hx h.1)]
          have q1 : (x == a) = false := by simp [hx]
          have HX := hide hx
          clear hx
          go_wp2_with fail
          go_roundw
          case rel => exact ⟨k + 1, by omega, by go_num, HR, box_new hb (by simp) _⟩
          case measure => simp [intOf]; omega
      · have HR : Hid (betw es a b = 0) := by
          show _ = _
          rw [HB.out, List.drop_of_length_le (by omega)]
          rfl
        go_wp2_with fail
        go_ret
        exact ⟨ret_int HR.out.symm, below_box hb⟩
  · subst hab
    have hmin : min a a = a := by omega
    have hmax : max a a = a := by omega
    go_enter Tryz.func100, Tryz.ntmps100
    go_wp2_with fail
    have hb0 := box_refl w (.cells #[.int .i64 n, .slice oe es.length c] 24)
    go_loopw [7] (fun iv wr => ∃ k : Nat, k ≤ es.length ∧ iv = .int .i64 k ∧ Hid (betw es a a = betw (es.drop k) a a) ∧ Below (w.heap.size + 1) (w.alloc (.cells #[.int .i64 n, .slice oe es.length c] 24)) wr) (fun iv _ => es.length - (intOf iv).toNat)
    case atStart => exact ⟨0, by omega, rfl, rfl, hb0⟩
    case round =>
      obtain ⟨k, hk, rfl, HB, hb⟩ := hrel
      have d1 := box_cell hb 1
      simp at d1
      clear hb0
      by_cases hlt : k < es.length
      · obtain ⟨x, y, m, hd, hget, _, _, _, bl, off, hoa, _, c0, c1, c2⟩ := (hs.below edgR_ok (below_box hb)).edg_at hlt
        subst hoa
        have hbl := World.block_lt_of_cell? _ _ c0
        simp only at hbl
        have hsz := box_lt hb
        have HS := HB.out
        rw [hd, betw] at HS
        simp only [hmin, hmax] at HS
        have HS := hide HS
        clear hd hget
        by_cases hx : x = a
        · by_cases hy : y = a
          · have HR : Hid (betw es a a = m) := by show _ = _; rw [HS.out, if_pos ⟨hx, hy⟩]
            have q1 : (x == a) = true := by simp [hx]
            have q2 : (y == a) = true := by simp [hy]
            have HX := hide (And.intro hx hy)
            clear hx hy
            go_wp2_with fail
            go_ret
            exact ⟨ret_int HR.out.symm, below_box (box_new hb (by simp) _)⟩
          · have HR : Hid (betw es a a = betw (es.drop (k + 1)) a a) := by show _ = _; rw [HS.out, if_neg (fun h => hy h.2)]
            have q1 : (x == a) = true := by simp [hx]
            have q2 : (y == a) = false := by simp [hy]
            have HX := hide (And.intro hx hy)
            clear hx hy
            go_wp2_with fail
            go_roundw
            case rel => exact ⟨k + 1, by omega, by go_num, HR, box_new hb (by simp) _⟩
            case measure => simp [intOf]; omega
        · have HR : Hid (betw es a a = betw (es.drop (k + 1)) a a) := by show _ = _; rw [HS.out, if_neg (fun h => hx h.1)]
          have q1 : (x == a) = false := by simp [hx]
          have HX := hide hx
          clear hx
          go_wp2_with fail
          go_roundw
          case rel => exact ⟨k + 1, by omega, by go_num, HR, box_new hb (by simp) _⟩
          case measure => simp [intOf]; omega
      · have HR : Hid (betw es a a = 0) := by
          show _ = _
          rw [HB.out, List.drop_of_length_le (by omega)]
          rfl
        go_wp2_with fail
        go_ret
        exact ⟨ret_int HR.out.symm, below_box hb⟩
  · have hmin : min a b = b := by omega
    have hmax : max a b = a := by omega
    go_enter Tryz.func100, Tryz.ntmps100
    go_wp2_with fail
    have hb0 := box_refl w (.cells #[.int .i64 n, .slice oe es.length c] 24)
    go_loopw [7] (fun iv wr => ∃ k : Nat, k ≤ es.length ∧ iv = .int .i64 k ∧ Hid (betw es a b = betw (es.drop k) a b) ∧ Below (w.heap.size + 1) (w.alloc (.cells #[.int .i64 n, .slice oe es.length c] 24)) wr) (fun iv _ => es.length - (intOf iv).toNat)
    case atStart => exact ⟨0, by omega, rfl, rfl, hb0⟩
    case round =>
      obtain ⟨k, hk, rfl, HB, hb⟩ := hrel
      have d1 := box_cell hb 1
      simp at d1
      clear hb0
      by_cases hlt : k < es.length
      · obtain ⟨x, y, m, hd, hget, _, _, _, bl, off, hoa, _, c0, c1, c2⟩ := (hs.below edgR_ok (below_box hb)).edg_at hlt
        subst hoa
        have hbl := World.block_lt_of_cell? _ _ c0
        simp only at hbl
        have hsz := box_lt hb
        have HS := HB.out
        rw [hd, betw] at HS
        simp only [hmin, hmax] at HS
        have HS := hide HS
        clear hd hget
        by_cases hx : x = b
        · by_cases hy : y = a
          · have HR : Hid (betw es a b = m) := by show _ = _; rw [HS.out, if_pos ⟨hx, hy⟩]
            have q1 : (x == b) = true := by simp [hx]
            have q2 : (y == a) = true := by simp [hy]
            have HX := hide (And.intro hx hy)
            clear hx hy
            go_wp2_with fail
            go_ret
            exact ⟨ret_int HR.out.symm, below_box (box_new hb (by simp) _)⟩
          · have HR : Hid (betw es a b = betw (es.drop (k + 1)) a b) := by show _ = _; rw [HS.out, if_neg (fun h => hy h.2)]
            have q1 : (x == b) = true := by simp [hx]
            have q2 : (y == a) = false := by simp [hy]
            have HX := hide (And.intro hx hy)
            clear hx hy
            go_wp2_with fail
            go_roundw
            case rel => exact ⟨k + 1, by omega, by go_num, HR, box_new hb (by simp) _⟩
            case measure => simp [intOf]; omega
        · have HR : Hid (betw es a b = betw (es.drop (k + 1)) a b) := by show _ = _; rw [HS.out, if_neg (fun h => hx h.1)]
          have q1 : (x == b) = false := by simp [hx]
          have HX := hide hx
          clear hx
          go_wp2_with fail
          go_roundw
          case rel => exact ⟨k + 1, by omega, by go_num, HR, box_new hb (by simp) _⟩
          case measure => simp [intOf]; omega
      · have HR : Hid (betw es a b = 0) := by
          show _ = _
          rw [HB.out, List.drop_of_length_le (by omega)]
          rfl
        go_wp2_with fail
        go_ret
        exact ⟨ret_int HR.out.symm, below_box hb⟩

end Go.Proofs.YtpgopmmobbemcaaGreat

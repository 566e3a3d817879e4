/-
  Representation of Go data in the model's memory: a value's cells stand for a Lean datum. No program is named here.
  The data of the chapters on processors and networks, as plain Lean; how they lie in memory.
  From the reading of an argument to the list or the structure that it stands for.
  A block of the call's own that is known whole: a boxed variable, struct or array. No program is named here.
  Results of which the first is a row of cells.
  The wire machine in plain Lean: packets over lines that lose, repeat and delay them; what is quiet remains so.
  Slices that a call itself makes: what they own, what an append does, how they read afterwards. No program is named here.
  A list of integers that the call made and from whose front it takes: 'work = work[1:]', 'work = append(work, x)'.
  A row of the call's own, one cell an element, that is known whole: read, written in place. No program is named here.
  A list of integers of the call's own, nil or not; many such lists side by side. No program is named here.
  The wire machine in memory: what lies where, and what a store of each kind does.
  The wire machine in memory: what a call of one of its functions leaves alone; wait.
  The wire machine while it is laid: what lies where, row by row.
  Plain facts on right processors, and what reading a word comes to.
  slices.Clone at the lists of a network (printed by wip/mkClone.py).
  slices.IndexFunc and slices.ContainsFunc at the closures of the wire machine (printed by wip/mkIdx.py).
  Networks of processors: the error of a network, in plain Lean; what a right one holds.
  The walks of package processor: below, sent, rule, Check.
  network.Check.
  network.Check, whole.
  append to a slice of the call's own, as one step of a region that draws its order. No program is named here.
  append of one element to a slice of the call's own, as one step of a region that draws its order: and where the new slice lies. No program is named here.
  The wire machine: letters that were acknowledged are removed.
  The wire machine: packets are sent.
  The wire machine: a packet that arrives is handled.
-/
import Derived.WalkKit
import Derived.WalkSpells
import Derived.WalkLawsBesides
import Derived.KernelRfl
import Derived.Test.YtnigfddanoaonaaProg
import Derived.ProofKit
import Derived.Deep.Slices
import Derived.Lib.RowBridge
import Derived.Laws.ResultCell
import Derived.OwnWalk
import Derived.ArgAppend
import Derived.BigQuiet
import Derived.Deep.QuietTactic
import Derived.Deep.RegionLaw
import Derived.Deep.AppendLies
import Derived.Deep.LoopGhost
import Derived.Deep.DeepCutAuto
import Derived.Deep.RegionHeld3

namespace Go.Proofs.Ytnigfddanoaonaa
open Go.RowKit

abbrev Foot := Nat → Prop
abbrev Rep (α : Type) := Foot → World → List Value → α → Prop
def All : Foot := fun _ => True
def Lt (B : Nat) : Foot := fun k => k < B
def Ge (B : Nat) : Foot := fun k => B ≤ k

def SameOn (F : Foot) (w w' : World) : Prop := ∀ k, F k → k < w.heap.size → w'.heap[k]? = w.heap[k]?

theorem SameOn.refl (F : Foot) (w : World) : SameOn F w w := fun _ _ _ => rfl
theorem SameOn.of_below {F : Foot} {w w' : World} (h : Below w.heap.size w w') : SameOn F w w' := fun k _ hk => h.block k hk
structure RepOk {α : Type} (R : Rep α) (sz : Nat) : Prop where
  len : ∀ {F w cs x}, R F w cs x → cs.length = sz
  one : ∀ {F w cs x}, R F w cs x → ∀ u ∈ cs, u.oneCell' = true
  keep : ∀ {F w w' cs x}, R F w cs x → SameOn F w w' → R F w' cs x
  wide : ∀ {F F' w cs x}, R F w cs x → (∀ k, F k → k < w.heap.size → F' k) → R F' w cs x

def I64 (x : Int) : Prop := -9223372036854775808 ≤ x ∧ x ≤ 9223372036854775807

def intR : Rep Int := fun _ _ cs x => cs = [.int .i64 x] ∧ I64 x
def boolR : Rep Bool := fun _ _ cs x => cs = [.bool x]

theorem intR_ok : RepOk intR 1 where
  len := by rintro F w cs x ⟨rfl, _⟩; rfl
  one := by rintro F w cs x ⟨rfl, _⟩ u hu; simp at hu; subst hu; rfl
  keep := by rintro F w w' cs x h _; exact h
  wide := by rintro F F' w cs x h _; exact h
/-- The address oa holds, from its place on, the elements xs, sz cells each. -/
def SliceR {α : Type} (R : Rep α) (sz : Nat) (F : Foot) (w : World) (oa : Option Addr) (xs : List α) : Prop :=
  ∀ i x, xs[i]? = some x → ∃ b off cs, oa = some ⟨b, off, none⟩ ∧ F b ∧ R F w cs x ∧ ∀ j u, cs[j]? = some u → w.cell? ⟨b, off + i * sz + j, none⟩ = some u

section
variable {α : Type} {R : Rep α} {sz : Nat} {F F' : Foot} {w w' : World} {oa : Option Addr} {xs : List α}

theorem SliceR.nil (R : Rep α) (sz : Nat) (F : Foot) (w : World) (oa : Option Addr) : SliceR R sz F w oa [] := by intro i x h; simp at h

theorem SliceR.keep (ok : RepOk R sz) (h : SliceR R sz F w oa xs) (hs : SameOn F w w') : SliceR R sz F w' oa xs := by
  intro i x hx
  obtain ⟨b, off, cs, rfl, hF, hR, hc⟩ := h i x hx
  refine ⟨b, off, cs, rfl, hF, ok.keep hR hs, fun j u hu => ?_⟩
  have h1 := hc j u hu
  have hb : b < w.heap.size := World.block_lt_of_cell? _ _ h1
  rw [World.cell?_of_block (hs b hF hb)]
  exact h1

theorem SliceR.below (ok : RepOk R sz) (h : SliceR R sz F w oa xs) (hb : Below w.heap.size w w') : SliceR R sz F w' oa xs := h.keep ok (SameOn.of_below hb)

theorem SliceR.wide (ok : RepOk R sz) (hsz : 0 < sz) (h : SliceR R sz F w oa xs) (hs : ∀ k, F k → k < w.heap.size → F' k) : SliceR R sz F' w oa xs := by
  intro i x hx
  obtain ⟨b, off, cs, rfl, hF, hR, hc⟩ := h i x hx
  have hl := ok.len hR
  have h0 : cs[0]? = some (cs[0]'(by omega)) := List.getElem?_eq_getElem (by omega)
  exact ⟨b, off, cs, rfl, hs b hF (World.block_lt_of_cell? _ _ (hc 0 _ h0)), ok.wide hR hs, hc⟩

theorem SliceR.loc (ok : RepOk R sz) (hsz : 0 < sz) (h : SliceR R sz F w oa xs) : SliceR R sz (Lt w.heap.size) w oa xs := h.wide ok hsz fun _ _ hk => hk
theorem SliceR.all (ok : RepOk R sz) (hsz : 0 < sz) (h : SliceR R sz F w oa xs) : SliceR R sz All w oa xs := h.wide ok hsz fun _ _ _ => trivial

/-- The element at i, with what is left of the list. -/
theorem SliceR.at (h : SliceR R sz F w oa xs) {i : Nat} (hi : i < xs.length) :
    ∃ x, xs.drop i = x :: xs.drop (i + 1) ∧ xs[i]? = some x ∧ ∃ b off cs, oa = some ⟨b, off, none⟩ ∧ F b ∧ R F w cs x ∧ ∀ j u, cs[j]? = some u → w.cell? ⟨b, off + i * sz + j, none⟩ = some u :=
  ⟨xs[i], List.drop_eq_getElem_cons hi, List.getElem?_eq_getElem hi, h i _ (List.getElem?_eq_getElem hi)⟩
end

/-- A slice value that stands for a list. -/
def slcR {α : Type} (R : Rep α) (sz : Nat) : Rep (List α) := fun F w cs xs =>
  ∃ oa c, cs = [.slice oa xs.length c] ∧ xs.length ≤ c ∧ xs.length ≤ 9223372036854775807 ∧ SliceR R sz F w oa xs

theorem slcR_ok {α : Type} {R : Rep α} {sz : Nat} (ok : RepOk R sz) (hsz : 0 < sz) : RepOk (slcR R sz) 1 where
  len := by rintro F w cs x ⟨oa, c, rfl, _⟩; rfl
  one := by rintro F w cs x ⟨oa, c, rfl, _⟩ u hu; simp at hu; subst hu; rfl
  keep := by rintro F w w' cs x ⟨oa, c, rfl, h1, h2, h⟩ hs; exact ⟨oa, c, rfl, h1, h2, h.keep ok hs⟩
  wide := by rintro F F' w cs x ⟨oa, c, rfl, h1, h2, h⟩ hs; exact ⟨oa, c, rfl, h1, h2, h.wide ok hsz hs⟩

section
variable {F : Foot} {w : World} {oa : Option Addr}
theorem SliceR.int_at {xs : List Int} (h : SliceR intR 1 F w oa xs) {i : Nat} (hi : i < xs.length) :
    ∃ x, xs.drop i = x :: xs.drop (i + 1) ∧ xs[i]? = some x ∧ I64 x ∧ ∃ b off, oa = some ⟨b, off, none⟩ ∧ F b ∧ w.cell? ⟨b, off + i, none⟩ = some (.int .i64 x) := by
  obtain ⟨x, h1, h2, b, off, cs, h3, h4, ⟨rfl, h5⟩, h6⟩ := h.at hi
  exact ⟨x, h1, h2, h5, b, off, h3, h4, by simpa using h6 0 _ rfl⟩
theorem SliceR.slc_at {α : Type} {R : Rep α} {sz : Nat} {xs : List (List α)} (h : SliceR (slcR R sz) 1 F w oa xs) {i : Nat} (hi : i < xs.length) :
    ∃ x, xs.drop i = x :: xs.drop (i + 1) ∧ xs[i]? = some x ∧ ∃ b off oa' c, oa = some ⟨b, off, none⟩ ∧ F b ∧ w.cell? ⟨b, off + i, none⟩ = some (.slice oa' x.length c) ∧ x.length ≤ c ∧ x.length ≤ 9223372036854775807 ∧ SliceR R sz F w oa' x := by
  obtain ⟨x, h1, h2, b, off, cs, h3, h4, ⟨oa', c, rfl, h5, h6, h7⟩, h8⟩ := h.at hi
  exact ⟨x, h1, h2, b, off, oa', c, h3, h4, by simpa using h8 0 _ rfl, h5, h6, h7⟩
end

theorem ret_int {k : IntKind} {a b : Int} (h : a = b) : Ending.returned (.int k a) = .returned (.int k b) := by rw [h]
theorem ret_bool {a b : Bool} (h : a = b) : Ending.returned (.bool a) = .returned (.bool b) := by rw [h]
theorem hide {p : Prop} (h : p) : Hid p := h

theorem bnew {w w' : World} (h : Below w.heap.size w w') (o : Obj) : Below w.heap.size w (w'.alloc o) := h.alloc h.size o
/-- Behind a box that the call laid first: below it all is as it was. -/
theorem below_box {w wr : World} {o : Obj} (hb : Below (w.heap.size + 1) (w.alloc o) wr) : Below w.heap.size w wr :=
  ((Below.refl w.heap.size w).alloc (Nat.le_refl _) o).trans (hb.mono (by omega))
theorem box_refl (w : World) (o : Obj) : Below (w.heap.size + 1) (w.alloc o) (w.alloc o) := Below.refl _ _
theorem box_cell {w wr : World} {cs : Array Value} {t : TypeId} (hb : Below (w.heap.size + 1) (w.alloc (.cells cs t)) wr) (i : Nat) : wr.cell? ⟨w.heap.size, i, none⟩ = cs[i]? := by
  rw [hb.cell (p := ⟨w.heap.size, i, none⟩) (by simp)]
  exact cell_of_row (w.alloc (.cells cs t)) w.heap.size i cs t (0, 0) (heap_alloc_new w _)
theorem box_lt {w wr : World} {o : Obj} (hb : Below (w.heap.size + 1) (w.alloc o) wr) : w.heap.size < wr.heap.size := by
  have := hb.size
  simp at this
  omega
theorem box_new {B : Nat} {a wr : World} (hb : Below B a wr) (hB : B ≤ a.heap.size) (o : Obj) : Below B a (wr.alloc o) := hb.alloc (Nat.le_trans hB hb.size) o
theorem box_then {B : Nat} {a wr w2 : World} (hb : Below B a wr) (hB : B ≤ a.heap.size) (h2 : Below wr.heap.size wr w2) : Below B a w2 := hb.trans (h2.mono (Nat.le_trans hB hb.size))
theorem below_drewN {B : Nat} {a w : World} (h : Below B a w) (n : Nat) : Below B a (w.drewN n) := ⟨h.os, h.tape, h.output, h.size, h.block⟩
theorem SliceR.drewN {α : Type} {R : Rep α} {sz : Nat} {F : Foot} {w : World} {oa : Option Addr} {xs : List α} (ok : RepOk R sz) (h : SliceR R sz F w oa xs) (n : Nat) : SliceR R sz F (w.drewN n) oa xs :=
  h.keep ok fun _ _ _ => rfl
theorem below_then {a wr w2 : World} (hb : Below a.heap.size a wr) (h2 : Below wr.heap.size wr w2) : Below a.heap.size a w2 := hb.trans (h2.mono hb.size)

end Go.Proofs.Ytnigfddanoaonaa

namespace Go.Proofs.Ytnigfddanoaonaa
open Go.RowKit

structure Out where
  dst : Int
  letter : Int
  deriving DecidableEq
structure Rul where
  next : Int
  sent : List Out
  deriving DecidableEq
structure Prc where
  states : Int
  letters : Int
  rules : List (List Rul)
  deriving DecidableEq
structure Nwk where
  procs : List Prc
  state : List Int
  waiting : List (List Int)
  deriving DecidableEq

def outR : Rep Out := fun _ _ cs x => cs = [.int .i64 x.dst, .int .i64 x.letter] ∧ I64 x.dst ∧ I64 x.letter
def ruleR : Rep Rul := fun F w cs r => ∃ oa c, cs = [.int .i64 r.next, .slice oa r.sent.length c] ∧ I64 r.next ∧ r.sent.length ≤ c ∧ r.sent.length ≤ 9223372036854775807 ∧ SliceR outR 2 F w oa r.sent
def prcR : Rep Prc := fun F w cs p => ∃ oa c, cs = [.int .i64 p.states, .int .i64 p.letters, .slice oa p.rules.length c] ∧ I64 p.states ∧ I64 p.letters ∧ p.rules.length ≤ c ∧ p.rules.length ≤ 9223372036854775807 ∧ SliceR (slcR ruleR 2) 1 F w oa p.rules

theorem outR_ok : RepOk outR 2 where
  len := by rintro F w cs x ⟨rfl, _⟩; rfl
  one := by rintro F w cs x ⟨rfl, _⟩ u hu; simp at hu; rcases hu with rfl | rfl <;> rfl
  keep := by rintro F w w' cs x h _; exact h
  wide := by rintro F F' w cs x h _; exact h
theorem ruleR_ok : RepOk ruleR 2 where
  len := by rintro F w cs x ⟨oa, c, rfl, _⟩; rfl
  one := by rintro F w cs x ⟨oa, c, rfl, _⟩ u hu; simp at hu; rcases hu with rfl | rfl <;> rfl
  keep := by rintro F w w' cs x ⟨oa, c, rfl, h0, h1, h2, h⟩ hs; exact ⟨oa, c, rfl, h0, h1, h2, h.keep outR_ok hs⟩
  wide := by rintro F F' w cs x ⟨oa, c, rfl, h0, h1, h2, h⟩ hs; exact ⟨oa, c, rfl, h0, h1, h2, h.wide outR_ok (by omega) hs⟩
theorem rowR_ok : RepOk (slcR ruleR 2) 1 := slcR_ok ruleR_ok (by omega)
theorem prcR_ok : RepOk prcR 3 where
  len := by rintro F w cs x ⟨oa, c, rfl, _⟩; rfl
  one := by rintro F w cs x ⟨oa, c, rfl, _⟩ u hu; simp at hu; rcases hu with rfl | rfl | rfl <;> rfl
  keep := by rintro F w w' cs x ⟨oa, c, rfl, h0, h00, h1, h2, h⟩ hs; exact ⟨oa, c, rfl, h0, h00, h1, h2, h.keep rowR_ok hs⟩
  wide := by rintro F F' w cs x ⟨oa, c, rfl, h0, h00, h1, h2, h⟩ hs; exact ⟨oa, c, rfl, h0, h00, h1, h2, h.wide rowR_ok (by omega) hs⟩

section
variable {F : Foot} {w : World} {oa : Option Addr}
theorem SliceR.out_at {xs : List Out} (h : SliceR outR 2 F w oa xs) {i : Nat} (hi : i < xs.length) :
    ∃ t l, xs.drop i = ⟨t, l⟩ :: xs.drop (i + 1) ∧ xs[i]? = some ⟨t, l⟩ ∧ I64 t ∧ I64 l ∧ ∃ b off, oa = some ⟨b, off, none⟩ ∧ F b ∧ w.cell? ⟨b, off + i * 2, none⟩ = some (.int .i64 t) ∧ w.cell? ⟨b, off + i * 2 + 1, none⟩ = some (.int .i64 l) := by
  obtain ⟨⟨t, l⟩, h1, h2, b, off, cs, h3, h4, ⟨rfl, h5, h5'⟩, h6⟩ := h.at hi
  exact ⟨t, l, h1, h2, h5, h5', b, off, h3, h4, by simpa using h6 0 _ rfl, by simpa using h6 1 _ rfl⟩
theorem SliceR.rule_at {xs : List Rul} (h : SliceR ruleR 2 F w oa xs) {i : Nat} (hi : i < xs.length) :
    ∃ nx st, xs.drop i = ⟨nx, st⟩ :: xs.drop (i + 1) ∧ xs[i]? = some ⟨nx, st⟩ ∧ I64 nx ∧ ∃ b off oa' c, oa = some ⟨b, off, none⟩ ∧ F b ∧ w.cell? ⟨b, off + i * 2, none⟩ = some (.int .i64 nx) ∧ w.cell? ⟨b, off + i * 2 + 1, none⟩ = some (.slice oa' st.length c) ∧ st.length ≤ c ∧ st.length ≤ 9223372036854775807 ∧ SliceR outR 2 F w oa' st := by
  obtain ⟨⟨nx, st⟩, h1, h2, b, off, cs, h3, h4, ⟨oa', c, rfl, h5, h7, h8, h9⟩, h6⟩ := h.at hi
  exact ⟨nx, st, h1, h2, h5, b, off, oa', c, h3, h4, by simpa using h6 0 _ rfl, by simpa using h6 1 _ rfl, h7, h8, h9⟩
end

/- The specifications of layer 54. -/
def belowB (n b : Int) : Bool := decide (0 ≤ n) && decide (n < b)
def sentErr (N : Int) : List Out → Int
  | [] => 0
  | x :: r => if belowB x.dst N && belowB x.letter 8 then sentErr N r else 2
def ruleErr (states N : Int) (r : Rul) : Int := if belowB r.next states then (if r.sent.length ≤ 16 then sentErr N r.sent else 5) else 2
def rowErr (states N : Int) : List Rul → Int
  | [] => 0
  | r :: l => if ruleErr states N r = 0 then rowErr states N l else ruleErr states N r
def rowsErr (states letters N : Int) : List (List Rul) → Int
  | [] => 0
  | l :: r => if (l.length : Int) = letters then (if rowErr states N l = 0 then rowsErr states letters N r else rowErr states N l) else 8
def checkErr (p : Prc) (N : Int) : Int :=
  if N < 1 ∨ N > 12 then 1
  else if p.states < 1 ∨ p.states > 16 ∨ p.letters < 1 ∨ p.letters > 8 then 2
  else if (p.rules.length : Int) ≠ p.states then 8
  else rowsErr p.states p.letters N p.rules

theorem not_err {a : Int} (h : a ≠ 0) : (a != 0) = true := by simp [h]
theorem is_err {a : Int} (h : a = 0) : (a != 0) = false := by simp [h]
def unaryRes (p : Prc) : Bool × Int := if checkErr p 12 = 0 then (p.letters == 1, 0) else (false, checkErr p 12)
def stateErr (p : Prc) (s : Int) : Int := if checkErr p 12 = 0 then (if belowB s p.states then 0 else 2) else checkErr p 12
def lettersErr (L : Int) : List Int → Int
  | [] => 0
  | a :: r => if belowB a L then lettersErr L r else 2
def SomeBool (w : World) (e : Ending) (w' : World) : Prop := ∃ b, e = .returned (.bool b) ∧ Below w.heap.size w w'

end Go.Proofs.Ytnigfddanoaonaa

set_option linter.unusedVariables false
namespace Go.Proofs.Ytnigfddanoaonaa
open Go.RowKit Go.ChangeShapes Go.WideShapes Go.ChangeAt Go.Deep

section
variable {H : Type} {enc : TypeId × Value → H} {P : Program} {w : World} {base : Nat} {spare : Nat → Bool} {held : Bool}

/-- Whatever reads as data of type t stands for something. -/
def ReadsAs {α : Type} (enc : TypeId × Value → H) (P : Program) (w : World) (base : Nat) (spare : Nat → Bool) (held : Bool) (t : TypeId) (R : Rep α) : Prop :=
  ∀ fuel cs x, DataW.trod enc P w base spare held fuel t cs = some x → ∃ y, R All w cs y

theorem ReadsAs.int {t : TypeId} (ht : P.underlying t = some (.int .i64)) : ReadsAs enc P w base spare held t intR := by
  intro fuel cs x h
  obtain ⟨n, rfl, _, hw⟩ := DataW.trod_int ht h
  refine ⟨n, rfl, ?_⟩
  simpa [Lit.wf, IntKind.min, IntKind.max, IntKind.signed, IntKind.bits, I64] using hw

theorem listOf {α : Type} {Q : Nat → α → Prop} : ∀ n, (∀ i, i < n → ∃ y, Q i y) → ∃ ys : List α, ys.length = n ∧ ∀ i y, ys[i]? = some y → Q i y
  | 0, _ => ⟨[], rfl, by simp⟩
  | n + 1, h => by
    obtain ⟨ys, hl, hq⟩ := listOf n fun i hi => h i (by omega)
    obtain ⟨y, hy⟩ := h n (by omega)
    refine ⟨ys ++ [y], by simp [hl], fun i z hz => ?_⟩
    rcases Nat.lt_or_ge i n with hi | hi
    · rw [List.getElem?_append_left (by omega)] at hz
      exact hq i z hz
    · rw [List.getElem?_append_right (by omega)] at hz
      have : i - ys.length = 0 := by
        rcases Nat.eq_zero_or_pos (i - ys.length) with h0 | h0
        · exact h0
        · rw [List.getElem?_eq_none (by simp; omega)] at hz; cases hz
      rw [this] at hz
      simp at hz
      subst hz
      have : i = n := by omega
      subst this
      exact hy

theorem ReadsAs.slice {α : Type} {R : Rep α} {sz : Nat} {t e : TypeId} (ok : RepOk R sz) (hsz : 0 < sz) (ht : P.underlying t = some (.slice e)) (hC : P.cellsOf e = sz) (hR : ReadsAs enc P w base spare held e R) :
    ReadsAs enc P w base spare held t (slcR R sz) := by
  intro fuel cs x h
  rcases open_slice ht h with ⟨rfl, _⟩ | ⟨a, len, cap, m, n, D, Pl, rfl, _, hl, hm, hmm, _, hi⟩
  · exact ⟨[], none, 0, rfl, by simp, by simp, SliceR.nil _ _ _ _ _⟩
  · have hlm : len ≤ m := by rw [hmm]; split <;> omega
    have key : ∀ i, i < len → ∃ y cs', R All w cs' y ∧ ∀ j, j < sz → w.cell? ((a.add (i * sz)).add j) = cs'[j]? := by
      intro i hil
      obtain ⟨cs', hc, hd⟩ := hi i (by omega)
      rw [hC] at hc
      obtain ⟨_, hcl, hat⟩ := World.cells?_some hc
      obtain ⟨y, hy⟩ := hR _ _ _ hd
      exact ⟨y, cs', hy, hat⟩
    rcases Nat.eq_zero_or_pos len with h0 | h0
    · subst h0
      exact ⟨[], some a, cap, rfl, by simp, by simp, SliceR.nil _ _ _ _ _⟩
    obtain ⟨y0, cs0, hR0, hat0⟩ := key 0 h0
    obtain ⟨b, off, spot⟩ := a
    have hspot : spot = none := by
      have h1 := hat0 0 hsz
      have h2 : cs0[0]? = some (cs0[0]'(by rw [ok.len hR0]; exact hsz)) := List.getElem?_eq_getElem _
      rw [h2] at h1
      simpa [Addr.add] using World.cell?_spot h1
    subst hspot
    obtain ⟨ys, hyl, hyq⟩ := listOf len key
    refine ⟨ys, some ⟨b, off, none⟩, cap, by rw [hyl], by omega, by unfold maxLen at hm; omega, fun i y hy => ?_⟩
    obtain ⟨cs', hRy, hat⟩ := hyq i y hy
    refine ⟨b, off, cs', rfl, trivial, hRy, fun j u hu => ?_⟩
    have hj : j < sz := by rw [← ok.len hRy]; exact (List.getElem?_eq_some_iff.1 hu).1
    have := hat j hj
    rw [Addr.add_lit, Addr.add_lit, hu] at this
    exact this

theorem part2 {f0 f1 : Field} {t : TypeId} {fuel : Nat} {cs : List Value} {x : DataW H × List MemPlace} (hs : P.underlying t = some (.struct #[f0, f1])) (o0 : f0.offset = 0) (o1 : f1.offset = 1) (k0 : P.cellsOf f0.type = 1) (k1 : P.cellsOf f1.type = 1) (kt : P.cellsOf t = 2)
    (h : DataW.trod enc P w base spare held fuel t cs = some x) : ∃ c0 c1 n y0 y1, cs = [c0, c1] ∧ DataW.trod enc P w base spare held n f0.type [c0] = some y0 ∧ DataW.trod enc P w base spare held n f1.type [c1] = some y1 := by
  obtain ⟨xs, n, _, _, hcl, hxl, hg⟩ := DataW.trod_struct hs h
  rw [kt] at hcl
  match cs, hcl, xs, hxl with
  | [c0, c1], _, [y0, y1], _ =>
    exact ⟨c0, c1, n, y0, y1, rfl, by simpa [o0, k0] using hg 0 f0 rfl, by simpa [o1, k1] using hg 1 f1 rfl⟩
theorem part3 {f0 f1 f2 : Field} {t : TypeId} {fuel : Nat} {cs : List Value} {x : DataW H × List MemPlace} (hs : P.underlying t = some (.struct #[f0, f1, f2])) (o0 : f0.offset = 0) (o1 : f1.offset = 1) (o2 : f2.offset = 2) (k0 : P.cellsOf f0.type = 1) (k1 : P.cellsOf f1.type = 1) (k2 : P.cellsOf f2.type = 1) (kt : P.cellsOf t = 3)
    (h : DataW.trod enc P w base spare held fuel t cs = some x) : ∃ c0 c1 c2 n y0 y1 y2, cs = [c0, c1, c2] ∧ DataW.trod enc P w base spare held n f0.type [c0] = some y0 ∧ DataW.trod enc P w base spare held n f1.type [c1] = some y1 ∧ DataW.trod enc P w base spare held n f2.type [c2] = some y2 := by
  obtain ⟨xs, n, _, _, hcl, hxl, hg⟩ := DataW.trod_struct hs h
  rw [kt] at hcl
  match cs, hcl, xs, hxl with
  | [c0, c1, c2], _, [y0, y1, y2], _ =>
    exact ⟨c0, c1, c2, n, y0, y1, y2, rfl, by simpa [o0, k0] using hg 0 f0 rfl, by simpa [o1, k1] using hg 1 f1 rfl, by simpa [o2, k2] using hg 2 f2 rfl⟩

theorem agg_cells {r : Reach} {b0 : Nat} {t : TypeId} {fs : Array Field} {v : Value} {d : DataW H} {p : List MemPlace} (hs : P.underlying t = some (.struct fs))
    (hv : Value.okWide P w r b0 t v) (h : DataW.Trod enc P w base spare held t v d p) : ∃ l fuel, v = .agg ⟨l⟩ ∧ DataW.trod enc P w base spare held fuel t l = some (d, p) := by
  obtain ⟨cs, rfl, _⟩ := okWide_struct hs hv
  obtain ⟨l⟩ := cs
  obtain ⟨fuel, hf⟩ := h
  exact ⟨l, fuel, rfl, by simpa [Value.cells] using hf⟩
end

section
variable {H : Type} {enc : TypeId × Value → H} {w : World} {base : Nat} {spare : Nat → Bool} {held : Bool}
theorem reads_int : ReadsAs enc Try.prog w base spare held 3 intR := ReadsAs.int Try.underlying3
theorem reads_ints : ReadsAs enc Try.prog w base spare held 23 (slcR intR 1) := ReadsAs.slice intR_ok (by omega) Try.underlying23 (by kernel_rfl) reads_int
theorem reads_out : ReadsAs enc Try.prog w base spare held 75 outR := by
  intro fuel cs x h
  obtain ⟨c0, c1, n, y0, y1, rfl, h0, h1⟩ := part2 Try.underlying75 rfl rfl (by kernel_rfl) (by kernel_rfl) (by kernel_rfl) h
  obtain ⟨a, h2, h3⟩ := reads_int _ _ _ h0
  obtain ⟨b, h4, h5⟩ := reads_int _ _ _ h1
  simp at h2 h4
  subst h2 h4
  exact ⟨⟨a, b⟩, rfl, h3, h5⟩
theorem reads_outs : ReadsAs enc Try.prog w base spare held 76 (slcR outR 2) := ReadsAs.slice outR_ok (by omega) Try.underlying76 (by kernel_rfl) reads_out
theorem reads_rule : ReadsAs enc Try.prog w base spare held 78 ruleR := by
  intro fuel cs x h
  obtain ⟨c0, c1, n, y0, y1, rfl, h0, h1⟩ := part2 Try.underlying78 rfl rfl (by kernel_rfl) (by kernel_rfl) (by kernel_rfl) h
  obtain ⟨a, h2, h3⟩ := reads_int _ _ _ h0
  obtain ⟨st, oa, c, h4, h5, h6, h7⟩ := reads_outs _ _ _ h1
  simp at h2 h4
  subst h2 h4
  exact ⟨⟨a, st⟩, oa, c, rfl, h3, h5, h6, h7⟩
theorem reads_row : ReadsAs enc Try.prog w base spare held 79 (slcR ruleR 2) := ReadsAs.slice ruleR_ok (by omega) Try.underlying79 (by kernel_rfl) reads_rule
theorem reads_rows : ReadsAs enc Try.prog w base spare held 51 (slcR (slcR ruleR 2) 1) := ReadsAs.slice rowR_ok (by omega) Try.underlying51 (by kernel_rfl) reads_row
theorem reads_prc : ReadsAs enc Try.prog w base spare held 53 prcR := by
  intro fuel cs x h
  obtain ⟨c0, c1, c2, n, y0, y1, y2, rfl, h0, h1, h2⟩ := part3 Try.underlying53 rfl rfl rfl (by kernel_rfl) (by kernel_rfl) (by kernel_rfl) (by kernel_rfl) h
  obtain ⟨a, ha, ia⟩ := reads_int _ _ _ h0
  obtain ⟨b, hb, ib⟩ := reads_int _ _ _ h1
  obtain ⟨rs, oa, c, h4, h5, h6, h7⟩ := reads_rows _ _ _ h2
  simp at ha hb h4
  subst ha hb h4
  exact ⟨⟨a, b, rs⟩, oa, c, rfl, ia, ib, h5, h6, h7⟩

set_option maxRecDepth 100000 in
theorem open_is {r : Reach} {b0 : Nat} {v : Value} {d : DataW H} {p : List MemPlace} (hv : Value.okWide Try.prog w r b0 23 v) (h : DataW.Trod enc Try.prog w base spare held 23 v d p) :
    ∃ xs oa c, v = .slice oa xs.length c ∧ xs.length ≤ c ∧ xs.length ≤ 9223372036854775807 ∧ SliceR intR 1 All w oa xs := by
  obtain ⟨oa, n, c, rfl⟩ := okWide_slice Try.underlying23 hv
  obtain ⟨fuel, hf⟩ := h
  obtain ⟨xs, oa', c', h1, h2, h3, h4⟩ := reads_ints _ _ _ hf
  simp [Value.cells] at h1
  obtain ⟨rfl, rfl, rfl⟩ := h1
  exact ⟨xs, _, _, rfl, h2, h3, h4⟩
end

theorem own_knob : ownKnob Try.prog.godebug = none := by kernel_rfl
theorem laid_out : laidOutB Try.prog = true := by kernel_rfl

end Go.Proofs.Ytnigfddanoaonaa

set_option linter.unusedVariables false
set_option linter.unusedSimpArgs false
namespace Go.Proofs.Ytnigfddanoaonaa
open Go.RowKit

def Box (w : World) (B : Nat) (cs : List Value) (t : TypeId) : Prop := w.heap[B]? = some (.cells cs.toArray t (0, 0))
theorem cell_next {w : World} {a : Addr} {v : Value} (h : w.cell? a = some v) (o : Obj) : (w.alloc o).cell? a = some v := (World.cell?_alloc_lt w o a (World.block_lt_of_cell? _ _ h)).trans h
section
variable {w w' : World} {B : Nat} {cs : List Value} {t : TypeId}
theorem Box.lt (h : Box w B cs t) : B < w.heap.size := (Array.getElem?_eq_some_iff.1 h).1
theorem Box.cell (h : Box w B cs t) (i : Nat) : w.cell? ⟨B, i, none⟩ = cs[i]? := by
  rw [cell_of_row w B i _ t (0, 0) h]
  simp
theorem Box.free (h : Box w B cs t) (i : Nat) : w.frozen? ⟨B, i, none⟩ = false := frozen_of_row w B i _ _ h
theorem Box.keep (h : Box w B cs t) (hb : w'.heap[B]? = w.heap[B]?) : Box w' B cs t := hb.trans h
theorem Box.below (h : Box w B cs t) (hb : Below w.heap.size w w') : Box w' B cs t := h.keep (hb.block B h.lt)
theorem Box.under {n : Nat} (h : Box w B cs t) (hb : Below n w w') (hn : B < n) : Box w' B cs t := h.keep (hb.block B hn)
theorem Box.next (h : Box w B cs t) (o : Obj) : Box (w.alloc o) B cs t := h.below (bnew (Below.refl _ _) o)
theorem Box.draw (h : Box w B cs t) : Box w.drew B cs t := h
theorem Box.new (w : World) (cs : List Value) (t : TypeId) : Box (w.alloc (.cells cs.toArray t)) w.heap.size cs t := heap_alloc_new w _
theorem Box.put (h : Box w B cs t) (i : Nat) (v : Value) : Box (w.setCell ⟨B, i, none⟩ v) B (cs.set i v) t := by
  unfold Box at h ⊢
  simp [World.setCell, Array.getElem?_modify, h]
theorem Box.other (h : Box w B cs t) {p : Addr} (hp : B ≠ p.block) (u : Value) : Box (w.setCell p u) B cs t := h.keep (Below.heap_setCell w p u B hp)
theorem Box.grown {o : Option Nat} (h : Box w B cs t) (hg : w.grownBy w' o) (hne : some B ≠ o) : Box w' B cs t := h.keep (hg.block B h.lt hne)
end

end Go.Proofs.Ytnigfddanoaonaa

set_option linter.unusedVariables false
set_option linter.unusedSimpArgs false
namespace Go.Proofs.Ytnigfddanoaonaa
open Go.RowKit

theorem results_cell_tmp_row {P : Program} {fn : Func} {p u : Tmp} {ty : TypeId} (h : fn.results = #[.cell p ty, .tmp u]) (tmps : Array Value) (w : World) (g : Nat) (t : TypeId) (cs : Array Value) (fr : Nat × Nat) (d : TypeDesc)
    (hp : tmps.getD p undef = .pointer (some ⟨g, 0, none⟩)) (hg : w.heap[g]? = some (.cells cs t fr))
    (hu : P.underlying ty = some d) (hd : (match d with | .struct _ | .array _ _ => true | _ => false) = true) (hi : (P.info? ty).map (·.size) = some cs.size) :
    (results fn tmps).run P w = .ok (.tuple #[.agg cs, tmps.getD u undef]) w := by
  have hp' : tmps[p]?.getD undef = .pointer (some ⟨g, 0, none⟩) := by simpa using hp
  rw [results_cell_tmp h]
  simp [hp', asAddr, Result.andThen, run_loadVar_row w g t ty cs fr d hg hu hd hi]
theorem results_cell_tmp2_row {P : Program} {fn : Func} {p u v : Tmp} {ty : TypeId} (h : fn.results = #[.cell p ty, .tmp u, .tmp v]) (tmps : Array Value) (w : World) (g : Nat) (t : TypeId) (cs : Array Value) (fr : Nat × Nat) (d : TypeDesc)
    (hp : tmps.getD p undef = .pointer (some ⟨g, 0, none⟩)) (hg : w.heap[g]? = some (.cells cs t fr))
    (hu : P.underlying ty = some d) (hd : (match d with | .struct _ | .array _ _ => true | _ => false) = true) (hi : (P.info? ty).map (·.size) = some cs.size) :
    (results fn tmps).run P w = .ok (.tuple #[.agg cs, tmps.getD u undef, tmps.getD v undef]) w := by
  have hp' : tmps[p]?.getD undef = .pointer (some ⟨g, 0, none⟩) := by simpa using hp
  simp only [results, h]
  simp [hp', asAddr, Result.andThen, Sem.run_bind, run_loadVar_row w g t ty cs fr d hg hu hd hi]

end Go.Proofs.Ytnigfddanoaonaa

set_option linter.unusedVariables false
set_option linter.unusedSimpArgs false
set_option linter.unnecessarySimpa false
namespace Go.Proofs.Ytnigfddanoaonaa
open Go.RowKit

/-- A line: the letters queued, how many were removed, when the first was sent last (0: never), how many were accepted. -/
structure Ln where
  q : List Int
  rm : Nat
  sn : Nat
  ac : Nat
/-- A packet on a line: a letter with its number, or an acknowledgement. -/
inductive Pk where
  | lett (l num : Nat) (kind : Int)
  | ack (l num : Nat)
/-- All that goes on. -/
structure Wr where
  st : List Int
  wt : List (List Int)
  ct : List (List Int)
  ls : List Ln
  fl : List (Pk × Nat)
  tk : Nat
  se : Nat
  lg : Bool
def Ln.none : Ln := ⟨[], 0, 0, 0⟩
def fateS (fates : List Int) (se : Nat) : Int := fates.getD se 0
def delayS (f : Int) : List Nat := if f = 0 then [1] else if f = 2 then [1, 2] else if f = 3 then [6] else []
def sendS (fates : List Int) (p : Pk) (w : Wr) : Wr := { w with se := w.se + 1, fl := w.fl ++ (delayS (fateS fates w.se)).map fun n => (p, w.tk + n) }
def bump (wt : List (List Int)) (p k : Nat) (x : Int) : List (List Int) := wt.set p ((wt.getD p []).set k ((wt.getD p []).getD k 0 + x))
def waitS (p k : Nat) (w : Wr) : Wr := { w with wt := bump w.wt p k 1, lg := w.lg || decide (1048576 < (w.wt.getD p []).getD k 0 + 1) }
def dropL : List Int → Nat → Nat → Nat → List Int × Nat × Nat
  | [], rm, sn, _ => ([], rm, sn)
  | x :: r, rm, sn, num => if rm < num then dropL r (rm + 1) 0 num else (x :: r, rm, sn)
def Ln.drop (l : Ln) (num : Nat) : Ln := ⟨(dropL l.q l.rm l.sn num).1, (dropL l.q l.rm l.sn num).2.1, (dropL l.q l.rm l.sn num).2.2, l.ac⟩
/-- N processors; line p * N + q leads from p to q. -/
def handleS (N : Nat) (fates : List Int) (p : Pk) (w : Wr) : Wr :=
  match p with
  | .lett l num kind =>
    if num = (w.ls.getD l Ln.none).ac + 1 then
      sendS fates (.ack l ((w.ls.getD l Ln.none).ac + 1)) (waitS (l % N) kind.toNat { w with ls := w.ls.set l { w.ls.getD l Ln.none with ac := (w.ls.getD l Ln.none).ac + 1 } })
    else sendS fates (.ack l (w.ls.getD l Ln.none).ac) w
  | .ack l num => { w with ls := w.ls.set l ((w.ls.getD l Ln.none).drop num) }
def arriveS (N : Nat) (fates : List Int) (w : Wr) : Wr :=
  (w.fl.filter fun a => a.2 == w.tk).foldl (fun w a => handleS N fates a.1 w) { w with fl := w.fl.filter fun a => !(a.2 == w.tk) }
/-- The least letter that waits. -/
def leastS (row : List Int) : Option Nat := row.findIdx? fun n => decide (0 < n)
/-- What a processor sends. -/
def putS (N p : Nat) (x : Int × Int) (w : Wr) : Wr :=
  if x.1 = (p : Int) then waitS p x.2.toNat w
  else { w with ls := w.ls.set (p * N + x.1.toNat) { w.ls.getD (p * N + x.1.toNat) Ln.none with q := (w.ls.getD (p * N + x.1.toNat) Ln.none).q ++ [x.2] } }
/-- next and sent: the rules (processor, state, letter). -/
def readS (N : Nat) (next : Nat → Int → Nat → Int) (sent : Nat → Int → Nat → List (Int × Int)) (p : Nat) (w : Wr) : Wr :=
  match leastS (w.wt.getD p []) with
  | none => w
  | some k => (sent p (w.st.getD p 0) k).foldl (fun w x => putS N p x w) { w with wt := bump w.wt p k (-1), ct := bump w.ct p k 1, st := w.st.set p (next p (w.st.getD p 0) k) }
def lineS (fates : List Int) (j : Nat) (w : Wr) : Wr :=
  match (w.ls.getD j Ln.none).q with
  | [] => w
  | a :: _ =>
    if (w.ls.getD j Ln.none).sn = 0 ∨ (w.ls.getD j Ln.none).sn + 4 ≤ w.tk then
      { sendS fates (.lett j ((w.ls.getD j Ln.none).rm + 1) a) w with ls := w.ls.set j { w.ls.getD j Ln.none with sn := w.tk } }
    else w
def tickS (N : Nat) (next : Nat → Int → Nat → Int) (sent : Nat → Int → Nat → List (Int × Int)) (fates : List Int) (w : Wr) : Wr :=
  (List.range (N * N)).foldl (fun w j => lineS fates j w) ((List.range N).foldl (fun w p => readS N next sent p w) (arriveS N fates { w with tk := w.tk + 1 }))
/-- Something waits, flies or is queued. -/
def busyS (w : Wr) : Bool := (!w.fl.isEmpty) || w.ls.any (fun l => !l.q.isEmpty) || w.wt.any (fun row => row.any fun n => n != 0)
def beginS (st : List Int) (wt : List (List Int)) (N : Nat) : Wr := ⟨st, wt, wt.map fun l => List.replicate l.length 0, List.replicate (N * N) Ln.none, [], 0, 0, false⟩

theorem busyS_no {w : Wr} (h : busyS w = false) : w.fl = [] ∧ (∀ j, (w.ls.getD j Ln.none).q = []) ∧ ∀ p, leastS (w.wt.getD p []) = none := by
  unfold busyS at h
  simp only [Bool.or_eq_false_iff, Bool.not_eq_false'] at h
  obtain ⟨⟨h1, h2⟩, h3⟩ := h
  refine ⟨by simpa using h1, fun j => ?_, fun p => ?_⟩
  · rw [List.any_eq_false] at h2
    rw [List.getD_eq_getElem?_getD]
    rcases hx : w.ls[j]? with _ | l
    · rfl
    · have := h2 l (List.mem_of_getElem? hx)
      simpa using this
  · rw [List.any_eq_false] at h3
    unfold leastS
    rw [List.findIdx?_eq_none_iff, List.getD_eq_getElem?_getD]
    intro n hn
    rcases hx : w.wt[p]? with _ | row
    · rw [hx] at hn; simp at hn
    · rw [hx] at hn
      have h4 := h3 row (List.mem_of_getElem? hx)
      have h5 : row.any (fun n => n != 0) = false := by simpa using h4
      rw [List.any_eq_false] at h5
      have := h5 n hn
      have h6 : n = 0 := by simpa using this
      subst h6
      decide
def ticksS (N : Nat) (next : Nat → Int → Nat → Int) (sent : Nat → Int → Nat → List (Int × Int)) (fates : List Int) (w : Wr) : Nat → Wr
  | 0 => w
  | i + 1 => tickS N next sent fates (ticksS N next sent fates w i)
end Go.Proofs.Ytnigfddanoaonaa

namespace Go.Proofs.Ytnigfddanoaonaa
open Go.RowKit

def Non : Foot := fun _ => False

section
variable {P : Program} (w : World)

theorem run_append_empty (base : Nat) (t ty e : TypeId) (i : TypeInfo) (size : Nat) (ht : P.underlying t = some (.slice e)) (hi : P.info? e = some i)
    (v : Value) (n : Nat) (xs : List Value) (hown : w.ownsRow base e size v n xs) (c : Nat) : (Builtin.append_ #[t, t] ty #[v, .slice none 0 c]).run P w = .ok v w := by
  rcases hown.2 with ⟨rfl, rfl⟩ | ⟨g, cap, cur, rfl, _, _, hnc, _⟩
  · simp [Builtin.append_, run_underlying ht, sizeOf, typeInfo, hi, Builtin.lenOf, Builtin.firstCells]
  · simp [Builtin.append_, run_underlying ht, sizeOf, typeInfo, hi, Builtin.lenOf, Builtin.firstCells, hnc, storeCells]

/-- append(v, x...), v the call's own, x whatever slice: nil, empty or not. -/
theorem run_append_src (base : Nat) (t ty e : TypeId) (i : TypeInfo) (z : Value) (size bytes : Nat) (ht : P.underlying t = some (.slice e)) (hi : P.info? e = some i) (hz : i.zero = some z)
    (hsize : i.size = size) (hby : i.bytes = bytes) (hzs : z.cells.size = size) (hsz : 0 < size)
    (v : Value) (n : Nat) (xs : List Value) (hown : w.ownsRow base e size v n xs)
    (oa : Option Addr) (m c : Nat) (news : List Value) (hl : news.length = m * size) (hc : ∀ j u, news[j]? = some u → ∃ b off, oa = some ⟨b, off, none⟩ ∧ w.cell? ⟨b, off + j, none⟩ = some u) (h1 : ∀ u ∈ news, u.oneCell' = true)
    (h63 : n + m ≤ maxLen) (hbytes : (n + m) * bytes ≤ 140737488355328) (hbase : base ≤ w.heap.size) :
    ∃ v' w', (Builtin.append_ #[t, t] ty #[v, .slice oa m c]).run P w = .ok v' w' ∧ w'.ownsRow base e size v' (n + m) (xs ++ news) ∧ w.grownBy w' v.ownBlock := by
  rcases oa with _ | ad
  · have hn : news = [] := by
      cases news with
      | nil => rfl
      | cons u r => obtain ⟨b, off, h, _⟩ := hc 0 u rfl; cases h
    subst hn
    have hm : m = 0 := by
      rcases Nat.eq_zero_or_pos m with h | h
      · exact h
      · have h2 := Nat.mul_pos h hsz
        simp at hl
        omega
    subst hm
    exact ⟨v, w, run_append_empty w base t ty e i size ht hi v n xs hown c, by simpa using hown, rfl, rfl, rfl, Nat.le_refl _, fun _ _ _ => rfl⟩
  · have hcells : ∀ j u, news[j]? = some u → w.cell? (ad.add j) = some u := by
      intro j u hu
      obtain ⟨b, off, h, hcc⟩ := hc j u hu
      injection h with h
      subst h
      rw [Addr.add_lit]
      exact hcc
    obtain ⟨v', w', h2, h3, h4, _⟩ := run_append_own (P := P) w base t ty e i z size bytes ht hi hz hsize hby hzs hsz v n xs hown ad m c news hl hcells h1 h63 hbytes hbase
    exact ⟨v', w', h2, h3, h4⟩

theorem wpList_append_src {ops : Array Oper} {rest : List Oper} {o : Oper} {a : Act} {Q : Exit → Act → World → Prop} (hgd : o.guard = none) (s x : Operand) (t : TypeId)
    (ho : o.op = .call { callee := .builtin .append, args := #[s, x], argTypes := #[t, t] })
    (base : Nat) (e : TypeId) (i : TypeInfo) (z : Value) (size bytes : Nat) (ht : P.underlying t = some (.slice e)) (hi : P.info? e = some i) (hz : i.zero = some z)
    (hsize : i.size = size) (hby : i.bytes = bytes) (hzs : z.cells.size = size) (hsz : 0 < size)
    (v : Value) (n : Nat) (xs : List Value) (hs : a.eval s = v) (hown : w.ownsRow base e size v n xs)
    (oa : Option Addr) (m c : Nat) (news : List Value) (hx : a.eval x = .slice oa m c) (hl : news.length = m * size) (hc : ∀ j u, news[j]? = some u → ∃ b off, oa = some ⟨b, off, none⟩ ∧ w.cell? ⟨b, off + j, none⟩ = some u) (h1 : ∀ u ∈ news, u.oneCell' = true)
    (h63 : n + m ≤ maxLen) (hbytes : (n + m) * bytes ≤ 140737488355328) (hbase : base ≤ w.heap.size)
    (h : ∀ v' w', w'.ownsRow base e size v' (n + m) (xs ++ news) → w.grownBy w' v.ownBlock → wpList P ops Q rest (a.put o.dst v') w') : wpList P ops Q (o :: rest) a w :=
  wpList_plain hgd fun _ hK => by
    obtain ⟨v', w', hrun, h2, h3⟩ := run_append_src (P := P) w base t o.type e i z size bytes ht hi hz hsize hby hzs hsz v n xs hown oa m c news hl hc h1 h63 hbytes hbase
    unfold Oper.wp execOp
    simp only [ho, resolve, invoke, builtin, Sem.run_bind, Sem.run_pure, Result.andThen_ok, List.map_toArray, List.map_cons, List.map_nil, hs, hx, hrun]
    exact hK _ _ (h v' w' h2 h3)
end

def chunk (sz i : Nat) (l : List Value) : List Value := (l.drop (i * sz)).take sz

theorem chunk_get {sz i j : Nat} {l : List Value} {u : Value} (h : (chunk sz i l)[j]? = some u) : j < sz ∧ l[i * sz + j]? = some u := by
  unfold chunk at h
  rw [List.getElem?_take] at h
  split at h
  · rw [List.getElem?_drop] at h
    exact ⟨by assumption, h⟩
  · cases h

/-- The cells of a slice, in a row, part by part. -/
theorem SliceR.cells {α : Type} {R : Rep α} {sz : Nat} {F : Foot} {w : World} {oa : Option Addr} (ok : RepOk R sz) :
    ∀ {xs : List α}, SliceR R sz F w oa xs → ∃ news, news.length = xs.length * sz ∧ (∀ j u, news[j]? = some u → ∃ b off, oa = some ⟨b, off, none⟩ ∧ w.cell? ⟨b, off + j, none⟩ = some u) ∧
      (∀ u ∈ news, u.oneCell' = true) ∧ ∀ i x, xs[i]? = some x → R F w (chunk sz i news) x := by
  intro xs h
  rcases Nat.eq_zero_or_pos xs.length with h0 | h0
  · have : xs = [] := List.eq_nil_of_length_eq_zero h0
    subst this
    exact ⟨[], by simp, by simp, by simp, by simp⟩
  obtain ⟨b, off, cs0, hoa, hF0, hR0, hc0⟩ := h 0 _ (List.getElem?_eq_getElem h0)
  subst hoa
  have key : ∀ i x, xs[i]? = some x → ∃ cs, R F w cs x ∧ ∀ j u, cs[j]? = some u → w.cell? ⟨b, off + i * sz + j, none⟩ = some u := by
    intro i x hx
    obtain ⟨b', off', cs, he, _, hR, hc⟩ := h i x hx
    simp only [Option.some.injEq, Addr.mk.injEq, and_true] at he
    obtain ⟨rfl, rfl⟩ := he
    exact ⟨cs, hR, hc⟩
  have cell : ∀ j, j < xs.length * sz → ∃ u, w.cell? ⟨b, off + j, none⟩ = some u ∧ u.oneCell' = true := by
    intro j hj
    have hsz : 0 < sz := by
      rcases Nat.eq_zero_or_pos sz with h | h
      · subst h; simp at hj
      · exact h
    have hi : j / sz < xs.length := (Nat.div_lt_iff_lt_mul hsz).2 hj
    obtain ⟨cs, hR, hc⟩ := key (j / sz) _ (List.getElem?_eq_getElem hi)
    have hm : j % sz < cs.length := by rw [ok.len hR]; exact Nat.mod_lt _ hsz
    have hcc := hc (j % sz) _ (List.getElem?_eq_getElem hm)
    have hj2 : off + j / sz * sz + j % sz = off + j := by
      have := Nat.div_add_mod' j sz
      omega
    rw [hj2] at hcc
    exact ⟨_, hcc, ok.one hR _ (List.getElem_mem hm)⟩
  let news := (List.range (xs.length * sz)).map fun j => (w.cell? ⟨b, off + j, none⟩).getD undef
  have get : ∀ j u, news[j]? = some u → j < xs.length * sz ∧ w.cell? ⟨b, off + j, none⟩ = some u := by
    intro j u hu
    simp only [news, List.getElem?_map, Option.map_eq_some_iff] at hu
    obtain ⟨k, hk, hu⟩ := hu
    have hk2 := List.getElem?_eq_some_iff.1 hk
    obtain ⟨hlt, hkk⟩ := hk2
    simp only [List.length_range] at hlt
    simp only [List.getElem_range] at hkk
    subst hkk
    obtain ⟨u', hu', _⟩ := cell j hlt
    rw [hu'] at hu
    simp only [Option.getD_some] at hu
    subst hu
    exact ⟨hlt, hu'⟩
  refine ⟨news, by simp [news], fun j u hu => ⟨b, off, rfl, (get j u hu).2⟩, ?_, ?_⟩
  · intro u hu
    obtain ⟨j, hj, rfl⟩ := List.getElem_of_mem hu
    obtain ⟨h1, h2⟩ := get j _ (List.getElem?_eq_getElem hj)
    obtain ⟨u', hu', ho⟩ := cell j h1
    rw [h2] at hu'
    injection hu' with hu'
    rw [hu']; exact ho
  · intro i x hx
    obtain ⟨cs, hR, hc⟩ := key i x hx
    have hi : i < xs.length := (List.getElem?_eq_some_iff.1 hx).1
    have hle : i * sz + sz ≤ xs.length * sz := by
      have := Nat.mul_le_mul_right sz (Nat.succ_le_of_lt hi)
      rw [Nat.succ_mul] at this
      exact this
    have : chunk sz i news = cs := by
      apply List.ext_getElem?
      intro j
      unfold chunk
      rw [List.getElem?_take]
      split
      · rename_i hj
        rw [List.getElem?_drop]
        have hjl : j < cs.length := by rw [ok.len hR]; exact hj
        have h1 := hc j _ (List.getElem?_eq_getElem hjl)
        have hn : i * sz + j < news.length := by simp only [news, List.length_map, List.length_range]; omega
        have h2 := (get _ _ (List.getElem?_eq_getElem hn)).2
        rw [Nat.add_assoc] at h1
        rw [h1] at h2
        rw [List.getElem?_eq_getElem hn, List.getElem?_eq_getElem hjl, h2]
      · rename_i hj
        rw [List.getElem?_eq_none (by rw [ok.len hR]; omega)]
    rw [this]
    exact hR

/-- The slice value v, which the call itself made (blocks from base on), holds xs. -/
def OwnS {α : Type} (R : Rep α) (sz base : Nat) (e : TypeId) (F : Foot) (w : World) (v : Value) (xs : List α) : Prop :=
  ∃ cells, w.ownsRow base e sz v xs.length cells ∧ (∀ u ∈ cells, u.oneCell' = true) ∧ ∀ i x, xs[i]? = some x → R F w (chunk sz i cells) x

section
variable {α : Type} {R : Rep α} {sz base : Nat} {e : TypeId} {F : Foot} {w w' : World} {v : Value} {xs : List α}

theorem OwnS.nil (R : Rep α) (sz base : Nat) (e : TypeId) (F : Foot) (w : World) : OwnS R sz base e F w (.slice none 0 0) [] :=
  ⟨[], World.ownsRow_nil w base e sz, by simp, by simp⟩

theorem chunk_app_left {cells news : List Value} {i n : Nat} (hl : cells.length = n * sz) (hi : i < n) : chunk sz i (cells ++ news) = chunk sz i cells := by
  have hle : i * sz + sz ≤ n * sz := by
    have := Nat.mul_le_mul_right sz (Nat.succ_le_of_lt hi)
    rw [Nat.succ_mul] at this
    exact this
  unfold chunk
  rw [List.drop_append_of_le_length (by omega), List.take_append_of_le_length (by rw [List.length_drop]; omega)]

theorem chunk_app_right {cells news : List Value} {i n : Nat} (hl : cells.length = n * sz) (hi : n ≤ i) : chunk sz i (cells ++ news) = chunk sz (i - n) news := by
  have hle := Nat.mul_le_mul_right sz hi
  unfold chunk
  rw [List.drop_append, List.drop_eq_nil_of_le (by omega), List.nil_append, hl, Nat.sub_mul]

/-- What an append of ys leaves. -/
theorem OwnS.app {cells news : List Value} {ys : List α} {v' : Value} (hx : xs.length * sz = cells.length) (ho : w'.ownsRow base e sz v' (xs.length + ys.length) (cells ++ news))
    (h1 : ∀ u ∈ cells, u.oneCell' = true) (h2 : ∀ u ∈ news, u.oneCell' = true)
    (hc : ∀ i x, xs[i]? = some x → R F w' (chunk sz i cells) x) (hn : ∀ i x, ys[i]? = some x → R F w' (chunk sz i news) x) : OwnS R sz base e F w' v' (xs ++ ys) := by
  refine ⟨cells ++ news, by rw [List.length_append]; exact ho, ?_, ?_⟩
  · intro u hu
    rcases List.mem_append.1 hu with h | h
    · exact h1 u h
    · exact h2 u h
  · intro i x hxx
    rcases Nat.lt_or_ge i xs.length with hi | hi
    · rw [List.getElem?_append_left hi] at hxx
      rw [chunk_app_left hx.symm hi]
      exact hc i x hxx
    · rw [List.getElem?_append_right hi] at hxx
      rw [chunk_app_right hx.symm hi]
      exact hn _ x hxx

theorem OwnS.block (h : OwnS R sz base e F w v xs) : ∀ g, v.ownBlock = some g → base ≤ g ∧ g < w.heap.size := by
  obtain ⟨cells, ho, _⟩ := h
  exact ho.lt

/-- What is owned stays owned while other blocks turn. -/
theorem OwnS.keep (ok : RepOk R sz) (h : OwnS R sz base e F w v xs) (hb : ∀ g, v.ownBlock = some g → w'.heap[g]? = w.heap[g]?) (hs : SameOn F w w') : OwnS R sz base e F w' v xs := by
  obtain ⟨cells, ho, h1, hc⟩ := h
  refine ⟨cells, ⟨ho.1, ?_⟩, h1, fun i x hx => ok.keep (hc i x hx) hs⟩
  rcases ho.2 with hn | ⟨g, cap, cur, rfl, hg, hh, rest⟩
  · exact .inl hn
  · exact .inr ⟨g, cap, cur, rfl, hg, by rw [hb g rfl]; exact hh, rest⟩
theorem OwnS.below (ok : RepOk R sz) (h : OwnS R sz base e F w v xs) (hb : Below w.heap.size w w') : OwnS R sz base e F w' v xs :=
  h.keep ok (fun g hg => hb.block g (h.block g hg).2) (SameOn.of_below hb)

theorem OwnS.rebase {base' : Nat} (h : OwnS R sz base e F w v xs) (hb : base' ≤ base) : OwnS R sz base' e F w v xs := by
  obtain ⟨cells, ho, h1, hc⟩ := h
  refine ⟨cells, ⟨ho.1, ?_⟩, h1, hc⟩
  rcases ho.2 with hn | ⟨g, cap, cur, rfl, hg, rest⟩
  · exact .inl hn
  · exact .inr ⟨g, cap, cur, rfl, by omega, rest⟩
theorem OwnS.new (ok : RepOk R sz) (h : OwnS R sz base e F w v xs) (o : Obj) : OwnS R sz base e F (w.alloc o) v xs := h.below ok (bnew (Below.refl _ _) o)
theorem OwnS.draw (ok : RepOk R sz) (h : OwnS R sz base e F w v xs) : OwnS R sz base e F w.drew v xs := h.keep ok (fun _ _ => rfl) fun _ _ _ => rfl
theorem OwnS.draws (ok : RepOk R sz) (h : OwnS R sz base e F w v xs) (n : Nat) : OwnS R sz base e F (w.drewN n) v xs := h.keep ok (fun _ _ => rfl) fun _ _ _ => rfl
/-- A box that was laid just before the append is as it was. -/
theorem OwnS.boxed {w1 : World} {cs : Array Value} {t : TypeId} (h : OwnS R sz base e F w v xs) (hg : (w.alloc (.cells cs t)).grownBy w1 v.ownBlock) (i : Nat) : w1.cell? ⟨w.heap.size, i, none⟩ = cs[i]? := by
  have hb : w1.heap[w.heap.size]? = (w.alloc (.cells cs t)).heap[w.heap.size]? := hg.block w.heap.size (by simp) fun he => by
    have := (h.block w.heap.size he.symm).2
    omega
  exact cell_of_row w1 w.heap.size i cs t (0, 0) (hb.trans (heap_alloc_new w _))
/-- As a slice. -/
theorem OwnS.slice (ok : RepOk R sz) (h : OwnS R sz base e F w v xs) : ∃ oa c, v = .slice oa xs.length c ∧ xs.length ≤ c ∧ SliceR R sz (fun k => F k ∨ base ≤ k) w oa xs := by
  obtain ⟨cells, ho, h1, hc⟩ := h
  rcases ho.2 with ⟨rfl, hn⟩ | ⟨g, cap, cur, rfl, hg, hh, hle, _, hcs, htake⟩
  · have : xs = [] := List.eq_nil_of_length_eq_zero hn
    subst this
    exact ⟨none, 0, rfl, by simp, SliceR.nil _ _ _ _ _⟩
  · refine ⟨_, cap, rfl, hle, fun i x hx => ⟨g, 0, chunk sz i cells, rfl, .inr hg, ok.wide (hc i x hx) fun _ h _ => .inl h, fun j u hu => ?_⟩⟩
    obtain ⟨hj, hu⟩ := chunk_get hu
    have hi : i < xs.length := (List.getElem?_eq_some_iff.1 hx).1
    rw [cell_of_row w g _ cur e (0, 0) hh]
    rw [← htake, List.getElem?_take] at hu
    split at hu
    · rw [show 0 + i * sz + j = i * sz + j from by omega]
      simpa using hu
    · cases hu
end

/-- The arm for 'out = append(out, src...)'. -/
theorem wpList_append_rep {α : Type} {R : Rep α} {P : Program} {w : World} {ops : Array Oper} {rest : List Oper} {o : Oper} {a : Act} {Q : Exit → Act → World → Prop} (hgd : o.guard = none) (s x : Operand) (t : TypeId)
    (ho : o.op = .call { callee := .builtin .append, args := #[s, x], argTypes := #[t, t] })
    (base : Nat) (e : TypeId) (z : Value) (size bytes : Nat) (ht : P.underlying t = some (.slice e)) (hinfo : (P.info? e).map (fun i => (i.zero, i.size, i.bytes)) = some (some z, size, bytes))
    (hzs : z.cells.size = size) (hsz : 0 < size) (ok : RepOk R size)
    (F G : Foot) (v : Value) (xs : List α) (hs : a.eval s = v) (hown : OwnS R size base e F w v xs)
    (oa : Option Addr) (c : Nat) (ys : List α) (hx : a.eval x = .slice oa ys.length c) (hsrc : SliceR R size G w oa ys) (hW : ∀ cs x, R G w cs x → R F w cs x) (hF : ∀ k, F k → k < base)
    (hbytes : (xs.length + ys.length) * bytes ≤ 140737488355328) (hm : xs.length + ys.length ≤ 9223372036854775807) (hbase : base ≤ w.heap.size)
    (h : ∀ v' w', OwnS R size base e F w' v' (xs ++ ys) → Below base w w' → w.grownBy w' v.ownBlock → wpList P ops Q rest (a.put o.dst v') w') : wpList P ops Q (o :: rest) a w := by
  obtain ⟨i0, hi, hz0, hz1, hz2⟩ := info_parts hinfo
  obtain ⟨cells, hown0, h1, hc⟩ := hown
  obtain ⟨news, hn1, hn2, hn3, hn4⟩ := hsrc.cells ok
  refine wpList_append_src w hgd s x t ho base e i0 z size bytes ht hi hz0 hz1 hz2 hzs hsz v xs.length cells hs hown0 oa ys.length c news hx hn1 hn2 hn3 (by unfold maxLen; omega) hbytes hbase fun v' w' ho' hg => ?_
  have hb : Below base w w' := (Below.refl base w).grown hg hbase fun k hk => (hown0.lt k hk).1
  have hsame : SameOn F w w' := fun k hk _ => hb.block k (hF k hk)
  refine h v' w' (OwnS.app hown0.1.symm ho' h1 hn3 (fun i x hx => ok.keep (hc i x hx) hsame) (fun i x hx => ok.keep (hW _ _ (hn4 i x hx)) hsame)) hb hg

end Go.Proofs.Ytnigfddanoaonaa

set_option linter.unusedVariables false
namespace Go.Proofs.Ytnigfddanoaonaa
open Go.RowKit

/-- v is a part, from some place on to the end, of a row of the call's own, and holds xs. -/
def OwnQ (base : Nat) (e : TypeId) (w : World) (v : Value) (xs : List Int) : Prop :=
  ∃ g o cap cur, v = .slice (some ⟨g, o, none⟩) xs.length cap ∧ base ≤ g ∧ w.heap[g]? = some (.cells cur e (0, 0)) ∧ xs.length ≤ cap ∧ cap ≤ maxLen ∧ o + cap ≤ cur.size ∧ (cur.toList.drop o).take xs.length = xs.map (Value.int .i64) ∧ ∀ x ∈ xs, I64 x

section
variable {base : Nat} {e : TypeId} {w w' : World} {v : Value} {xs : List Int}

theorem OwnQ.block (h : OwnQ base e w v xs) : ∀ g, v.ownBlock = some g → base ≤ g ∧ g < w.heap.size := by
  obtain ⟨g, o, cap, cur, rfl, h1, h2, _⟩ := h
  intro k hk
  simp [Value.ownBlock] at hk
  subst hk
  exact ⟨h1, (Array.getElem?_eq_some_iff.1 h2).1⟩

theorem OwnQ.keep (h : OwnQ base e w v xs) (hb : ∀ g, v.ownBlock = some g → w'.heap[g]? = w.heap[g]?) : OwnQ base e w' v xs := by
  obtain ⟨g, o, cap, cur, rfl, h1, h2, h3⟩ := h
  exact ⟨g, o, cap, cur, rfl, h1, by rw [hb g rfl]; exact h2, h3⟩
theorem OwnQ.below (h : OwnQ base e w v xs) (hb : Below w.heap.size w w') : OwnQ base e w' v xs :=
  h.keep fun g hg => hb.block g (h.block g hg).2
theorem OwnQ.new (h : OwnQ base e w v xs) (o : Obj) : OwnQ base e (w.alloc o) v xs := h.below (bnew (Below.refl _ _) o)

theorem OwnQ.rebase {base' : Nat} (h : OwnQ base e w v xs) (hb : base' ≤ base) : OwnQ base' e w v xs := by
  obtain ⟨g, o, cap, cur, rfl, h1, h2⟩ := h
  exact ⟨g, o, cap, cur, rfl, by omega, h2⟩
/-- The list of ints that a literal lays. -/
theorem OwnQ.lit (w : World) (e : TypeId) (xs : List Int) (h : ∀ x ∈ xs, I64 x) (hl : xs.length ≤ 1000000000000) :
    OwnQ w.heap.size e (w.alloc (.cells (xs.map (Value.int .i64)).toArray e)) (.slice (some ⟨w.heap.size, 0, none⟩) xs.length xs.length) xs :=
  ⟨w.heap.size, 0, xs.length, _, rfl, Nat.le_refl _, heap_alloc_new w _, Nat.le_refl _, by unfold maxLen; omega, by simp, by simp [List.take_of_length_le], h⟩

theorem OwnQ.get (h : OwnQ base e w v xs) {g o cap : Nat} (hv : v = .slice (some ⟨g, o, none⟩) xs.length cap) : ∀ (i : Nat) (x : Int), xs[i]? = some x → w.cell? ⟨g, o + i, none⟩ = some (.int .i64 x) := by
  obtain ⟨g', o', cap', cur, hv', h1, h2, h3, h4, h5, h6, h7⟩ := h
  rw [hv] at hv'
  injection hv' with e1 e2 e3
  injection e1 with e1
  injection e1 with e4 e5
  subst e4 e5
  intro i x hx
  have hi : i < xs.length := (List.getElem?_eq_some_iff.1 hx).1
  have h8 := congrArg (fun l => l[i]?) h6
  simp only [List.getElem?_map, hx, Option.map_some] at h8
  rw [List.getElem?_take_of_lt hi, List.getElem?_drop] at h8
  rw [cell_of_row w g _ cur e (0, 0) h2, ← Array.getElem?_toList]
  exact h8

theorem OwnQ.slice (h : OwnQ base e w v xs) : ∃ oa c, v = .slice oa xs.length c ∧ xs.length ≤ c ∧ SliceR intR 1 (fun k => base ≤ k) w oa xs := by
  have h0 := h
  obtain ⟨g, o, cap, cur, rfl, h1, h2, h3, h4, h5, h6, h7⟩ := h
  refine ⟨_, cap, rfl, h3, fun i x hx => ⟨g, o, [.int .i64 x], rfl, h1, ⟨rfl, h7 x (List.mem_of_getElem? hx)⟩, fun j u hu => ?_⟩⟩
  have hj : j = 0 := by
    have := (List.getElem?_eq_some_iff.1 hu).1
    simp at this
    exact this
  subst hj
  simp at hu
  subst hu
  have := h0.get rfl i x hx
  simpa using this

/-- The first element, and what is left. -/
theorem OwnQ.head {x : Int} {r : List Int} (h : OwnQ base e w v (x :: r)) : ∃ g o cap, v = .slice (some ⟨g, o, none⟩) (r.length + 1) (cap + 1) ∧ base ≤ g ∧ g < w.heap.size ∧ r.length ≤ cap ∧ cap + 1 ≤ maxLen ∧ w.cell? ⟨g, o, none⟩ = some (.int .i64 x) ∧ I64 x ∧
    OwnQ base e w (.slice (some (if cap = 0 then ⟨g, o, none⟩ else ⟨g, o + 1, none⟩)) r.length cap) r := by
  have h0 := h
  obtain ⟨g, o, cap, cur, rfl, h1, h2, h3, h4, h5, h6, h7⟩ := h
  simp only [List.length_cons] at h3
  obtain ⟨cap, rfl⟩ : ∃ k, cap = k + 1 := ⟨cap - 1, by omega⟩
  have hx := h0.get rfl 0 x rfl
  refine ⟨g, o, cap, rfl, h1, (Array.getElem?_eq_some_iff.1 h2).1, by omega, h4, by simpa using hx, h7 x (by simp), ?_⟩
  by_cases hc : cap = 0
  · subst hc
    have hr : r = [] := List.eq_nil_of_length_eq_zero (by omega)
    subst hr
    exact ⟨g, o, 0, cur, by simp, h1, h2, by simp, by simp, by omega, by simp, by simp⟩
  · refine ⟨g, o + 1, cap, cur, by simp [hc], h1, h2, by omega, by omega, by omega, ?_, fun y hy => h7 y (by simp [hy])⟩
    have h8 := congrArg (List.drop 1) h6
    rw [List.drop_take, List.drop_drop] at h8
    simpa using h8

theorem run_append_q {P : Program} (t ty : TypeId) (i : TypeInfo) (z : Value) (ht : P.underlying t = some (.slice e)) (hi : P.info? e = some i) (hz : i.zero = some z)
    (hsize : i.size = 1) (hby : i.bytes = 8) (hzs : z.cells.size = 1) (h : OwnQ base e w v xs)
    (ad : Addr) (c : Nat) (x : Int) (hx : w.cell? (ad.add 0) = some (.int .i64 x)) (ix : I64 x) (hn : xs.length + 1 ≤ 1000000000) (hbase : base ≤ w.heap.size) :
    ∃ v' w', (Builtin.append_ #[t, t] ty #[v, .slice (some ad) 1 c]).run P w = .ok v' w' ∧ OwnQ base e w' v' (xs ++ [x]) ∧ w.grownBy w' v.ownBlock ∧ (∀ k, v'.ownBlock = some k → v.ownBlock = some k ∨ w.heap.size ≤ k) := by
  have h0 := h
  obtain ⟨g, o, cap, cur, rfl, h1, h2, h3, h4, h5, h6, h7⟩ := h
  have hg : g < w.heap.size := (Array.getElem?_eq_some_iff.1 h2).1
  have h7' : ∀ y ∈ xs ++ [x], I64 y := by
    intro y hy
    rcases List.mem_append.1 hy with hy | hy
    · exact h7 y hy
    · simp at hy; subst hy; exact ix
  by_cases hroom : xs.length + 1 ≤ cap
  · have hr := run_append_room_cells (P := P) (w := w) t ty e i ht hi g o xs.length cap ad 1 c [.int .i64 x] (by simp [hsize]) (fun j u hu => by
        have hj : j = 0 := by
          have := (List.getElem?_eq_some_iff.1 hu).1
          simp at this
          exact this
        subst hj
        simp at hu
        subst hu
        exact hx) (by simp [Value.oneCell']) hroom (fun j hj => by
        simp at hj
        subst hj
        rw [cell_of_row w g _ cur e (0, 0) h2, hsize]
        have : o + xs.length * 1 + 0 < cur.size := by omega
        simp; omega) (fun j _ => frozen_of_row w g _ cur e h2)
    rw [hsize] at hr
    refine ⟨_, _, hr, ?_, ?_, fun k hk => .inl hk⟩
    · have hlt : o + xs.length < cur.size := by omega
      have hh : (w.setCells g (o + xs.length * 1) [.int .i64 x]).heap[g]? = some (.cells (cur.set! (o + xs.length) (.int .i64 x)) e (0, 0)) := by
        simp [World.setCells, World.setCell, Array.getElem?_modify, h2]
      refine ⟨g, o, cap, _, by simp, h1, hh, by simpa using hroom, h4, by simpa using h5, ?_, h7'⟩
      have hl6 := congrArg List.length h6
      simp at hl6
      apply List.ext_getElem?
      intro j
      have h6j := congrArg (fun l => l[j]?) h6
      simp only [List.map_append, List.map_cons, List.map_nil, List.length_append, List.length_cons, List.length_nil]
      rcases Nat.lt_trichotomy j xs.length with hj | hj | hj
      · rw [List.getElem?_take_of_lt (by omega), List.getElem?_drop, List.getElem?_append_left (by simpa using hj), ← h6j]
        rw [List.getElem?_take_of_lt hj, List.getElem?_drop]
        simp [show ¬ (xs.length = j) from by omega]
      · subst hj
        rw [List.getElem?_take_of_lt (by omega), List.getElem?_drop, List.getElem?_append_right (by simp)]
        simp [hlt]
      · rw [List.getElem?_eq_none (by simp; omega), List.getElem?_eq_none (by simp; omega)]
    · refine ⟨rfl, rfl, rfl, by simp [World.setCells], fun k _ hne => ?_⟩
      have : ¬ (g = k) := fun he => hne (by simp [Value.ownBlock, he])
      simp [World.setCells, World.setCell, Array.getElem?_modify, this]
  · have hr := run_append_grow (P := P) w t ty e i z ht hi hz ⟨g, o, none⟩ xs.length cap (xs.map (Value.int .i64)) (by simp [hsize]) (fun j u hu => by
        rw [List.getElem?_map, Option.map_eq_some_iff] at hu
        obtain ⟨y, hy, rfl⟩ := hu
        rw [Addr.add_lit]
        exact h0.get rfl j y hy) ad 1 c [.int .i64 x] (by simp [hsize]) (fun j u hu => by
        have hj : j = 0 := by
          have := (List.getElem?_eq_some_iff.1 hu).1
          simp at this
          exact this
        subst hj
        simp at hu
        subst hu
        exact hx) (by omega) (by omega) (growslice_fits (by omega) (by rw [hby]; omega))
    have hge := grownCap_ge w (xs.length + 1) cap e
    have hcm : grownCap w (xs.length + 1) cap e ≤ maxLen := grownCap_le_maxLen w (xs.length + 1) cap e (by unfold maxLen; omega)
    refine ⟨_, _, hr, ⟨w.heap.size, 0, _, _, by simp, hbase, heap_alloc_new w.drew _, by simpa using hge, hcm, ?_, ?_, h7'⟩, ⟨rfl, rfl, rfl, by simp, fun k hk _ => heap_alloc_old w.drew _ hk⟩, fun k hk => .inr (by simp [Value.ownBlock] at hk; omega)⟩
    · simp only [Array.size_append, List.size_toArray, size_zeroCells, hzs]
      simp
      omega
    · simp only [Array.toList_append, List.drop_zero, List.length_append, List.length_cons, List.length_nil, List.map_append, List.map_cons, List.map_nil]
      rw [show xs.length + (0 + 1) = (xs.map (Value.int .i64) ++ [Value.int .i64 x]).length from by simp]
      exact List.take_left
end

end Go.Proofs.Ytnigfddanoaonaa

set_option linter.unusedVariables false
namespace Go.Proofs.Ytnigfddanoaonaa
open Go.RowKit

/-- Block g holds f of xs, and behind them rest. -/
def Row1 {α : Type} (f : α → Value) (w : World) (g : Nat) (e : TypeId) (xs : List α) (rest : List Value) : Prop := w.heap[g]? = some (.cells (xs.map f ++ rest).toArray e (0, 0))

section
variable {α : Type} {f : α → Value} {w w' : World} {g : Nat} {e : TypeId} {xs : List α} {rest : List Value}
theorem Row1.lt (h : Row1 f w g e xs rest) : g < w.heap.size := (Array.getElem?_eq_some_iff.1 h).1
theorem Row1.cell (h : Row1 f w g e xs rest) {i : Nat} {x : α} (hi : xs[i]? = some x) : w.cell? ⟨g, i, none⟩ = some (f x) := by
  have hl : i < xs.length := (List.getElem?_eq_some_iff.1 hi).1
  rw [cell_of_row w g _ _ _ _ h]
  simp only [List.getElem?_toArray]
  rw [List.getElem?_append_left (by simpa using hl), List.getElem?_map, hi]
  rfl
theorem Row1.free (h : Row1 f w g e xs rest) (i : Nat) : w.frozen? ⟨g, i, none⟩ = false := frozen_of_row w g i _ _ h
theorem Row1.keep (h : Row1 f w g e xs rest) (hb : w'.heap[g]? = w.heap[g]?) : Row1 f w' g e xs rest := hb.trans h
theorem Row1.below (h : Row1 f w g e xs rest) (hb : Below w.heap.size w w') : Row1 f w' g e xs rest := h.keep (hb.block g h.lt)
theorem Row1.new (h : Row1 f w g e xs rest) (o : Obj) : Row1 f (w.alloc o) g e xs rest := h.below (bnew (Below.refl _ _) o)
theorem Row1.draw (h : Row1 f w g e xs rest) : Row1 f w.drew g e xs rest := h
theorem heap_set1 (w : World) (g i : Nat) (l : List Value) (e : TypeId) (u : Value) (h : w.heap[g]? = some (.cells l.toArray e (0, 0))) : (w.setCell ⟨g, i, none⟩ u).heap[g]? = some (.cells (l.set i u).toArray e (0, 0)) := by
  simp [World.setCell, Array.getElem?_modify, h]
theorem Row1.put (h : Row1 f w g e xs rest) {i : Nat} (hi : i < xs.length) (y : α) : Row1 f (w.setCell ⟨g, i, none⟩ (f y)) g e (xs.set i y) rest := by
  unfold Row1
  rw [heap_set1 w g i _ e _ h, List.set_append_left _ _ (by simpa using hi), List.map_set]
/-- A store into another block. -/
theorem Row1.other (h : Row1 f w g e xs rest) {p : Addr} (hp : g ≠ p.block) (u : Value) : Row1 f (w.setCell p u) g e xs rest := h.keep (Below.heap_setCell w p u g hp)
theorem Row1.of (cur : List Value) (h : w.heap[g]? = some (.cells cur.toArray e (0, 0))) (hx : xs.map f = cur.take xs.length) : Row1 f w g e xs (cur.drop xs.length) := by
  unfold Row1
  rw [hx, List.take_append_drop]
  exact h
theorem Row1.own (h : Row1 f w g e xs rest) (hone : ∀ x, (f x).cells = #[f x]) {base cap : Nat} (hg : base ≤ g) (hc : cap = xs.length + rest.length) (hm : cap ≤ maxLen) :
    w.ownsRow base e 1 (.slice (some ⟨g, 0, none⟩) xs.length cap) xs.length (xs.map f) :=
  ⟨by simp, .inr ⟨g, cap, _, rfl, hg, h, by omega, hm, by simp; omega, by simp⟩⟩
end

section
variable {w w' : World} {g base : Nat} {e : TypeId} {F : Foot} {rest : List Value} {v : Value}
theorem Row1.ints {xs : List Int} (h : Row1 (Value.int .i64) w g e xs rest) (hx : ∀ x ∈ xs, I64 x) (hF : F g) : SliceR intR 1 F w (some ⟨g, 0, none⟩) xs := by
  intro i x hi
  refine ⟨g, 0, [.int .i64 x], rfl, hF, ⟨rfl, hx x (List.mem_of_getElem? hi)⟩, fun j u hu => ?_⟩
  have hj : j = 0 := by
    have := (List.getElem?_eq_some_iff.1 hu).1
    simp at this
    exact this
  subst hj
  simp at hu
  subst hu
  simpa using h.cell hi
/-- A row of ints that append made (or grew), known whole. -/
theorem OwnS.row {xs : List Int} (h : OwnS intR 1 base e F w v xs) (hne : xs ≠ []) : ∃ g cap rest, v = .slice (some ⟨g, 0, none⟩) xs.length cap ∧ base ≤ g ∧ cap = xs.length + rest.length ∧ cap ≤ maxLen ∧ Row1 (Value.int .i64) w g e xs rest ∧ ∀ x ∈ xs, I64 x := by
  obtain ⟨cells, ho, h1, hc⟩ := h
  have hcells : cells = xs.map (Value.int .i64) := by
    have hl := ho.1
    apply List.ext_getElem?
    intro i
    rw [List.getElem?_map]
    rcases Nat.lt_or_ge i xs.length with hi | hi
    · have h2 := (hc i _ (List.getElem?_eq_getElem hi)).1
      rw [List.getElem?_eq_getElem hi]
      have h3 := congrArg (fun l => l[0]?) h2
      simp only [chunk, Nat.mul_one] at h3
      rw [List.getElem?_take_of_lt (by omega), List.getElem?_drop] at h3
      simpa using h3
    · rw [List.getElem?_eq_none (by omega), List.getElem?_eq_none (by omega)]
      rfl
  have h64 : ∀ x ∈ xs, I64 x := fun x hx => by
    obtain ⟨i, hi, rfl⟩ := List.getElem_of_mem hx
    exact (hc i _ (List.getElem?_eq_getElem hi)).2
  rcases ho.2 with ⟨_, hn⟩ | ⟨g, cap, cur, rfl, hg, hh, hle, hcm, hcs, htake⟩
  · exact absurd (List.eq_nil_of_length_eq_zero hn) hne
  · refine ⟨g, cap, cur.toList.drop xs.length, rfl, hg, by simp; omega, hcm, Row1.of cur.toList hh ?_, h64⟩
    rw [← hcells, ← htake, Nat.mul_one]
end

end Go.Proofs.Ytnigfddanoaonaa

set_option linter.unusedVariables false
set_option linter.unusedSimpArgs false
namespace Go.Proofs.Ytnigfddanoaonaa
open Go.RowKit

def OwnN (base : Nat) (e : TypeId) (w : World) (v : Value) (xs : List Int) : Prop := (v = .slice none 0 0 ∧ xs = []) ∨ OwnQ base e w v xs

section
variable {base : Nat} {e : TypeId} {w w' : World} {v : Value} {xs : List Int}
theorem OwnN.nil : OwnN base e w (.slice none 0 0) [] := .inl ⟨rfl, rfl⟩
theorem OwnN.block (h : OwnN base e w v xs) : ∀ g, v.ownBlock = some g → base ≤ g ∧ g < w.heap.size := by
  intro g hg
  rcases h with ⟨rfl, _⟩ | h
  · simp [Value.ownBlock] at hg
  · exact h.block g hg
theorem OwnN.keep (h : OwnN base e w v xs) (hb : ∀ g, v.ownBlock = some g → w'.heap[g]? = w.heap[g]?) : OwnN base e w' v xs := h.imp id fun h => h.keep hb
theorem OwnN.below (h : OwnN base e w v xs) (hb : Below w.heap.size w w') : OwnN base e w' v xs := h.keep fun g hg => hb.block g (h.block g hg).2
theorem OwnN.new (h : OwnN base e w v xs) (o : Obj) : OwnN base e (w.alloc o) v xs := h.below (bnew (Below.refl _ _) o)
theorem OwnN.draw (h : OwnN base e w v xs) : OwnN base e w.drew v xs := h.keep fun _ _ => rfl
theorem OwnN.slice (h : OwnN base e w v xs) : ∃ oa c, v = .slice oa xs.length c ∧ xs.length ≤ c ∧ SliceR intR 1 (fun k => base ≤ k) w oa xs := by
  rcases h with ⟨rfl, rfl⟩ | h
  · exact ⟨none, 0, rfl, by simp, SliceR.nil _ _ _ _ _⟩
  · exact h.slice
theorem OwnN.rebase {base' : Nat} (h : OwnN base e w v xs) (hb : base' ≤ base) : OwnN base' e w v xs := h.imp id fun h => h.rebase hb

theorem run_append_n {P : Program} (t ty : TypeId) (i : TypeInfo) (z : Value) (ht : P.underlying t = some (.slice e)) (hi : P.info? e = some i) (hz : i.zero = some z)
    (hsize : i.size = 1) (hby : i.bytes = 8) (hzs : z.cells.size = 1) (h : OwnN base e w v xs)
    (ad : Addr) (c : Nat) (x : Int) (hx : w.cell? (ad.add 0) = some (.int .i64 x)) (ix : I64 x) (hn : xs.length + 1 ≤ 1000000000) (hbase : base ≤ w.heap.size) :
    ∃ v' w', (Builtin.append_ #[t, t] ty #[v, .slice (some ad) 1 c]).run P w = .ok v' w' ∧ OwnN base e w' v' (xs ++ [x]) ∧ w.grownBy w' v.ownBlock ∧ (∀ k, v'.ownBlock = some k → v.ownBlock = some k ∨ w.heap.size ≤ k) := by
  rcases h with ⟨rfl, rfl⟩ | h
  · have hr := run_append_nil (P := P) w t ty e i z ht hi hz ad 1 c [.int .i64 x] (by simp [hsize]) (fun j u hu => by
      have hj : j = 0 := by
        have := (List.getElem?_eq_some_iff.1 hu).1
        simp at this
        exact this
      subst hj
      simp at hu
      subst hu
      exact hx) (by omega) (by omega) (by rw [hby]; omega)
    have hge := grownCap_ge w 1 0 e
    have hcm : grownCap w 1 0 e ≤ maxLen := grownCap_le_maxLen w 1 0 e (by unfold maxLen; omega)
    refine ⟨_, _, hr, .inr ⟨w.heap.size, 0, _, _, by simp, hbase, heap_alloc_new w.drew _, by simpa using hge, hcm, ?_, ?_, ?_⟩, ⟨rfl, rfl, rfl, by simp, fun k hk _ => heap_alloc_old w.drew _ hk⟩, fun k hk => .inr (by simp [Value.ownBlock] at hk; omega)⟩
    · simp only [Array.size_append, List.size_toArray, size_zeroCells, hzs]
      simp
      omega
    · simp
    · intro y hy
      simp at hy
      subst hy
      exact ix
  · obtain ⟨v', w', h1, h2, h3, h4⟩ := run_append_q (P := P) t ty i z ht hi hz hsize hby hzs h ad c x hx ix hn hbase
    exact ⟨v', w', h1, .inr h2, h3, h4⟩
end

/-- Many lists side by side, no two in one block. -/
structure OwnM (base : Nat) (e : TypeId) (w : World) (vs : List Value) (xss : List (List Int)) : Prop where
  len : vs.length = xss.length
  own : ∀ (i : Nat) (v : Value) (xs : List Int), vs[i]? = some v → xss[i]? = some xs → OwnN base e w v xs
  apart : ∀ (i j : Nat) (v u : Value) (k : Nat), vs[i]? = some v → vs[j]? = some u → v.ownBlock = some k → u.ownBlock = some k → i = j

section
variable {base : Nat} {e : TypeId} {w w' : World} {vs : List Value} {xss : List (List Int)}
theorem OwnM.nils (n : Nat) : OwnM base e w (List.replicate n (.slice none 0 0)) (List.replicate n []) :=
  by
  refine ⟨by simp, fun i v xs h1 h2 => ?_, fun i j v u k h1 h2 h3 _ => ?_⟩
  · rw [List.getElem?_replicate] at h1 h2
    split at h1
    · rename_i hi
      simp [hi] at h1 h2
      subst h1 h2
      exact OwnN.nil
    · cases h1
  · rw [List.getElem?_replicate] at h1
    split at h1
    · injection h1 with h1
      subst h1
      simp [Value.ownBlock] at h3
    · cases h1
theorem OwnM.keep (h : OwnM base e w vs xss) (hb : ∀ (i : Nat) (v : Value) (g : Nat), vs[i]? = some v → v.ownBlock = some g → w'.heap[g]? = w.heap[g]?) : OwnM base e w' vs xss :=
  ⟨h.len, fun i v xs h1 h2 => (h.own i v xs h1 h2).keep fun g hg => hb i v g h1 hg, h.apart⟩
theorem OwnM.block (h : OwnM base e w vs xss) {i : Nat} {v : Value} (hi : vs[i]? = some v) : ∀ g, v.ownBlock = some g → base ≤ g ∧ g < w.heap.size := by
  have hl : i < vs.length := (List.getElem?_eq_some_iff.1 hi).1
  have hl2 : i < xss.length := by rw [← h.len]; exact hl
  exact (h.own i v xss[i] hi (List.getElem?_eq_getElem hl2)).block
theorem OwnM.below (h : OwnM base e w vs xss) (hb : Below w.heap.size w w') : OwnM base e w' vs xss := h.keep fun i v g h1 hg => hb.block g (h.block h1 g hg).2
theorem OwnM.new (h : OwnM base e w vs xss) (o : Obj) : OwnM base e (w.alloc o) vs xss := h.below (bnew (Below.refl _ _) o)
theorem OwnM.draw (h : OwnM base e w vs xss) : OwnM base e w.drew vs xss := h.keep fun _ _ _ _ _ => rfl
/-- A store into a block that is none of theirs. -/
theorem OwnM.other (h : OwnM base e w vs xss) {p : Addr} (hp : p.block < base) (u : Value) : OwnM base e (w.setCell p u) vs xss :=
  h.keep fun i v g h1 hg => Below.heap_setCell w p u g (by have := (h.block h1 g hg).1; omega)
/-- List i has grown. -/
theorem OwnM.grow (h : OwnM base e w vs xss) {i : Nat} {v v' : Value} {xs : List Int} {x : Int} {o : Obj} (hi : vs[i]? = some v) (hx : xss[i]? = some xs)
    (ho : OwnN base e w' v' (xs ++ [x])) (hg : (w.alloc o).grownBy w' v.ownBlock) (hv : ∀ k, v'.ownBlock = some k → v.ownBlock = some k ∨ (w.alloc o).heap.size ≤ k) : OwnM base e w' (vs.set i v') (xss.set i (xs ++ [x])) := by
  have hil : i < vs.length := (List.getElem?_eq_some_iff.1 hi).1
  refine ⟨by simp [h.len], fun j u ys hu hy => ?_, fun j l u t k hu ht hku hkt => ?_⟩
  · by_cases e1 : i = j
    · subst e1
      rw [List.getElem?_set_self hil] at hu
      rw [List.getElem?_set_self (by rw [← h.len]; exact hil)] at hy
      injection hu with hu
      injection hy with hy
      subst hu hy
      exact ho
    · rw [List.getElem?_set_ne e1] at hu hy
      refine ((h.own j u ys hu hy).new o).keep fun g hgu => hg.block g (by have := (h.block hu g hgu).2; simp; omega) fun he => e1 (h.apart i j v u g hi hu he.symm hgu)
  · have key : ∀ (m : Nat) (y : Value), (vs.set i v')[m]? = some y → y.ownBlock = some k → (m = i ∧ y = v') ∨ (m ≠ i ∧ vs[m]? = some y) := fun m y hy _ => by
      by_cases e1 : i = m
      · subst e1
        rw [List.getElem?_set_self hil] at hy
        injection hy with hy
        exact .inl ⟨rfl, hy.symm⟩
      · rw [List.getElem?_set_ne e1] at hy
        exact .inr ⟨fun e => e1 e.symm, hy⟩
    have cross : ∀ (m : Nat) (y : Value), vs[m]? = some y → m ≠ i → y.ownBlock = some k → v'.ownBlock = some k → False := fun m y hy hm hky hkv => by
      rcases hv k hkv with h1 | h1
      · exact hm (h.apart m i y v k hy hi hky h1)
      · have := (h.block hy k hky).2; simp at h1; omega
    rcases key j u hu hku with ⟨a1, a2⟩ | ⟨a1, a2⟩ <;> rcases key l t ht hkt with ⟨b1, b2⟩ | ⟨b1, b2⟩
    · rw [a1, b1]
    · subst a2; exact (cross l t b2 b1 hkt hku).elim
    · subst b2; exact (cross j u a2 a1 hku hkt).elim
    · exact h.apart j l u t k a2 b2 hku hkt
/-- One more, empty. -/
theorem OwnM.snoc (h : OwnM base e w vs xss) : OwnM base e w (vs ++ [.slice none 0 0]) (xss ++ [[]]) := by
  refine ⟨by simp [h.len], fun j u ys hu hy => ?_, fun j l u t k hu ht hku hkt => ?_⟩
  · rcases Nat.lt_or_ge j vs.length with hj | hj
    · rw [List.getElem?_append_left hj] at hu
      rw [List.getElem?_append_left (by rw [← h.len]; exact hj)] at hy
      exact h.own j u ys hu hy
    · rw [List.getElem?_append_right hj] at hu
      rw [List.getElem?_append_right (by rw [← h.len]; exact hj)] at hy
      have : j - vs.length = 0 := by
        have := (List.getElem?_eq_some_iff.1 hu).1
        simp at this
        omega
      rw [this] at hu
      rw [← h.len, this] at hy
      simp at hu hy
      subst hu hy
      exact OwnN.nil
  · have key : ∀ (m : Nat) (y : Value), (vs ++ [.slice none 0 0])[m]? = some y → y.ownBlock = some k → vs[m]? = some y := fun m y hy hk => by
      rcases Nat.lt_or_ge m vs.length with hj | hj
      · rw [List.getElem?_append_left hj] at hy; exact hy
      · rw [List.getElem?_append_right hj] at hy
        have hm := List.mem_of_getElem? hy
        simp at hm
        subst hm
        simp [Value.ownBlock] at hk
    exact h.apart j l u t k (key j u hu hku) (key l t ht hkt) hku hkt
end

end Go.Proofs.Ytnigfddanoaonaa

set_option linter.unusedVariables false
set_option linter.unusedSimpArgs false
set_option linter.unnecessarySimpa false
namespace Go.Proofs.Ytnigfddanoaonaa
open Go.RowKit

/-- The rows of ints of the machine: the states, the rows of what waits and of the counts, the letters of the lines. -/
inductive IR where
  | s
  | w (i : Nat)
  | c (i : Nat)
  | q (j : Nat)
/-- Where all lies: blocks, capacities, what is spare behind the rows. -/
structure WLay where
  p : Nat
  gs : Nat
  gw : Nat
  gc : Nat
  gl : Nat
  cs : Nat
  cw : Nat
  cc : Nat
  cl : Nat
  rs : List Value
  rw : List Value
  rc : List Value
  rl : List Value
  bw : Nat → Nat
  kw : Nat → Nat
  sw : Nat → List Value
  bc : Nat → Nat
  kc : Nat → Nat
  sc : Nat → List Value
  bl : Nat → Nat
  lv : Nat → Value
  fv : Value
def IR.blk (L : WLay) : IR → Option Nat
  | .s => some L.gs
  | .w i => some (L.bw i)
  | .c i => some (L.bc i)
  | .q j => (L.lv j).ownBlock
def IR.ok (N : Nat) : IR → Prop
  | .s => True
  | .w i => i < N
  | .c i => i < N
  | .q j => j < N * N
def slV (b len cap : Nat) : Value := .slice (some ⟨b, 0, none⟩) len cap
def lnC (L : WLay) (N j : Nat) (l : Ln) : List Value := [L.lv j, .int .i64 l.rm, .int .i64 l.sn, .int .i64 (j / N : Nat), .int .i64 (j % N : Nat), .int .i64 l.ac]
def pkV (bl : Nat → Nat) : Pk → Value
  | .lett l num kind => .iface 100 (.agg #[.pointer (some ⟨bl l, 0, none⟩), .int .i64 num, .int .i64 kind])
  | .ack l num => .iface 132 (.agg #[.pointer (some ⟨bl l, 0, none⟩), .int .i64 num])
/-- A packet and when it arrives. -/
def arrR (bl : Nat → Nat) : Rep (Pk × Nat) := fun _ _ cs x => cs = [pkV bl x.1, .int .i64 (x.2 : Nat)]
theorem arr_ok (bl : Nat → Nat) : RepOk (arrR bl) 2 := {
  len := by rintro F w cs x rfl; rfl
  one := by
    rintro F w cs ⟨x, t⟩ rfl u hu
    simp at hu
    rcases hu with rfl | rfl
    · cases x <;> rfl
    · rfl
  keep := by rintro F w w' cs x h _; exact h
  wide := by rintro F F' w cs x h _; exact h }
def mainC (L : WLay) (N : Nat) (oP : Option Addr) (cP : Nat) (oF : Option Addr) (nF cF : Nat) (S : Wr) : List Value :=
  [.slice oP N cP, slV L.gs N L.cs, slV L.gw N L.cw, slV L.gc N L.cc, slV L.gl (N * N) L.cl, .slice oF nF cF, L.fv, .int .i64 S.tk, .int .i64 S.se, .bool S.lg]

structure Wires (B N : Nat) (L : WLay) (oP : Option Addr) (cP : Nat) (oF : Option Addr) (nF cF : Nat) (S : Wr) (W : World) : Prop where
  nst : S.st.length = N
  nwt : S.wt.length = N
  nct : S.ct.length = N
  nls : S.ls.length = N * N
  main : Box W L.p (mainC L N oP cP oF nF cF S) 65
  sts : Row1 (Value.int .i64) W L.gs 3 S.st L.rs
  wtab : Row1 id W L.gw 23 ((List.range N).map fun i => slV (L.bw i) (S.wt.getD i []).length (L.kw i)) L.rw
  wrow : ∀ i l, S.wt[i]? = some l → Row1 (Value.int .i64) W (L.bw i) 3 l (L.sw i)
  ctab : Row1 id W L.gc 23 ((List.range N).map fun i => slV (L.bc i) (S.ct.getD i []).length (L.kc i)) L.rc
  crow : ∀ i l, S.ct[i]? = some l → Row1 (Value.int .i64) W (L.bc i) 3 l (L.sc i)
  ltab : Row1 id W L.gl 90 ((List.range (N * N)).map fun j => Value.pointer (some ⟨L.bl j, 0, none⟩)) L.rl
  lin : ∀ j l, S.ls[j]? = some l → Box W (L.bl j) (lnC L N j l) 94
  lett : ∀ j l, S.ls[j]? = some l → OwnN B 3 W (L.lv j) l.q
  fly : OwnS (arrR L.bl) 2 B 120 Non W L.fv S.fl
  apart : ∀ (r r' : IR) (b : Nat), r.ok N → r'.ok N → r.blk L = some b → r'.blk L = some b → r = r'
  lap : ∀ i j, i < N * N → j < N * N → L.bl i = L.bl j → i = j
  tabs : L.gw ≠ L.gc
  low : B ≤ L.p ∧ B ≤ L.gs ∧ B ≤ L.gw ∧ B ≤ L.gc ∧ B ≤ L.gl
  lowi : ∀ (r : IR) (b : Nat), r.ok N → r.blk L = some b → B ≤ b
  lowl : ∀ j, j < N * N → B ≤ L.bl j

theorem ne_type {W : World} {a b : Nat} {x y : Array Value} {t u : TypeId} (ha : W.heap[a]? = some (.cells x t (0, 0))) (hb : W.heap[b]? = some (.cells y u (0, 0))) (h : t ≠ u) : a ≠ b := by
  intro e
  rw [e, hb] at ha
  injection ha with ha
  injection ha with _ h2
  exact h h2.symm
theorem fly_keep {W W' : World} {B : Nat} {e : TypeId} {v : Value} {bl : Nat → Nat} {xs : List (Pk × Nat)} (h : OwnS (arrR bl) 2 B e Non W v xs) (hk : ∀ g, v.ownBlock = some g → W'.heap[g]? = W.heap[g]?) : OwnS (arrR bl) 2 B e Non W' v xs :=
  h.keep (arr_ok bl) hk (fun _ hk _ => hk.elim)
theorem fly_heap {W : World} {B : Nat} {e : TypeId} {v : Value} {bl : Nat → Nat} {xs : List (Pk × Nat)} (h : OwnS (arrR bl) 2 B e Non W v xs) {g : Nat} (hg : v.ownBlock = some g) : ∃ cur, W.heap[g]? = some (.cells cur e (0, 0)) := by
  obtain ⟨cells, ho, _⟩ := h
  rcases ho.2 with ⟨rfl, _⟩ | ⟨g', cap, cur, rfl, _, h4, _⟩
  · simp [Value.ownBlock] at hg
  · simp [Value.ownBlock] at hg; subst hg; exact ⟨cur, h4⟩
theorem ownN_heap {W : World} {B : Nat} {e : TypeId} {v : Value} {xs : List Int} (h : OwnN B e W v xs) {g : Nat} (hg : v.ownBlock = some g) : ∃ cur, W.heap[g]? = some (.cells cur e (0, 0)) := by
  rcases h with ⟨rfl, _⟩ | ⟨g', o, cap, cur, rfl, _, h4, _⟩
  · simp [Value.ownBlock] at hg
  · simp [Value.ownBlock] at hg; subst hg; exact ⟨cur, h4⟩

section
variable {B N : Nat} {L : WLay} {oP : Option Addr} {cP : Nat} {oF : Option Addr} {nF cF : Nat} {S : Wr} {W W' : World}

/-- All of the machine's blocks stand as they stood. -/
theorem Wires.keep (h : Wires B N L oP cP oF nF cF S W) (hk : ∀ k, k < W.heap.size → B ≤ k → W'.heap[k]? = W.heap[k]?) : Wires B N L oP cP oF nF cF S W' := by
  obtain ⟨l1, l2, l3, l4, l5⟩ := h.low
  refine { h with
    main := h.main.keep (hk _ h.main.lt l1)
    sts := h.sts.keep (hk _ h.sts.lt l2)
    wtab := h.wtab.keep (hk _ h.wtab.lt l3)
    wrow := fun i l hl => (h.wrow i l hl).keep (hk _ (h.wrow i l hl).lt (h.lowi (.w i) _ (by have := (List.getElem?_eq_some_iff.1 hl).1; have := h.nwt; show i < N; omega) rfl))
    ctab := h.ctab.keep (hk _ h.ctab.lt l4)
    crow := fun i l hl => (h.crow i l hl).keep (hk _ (h.crow i l hl).lt (h.lowi (.c i) _ (by have := (List.getElem?_eq_some_iff.1 hl).1; have := h.nct; show i < N; omega) rfl))
    ltab := h.ltab.keep (hk _ h.ltab.lt l5)
    lin := fun j l hl => (h.lin j l hl).keep (hk _ (h.lin j l hl).lt (h.lowl j (by have := (List.getElem?_eq_some_iff.1 hl).1; have := h.nls; omega)))
    lett := fun j l hl => (h.lett j l hl).keep fun g hg => hk g ((h.lett j l hl).block g hg).2 ((h.lett j l hl).block g hg).1
    fly := fly_keep h.fly fun g hg => hk g (h.fly.block g hg).2 (h.fly.block g hg).1 }
theorem Wires.below (h : Wires B N L oP cP oF nF cF S W) (hb : Below W.heap.size W W') : Wires B N L oP cP oF nF cF S W' := h.keep fun k hk _ => hb.block k hk
theorem Wires.draw (h : Wires B N L oP cP oF nF cF S W) : Wires B N L oP cP oF nF cF S W.drew := h.keep fun _ _ _ => rfl

/-- A store into the machine's own block: the time, the number sent, whether it is large, the packets under way (their row). -/
theorem Wires.setMain (h : Wires B N L oP cP oF nF cF S W) (i : Nat) (v : Value) {S' : Wr} (e1 : S'.st = S.st) (e2 : S'.wt = S.wt) (e3 : S'.ct = S.ct) (e4 : S'.ls = S.ls) (e5 : S'.fl = S.fl)
    (hc : (mainC L N oP cP oF nF cF S).set i v = mainC L N oP cP oF nF cF S') : Wires B N L oP cP oF nF cF S' (W.setCell ⟨L.p, i, none⟩ v) := by
  have hm : W.heap[L.p]? = _ := h.main
  have hne : ∀ (k : Nat) (x : Array Value) (t : TypeId), W.heap[k]? = some (Obj.cells x t (0, 0)) → t ≠ 65 → (W.setCell ⟨L.p, i, none⟩ v).heap[k]? = W.heap[k]? := fun k x t hk ht => Below.heap_setCell W ⟨L.p, i, none⟩ v k (ne_type hk hm ht)
  exact { nst := by rw [e1]; exact h.nst, nwt := by rw [e2]; exact h.nwt, nct := by rw [e3]; exact h.nct, nls := by rw [e4]; exact h.nls,
          main := by rw [← hc]; exact h.main.put i v,
          sts := by rw [e1]; exact h.sts.keep (hne _ _ _ h.sts (by decide)),
          wtab := by rw [e2]; exact h.wtab.keep (hne _ _ _ h.wtab (by decide)),
          wrow := by rw [e2]; exact fun i l hl => (h.wrow i l hl).keep (hne _ _ _ (h.wrow i l hl) (by decide)),
          ctab := by rw [e3]; exact h.ctab.keep (hne _ _ _ h.ctab (by decide)),
          crow := by rw [e3]; exact fun i l hl => (h.crow i l hl).keep (hne _ _ _ (h.crow i l hl) (by decide)),
          ltab := h.ltab.keep (hne _ _ _ h.ltab (by decide)),
          lin := by rw [e4]; exact fun j l hl => (h.lin j l hl).keep (hne _ _ _ (h.lin j l hl) (by decide)),
          lett := by
            rw [e4]
            exact fun j l hl => (h.lett j l hl).keep fun g hg => by
              obtain ⟨cur, hcur⟩ := ownN_heap (h.lett j l hl) hg
              exact hne _ _ _ hcur (by decide),
          fly := by
            rw [e5]
            exact fly_keep h.fly fun g hg => by
              obtain ⟨cur, hcur⟩ := fly_heap h.fly hg
              exact hne _ _ _ hcur (by decide),
          apart := h.apart, lap := h.lap, tabs := h.tabs, low := h.low, lowi := h.lowi, lowl := h.lowl }
theorem Wires.setTick (h : Wires B N L oP cP oF nF cF S W) (t : Nat) : Wires B N L oP cP oF nF cF { S with tk := t } (W.setCell ⟨L.p, 7, none⟩ (.int .i64 t)) := h.setMain 7 _ rfl rfl rfl rfl rfl rfl
theorem Wires.setSent (h : Wires B N L oP cP oF nF cF S W) (t : Nat) : Wires B N L oP cP oF nF cF { S with se := t } (W.setCell ⟨L.p, 8, none⟩ (.int .i64 t)) := h.setMain 8 _ rfl rfl rfl rfl rfl rfl
theorem Wires.setLarge (h : Wires B N L oP cP oF nF cF S W) (t : Bool) : Wires B N L oP cP oF nF cF { S with lg := t } (W.setCell ⟨L.p, 9, none⟩ (.bool t)) := h.setMain 9 _ rfl rfl rfl rfl rfl rfl


/-- What a store into a row of ints leaves alone. -/
theorem Wires.others (h : Wires B N L oP cP oF nF cF S W) {r : IR} {b : Nat} (hr : r.ok N) (hb : r.blk L = some b) {cur : Array Value} (hcur : W.heap[b]? = some (.cells cur 3 (0, 0))) (i : Nat) (v : Value) :
    (∀ (k : Nat) (x : Array Value) (t : TypeId), W.heap[k]? = some (Obj.cells x t (0, 0)) → t ≠ 3 → (W.setCell ⟨b, i, none⟩ v).heap[k]? = W.heap[k]?) ∧
    (∀ (r' : IR) (k : Nat), r'.ok N → r'.blk L = some k → r' ≠ r → (W.setCell ⟨b, i, none⟩ v).heap[k]? = W.heap[k]?) :=
  ⟨fun k x t hk ht => Below.heap_setCell W ⟨b, i, none⟩ v k (ne_type hk hcur ht),
   fun r' k hr' hk hne => Below.heap_setCell W ⟨b, i, none⟩ v k fun e => hne (h.apart r' r k hr' hr hk (by rw [hb]; exact congrArg some e.symm))⟩

/-- A processor's state. -/
theorem Wires.setState (h : Wires B N L oP cP oF nF cF S W) {i : Nat} (hi : i < N) (x : Int) : Wires B N L oP cP oF nF cF { S with st := S.st.set i x } (W.setCell ⟨L.gs, i, none⟩ (.int .i64 x)) := by
  obtain ⟨o1, o2⟩ := h.others (r := .s) trivial rfl h.sts i (.int .i64 x)
  have iw : ∀ {j : Nat} {l : List Int}, S.wt[j]? = some l → j < N := fun hl => by have := (List.getElem?_eq_some_iff.1 hl).1; have := h.nwt; omega
  have ic : ∀ {j : Nat} {l : List Int}, S.ct[j]? = some l → j < N := fun hl => by have := (List.getElem?_eq_some_iff.1 hl).1; have := h.nct; omega
  have il : ∀ {j : Nat} {l : Ln}, S.ls[j]? = some l → j < N * N := fun hl => by have := (List.getElem?_eq_some_iff.1 hl).1; have := h.nls; omega
  exact { h with
    nst := by show (S.st.set i x).length = N; rw [List.length_set]; exact h.nst
    main := h.main.keep (o1 _ _ _ h.main (by decide))
    sts := h.sts.put (by rw [h.nst]; exact hi) x
    wtab := h.wtab.keep (o1 _ _ _ h.wtab (by decide))
    wrow := fun j l hl => (h.wrow j l hl).keep (o2 (.w j) _ (iw hl) rfl (by intro e; cases e))
    ctab := h.ctab.keep (o1 _ _ _ h.ctab (by decide))
    crow := fun j l hl => (h.crow j l hl).keep (o2 (.c j) _ (ic hl) rfl (by intro e; cases e))
    ltab := h.ltab.keep (o1 _ _ _ h.ltab (by decide))
    lin := fun j l hl => (h.lin j l hl).keep (o1 _ _ _ (h.lin j l hl) (by decide))
    lett := fun j l hl => (h.lett j l hl).keep fun g hg => o2 (.q j) g (il hl) hg (by intro e; cases e)
    fly := fly_keep h.fly fun g hg => by
      obtain ⟨cur, hcur⟩ := fly_heap h.fly hg
      exact o1 _ _ _ hcur (by decide) }

theorem set_len {xss : List (List Int)} {i k : Nat} {l : List Int} {x : Int} (hl : xss[i]? = some l) (j : Nat) : ((xss.set i (l.set k x)).getD j []).length = (xss.getD j []).length := by
  rw [List.getD_eq_getElem?_getD, List.getD_eq_getElem?_getD, List.getElem?_set]
  have hi := (List.getElem?_eq_some_iff.1 hl).1
  split
  · rename_i e
    subst e
    rw [hl]
    simp
  · rfl
theorem set_row {xss : List (List Int)} {i k : Nat} {l : List Int} {x : Int} (hl : xss[i]? = some l) {j : Nat} {m : List Int} (hm : (xss.set i (l.set k x))[j]? = some m) : (j = i ∧ m = l.set k x) ∨ (j ≠ i ∧ xss[j]? = some m) := by
  rw [List.getElem?_set] at hm
  split at hm
  · rename_i e
    split at hm
    · injection hm with hm; exact .inl ⟨e.symm, hm.symm⟩
    · cases hm
  · rename_i e
    exact .inr ⟨fun h => e h.symm, hm⟩

/-- What waits at a processor. -/
theorem Wires.setWait (h : Wires B N L oP cP oF nF cF S W) {i k : Nat} {l : List Int} (hl : S.wt[i]? = some l) (hk : k < l.length) (x : Int) :
    Wires B N L oP cP oF nF cF { S with wt := S.wt.set i (l.set k x) } (W.setCell ⟨L.bw i, k, none⟩ (.int .i64 x)) := by
  have iw : ∀ {j : Nat} {l : List Int}, S.wt[j]? = some l → j < N := fun hl => by have := (List.getElem?_eq_some_iff.1 hl).1; have := h.nwt; omega
  have ic : ∀ {j : Nat} {l : List Int}, S.ct[j]? = some l → j < N := fun hl => by have := (List.getElem?_eq_some_iff.1 hl).1; have := h.nct; omega
  have il : ∀ {j : Nat} {l : Ln}, S.ls[j]? = some l → j < N * N := fun hl => by have := (List.getElem?_eq_some_iff.1 hl).1; have := h.nls; omega
  obtain ⟨o1, o2⟩ := h.others (r := .w i) (iw hl) rfl (h.wrow i l hl) k (.int .i64 x)
  exact { h with
    nwt := by show (S.wt.set i (l.set k x)).length = N; rw [List.length_set]; exact h.nwt
    main := h.main.keep (o1 _ _ _ h.main (by decide))
    sts := h.sts.keep (o2 .s _ trivial rfl (by intro e; cases e))
    wtab := by
      have e : ((List.range N).map fun j => slV (L.bw j) ((S.wt.set i (l.set k x)).getD j []).length (L.kw j)) = (List.range N).map fun j => slV (L.bw j) (S.wt.getD j []).length (L.kw j) := List.map_congr_left fun j _ => by rw [set_len hl]
      show Row1 id _ L.gw _ ((List.range N).map fun j => slV (L.bw j) ((S.wt.set i (l.set k x)).getD j []).length (L.kw j)) L.rw
      rw [e]
      exact h.wtab.keep (o1 _ _ _ h.wtab (by decide))
    wrow := fun j m hm => by
      rcases set_row hl hm with ⟨rfl, rfl⟩ | ⟨hne, hm⟩
      · exact (h.wrow j l hl).put hk x
      · exact (h.wrow j m hm).keep (o2 (.w j) _ (iw hm) rfl (by intro e; injection e with e; exact hne e))
    ctab := h.ctab.keep (o1 _ _ _ h.ctab (by decide))
    crow := fun j m hm => (h.crow j m hm).keep (o2 (.c j) _ (ic hm) rfl (by intro e; cases e))
    ltab := h.ltab.keep (o1 _ _ _ h.ltab (by decide))
    lin := fun j m hm => (h.lin j m hm).keep (o1 _ _ _ (h.lin j m hm) (by decide))
    lett := fun j m hm => (h.lett j m hm).keep fun g hg => o2 (.q j) g (il hm) hg (by intro e; cases e)
    fly := fly_keep h.fly fun g hg => by
      obtain ⟨cur, hcur⟩ := fly_heap h.fly hg
      exact o1 _ _ _ hcur (by decide) }
/-- What a processor has read. -/
theorem Wires.setCount (h : Wires B N L oP cP oF nF cF S W) {i k : Nat} {l : List Int} (hl : S.ct[i]? = some l) (hk : k < l.length) (x : Int) :
    Wires B N L oP cP oF nF cF { S with ct := S.ct.set i (l.set k x) } (W.setCell ⟨L.bc i, k, none⟩ (.int .i64 x)) := by
  have iw : ∀ {j : Nat} {l : List Int}, S.wt[j]? = some l → j < N := fun hl => by have := (List.getElem?_eq_some_iff.1 hl).1; have := h.nwt; omega
  have ic : ∀ {j : Nat} {l : List Int}, S.ct[j]? = some l → j < N := fun hl => by have := (List.getElem?_eq_some_iff.1 hl).1; have := h.nct; omega
  have il : ∀ {j : Nat} {l : Ln}, S.ls[j]? = some l → j < N * N := fun hl => by have := (List.getElem?_eq_some_iff.1 hl).1; have := h.nls; omega
  obtain ⟨o1, o2⟩ := h.others (r := .c i) (ic hl) rfl (h.crow i l hl) k (.int .i64 x)
  exact { h with
    nct := by show (S.ct.set i (l.set k x)).length = N; rw [List.length_set]; exact h.nct
    main := h.main.keep (o1 _ _ _ h.main (by decide))
    sts := h.sts.keep (o2 .s _ trivial rfl (by intro e; cases e))
    wtab := h.wtab.keep (o1 _ _ _ h.wtab (by decide))
    wrow := fun j m hm => (h.wrow j m hm).keep (o2 (.w j) _ (iw hm) rfl (by intro e; cases e))
    ctab := by
      have e : ((List.range N).map fun j => slV (L.bc j) ((S.ct.set i (l.set k x)).getD j []).length (L.kc j)) = (List.range N).map fun j => slV (L.bc j) (S.ct.getD j []).length (L.kc j) := List.map_congr_left fun j _ => by rw [set_len hl]
      show Row1 id _ L.gc _ ((List.range N).map fun j => slV (L.bc j) ((S.ct.set i (l.set k x)).getD j []).length (L.kc j)) L.rc
      rw [e]
      exact h.ctab.keep (o1 _ _ _ h.ctab (by decide))
    crow := fun j m hm => by
      rcases set_row hl hm with ⟨rfl, rfl⟩ | ⟨hne, hm⟩
      · exact (h.crow j l hl).put hk x
      · exact (h.crow j m hm).keep (o2 (.c j) _ (ic hm) rfl (by intro e; injection e with e; exact hne e))
    ltab := h.ltab.keep (o1 _ _ _ h.ltab (by decide))
    lin := fun j m hm => (h.lin j m hm).keep (o1 _ _ _ (h.lin j m hm) (by decide))
    lett := fun j m hm => (h.lett j m hm).keep fun g hg => o2 (.q j) g (il hm) hg (by intro e; cases e)
    fly := fly_keep h.fly fun g hg => by
      obtain ⟨cur, hcur⟩ := fly_heap h.fly hg
      exact o1 _ _ _ hcur (by decide) }

/-- A store into a line: its numbers. -/
theorem Wires.setLine (h : Wires B N L oP cP oF nF cF S W) {j : Nat} {l l' : Ln} (hl : S.ls[j]? = some l) (hq : l'.q = l.q) (i : Nat) (v : Value) (hc : (lnC L N j l).set i v = lnC L N j l') :
    Wires B N L oP cP oF nF cF { S with ls := S.ls.set j l' } (W.setCell ⟨L.bl j, i, none⟩ v) := by
  have hjl := (List.getElem?_eq_some_iff.1 hl).1
  have hj : j < N * N := by have := h.nls; omega
  have hB : W.heap[L.bl j]? = _ := h.lin j l hl
  have hne : ∀ (k : Nat) (x : Array Value) (t : TypeId), W.heap[k]? = some (Obj.cells x t (0, 0)) → t ≠ 94 → (W.setCell ⟨L.bl j, i, none⟩ v).heap[k]? = W.heap[k]? := fun k x t hk ht => Below.heap_setCell W ⟨L.bl j, i, none⟩ v k (ne_type hk hB ht)
  have hset : ∀ {m : Nat} {y : Ln}, (S.ls.set j l')[m]? = some y → (m = j ∧ y = l') ∨ (m ≠ j ∧ S.ls[m]? = some y) := fun {m y} hm => by
    rw [List.getElem?_set] at hm
    split at hm
    · rename_i e
      injection hm with hm
      exact .inl ⟨e.symm, hm.symm⟩
    · rename_i e
      exact .inr ⟨fun h => e h.symm, hm⟩
  exact { h with
    nls := by show (S.ls.set j l').length = N * N; rw [List.length_set]; exact h.nls
    main := h.main.keep (hne _ _ _ h.main (by decide))
    sts := h.sts.keep (hne _ _ _ h.sts (by decide))
    wtab := h.wtab.keep (hne _ _ _ h.wtab (by decide))
    wrow := fun m y hm => (h.wrow m y hm).keep (hne _ _ _ (h.wrow m y hm) (by decide))
    ctab := h.ctab.keep (hne _ _ _ h.ctab (by decide))
    crow := fun m y hm => (h.crow m y hm).keep (hne _ _ _ (h.crow m y hm) (by decide))
    ltab := h.ltab.keep (hne _ _ _ h.ltab (by decide))
    lin := fun m y hm => by
      rcases hset hm with ⟨rfl, rfl⟩ | ⟨hmj, hm⟩
      · rw [← hc]; exact (h.lin m l hl).put i v
      · have hmN : m < N * N := by have := (List.getElem?_eq_some_iff.1 hm).1; have := h.nls; omega
        exact (h.lin m y hm).other (fun e => hmj (h.lap m j hmN hj e)) v
    lett := fun m y hm => by
      have key : ∀ z, S.ls[m]? = some z → OwnN B 3 (W.setCell ⟨L.bl j, i, none⟩ v) (L.lv m) z.q := fun z hz => (h.lett m z hz).keep fun g hg => by
        obtain ⟨cur, hcur⟩ := ownN_heap (h.lett m z hz) hg
        exact hne _ _ _ hcur (by decide)
      rcases hset hm with ⟨rfl, rfl⟩ | ⟨_, hm⟩
      · rw [hq]; exact key l hl
      · exact key y hm
    fly := fly_keep h.fly fun g hg => by
      obtain ⟨cur, hcur⟩ := fly_heap h.fly hg
      exact hne _ _ _ hcur (by decide) }

end

end Go.Proofs.Ytnigfddanoaonaa

set_option linter.unusedVariables false
set_option linter.unusedSimpArgs false
set_option linter.unnecessarySimpa false
namespace Go.Proofs.Ytnigfddanoaonaa
open Go.RowKit

/-- The machine's own blocks. -/
def Mine (L : WLay) (N k : Nat) : Prop :=
  k = L.p ∨ k = L.gs ∨ k = L.gw ∨ k = L.gc ∨ k = L.gl ∨ (∃ i, i < N ∧ k = L.bw i) ∨ (∃ i, i < N ∧ k = L.bc i) ∨ (∃ j, j < N * N ∧ k = L.bl j) ∨ (∃ j, j < N * N ∧ (L.lv j).ownBlock = some k) ∨ L.fv.ownBlock = some k
/-- A call has changed the machine's own blocks alone; it may have laid new ones. -/
structure Went (N : Nat) (L : WLay) (W : World) (L' : WLay) (W' : World) : Prop where
  os : W'.os = W.os
  tape : W'.tape = W.tape
  output : W'.output = W.output
  size : W.heap.size ≤ W'.heap.size
  block : ∀ k, k < W.heap.size → ¬ Mine L N k → W'.heap[k]? = W.heap[k]?
  mine : ∀ k, k < W.heap.size → Mine L' N k → Mine L N k
  fix : ∃ lv fv, L' = { L with lv := lv, fv := fv }
theorem Went.p {N : Nat} {L L' : WLay} {W W' : World} (h : Went N L W L' W') : L'.p = L.p := by obtain ⟨a, b, e⟩ := h.fix; rw [e]
theorem Went.bl {N : Nat} {L L' : WLay} {W W' : World} (h : Went N L W L' W') : L'.bl = L.bl := by obtain ⟨a, b, e⟩ := h.fix; rw [e]
theorem Went.gl {N : Nat} {L L' : WLay} {W W' : World} (h : Went N L W L' W') : L'.gl = L.gl := by obtain ⟨a, b, e⟩ := h.fix; rw [e]
theorem Went.refl (N : Nat) (L : WLay) (W : World) : Went N L W L W := ⟨rfl, rfl, rfl, Nat.le_refl _, fun _ _ _ => rfl, fun _ _ h => h, ⟨_, _, rfl⟩⟩
theorem Went.trans {N : Nat} {L L1 L2 : WLay} {W W1 W2 : World} (h : Went N L W L1 W1) (g : Went N L1 W1 L2 W2) : Went N L W L2 W2 :=
  ⟨g.os.trans h.os, g.tape.trans h.tape, g.output.trans h.output, Nat.le_trans h.size g.size,
   fun k hk hm => (g.block k (Nat.lt_of_lt_of_le hk h.size) fun hm1 => hm (h.mine k hk hm1)).trans (h.block k hk hm),
   fun k hk hm => h.mine k hk (g.mine k (Nat.lt_of_lt_of_le hk h.size) hm), by obtain ⟨a, b, e⟩ := h.fix; obtain ⟨c, d, e2⟩ := g.fix; exact ⟨c, d, by rw [e2, e]⟩⟩
theorem Went.put {N : Nat} {L : WLay} {W : World} {b i : Nat} {v : Value} (hb : Mine L N b) : Went N L W L (W.setCell ⟨b, i, none⟩ v) :=
  ⟨rfl, rfl, rfl, by show W.heap.size ≤ (W.heap.modify _ _).size; rw [Array.size_modify]; exact Nat.le_refl _,
   fun k _ hm => Below.heap_setCell W ⟨b, i, none⟩ v k fun e => hm (by rw [show k = b from e]; exact hb), fun _ _ h => h, ⟨_, _, rfl⟩⟩
theorem Went.drew {N : Nat} {L : WLay} {W : World} (n : Nat) : Went N L W L (W.drewN n) := ⟨rfl, rfl, rfl, Nat.le_refl _, fun _ _ _ => rfl, fun _ _ h => h, ⟨_, _, rfl⟩⟩
theorem Went.new {N : Nat} {L : WLay} {W : World} (o : Obj) : Went N L W L (W.alloc o) :=
  ⟨rfl, rfl, rfl, by simp, fun k hk _ => Below.heap_alloc W o k hk, fun _ _ h => h, ⟨_, _, rfl⟩⟩

section
variable {B N : Nat} {L : WLay} {oP : Option Addr} {cP : Nat} {oF : Option Addr} {nF cF : Nat} {S : Wr} {W W' : World}
theorem Wires.mine_ge (h : Wires B N L oP cP oF nF cF S W) {k : Nat} (hm : Mine L N k) : B ≤ k := by
  obtain ⟨l1, l2, l3, l4, l5⟩ := h.low
  rcases hm with e | e | e | e | e | ⟨i, hi, e⟩ | ⟨i, hi, e⟩ | ⟨j, hj, e⟩ | ⟨j, hj, e⟩ | e
  · omega
  · omega
  · omega
  · omega
  · omega
  · rw [e]; exact h.lowi (.w i) _ hi rfl
  · rw [e]; exact h.lowi (.c i) _ hi rfl
  · rw [e]; exact h.lowl j hj
  · exact h.lowi (.q j) _ hj e
  · exact (h.fly.block k e).1
theorem Wires.went_below (h : Wires B N L oP cP oF nF cF S W) {L' : WLay} (g : Went N L W L' W') (hB : B ≤ W.heap.size) : Below B W W' :=
  ⟨g.os, g.tape, g.output, g.size, fun k hk => g.block k (by omega) fun hm => by have := h.mine_ge hm; omega⟩

/-- The cells of the machine's own block. -/
theorem Wires.cells (h : Wires B N L oP cP oF nF cF S W) :
    W.cell? ⟨L.p, 0, none⟩ = some (.slice oP N cP) ∧ W.cell? ⟨L.p, 1, none⟩ = some (slV L.gs N L.cs) ∧ W.cell? ⟨L.p, 2, none⟩ = some (slV L.gw N L.cw) ∧ W.cell? ⟨L.p, 3, none⟩ = some (slV L.gc N L.cc) ∧ W.cell? ⟨L.p, 4, none⟩ = some (slV L.gl (N * N) L.cl) ∧
    W.cell? ⟨L.p, 5, none⟩ = some (.slice oF nF cF) ∧ W.cell? ⟨L.p, 6, none⟩ = some L.fv ∧ W.cell? ⟨L.p, 7, none⟩ = some (.int .i64 S.tk) ∧ W.cell? ⟨L.p, 8, none⟩ = some (.int .i64 S.se) ∧ W.cell? ⟨L.p, 9, none⟩ = some (.bool S.lg) :=
  ⟨h.main.cell 0, h.main.cell 1, h.main.cell 2, h.main.cell 3, h.main.cell 4, h.main.cell 5, h.main.cell 6, h.main.cell 7, h.main.cell 8, h.main.cell 9⟩

set_option maxRecDepth 100000 in
set_option maxHeartbeats 2000000 in
theorem wait_any (h : Wires B N L oP cP oF nF cF S W) {i k : Nat} {l : List Int} {x : Int} (hl : S.wt[i]? = some l) (hx : l[k]? = some x) (hb : -1000000000000 ≤ x ∧ x ≤ 1000000000000) (hN : N ≤ 1000) (hll : l.length ≤ 1000000) :
    Calls Try.prog 65 #[.pointer (some ⟨L.p, 0, none⟩), .int .i64 i, .int .i64 k] W fun e w' => e = .returned (.tuple #[]) ∧ Wires B N L oP cP oF nF cF (waitS i k S) w' ∧ Went N L W L w' := by
  have hi : i < N := by have := (List.getElem?_eq_some_iff.1 hl).1; have := h.nwt; omega
  have hk : k < l.length := (List.getElem?_eq_some_iff.1 hx).1
  have HW := hide (h.setWait hl hk (x + 1))
  have HG : Hid (Went N L W L (W.setCell ⟨L.bw i, k, none⟩ (.int .i64 (x + 1)))) := Went.put (.inr (.inr (.inr (.inr (.inr (.inl ⟨i, hi, rfl⟩))))))
  obtain ⟨_, _, c2, _, _, _, _, _, _, _⟩ := h.cells
  have t0 := h.wtab.cell (i := i) (x := slV (L.bw i) l.length (L.kw i)) (by simp [hi, List.getD_eq_getElem?_getD, hl])
  have r0 := (h.wrow i l hl).cell hx
  have rf := (h.wrow i l hl).free k
  have HS : Hid (waitS i k S = { S with wt := S.wt.set i (l.set k (x + 1)), lg := S.lg || decide (1048576 < x + 1) }) := by
    show _ = _
    unfold waitS bump
    have e1 : S.wt.getD i [] = l := by rw [List.getD_eq_getElem?_getD, hl]; rfl
    have e2 : l.getD k 0 = x := by rw [List.getD_eq_getElem?_getD, hx]; rfl
    rw [e1, e2]
  simp only [id_eq] at t0
  unfold slV at c2 t0
  obtain ⟨W1, hW1⟩ : ∃ W1, W.setCell ⟨L.bw i, k, none⟩ (.int .i64 (x + 1)) = W1 := ⟨_, rfl⟩
  rw [hW1] at HW HG
  have hl1 : (S.wt.set i (l.set k (x + 1)))[i]? = some (l.set k (x + 1)) := List.getElem?_set_self (List.getElem?_eq_some_iff.1 hl).1
  have hx1 : (l.set k (x + 1))[k]? = some (x + 1) := List.getElem?_set_self hk
  obtain ⟨_, _, g2, _, _, _, _, _, _, g9⟩ := HW.out.cells
  have gt0 := HW.out.wtab.cell (i := i) (x := slV (L.bw i) l.length (L.kw i)) (by simp [hi, List.getD_eq_getElem?_getD, hl1])
  have gr0 := (HW.out.wrow i _ hl1).cell hx1
  have grf := HW.out.main.free 9
  simp only [id_eq] at gt0
  unfold slV at g2 gt0
  have HX := hide (HW.out.setLarge (S.lg || decide (1048576 < x + 1)))
  have HY : Hid (Went N L W L (W1.setCell ⟨L.p, 9, none⟩ (.bool (S.lg || decide (1048576 < x + 1))))) := HG.out.trans (Went.put (.inl rfl))
  clear hl hx hl1 hx1
  cases hlg : S.lg with
  | true =>
    rw [hlg] at g9 HX HY HS
    simp only [Bool.true_or] at HX HY HS
    clear hlg
    go_enter Try.func65, Try.ntmps65
    go_wp2_with fail
    go_end0
    refine ⟨rfl, ?_, HY.out⟩
    rw [HS.out]
    exact HX.out
  | false =>
    rw [hlg] at g9 HX HY HS
    simp only [Bool.false_or] at HX HY HS
    clear hlg
    by_cases hgt : 1048576 < x + 1
    · have q1 : decide (1048576 < x + 1) = true := by simp [hgt]
      rw [q1] at HX HY HS
      go_enter Try.func65, Try.ntmps65
      go_wp2_with fail
      go_end0
      refine ⟨rfl, ?_, HY.out⟩
      rw [HS.out]
      exact HX.out
    · have q1 : decide (1048576 < x + 1) = false := by simp; omega
      rw [q1] at HX HY HS
      go_enter Try.func65, Try.ntmps65
      go_wp2_with fail
      go_end0
      refine ⟨rfl, ?_, HY.out⟩
      rw [HS.out]
      exact HX.out
end

end Go.Proofs.Ytnigfddanoaonaa

set_option linter.unusedVariables false
set_option linter.unusedSimpArgs false
set_option linter.unnecessarySimpa false
namespace Go.Proofs.Ytnigfddanoaonaa
open Go.RowKit

structure Rw where
  g : Nat
  c : Nat
  l : List Int
  rest : List Value
def Rw.val (r : Rw) : Value := slV r.g r.l.length r.c
def ptV (b : Nat) : Value := .pointer (some ⟨b, 0, none⟩)
def valR : Rep Value := fun _ _ cs x => cs = [x] ∧ x.oneCell' = true
theorem valR_ok : RepOk valR 1 where
  len := by rintro F w cs x ⟨rfl, _⟩; rfl
  one := by rintro F w cs x ⟨rfl, h⟩ u hu; simp at hu; subst hu; exact h
  keep := by rintro F w w' cs x h _; exact h
  wide := by rintro F F' w cs x h _; exact h
theorem own_heap {α : Type} {R : Rep α} {sz B : Nat} {e : TypeId} {F : Foot} {W : World} {v : Value} {xs : List α} (h : OwnS R sz B e F W v xs) {g : Nat} (hg : v.ownBlock = some g) : ∃ cur, W.heap[g]? = some (.cells cur e (0, 0)) := by
  obtain ⟨cells, ho, _⟩ := h
  rcases ho.2 with ⟨rfl, _⟩ | ⟨g', cap, cur, rfl, _, h4, _⟩
  · simp [Value.ownBlock] at hg
  · simp [Value.ownBlock] at hg; subst hg; exact ⟨cur, h4⟩
theorem OwnS.vrow {base : Nat} {e : TypeId} {F : Foot} {w : World} {v : Value} {xs : List Value} (h : OwnS valR 1 base e F w v xs) (hne : xs ≠ []) :
    ∃ g cap rest, v = .slice (some ⟨g, 0, none⟩) xs.length cap ∧ base ≤ g ∧ xs.length ≤ cap ∧ Row1 id w g e xs rest := by
  obtain ⟨cells, ho, h1, hc⟩ := h
  have hcells : cells = xs := by
    have hl := ho.1
    apply List.ext_getElem?
    intro i
    rcases Nat.lt_or_ge i xs.length with hi | hi
    · have h2 := (hc i _ (List.getElem?_eq_getElem hi)).1
      rw [List.getElem?_eq_getElem hi]
      have h3 := congrArg (fun l => l[0]?) h2
      simp only [chunk, Nat.mul_one] at h3
      rw [List.getElem?_take_of_lt (by omega), List.getElem?_drop] at h3
      simpa using h3
    · rw [List.getElem?_eq_none (by omega), List.getElem?_eq_none (by omega)]
  rcases ho.2 with ⟨_, hn⟩ | ⟨g, cap, cur, rfl, hg, hh, hle, hcm, hcs, htake⟩
  · exact absurd (List.eq_nil_of_length_eq_zero hn) hne
  · refine ⟨g, cap, cur.toList.drop xs.length, rfl, hg, hle, Row1.of cur.toList hh ?_⟩
    rw [← hcells, Nat.mul_one] at *
    simp
    rw [htake]
theorem snoc_get {α : Type} {l : List α} {x y : α} {i : Nat} (h : (l ++ [x])[i]? = some y) : (i = l.length ∧ y = x) ∨ l[i]? = some y := by
  rcases Nat.lt_or_ge i l.length with hi | hi
  · rw [List.getElem?_append_left hi] at h
    exact .inr h
  · rw [List.getElem?_append_right hi] at h
    have : i - l.length = 0 := by
      have := (List.getElem?_eq_some_iff.1 h).1
      simp at this
      omega
    rw [this] at h
    simp at h
    exact .inl ⟨by omega, h.symm⟩

/-- n: processors; tw, tc, tl: the tables of what waits, of the counts, of the lines; rw, rc, rl: their rows so far. -/
structure Part (B n p : Nat) (oP : Option Addr) (cP : Nat) (oF : Option Addr) (nF cF : Nat) (gs cs : Nat) (st : List Int) (rs : List Value) (tw tc tl : Value) (rw rc : List Rw) (rl : List Nat) (W : World) : Prop where
  main : Box W p [.slice oP n cP, slV gs n cs, tw, tc, tl, .slice oF nF cF, .slice none 0 0, .int .i64 0, .int .i64 0, .bool false] 65
  nst : st.length = n
  sts : Row1 (Value.int .i64) W gs 3 st rs
  wtab : OwnS valR 1 B 23 Non W tw (rw.map Rw.val)
  wrow : ∀ r ∈ rw, Row1 (Value.int .i64) W r.g 3 r.l r.rest ∧ B ≤ r.g ∧ r.l.length ≤ r.c ∧ r.g ≠ gs
  ctab : OwnS valR 1 B 23 Non W tc (rc.map Rw.val)
  crow : ∀ r ∈ rc, Row1 (Value.int .i64) W r.g 3 r.l r.rest ∧ B ≤ r.g ∧ r.l.length ≤ r.c ∧ r.g ≠ gs
  ltab : OwnS valR 1 B 90 Non W tl (rl.map ptV)
  lin : ∀ (j b : Nat), rl[j]? = some b → Box W b [.slice none 0 0, .int .i64 0, .int .i64 0, .int .i64 (j / n : Nat), .int .i64 (j % n : Nat), .int .i64 0] 94 ∧ B ≤ b
  dw : ∀ (i j : Nat) (r r' : Rw), rw[i]? = some r → rw[j]? = some r' → r.g = r'.g → i = j
  dc : ∀ (i j : Nat) (r r' : Rw), rc[i]? = some r → rc[j]? = some r' → r.g = r'.g → i = j
  dwc : ∀ r ∈ rw, ∀ r' ∈ rc, r.g ≠ r'.g
  dl : ∀ (i j b : Nat), rl[i]? = some b → rl[j]? = some b → i = j
  tabs : ∀ g, tw.ownBlock = some g → tc.ownBlock = some g → False
  low : B ≤ p ∧ B ≤ gs ∧ cs ≥ n

section
variable {B n p : Nat} {oP : Option Addr} {cP : Nat} {oF : Option Addr} {nF cF : Nat} {gs cs : Nat} {st : List Int} {rs : List Value} {tw tc tl : Value} {rw_ rc : List Rw} {rl : List Nat} {W W' : World}
theorem OwnS.ext {R : Rep Value} {sz B : Nat} {e : TypeId} {w w' : World} {v : Value} {xs : List Value} (ok : RepOk R sz) (h : OwnS R sz B e Non w v xs) (hk : ∀ g, v.ownBlock = some g → w'.heap[g]? = w.heap[g]?) : OwnS R sz B e Non w' v xs := h.keep ok hk (fun _ hk _ => hk.elim)
theorem Part.below (h : Part B n p oP cP oF nF cF gs cs st rs tw tc tl rw_ rc rl W) (hb : Below W.heap.size W W') : Part B n p oP cP oF nF cF gs cs st rs tw tc tl rw_ rc rl W' :=
  { h with
    main := h.main.below hb
    sts := h.sts.below hb
    wtab := h.wtab.below valR_ok hb
    wrow := fun r hr => ⟨(h.wrow r hr).1.below hb, (h.wrow r hr).2⟩
    ctab := h.ctab.below valR_ok hb
    crow := fun r hr => ⟨(h.crow r hr).1.below hb, (h.crow r hr).2⟩
    ltab := h.ltab.below valR_ok hb
    lin := fun j b hj => ⟨(h.lin j b hj).1.below hb, (h.lin j b hj).2⟩ }
theorem Part.pushW (h : Part B n p oP cP oF nF cF gs cs st rs tw tc tl rw_ rc rl W) {tw' : Value} {r : Rw} (hown : OwnS valR 1 B 23 Non W' tw' (rw_.map Rw.val ++ [r.val])) (hk : ∀ k, k < W.heap.size → some k ≠ tw.ownBlock → W'.heap[k]? = W.heap[k]?)
    (hrow : Row1 (Value.int .i64) W' r.g 3 r.l r.rest) (hrg : W.heap.size ≤ r.g) (hB : B ≤ W.heap.size) (hlen : r.l.length ≤ r.c) (hat : ∀ k, tw'.ownBlock = some k → tw.ownBlock = some k ∨ W.heap.size ≤ k) :
    Part B n p oP cP oF nF cF gs cs st rs tw' tc tl (rw_ ++ [r]) rc rl (W'.setCell ⟨p, 2, none⟩ tw') := by
  have n1 : ∀ (k : Nat) (x : Array Value) (t : TypeId), W.heap[k]? = some (Obj.cells x t (0, 0)) → t ≠ 23 → W'.heap[k]? = W.heap[k]? := fun k x t hx ht => hk k (Array.getElem?_eq_some_iff.1 hx).1 fun e => by
    obtain ⟨cur, hcur⟩ := own_heap h.wtab e.symm
    exact ne_type hx hcur ht rfl
  have hm : Box W' p [.slice oP n cP, slV gs n cs, tw, tc, tl, .slice oF nF cF, .slice none 0 0, .int .i64 0, .int .i64 0, .bool false] 65 := h.main.keep (n1 _ _ _ h.main (by decide))
  have n2 : ∀ (k : Nat) (x : Array Value) (t : TypeId), W'.heap[k]? = some (Obj.cells x t (0, 0)) → t ≠ 65 → (W'.setCell ⟨p, 2, none⟩ tw').heap[k]? = W'.heap[k]? := fun k x t hx ht => Below.heap_setCell W' ⟨p, 2, none⟩ tw' k (ne_type hx hm ht)
  have hI : ∀ {g : Nat} {l : List Int} {rest : List Value}, Row1 (Value.int .i64) W g 3 l rest → Row1 (Value.int .i64) (W'.setCell ⟨p, 2, none⟩ tw') g 3 l rest := fun hr => by
    have h1 := hr.keep (n1 _ _ _ hr (by decide))
    exact h1.keep (n2 _ _ _ h1 (by decide))
  exact { h with
    main := by have := hm.put 2 tw'; exact this
    sts := hI h.sts
    wtab := by
      rw [List.map_append]
      exact OwnS.ext valR_ok hown fun g hg => by
        obtain ⟨cur, hcur⟩ := own_heap hown hg
        exact n2 _ _ _ hcur (by decide)
    wrow := fun r' hr' => by
      rcases List.mem_append.1 hr' with hr' | hr'
      · exact ⟨hI (h.wrow r' hr').1, (h.wrow r' hr').2⟩
      · rw [List.mem_singleton] at hr'
        subst hr'
        exact ⟨hrow.keep (n2 _ _ _ hrow (by decide)), by omega, hlen, fun e => by have := h.sts.lt; omega⟩
    ctab := OwnS.ext valR_ok h.ctab fun g hg => by
      have h1 : W'.heap[g]? = W.heap[g]? := hk g (h.ctab.block g hg).2 fun e => h.tabs g e.symm hg
      obtain ⟨cur, hcur⟩ := own_heap h.ctab hg
      rw [n2 _ _ _ (h1.trans hcur) (by decide), h1]
    crow := fun r' hr' => ⟨hI (h.crow r' hr').1, (h.crow r' hr').2⟩
    ltab := OwnS.ext valR_ok h.ltab fun g hg => by
      obtain ⟨cur, hcur⟩ := own_heap h.ltab hg
      have h1 := n1 _ _ _ hcur (by decide)
      rw [n2 _ _ _ (h1.trans hcur) (by decide), h1]
    lin := fun j b hj => by
      have h0 := (h.lin j b hj).1
      have h1 := h0.keep (n1 _ _ _ h0 (by decide))
      exact ⟨h1.keep (n2 _ _ _ h1 (by decide)), (h.lin j b hj).2⟩
    dw := fun i j a b ha hb e => by
      rcases snoc_get ha with ⟨ha1, ha2⟩ | ha <;> rcases snoc_get hb with ⟨hb1, hb2⟩ | hb
      · omega
      · have := (h.wrow b (List.mem_of_getElem? hb)).1.lt; subst ha2; omega
      · have := (h.wrow a (List.mem_of_getElem? ha)).1.lt; subst hb2; omega
      · exact h.dw i j a b ha hb e
    dwc := fun a ha b hb e => by
      rcases List.mem_append.1 ha with ha | ha
      · exact h.dwc a ha b hb e
      · rw [List.mem_singleton] at ha
        subst ha
        have := (h.crow b hb).1.lt
        omega
    tabs := fun g h1 h2 => by
      rcases hat g h1 with h3 | h3
      · exact h.tabs g h3 h2
      · have := (h.ctab.block g h2).2; omega }
theorem Part.pushC (h : Part B n p oP cP oF nF cF gs cs st rs tw tc tl rw_ rc rl W) {tc' : Value} {r : Rw} (hown : OwnS valR 1 B 23 Non W' tc' (rc.map Rw.val ++ [r.val])) (hk : ∀ k, k < W.heap.size → some k ≠ tc.ownBlock → W'.heap[k]? = W.heap[k]?)
    (hrow : Row1 (Value.int .i64) W' r.g 3 r.l r.rest) (hrg : W.heap.size ≤ r.g) (hB : B ≤ W.heap.size) (hlen : r.l.length ≤ r.c) (hat : ∀ k, tc'.ownBlock = some k → tc.ownBlock = some k ∨ W.heap.size ≤ k) :
    Part B n p oP cP oF nF cF gs cs st rs tw tc' tl rw_ (rc ++ [r]) rl (W'.setCell ⟨p, 3, none⟩ tc') := by
  have n1 : ∀ (k : Nat) (x : Array Value) (t : TypeId), W.heap[k]? = some (Obj.cells x t (0, 0)) → t ≠ 23 → W'.heap[k]? = W.heap[k]? := fun k x t hx ht => hk k (Array.getElem?_eq_some_iff.1 hx).1 fun e => by
    obtain ⟨cur, hcur⟩ := own_heap h.ctab e.symm
    exact ne_type hx hcur ht rfl
  have hm : Box W' p [.slice oP n cP, slV gs n cs, tw, tc, tl, .slice oF nF cF, .slice none 0 0, .int .i64 0, .int .i64 0, .bool false] 65 := h.main.keep (n1 _ _ _ h.main (by decide))
  have n2 : ∀ (k : Nat) (x : Array Value) (t : TypeId), W'.heap[k]? = some (Obj.cells x t (0, 0)) → t ≠ 65 → (W'.setCell ⟨p, 3, none⟩ tc').heap[k]? = W'.heap[k]? := fun k x t hx ht => Below.heap_setCell W' ⟨p, 3, none⟩ tc' k (ne_type hx hm ht)
  have hI : ∀ {g : Nat} {l : List Int} {rest : List Value}, Row1 (Value.int .i64) W g 3 l rest → Row1 (Value.int .i64) (W'.setCell ⟨p, 3, none⟩ tc') g 3 l rest := fun hr => by
    have h1 := hr.keep (n1 _ _ _ hr (by decide))
    exact h1.keep (n2 _ _ _ h1 (by decide))
  exact { h with
    main := by have := hm.put 3 tc'; exact this
    sts := hI h.sts
    ctab := by
      rw [List.map_append]
      exact OwnS.ext valR_ok hown fun g hg => by
        obtain ⟨cur, hcur⟩ := own_heap hown hg
        exact n2 _ _ _ hcur (by decide)
    crow := fun r' hr' => by
      rcases List.mem_append.1 hr' with hr' | hr'
      · exact ⟨hI (h.crow r' hr').1, (h.crow r' hr').2⟩
      · rw [List.mem_singleton] at hr'
        subst hr'
        exact ⟨hrow.keep (n2 _ _ _ hrow (by decide)), by omega, hlen, fun e => by have := h.sts.lt; omega⟩
    wtab := OwnS.ext valR_ok h.wtab fun g hg => by
      have h1 : W'.heap[g]? = W.heap[g]? := hk g (h.wtab.block g hg).2 fun e => h.tabs g hg e.symm
      obtain ⟨cur, hcur⟩ := own_heap h.wtab hg
      rw [n2 _ _ _ (h1.trans hcur) (by decide), h1]
    wrow := fun r' hr' => ⟨hI (h.wrow r' hr').1, (h.wrow r' hr').2⟩
    ltab := OwnS.ext valR_ok h.ltab fun g hg => by
      obtain ⟨cur, hcur⟩ := own_heap h.ltab hg
      have h1 := n1 _ _ _ hcur (by decide)
      rw [n2 _ _ _ (h1.trans hcur) (by decide), h1]
    lin := fun j b hj => by
      have h0 := (h.lin j b hj).1
      have h1 := h0.keep (n1 _ _ _ h0 (by decide))
      exact ⟨h1.keep (n2 _ _ _ h1 (by decide)), (h.lin j b hj).2⟩
    dc := fun i j a b ha hb e => by
      rcases snoc_get ha with ⟨ha1, ha2⟩ | ha <;> rcases snoc_get hb with ⟨hb1, hb2⟩ | hb
      · omega
      · have := (h.crow b (List.mem_of_getElem? hb)).1.lt; subst ha2; omega
      · have := (h.crow a (List.mem_of_getElem? ha)).1.lt; subst hb2; omega
      · exact h.dc i j a b ha hb e
    dwc := fun a ha b hb e => by
      rcases List.mem_append.1 hb with hb | hb
      · exact h.dwc a ha b hb e
      · rw [List.mem_singleton] at hb
        subst hb
        have := (h.wrow a ha).1.lt
        omega
    tabs := fun g h1 h2 => by
      rcases hat g h2 with h3 | h3
      · exact h.tabs g h1 h3
      · have := (h.wtab.block g h1).2; omega }
theorem Part.pushL (h : Part B n p oP cP oF nF cF gs cs st rs tw tc tl rw_ rc rl W) {tl' : Value} {b : Nat} (hown : OwnS valR 1 B 90 Non W' tl' (rl.map ptV ++ [ptV b])) (hk : ∀ k, k < W.heap.size → some k ≠ tl.ownBlock → W'.heap[k]? = W.heap[k]?)
    (hbox : Box W' b [.slice none 0 0, .int .i64 0, .int .i64 0, .int .i64 (rl.length / n : Nat), .int .i64 (rl.length % n : Nat), .int .i64 0] 94) (hrg : W.heap.size ≤ b) (hB : B ≤ W.heap.size) :
    Part B n p oP cP oF nF cF gs cs st rs tw tc tl' rw_ rc (rl ++ [b]) (W'.setCell ⟨p, 4, none⟩ tl') := by
  have n1 : ∀ (k : Nat) (x : Array Value) (t : TypeId), W.heap[k]? = some (Obj.cells x t (0, 0)) → t ≠ 90 → W'.heap[k]? = W.heap[k]? := fun k x t hx ht => hk k (Array.getElem?_eq_some_iff.1 hx).1 fun e => by
    obtain ⟨cur, hcur⟩ := own_heap h.ltab e.symm
    exact ne_type hx hcur ht rfl
  have hm : Box W' p [.slice oP n cP, slV gs n cs, tw, tc, tl, .slice oF nF cF, .slice none 0 0, .int .i64 0, .int .i64 0, .bool false] 65 := h.main.keep (n1 _ _ _ h.main (by decide))
  have n2 : ∀ (k : Nat) (x : Array Value) (t : TypeId), W'.heap[k]? = some (Obj.cells x t (0, 0)) → t ≠ 65 → (W'.setCell ⟨p, 4, none⟩ tl').heap[k]? = W'.heap[k]? := fun k x t hx ht => Below.heap_setCell W' ⟨p, 4, none⟩ tl' k (ne_type hx hm ht)
  have hI : ∀ {g : Nat} {l : List Int} {rest : List Value}, Row1 (Value.int .i64) W g 3 l rest → Row1 (Value.int .i64) (W'.setCell ⟨p, 4, none⟩ tl') g 3 l rest := fun hr => by
    have h1 := hr.keep (n1 _ _ _ hr (by decide))
    exact h1.keep (n2 _ _ _ h1 (by decide))
  have hT : ∀ {v : Value} {xs : List Value}, OwnS valR 1 B 23 Non W v xs → OwnS valR 1 B 23 Non (W'.setCell ⟨p, 4, none⟩ tl') v xs := fun ho => OwnS.ext valR_ok ho fun g hg => by
    obtain ⟨cur, hcur⟩ := own_heap ho hg
    have h1 := n1 _ _ _ hcur (by decide)
    rw [n2 _ _ _ (h1.trans hcur) (by decide), h1]
  exact { h with
    main := by have := hm.put 4 tl'; exact this
    sts := hI h.sts
    wtab := hT h.wtab
    wrow := fun r' hr' => ⟨hI (h.wrow r' hr').1, (h.wrow r' hr').2⟩
    ctab := hT h.ctab
    crow := fun r' hr' => ⟨hI (h.crow r' hr').1, (h.crow r' hr').2⟩
    ltab := by
      rw [List.map_append]
      exact OwnS.ext valR_ok hown fun g hg => by
        obtain ⟨cur, hcur⟩ := own_heap hown hg
        exact n2 _ _ _ hcur (by decide)
    lin := fun j b' hj => by
      rcases snoc_get hj with ⟨hj1, hj2⟩ | hj
      · subst hj1 hj2
        exact ⟨hbox.keep (n2 _ _ _ hbox (by decide)), by omega⟩
      · have h0 := (h.lin j b' hj).1
        have h1 := h0.keep (n1 _ _ _ h0 (by decide))
        exact ⟨h1.keep (n2 _ _ _ h1 (by decide)), (h.lin j b' hj).2⟩
    dl := fun i j a ha hb => by
      rcases snoc_get ha with ⟨ha1, ha2⟩ | ha <;> rcases snoc_get hb with ⟨hb1, hb2⟩ | hb
      · omega
      · have := (h.lin j a hb).1.lt; subst ha2; omega
      · have := (h.lin i a ha).1.lt; subst hb2; omega
      · exact h.dl i j a ha hb }

/-- The layout of a machine that is laid. -/
def Part.lay (p gs cs gw cw gc cc gl cl : Nat) (rs yw yc yl : List Value) (rw_ rc : List Rw) (rl : List Nat) : WLay where
  p := p
  gs := gs
  gw := gw
  gc := gc
  gl := gl
  cs := cs
  cw := cw
  cc := cc
  cl := cl
  rs := rs
  rw := yw
  rc := yc
  rl := yl
  bw i := (rw_.getD i ⟨0, 0, [], []⟩).g
  kw i := (rw_.getD i ⟨0, 0, [], []⟩).c
  sw i := (rw_.getD i ⟨0, 0, [], []⟩).rest
  bc i := (rc.getD i ⟨0, 0, [], []⟩).g
  kc i := (rc.getD i ⟨0, 0, [], []⟩).c
  sc i := (rc.getD i ⟨0, 0, [], []⟩).rest
  bl j := rl.getD j 0
  lv _ := .slice none 0 0
  fv := .slice none 0 0
/-- Capacities are as great as lengths. -/
structure Caps (N : Nat) (wt ct : List (List Int)) (L : WLay) : Prop where
  cs : N ≤ L.cs
  cw : N ≤ L.cw
  cc : N ≤ L.cc
  kw : ∀ (i : Nat) (l : List Int), wt[i]? = some l → l.length ≤ L.kw i
  kc : ∀ (i : Nat) (l : List Int), ct[i]? = some l → l.length ≤ L.kc i

theorem tab_rows {l : List Rw} {n : Nat} (h : l.length = n) : l.map Rw.val = (List.range n).map fun i => slV (l.getD i ⟨0, 0, [], []⟩).g ((l.map (·.l)).getD i []).length (l.getD i ⟨0, 0, [], []⟩).c := by
  apply List.ext_getElem?
  intro i
  rw [List.getElem?_map, List.getElem?_map]
  by_cases hi : i < n
  · rw [List.getElem?_range hi, List.getElem?_eq_getElem (by omega)]
    have hl : i < l.length := by omega
    simp [Rw.val, hl]
  · rw [List.getElem?_eq_none (by omega), List.getElem?_eq_none (by simp; omega)]
    rfl
theorem Part.wires (h : Part B n p oP cP oF nF cF gs cs st rs tw tc tl rw_ rc rl W) (hn : 0 < n) (hw : rw_.length = n) (hc : rc.length = n) (hl : rl.length = n * n) (hct : rc.map (·.l) = (rw_.map (·.l)).map fun l => List.replicate l.length 0) :
    ∃ L, Wires B n L oP cP oF nF cF (beginS st (rw_.map (·.l)) n) W ∧ Caps n (rw_.map (·.l)) (rc.map (·.l)) L ∧ L.p = p := by
  have hnn : 0 < n * n := Nat.mul_pos hn hn
  obtain ⟨gw, cw, yw, e1, w1, w2, w3⟩ := h.wtab.vrow (by intro e; rw [List.map_eq_nil_iff] at e; rw [e] at hw; simp at hw; omega)
  obtain ⟨gc, cc, yc, e2, c1, c2, c3⟩ := h.ctab.vrow (by intro e; rw [List.map_eq_nil_iff] at e; rw [e] at hc; simp at hc; omega)
  obtain ⟨gl, cl, yl, e3, l1, l2, l3⟩ := h.ltab.vrow (by intro e; rw [List.map_eq_nil_iff] at e; rw [e] at hl; simp at hl; omega)
  simp only [List.length_map, hw] at e1 w2
  simp only [List.length_map, hc] at e2 c2
  simp only [List.length_map, hl] at e3 l2
  have gw_ : ∀ (i : Nat) (l : List Int), (rw_.map (·.l))[i]? = some l → ∃ r, rw_[i]? = some r ∧ r.l = l := fun i l hi => by
    rw [List.getElem?_map, Option.map_eq_some_iff] at hi; exact hi
  have gc_ : ∀ (i : Nat) (l : List Int), (rc.map (·.l))[i]? = some l → ∃ r, rc[i]? = some r ∧ r.l = l := fun i l hi => by
    rw [List.getElem?_map, Option.map_eq_some_iff] at hi; exact hi
  have blk : ∀ (r : IR) (b : Nat), r.ok n → r.blk (Part.lay p gs cs gw cw gc cc gl cl rs yw yc yl rw_ rc rl) = some b → (r = .s ∧ b = gs) ∨ (∃ i x, r = .w i ∧ rw_[i]? = some x ∧ b = x.g) ∨ (∃ i x, r = .c i ∧ rc[i]? = some x ∧ b = x.g) := fun r b hr hb => by
    cases r with
    | s => injection hb with hb; exact .inl ⟨rfl, hb.symm⟩
    | w i =>
      have hi : i < rw_.length := by rw [hw]; exact hr
      injection hb with hb
      have hg : rw_.getD i ⟨0, 0, [], []⟩ = rw_[i] := by rw [List.getD_eq_getElem?_getD, List.getElem?_eq_getElem hi]; rfl
      exact .inr (.inl ⟨i, rw_[i], rfl, List.getElem?_eq_getElem hi, by rw [← hg]; exact hb.symm⟩)
    | c i =>
      have hi : i < rc.length := by rw [hc]; exact hr
      injection hb with hb
      have hg : rc.getD i ⟨0, 0, [], []⟩ = rc[i] := by rw [List.getD_eq_getElem?_getD, List.getElem?_eq_getElem hi]; rfl
      exact .inr (.inr ⟨i, rc[i], rfl, List.getElem?_eq_getElem hi, by rw [← hg]; exact hb.symm⟩)
    | q j => simp [IR.blk, Part.lay, Value.ownBlock] at hb
  refine ⟨Part.lay p gs cs gw cw gc cc gl cl rs yw yc yl rw_ rc rl, {
    nst := h.nst
    nwt := by simp [beginS, hw]
    nct := by simp [beginS, hw]
    nls := by simp [beginS]
    main := by
      have := h.main
      rw [e1, e2, e3] at this
      exact this
    sts := h.sts
    wtab := by
      rw [tab_rows hw] at w3
      exact w3
    wrow := fun i l hi => by
      obtain ⟨r, hr, rfl⟩ := gw_ i l hi
      have hg : rw_.getD i ⟨0, 0, [], []⟩ = r := by rw [List.getD_eq_getElem?_getD, hr]; rfl
      show Row1 _ W (rw_.getD i ⟨0, 0, [], []⟩).g _ r.l (rw_.getD i ⟨0, 0, [], []⟩).rest
      rw [hg]
      exact (h.wrow r (List.mem_of_getElem? hr)).1
    ctab := by
      rw [tab_rows hc, hct] at c3
      exact c3
    crow := fun i l hi => by
      have hi2 : (rc.map (·.l))[i]? = some l := by rw [hct]; exact hi
      obtain ⟨r, hr, rfl⟩ := gc_ i l hi2
      have hg : rc.getD i ⟨0, 0, [], []⟩ = r := by rw [List.getD_eq_getElem?_getD, hr]; rfl
      show Row1 _ W (rc.getD i ⟨0, 0, [], []⟩).g _ r.l (rc.getD i ⟨0, 0, [], []⟩).rest
      rw [hg]
      exact (h.crow r (List.mem_of_getElem? hr)).1
    ltab := by
      have e : rl.map ptV = (List.range (n * n)).map fun j => Value.pointer (some ⟨rl.getD j 0, 0, none⟩) := by
        apply List.ext_getElem?
        intro i
        rw [List.getElem?_map, List.getElem?_map]
        by_cases hi : i < n * n
        · rw [List.getElem?_range hi, List.getElem?_eq_getElem (by omega)]
          have hl2 : i < rl.length := by omega
          simp [ptV, hl2]
        · rw [List.getElem?_eq_none (by omega), List.getElem?_eq_none (by simp; omega)]
          rfl
      rw [e] at l3
      exact l3
    lin := fun j l hj => by
      simp only [beginS, List.getElem?_replicate] at hj
      split at hj
      · rename_i hjn
        injection hj with hj
        subst hj
        have hjl : j < rl.length := by omega
        have hg : rl.getD j 0 = rl[j] := by rw [List.getD_eq_getElem?_getD, List.getElem?_eq_getElem hjl]; rfl
        show Box W (rl.getD j 0) _ _
        rw [hg]
        exact (h.lin j _ (List.getElem?_eq_getElem hjl)).1
      · cases hj
    lett := fun j l hj => by
      simp only [beginS, List.getElem?_replicate] at hj
      split at hj
      · injection hj with hj
        subst hj
        exact OwnN.nil
      · cases hj
    fly := OwnS.nil _ _ _ _ _ _
    apart := fun r r' b hr hr' hb hb' => by
      rcases blk r b hr hb with ⟨rfl, h1⟩ | ⟨i, x, rfl, h2, h1⟩ | ⟨i, x, rfl, h2, h1⟩ <;> rcases blk r' b hr' hb' with ⟨rfl, k1⟩ | ⟨j, y, rfl, k2, k1⟩ | ⟨j, y, rfl, k2, k1⟩
      · rfl
      · exact absurd (k1.symm.trans h1) (h.wrow y (List.mem_of_getElem? k2)).2.2.2
      · exact absurd (k1.symm.trans h1) (h.crow y (List.mem_of_getElem? k2)).2.2.2
      · exact absurd (h1.symm.trans k1) (h.wrow x (List.mem_of_getElem? h2)).2.2.2
      · rw [h.dw i j x y h2 k2 (h1.symm.trans k1)]
      · exact absurd (h1.symm.trans k1) (h.dwc x (List.mem_of_getElem? h2) y (List.mem_of_getElem? k2))
      · exact absurd (h1.symm.trans k1) (h.crow x (List.mem_of_getElem? h2)).2.2.2
      · exact absurd (k1.symm.trans h1) (h.dwc y (List.mem_of_getElem? k2) x (List.mem_of_getElem? h2))
      · rw [h.dc i j x y h2 k2 (h1.symm.trans k1)]
    lap := fun i j hi hj e => by
      have hi2 : i < rl.length := by omega
      have hj2 : j < rl.length := by omega
      have e1 : rl.getD i 0 = rl[i] := by rw [List.getD_eq_getElem?_getD, List.getElem?_eq_getElem hi2]; rfl
      have e2 : rl.getD j 0 = rl[j] := by rw [List.getD_eq_getElem?_getD, List.getElem?_eq_getElem hj2]; rfl
      have e3 : rl[i] = rl[j] := by rw [← e1, ← e2]; exact e
      exact h.dl i j rl[i] (List.getElem?_eq_getElem hi2) (by rw [e3]; exact List.getElem?_eq_getElem hj2)
    tabs := fun e => h.tabs gw (by rw [e1]; rfl) (by rw [e2]; show some gc = some gw; rw [show gw = gc from e])
    low := ⟨h.low.1, h.low.2.1, w1, c1, l1⟩
    lowi := fun r b hr hb => by
      rcases blk r b hr hb with ⟨rfl, h1⟩ | ⟨i, x, rfl, h2, h1⟩ | ⟨i, x, rfl, h2, h1⟩
      · rw [h1]; exact h.low.2.1
      · rw [h1]; exact (h.wrow x (List.mem_of_getElem? h2)).2.1
      · rw [h1]; exact (h.crow x (List.mem_of_getElem? h2)).2.1
    lowl := fun j hj => by
      have hj2 : j < rl.length := by omega
      have e2 : rl.getD j 0 = rl[j] := by rw [List.getD_eq_getElem?_getD, List.getElem?_eq_getElem hj2]; rfl
      show B ≤ rl.getD j 0
      rw [e2]
      exact (h.lin j _ (List.getElem?_eq_getElem hj2)).2 }, {
    cs := h.low.2.2
    cw := w2
    cc := c2
    kw := fun i l hi => by
      obtain ⟨r, hr, rfl⟩ := gw_ i l hi
      have hg : rw_.getD i ⟨0, 0, [], []⟩ = r := by rw [List.getD_eq_getElem?_getD, hr]; rfl
      show _ ≤ (rw_.getD i ⟨0, 0, [], []⟩).c
      rw [hg]
      exact (h.wrow r (List.mem_of_getElem? hr)).2.2.1
    kc := fun i l hi => by
      obtain ⟨r, hr, rfl⟩ := gc_ i l hi
      have hg : rc.getD i ⟨0, 0, [], []⟩ = r := by rw [List.getD_eq_getElem?_getD, hr]; rfl
      show _ ≤ (rc.getD i ⟨0, 0, [], []⟩).c
      rw [hg]
      exact (h.crow r (List.mem_of_getElem? hr)).2.2.1 }, rfl⟩
end

end Go.Proofs.Ytnigfddanoaonaa

namespace Go.Proofs.Ytnigfddanoaonaa
open Go.RowKit

def ruleAt (rs : List (List Rul)) (s a : Int) : Rul := (rs.getD s.toNat []).getD a.toNat ⟨0, []⟩
def readSpec (rs : List (List Rul)) : Int → List Int → Int × List Out
  | s, [] => (s, [])
  | s, a :: r => ((readSpec rs (ruleAt rs s a).next r).1, (ruleAt rs s a).sent ++ (readSpec rs (ruleAt rs s a).next r).2)

theorem sentErr_zero {N : Int} : ∀ {l : List Out}, sentErr N l = 0 → ∀ o ∈ l, (0 ≤ o.dst ∧ o.dst < N) ∧ 0 ≤ o.letter ∧ o.letter < 8
  | [], _, o, ho => by cases ho
  | x :: r, h, o, ho => by
    unfold sentErr at h
    split at h
    · rename_i hx
      simp [belowB] at hx
      rcases List.mem_cons.1 ho with rfl | ho
      · exact ⟨hx.1, hx.2⟩
      · exact sentErr_zero h o ho
    · cases h
theorem ruleErr_zero {S N : Int} {r : Rul} (h : ruleErr S N r = 0) : (0 ≤ r.next ∧ r.next < S) ∧ r.sent.length ≤ 16 ∧ ∀ o ∈ r.sent, (0 ≤ o.dst ∧ o.dst < N) ∧ 0 ≤ o.letter ∧ o.letter < 8 := by
  unfold ruleErr at h
  split at h
  · rename_i hx
    split at h
    · simp [belowB] at hx
      exact ⟨hx, by assumption, sentErr_zero h⟩
    · cases h
  · cases h
theorem rowErr_zero {S N : Int} : ∀ {l : List Rul}, rowErr S N l = 0 → ∀ r ∈ l, ruleErr S N r = 0
  | [], _, o, ho => by cases ho
  | x :: r, h, o, ho => by
    unfold rowErr at h
    split at h
    · rcases List.mem_cons.1 ho with rfl | ho
      · assumption
      · exact rowErr_zero h o ho
    · rename_i hx; exact absurd h hx
theorem rowsErr_zero {S L N : Int} : ∀ {l : List (List Rul)}, rowsErr S L N l = 0 → ∀ r ∈ l, (r.length : Int) = L ∧ rowErr S N r = 0
  | [], _, o, ho => by cases ho
  | x :: r, h, o, ho => by
    unfold rowsErr at h
    split at h
    · split at h
      · rcases List.mem_cons.1 ho with rfl | ho
        · exact ⟨by assumption, by assumption⟩
        · exact rowsErr_zero h o ho
      · rename_i hx; exact absurd h hx
    · cases h
theorem check_zero {p : Prc} {N : Int} (h : checkErr p N = 0) : (1 ≤ N ∧ N ≤ 12) ∧ (1 ≤ p.states ∧ p.states ≤ 16) ∧ (1 ≤ p.letters ∧ p.letters ≤ 8) ∧ (p.rules.length : Int) = p.states ∧ rowsErr p.states p.letters N p.rules = 0 := by
  unfold checkErr at h
  split at h
  · cases h
  split at h
  · cases h
  split at h
  · cases h
  · exact ⟨by omega, by omega, by omega, by omega, h⟩
theorem valid_row {p : Prc} {N : Int} (h : checkErr p N = 0) {i : Nat} {row : List Rul} (hi : p.rules[i]? = some row) : (row.length : Int) = p.letters :=
  (rowsErr_zero (check_zero h).2.2.2.2 row (List.mem_of_getElem? hi)).1
theorem valid_rule {p : Prc} {N : Int} (h : checkErr p N = 0) {i j : Nat} {row : List Rul} {r : Rul} (hi : p.rules[i]? = some row) (hj : row[j]? = some r) :
    (0 ≤ r.next ∧ r.next < p.states) ∧ r.sent.length ≤ 16 ∧ ∀ o ∈ r.sent, (0 ≤ o.dst ∧ o.dst < N) ∧ 0 ≤ o.letter ∧ o.letter < 8 :=
  ruleErr_zero (rowErr_zero (rowsErr_zero (check_zero h).2.2.2.2 row (List.mem_of_getElem? hi)).2 r (List.mem_of_getElem? hj))
theorem letters_zero {L : Int} : ∀ {l : List Int}, lettersErr L l = 0 → ∀ a ∈ l, 0 ≤ a ∧ a < L
  | [], _, o, ho => by cases ho
  | x :: r, h, o, ho => by
    unfold lettersErr at h
    split at h
    · rename_i hx
      simp [belowB] at hx
      rcases List.mem_cons.1 ho with rfl | ho
      · exact hx
      · exact letters_zero h o ho
    · cases h
theorem letters_at {L : Int} {l : List Int} (h : lettersErr L l = 0) {i : Nat} {a : Int} (hi : l[i]? = some a) : 0 ≤ a ∧ a < L := letters_zero h a (List.mem_of_getElem? hi)
theorem ruleAt_eq {rs : List (List Rul)} {s a : Nat} {row : List Rul} {r : Rul} (hi : rs[s]? = some row) (hj : row[a]? = some r) : ruleAt rs (s : Int) (a : Int) = r := by
  simp [ruleAt, hi, hj]
/-- One letter more has been read. -/
theorem read_step {rs : List (List Rul)} {s0 : Int} {word : List Int} {s a k : Nat} {out : List Out} {row : List Rul} {nx : Int} {st : List Out}
    (he : readSpec rs s0 word = ((readSpec rs (s : Int) (word.drop k)).1, out ++ (readSpec rs (s : Int) (word.drop k)).2)) (hd : word.drop k = (a : Int) :: word.drop (k + 1))
    (hi : rs[s]? = some row) (hj : row[a]? = some ⟨nx, st⟩) : readSpec rs s0 word = ((readSpec rs nx (word.drop (k + 1))).1, (out ++ st) ++ (readSpec rs nx (word.drop (k + 1))).2) := by
  rw [he, hd, readSpec, ruleAt_eq hi hj, List.append_assoc]
theorem read_end {rs : List (List Rul)} {s0 : Int} {word : List Int} {s k : Nat} {out : List Out}
    (he : readSpec rs s0 word = ((readSpec rs (s : Int) (word.drop k)).1, out ++ (readSpec rs (s : Int) (word.drop k)).2)) (hk : word.length ≤ k) : readSpec rs s0 word = ((s : Int), out) := by
  rw [he, List.drop_eq_nil_of_le hk]
  simp [readSpec]

end Go.Proofs.Ytnigfddanoaonaa

set_option linter.unusedVariables false
set_option linter.unusedSimpArgs false
set_option linter.unnecessarySimpa false
namespace Go.Proofs.Ytnigfddanoaonaa
open Go.RowKit

/-- An empty slice that the call has just made owns nothing. -/
theorem OwnS.fresh {α : Type} (R : Rep α) (sz : Nat) (e : TypeId) (F : Foot) (w : World) : OwnS R sz w.heap.size e F (w.alloc (.cells #[] e)) (.slice (some ⟨w.heap.size, 0, none⟩) 0 0) [] :=
  ⟨[], World.ownsRow_made w #[] 0 (Nat.le_refl _) (by unfold maxLen; omega) (by simp), by simp, by simp⟩

theorem clInfoI : (Try.prog.info? 3).map (fun i => (i.zero, i.size, i.bytes)) = some (some (.int .i64 0), 1, 8) := by kernel_rfl
set_option maxHeartbeats 400000 in
theorem cloneIW_any (l : List Int) (oa : Option Addr) (c : Nat) (F : Foot) (w : World) (hs : SliceR intR 1 F w oa l) (hc : l.length ≤ c) (hc2 : l.length ≤ 1000000000000) :
    Calls Try.prog 42 #[.slice oa l.length c] w fun e w' => ∃ v, e = .returned v ∧ OwnS intR 1 w.heap.size 3 (fun k => F k ∧ k < w.heap.size) w' v l ∧ Below w.heap.size w w' := by
  cases oa with
  | none =>
    have hl : l = [] := by
      cases l with
      | nil => rfl
      | cons x r => obtain ⟨b, off, cs, h, _⟩ := hs 0 x rfl; cases h
    subst hl
    have hq : ∀ w : World, (binOp .eql 23 (.slice none 0 c) (.slice none 0 0)).run Try.prog w = .ok (.bool true) w := fun w => Lib.run_eql_slice_nil w _ 3 none 0 c 0 0 Try.underlying23
    go_enter Try.func42, Try.ntmps42
    go_wp2_with fail
    go_ret
    exact ⟨_, rfl, OwnS.nil _ _ _ _ _ _, Below.refl _ _⟩
  | some ad =>
    have hq : ∀ w : World, (binOp .eql 23 (.slice (some ad) l.length c) (.slice none 0 0)).run Try.prog w = .ok (.bool false) w := fun w => Lib.run_eql_slice_nil w _ 3 (some ad) l.length c 0 0 Try.underlying23
    go_enter Try.func42, Try.ntmps42
    go_wp2_with (at_builtin; refine wpList_append_rep rfl (.tmp 5) (.tmp 6) 23 rfl w.heap.size 3 _ 1 8 Try.underlying23 clInfoI rfl (by decide) intR_ok (fun k => F k ∧ k < w.heap.size) (fun k => F k ∧ k < w.heap.size) (.slice (some ⟨w.heap.size, 0, none⟩) 0 0) [] rfl (OwnS.fresh _ _ _ _ _) (some ad) c l rfl ((hs.wide intR_ok (by omega) (fun k h1 h2 => ⟨h1, h2⟩)).below intR_ok (bnew (Below.refl _ _) _)) (fun _ _ h => h) (fun _ h => h.2) (by simp; omega) (by simp; omega) (by simp) ?_; intro v' w1 ho hb1 hg)
    go_ret
    exact ⟨_, rfl, by simpa using ho, (bnew (Below.refl _ _) _).trans hb1⟩

theorem clInfoP : (Try.prog.info? 53).map (fun i => (i.zero, i.size, i.bytes)) = some (some (.agg #[.int .i64 0, .int .i64 0, .slice none 0 0]), 3, 40) := by kernel_rfl
set_option maxHeartbeats 400000 in
theorem cloneP_any (l : List Prc) (oa : Option Addr) (c : Nat) (F : Foot) (w : World) (hs : SliceR prcR 3 F w oa l) (hc : l.length ≤ c) (hc2 : l.length ≤ 1000000000000) :
    Calls Try.prog 66 #[.slice oa l.length c] w fun e w' => ∃ v, e = .returned v ∧ OwnS prcR 3 w.heap.size 53 (fun k => F k ∧ k < w.heap.size) w' v l ∧ Below w.heap.size w w' := by
  cases oa with
  | none =>
    have hl : l = [] := by
      cases l with
      | nil => rfl
      | cons x r => obtain ⟨b, off, cs, h, _⟩ := hs 0 x rfl; cases h
    subst hl
    have hq : ∀ w : World, (binOp .eql 22 (.slice none 0 c) (.slice none 0 0)).run Try.prog w = .ok (.bool true) w := fun w => Lib.run_eql_slice_nil w _ 53 none 0 c 0 0 Try.underlying22
    go_enter Try.func66, Try.ntmps66
    go_wp2_with fail
    go_ret
    exact ⟨_, rfl, OwnS.nil _ _ _ _ _ _, Below.refl _ _⟩
  | some ad =>
    have hq : ∀ w : World, (binOp .eql 22 (.slice (some ad) l.length c) (.slice none 0 0)).run Try.prog w = .ok (.bool false) w := fun w => Lib.run_eql_slice_nil w _ 53 (some ad) l.length c 0 0 Try.underlying22
    go_enter Try.func66, Try.ntmps66
    go_wp2_with (at_builtin; refine wpList_append_rep rfl (.tmp 5) (.tmp 6) 22 rfl w.heap.size 53 _ 3 40 Try.underlying22 clInfoP rfl (by decide) prcR_ok (fun k => F k ∧ k < w.heap.size) (fun k => F k ∧ k < w.heap.size) (.slice (some ⟨w.heap.size, 0, none⟩) 0 0) [] rfl (OwnS.fresh _ _ _ _ _) (some ad) c l rfl ((hs.wide prcR_ok (by omega) (fun k h1 h2 => ⟨h1, h2⟩)).below prcR_ok (bnew (Below.refl _ _) _)) (fun _ _ h => h) (fun _ h => h.2) (by simp; omega) (by simp; omega) (by simp) ?_; intro v' w1 ho hb1 hg)
    go_ret
    exact ⟨_, rfl, by simpa using ho, (bnew (Below.refl _ _) _).trans hb1⟩

theorem clInfoT : (Try.prog.info? 79).map (fun i => (i.zero, i.size, i.bytes)) = some (some (.slice none 0 0), 1, 24) := by kernel_rfl
set_option maxHeartbeats 400000 in
theorem cloneT_any (l : List (List Rul)) (oa : Option Addr) (c : Nat) (F : Foot) (w : World) (hs : SliceR (slcR ruleR 2) 1 F w oa l) (hc : l.length ≤ c) (hc2 : l.length ≤ 1000000000000) :
    Calls Try.prog 67 #[.slice oa l.length c] w fun e w' => ∃ v, e = .returned v ∧ OwnS (slcR ruleR 2) 1 w.heap.size 79 (fun k => F k ∧ k < w.heap.size) w' v l ∧ Below w.heap.size w w' := by
  cases oa with
  | none =>
    have hl : l = [] := by
      cases l with
      | nil => rfl
      | cons x r => obtain ⟨b, off, cs, h, _⟩ := hs 0 x rfl; cases h
    subst hl
    have hq : ∀ w : World, (binOp .eql 51 (.slice none 0 c) (.slice none 0 0)).run Try.prog w = .ok (.bool true) w := fun w => Lib.run_eql_slice_nil w _ 79 none 0 c 0 0 Try.underlying51
    go_enter Try.func67, Try.ntmps67
    go_wp2_with fail
    go_ret
    exact ⟨_, rfl, OwnS.nil _ _ _ _ _ _, Below.refl _ _⟩
  | some ad =>
    have hq : ∀ w : World, (binOp .eql 51 (.slice (some ad) l.length c) (.slice none 0 0)).run Try.prog w = .ok (.bool false) w := fun w => Lib.run_eql_slice_nil w _ 79 (some ad) l.length c 0 0 Try.underlying51
    go_enter Try.func67, Try.ntmps67
    go_wp2_with (at_builtin; refine wpList_append_rep rfl (.tmp 5) (.tmp 6) 51 rfl w.heap.size 79 _ 1 24 Try.underlying51 clInfoT rfl (by decide) rowR_ok (fun k => F k ∧ k < w.heap.size) (fun k => F k ∧ k < w.heap.size) (.slice (some ⟨w.heap.size, 0, none⟩) 0 0) [] rfl (OwnS.fresh _ _ _ _ _) (some ad) c l rfl ((hs.wide rowR_ok (by omega) (fun k h1 h2 => ⟨h1, h2⟩)).below rowR_ok (bnew (Below.refl _ _) _)) (fun _ _ h => h) (fun _ h => h.2) (by simp; omega) (by simp; omega) (by simp) ?_; intro v' w1 ho hb1 hg)
    go_ret
    exact ⟨_, rfl, by simpa using ho, (bnew (Below.refl _ _) _).trans hb1⟩

theorem clInfoR : (Try.prog.info? 78).map (fun i => (i.zero, i.size, i.bytes)) = some (some (.agg #[.int .i64 0, .slice none 0 0]), 2, 32) := by kernel_rfl
set_option maxHeartbeats 400000 in
theorem cloneR_any (l : List Rul) (oa : Option Addr) (c : Nat) (F : Foot) (w : World) (hs : SliceR ruleR 2 F w oa l) (hc : l.length ≤ c) (hc2 : l.length ≤ 1000000000000) :
    Calls Try.prog 68 #[.slice oa l.length c] w fun e w' => ∃ v, e = .returned v ∧ OwnS ruleR 2 w.heap.size 78 (fun k => F k ∧ k < w.heap.size) w' v l ∧ Below w.heap.size w w' := by
  cases oa with
  | none =>
    have hl : l = [] := by
      cases l with
      | nil => rfl
      | cons x r => obtain ⟨b, off, cs, h, _⟩ := hs 0 x rfl; cases h
    subst hl
    have hq : ∀ w : World, (binOp .eql 79 (.slice none 0 c) (.slice none 0 0)).run Try.prog w = .ok (.bool true) w := fun w => Lib.run_eql_slice_nil w _ 78 none 0 c 0 0 Try.underlying79
    go_enter Try.func68, Try.ntmps68
    go_wp2_with fail
    go_ret
    exact ⟨_, rfl, OwnS.nil _ _ _ _ _ _, Below.refl _ _⟩
  | some ad =>
    have hq : ∀ w : World, (binOp .eql 79 (.slice (some ad) l.length c) (.slice none 0 0)).run Try.prog w = .ok (.bool false) w := fun w => Lib.run_eql_slice_nil w _ 78 (some ad) l.length c 0 0 Try.underlying79
    go_enter Try.func68, Try.ntmps68
    go_wp2_with (at_builtin; refine wpList_append_rep rfl (.tmp 5) (.tmp 6) 79 rfl w.heap.size 78 _ 2 32 Try.underlying79 clInfoR rfl (by decide) ruleR_ok (fun k => F k ∧ k < w.heap.size) (fun k => F k ∧ k < w.heap.size) (.slice (some ⟨w.heap.size, 0, none⟩) 0 0) [] rfl (OwnS.fresh _ _ _ _ _) (some ad) c l rfl ((hs.wide ruleR_ok (by omega) (fun k h1 h2 => ⟨h1, h2⟩)).below ruleR_ok (bnew (Below.refl _ _) _)) (fun _ _ h => h) (fun _ h => h.2) (by simp; omega) (by simp; omega) (by simp) ?_; intro v' w1 ho hb1 hg)
    go_ret
    exact ⟨_, rfl, by simpa using ho, (bnew (Below.refl _ _) _).trans hb1⟩

theorem clInfoO : (Try.prog.info? 75).map (fun i => (i.zero, i.size, i.bytes)) = some (some (.agg #[.int .i64 0, .int .i64 0]), 2, 16) := by kernel_rfl
set_option maxHeartbeats 400000 in
theorem cloneO_any (l : List Out) (oa : Option Addr) (c : Nat) (F : Foot) (w : World) (hs : SliceR outR 2 F w oa l) (hc : l.length ≤ c) (hc2 : l.length ≤ 1000000000000) :
    Calls Try.prog 57 #[.slice oa l.length c] w fun e w' => ∃ v, e = .returned v ∧ OwnS outR 2 w.heap.size 75 (fun k => F k ∧ k < w.heap.size) w' v l ∧ Below w.heap.size w w' := by
  cases oa with
  | none =>
    have hl : l = [] := by
      cases l with
      | nil => rfl
      | cons x r => obtain ⟨b, off, cs, h, _⟩ := hs 0 x rfl; cases h
    subst hl
    have hq : ∀ w : World, (binOp .eql 76 (.slice none 0 c) (.slice none 0 0)).run Try.prog w = .ok (.bool true) w := fun w => Lib.run_eql_slice_nil w _ 75 none 0 c 0 0 Try.underlying76
    go_enter Try.func57, Try.ntmps57
    go_wp2_with fail
    go_ret
    exact ⟨_, rfl, OwnS.nil _ _ _ _ _ _, Below.refl _ _⟩
  | some ad =>
    have hq : ∀ w : World, (binOp .eql 76 (.slice (some ad) l.length c) (.slice none 0 0)).run Try.prog w = .ok (.bool false) w := fun w => Lib.run_eql_slice_nil w _ 75 (some ad) l.length c 0 0 Try.underlying76
    go_enter Try.func57, Try.ntmps57
    go_wp2_with (at_builtin; refine wpList_append_rep rfl (.tmp 5) (.tmp 6) 76 rfl w.heap.size 75 _ 2 16 Try.underlying76 clInfoO rfl (by decide) outR_ok (fun k => F k ∧ k < w.heap.size) (fun k => F k ∧ k < w.heap.size) (.slice (some ⟨w.heap.size, 0, none⟩) 0 0) [] rfl (OwnS.fresh _ _ _ _ _) (some ad) c l rfl ((hs.wide outR_ok (by omega) (fun k h1 h2 => ⟨h1, h2⟩)).below outR_ok (bnew (Below.refl _ _) _)) (fun _ _ h => h) (fun _ h => h.2) (by simp; omega) (by simp; omega) (by simp) ?_; intro v' w1 ho hb1 hg)
    go_ret
    exact ⟨_, rfl, by simpa using ho, (bnew (Below.refl _ _) _).trans hb1⟩

end Go.Proofs.Ytnigfddanoaonaa

set_option linter.unusedVariables false
set_option linter.unusedSimpArgs false
set_option linter.unnecessarySimpa false
namespace Go.Proofs.Ytnigfddanoaonaa
open Go.RowKit

def idxI : Option Nat → Int
  | some k => k
  | none => -1
theorem findIdx_at {α : Type} {q : α → Bool} {l : List α} {k : Nat} {x : α} (h : ∀ m y, m < k → l[m]? = some y → q y = false) (hx : l[k]? = some x) (hq : q x = true) : l.findIdx? q = some k := by
  obtain ⟨hk, hxx⟩ := List.getElem?_eq_some_iff.1 hx
  rw [List.findIdx?_eq_some_iff_getElem]
  refine ⟨hk, by rw [hxx]; exact hq, fun j hj => ?_⟩
  have := h j _ hj (List.getElem?_eq_getElem (by omega))
  simp [this]
theorem findIdx_no {α : Type} {q : α → Bool} {l : List α} {k : Nat} (h : ∀ m y, m < k → l[m]? = some y → q y = false) (hk : l.length ≤ k) : l.findIdx? q = none := by
  rw [List.findIdx?_eq_none_iff]
  intro x hx
  obtain ⟨j, hj, rfl⟩ := List.mem_iff_getElem.1 hx
  exact h j _ (by omega) (List.getElem?_eq_getElem hj)
theorem idx_more {α : Type} {q : α → Bool} {l : List α} {k : Nat} {x : α} (h : ∀ m y, m < k → l[m]? = some y → q y = false) (hx : l[k]? = some x) (hq : q x = false) : ∀ m y, m < k + 1 → l[m]? = some y → q y = false := by
  intro m y hm hy
  by_cases e : m = k
  · subst e
    rw [hx] at hy
    injection hy with hy
    rw [← hy]; exact hq
  · exact h m y (by omega) hy
theorem idx_any {α : Type} {q : α → Bool} {l : List α} : decide (0 ≤ idxI (l.findIdx? q)) = l.any q := by
  rcases h : l.findIdx? q with _ | k
  · rw [List.findIdx?_eq_none_iff] at h
    have h1 : l.any q = false := by
      rw [List.any_eq_false]
      intro x hx
      simp [h x hx]
    rw [h1]
    rfl
  · rw [List.findIdx?_eq_some_iff_getElem] at h
    obtain ⟨hk, h2, _⟩ := h
    have h1 : l.any q = true := by
      rw [List.any_eq_true]
      exact ⟨_, List.getElem_mem hk, h2⟩
    rw [h1]
    exact decide_eq_true (show (0 : Int) ≤ idxI (some k) from Int.natCast_nonneg k)
theorem fnPos (x : Int) (w : World) : Calls Try.prog 64 #[.int .i64 x] w fun e w' => e = .returned (.bool (decide (0 < x))) ∧ w = w' := by
  go_enter Try.func64, Try.ntmps64
  go_wp2_with fail
  go_ret
  exact ⟨ret_bool (by simp), rfl⟩
theorem idxPos (l : List Int) (oa : Option Addr) (c : Nat) (F : Foot) (w : World) (hs : SliceR intR 1 F w oa l) (hc2 : l.length ≤ 9223372036854775807) :
    Calls Try.prog 63 #[.slice oa l.length c, .func (.func 64) #[] #[]] w fun e w' => e = .returned (.int .i64 (idxI (l.findIdx? fun x => decide (0 < x)))) ∧ w = w' := by
  go_enter Try.func63, Try.ntmps63
  go_wp2_with fail
  go_loop [8] (fun i => ∃ k : Nat, k ≤ l.length ∧ i = .int .i64 k ∧ Hid (∀ m x, m < k → l[m]? = some x → (decide (0 < x)) = false)) (fun i => l.length - (intOf i).toNat)
  case atStart => exact ⟨0, by omega, rfl, fun m x hm _ => absurd hm (Nat.not_lt_zero m)⟩
  case round =>
    obtain ⟨k, hk, rfl, HE⟩ := hrel
    by_cases hlt : k < l.length
    · obtain ⟨x, hd, hxx, _, b, off, rfl, _, c0⟩ := hs.int_at hlt
      have HX := hide hxx
      clear hd hs hxx
      obtain ⟨q, hq⟩ : ∃ q : Bool, q = (decide (0 < x)) := ⟨_, rfl⟩
      have HQ := hide hq
      cases q
      · clear hq
        go_wp2_with (go_at_call 64; refine (fnPos _ _).mono ?_; rintro e w' ⟨rfl, rfl⟩; rw [← HQ.out])
        go_round
        case rel => exact ⟨k + 1, by omega, by go_num, idx_more HE.out HX.out HQ.out.symm⟩
        case measure => simp [intOf]; omega
      · clear hq
        go_wp2_with (go_at_call 64; refine (fnPos _ _).mono ?_; rintro e w' ⟨rfl, rfl⟩; rw [← HQ.out])
        go_ret
        exact ⟨by rw [findIdx_at HE.out HX.out HQ.out.symm]; rfl, rfl⟩
    · go_wp2_with fail
      go_ret
      exact ⟨by rw [findIdx_no HE.out (by omega)]; rfl, rfl⟩

theorem fnNz (x : Int) (w : World) : Calls Try.prog 52 #[.int .i64 x] w fun e w' => e = .returned (.bool (x != 0)) ∧ w = w' := by
  go_enter Try.func52, Try.ntmps52
  go_wp2_with fail
  go_ret
  exact ⟨ret_bool (by simp), rfl⟩
theorem idxNz (l : List Int) (oa : Option Addr) (c : Nat) (F : Foot) (w : World) (hs : SliceR intR 1 F w oa l) (hc2 : l.length ≤ 9223372036854775807) :
    Calls Try.prog 63 #[.slice oa l.length c, .func (.func 52) #[] #[]] w fun e w' => e = .returned (.int .i64 (idxI (l.findIdx? fun x => x != 0))) ∧ w = w' := by
  go_enter Try.func63, Try.ntmps63
  go_wp2_with fail
  go_loop [8] (fun i => ∃ k : Nat, k ≤ l.length ∧ i = .int .i64 k ∧ Hid (∀ m x, m < k → l[m]? = some x → (x != 0) = false)) (fun i => l.length - (intOf i).toNat)
  case atStart => exact ⟨0, by omega, rfl, fun m x hm _ => absurd hm (Nat.not_lt_zero m)⟩
  case round =>
    obtain ⟨k, hk, rfl, HE⟩ := hrel
    by_cases hlt : k < l.length
    · obtain ⟨x, hd, hxx, _, b, off, rfl, _, c0⟩ := hs.int_at hlt
      have HX := hide hxx
      clear hd hs hxx
      obtain ⟨q, hq⟩ : ∃ q : Bool, q = (x != 0) := ⟨_, rfl⟩
      have HQ := hide hq
      cases q
      · clear hq
        go_wp2_with (go_at_call 52; refine (fnNz _ _).mono ?_; rintro e w' ⟨rfl, rfl⟩; rw [← HQ.out])
        go_round
        case rel => exact ⟨k + 1, by omega, by go_num, idx_more HE.out HX.out HQ.out.symm⟩
        case measure => simp [intOf]; omega
      · clear hq
        go_wp2_with (go_at_call 52; refine (fnNz _ _).mono ?_; rintro e w' ⟨rfl, rfl⟩; rw [← HQ.out])
        go_ret
        exact ⟨by rw [findIdx_at HE.out HX.out HQ.out.symm]; rfl, rfl⟩
    · go_wp2_with fail
      go_ret
      exact ⟨by rw [findIdx_no HE.out (by omega)]; rfl, rfl⟩
theorem hasNz (l : List Int) (oa : Option Addr) (c : Nat) (F : Foot) (w : World) (hs : SliceR intR 1 F w oa l) (hc2 : l.length ≤ 9223372036854775807) :
    Calls Try.prog 51 #[.slice oa l.length c, .func (.func 52) #[] #[]] w fun e w' => e = .returned (.bool (l.any fun x => x != 0)) ∧ w = w' := by
  have ha := @idx_any Int (fun x => x != 0) l
  obtain ⟨r, hr⟩ : ∃ r, r = idxI (l.findIdx? fun x => x != 0) := ⟨_, rfl⟩
  have HI := idxNz l oa c F w hs hc2
  rw [← hr] at ha HI
  clear hr
  go_enter Try.func51, Try.ntmps51
  go_wp2_with fail
  refine HI.mono ?_
  rintro e w' ⟨rfl, rfl⟩
  go_wp2_with fail
  go_ret
  exact ⟨ret_bool (by rw [← ha]), rfl⟩

theorem fnFate (x : Int) (w : World) : Calls Try.prog 60 #[.int .i64 x] w fun e w' => e = .returned (.bool (decide (x < 0) || decide (3 < x))) ∧ w = w' := by
  by_cases h1 : x < 0
  · have h2 : ¬ (0 ≤ x ∧ x ≤ 3) := by omega
    go_enter Try.func60, Try.ntmps60
    go_wp2_with fail
    go_ret
    exact ⟨ret_bool (by simp [h1]), rfl⟩
  · go_enter Try.func60, Try.ntmps60
    go_wp2_with fail
    go_ret
    exact ⟨ret_bool (by simp; omega), rfl⟩
theorem idxFate (l : List Int) (oa : Option Addr) (c : Nat) (F : Foot) (w : World) (hs : SliceR intR 1 F w oa l) (hc2 : l.length ≤ 9223372036854775807) :
    Calls Try.prog 63 #[.slice oa l.length c, .func (.func 60) #[] #[]] w fun e w' => e = .returned (.int .i64 (idxI (l.findIdx? fun x => decide (x < 0) || decide (3 < x)))) ∧ w = w' := by
  go_enter Try.func63, Try.ntmps63
  go_wp2_with fail
  go_loop [8] (fun i => ∃ k : Nat, k ≤ l.length ∧ i = .int .i64 k ∧ Hid (∀ m x, m < k → l[m]? = some x → (decide (x < 0) || decide (3 < x)) = false)) (fun i => l.length - (intOf i).toNat)
  case atStart => exact ⟨0, by omega, rfl, fun m x hm _ => absurd hm (Nat.not_lt_zero m)⟩
  case round =>
    obtain ⟨k, hk, rfl, HE⟩ := hrel
    by_cases hlt : k < l.length
    · obtain ⟨x, hd, hxx, _, b, off, rfl, _, c0⟩ := hs.int_at hlt
      have HX := hide hxx
      clear hd hs hxx
      obtain ⟨q, hq⟩ : ∃ q : Bool, q = (decide (x < 0) || decide (3 < x)) := ⟨_, rfl⟩
      have HQ := hide hq
      cases q
      · clear hq
        go_wp2_with (go_at_call 60; refine (fnFate _ _).mono ?_; rintro e w' ⟨rfl, rfl⟩; rw [← HQ.out])
        go_round
        case rel => exact ⟨k + 1, by omega, by go_num, idx_more HE.out HX.out HQ.out.symm⟩
        case measure => simp [intOf]; omega
      · clear hq
        go_wp2_with (go_at_call 60; refine (fnFate _ _).mono ?_; rintro e w' ⟨rfl, rfl⟩; rw [← HQ.out])
        go_ret
        exact ⟨by rw [findIdx_at HE.out HX.out HQ.out.symm]; rfl, rfl⟩
    · go_wp2_with fail
      go_ret
      exact ⟨by rw [findIdx_no HE.out (by omega)]; rfl, rfl⟩
theorem hasFate (l : List Int) (oa : Option Addr) (c : Nat) (F : Foot) (w : World) (hs : SliceR intR 1 F w oa l) (hc2 : l.length ≤ 9223372036854775807) :
    Calls Try.prog 51 #[.slice oa l.length c, .func (.func 60) #[] #[]] w fun e w' => e = .returned (.bool (l.any fun x => decide (x < 0) || decide (3 < x))) ∧ w = w' := by
  have ha := @idx_any Int (fun x => decide (x < 0) || decide (3 < x)) l
  obtain ⟨r, hr⟩ : ∃ r, r = idxI (l.findIdx? fun x => decide (x < 0) || decide (3 < x)) := ⟨_, rfl⟩
  have HI := idxFate l oa c F w hs hc2
  rw [← hr] at ha HI
  clear hr
  go_enter Try.func51, Try.ntmps51
  go_wp2_with fail
  refine HI.mono ?_
  rintro e w' ⟨rfl, rfl⟩
  go_wp2_with fail
  go_ret
  exact ⟨ret_bool (by rw [← ha]), rfl⟩

end Go.Proofs.Ytnigfddanoaonaa

set_option linter.unusedVariables false
set_option linter.unusedSimpArgs false
set_option linter.unnecessarySimpa false
namespace Go.Proofs.Ytnigfddanoaonaa
open Go.RowKit

def prc0 : Prc := ⟨0, 0, []⟩
/-- All letters are read by those to which they are sent. -/
def outsOk (procs : List Prc) : List Out → Bool
  | [] => true
  | o :: r => if o.letter < (procs.getD o.dst.toNat prc0).letters then outsOk procs r else false
def rulesOk (procs : List Prc) : List Rul → Bool
  | [] => true
  | x :: r => if outsOk procs x.sent = true then rulesOk procs r else false
def rowsOk (procs : List Prc) : List (List Rul) → Bool
  | [] => true
  | x :: r => if rulesOk procs x = true then rowsOk procs r else false
def procsErr (N : Int) : List Prc → Int
  | [] => 0
  | p :: r => if checkErr p N = 0 then procsErr N r else checkErr p N
def procsOk (procs : List Prc) : List Prc → Bool
  | [] => true
  | p :: r => if rowsOk procs p.rules = true then procsOk procs r else false
def statesErr : List Int → List Prc → Int
  | s :: r, p :: l => if belowB s p.states then statesErr r l else 2
  | _, _ => 0
def shapesErr : List (List Int) → List Prc → Int
  | t :: r, p :: l => if (t.length : Int) = p.letters then shapesErr r l else 8
  | _, _ => 0
def numsErr : List Int → Int
  | [] => 0
  | k :: r => if 0 ≤ k ∧ k ≤ 1048576 then numsErr r else 2
def tableErr : List (List Int) → Int
  | [] => 0
  | l :: r => if numsErr l = 0 then tableErr r else numsErr l
def shapedErr (procs : List Prc) (t : List (List Int)) : Int := if t.length = procs.length then shapesErr t procs else 8
def waitsErr (x : Nwk) : Int := if shapedErr x.procs x.waiting = 0 then tableErr x.waiting else shapedErr x.procs x.waiting
def netErr (x : Nwk) : Int :=
  if x.procs.length < 1 ∨ 12 < x.procs.length then 2
  else if procsErr x.procs.length x.procs = 0 then
    if procsOk x.procs x.procs = true then
      if x.state.length = x.procs.length then
        if statesErr x.state x.procs = 0 then waitsErr x else statesErr x.state x.procs
      else 8
    else 6
  else procsErr x.procs.length x.procs

theorem outsOk_all {procs : List Prc} : ∀ {l : List Out}, outsOk procs l = true → ∀ o ∈ l, o.letter < (procs.getD o.dst.toNat prc0).letters
  | [], _, o, ho => by cases ho
  | x :: r, h, o, ho => by
    unfold outsOk at h
    split at h
    · rcases List.mem_cons.1 ho with rfl | ho
      · assumption
      · exact outsOk_all h o ho
    · cases h
theorem rulesOk_all {procs : List Prc} : ∀ {l : List Rul}, rulesOk procs l = true → ∀ o ∈ l, outsOk procs o.sent = true
  | [], _, o, ho => by cases ho
  | x :: r, h, o, ho => by
    unfold rulesOk at h
    split at h
    · rcases List.mem_cons.1 ho with rfl | ho
      · assumption
      · exact rulesOk_all h o ho
    · cases h
theorem rowsOk_all {procs : List Prc} : ∀ {l : List (List Rul)}, rowsOk procs l = true → ∀ o ∈ l, rulesOk procs o = true
  | [], _, o, ho => by cases ho
  | x :: r, h, o, ho => by
    unfold rowsOk at h
    split at h
    · rcases List.mem_cons.1 ho with rfl | ho
      · assumption
      · exact rowsOk_all h o ho
    · cases h
theorem procsErr_zero {N : Int} : ∀ {l : List Prc}, procsErr N l = 0 → ∀ p ∈ l, checkErr p N = 0
  | [], _, o, ho => by cases ho
  | x :: r, h, o, ho => by
    unfold procsErr at h
    split at h
    · rcases List.mem_cons.1 ho with rfl | ho
      · assumption
      · exact procsErr_zero h o ho
    · rename_i hx; exact absurd h hx
theorem procsOk_all {procs : List Prc} : ∀ {l : List Prc}, procsOk procs l = true → ∀ p ∈ l, rowsOk procs p.rules = true
  | [], _, o, ho => by cases ho
  | x :: r, h, o, ho => by
    unfold procsOk at h
    split at h
    · rcases List.mem_cons.1 ho with rfl | ho
      · assumption
      · exact procsOk_all h o ho
    · cases h
theorem statesErr_zero : ∀ {l : List Int} {ps : List Prc}, statesErr l ps = 0 → ∀ (i : Nat) (s : Int) (p : Prc), l[i]? = some s → ps[i]? = some p → 0 ≤ s ∧ s < p.states
  | [], _, _, i, s, p, hs, _ => by simp at hs
  | _ :: _, [], _, i, s, p, _, hp => by simp at hp
  | x :: r, y :: ps, h, i, s, p, hs, hp => by
    unfold statesErr at h
    split at h
    · rename_i hx
      cases i with
      | zero => simp at hs hp; subst hs hp; simpa [belowB] using hx
      | succ i => exact statesErr_zero h i s p (by simpa using hs) (by simpa using hp)
    · cases h
theorem shapesErr_zero : ∀ {l : List (List Int)} {ps : List Prc}, shapesErr l ps = 0 → ∀ (i : Nat) (t : List Int) (p : Prc), l[i]? = some t → ps[i]? = some p → (t.length : Int) = p.letters
  | [], _, _, i, s, p, hs, _ => by simp at hs
  | _ :: _, [], _, i, s, p, _, hp => by simp at hp
  | x :: r, y :: ps, h, i, s, p, hs, hp => by
    unfold shapesErr at h
    split at h
    · rename_i hx
      cases i with
      | zero => simp at hs hp; subst hs hp; exact hx
      | succ i => exact shapesErr_zero h i s p (by simpa using hs) (by simpa using hp)
    · cases h
theorem numsErr_zero : ∀ {l : List Int}, numsErr l = 0 → ∀ k ∈ l, 0 ≤ k ∧ k ≤ 1048576
  | [], _, o, ho => by cases ho
  | x :: r, h, o, ho => by
    unfold numsErr at h
    split at h
    · rcases List.mem_cons.1 ho with rfl | ho
      · assumption
      · exact numsErr_zero h o ho
    · cases h
theorem tableErr_zero : ∀ {l : List (List Int)}, tableErr l = 0 → ∀ k ∈ l, numsErr k = 0
  | [], _, o, ho => by cases ho
  | x :: r, h, o, ho => by
    unfold tableErr at h
    split at h
    · rcases List.mem_cons.1 ho with rfl | ho
      · assumption
      · exact tableErr_zero h o ho
    · rename_i hx; exact absurd h hx

/-- What a right network holds. -/
structure Right (x : Nwk) : Prop where
  n : 1 ≤ x.procs.length ∧ x.procs.length ≤ 12
  proc : ∀ (i : Nat) (p : Prc), x.procs[i]? = some p → checkErr p x.procs.length = 0
  und : ∀ (i : Nat) (p : Prc), x.procs[i]? = some p → rowsOk x.procs p.rules = true
  nst : x.state.length = x.procs.length
  st : ∀ (i : Nat) (s : Int) (p : Prc), x.state[i]? = some s → x.procs[i]? = some p → 0 ≤ s ∧ s < p.states
  nwt : x.waiting.length = x.procs.length
  wl : ∀ (i : Nat) (t : List Int) (p : Prc), x.waiting[i]? = some t → x.procs[i]? = some p → (t.length : Int) = p.letters
  wb : ∀ t ∈ x.waiting, ∀ k ∈ t, 0 ≤ k ∧ k ≤ 1048576
theorem netErr_zero {x : Nwk} (h : netErr x = 0) : Right x := by
  unfold netErr at h
  split at h
  · cases h
  split at h
  · split at h
    · split at h
      · split at h
        · unfold waitsErr at h
          split at h
          · rename_i h1 h2 h3 h4 h5 h6
            unfold shapedErr at h6
            split at h6
            · rename_i h7
              exact ⟨by omega, fun i p hp => procsErr_zero h2 p (List.mem_of_getElem? hp), fun i p hp => procsOk_all h3 p (List.mem_of_getElem? hp), h4, statesErr_zero h5, h7, shapesErr_zero h6, fun t ht => numsErr_zero (tableErr_zero h t ht)⟩
            · cases h6
          · rename_i hx; exact absurd h hx
        · rename_i hx; exact absurd h hx
      · cases h
    · cases h
  · rename_i hx; exact absurd h hx

end Go.Proofs.Ytnigfddanoaonaa

set_option linter.unusedVariables false
namespace Go.Proofs.Ytnigfddanoaonaa
open Go.RowKit

theorem below_any (n b : Int) (w : World) :
    Calls Try.prog 72 #[.int .i64 n, .int .i64 b] w fun e w' => e = .returned (.bool (belowB n b)) ∧ w = w' := by
  go_enter Try.func72, Try.ntmps72
  go_wp2
  all_goals go_ret
  all_goals (refine ⟨ret_bool ?_, rfl⟩; unfold belowB)
  · simp only [decide_eq_true ‹0 ≤ n›, Bool.true_and]
  · rw [decide_eq_false (by omega), Bool.false_and]

set_option maxHeartbeats 400000 in
theorem sent_any (l : List Out) (N : Int) (oa : Option Addr) (c : Nat) (F : Foot) (w : World) (hs : SliceR outR 2 F w oa l) (hc : l.length ≤ c) (hc2 : l.length ≤ 9223372036854775807) :
    Calls Try.prog 73 #[.slice oa l.length c, .int .i64 N] w fun e w' => e = .returned (.int .i64 (sentErr N l)) ∧ Below w.heap.size w w' := by
  go_enter Try.func73, Try.ntmps73
  go_wp2
  go_loopw [9] (fun i wr => ∃ k : Nat, k ≤ l.length ∧ i = .int .i64 k ∧ Hid (sentErr N l = sentErr N (l.drop k)) ∧ Below w.heap.size w wr) (fun i _ => l.length - (intOf i).toNat)
  case atStart => exact ⟨0, by omega, rfl, rfl, Below.refl _ _⟩
  case round =>
    obtain ⟨k, hk, rfl, HE, hb⟩ := hrel
    by_cases hlt : k < l.length
    · obtain ⟨x, y, hd, _, _, _, b, off, rfl, _, h0, h1⟩ := (hs.below outR_ok hb).out_at hlt
      have HD := hide hd
      clear hd hs
      cases h1 : belowB x N <;> cases h2 : belowB y 8
      all_goals go_wp2_with (go_at_call 72; refine (below_any _ _ _).mono ?_; rintro e w' ⟨rfl, rfl⟩)
      all_goals first
        | (go_ret; exact ⟨ret_int (by rw [HE.out, HD.out]; simp [sentErr, h1, h2]), bnew hb _⟩)
        | (go_roundw
           case rel => exact ⟨k + 1, by omega, by go_num, by show _ = _; rw [HE.out, HD.out]; simp [sentErr, h1, h2], bnew hb _⟩
           case measure => simp [intOf]; omega)
    · go_wp2_with fail
      go_ret
      refine ⟨ret_int ?_, hb⟩
      rw [HE.out, List.drop_eq_nil_of_le (by omega)]; rfl

set_option maxHeartbeats 400000 in
theorem rule_any (nx : Int) (st : List Out) (S N : Int) (oa : Option Addr) (c : Nat) (F : Foot) (w : World) (hs : SliceR outR 2 F w oa st) (hc : st.length ≤ c) (hc2 : st.length ≤ 9223372036854775807) :
    Calls Try.prog 56 #[.agg #[.int .i64 nx, .slice oa st.length c], .int .i64 S, .int .i64 N] w fun e w' => e = .returned (.int .i64 (ruleErr S N ⟨nx, st⟩)) ∧ Below w.heap.size w w' := by
  go_enter Try.func56, Try.ntmps56
  cases h1 : belowB nx S
  all_goals go_wp2_with (first
    | (go_at_call 72; refine (below_any _ _ _).mono ?_; rintro e w' ⟨rfl, rfl⟩)
    | (go_at_call 73; go_loud (refine (sent_any st N oa c F _ (hs.below outR_ok (bnew (Below.refl _ _) _)) hc hc2).mono ?_; rintro e w2 ⟨rfl, hb2⟩)))
  · go_ret; exact ⟨ret_int (by simp [ruleErr, h1]), bnew (Below.refl _ _) _⟩
  · have hl : ¬ st.length ≤ 16 := by omega
    go_ret; exact ⟨ret_int (by simp [ruleErr, h1, hl]), bnew (Below.refl _ _) _⟩
  · have hl : st.length ≤ 16 := by omega
    go_ret; exact ⟨ret_int (by simp [ruleErr, h1, hl]), below_then (bnew (Below.refl _ _) _) hb2⟩

set_option maxHeartbeats 1000000 in
theorem check_any (S L N : Int) (rs : List (List Rul)) (oa : Option Addr) (c : Nat) (F : Foot) (w : World) (hs : SliceR (slcR ruleR 2) 1 F w oa rs) (hc : rs.length ≤ c) (hc2 : rs.length ≤ 9223372036854775807) :
    Calls Try.prog 35 #[.agg #[.int .i64 S, .int .i64 L, .slice oa rs.length c], .int .i64 N] w fun e w' => e = .returned (.int .i64 (checkErr ⟨S, L, rs⟩ N)) ∧ Below w.heap.size w w' := by
  by_cases h1 : N < 1 ∨ 12 < N
  · have HR : Hid (checkErr ⟨S, L, rs⟩ N = 1) := by show _ = _; simp [checkErr, h1]
    go_enter Try.func35, Try.ntmps35
    go_wp2_with fail
    all_goals (go_ret; exact ⟨ret_int HR.out.symm, bnew (Below.refl _ _) _⟩)
  by_cases h2 : S < 1 ∨ S > 16 ∨ L < 1 ∨ L > 8
  · have HR : Hid (checkErr ⟨S, L, rs⟩ N = 2) := by show _ = _; rw [checkErr, if_neg h1, if_pos h2]
    have h1a : 1 ≤ N := by omega
    have h1b : N ≤ 12 := by omega
    clear h1
    go_enter Try.func35, Try.ntmps35
    go_wp2_with fail
    all_goals first | (go_ret; exact ⟨ret_int HR.out.symm, bnew (Below.refl _ _) _⟩) | (exfalso; omega)
  by_cases h3 : (rs.length : Int) = S
  · subst h3
    have HR : Hid (checkErr ⟨rs.length, L, rs⟩ N = rowsErr rs.length L N rs) := by show _ = _; simp only [checkErr]; rw [if_neg h1, if_neg h2, if_neg (by simp)]
    have h1a : 1 ≤ N := by omega
    have h1b : N ≤ 12 := by omega
    have h2a : 1 ≤ rs.length := by omega
    have h2b : rs.length ≤ 16 := by omega
    have h2c : 1 ≤ L := by omega
    have h2d : L ≤ 8 := by omega
    clear h1 h2
    go_enter Try.func35, Try.ntmps35
    go_wp2_with fail
    clear h1a h1b
    go_loopw [46] (fun i wr => ∃ k : Nat, k ≤ rs.length ∧ i = .int .i64 k ∧ Hid (rowsErr rs.length L N rs = rowsErr rs.length L N (rs.drop k)) ∧
        Below (w.heap.size + 1) (w.alloc (.cells #[.int .i64 rs.length, .int .i64 L, .slice oa rs.length c] 53)) wr) (fun i _ => rs.length - (intOf i).toNat)
    case atStart => exact ⟨0, by omega, rfl, rfl, box_refl _ _⟩
    case round =>
      obtain ⟨k, hk, rfl, HE, hb⟩ := hrel
      have d0 := box_cell hb 0
      have d1 := box_cell hb 1
      have d2 := box_cell hb 2
      simp at d0 d1 d2
      by_cases hlt : k < rs.length
      · obtain ⟨row, hd, _, b, off, oa', c', rfl, _, c0, hcl, hcl2, hsr⟩ := (hs.below rowR_ok (below_box hb)).slc_at hlt
        have HD := hide hd
        clear hd
        by_cases hle : (row.length : Int) = L
        · have ht : ((row.length : Int) != L) = false := by simp [hle]
          have HL := hide hle
          clear hle
          go_wp2_with fail
          obtain ⟨wo, rfl⟩ : ∃ wo : World, wo = wr := ⟨_, rfl⟩
          go_loopw [57] (fun i wr => ∃ j : Nat, j ≤ row.length ∧ i = .int .i64 j ∧ Hid (rowErr rs.length N row = rowErr rs.length N (row.drop j)) ∧
            Below wo.heap.size wo wr) (fun i _ => row.length - (intOf i).toNat)
          case atStart => exact ⟨0, by omega, rfl, rfl, Below.refl _ _⟩
          case round =>
            obtain ⟨j, hj, rfl, HF, hbj⟩ := hrel
            have hbb := box_then hb (by simp) hbj
            have e0 := box_cell hbb 0
            simp at e0
            have hsz : w.heap.size < wr.heap.size := box_lt hbb
            by_cases hlj : j < row.length
            · obtain ⟨nx, sent, hd, _, _, b', off', oa2, c2, rfl, _, c20, c21, hl2, hl22, hss⟩ := (hsr.below ruleR_ok hbj).rule_at hlj
              have HD2 := hide hd
              clear hd
              go_wp2_with fail
              refine (rule_any nx sent _ N oa2 c2 F _ (hss.below outR_ok (bnew (Below.refl _ _) _)) hl2 hl22).mono ?_
              rintro e w2 ⟨rfl, hb2⟩
              have hb3 := below_then (bnew hbj _) hb2
              clear hb2
              by_cases hz : ruleErr rs.length N ⟨nx, sent⟩ = 0
              · have hz1 : (ruleErr rs.length N ⟨nx, sent⟩ != 0) = false := by simp [hz]
                have HZ := hide hz
                clear hz
                go_wp2_with fail
                go_roundw
                case rel => exact ⟨j + 1, by omega, by go_num, by show _ = _; rw [HF.out, HD2.out, rowErr, if_pos HZ.out], hb3⟩
                case measure => simp [intOf]; omega
              · have hz1 : (ruleErr rs.length N ⟨nx, sent⟩ != 0) = true := by simp [hz]
                have HZ := hide hz
                clear hz
                go_wp2_with fail
                go_ret
                refine ⟨ret_int ?_, below_box (box_then hb (by simp) hb3)⟩
                rw [HR.out, HE.out, HD.out, rowsErr, if_pos HL.out, HF.out, HD2.out, rowErr, if_neg HZ.out, if_neg HZ.out]
            · go_wp2_with fail
              go_roundw
              case rel =>
                refine ⟨k + 1, by omega, by go_num, ?_, box_then hb (by simp) hbj⟩
                show _ = _
                have hn : row.drop j = [] := List.drop_eq_nil_of_le (by omega)
                rw [HE.out, HD.out, rowsErr, if_pos HL.out, HF.out, hn, rowErr, if_pos rfl]
              case measure => simp [intOf]; omega
        · have ht : ((row.length : Int) != L) = true := by simp [hle]
          go_wp2_with fail
          go_ret
          exact ⟨ret_int (by rw [HR.out, HE.out, HD.out, rowsErr, if_neg hle]), below_box hb⟩
      · go_wp2_with fail
        go_ret
        exact ⟨ret_int (by rw [HR.out, HE.out, List.drop_eq_nil_of_le (by omega)]; rfl), below_box hb⟩
  · have HR : Hid (checkErr ⟨S, L, rs⟩ N = 8) := by show _ = _; rw [checkErr, if_neg h1, if_neg h2, if_pos h3]
    have h1a : 1 ≤ N := by omega
    have h1b : N ≤ 12 := by omega
    have h2a : 1 ≤ S := by omega
    have h2b : S ≤ 16 := by omega
    have h2c : 1 ≤ L := by omega
    have h2d : L ≤ 8 := by omega
    have h3' : ((rs.length : Int) != S) = true := by simp [h3]
    clear h1 h2 h3
    go_enter Try.func35, Try.ntmps35
    go_wp2_with fail
    go_ret; exact ⟨ret_int HR.out.symm, bnew (Below.refl _ _) _⟩

end Go.Proofs.Ytnigfddanoaonaa

set_option linter.unusedVariables false
set_option linter.unusedSimpArgs false
set_option linter.unnecessarySimpa false
namespace Go.Proofs.Ytnigfddanoaonaa
open Go.RowKit

theorem SliceR.prc_at {F : Foot} {w : World} {oa : Option Addr} {xs : List Prc} (h : SliceR prcR 3 F w oa xs) {i : Nat} (hi : i < xs.length) :
    ∃ S Le rs b off oa' c, xs.drop i = ⟨S, Le, rs⟩ :: xs.drop (i + 1) ∧ xs[i]? = some ⟨S, Le, rs⟩ ∧ oa = some ⟨b, off, none⟩ ∧ F b ∧ w.cell? ⟨b, off + i * 3, none⟩ = some (.int .i64 S) ∧ w.cell? ⟨b, off + i * 3 + 1, none⟩ = some (.int .i64 Le) ∧ w.cell? ⟨b, off + i * 3 + 2, none⟩ = some (.slice oa' rs.length c) ∧ I64 S ∧ I64 Le ∧ rs.length ≤ c ∧ rs.length ≤ 9223372036854775807 ∧ SliceR (slcR ruleR 2) 1 F w oa' rs := by
  obtain ⟨⟨S, Le, rs⟩, h1, h2, b, off, cs, h3, h4, ⟨oa', c, rfl, h5, h6, h7, h8, h9⟩, h10⟩ := h.at hi
  exact ⟨S, Le, rs, b, off, oa', c, h1, h2, h3, h4, by simpa using h10 0 _ rfl, by simpa using h10 1 _ rfl, by simpa using h10 2 _ rfl, h5, h6, h7, h8, h9⟩

set_option maxHeartbeats 2000000 in
theorem understood_any (procs : List Prc) (op : Option Addr) (cp : Nat) (os : Option Addr) (ns cs : Nat) (ow : Option Addr) (nw cw : Nat) (S Le : Int) (rs : List (List Rul)) (oa : Option Addr) (c : Nat) (F G : Foot) (w : World)
    (hp : SliceR prcR 3 F w op procs) (hp2 : procs.length ≤ 12) (hs : SliceR (slcR ruleR 2) 1 G w oa rs) (hc : rs.length ≤ c) (hc2 : rs.length ≤ 9223372036854775807) (hv : checkErr ⟨S, Le, rs⟩ procs.length = 0) :
    Calls Try.prog 36 #[.agg #[.slice op procs.length cp, .slice os ns cs, .slice ow nw cw], .agg #[.int .i64 S, .int .i64 Le, .slice oa rs.length c]] w fun e w' => e = .returned (.bool (rowsOk procs rs)) ∧ Below w.heap.size w w' := by
  have HV := hide hv
  have HP := hide hp
  have HS := hide hs
  clear hv hp hs
  obtain ⟨W1, e1⟩ : ∃ W1, w.alloc (.cells #[.slice op procs.length cp, .slice os ns cs, .slice ow nw cw] 26) = W1 := ⟨_, rfl⟩
  have bx1 : Box W1 w.heap.size [.slice op procs.length cp, .slice os ns cs, .slice ow nw cw] 26 := by rw [← e1]; exact Box.new w [.slice op procs.length cp, .slice os ns cs, .slice ow nw cw] 26
  have bb1 := bnew (Below.refl w.heap.size w) (.cells #[.slice op procs.length cp, .slice os ns cs, .slice ow nw cw] 26)
  rw [e1] at bb1
  obtain ⟨W2, e2⟩ : ∃ W2, W1.alloc (.cells #[.int .i64 S, .int .i64 Le, .slice oa rs.length c] 53) = W2 := ⟨_, rfl⟩
  have bx2 : Box W2 W1.heap.size [.int .i64 S, .int .i64 Le, .slice oa rs.length c] 53 := by rw [← e2]; exact Box.new W1 [.int .i64 S, .int .i64 Le, .slice oa rs.length c] 53
  have bb2 := bnew (Below.refl W1.heap.size W1) (.cells #[.int .i64 S, .int .i64 Le, .slice oa rs.length c] 53)
  rw [e2] at bb2
  have bx1' := bx1.below bb2
  have HB := hide (bb1.trans (bb2.mono bb1.size))
  have HX1 := hide bx1'
  have c2 := bx2.cell 2
  simp only [List.getElem?_cons_zero, List.getElem?_cons_succ] at c2
  clear bx1 bx1' bx2 bb1 bb2
  go_enter Try.func36, Try.ntmps36
  go_wp2_with fail
  go_loopw [14] (fun iv wr => ∃ i : Nat, i ≤ rs.length ∧ iv = .int .i64 i ∧ Hid (rowsOk procs rs = rowsOk procs (rs.drop i)) ∧ Hid (Below W2.heap.size W2 wr)) (fun iv _ => rs.length - (intOf iv).toNat)
  case atStart => exact ⟨0, by omega, rfl, rfl, Below.refl _ _⟩
  case round =>
    obtain ⟨i, hi, rfl, HE, HBi⟩ := hrel
    by_cases hlt : i < rs.length
    · obtain ⟨row, hd, hrow, b2, off2, oa3, c3, rfl, _, c4, hcl, hcl2, hsr⟩ := (((HS.out.below rowR_ok HB.out).below rowR_ok HBi.out).slc_at hlt)
      have HRW := hide hrow
      have HD : Hid (rowsOk procs (rs.drop i) = if rulesOk procs row = true then rowsOk procs (rs.drop (i + 1)) else false) := by show _ = _; rw [hd]; rfl
      have HSR := hide hsr
      clear hd hrow hsr
      go_wp2_with fail
      go_loopw [20] (fun iv wr2 => ∃ j : Nat, j ≤ row.length ∧ iv = .int .i64 j ∧ Hid (rulesOk procs row = rulesOk procs (row.drop j)) ∧ Hid (Below wr.heap.size wr wr2)) (fun iv _ => row.length - (intOf iv).toNat)
      case atStart => exact ⟨0, by omega, rfl, rfl, Below.refl _ _⟩
      case round =>
        obtain ⟨j, hj, rfl, HE2, HBj⟩ := hrel
        by_cases hlj : j < row.length
        · obtain ⟨nx, st, hd, hru, _, b4, off4, oa5, c5, rfl, _, c40, c41, hl2, hl22, hss⟩ := (HSR.out.below ruleR_ok HBj.out).rule_at hlj
          have hvr := (valid_rule HV.out HRW.out hru).2.2
          have HVR := hide hvr
          have HD2 : Hid (rulesOk procs (row.drop j) = if outsOk procs st = true then rulesOk procs (row.drop (j + 1)) else false) := by show _ = _; rw [hd]; rfl
          obtain ⟨W4, e4⟩ : ∃ W4, wr.alloc (.cells #[.int .i64 nx, .slice oa5 st.length c5] 78) = W4 := ⟨_, rfl⟩
          have bx4 : Box W4 wr.heap.size [.int .i64 nx, .slice oa5 st.length c5] 78 := by rw [← e4]; exact Box.new wr [.int .i64 nx, .slice oa5 st.length c5] 78
          have bb4 := bnew (Below.refl wr.heap.size wr) (.cells #[.int .i64 nx, .slice oa5 st.length c5] 78)
          rw [e4] at bb4
          have c6 := bx4.cell 1
          simp only [List.getElem?_cons_zero, List.getElem?_cons_succ] at c6
          have HSS := hide (hss.below outR_ok bb4)
          have HB4 := hide (HBj.out.trans (bb4.mono HBj.out.size))
          clear hd hru hvr hss bx4 bb4
          go_wp2_with fail
          go_loopw [27] (fun iv wr3 => ∃ k : Nat, k ≤ st.length ∧ iv = .int .i64 k ∧ Hid (outsOk procs st = outsOk procs (st.drop k)) ∧ Hid (Below W4.heap.size W4 wr3)) (fun iv _ => st.length - (intOf iv).toNat)
          case atStart => exact ⟨0, by omega, rfl, rfl, Below.refl _ _⟩
          case round =>
            obtain ⟨k, hk, rfl, HE3, HBk⟩ := hrel
            have HBW : Hid (Below W2.heap.size W2 wr) := (HBi.out.trans (HB4.out.mono HBi.out.size)).trans (HBk.out.mono (Nat.le_trans HBi.out.size HB4.out.size))
            by_cases hlk : k < st.length
            · obtain ⟨tt, le, hd, hxo, it, il, b6, off6, rfl, _, oc0, oc1⟩ := (HSS.out.below outR_ok HBk.out).out_at hlk
              obtain ⟨⟨m1, m2⟩, m3, m4⟩ := HVR.out _ (List.mem_of_getElem? hxo)
              simp only at m1 m2 m3 m4
              obtain ⟨tn, rfl⟩ := Int.eq_ofNat_of_zero_le m1
              have htn : tn < procs.length := by omega
              obtain ⟨W6, e6⟩ : ∃ W6, wr.alloc (.cells #[.int .i64 tn, .int .i64 le] 75) = W6 := ⟨_, rfl⟩
              have bx6 : Box W6 wr.heap.size [.int .i64 tn, .int .i64 le] 75 := by rw [← e6]; exact Box.new wr [.int .i64 tn, .int .i64 le] 75
              have bb6 := bnew (Below.refl wr.heap.size wr) (.cells #[.int .i64 tn, .int .i64 le] 75)
              rw [e6] at bb6
              have k0 := bx6.cell 0
              have k1 := bx6.cell 1
              have HBW6 : Below W2.heap.size W2 W6 := HBW.out.trans (bb6.mono HBW.out.size)
              have x0 := (HX1.out.below HBW6).cell 0
              simp only [List.getElem?_cons_zero, List.getElem?_cons_succ] at k0 k1 x0
              obtain ⟨S5, Le5, rs5, b7, off7, oa7, c7, _, hpr, rfl, _, _, y1, _, _, il5, _, _, _⟩ := ((HP.out.below prcR_ok HB.out).below prcR_ok HBW6).prc_at htn
              have hD3 : outsOk procs (st.drop k) = if le < Le5 then outsOk procs (st.drop (k + 1)) else false := by
                rw [hd]
                show (if le < (procs.getD ((tn : Int)).toNat prc0).letters then _ else _) = _
                rw [Int.toNat_natCast, List.getD_eq_getElem?_getD, hpr]
                rfl
              have HD3 := hide hD3
              have HBB := hide bb6
              clear hd hxo hpr hD3 bx6 bb6 HBW6
              by_cases hle : le < Le5
              · have q1 : decide (Le5 ≤ le) = false := by simp; omega
                go_wp2_with fail
                go_quiet (fail)
                go_wp2_with fail
                go_roundw
                case rel => exact ⟨k + 1, by omega, by go_num, by show _ = _; rw [HE3.out, HD3.out, if_pos hle], below_drewN (HBk.out.trans (HBB.out.mono HBk.out.size)) _⟩
                case measure => simp [intOf]; omega
              · have q1 : decide (Le5 ≤ le) = true := by simp; omega
                have hF : rowsOk procs rs = false := by
                  rw [HE.out, HD.out, HE2.out, HD2.out, HE3.out, HD3.out, if_neg hle]
                  rfl
                have HF := hide hF
                clear hF
                go_wp2_with fail
                go_quiet (fail)
                go_wp2_with fail
                go_ret
                exact ⟨ret_bool (by rw [HF.out]), HB.out.trans ((below_drewN (HBW.out.trans (HBB.out.mono HBW.out.size)) _).mono HB.out.size)⟩
            · have HT : Hid (outsOk procs st = true) := by show _ = _; rw [HE3.out, List.drop_eq_nil_of_le (by omega)]; rfl
              go_wp2_with fail
              go_roundw
              case rel => exact ⟨j + 1, by omega, by go_num, by show _ = _; rw [HE2.out, HD2.out, if_pos HT.out], HB4.out.trans (HBk.out.mono HB4.out.size)⟩
              case measure => simp [intOf]; omega
        · have HT : Hid (rulesOk procs row = true) := by show _ = _; rw [HE2.out, List.drop_eq_nil_of_le (by omega)]; rfl
          go_wp2_with fail
          go_roundw
          case rel => exact ⟨i + 1, by omega, by go_num, by show _ = _; rw [HE.out, HD.out, if_pos HT.out], HBi.out.trans (HBj.out.mono HBi.out.size)⟩
          case measure => simp [intOf]; omega
    · go_wp2_with fail
      go_ret
      exact ⟨ret_bool (by rw [HE.out, List.drop_eq_nil_of_le (by omega)]; rfl), HB.out.trans (HBi.out.mono HB.out.size)⟩

set_option maxHeartbeats 2000000 in
theorem shaped_any (procs : List Prc) (op : Option Addr) (cp : Nat) (os : Option Addr) (ns cs : Nat) (ow : Option Addr) (nw cw : Nat) (t : List (List Int)) (ot : Option Addr) (ct : Nat) (F G : Foot) (w : World)
    (hp : SliceR prcR 3 F w op procs) (hp2 : procs.length ≤ 9223372036854775807) (ht : SliceR (slcR intR 1) 1 G w ot t) (ht2 : t.length ≤ 9223372036854775807) :
    Calls Try.prog 37 #[.agg #[.slice op procs.length cp, .slice os ns cs, .slice ow nw cw], .slice ot t.length ct] w fun e w' => e = .returned (.int .i64 (shapedErr procs t)) ∧ Below w.heap.size w w' := by
  have HP := hide hp
  have HS := hide ht
  clear hp ht
  obtain ⟨W1, e1⟩ : ∃ W1, w.alloc (.cells #[.slice op procs.length cp, .slice os ns cs, .slice ow nw cw] 26) = W1 := ⟨_, rfl⟩
  have bx1 : Box W1 w.heap.size [.slice op procs.length cp, .slice os ns cs, .slice ow nw cw] 26 := by rw [← e1]; exact Box.new w [.slice op procs.length cp, .slice os ns cs, .slice ow nw cw] 26
  have bb1 := bnew (Below.refl w.heap.size w) (.cells #[.slice op procs.length cp, .slice os ns cs, .slice ow nw cw] 26)
  rw [e1] at bb1
  have c0 := bx1.cell 0
  simp only [List.getElem?_cons_zero, List.getElem?_cons_succ] at c0
  have HB := hide bb1
  clear bx1 bb1
  by_cases hl : t.length = procs.length
  · have q0 : (((t.length : Nat) : Int) != ((procs.length : Nat) : Int)) = false := by simp [hl]
    have HR : Hid (shapedErr procs t = shapesErr t procs) := if_pos hl
    obtain ⟨tl, htl⟩ : ∃ tl, tl = t.length := ⟨_, rfl⟩
    rw [← htl] at hl q0 ht2 ⊢
    have HTL := hide htl
    have HL := hide hl
    clear hl htl
    go_enter Try.func37, Try.ntmps37
    go_wp2_with fail
    go_loop [15] (fun iv => ∃ i : Nat, i ≤ tl ∧ iv = .int .i64 i ∧ Hid (shapesErr t procs = shapesErr (t.drop i) (procs.drop i))) (fun iv => tl - (intOf iv).toNat)
    case atStart => exact ⟨0, by omega, rfl, rfl⟩
    case round =>
      obtain ⟨i, hi, rfl, HE⟩ := hrel
      by_cases hlt : i < tl
      · obtain ⟨l, hd, hxl, b2, off2, oa3, c3, rfl, _, c4, hcl, hcl2, _⟩ := (HS.out.below (slcR_ok intR_ok (by decide)) HB.out).slc_at (i := i) (by have := HTL.out; omega)
        have hip : i < procs.length := by have := HL.out; omega
        obtain ⟨S5, Le5, rs5, b7, off7, oa7, c7, hd7, _, rfl, _, _, y1, _, _, il5, _, _, _⟩ := (HP.out.below prcR_ok HB.out).prc_at hip
        have HD : Hid (shapesErr (t.drop i) (procs.drop i) = if (l.length : Int) = Le5 then shapesErr (t.drop (i + 1)) (procs.drop (i + 1)) else 8) := by show _ = _; rw [hd, hd7]; rfl
        clear hd hd7 hxl
        by_cases he : (l.length : Int) = Le5
        · have q1 : (((l.length : Nat) : Int) != Le5) = false := by simp [he]
          have HD2 : Hid (shapesErr (t.drop i) (procs.drop i) = shapesErr (t.drop (i + 1)) (procs.drop (i + 1))) := by show _ = _; rw [HD.out, if_pos he]
          clear he
          go_wp2_with fail
          go_round
          case rel => exact ⟨i + 1, by omega, by go_num, by show _ = _; rw [HE.out, HD2.out]⟩
          case measure => simp [intOf]; omega
        · have q1 : (((l.length : Nat) : Int) != Le5) = true := by simp [he]
          have HD2 : Hid (shapesErr (t.drop i) (procs.drop i) = 8) := by show _ = _; rw [HD.out, if_neg he]
          clear he
          go_wp2_with fail
          go_ret
          exact ⟨ret_int (by rw [HR.out, HE.out, HD2.out]), HB.out⟩
      · go_wp2_with fail
        go_ret
        exact ⟨ret_int (by rw [HR.out, HE.out, List.drop_eq_nil_of_le (by have := HTL.out; omega)]; rfl), HB.out⟩
  · have q0 : (((t.length : Nat) : Int) != ((procs.length : Nat) : Int)) = true := by simp; omega
    have HR : Hid (shapedErr procs t = 8) := if_neg hl
    obtain ⟨tl, htl⟩ : ∃ tl, tl = t.length := ⟨_, rfl⟩
    rw [← htl] at q0 ht2 ⊢
    clear hl htl
    go_enter Try.func37, Try.ntmps37
    go_wp2_with fail
    go_ret
    exact ⟨ret_int (by rw [HR.out]), HB.out⟩

end Go.Proofs.Ytnigfddanoaonaa

set_option linter.unusedVariables false
set_option linter.unusedSimpArgs false
set_option linter.unnecessarySimpa false
namespace Go.Proofs.Ytnigfddanoaonaa
open Go.RowKit

set_option maxRecDepth 100000 in
set_option maxHeartbeats 4000000 in
theorem netCheck_any (procs : List Prc) (op : Option Addr) (cp : Nat) (st : List Int) (os : Option Addr) (cs : Nat) (wt : List (List Int)) (ow : Option Addr) (cw : Nat) (F : Foot) (w : World)
    (hp : SliceR prcR 3 F w op procs) (hp2 : procs.length ≤ 9223372036854775807) (hs : SliceR intR 1 F w os st) (hs2 : st.length ≤ 9223372036854775807) (ht : SliceR (slcR intR 1) 1 F w ow wt) (ht2 : wt.length ≤ 9223372036854775807) :
    Calls Try.prog 19 #[.agg #[.slice op procs.length cp, .slice os st.length cs, .slice ow wt.length cw]] w fun e w' => e = .returned (.int .i64 (netErr ⟨procs, st, wt⟩)) ∧ Below w.heap.size w w' := by
  have HP := hide hp
  have HS := hide hs
  have HT := hide ht
  clear hp hs ht
  obtain ⟨W1, e1⟩ : ∃ W1, w.alloc (.cells #[.slice op procs.length cp, .slice os st.length cs, .slice ow wt.length cw] 26) = W1 := ⟨_, rfl⟩
  have bx1 : Box W1 w.heap.size [.slice op procs.length cp, .slice os st.length cs, .slice ow wt.length cw] 26 := by rw [← e1]; exact Box.new w [.slice op procs.length cp, .slice os st.length cs, .slice ow wt.length cw] 26
  have bb1 := bnew (Below.refl w.heap.size w) (.cells #[.slice op procs.length cp, .slice os st.length cs, .slice ow wt.length cw] 26)
  rw [e1] at bb1
  have c0 := bx1.cell 0
  simp only [List.getElem?_cons_zero, List.getElem?_cons_succ] at c0
  have HB := hide bb1
  have HX := hide bx1
  clear bx1 bb1
  obtain ⟨n, hn⟩ : ∃ n, n = procs.length := ⟨_, rfl⟩
  have HN := hide hn
  by_cases hr : procs.length < 1 ∨ 12 < procs.length
  · have HR : Hid (netErr ⟨procs, st, wt⟩ = 2) := by show _ = _; unfold netErr; exact if_pos hr
    rw [← hn] at c0 hp2 hr e1 ⊢
    clear hn
    by_cases h1 : n < 1
    · have hr1 : (n : Int) < 1 := by omega
      clear hr
      go_enter Try.func19, Try.ntmps19
      go_wp2_with fail
      go_ret
      exact ⟨ret_int (by rw [HR.out]), HB.out⟩
    · have hr1 : ¬ (n : Int) < 1 := by omega
      have hr2 : (12 : Int) < n := by omega
      clear hr
      go_enter Try.func19, Try.ntmps19
      go_wp2_with fail
      go_ret
      exact ⟨ret_int (by rw [HR.out]), HB.out⟩
  have hr1 : ¬ (n : Int) < 1 := by omega
  have hr2 : ¬ (12 : Int) < n := by omega
  have HR : Hid (netErr ⟨procs, st, wt⟩ = if procsErr procs.length procs = 0 then
    if procsOk procs procs = true then
      if st.length = procs.length then
        if statesErr st procs = 0 then waitsErr ⟨procs, st, wt⟩ else statesErr st procs
      else 8
    else 6
  else procsErr procs.length procs) := by show _ = _; unfold netErr; exact if_neg hr
  rw [← hn] at c0 hp2 hr e1 HX ⊢
  clear hn hr
  go_enter Try.func19, Try.ntmps19
  go_wp2_with fail
  go_loopw [28] (fun iv wr => ∃ i : Nat, i ≤ n ∧ iv = .int .i64 i ∧ Hid (procsErr procs.length procs = procsErr procs.length (procs.drop i)) ∧ Hid (Below W1.heap.size W1 wr)) (fun iv _ => n - (intOf iv).toNat)
  case atStart => exact ⟨0, by omega, rfl, rfl, Below.refl _ _⟩
  case round =>
    obtain ⟨i, hi, rfl, HE, HBi⟩ := hrel
    by_cases hlt : i < n
    · obtain ⟨S5, Le5, rs5, b7, off7, oa7, c7, hd7, _, rfl, _, y0, y1, y2, _, il5, hrc, hrc2, hrs⟩ := ((HP.out.below prcR_ok HB.out).below prcR_ok HBi.out).prc_at (i := i) (by have := HN.out; omega)
      have HD : Hid (procsErr procs.length (procs.drop i) = if checkErr ⟨S5, Le5, rs5⟩ n = 0 then procsErr procs.length (procs.drop (i + 1)) else checkErr ⟨S5, Le5, rs5⟩ n) := by show _ = _; rw [hd7, HN.out]; rfl
      obtain ⟨W4, e4⟩ : ∃ W4, wr.alloc (.cells #[.int .i64 S5, .int .i64 Le5, .slice oa7 rs5.length c7] 53) = W4 := ⟨_, rfl⟩
      have bx4 : Box W4 wr.heap.size [.int .i64 S5, .int .i64 Le5, .slice oa7 rs5.length c7] 53 := by rw [← e4]; exact Box.new wr [.int .i64 S5, .int .i64 Le5, .slice oa7 rs5.length c7] 53
      have bb4 := bnew (Below.refl wr.heap.size wr) (.cells #[.int .i64 S5, .int .i64 Le5, .slice oa7 rs5.length c7] 53)
      rw [e4] at bb4
      have x0 := bx4.cell 0
      have x1 := bx4.cell 1
      have x2 := bx4.cell 2
      simp only [List.getElem?_cons_zero, List.getElem?_cons_succ] at x0 x1 x2
      have HC := hide (check_any S5 Le5 n rs5 oa7 c7 _ W4 (hrs.below rowR_ok bb4) hrc hrc2)
      have HB4 := hide (HBi.out.trans (bb4.mono HBi.out.size))
      clear hd7 hrs bx4 bb4 hrc hrc2
      by_cases hz : checkErr ⟨S5, Le5, rs5⟩ n = 0
      · have q1 := is_err hz
        have HZ := hide hz
        clear hz
        go_wp2_with (go_at_call 35; refine HC.out.mono ?_; rintro e w5 ⟨rfl, h5⟩; have HB5 := hide (HB4.out.trans (h5.mono HB4.out.size)); clear h5)
        go_roundw
        case rel => exact ⟨i + 1, by omega, by go_num, by show _ = _; rw [HE.out, HD.out, if_pos HZ.out], HB5⟩
        case measure => simp [intOf]; omega
      · have q1 := not_err hz
        have HRR : Hid (netErr ⟨procs, st, wt⟩ = checkErr ⟨S5, Le5, rs5⟩ n) := by
          show _ = _
          rw [HR.out, HE.out, HD.out, if_neg hz, if_neg hz]
        clear hz
        go_wp2_with (go_at_call 35; refine HC.out.mono ?_; rintro e w5 ⟨rfl, h5⟩; have HB5 := hide (HB4.out.trans (h5.mono HB4.out.size)); clear h5)
        go_ret
        exact ⟨ret_int (by rw [HRR.out]), HB.out.trans (HB5.out.mono HB.out.size)⟩
    · have HPE : Hid (procsErr procs.length procs = 0) := by show _ = _; rw [HE.out, List.drop_eq_nil_of_le (by have := HN.out; omega)]; rfl
      have HVA : Hid (∀ (j : Nat) (p : Prc), procs[j]? = some p → checkErr p procs.length = 0) := fun j p hp => procsErr_zero HPE.out p (List.mem_of_getElem? hp)
      have x0 := (HX.out.below HBi.out).cell 0
      simp only [List.getElem?_cons_zero, List.getElem?_cons_succ] at x0
      go_wp2_with fail
      go_loopw [42] (fun iv wr => ∃ i : Nat, i ≤ n ∧ iv = .int .i64 i ∧ Hid (procsOk procs procs = procsOk procs (procs.drop i)) ∧ Hid (Below W1.heap.size W1 wr)) (fun iv _ => n - (intOf iv).toNat)
      case atStart => exact ⟨0, by omega, rfl, rfl, HBi⟩
      case round =>
        obtain ⟨i2, hi2, rfl, HE2, HB2⟩ := hrel
        by_cases hlt2 : i2 < n
        · obtain ⟨S5, Le5, rs5, b7, off7, oa7, c7, hd7, hpr, rfl, _, y0, y1, y2, _, il5, hrc, hrc2, hrs⟩ := ((HP.out.below prcR_ok HB.out).below prcR_ok HB2.out).prc_at (i := i2) (by have := HN.out; omega)
          have hv := HVA.out _ _ hpr
          have HD : Hid (procsOk procs (procs.drop i2) = if rowsOk procs rs5 = true then procsOk procs (procs.drop (i2 + 1)) else false) := by show _ = _; rw [hd7]; rfl
          obtain ⟨W4, e4⟩ : ∃ W4, wr.alloc (.cells #[.int .i64 S5, .int .i64 Le5, .slice oa7 rs5.length c7] 53) = W4 := ⟨_, rfl⟩
          have bx4 : Box W4 wr.heap.size [.int .i64 S5, .int .i64 Le5, .slice oa7 rs5.length c7] 53 := by rw [← e4]; exact Box.new wr [.int .i64 S5, .int .i64 Le5, .slice oa7 rs5.length c7] 53
          have bb4 := bnew (Below.refl wr.heap.size wr) (.cells #[.int .i64 S5, .int .i64 Le5, .slice oa7 rs5.length c7] 53)
          rw [e4] at bb4
          have x0 := bx4.cell 0
          have x1 := bx4.cell 1
          have x2 := bx4.cell 2
          have hB4 := HB2.out.trans (bb4.mono HB2.out.size)
          have z0 := (HX.out.below hB4).cell 0
          have z1 := (HX.out.below hB4).cell 1
          have z2 := (HX.out.below hB4).cell 2
          simp only [List.getElem?_cons_zero, List.getElem?_cons_succ] at x0 x1 x2 z0 z1 z2
          have hcall := understood_any procs (some ⟨b7, off7, none⟩) cp os st.length cs ow wt.length cw S5 Le5 rs5 oa7 c7 _ _ W4 ((HP.out.below prcR_ok HB.out).below prcR_ok hB4) (by have := HN.out; omega) (hrs.below rowR_ok bb4) hrc hrc2 hv
          rw [← HN.out] at hcall
          have HC := hide hcall
          have HB4 := hide hB4
          clear hd7 hrs bx4 bb4 hrc hrc2 hv hpr hcall hB4
          obtain ⟨bo, hbo⟩ : ∃ bo, bo = rowsOk procs rs5 := ⟨_, rfl⟩
          rw [← hbo] at HC HD
          clear hbo
          cases bo
          · have HRR : Hid (netErr ⟨procs, st, wt⟩ = 6) := by
              show _ = _
              rw [HR.out, if_pos HPE.out, HE2.out, HD.out]
              rfl
            go_wp2_with (go_at_call 36; refine HC.out.mono ?_; rintro e w5 ⟨rfl, h5⟩; have HB5 := hide (HB4.out.trans (h5.mono HB4.out.size)); clear h5)
            go_ret
            exact ⟨ret_int (by rw [HRR.out]), HB.out.trans (HB5.out.mono HB.out.size)⟩
          · go_wp2_with (go_at_call 36; refine HC.out.mono ?_; rintro e w5 ⟨rfl, h5⟩; have HB5 := hide (HB4.out.trans (h5.mono HB4.out.size)); clear h5)
            go_roundw
            case rel => exact ⟨i2 + 1, by omega, by go_num, by show _ = _; rw [HE2.out, HD.out]; rfl, HB5⟩
            case measure => simp [intOf]; omega
        · have HPO : Hid (procsOk procs procs = true) := by show _ = _; rw [HE2.out, List.drop_eq_nil_of_le (by have := HN.out; omega)]; rfl
          have z0 := (HX.out.below HB2.out).cell 0
          have z1 := (HX.out.below HB2.out).cell 1
          have z2 := (HX.out.below HB2.out).cell 2
          simp only [List.getElem?_cons_zero, List.getElem?_cons_succ] at z0 z1 z2
          clear x0
          by_cases hsl : st.length = n
          case neg =>
            have q0 : (((st.length : Nat) : Int) != ((n : Nat) : Int)) = true := by simp; omega
            have HRR : Hid (netErr ⟨procs, st, wt⟩ = 8) := by
              show _ = _
              rw [HR.out, if_pos HPE.out, if_pos HPO.out, if_neg (by rw [← HN.out]; exact hsl)]
            clear hsl
            go_wp2_with fail
            go_ret
            exact ⟨ret_int (by rw [HRR.out]), HB.out.trans (HB2.out.mono HB.out.size)⟩
          have q0 : (((st.length : Nat) : Int) != ((n : Nat) : Int)) = false := by simp; omega
          have HRR : Hid (netErr ⟨procs, st, wt⟩ = if statesErr st procs = 0 then waitsErr ⟨procs, st, wt⟩ else statesErr st procs) := by
            show _ = _
            rw [HR.out, if_pos HPE.out, if_pos HPO.out, if_pos (by rw [← HN.out]; exact hsl)]
          have HSL := hide hsl
          clear hsl HR HE HBi HE2
          have hstl : st.length ≤ 12 := by have := HSL.out; omega
          go_wp2_with fail
          go_loopw [59] (fun iv wr2 => wr2 = wr ∧ ∃ i : Nat, i ≤ st.length ∧ iv = .int .i64 i ∧ Hid (statesErr st procs = statesErr (st.drop i) (procs.drop i))) (fun iv _ => st.length - (intOf iv).toNat)
          case atStart => exact ⟨by first | rfl | trivial, 0, by omega, rfl, rfl⟩
          case round =>
            obtain ⟨rfl, i3, hi3, rfl, HE3⟩ := hrel
            by_cases hlt3 : i3 < st.length
            · obtain ⟨sv, hds, _, isv, b8, off8, rfl, _, s0⟩ := ((HS.out.below intR_ok HB.out).below intR_ok HB2.out).int_at hlt3
              obtain ⟨S5, Le5, rs5, b7, off7, oa7, c7, hd7, _, rfl, _, y0, _, _, iS5, _, _, _, _⟩ := ((HP.out.below prcR_ok HB.out).below prcR_ok HB2.out).prc_at (i := i3) (by have := HN.out; have := HSL.out; omega)
              have HD : Hid (statesErr (st.drop i3) (procs.drop i3) = if belowB sv S5 then statesErr (st.drop (i3 + 1)) (procs.drop (i3 + 1)) else 2) := by show _ = _; rw [hds, hd7]; rfl
              have hin : i3 < n := by have := HSL.out; omega
              clear hds hd7
              by_cases hneg : sv < 0
              · have HRE : Hid (netErr ⟨procs, st, wt⟩ = 2) := by
                  show _ = _
                  have hb : belowB sv S5 = false := by unfold belowB; simp; omega
                  rw [HRR.out, HE3.out, HD.out, hb]
                  rfl
                go_wp2_with fail
                go_ret
                exact ⟨ret_int (by rw [HRE.out]), HB.out.trans (HB2.out.mono HB.out.size)⟩
              · by_cases hge : S5 ≤ sv
                · have HRE : Hid (netErr ⟨procs, st, wt⟩ = 2) := by
                    show _ = _
                    have hb : belowB sv S5 = false := by unfold belowB; simp; omega
                    rw [HRR.out, HE3.out, HD.out, hb]
                    rfl
                  go_wp2_with fail
                  go_ret
                  exact ⟨ret_int (by rw [HRE.out]), HB.out.trans (HB2.out.mono HB.out.size)⟩
                · have HD2 : Hid (statesErr (st.drop i3) (procs.drop i3) = statesErr (st.drop (i3 + 1)) (procs.drop (i3 + 1))) := by
                    show _ = _
                    have hb : belowB sv S5 = true := by unfold belowB; simp; omega
                    rw [HD.out, hb]
                    rfl
                  go_wp2_with fail
                  go_roundw
                  case rel => exact ⟨by first | rfl | trivial, i3 + 1, by omega, by go_num, by show _ = _; rw [HE3.out, HD2.out]⟩
                  case measure => simp [intOf]; omega
            · have HSE : Hid (statesErr st procs = 0) := by show _ = _; rw [HE3.out, List.drop_eq_nil_of_le (show st.length ≤ i3 by omega)]; rfl
              have HRW : Hid (netErr ⟨procs, st, wt⟩ = if shapedErr procs wt = 0 then tableErr wt else shapedErr procs wt) := by
                show _ = _
                rw [HRR.out, if_pos HSE.out]
                rfl
              have hcall := shaped_any procs op cp os st.length cs ow wt.length cw wt ow cw _ _ wr ((HP.out.below prcR_ok HB.out).below prcR_ok HB2.out) (by have := HN.out; omega) ((HT.out.below (slcR_ok intR_ok (by decide)) HB.out).below (slcR_ok intR_ok (by decide)) HB2.out) ht2
              rw [← HN.out] at hcall
              have HC := hide hcall
              clear hcall HRR
              by_cases hz : shapedErr procs wt = 0
              case neg =>
                have q1 := not_err hz
                have HRE : Hid (netErr ⟨procs, st, wt⟩ = shapedErr procs wt) := by show _ = _; rw [HRW.out, if_neg hz]
                clear hz
                go_wp2_with (go_at_call 37; refine HC.out.mono ?_; rintro e w5 ⟨rfl, h5⟩; have HB5 := hide (HB2.out.trans (h5.mono HB2.out.size)); clear h5)
                go_ret
                exact ⟨ret_int (by rw [HRE.out]), HB.out.trans (HB5.out.mono HB.out.size)⟩
              have q1 := is_err hz
              have HRE : Hid (netErr ⟨procs, st, wt⟩ = tableErr wt) := by show _ = _; rw [HRW.out, if_pos hz]
              clear hz
              go_wp2_with (go_at_call 37; refine HC.out.mono ?_; rintro e w5 ⟨rfl, h5⟩; have HB5 := hide (HB2.out.trans (h5.mono HB2.out.size)); clear h5; have z2 := (HX.out.below HB5.out).cell 2; simp only [List.getElem?_cons_zero, List.getElem?_cons_succ] at z2)
              have hT5 := ((HT.out.below (slcR_ok intR_ok (by decide)) HB.out).below (slcR_ok intR_ok (by decide)) HB5.out)
              have HT5 := hide hT5
              clear hT5 z0 z1
              go_loopw [87] (fun iv wr2 => wr2 = w5 ∧ ∃ i : Nat, i ≤ wt.length ∧ iv = .int .i64 i ∧ Hid (tableErr wt = tableErr (wt.drop i))) (fun iv _ => wt.length - (intOf iv).toNat)
              case atStart => exact ⟨by first | rfl | trivial, 0, by omega, rfl, rfl⟩
              case round =>
                obtain ⟨rfl, i4, hi4, rfl, HE4⟩ := hrel
                by_cases hlt4 : i4 < wt.length
                · obtain ⟨l, hd, _, b9, off9, oa9, c9, rfl, _, y9, hcl, hcl2, hsl9⟩ := HT5.out.slc_at hlt4
                  have HD : Hid (tableErr (wt.drop i4) = if numsErr l = 0 then tableErr (wt.drop (i4 + 1)) else numsErr l) := by show _ = _; rw [hd]; rfl
                  have HS9 := hide hsl9
                  clear hd hsl9
                  go_wp2_with fail
                  go_loopw [93] (fun iv wr2 => wr2 = wr ∧ ∃ i : Nat, i ≤ l.length ∧ iv = .int .i64 i ∧ Hid (numsErr l = numsErr (l.drop i))) (fun iv _ => l.length - (intOf iv).toNat)
                  case atStart => exact ⟨by first | rfl | trivial, 0, by omega, rfl, rfl⟩
                  case round =>
                    obtain ⟨rfl, i5, hi5, rfl, HE5⟩ := hrel
                    by_cases hlt5 : i5 < l.length
                    · obtain ⟨sv, hds, _, isv, b8, off8, rfl, _, s0⟩ := HS9.out.int_at hlt5
                      have HD5 : Hid (numsErr (l.drop i5) = if 0 ≤ sv ∧ sv ≤ 1048576 then numsErr (l.drop (i5 + 1)) else 2) := by show _ = _; rw [hds]; rfl
                      clear hds
                      by_cases hok : 0 ≤ sv ∧ sv ≤ 1048576
                      · obtain ⟨k1, k2⟩ := hok
                        have k3 : ¬ sv < 0 := by omega
                        have k4 : ¬ 1048576 < sv := by omega
                        have HD6 : Hid (numsErr (l.drop i5) = numsErr (l.drop (i5 + 1))) := by show _ = _; rw [HD5.out, if_pos ⟨k1, k2⟩]
                        go_wp2_with fail
                        go_roundw
                        case rel => exact ⟨by first | rfl | trivial, i5 + 1, by omega, by go_num, by show _ = _; rw [HE5.out, HD6.out]⟩
                        case measure => simp [intOf]; omega
                      · have hz : numsErr l = 2 := by rw [HE5.out, HD5.out, if_neg hok]
                        have HZ : Hid (netErr ⟨procs, st, wt⟩ = 2) := by
                          show _ = _
                          rw [HRE.out, HE4.out, HD.out, hz]
                          rfl
                        clear hz
                        by_cases k1 : sv < 0
                        · clear hok
                          go_wp2_with fail
                          go_ret
                          exact ⟨ret_int (by rw [HZ.out]), HB.out.trans (HB5.out.mono HB.out.size)⟩
                        · have k2 : 1048576 < sv := by omega
                          clear hok
                          go_wp2_with fail
                          go_ret
                          exact ⟨ret_int (by rw [HZ.out]), HB.out.trans (HB5.out.mono HB.out.size)⟩
                    · have HZ : Hid (numsErr l = 0) := by show _ = _; rw [HE5.out, List.drop_eq_nil_of_le (by omega)]; rfl
                      go_wp2_with fail
                      go_roundw
                      case rel => exact ⟨by first | rfl | trivial, i4 + 1, by omega, by go_num, by show _ = _; rw [HE4.out, HD.out, if_pos HZ.out]⟩
                      case measure => simp [intOf]; omega
                · go_wp2_with fail
                  go_ret
                  exact ⟨ret_int (by rw [HRE.out, HE4.out, List.drop_eq_nil_of_le (by omega)]; rfl), HB.out.trans (HB5.out.mono HB.out.size)⟩

end Go.Proofs.Ytnigfddanoaonaa

set_option linter.unusedVariables false
set_option linter.unusedSimpArgs false
namespace Go.Proofs.Ytnigfddanoaonaa
open Go.RowKit

end Go.Proofs.Ytnigfddanoaonaa

set_option linter.unusedVariables false
set_option linter.unusedSimpArgs false
namespace Go.Proofs.Ytnigfddanoaonaa
open Go.RowKit

theorem step_append_at {α : Type} {R : Rep α} {P : Program} {ops : Array Oper} {o : Oper} {a : Act} {w : World} {K : Act → World → Prop} {Q : Exit → Act → World → Prop} {E : Prop} (hgd : o.guard = none) (s x : Operand) (t : TypeId)
    (ho : o.op = .call { callee := .builtin .append, args := #[s, x], argTypes := #[t, t] })
    (base : Nat) (e : TypeId) (z : Value) (size bytes : Nat) (ht : P.underlying t = some (.slice e)) (hinfo : (P.info? e).map (fun i => (i.zero, i.size, i.bytes)) = some (some z, size, bytes))
    (hzs : z.cells.size = size) (hsz : 0 < size) (ok : RepOk R size)
    (F : Foot) (v : Value) (xs : List α) (hs : a.eval s = v) (hown : OwnS R size base e F w v xs)
    (ad : Addr) (c : Nat) (news : List Value) (y : α) (hx : a.eval x = .slice (some ad) 1 c) (hnews : ∀ j u, news[j]? = some u → w.cell? (ad.add j) = some u) (hR : R F w news y) (hF : ∀ k, F k → k < base)
    (hbytes : (xs.length + 1) * bytes ≤ 140737488355328) (hm : xs.length + 1 ≤ maxLen) (hbase : base ≤ w.heap.size)
    (hK : ∀ v' w', OwnS R size base e F w' v' (xs ++ [y]) → Below base w w' → w.grownBy w' v.ownBlock → (∀ k, v'.ownBlock = some k → v.ownBlock = some k ∨ k = w.heap.size) → K (a.put o.dst v') w') :
    if Region.wanted o (yielded ops a.tmps) = true then Oper.wp P o a w K Q else E := by
  obtain ⟨i0, hi, hz0, hz1, hz2⟩ := info_parts hinfo
  obtain ⟨cells, hown0, h1, hc⟩ := hown
  have hnl := ok.len hR
  refine step_append_lies (w := w) hgd s x t ho base e i0 z size bytes ht hi hz0 hz1 hz2 hzs hsz v xs.length cells hs hown0 ad 1 c news hx (by rw [hnl, Nat.one_mul]) hnews (ok.one hR) (by omega) hm hbytes hbase w.heap.size rfl fun g cap w' h2 h3 h4 h5 => ?_
  have hb : Below base w w' := (Below.refl base w).grown h3 hbase fun k hk => (hown0.lt k hk).1
  have hsame : SameOn F w w' := fun k hk _ => hb.block k (hF k hk)
  have hn3 : ∀ u ∈ news, u.oneCell' = true := ok.one hR
  refine hK _ w' ?_ hb h3 fun k hk => ?_
  · have hl : (xs ++ [y]).length = xs.length + 1 := by simp
    refine ⟨cells ++ news, by rw [hl]; exact h2, ?_, ?_⟩
    · intro u hu
      rcases List.mem_append.1 hu with hu | hu
      · exact h1 u hu
      · exact hn3 u hu
    · intro i q hq
      have hcl : cells.length = xs.length * size := hown0.1
      by_cases hlt : i < xs.length
      · rw [chunk_app_left hcl hlt]
        rw [List.getElem?_append_left hlt] at hq
        exact ok.keep (hc i q hq) hsame
      · have hie : i = xs.length := by
          have := (List.getElem?_eq_some_iff.1 hq).1
          simp at this
          omega
        subst hie
        have hqy : q = y := by simpa using hq.symm
        subst hqy
        have : chunk size xs.length (cells ++ news) = news := by
          unfold chunk
          rw [← hcl, List.drop_left, List.take_of_length_le (by omega)]
        rw [this]
        exact ok.keep hR hsame
  · simp [Value.ownBlock] at hk
    subst hk
    exact h4

end Go.Proofs.Ytnigfddanoaonaa

set_option linter.unusedVariables false
set_option linter.unusedSimpArgs false
set_option linter.unnecessarySimpa false
namespace Go.Proofs.Ytnigfddanoaonaa
open Go.RowKit

def WLay.setQ (L : WLay) (j : Nat) (v : Value) : WLay := { L with lv := fun m => if m = j then v else L.lv m }
theorem setQ_blk {L : WLay} {j : Nat} {v : Value} (hv : v.ownBlock = (L.lv j).ownBlock) (r : IR) : r.blk (L.setQ j v) = r.blk L := by
  cases r with
  | s => rfl
  | w i => rfl
  | c i => rfl
  | q m =>
    show (if m = j then v else L.lv m).ownBlock = (L.lv m).ownBlock
    split
    · rename_i e; rw [hv, e]
    · rfl
theorem setQ_mine {L : WLay} {N j : Nat} {v : Value} (hv : v.ownBlock = (L.lv j).ownBlock) (k : Nat) : Mine (L.setQ j v) N k ↔ Mine L N k := by
  have h : ∀ m, ((L.setQ j v).lv m).ownBlock = (L.lv m).ownBlock := fun m => setQ_blk hv (.q m)
  unfold Mine
  simp only [h]
  exact Iff.rfl
section
variable {B N : Nat} {L : WLay} {oP : Option Addr} {cP : Nat} {oF : Option Addr} {nF cF : Nat} {S : Wr} {W W' : World}

/-- The letters of a line, in the row where they lay. -/
theorem Wires.setQ (h : Wires B N L oP cP oF nF cF S W) {j : Nat} {l : Ln} (hl : S.ls[j]? = some l) {v : Value} {q : List Int} (hv : v.ownBlock = (L.lv j).ownBlock) (hq : OwnN B 3 W v q) :
    Wires B N (L.setQ j v) oP cP oF nF cF { S with ls := S.ls.set j { l with q := q } } (W.setCell ⟨L.bl j, 0, none⟩ v) := by
  have hjl := (List.getElem?_eq_some_iff.1 hl).1
  have hj : j < N * N := by have := h.nls; omega
  have hB : W.heap[L.bl j]? = _ := h.lin j l hl
  have hne : ∀ (k : Nat) (x : Array Value) (t : TypeId), W.heap[k]? = some (Obj.cells x t (0, 0)) → t ≠ 94 → (W.setCell ⟨L.bl j, 0, none⟩ v).heap[k]? = W.heap[k]? := fun k x t hk ht => Below.heap_setCell W ⟨L.bl j, 0, none⟩ v k (ne_type hk hB ht)
  have hset : ∀ {m : Nat} {y : Ln}, (S.ls.set j { l with q := q })[m]? = some y → (m = j ∧ y = { l with q := q }) ∨ (m ≠ j ∧ S.ls[m]? = some y) := fun {m y} hm => by
    rw [List.getElem?_set] at hm
    split at hm
    · rename_i e
      injection hm with hm
      exact .inl ⟨e.symm, hm.symm⟩
    · rename_i e
      exact .inr ⟨fun h => e h.symm, hm⟩
  exact
   { nst := h.nst, nwt := h.nwt, nct := h.nct
     nls := by show (S.ls.set j { l with q := q }).length = N * N; rw [List.length_set]; exact h.nls
     main := h.main.keep (hne _ _ _ h.main (by decide))
     sts := h.sts.keep (hne _ _ _ h.sts (by decide))
     wtab := h.wtab.keep (hne _ _ _ h.wtab (by decide))
     wrow := fun m y hm => (h.wrow m y hm).keep (hne _ _ _ (h.wrow m y hm) (by decide))
     ctab := h.ctab.keep (hne _ _ _ h.ctab (by decide))
     crow := fun m y hm => (h.crow m y hm).keep (hne _ _ _ (h.crow m y hm) (by decide))
     ltab := h.ltab.keep (hne _ _ _ h.ltab (by decide))
     lin := fun m y hm => by
       rcases hset hm with ⟨rfl, rfl⟩ | ⟨hmj, hm⟩
       · have := (h.lin m l hl).put 0 v
         show Box _ (L.bl m) [(if m = m then v else L.lv m), _, _, _, _, _] _
         rw [if_pos rfl]
         exact this
       · have hmN : m < N * N := by have := (List.getElem?_eq_some_iff.1 hm).1; have := h.nls; omega
         have := (h.lin m y hm).other (p := ⟨L.bl j, 0, none⟩) (fun e => hmj (h.lap m j hmN hj e)) v
         show Box _ (L.bl m) [(if m = j then v else L.lv m), _, _, _, _, _] _
         rw [if_neg hmj]
         exact this
     lett := fun m y hm => by
       rcases hset hm with ⟨rfl, rfl⟩ | ⟨hmj, hm⟩
       · show OwnN _ _ _ (if m = m then v else L.lv m) q
         rw [if_pos rfl]
         exact hq.keep fun g hg => by
           obtain ⟨cur, hcur⟩ := ownN_heap hq hg
           exact hne _ _ _ hcur (by decide)
       · show OwnN _ _ _ (if m = j then v else L.lv m) y.q
         rw [if_neg hmj]
         exact (h.lett m y hm).keep fun g hg => by
           obtain ⟨cur, hcur⟩ := ownN_heap (h.lett m y hm) hg
           exact hne _ _ _ hcur (by decide)
     fly := fly_keep h.fly fun g hg => by
       obtain ⟨cur, hcur⟩ := fly_heap h.fly hg
       exact hne _ _ _ hcur (by decide)
     apart := fun r r' b h1 h2 h3 h4 => h.apart r r' b h1 h2 (by rw [← setQ_blk hv]; exact h3) (by rw [← setQ_blk hv]; exact h4)
     lap := h.lap, tabs := h.tabs, low := h.low
     lowi := fun r b h1 h2 => h.lowi r b h1 (by rw [← setQ_blk hv]; exact h2)
     lowl := h.lowl }
theorem Went.setQ {j : Nat} {v : Value} (hv : v.ownBlock = (L.lv j).ownBlock) (hj : j < N * N) (i : Nat) (u : Value) : Went N L W (L.setQ j v) (W.setCell ⟨L.bl j, i, none⟩ u) :=
  { Went.put (W := W) (i := i) (v := u) (show Mine L N (L.bl j) from .inr (.inr (.inr (.inr (.inr (.inr (.inr (.inl ⟨j, hj, rfl⟩)))))))) with
    mine := fun k _ hm => (setQ_mine hv k).1 hm, fix := ⟨_, _, rfl⟩ }
end

theorem drop_stop {l : Ln} {num : Nat} (h : num ≤ l.rm ∨ l.q = []) : l.drop num = l := by
  obtain ⟨q, rm, sn, ac⟩ := l
  unfold Ln.drop
  cases q with
  | nil => rfl
  | cons x r =>
    simp only at h ⊢
    have h2 : ¬ rm < num := by rcases h with h | h; omega; cases h
    unfold dropL
    rw [if_neg h2]
theorem drop_one {x : Int} {r : List Int} {rm sn ac num : Nat} (h : rm < num) : (⟨x :: r, rm, sn, ac⟩ : Ln).drop num = (⟨r, rm + 1, 0, ac⟩ : Ln).drop num := by
  unfold Ln.drop
  simp only
  rw [show dropL (x :: r) rm sn num = dropL r (rm + 1) 0 num from by rw [dropL, if_pos h]]
theorem OwnN.form {base : Nat} {e : TypeId} {w : World} {v : Value} {xs : List Int} (h : OwnN base e w v xs) : ∃ oa c, v = .slice oa xs.length c := by
  obtain ⟨oa, c, h1, _⟩ := h.slice
  exact ⟨oa, c, h1⟩
theorem OwnN.cons {base : Nat} {e : TypeId} {w : World} {v : Value} {x : Int} {r : List Int} (h : OwnN base e w v (x :: r)) : OwnQ base e w v (x :: r) := by
  rcases h with ⟨_, h⟩ | h
  · cases h
  · exact h

set_option maxRecDepth 100000 in
set_option maxHeartbeats 4000000 in
theorem drop_any {B N : Nat} {L : WLay} {oP : Option Addr} {cP : Nat} {oF : Option Addr} {nF cF : Nat} {S : Wr} {W : World} (h : Wires B N L oP cP oF nF cF S W) {j : Nat} {l : Ln} (hl : S.ls[j]? = some l) (num : Nat) (hnum : num ≤ 1000000000000) (hrm : l.rm + l.q.length ≤ 1000000000000) :
    Calls Try.prog 74 #[.pointer (some ⟨L.bl j, 0, none⟩), .int .i64 num] W fun e w' => e = .returned (.tuple #[]) ∧ ∃ L', Wires B N L' oP cP oF nF cF { S with ls := S.ls.set j (l.drop num) } w' ∧ Went N L W L' w' := by
  have hjl := (List.getElem?_eq_some_iff.1 hl).1
  have hj : j < N * N := by have := h.nls; omega
  have h0 : Hid (Wires B N L oP cP oF nF cF { S with ls := S.ls.set j l } W) := by
    show Wires _ _ _ _ _ _ _ _ _ _
    have e : S.ls.set j l = S.ls := by
      apply List.ext_getElem?
      intro i
      rw [List.getElem?_set]
      split
      · rename_i e; subst e; first | exact hl.symm | (rw [if_pos hjl]; exact hl.symm)
      · rfl
    rw [e]
    exact h
  have HJL := hide hjl
  clear h hl
  go_enter Try.func74, Try.ntmps74
  go_wp2_with fail
  go_loopg [] (l.q.length) (fun k wr => ∃ (L' : WLay) (l' : Ln), l'.q.length = k ∧ l'.rm + l'.q.length ≤ 1000000000000 ∧ Hid (l'.drop num = l.drop num) ∧ Hid (Wires B N L' oP cP oF nF cF { S with ls := S.ls.set j l' } wr) ∧ Hid (Went N L W L' wr))
  case atStart => exact ⟨L, l, rfl, hrm, rfl, h0, Went.refl _ _ _⟩
  case round =>
    clear h0
    obtain ⟨L', l', hk, hrm', HD, HW, HG⟩ := hrel
    have hls : (S.ls.set j l')[j]? = some l' := List.getElem?_set_self HJL.out
    have hbx := HW.out.lin j l' hls
    rw [HG.out.bl] at hbx
    have hbl : L'.bl j = L.bl j := by rw [HG.out.bl]
    obtain ⟨q, rm, sn, ac⟩ := l'
    have c0 := hbx.cell 0
    have c1 := hbx.cell 1
    simp only [lnC, List.getElem?_cons_zero, List.getElem?_cons_succ] at c0 c1
    by_cases h1 : rm < num
    · cases q with
      | nil =>
        obtain ⟨oa, cc, hv⟩ := (HW.out.lett j _ hls).form
        rw [hv] at c0
        simp only [List.length_nil] at c0
        have HE : Hid (l.drop num = ⟨[], rm, sn, ac⟩) := by show _ = _; rw [← HD.out]; exact drop_stop (.inr rfl)
        have q1 : decide ((rm : Int) < (num : Int)) = true := by simp; omega
        clear hls hbx hbl hv hk
        go_wp2_with fail
        go_end0
        exact ⟨rfl, L', by rw [HE.out]; exact HW.out, HG.out⟩
      | cons x r =>
        obtain ⟨g, o, cap, hv, hg1, hg2, hrc, hcm, cx, ix, hq⟩ := OwnQ.head ((HW.out.lett j _ hls).cons)
        rw [hv] at c0
        have hvb : ∀ a : Addr, a.block = g → ∀ n m, (Value.slice (some a) n m).ownBlock = (L'.lv j).ownBlock := fun a ha n m => by rw [hv]; simp [Value.ownBlock, ha]
        have q1 : decide ((rm : Int) < (num : Int)) = true := by simp; omega
        obtain ⟨a, ha, hab⟩ : ∃ a : Addr, a = (if cap = 0 then ⟨g, o, none⟩ else ⟨g, o + 1, none⟩) ∧ a.block = g := ⟨_, rfl, by split <;> rfl⟩
        rw [← ha] at hq
        obtain ⟨rl, hrl⟩ : ∃ rl, rl = r.length := ⟨_, rfl⟩
        rw [← hrl] at hq
        have h1W := HW.out.setQ hls (hvb a hab rl cap) (.inr hq)
        have h1G := HG.out.trans (Went.setQ (W := wr) (hvb a hab rl cap) hj 0 (.slice (some a) rl cap))
        rw [hbl] at h1W h1G
        obtain ⟨W1, hW1⟩ : ∃ W1, wr.setCell ⟨L.bl j, 0, none⟩ (.slice (some a) rl cap) = W1 := ⟨_, rfl⟩
        rw [hW1] at h1W h1G
        simp only [List.set_set] at h1W
        have hls1 : (S.ls.set j (⟨r, rm, sn, ac⟩ : Ln))[j]? = some ⟨r, rm, sn, ac⟩ := List.getElem?_set_self HJL.out
        have h2W := h1W.setLine hls1 (l' := ⟨r, rm + 1, sn, ac⟩) rfl 1 (.int .i64 ((rm : Int) + 1)) (by simp [lnC])
        have hb1 := h1W.lin j _ hls1
        have hbl1 : (L'.setQ j (.slice (some a) rl cap)).bl j = L.bl j := hbl
        rw [hbl1] at h2W hb1
        have e1 := hb1.cell 1
        simp only [lnC, List.getElem?_cons_zero, List.getElem?_cons_succ] at e1
        have f0 := hbx.free 0
        have f1 := hb1.free 1
        have h2G := h1G.trans (Went.put (W := W1) (i := 1) (v := .int .i64 ((rm : Int) + 1)) (show Mine (L'.setQ j (.slice (some a) rl cap)) N (L.bl j) from .inr (.inr (.inr (.inr (.inr (.inr (.inr (.inl ⟨j, hj, hbl1.symm⟩)))))))))
        obtain ⟨W2, hW2⟩ : ∃ W2, W1.setCell ⟨L.bl j, 1, none⟩ (.int .i64 ((rm : Int) + 1)) = W2 := ⟨_, rfl⟩
        rw [hW2] at h2W h2G
        simp only [List.set_set] at h2W
        have hls2 : (S.ls.set j (⟨r, rm + 1, sn, ac⟩ : Ln))[j]? = some ⟨r, rm + 1, sn, ac⟩ := List.getElem?_set_self HJL.out
        have h3W := h2W.setLine hls2 (l' := ⟨r, rm + 1, 0, ac⟩) rfl 2 (.int .i64 0) (by simp [lnC])
        have hb2 := h2W.lin j _ hls2
        rw [hbl1] at h3W hb2
        have f2 := hb2.free 2
        have e2 := hb2.cell 2
        simp only [lnC, List.getElem?_cons_zero, List.getElem?_cons_succ] at e2
        simp only [List.set_set] at h3W
        have h3G := h2G.trans (Went.put (W := W2) (i := 2) (v := .int .i64 0) (show Mine (L'.setQ j (.slice (some a) rl cap)) N (L.bl j) from .inr (.inr (.inr (.inr (.inr (.inr (.inr (.inl ⟨j, hj, hbl1.symm⟩)))))))))
        have HX := hide h3W
        have HY := hide h3G
        have HD2 : Hid ((⟨r, rm + 1, 0, ac⟩ : Ln).drop num = l.drop num) := by show _ = _; rw [← HD.out]; exact (drop_one h1).symm
        have hk2 : r.length < gk := by simp at hk; omega
        have hr3 : rm + 1 + r.length ≤ 1000000000000 := by simp at hrm'; omega
        clear hls hbx hbl hv h1W h1G h2W h2G h3W h3G hls1 hls2 hb1 hb2 hbl1 hq hvb hk hrm' cx ix
        by_cases hcap : cap = 0
        · rw [if_pos hcap] at ha
          subst ha
          subst hcap
          have hr0 : r = [] := List.eq_nil_of_length_eq_zero (by omega)
          subst hr0
          simp only [List.length_nil] at hrl
          subst hrl
          try simp only [List.length_cons, List.length_nil] at c0
          clear hab hrc
          go_wp2_with fail
          go_roundg 0
          case measure => simpa using hk2
          case rel => exact ⟨_, _, rfl, hr3, HD2, HX, HY⟩
        · rw [if_neg hcap] at ha
          subst ha
          have hrl2 := hide hrl
          subst hrl
          try simp only [List.length_cons] at c0
          clear hab
          go_wp2_with fail
          go_roundg r.length
          case measure => exact hk2
          case rel => exact ⟨_, _, rfl, hr3, HD2, HX, HY⟩
    · have HE : Hid (l.drop num = ⟨q, rm, sn, ac⟩) := by show _ = _; rw [← HD.out]; exact drop_stop (.inl (by simp only; omega))
      have q1 : decide ((rm : Int) < (num : Int)) = false := by simp; omega
      clear hls hbx hbl hk c0
      go_wp2_with fail
      go_end0
      exact ⟨rfl, L', by rw [HE.out]; exact HW.out, HG.out⟩

end Go.Proofs.Ytnigfddanoaonaa

set_option linter.unusedVariables false
set_option linter.unusedSimpArgs false
set_option linter.unnecessarySimpa false
namespace Go.Proofs.Ytnigfddanoaonaa
open Go.RowKit

section
variable {B N : Nat} {L : WLay} {oP : Option Addr} {cP : Nat} {oF : Option Addr} {nF cF : Nat} {S : Wr} {W W' : World}
/-- A packet more is under way. -/
theorem Wires.pushFly (h : Wires B N L oP cP oF nF cF S W) {x : Pk × Nat} {v : Value} {W1 : World} (hown : OwnS (arrR L.bl) 2 B 120 Non W1 v (S.fl ++ [x])) (hg : ∀ k, k < W.heap.size → some k ≠ L.fv.ownBlock → W1.heap[k]? = W.heap[k]?) (hB : Below B W W1)
    (hat : ∀ k, v.ownBlock = some k → L.fv.ownBlock = some k ∨ W.heap.size ≤ k) :
    Wires B N { L with fv := v } oP cP oF nF cF { S with fl := S.fl ++ [x] } (W1.setCell ⟨L.p, 6, none⟩ v) ∧ Went N L W { L with fv := v } (W1.setCell ⟨L.p, 6, none⟩ v) := by
  have hfly : ∀ {k : Nat} {x : Array Value} {t : TypeId}, W.heap[k]? = some (Obj.cells x t (0, 0)) → t ≠ 120 → some k ≠ L.fv.ownBlock := fun {k x t} hk ht e => by
    obtain ⟨cur, hcur⟩ := fly_heap h.fly e.symm
    rw [hk] at hcur
    injection hcur with hcur
    injection hcur with _ h2
    exact ht h2
  have n1 : ∀ (k : Nat) (x : Array Value) (t : TypeId), W.heap[k]? = some (Obj.cells x t (0, 0)) → t ≠ 120 → W1.heap[k]? = W.heap[k]? := fun k x t hk ht => by
    have hlt := (Array.getElem?_eq_some_iff.1 hk).1
    exact hg k hlt (hfly hk ht)
  have hm1 : Box W1 L.p (mainC L N oP cP oF nF cF S) 65 := h.main.keep (n1 _ _ _ h.main (by decide))
  have n2 : ∀ (k : Nat) (x : Array Value) (t : TypeId), W.heap[k]? = some (Obj.cells x t (0, 0)) → t ≠ 120 → t ≠ 65 → (W1.setCell ⟨L.p, 6, none⟩ v).heap[k]? = W.heap[k]? := fun k x t hk ht ht2 => by
    rw [Below.heap_setCell W1 ⟨L.p, 6, none⟩ v k (ne_type hk h.main ht2)]
    exact n1 k x t hk ht
  refine ⟨{ nst := h.nst, nwt := h.nwt, nct := h.nct, nls := h.nls
            main := by
              have := hm1.put 6 v
              exact this
            sts := h.sts.keep (n2 _ _ _ h.sts (by decide) (by decide))
            wtab := h.wtab.keep (n2 _ _ _ h.wtab (by decide) (by decide))
            wrow := fun i l hl => (h.wrow i l hl).keep (n2 _ _ _ (h.wrow i l hl) (by decide) (by decide))
            ctab := h.ctab.keep (n2 _ _ _ h.ctab (by decide) (by decide))
            crow := fun i l hl => (h.crow i l hl).keep (n2 _ _ _ (h.crow i l hl) (by decide) (by decide))
            ltab := h.ltab.keep (n2 _ _ _ h.ltab (by decide) (by decide))
            lin := fun j l hl => (h.lin j l hl).keep (n2 _ _ _ (h.lin j l hl) (by decide) (by decide))
            lett := fun j l hl => (h.lett j l hl).keep fun g hgg => by
              obtain ⟨cur, hcur⟩ := ownN_heap (h.lett j l hl) hgg
              exact n2 _ _ _ hcur (by decide) (by decide)
            fly := fly_keep hown fun g hgg => by
              obtain ⟨cur, hcur⟩ := fly_heap hown hgg
              exact Below.heap_setCell W1 ⟨L.p, 6, none⟩ v g (ne_type hcur hm1 (by decide))
            apart := h.apart, lap := h.lap, tabs := h.tabs, low := h.low, lowi := h.lowi, lowl := h.lowl }, ?_⟩
  refine { os := hB.os, tape := hB.tape, output := hB.output
           size := by show W.heap.size ≤ (W1.heap.modify _ _).size; rw [Array.size_modify]; exact hB.size
           block := fun k hk hm => ?_
           mine := fun k hk hm => ?_
           fix := ⟨_, _, rfl⟩ }
  · rw [Below.heap_setCell W1 ⟨L.p, 6, none⟩ v k fun e => hm (.inl e)]
    exact hg k hk fun e => hm (.inr (.inr (.inr (.inr (.inr (.inr (.inr (.inr (.inr e.symm)))))))))
  · rcases hm with e | e | e | e | e | e | e | e | e | e
    · exact .inl e
    · exact .inr (.inl e)
    · exact .inr (.inr (.inl e))
    · exact .inr (.inr (.inr (.inl e)))
    · exact .inr (.inr (.inr (.inr (.inl e))))
    · exact .inr (.inr (.inr (.inr (.inr (.inl e)))))
    · exact .inr (.inr (.inr (.inr (.inr (.inr (.inl e))))))
    · exact .inr (.inr (.inr (.inr (.inr (.inr (.inr (.inl e)))))))
    · exact .inr (.inr (.inr (.inr (.inr (.inr (.inr (.inr (.inl e))))))))
    · rcases hat k e with h2 | h2
      · exact .inr (.inr (.inr (.inr (.inr (.inr (.inr (.inr (.inr h2))))))))
      · omega
theorem Wires.mine_lt (h : Wires B N L oP cP oF nF cF S W) {k : Nat} (hm : Mine L N k) : k < W.heap.size := by
  rcases hm with e | e | e | e | e | ⟨i, hi, e⟩ | ⟨i, hi, e⟩ | ⟨j, hj, e⟩ | ⟨j, hj, e⟩ | e
  · rw [e]; exact h.main.lt
  · rw [e]; exact h.sts.lt
  · rw [e]; exact h.wtab.lt
  · rw [e]; exact h.ctab.lt
  · rw [e]; exact h.ltab.lt
  · rw [e]; exact (h.wrow i _ (List.getElem?_eq_getElem (by have := h.nwt; omega))).lt
  · rw [e]; exact (h.crow i _ (List.getElem?_eq_getElem (by have := h.nct; omega))).lt
  · rw [e]; exact (h.lin j _ (List.getElem?_eq_getElem (by have := h.nls; omega))).lt
  · exact ((h.lett j _ (List.getElem?_eq_getElem (by have := h.nls; omega))).block k e).2
  · exact (h.fly.block k e).2
theorem Wires.fly_ne (h : Wires B N L oP cP oF nF cF S W) : some L.p ≠ L.fv.ownBlock := fun e => by
  obtain ⟨cur, hcur⟩ := fly_heap h.fly e.symm
  have hm : W.heap[L.p]? = _ := h.main
  rw [hm] at hcur
  injection hcur with hcur
  injection hcur with _ h2
  exact absurd h2 (by decide)
theorem arrInfo : (Try.prog.info? 120).map (fun i => (i.zero, i.size, i.bytes)) = some (some (.agg #[.nilIface, .int .i64 0]), 2, 24) := by kernel_rfl
theorem Wires.drewN (h : Wires B N L oP cP oF nF cF S W) (n : Nat) : Wires B N L oP cP oF nF cF S (W.drewN n) := h.keep fun _ _ _ => rfl

set_option maxRecDepth 100000 in
set_option maxHeartbeats 4000000 in
theorem send_any (h : Wires B N L oP cP oF nF cF S W) (fates : List Int) (hnF : nF = fates.length) (hF : SliceR intR 1 (Lt B) W oF fates) (hB : B ≤ W.heap.size) (p : Pk) (hse : S.se ≤ 1000000000000) (htk : S.tk ≤ 1000000000000) (hfl : S.fl.length ≤ 1000000000) (hfc : fates.length ≤ 9223372036854775807) :
    Calls Try.prog 47 #[.pointer (some ⟨L.p, 0, none⟩), pkV L.bl p] W fun e w' => e = .returned (.tuple #[]) ∧ ∃ L', Wires B N L' oP cP oF nF cF (sendS fates p S) w' ∧ Went N L W L' w' := by
  subst hnF
  obtain ⟨f, hf⟩ : ∃ f, f = fateS fates S.se := ⟨_, rfl⟩
  obtain ⟨_, _, _, _, _, c5, _, _, c8, _⟩ := h.cells
  obtain ⟨tp, xp, hpv⟩ : ∃ (tp : TypeId) (xp : Value), Value.iface tp xp = pkV L.bl p := by cases p <;> exact ⟨_, _, rfl⟩
  have HH := hide h
  have HPV := hide hpv
  have HFF := hide hf
  rw [← hpv]
  clear h hpv
  go_enter Try.func47, Try.ntmps47
  go_wp2_with fail
  go_quiet (fail)
  go_upto_if 17 with fail
  go_cut [4] (fun s4 wx => s4 = .int .i64 f ∧ Hid (Wires B N L oP cP oF fates.length cF S wx) ∧ Hid (Went N L W L wx))
  case first =>
    by_cases hlt : S.se < fates.length
    · obtain ⟨y, _, hy, iy, b, off, hod, _, cf⟩ := hF.int_at hlt
      subst hod
      have hyf : y = f := by rw [hf]; unfold fateS; rw [List.getD_eq_getElem?_getD, hy]; rfl
      subst hyf
      have q1 : decide ((S.se : Int) < (fates.length : Int)) = true := by simp; omega
      clear hf hy
      go_wp2_with fail
      go_quiet (fail)
      go_wp2_with fail
      go_meet
      exact ⟨rfl, (HH.out.drewN _).drewN _, (Went.drew _).trans (Went.drew _)⟩
    · have hy : f = 0 := by rw [hf]; unfold fateS; rw [List.getD_eq_getElem?_getD, List.getElem?_eq_none (by omega)]; rfl
      have q1 : decide ((S.se : Int) < (fates.length : Int)) = false := by simp; omega
      clear hf
      subst hy
      go_wp2_with fail
      go_meet
      exact ⟨rfl, HH.out.drewN _, Went.drew _⟩
  case rest =>
    obtain ⟨rfl, HW1, HG1⟩ := hcut
    obtain ⟨_, _, _, _, _, _, _, _, d8, _⟩ := HW1.out.cells
    have f8 := HW1.out.main.free 8
    have HW2 := hide (HW1.out.setSent (S.se + 1))
    have HG2 := hide (HG1.out.trans (Went.put (W := wc) (i := 8) (v := .int .i64 (S.se + 1 : Nat)) (show Mine L N L.p from .inl rfl)))
    clear c5 c8 hf
    obtain ⟨W2, hW2⟩ : ∃ W2, wc.setCell ⟨L.p, 8, none⟩ (.int .i64 ((S.se : Int) + 1)) = W2 := ⟨_, rfl⟩
    rw [show (((S.se + 1 : Nat) : Int)) = (S.se : Int) + 1 from by omega, hW2] at HW2 HG2
    by_cases f0 : f = 0
    · have q0 : (f == 0) = true := by simp [f0]
      have hd : Hid (delayS f = [1]) := by show _ = _; unfold delayS; rw [if_pos f0]
      clear f0
      obtain ⟨W3, hW3⟩ : ∃ W3, W2.alloc (.cells #[.int .i64 1] 3) = W3 := ⟨_, rfl⟩
      have bb := bnew (Below.refl W2.heap.size W2) (.cells #[.int .i64 1] 3)
      have gg := Went.new (N := N) (L := L) (W := W2) (.cells #[.int .i64 1] 3)
      have bx := Box.new W2 [.int .i64 1] 3
      rw [hW3] at bb gg
      rw [show W2.alloc (.cells ([.int .i64 1] : List Value).toArray 3) = W3 from hW3] at bx
      have HW3 := hide (HW2.out.below bb)
      have HG3 := hide (HG2.out.trans gg)
      have cd := bx.cell 0
      simp only [List.getElem?_cons_zero] at cd
      have HB3 : Hid (B ≤ W3.heap.size) := by show _ ≤ _; have := HG3.out.size; omega
      clear bb gg bx
      go_wp2_with fail
      go_loopw [47] (fun iv wr => (iv = .int .i64 0 ∧ wr = W3) ∨ (iv = .int .i64 1 ∧ ∃ L', Hid (Wires B N L' oP cP oF fates.length cF (sendS fates p S) wr) ∧ Hid (Went N L W L' wr))) (fun iv _ => 1 - (intOf iv).toNat)
      case atStart => exact .inl ⟨rfl, by first | rfl | trivial⟩
      case round =>
        rcases hrel with ⟨rfl, rfl⟩ | ⟨rfl, L', HX, HY⟩
        · obtain ⟨_, _, _, _, _, _, g6, g7, _, _⟩ := HW3.out.cells
          have gf := HW3.out.main.free 6
          obtain ⟨ofl, cfl, hfv⟩ : ∃ oa c, L.fv = .slice oa S.fl.length c := by
            obtain ⟨oa, c, e, _, _⟩ := HW3.out.fly.slice (arr_ok _)
            exact ⟨oa, c, e⟩
          rw [hfv] at g6
          have HFV := hide hfv
          have hnf := HW3.out.fly_ne
          have HNF := hide hnf
          clear hfv hnf
          have g6n := cell_next g6 (.cells #[.iface tp xp, .int .i64 ((S.tk : Int) + 1)] 120)
          have hwr : IntKind.i64.wrap ((S.tk : Int) + 1) = (S.tk : Int) + 1 := by unfold IntKind.wrap; simp [IntKind.signed, IntKind.bits]; omega
          go_wp2_with fail
          go_region_law (refine step_append_at rfl (.tmp 55) (.tmp 64) 63 rfl B 120 _ 2 24 Try.underlying63 arrInfo rfl (by decide) (arr_ok L.bl) Non L.fv S.fl (by simp [Act.eval, Act.put, HFV.out]) ((HW3.out.fly.new (arr_ok _) _).draw (arr_ok _)) ⟨_, 0, none⟩ 1 [.iface tp xp, .int .i64 ((S.tk : Int) + 1)] (p, S.tk + 1) (by simp [Act.eval, Act.put]) (World.news_of_block (heap_alloc_new _ _)) (by show _ = _; rw [HPV.out]; simp) (fun _ h => h.elim) (by omega) (by unfold maxLen; omega) (by have := HB3.out; simp; omega) ?_; intro v' w3 ho hb hg hat; have hbm := ((HW3.out.main.next _).draw).grown hg HNF.out; have k6 := hbm.cell 6; have kf := hbm.free 6; obtain ⟨o3, c3, rfl, _, _⟩ := ho.slice (arr_ok _); simp only [mainC, List.getElem?_cons_zero, List.getElem?_cons_succ] at k6)
          all_goals
            have hpf := HW3.out.pushFly ho (fun k hk hne => (hg.block k (by show k < (wr.alloc _).heap.size; simp; omega) hne).trans (Below.heap_alloc wr _ k hk)) (((bnew (Below.refl _ _) _).drew.mono HB3.out).trans hb) (fun k hk => (hat k hk).imp id fun e => by rw [e]; show wr.heap.size ≤ (wr.alloc _).heap.size; simp)
            simp only [List.length_append, List.length_cons, List.length_nil, Nat.zero_add] at hpf
            have HE : Hid (sendS fates p S = { S with se := S.se + 1, fl := S.fl ++ [(p, S.tk + 1)] }) := by
              show _ = _
              unfold sendS
              rw [← HFF.out, hd.out]
              simp
            have HX := hide hpf.1
            have HY := hide (HG3.out.trans hpf.2)
            clear hpf ho hg hb hat hbm k6 kf g6 g6n g7 gf hwr
            go_wp2_with fail
            go_roundw
            case rel => exact .inr ⟨by go_num, _, by rw [HE.out]; exact HX, HY⟩
            case measure => simp [intOf]
        · go_wp2_with fail
          go_end0
          exact ⟨rfl, L', HX.out, HY.out⟩
    · have q0 : (f == 0) = false := by simpa using f0
      by_cases f2 : f = 2
      · have q2 : (f == 2) = true := by simp [f2]
        have hd : Hid (delayS f = [1, 2]) := by show _ = _; unfold delayS; rw [if_neg f0, if_pos f2]
        clear f0 f2
        obtain ⟨W3, hW3⟩ : ∃ W3, W2.alloc (.cells #[.int .i64 1, .int .i64 2] 3) = W3 := ⟨_, rfl⟩
        have bb := bnew (Below.refl W2.heap.size W2) (.cells #[.int .i64 1, .int .i64 2] 3)
        have gg := Went.new (N := N) (L := L) (W := W2) (.cells #[.int .i64 1, .int .i64 2] 3)
        have bx := Box.new W2 [.int .i64 1, .int .i64 2] 3
        rw [hW3] at bb gg
        rw [show W2.alloc (.cells ([.int .i64 1, .int .i64 2] : List Value).toArray 3) = W3 from hW3] at bx
        have HW3 := hide (HW2.out.below bb)
        have HG3 := hide (HG2.out.trans gg)
        have cd := bx.cell 0
        simp only [List.getElem?_cons_zero] at cd
        have HB3 : Hid (B ≤ W3.heap.size) := by show _ ≤ _; have := HG3.out.size; omega
        have HBX := hide bx
        have HNM : Hid (¬ Mine L N W2.heap.size) := fun hm => by have := HW2.out.mine_lt hm; omega
        clear bb gg bx
        go_wp2_with fail
        go_loopw [47] (fun iv wr => (iv = .int .i64 0 ∧ wr = W3) ∨ (iv = .int .i64 1 ∧ ∃ L', Hid (Wires B N L' oP cP oF fates.length cF { S with se := S.se + 1, fl := S.fl ++ [(p, S.tk + 1)] } wr) ∧ Hid (Went N L W L' wr) ∧ Hid (Box wr W2.heap.size [.int .i64 1, .int .i64 2] 3)) ∨ (iv = .int .i64 2 ∧ ∃ L', Hid (Wires B N L' oP cP oF fates.length cF (sendS fates p S) wr) ∧ Hid (Went N L W L' wr))) (fun iv _ => 2 - (intOf iv).toNat)
        case atStart => exact .inl ⟨rfl, by first | rfl | trivial⟩
        case round =>
          rcases hrel with ⟨rfl, rfl⟩ | ⟨rfl, L', HX1, HY1, HZ1⟩ | ⟨rfl, L', HX, HY⟩
          · obtain ⟨_, _, _, _, _, _, g6, g7, _, _⟩ := HW3.out.cells
            have gf := HW3.out.main.free 6
            obtain ⟨ofl, cfl, hfv⟩ : ∃ oa c, L.fv = .slice oa S.fl.length c := by
              obtain ⟨oa, c, e, _, _⟩ := HW3.out.fly.slice (arr_ok _)
              exact ⟨oa, c, e⟩
            rw [hfv] at g6
            have HFV := hide hfv
            have hnf := HW3.out.fly_ne
            have HNF := hide hnf
            clear hfv hnf
            have g6n := cell_next g6 (.cells #[.iface tp xp, .int .i64 ((S.tk : Int) + 1)] 120)
            have hwr : IntKind.i64.wrap ((S.tk : Int) + 1) = (S.tk : Int) + 1 := by unfold IntKind.wrap; simp [IntKind.signed, IntKind.bits]; omega
            go_wp2_with fail
            go_region_law (refine step_append_at rfl (.tmp 55) (.tmp 64) 63 rfl B 120 _ 2 24 Try.underlying63 arrInfo rfl (by decide) (arr_ok L.bl) Non L.fv S.fl (by simp [Act.eval, Act.put, HFV.out]) ((HW3.out.fly.new (arr_ok _) _).draw (arr_ok _)) ⟨_, 0, none⟩ 1 [.iface tp xp, .int .i64 ((S.tk : Int) + 1)] (p, S.tk + 1) (by simp [Act.eval, Act.put]) (World.news_of_block (heap_alloc_new _ _)) (by show _ = _; rw [HPV.out]; simp) (fun _ h => h.elim) (by omega) (by unfold maxLen; omega) (by have := HB3.out; simp; omega) ?_; intro v' w3 ho hb hg hat; have hbm := ((HW3.out.main.next _).draw).grown hg HNF.out; have k6 := hbm.cell 6; have kf := hbm.free 6; obtain ⟨o3, c3, rfl, _, _⟩ := ho.slice (arr_ok _); simp only [mainC, List.getElem?_cons_zero, List.getElem?_cons_succ] at k6)
            all_goals
              have hpf := HW3.out.pushFly ho (fun k hk hne => (hg.block k (by show k < (wr.alloc _).heap.size; simp; omega) hne).trans (Below.heap_alloc wr _ k hk)) (((bnew (Below.refl _ _) _).drew.mono HB3.out).trans hb) (fun k hk => (hat k hk).imp id fun e => by rw [e]; show wr.heap.size ≤ (wr.alloc _).heap.size; simp)
              simp only [List.length_append, List.length_cons, List.length_nil, Nat.zero_add] at hpf
              have HX := hide hpf.1
              have HZ := hide (HBX.out.keep (hpf.2.block _ HBX.out.lt HNM.out))
              have HY := hide (HG3.out.trans hpf.2)
              clear hpf ho hg hb hat hbm k6 kf g6 g6n g7 gf hwr
              go_wp2_with fail
              go_roundw
              case rel => exact .inr (.inl ⟨by go_num, _, HX, HY, HZ⟩)
              case measure => simp [intOf]
          · have hp1 := HY1.out.p
            have hbl1 := HY1.out.bl
            obtain ⟨_, _, _, _, _, _, g6, g7, _, _⟩ := HX1.out.cells
            have gf := HX1.out.main.free 6
            have cd := HZ1.out.cell 1
            simp only [List.getElem?_cons_zero, List.getElem?_cons_succ] at cd
            have HB1 : Hid (B ≤ wr.heap.size) := by show _ ≤ _; have := HY1.out.size; omega
            rw [hp1] at g6 g7 gf
            obtain ⟨ofl, cfl, hfv⟩ : ∃ oa c, L'.fv = .slice oa (S.fl ++ [(p, S.tk + 1)]).length c := by
              obtain ⟨oa, c, e, _, _⟩ := HX1.out.fly.slice (arr_ok _)
              exact ⟨oa, c, e⟩
            rw [hfv] at g6
            have HFV := hide hfv
            have hnf := HX1.out.fly_ne
            have HNF := hide hnf
            clear hfv hnf
            have g6n := cell_next g6 (.cells #[.iface tp xp, .int .i64 ((S.tk : Int) + 2)] 120)
            have hwr : IntKind.i64.wrap ((S.tk : Int) + 2) = (S.tk : Int) + 2 := by unfold IntKind.wrap; simp [IntKind.signed, IntKind.bits]; omega
            go_wp2_with fail
            go_region_law (refine step_append_at rfl (.tmp 55) (.tmp 64) 63 rfl B 120 _ 2 24 Try.underlying63 arrInfo rfl (by decide) (arr_ok L'.bl) Non L'.fv (S.fl ++ [(p, S.tk + 1)]) (by simp [Act.eval, Act.put, HFV.out]) ((HX1.out.fly.new (arr_ok _) _).draw (arr_ok _)) ⟨_, 0, none⟩ 1 [.iface tp xp, .int .i64 ((S.tk : Int) + 2)] (p, S.tk + 2) (by simp [Act.eval, Act.put]) (World.news_of_block (heap_alloc_new _ _)) (by show _ = _; rw [HPV.out, hbl1]; simp) (fun _ h => h.elim) (by simp; omega) (by simp; unfold maxLen; omega) (by have := HB1.out; simp; omega) ?_; intro v' w3 ho hb hg hat; have hbm := ((HX1.out.main.next _).draw).grown hg HNF.out; rw [hp1] at hbm; have k6 := hbm.cell 6; have kf := hbm.free 6; obtain ⟨o3, c3, rfl, _, _⟩ := ho.slice (arr_ok _); simp only [mainC, List.getElem?_cons_zero, List.getElem?_cons_succ] at k6)
            all_goals
              have hpf := HX1.out.pushFly ho (fun k hk hne => (hg.block k (by show k < (wr.alloc _).heap.size; simp; omega) hne).trans (Below.heap_alloc wr _ k hk)) (((bnew (Below.refl _ _) _).drew.mono HB1.out).trans hb) (fun k hk => (hat k hk).imp id fun e => by rw [e]; show wr.heap.size ≤ (wr.alloc _).heap.size; simp)
              simp only [List.length_append, List.length_cons, List.length_nil, Nat.zero_add] at hpf
              rw [hp1] at hpf
              have HE : Hid (sendS fates p S = { S with se := S.se + 1, fl := S.fl ++ [(p, S.tk + 1)] ++ [(p, S.tk + 2)] }) := by
                show _ = _
                unfold sendS
                rw [← HFF.out, hd.out]
                simp
              have HX := hide hpf.1
              have HY := hide (HY1.out.trans hpf.2)
              clear hpf ho hg hb hat hbm k6 kf g6 g6n g7 gf hwr
              go_wp2_with fail
              go_roundw
              case rel => exact .inr (.inr ⟨by go_num, _, by rw [HE.out]; exact HX, HY⟩)
              case measure => simp [intOf]
          · go_wp2_with fail
            go_end0
            exact ⟨rfl, L', HX.out, HY.out⟩
      · have q2 : (f == 2) = false := by simpa using f2
        by_cases f3 : f = 3
        · have q3 : (f == 3) = true := by simp [f3]
          have hd : Hid (delayS f = [6]) := by show _ = _; unfold delayS; rw [if_neg f0, if_neg f2, if_pos f3]
          clear f0 f2 f3
          obtain ⟨W3, hW3⟩ : ∃ W3, W2.alloc (.cells #[.int .i64 6] 3) = W3 := ⟨_, rfl⟩
          have bb := bnew (Below.refl W2.heap.size W2) (.cells #[.int .i64 6] 3)
          have gg := Went.new (N := N) (L := L) (W := W2) (.cells #[.int .i64 6] 3)
          have bx := Box.new W2 [.int .i64 6] 3
          rw [hW3] at bb gg
          rw [show W2.alloc (.cells ([.int .i64 6] : List Value).toArray 3) = W3 from hW3] at bx
          have HW3 := hide (HW2.out.below bb)
          have HG3 := hide (HG2.out.trans gg)
          have cd := bx.cell 0
          simp only [List.getElem?_cons_zero] at cd
          have HB3 : Hid (B ≤ W3.heap.size) := by show _ ≤ _; have := HG3.out.size; omega
          clear bb gg bx
          go_wp2_with fail
          go_loopw [47] (fun iv wr => (iv = .int .i64 0 ∧ wr = W3) ∨ (iv = .int .i64 1 ∧ ∃ L', Hid (Wires B N L' oP cP oF fates.length cF (sendS fates p S) wr) ∧ Hid (Went N L W L' wr))) (fun iv _ => 1 - (intOf iv).toNat)
          case atStart => exact .inl ⟨rfl, by first | rfl | trivial⟩
          case round =>
            rcases hrel with ⟨rfl, rfl⟩ | ⟨rfl, L', HX, HY⟩
            · obtain ⟨_, _, _, _, _, _, g6, g7, _, _⟩ := HW3.out.cells
              have gf := HW3.out.main.free 6
              obtain ⟨ofl, cfl, hfv⟩ : ∃ oa c, L.fv = .slice oa S.fl.length c := by
                obtain ⟨oa, c, e, _, _⟩ := HW3.out.fly.slice (arr_ok _)
                exact ⟨oa, c, e⟩
              rw [hfv] at g6
              have HFV := hide hfv
              have hnf := HW3.out.fly_ne
              have HNF := hide hnf
              clear hfv hnf
              have g6n := cell_next g6 (.cells #[.iface tp xp, .int .i64 ((S.tk : Int) + 6)] 120)
              have hwr : IntKind.i64.wrap ((S.tk : Int) + 6) = (S.tk : Int) + 6 := by unfold IntKind.wrap; simp [IntKind.signed, IntKind.bits]; omega
              go_wp2_with fail
              go_region_law (refine step_append_at rfl (.tmp 55) (.tmp 64) 63 rfl B 120 _ 2 24 Try.underlying63 arrInfo rfl (by decide) (arr_ok L.bl) Non L.fv S.fl (by simp [Act.eval, Act.put, HFV.out]) ((HW3.out.fly.new (arr_ok _) _).draw (arr_ok _)) ⟨_, 0, none⟩ 1 [.iface tp xp, .int .i64 ((S.tk : Int) + 6)] (p, S.tk + 6) (by simp [Act.eval, Act.put]) (World.news_of_block (heap_alloc_new _ _)) (by show _ = _; rw [HPV.out]; simp) (fun _ h => h.elim) (by omega) (by unfold maxLen; omega) (by have := HB3.out; simp; omega) ?_; intro v' w3 ho hb hg hat; have hbm := ((HW3.out.main.next _).draw).grown hg HNF.out; have k6 := hbm.cell 6; have kf := hbm.free 6; obtain ⟨o3, c3, rfl, _, _⟩ := ho.slice (arr_ok _); simp only [mainC, List.getElem?_cons_zero, List.getElem?_cons_succ] at k6)
              all_goals
                have hpf := HW3.out.pushFly ho (fun k hk hne => (hg.block k (by show k < (wr.alloc _).heap.size; simp; omega) hne).trans (Below.heap_alloc wr _ k hk)) (((bnew (Below.refl _ _) _).drew.mono HB3.out).trans hb) (fun k hk => (hat k hk).imp id fun e => by rw [e]; show wr.heap.size ≤ (wr.alloc _).heap.size; simp)
                simp only [List.length_append, List.length_cons, List.length_nil, Nat.zero_add] at hpf
                have HE : Hid (sendS fates p S = { S with se := S.se + 1, fl := S.fl ++ [(p, S.tk + 6)] }) := by
                  show _ = _
                  unfold sendS
                  rw [← HFF.out, hd.out]
                  simp
                have HX := hide hpf.1
                have HY := hide (HG3.out.trans hpf.2)
                clear hpf ho hg hb hat hbm k6 kf g6 g6n g7 gf hwr
                go_wp2_with fail
                go_roundw
                case rel => exact .inr ⟨by go_num, _, by rw [HE.out]; exact HX, HY⟩
                case measure => simp [intOf]
            · go_wp2_with fail
              go_end0
              exact ⟨rfl, L', HX.out, HY.out⟩
        · have q3 : (f == 3) = false := by simpa using f3
          have hd : Hid (delayS f = []) := by show _ = _; unfold delayS; rw [if_neg f0, if_neg f2, if_neg f3]
          clear f0 f2 f3
          go_wp2_with fail
          go_loopw [47] (fun iv wr => iv = .int .i64 0 ∧ wr = W2) (fun _ _ => 0)
          case atStart => exact ⟨rfl, by first | rfl | trivial⟩
          case round =>
            obtain ⟨rfl, rfl⟩ := hrel
            go_wp2_with fail
            go_end0
            refine ⟨rfl, L, ?_, HG2.out⟩
            have e : sendS fates p S = { S with se := S.se + 1 } := by
              unfold sendS
              rw [← HFF.out, hd.out]
              simp
            rw [e]
            exact HW2.out
end

end Go.Proofs.Ytnigfddanoaonaa

set_option linter.unusedVariables false
set_option linter.unusedSimpArgs false
set_option linter.unnecessarySimpa false
namespace Go.Proofs.Ytnigfddanoaonaa
open Go.RowKit

theorem Went.of_below {N : Nat} {L : WLay} {W W' : World} (hb : Below W.heap.size W W') : Went N L W L W' := ⟨hb.os, hb.tape, hb.output, hb.size, fun k hk _ => hb.block k hk, fun _ _ h => h, ⟨_, _, rfl⟩⟩
theorem taAL (x : Value) (w : World) : Sem.run Try.prog (Instr.typeAssert (.iface 132 x) 118 100 true) w = .ok (.tuple #[.agg #[.pointer none, .int .i64 0, .int .i64 0], .bool false]) w := by kernel_rfl
theorem taAA (x : Value) (w : World) : Sem.run Try.prog (Instr.typeAssert (.iface 132 x) 118 132 true) w = .ok (.tuple #[x, .bool true]) w := by kernel_rfl
theorem taLL (x : Value) (w : World) : Sem.run Try.prog (Instr.typeAssert (.iface 100 x) 118 100 true) w = .ok (.tuple #[x, .bool true]) w := by kernel_rfl
theorem methA (x : Value) (w : World) : Sem.run Try.prog (method 250 132 x "sandpile/wire.along") w = .ok ((94 : Nat), x) w := by kernel_rfl
theorem methL (x : Value) (w : World) : Sem.run Try.prog (method 250 100 x "sandpile/wire.along") w = .ok ((93 : Nat), x) w := by kernel_rfl
section
variable {B N : Nat} {L : WLay} {oP : Option Addr} {cP : Nat} {oF : Option Addr} {nF cF : Nat} {S : Wr} {W W' : World}

set_option maxRecDepth 100000 in
set_option maxHeartbeats 4000000 in
theorem alongL_any (a : Addr) (x y : Value) (w : World) : Calls Try.prog 93 #[.agg #[.pointer (some a), x, y]] w fun e w' => e = .returned (.pointer (some a)) ∧ Below w.heap.size w w' := by
  go_enter Try.func93, Try.ntmps93
  go_wp2_with fail
  go_ret
  exact ⟨rfl, bnew (Below.refl _ _) _⟩
theorem alongA_any (a : Addr) (x : Value) (w : World) : Calls Try.prog 94 #[.agg #[.pointer (some a), x]] w fun e w' => e = .returned (.pointer (some a)) ∧ Below w.heap.size w w' := by
  go_enter Try.func94, Try.ntmps94
  go_wp2_with fail
  go_ret
  exact ⟨rfl, bnew (Below.refl _ _) _⟩

set_option maxRecDepth 100000 in
set_option maxHeartbeats 4000000 in
theorem handleA_any (h : Wires B N L oP cP oF nF cF S W) {j : Nat} {l : Ln} (hl : S.ls[j]? = some l) (num : Nat) (hnum : num ≤ 1000000000000) (hrm : l.rm + l.q.length ≤ 1000000000000) :
    Calls Try.prog 62 #[.pointer (some ⟨L.p, 0, none⟩), pkV L.bl (.ack j num)] W fun e w' => e = .returned (.tuple #[]) ∧ ∃ L', Wires B N L' oP cP oF nF cF { S with ls := S.ls.set j (l.drop num) } w' ∧ Went N L W L' w' := by
  unfold pkV
  have hmA := methA
  go_enter Try.func62, Try.ntmps62
  go_wp2_with fail
  refine (alongA_any _ _ _).mono ?_
  rintro e W1 ⟨rfl, hb⟩
  have HW1 := hide (h.below hb)
  have HG1 := hide (Went.of_below (N := N) (L := L) hb)
  have HL := hide hl
  clear h hb hl hmA
  have hta1 := taAL
  have hta2 := taAA
  have hpo : (Value.agg #[.pointer (some ⟨L.bl j, 0, none⟩), .int .i64 (num : Nat)]).cells = #[.pointer (some ⟨L.bl j, 0, none⟩), .int .i64 (num : Nat)] := rfl
  obtain ⟨W2, hW2⟩ : ∃ W2, W1.alloc (.cells #[.pointer (some ⟨L.bl j, 0, none⟩), .int .i64 (num : Nat)] 132) = W2 := ⟨_, rfl⟩
  have bb := bnew (Below.refl W1.heap.size W1) (.cells #[.pointer (some ⟨L.bl j, 0, none⟩), .int .i64 (num : Nat)] 132)
  have gg := Went.new (N := N) (L := L) (W := W1) (.cells #[.pointer (some ⟨L.bl j, 0, none⟩), .int .i64 (num : Nat)] 132)
  have bx : Box W2 W1.heap.size [.pointer (some ⟨L.bl j, 0, none⟩), .int .i64 (num : Nat)] 132 := by rw [← hW2]; exact Box.new W1 [.pointer (some ⟨L.bl j, 0, none⟩), .int .i64 (num : Nat)] 132
  rw [hW2] at bb gg
  have HW2 := hide (HW1.out.below bb).draw
  have HG2 := hide ((HG1.out.trans gg).trans (Went.drew 1))
  have HBX := hide bx
  have HNM : Hid (¬ Mine L N W1.heap.size) := fun hm => by have := HW1.out.mine_lt hm; omega
  have cdn := bx.cell 1
  simp only [List.getElem?_cons_zero, List.getElem?_cons_succ] at cdn
  clear bb gg bx hpo
  go_wp2_with fail
  go_region_held3 (fun w' => w'.cell? ⟨W1.heap.size, 1, none⟩ = some (.int .i64 (num : Nat))) (first | exact cdn) (first
    | (go_at_call 74; refine (drop_any HW2.out HL.out num hnum hrm).mono ?_; rintro e w3 ⟨rfl, L', hx, hy⟩; have HX := hide hx; have cdn := (HBX.out.keep (hy.block _ HBX.out.lt HNM.out)).cell 1; simp only [List.getElem?_cons_zero, List.getElem?_cons_succ] at cdn; have HY := hide (HG2.out.trans hy); clear hx hy))
  all_goals
    go_wp2_with fail
    go_end0
    exact ⟨rfl, L', HX.out, HY.out⟩
set_option maxRecDepth 100000 in
set_option maxHeartbeats 4000000 in
theorem handleL_any (h : Wires B N L oP cP oF nF cF S W) (fates : List Int) (hnF : nF = fates.length) (hF : SliceR intR 1 (Lt B) W oF fates) (hB : B ≤ W.heap.size) {j k : Nat} {l : Ln} (hl : S.ls[j]? = some l) (num : Nat) {row : List Int} {x : Int} (hrow : S.wt[j % N]? = some row) (hx : row[k]? = some x) (hxb : -1000000000000 ≤ x ∧ x ≤ 1000000000000)
    (hnum : num ≤ 1000000000000) (hac : l.ac ≤ 1000000000) (hN : N ≤ 1000) (hrl : row.length ≤ 1000000) (hse : S.se ≤ 1000000000000) (htk : S.tk ≤ 1000000000000) (hfl : S.fl.length ≤ 1000000000) (hfc : fates.length ≤ 9223372036854775807) :
    Calls Try.prog 62 #[.pointer (some ⟨L.p, 0, none⟩), pkV L.bl (.lett j num k)] W fun e w' => e = .returned (.tuple #[]) ∧ ∃ L', Wires B N L' oP cP oF nF cF (handleS N fates (.lett j num k) S) w' ∧ Went N L W L' w' := by
  have hjl := (List.getElem?_eq_some_iff.1 hl).1
  have hgl : S.ls.getD j Ln.none = l := by rw [List.getD_eq_getElem?_getD, hl]; rfl
  have hmA := methL
  have hta := taLL
  by_cases hn : num = l.ac + 1
  · obtain ⟨m, hm⟩ : ∃ m, m = l.ac + 1 := ⟨_, rfl⟩
    have HS : Hid (handleS N fates (.lett j num k) S = sendS fates (.ack j m) (waitS (j % N) k { S with ls := S.ls.set j { l with ac := m } })) := by
      show _ = _
      unfold handleS
      simp only [hgl]
      rw [if_pos hn, hm]
      rfl
    have HM := hide hm
    have hmb : m ≤ 1000000001 := by omega
    clear hm
    have HR := hide hrow
    have HX0 := hide hx
    have HJL := hide hjl
    have hq : ((num : Int) == (l.ac : Int) + 1) = true := by simp; omega
    have HF := hide hF
    have HL := hide hl
    have HNF := hide hnF
    unfold pkV
    clear hgl hjl hn hF hrow hx hl hnF
    go_enter Try.func62, Try.ntmps62
    go_wp2_with fail
    refine (alongL_any _ _ _ _).mono ?_
    rintro e W1 ⟨rfl, hb⟩
    have HW1 := hide (h.below hb)
    have HG1 := hide (Went.of_below (N := N) (L := L) hb)
    clear h hmA
    have HB1 : Hid (B ≤ W1.heap.size) := by show _ ≤ _; have := hb.size; omega
    have HF1 := hide (HF.out.below intR_ok hb)
    clear hb HF
    obtain ⟨W2, hW2⟩ : ∃ W2, W1.alloc (.cells #[.pointer (some ⟨L.bl j, 0, none⟩), .int .i64 (num : Nat), .int .i64 (k : Nat)] 100) = W2 := ⟨_, rfl⟩
    have bb := bnew (Below.refl W1.heap.size W1) (.cells #[.pointer (some ⟨L.bl j, 0, none⟩), .int .i64 (num : Nat), .int .i64 (k : Nat)] 100)
    have bx : Box W2 W1.heap.size [.pointer (some ⟨L.bl j, 0, none⟩), .int .i64 (num : Nat), .int .i64 (k : Nat)] 100 := by rw [← hW2]; exact Box.new W1 [.pointer (some ⟨L.bl j, 0, none⟩), .int .i64 (num : Nat), .int .i64 (k : Nat)] 100
    rw [hW2] at bb
    have HW2 := hide (HW1.out.below bb)
    have HG2 := hide (HG1.out.trans (Went.of_below (N := N) (L := L) bb))
    have HF2 := hide (HF1.out.below intR_ok bb)
    have HB2 : Hid (B ≤ W2.heap.size) := by show _ ≤ _; have := bb.size; have := HB1.out; omega
    have k1 := bx.cell 1
    have k2 := bx.cell 2
    have a5 := (HW2.out.lin j _ HL.out).cell 5
    simp only [lnC, List.getElem?_cons_zero, List.getElem?_cons_succ] at k1 k2 a5
    have HNM : Hid (¬ Mine L N W1.heap.size) := fun hm => by have := HW1.out.mine_lt hm; omega
    have HBX := hide bx
    clear bb bx
    go_wp2_with fail
    go_quiet (fail)
    obtain ⟨W3, hW3⟩ : ∃ W3, W2.drewN nq = W3 := ⟨_, rfl⟩
    have HW3 : Hid (Wires B N L oP cP oF nF cF S W3) := by show Wires _ _ _ _ _ _ _ _ _ _; rw [← hW3]; exact HW2.out.drewN nq
    have HG3 : Hid (Went N L W L W3) := by show Went _ _ _ _ _; rw [← hW3]; exact HG2.out.trans (Went.drew nq)
    have HF3 : Hid (SliceR intR 1 (Lt B) W3 oF fates) := by show SliceR _ _ _ _ _ _; rw [← hW3]; exact HF2.out.below intR_ok (below_drewN (Below.refl _ _) nq)
    have HBX3 : Hid (Box W3 W1.heap.size [.pointer (some ⟨L.bl j, 0, none⟩), .int .i64 (num : Nat), .int .i64 (k : Nat)] 100) := by show Box _ _ _ _; rw [← hW3]; exact HBX.out
    have b5 := (HW3.out.lin j _ HL.out).cell 5
    have f5 := (HW3.out.lin j _ HL.out).free 5
    simp only [lnC, List.getElem?_cons_zero, List.getElem?_cons_succ] at b5
    have hjN : j < N * N := by have := HJL.out; have := HW3.out.nls; omega
    have hmj : Mine L N (L.bl j) := .inr (.inr (.inr (.inr (.inr (.inr (.inr (.inl ⟨j, hjN, rfl⟩)))))))
    have h4 := HW3.out.setLine HL.out (l' := { l with ac := m }) rfl 5 (.int .i64 ((l.ac : Int) + 1)) (by have := HM.out; simp [lnC, this])
    have hg4 := HG3.out.trans (Went.put (W := W3) (i := 5) (v := .int .i64 ((l.ac : Int) + 1)) hmj)
    have hb4 := HBX3.out.other (p := ⟨L.bl j, 5, none⟩) (fun e => HNM.out (by rw [show W1.heap.size = L.bl j from e]; exact hmj)) (.int .i64 ((l.ac : Int) + 1))
    have hf4 : SliceR intR 1 (Lt B) (W3.setCell ⟨L.bl j, 5, none⟩ (.int .i64 ((l.ac : Int) + 1))) oF fates := HF3.out.keep intR_ok fun q hq _ => Below.heap_setCell W3 ⟨L.bl j, 5, none⟩ _ q (fun e => by have h9 := HW3.out.mine_ge hmj; have : q < B := hq; have e9 : q = L.bl j := e; omega)
    obtain ⟨W4, hW4⟩ : ∃ W4, W3.setCell ⟨L.bl j, 5, none⟩ (.int .i64 ((l.ac : Int) + 1)) = W4 := ⟨_, rfl⟩
    rw [hW4] at h4 hg4 hb4 hf4
    have hls4 : (S.ls.set j { l with ac := m })[j]? = some { l with ac := m } := List.getElem?_set_self HJL.out
    obtain ⟨tp, hto⟩ : ∃ t, t = j % N := ⟨_, rfl⟩
    have e4 := (h4.lin j _ hls4).cell 4
    have e2 := hb4.cell 2
    simp only [lnC, List.getElem?_cons_zero, List.getElem?_cons_succ] at e4 e2
    rw [← hto] at e4
    have HTO := hide hto
    have HW4 := hide h4.draw
    have HG4 := hide (hg4.trans (Went.drew 1))
    have HF4 := hide (hf4.below intR_ok ((Below.refl _ _).drew))
    have HB4 := hide hb4
    have HLS := hide hls4
    have hrw : S.wt[tp]? = some row := by rw [hto]; exact HR.out
    have HRW := hide hrw
    clear h4 hg4 hb4 hf4 hls4 hto hrw k1 k2 a5
    have HMJ := hide hmj
    clear hmj
    go_wp2_with fail
    clear b5 f5
    go_region_held3 (fun w' => w'.cell? ⟨L.bl j, 4, none⟩ = some (.int .i64 (tp : Nat)) ∧ w'.cell? ⟨W1.heap.size, 2, none⟩ = some (.int .i64 (k : Nat))) (first | exact ⟨e4, e2⟩) (first
      | (go_at_call 65; refine (wait_any HW4.out (i := tp) (k := k) HRW.out HX0.out hxb hN hrl).mono ?_; rintro e w5 ⟨rfl, hx5, hy5⟩; have HB5 := hide (HB4.out.keep (hy5.block _ HB4.out.lt HNM.out)); have HF5 := hide (HF4.out.keep intR_ok fun q hq hql => hy5.block q hql fun hm9 => by (have h9 := HW4.out.mine_ge hm9; have : q < B := hq; omega)); have e4 := (hx5.lin j _ HLS.out).cell 4; have e5 := (hx5.lin j _ HLS.out).cell 5; have e2 := HB5.out.cell 2; simp only [lnC, List.getElem?_cons_zero, List.getElem?_cons_succ] at e4 e5 e2; rw [← HTO.out] at e4; have HW5 := hide hx5; have HG5 := hide (HG4.out.trans hy5); clear hx5 hy5))
    all_goals
      go_wp2_with fail
      refine (send_any HW5.out fates HNF.out HF5.out (by have h1 := HG5.out.size; omega) (.ack j m) hse htk hfl hfc).mono ?_
      rintro e w6 ⟨rfl, L', hx, hy⟩
      have HX := hide hx
      have HY := hide (HG5.out.trans hy)
      clear hx hy
      go_wp2_with fail
      go_end0
      refine ⟨rfl, L', ?_, HY.out⟩
      rw [HS.out, ← HTO.out]
      exact HX.out
  · have HS : Hid (handleS N fates (.lett j num k) S = sendS fates (.ack j l.ac) S) := by
      show _ = _
      unfold handleS
      simp only [hgl]
      rw [if_neg hn]
    have hq : ((num : Int) == (l.ac : Int) + 1) = false := by simp; omega
    have HF := hide hF
    have HL := hide hl
    have HNF := hide hnF
    unfold pkV
    clear hgl hjl hn hF hrow hx hl hnF
    go_enter Try.func62, Try.ntmps62
    go_wp2_with fail
    refine (alongL_any _ _ _ _).mono ?_
    rintro e W1 ⟨rfl, hb⟩
    have HW1 := hide (h.below hb)
    have HG1 := hide (Went.of_below (N := N) (L := L) hb)
    clear h hmA
    have HB1 : Hid (B ≤ W1.heap.size) := by show _ ≤ _; have := hb.size; omega
    have HF1 := hide (HF.out.below intR_ok hb)
    clear hb HF
    obtain ⟨W2, hW2⟩ : ∃ W2, W1.alloc (.cells #[.pointer (some ⟨L.bl j, 0, none⟩), .int .i64 (num : Nat), .int .i64 (k : Nat)] 100) = W2 := ⟨_, rfl⟩
    have bb := bnew (Below.refl W1.heap.size W1) (.cells #[.pointer (some ⟨L.bl j, 0, none⟩), .int .i64 (num : Nat), .int .i64 (k : Nat)] 100)
    have bx : Box W2 W1.heap.size [.pointer (some ⟨L.bl j, 0, none⟩), .int .i64 (num : Nat), .int .i64 (k : Nat)] 100 := by rw [← hW2]; exact Box.new W1 [.pointer (some ⟨L.bl j, 0, none⟩), .int .i64 (num : Nat), .int .i64 (k : Nat)] 100
    rw [hW2] at bb
    have HW2 := hide (HW1.out.below bb)
    have HG2 := hide (HG1.out.trans (Went.of_below (N := N) (L := L) bb))
    have HF2 := hide (HF1.out.below intR_ok bb)
    have HB2 : Hid (B ≤ W2.heap.size) := by show _ ≤ _; have := bb.size; have := HB1.out; omega
    have k1 := bx.cell 1
    have a5 := (HW2.out.lin j _ HL.out).cell 5
    simp only [lnC, List.getElem?_cons_zero, List.getElem?_cons_succ] at k1 a5
    clear bb bx
    go_wp2_with fail
    go_quiet (fail)
    go_wp2_with fail
    refine (send_any (HW2.out.drewN nq) fates HNF.out (HF2.out.below intR_ok (below_drewN (Below.refl _ _) nq)) HB2.out (.ack j l.ac) hse htk hfl hfc).mono ?_
    rintro e w3 ⟨rfl, L', hx, hy⟩
    have HX := hide hx
    have HY := hide ((HG2.out.trans (Went.drew nq)).trans hy)
    clear hx hy
    go_wp2_with fail
    go_end0
    exact ⟨rfl, L', by rw [HS.out]; exact HX.out, HY.out⟩
end

end Go.Proofs.Ytnigfddanoaonaa

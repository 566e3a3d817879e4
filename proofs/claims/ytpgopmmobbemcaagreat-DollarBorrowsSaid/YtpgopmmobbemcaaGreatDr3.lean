/-
  The states on a way; the first time at the sink; what the range over a way needs besides.
  Routing chips: plain law.
  The order in which chips are moved does not matter: plain law.
  rotor.Step.
  rotor.Walk.
  rotor.Route.
  Chips one by one, and all at once: plain law.
  (*rotor.board).route with the first vertex that has chips.
  rotor.All.
  What RotorAdds leans on: plain law.
  Firing a vertex, and turning its rotor once round: plain law.
  A vertex fires: the steps of its rotor once round (plain law).
  ref44.Opposite, ref45.Targets.
  ref45.Turned, ref45.Step.
  The sizes that the statements take in: ref08.Few, ref44.Few, ref45.Few.
  ref17.In, ref17.Check, ref45.chips, ref45.Given; ref17.Few, ref17.Small, ref45.FewChips.
  There is a forest for every right graph.
  A game in memory; ref17.Few, ref17.Small; sandpilelaw45.small.
  A vertex fires: what the program's script moves, and what All answers (plain law).
  A region that draws its order, by an invariant; append to an empty literal and make as steps of such a region. No program is named here.
  firing: bounded, along, moved, of, given, vertex.
  firing.given, vertex, of, moved, Fire, where all is right.
  The dollar game: the errors of a connected graph, a divisor and a script.
  The valence of a vertex.
  Scripts on a connected graph, in plain Lean: what a script changes over a cut; how far the numbers of a script lie apart.
  Edges and neighbours: what a script moves along the edges is what it moves between neighbours.
  A graph that is connected by its forest is connected over every cut.
  The dollar game in plain Lean: borrowing while in debt; whoever is winnable is won, by the least borrowing, soon; reduced divisors.
  Debts lent away layer by layer, in plain Lean: what remains, and how large it becomes on a small graph.
  Debts lent away and sets fired until none can, in plain Lean: the rounds, their bounds, and that the end is reduced.
  Distances from a vertex by a queue, in plain Lean.
  Reduced divisors: the state in memory; how many single edges lead to vertices with a property.
  Reduced divisors: the vertices that remain when a fire starts at q.
  Ranges over functions within a loop: their marks.
  A drawn region that reads and then writes, in a round of a range over a function.
  Reduced divisors: what firing a set does, link by link, in plain Lean.
  Reduced divisors: a set fires some times.
-/
import Derived.Test.YtpgopmmobbemcaaGreatDr2
import Derived.BigRegionIn
import Derived.StillTailTactics
import Derived.BigQuiet
import Derived.Deep.RegionLaw
import Derived.Deep.LoopGhost
import Derived.RangeFuncBox
import Derived.RangeFuncNested
import Derived.RangeFuncLeaves
import Derived.RangeFuncCalls
import Derived.OrdersIn
import Derived.OwnWalkIn
import Derived.BigRegion

set_option linter.unusedVariables false
set_option linter.unusedSimpArgs false
namespace Go.Proofs.YtpgopmmobbemcaaGreat
open Go.RowKit

/-- The rotors and the chip behind i steps. -/
def rtN (ar : List (List Int)) (E : List (Int × Int)) (rot : List Int) (v : Nat) : Nat → List Int × Nat
  | 0 => (rot, v)
  | i + 1 => (stpR ar (rtN ar E rot v i).1 (rtN ar E rot v i).2, stpV ar E (rtN ar E rot v i).1 (rtN ar E rot v i).2)
theorem RtOk.along {n : Int} {es : List Edg} {ar : List (List Int)} {q : Nat} {rot : List Int} (h : RtOk n es ar q rot) {v : Nat} (hv : v < ar.length) :
    ∀ i, (∀ j, j < i → (rtN ar (endsL es) rot v j).2 ≠ q) → RtOk n es ar q (rtN ar (endsL es) rot v i).1 ∧ (rtN ar (endsL es) rot v i).2 < ar.length
  | 0, _ => ⟨h, hv⟩
  | i + 1, hp => by
    obtain ⟨h1, h2⟩ := h.along hv i fun j hj => hp j (by omega)
    exact (h1.step h2 (hp i (by omega))).2

/-- The first time at q, before M. -/
def firstAt (v : Nat → Nat) (q M : Nat) : Option Nat := (List.range M).find? (fun i => v i == q)
/-- The vertices on a way. -/
def wayL (v : Nat → Nat) (k : Nat) : List Int := (List.range k).map fun i => ((v i : Nat) : Int)
def ListErr (w : World) (l : List Int) (x : Int) (e : Ending) (w' : World) : Prop := ∃ rv, e = .returned (.tuple #[rv, .int .i64 x]) ∧ OwnS intR 1 w.heap.size 3 Non w' rv l ∧ Below w.heap.size w w'

def chipV (ar : List (List Int)) (E : List (Int × Int)) (rot : List Int) (v : Nat) (i : Nat) : Nat := (rtN ar E rot v i).2
def rotI (ar : List (List Int)) (E : List (Int × Int)) (rot : List Int) (v : Nat) (i : Nat) : List Int := (rtN ar E rot v i).1

section
variable {w1 : World} {p rg cap : Nat} {tv : Value} {q : Int} {av : Value} {tl : List Int} {rest : List Value} {R : Nat → List Int} {C : Nat → World → Prop} {B : Nat} {h q' : Nat} {fv : Value}
end

end Go.Proofs.YtpgopmmobbemcaaGreat

set_option linter.unusedVariables false
set_option linter.unusedSimpArgs false
set_option linter.unnecessarySimpa false
namespace Go.Proofs.YtpgopmmobbemcaaGreat
open Go.RowKit

/-- The vertices below k, other than the sink, that have chips. -/
def liveP (q : Nat) (l : List Int) (k : Nat) : List Int := ((List.range k).filter fun v : Nat => decide (v ≠ q ∧ 0 < l.getD v 0)).map fun v : Nat => (v : Int)
def liveL (q : Nat) (l : List Int) : List Int := liveP q l l.length
abbrev MSt := List Int × List Int × List Int
def addL (l : List Int) (v : Nat) (x : Int) : List Int := l.set v (l.getD v 0 + x)
theorem addL_len (l : List Int) (v : Nat) (x : Int) : (addL l v x).length = l.length := by simp [addL]
theorem addL_mem {l : List Int} {v : Nat} {x y : Int} (h : y ∈ addL l v x) (hv : v < l.length) : y ∈ l ∨ ∃ z ∈ l, y = z + x := by
  unfold addL at h
  rcases List.mem_or_eq_of_mem_set h with h1 | h1
  · exact .inl h1
  · refine .inr ⟨l[v], List.getElem_mem hv, ?_⟩
    rw [h1, getD_of (List.getElem?_eq_getElem hv)]
/-- A chip moves from v. -/
def mvS (ar : List (List Int)) (E : List (Int × Int)) (s : MSt) (v : Nat) : MSt := (stpR ar s.1 v, addL (addL s.2.1 v (-1)) (stpV ar E s.1 v) 1, addL s.2.2 v 1)
/-- What there is behind i moves, by picks. -/
def mvN (ar : List (List Int)) (E : List (Int × Int)) (q : Nat) (pk : Nat → List Int → Int) (s : MSt) : Nat → MSt
  | 0 => s
  | i + 1 => mvS ar E (mvN ar E q pk s i) (pk i (liveL q (mvN ar E q pk s i).2.1)).toNat

structure MvOk (n : Int) (es : List Edg) (ar : List (List Int)) (q : Nat) (i : Nat) (s : MSt) : Prop where
  rot : RtOk n es ar q s.1
  ll : s.2.1.length = ar.length
  tl : s.2.2.length = ar.length
  lb : ∀ x ∈ s.2.1, -1048576 - (i : Int) ≤ x ∧ x ≤ 1048576 + (i : Int)
  tb : ∀ x ∈ s.2.2, 0 ≤ x ∧ x ≤ (i : Int)
theorem MvOk.step {n : Int} {es : List Edg} {ar : List (List Int)} {q i : Nat} {s : MSt} (h : MvOk n es ar q i s) {v : Nat} (hv : v < ar.length) (hq : v ≠ q) : MvOk n es ar q (i + 1) (mvS ar (endsL es) s v) ∧ stpV ar (endsL es) s.1 v < ar.length := by
  obtain ⟨_, h1, h2⟩ := h.rot.step hv hq
  refine ⟨⟨h1, by simp [mvS, addL_len, h.ll], by simp [mvS, addL_len, h.tl], fun x hx => ?_, fun x hx => ?_⟩, h2⟩
  · rcases addL_mem hx (by rw [addL_len, h.ll]; exact h2) with h3 | ⟨z, h3, rfl⟩
    · rcases addL_mem h3 (by rw [h.ll]; exact hv) with h4 | ⟨y, h4, rfl⟩
      · have := h.lb x h4; omega
      · have := h.lb y h4; omega
    · rcases addL_mem h3 (by rw [h.ll]; exact hv) with h4 | ⟨y, h4, rfl⟩
      · have := h.lb z h4; omega
      · have := h.lb y h4; omega
  · rcases addL_mem hx (by rw [h.tl]; exact hv) with h4 | ⟨y, h4, rfl⟩
    · have := h.tb x h4; omega
    · have := h.tb y h4; omega

def Picks (pk : Nat → List Int → Int) : Prop := ∀ i l, l ≠ [] → pk i l ∈ l
/-- The first pick. -/
def pk0 : Nat → List Int → Int := fun _ l => l.headD 0
def start (rot d : List Int) (n : Nat) : MSt := (rot, d, List.replicate n 0)
/-- The rotors and the numbers of steps, or the error. -/
def movesUp (M : Nat) (ar : List (List Int)) (E : List (Int × Int)) (q : Nat) (pk : Nat → List Int → Int) (rot d : List Int) : List Int × List Int × Int :=
  match firstAt (fun i => (liveL q (mvN ar E q pk (start rot d d.length) i).2.1).length) 0 M with
  | some i => ((mvN ar E q pk (start rot d d.length) i).1, (mvN ar E q pk (start rot d d.length) i).2.2, 0)
  | none => ([], [], 12)
def movesOf (ar : List (List Int)) (E : List (Int × Int)) (q : Nat) (pk : Nat → List Int → Int) (rot d : List Int) : List Int × List Int × Int := movesUp 1048577 ar E q pk rot d
end Go.Proofs.YtpgopmmobbemcaaGreat

set_option linter.unusedVariables false
set_option linter.unusedSimpArgs false
set_option linter.unnecessarySimpa false
namespace Go.Proofs.YtpgopmmobbemcaaGreat
open Go.RowKit

theorem addL_get (l : List Int) (a b : Nat) (x : Int) : (addL l a x).getD b 0 = if a = b ∧ a < l.length then l.getD b 0 + x else l.getD b 0 := by
  unfold addL
  rw [List.getD_eq_getElem?_getD, List.getElem?_set]
  by_cases h : a = b
  · subst h
    by_cases h2 : a < l.length
    · simp [h2]
    · rw [if_pos rfl, if_neg h2, if_neg (by intro hh; exact h2 hh.2), List.getD_eq_getElem?_getD, List.getElem?_eq_none (by omega)]
  · rw [if_neg h, if_neg (by intro hh; exact h hh.1), List.getD_eq_getElem?_getD]
theorem addL_ext {l m : List Int} (h : l.length = m.length) (hg : ∀ b, l.getD b 0 = m.getD b 0) : l = m := by
  apply List.ext_getElem h
  intro i h1 h2
  have := hg i
  rw [getD_of (List.getElem?_eq_getElem h1), getD_of (List.getElem?_eq_getElem h2)] at this
  exact this
theorem addL_comm (l : List Int) (a b : Nat) (x y : Int) : addL (addL l a x) b y = addL (addL l b y) a x := by
  refine addL_ext (by simp [addL_len]) fun c => ?_
  rw [addL_get, addL_get, addL_get, addL_get, addL_len, addL_len]
  split <;> split <;> omega
theorem stpK_set (ar : List (List Int)) (rot : List Int) {u v : Nat} (h : u ≠ v) (k : Int) : stpK ar (rot.set u k) v = stpK ar rot v := by
  unfold stpK
  rw [List.getD_eq_getElem?_getD, List.getElem?_set_ne h, ← List.getD_eq_getElem?_getD]
theorem stpV_set (ar : List (List Int)) (E : List (Int × Int)) (rot : List Int) {u v : Nat} (h : u ≠ v) (k : Int) : stpV ar E (rot.set u k) v = stpV ar E rot v := by
  unfold stpV
  rw [stpK_set ar rot h]
/-- Two moves at different vertices, in either order. -/
theorem mvS_comm (ar : List (List Int)) (E : List (Int × Int)) (s : MSt) {u v : Nat} (h : u ≠ v) : mvS ar E (mvS ar E s u) v = mvS ar E (mvS ar E s v) u := by
  unfold mvS stpR
  simp only
  rw [stpK_set ar s.1 h, stpK_set ar s.1 (Ne.symm h), stpV_set ar E s.1 h, stpV_set ar E s.1 (Ne.symm h), List.set_comm _ _ h, addL_comm s.2.2 u v]
  congr 2
  rw [addL_comm (addL s.2.1 u (-1)) (stpV ar E s.1 u) v 1 (-1), addL_comm s.2.1 u v (-1) (-1), addL_comm (addL (addL s.2.1 v (-1)) u (-1)) (stpV ar E s.1 u) (stpV ar E s.1 v) 1 1, addL_comm (addL s.2.1 v (-1)) u (stpV ar E s.1 v) (-1) 1]

def Can (q : Nat) (s : MSt) (v : Nat) : Prop := v < s.2.1.length ∧ v ≠ q ∧ 0 < s.2.1.getD v 0
inductive Run (ar : List (List Int)) (E : List (Int × Int)) (q : Nat) : MSt → List Nat → MSt → Prop
  | nil (s : MSt) : Run ar E q s [] s
  | cons {s t : MSt} {v : Nat} {l : List Nat} : Can q s v → Run ar E q (mvS ar E s v) l t → Run ar E q s (v :: l) t
theorem Can.keep {ar : List (List Int)} {E : List (Int × Int)} {q u v : Nat} {s : MSt} (h : Can q s v) (hne : u ≠ v) : Can q (mvS ar E s u) v := by
  obtain ⟨h1, h2, h3⟩ := h
  refine ⟨by simp [mvS, addL_len]; exact h1, h2, ?_⟩
  show 0 < (addL (addL s.2.1 u (-1)) (stpV ar E s.1 u) 1).getD v 0
  rw [addL_get, addL_get, if_neg (c := u = v ∧ u < s.2.1.length) (by intro hh; exact hne hh.1)]
  split <;> omega
/-- Whoever can move may move first. -/
theorem Run.front {ar : List (List Int)} {E : List (Int × Int)} {q : Nat} {s t : MSt} {m : List Nat} (h : Run ar E q s m t) (hd : ∀ v, ¬ Can q t v) : ∀ v, Can q s v → ∃ m', Run ar E q (mvS ar E s v) m' t ∧ m.length = m'.length + 1 := by
  induction h with
  | nil s => exact fun v hv => absurd hv (hd v)
  | @cons s t u l hu hr ih =>
    intro v hv
    by_cases e : u = v
    · subst e
      exact ⟨l, hr, by simp⟩
    · obtain ⟨m', h1, h2⟩ := ih hd v (hv.keep e)
      rw [mvS_comm ar E s e] at h1
      exact ⟨u :: m', .cons (hu.keep (Ne.symm e)) h1, by simp [h2]⟩
/-- A run that ends is as long as every other one that ends, and ends in the same state; no run is longer. -/
theorem Run.rest {ar : List (List Int)} {E : List (Int × Int)} {q : Nat} {s t2 : MSt} {m2 : List Nat} (h2 : Run ar E q s m2 t2) : ∀ {t : MSt} {m : List Nat}, Run ar E q s m t → (∀ v, ¬ Can q t v) → ∃ m3, Run ar E q t2 m3 t ∧ m.length = m2.length + m3.length := by
  induction h2 with
  | nil s => exact fun h hd => ⟨_, h, by simp⟩
  | @cons s t2 v l hv hr ih =>
    intro t m h hd
    obtain ⟨m', h1, h3⟩ := h.front hd v hv
    obtain ⟨m3, h4, h5⟩ := ih h1 hd
    exact ⟨m3, h4, by simp; omega⟩
theorem Run.same {ar : List (List Int)} {E : List (Int × Int)} {q : Nat} {s t t2 : MSt} {m m2 : List Nat} (h : Run ar E q s m t) (hd : ∀ v, ¬ Can q t v) (h2 : Run ar E q s m2 t2) (hd2 : ∀ v, ¬ Can q t2 v) : t2 = t ∧ m2.length = m.length := by
  obtain ⟨m3, h3, h4⟩ := h2.rest h hd
  cases h3 with
  | nil => exact ⟨rfl, by simp at h4; omega⟩
  | cons hv _ => exact absurd hv (hd2 _)
theorem Run.append {ar : List (List Int)} {E : List (Int × Int)} {q : Nat} {s t u : MSt} {m l : List Nat} (h : Run ar E q s m t) (h2 : Run ar E q t l u) : Run ar E q s (m ++ l) u := by
  induction h with
  | nil s => simpa using h2
  | cons hv _ ih => exact .cons hv (ih h2)

end Go.Proofs.YtpgopmmobbemcaaGreat

set_option linter.unusedVariables false
set_option linter.unusedSimpArgs false
set_option linter.unnecessarySimpa false
namespace Go.Proofs.YtpgopmmobbemcaaGreat
open Go.RowKit

/-- The results of Step. -/
def stepResR (n : Int) (es : List Edg) (f : List Nat) (ar : List (List Int)) (q : Int) (rot : List Int) (v : Int) : List Int × Int × Int :=
  if stE n es f ar q rot v = 0 then (if v = q then ([], 0, 15) else (stpR ar rot v.toNat, ((stpV ar (endsL es) rot v.toNat : Nat) : Int), 0)) else ([], 0, stE n es f ar q rot v)
def StepRes (w : World) (x : List Int × Int × Int) (e : Ending) (w' : World) : Prop := ∃ rv, e = .returned (.tuple #[rv, .int .i64 x.2.1, .int .i64 x.2.2]) ∧ OwnS intR 1 w.heap.size 3 Non w' rv x.1 ∧ Below w.heap.size w w'

theorem RtOk.i64 {n : Int} {es : List Edg} {ar : List (List Int)} {q : Nat} {rot : List Int} (h : RtOk n es ar q rot) : ∀ x ∈ rot, I64 x := by
  intro x hx
  obtain ⟨i, hi, rfl⟩ := List.getElem_of_mem hx
  have hia : i < ar.length := by rw [← h.nrot]; exact hi
  have h1 := h.rots i _ _ (List.getElem?_eq_getElem hi) (List.getElem?_eq_getElem hia)
  have h2 := (h.rows i _ (List.getElem?_eq_getElem hia)).1
  have h3 := h.cap
  unfold I64
  by_cases e : i = q
  · have := h1.2.1 e; omega
  · have := h1.2.2 e; omega

end Go.Proofs.YtpgopmmobbemcaaGreat

set_option linter.unusedVariables false
set_option linter.unusedSimpArgs false
set_option linter.unnecessarySimpa false
namespace Go.Proofs.YtpgopmmobbemcaaGreat
open Go.RowKit Go.Shelf

attribute [local go_sem] Oper.semAt_some

def walkOf (ar : List (List Int)) (E : List (Int × Int)) (q : Nat) (rot : List Int) (v : Nat) : List Int × Int :=
  match firstAt (chipV ar E rot v) q 4096 with
  | some i => (wayL (chipV ar E rot v) (i + 1), 0)
  | none => ([], 12)
/-- The vertices on the way of a chip, or the error. -/
def walkRes (n : Int) (es : List Edg) (f : List Nat) (ar : List (List Int)) (q : Int) (rot : List Int) (v : Int) : List Int × Int :=
  if stE n es f ar q rot v = 0 then walkOf ar (endsL es) q.toNat rot v.toNat else ([], stE n es f ar q rot v)

/-- The caller's own of Walk: the vertices that have come. -/
def WOut (b n₀ : Nat) (V : Nat → Nat) (k : Nat) (W : World) : Prop := ∃ u, Boxed W b 25 u ∧ W.ownsRow n₀ 3 1 u k ((wayL V k).map (Value.int .i64)) ∧ True
theorem WOut.from (b n₀ B : Nat) (V : Nat → Nat) : OwnFrom B (WOut b n₀ V) := (holdsRow_own n₀ b 25 3 1 (fun k : Nat => k) (fun k => (wayL V k).map (Value.int .i64)) (fun _ _ => True)).from B
theorem ownsRow_other {W W' : World} {n₀ : Nat} {e : TypeId} {size : Nat} {v : Value} {k : Nat} {xs : List Value} (h : W.ownsRow n₀ e size v k xs) {r : Nat} (hr : r < n₀) (hg : W.grownBy W' (some r)) : W'.ownsRow n₀ e size v k xs :=
  h.kept hg (.inr fun e' => by
    rcases h.2 with ⟨rfl, _⟩ | ⟨g, cap, cur, rfl, hb, _, _⟩
    · simp [Value.ownBlock] at e'
    · simp only [Value.ownBlock, Option.some.injEq] at e'
      omega)
theorem WOut.grown {b n₀ : Nat} {V : Nat → Nat} {k r : Nat} {W W' : World} (h : WOut b n₀ V k W) (hg : W.grownBy W' (some r)) (hb : b ≠ r) (hr : r < n₀) : WOut b n₀ V k W' := by
  obtain ⟨u, h1, h2, h3⟩ := h
  exact ⟨u, h1.kept hg (fun e => hb (by injection e)), ownsRow_other h2 hr hg, h3⟩

section
variable (n : Int) (es : List Edg) (oe : Option Addr) (c : Nat) (ar : List (List Int)) (oa : Option Addr) (ca : Nat) (F G : Foot) (w : World) (hs : SliceR edgR 3 F w oe es) (hc : es.length ≤ c) (hc2 : es.length ≤ 1000)
    (ha : SliceR (slcR intR 1) 1 G w oa ar) (hac : ar.length ≤ ca) (hac2 : ar.length ≤ 9223372036854775807) (f : List Nat) (hU : Hid (gErr n es = 0 → Uf f (eL es)))
    (q : Int) (rot : List Int) (ot : Option Addr) (ct : Nat) (H : Foot) (hr : SliceR intR 1 H w ot rot) (hrc : rot.length ≤ ct) (hrl : rot.length ≤ 9223372036854775807)
include hs hc hc2 ha hac hac2 hU hr hrc hrl

end

end Go.Proofs.YtpgopmmobbemcaaGreat

set_option linter.unusedVariables false
set_option linter.unusedSimpArgs false
set_option linter.unnecessarySimpa false
namespace Go.Proofs.YtpgopmmobbemcaaGreat
open Go.RowKit Go.Shelf

attribute [local go_sem] Oper.semAt_some

def routeUp (M : Nat) (ar : List (List Int)) (E : List (Int × Int)) (q : Nat) (rot : List Int) (v : Nat) : List Int × Int × Int :=
  match firstAt (chipV ar E rot v) q M with
  | some i => (rotI ar E rot v i, (i : Int), 0)
  | none => ([], 0, 12)
def routeOf (ar : List (List Int)) (E : List (Int × Int)) (q : Nat) (rot : List Int) (v : Nat) : List Int × Int × Int := routeUp 1048577 ar E q rot v
/-- The rotors behind the way of a chip and the number of steps, or the error. -/
def routeRes (n : Int) (es : List Edg) (f : List Nat) (ar : List (List Int)) (q : Int) (rot : List Int) (v : Int) : List Int × Int × Int :=
  if stE n es f ar q rot v = 0 then routeOf ar (endsL es) q.toNat rot v.toNat else ([], 0, stE n es f ar q rot v)

/-- The caller's own of Route: the count. -/
def RCnt (b : Nat) (k : Nat) (W : World) : Prop := Boxed W b 3 (.int .i64 ((k : Int) - 1))
theorem RCnt.from (b B : Nat) : OwnFrom B (RCnt b) := (boxed_own b 3 (fun k : Nat => Value.int .i64 ((k : Int) - 1))).from B

section
variable (n : Int) (es : List Edg) (oe : Option Addr) (c : Nat) (ar : List (List Int)) (oa : Option Addr) (ca : Nat) (F G : Foot) (w : World) (hs : SliceR edgR 3 F w oe es) (hc : es.length ≤ c) (hc2 : es.length ≤ 1000)
    (ha : SliceR (slcR intR 1) 1 G w oa ar) (hac : ar.length ≤ ca) (hac2 : ar.length ≤ 9223372036854775807) (f : List Nat) (hU : Hid (gErr n es = 0 → Uf f (eL es)))
    (q : Int) (rot : List Int) (ot : Option Addr) (ct : Nat) (H : Foot) (hr : SliceR intR 1 H w ot rot) (hrc : rot.length ≤ ct) (hrl : rot.length ≤ 9223372036854775807)
include hs hc hc2 ha hac hac2 hU hr hrc hrl

end

end Go.Proofs.YtpgopmmobbemcaaGreat

set_option linter.unusedVariables false
set_option linter.unusedSimpArgs false
set_option linter.unnecessarySimpa false
namespace Go.Proofs.YtpgopmmobbemcaaGreat
open Go.RowKit

theorem first_or (f : Nat → Nat) (q : Nat) : ∀ M, (∃ i, i < M ∧ f i = q ∧ ∀ j, j < i → f j ≠ q) ∨ ∀ j, j < M → f j ≠ q
  | 0 => .inr fun j hj => absurd hj (by omega)
  | M + 1 => by
    rcases first_or f q M with ⟨i, h1, h2, h3⟩ | h
    · exact .inl ⟨i, by omega, h2, h3⟩
    · by_cases hM : f M = q
      · exact .inl ⟨M, by omega, hM, h⟩
      · refine .inr fun j hj => ?_
        rcases Nat.lt_or_ge j M with h1 | h1
        · exact h j h1
        · rw [show j = M by omega]; exact hM

theorem sum_set : ∀ (l : List Int) (v : Nat) (x : Int), v < l.length → (addL l v x).sum = l.sum + x
  | [], v, x, h => by simp at h
  | a :: l, 0, x, _ => by simp [addL]; omega
  | a :: l, v + 1, x, h => by
    have := sum_set l v x (by simpa using h)
    simp [addL] at this ⊢
    omega
theorem addL_undo {l : List Int} {v : Nat} {x y : Int} (h : x + y = 0) : addL (addL l v x) v y = l := by
  refine addL_ext (by simp [addL_len]) fun b => ?_
  rw [addL_get, addL_get, addL_len]
  split <;> omega

section
variable {ar : List (List Int)} {E : List (Int × Int)} {q : Nat}

theorem Run.len {s t : MSt} {m : List Nat} (h : Run ar E q s m t) : t.2.1.length = s.2.1.length ∧ t.2.2.length = s.2.2.length := by
  induction h with
  | nil s => exact ⟨rfl, rfl⟩
  | cons hv _ ih => exact ⟨by rw [ih.1]; simp [mvS, addL_len], by rw [ih.2]; simp [mvS, addL_len]⟩
theorem Run.total {s t : MSt} {m : List Nat} (h : Run ar E q s m t) (hl : s.2.2.length = s.2.1.length) : t.2.2.sum = s.2.2.sum + m.length := by
  induction h with
  | nil s => simp
  | @cons s t v l hv _ ih =>
    rw [ih (by simp [mvS, addL_len, hl])]
    show (addL s.2.2 v 1).sum + _ = _
    rw [sum_set _ _ _ (by rw [hl]; exact hv.1)]
    simp
    omega
/-- A chip that is routed. -/
theorem chip_run {rot d t : List Int} {v : Nat} (hn : ∀ u, u ≠ q → 0 ≤ d.getD u 0) (hv : v < d.length) (hp : v ≠ q → 0 < d.getD v 0) (hb : ∀ i, (∀ j, j < i → chipV ar E rot v j ≠ q) → chipV ar E rot v i < d.length) :
    ∀ i, (∀ j, j < i → chipV ar E rot v j ≠ q) → ∃ m t', Run ar E q (rot, d, t) m (rotI ar E rot v i, addL (addL d v (-1)) (chipV ar E rot v i) 1, t') ∧ m.length = i
  | 0, _ => ⟨[], t, by
    show Run ar E q (rot, d, t) [] (rot, addL (addL d v (-1)) v 1, t)
    rw [addL_undo (by omega)]
    exact .nil _, rfl⟩
  | i + 1, h => by
    obtain ⟨m, t', h1, h2⟩ := chip_run (t := t) hn hv hp hb i fun j hj => h j (by omega)
    have hq := h i (by omega)
    have hvq : v ≠ q := h 0 (by omega)
    refine ⟨m ++ [chipV ar E rot v i], addL t' (chipV ar E rot v i) 1, h1.append (.cons ⟨?_, hq, ?_⟩ ?_), by simp [h2]⟩
    · simp only [addL_len]
      exact hb i fun j hj => h j (by omega)
    · have := hb i fun j hj => h j (by omega)
      have h3 := hn _ hq
      have h4 := hp hvq
      show 0 < (addL (addL d v (-1)) (chipV ar E rot v i) 1).getD (chipV ar E rot v i) 0
      rw [addL_get, addL_len, if_pos ⟨rfl, this⟩, addL_get]
      split
      · rename_i h5
        rw [← h5.1]
        omega
      · omega
    · have : mvS ar E (rotI ar E rot v i, addL (addL d v (-1)) (chipV ar E rot v i) 1, t') (chipV ar E rot v i) = (rotI ar E rot v (i + 1), addL (addL d v (-1)) (chipV ar E rot v (i + 1)) 1, addL t' (chipV ar E rot v i) 1) := by
        unfold mvS
        simp only
        rw [addL_undo (l := addL d v (-1)) (v := chipV ar E rot v i) (x := 1) (y := -1) (by omega)]
        rfl
      rw [this]
      exact .nil _

end

/-- Behind the chips of the vertices below v, and j chips of v. -/
def AddSt (n : Int) (es : List Edg) (ar : List (List Int)) (q : Nat) (rot d : List Int) (v j : Nat) (now : List Int) (steps : Nat) : Prop :=
  ∃ m D t', Run ar (endsL es) q (start rot d d.length) m (now, D, t') ∧ m.length = steps ∧ RtOk n es ar q now ∧ D.length = d.length ∧ (∀ u, u ≠ q → 0 ≤ D.getD u 0) ∧
    (∀ u, u ≠ q → u < v → D.getD u 0 = 0) ∧ (∀ u, u ≠ q → v < u → D.getD u 0 = d.getD u 0) ∧ (v ≠ q → D.getD v 0 = d.getD v 0 - j)
theorem AddSt.begin {n : Int} {es : List Edg} {ar : List (List Int)} {q : Nat} {rot d : List Int} (h : RtOk n es ar q rot) (hn : ∀ u, u ≠ q → 0 ≤ d.getD u 0) : AddSt n es ar q rot d 0 0 rot 0 :=
  ⟨[], d, _, .nil _, rfl, h, rfl, hn, fun u _ hu => absurd hu (by omega), fun _ _ _ => rfl, fun _ => by simp⟩
theorem AddSt.next {n : Int} {es : List Edg} {ar : List (List Int)} {q : Nat} {rot d : List Int} {v j : Nat} {now : List Int} {steps : Nat} (h : AddSt n es ar q rot d v j now steps) (hj : v ≠ q → (d.getD v 0) ≤ j) : AddSt n es ar q rot d (v + 1) 0 now steps := by
  obtain ⟨m, D, t', h1, h2, h3, h4, h5, h6, h7, h8⟩ := h
  refine ⟨m, D, t', h1, h2, h3, h4, h5, fun u hu hlt => ?_, fun u hu hlt => h7 u hu (by omega), fun hu => by rw [h7 (v + 1) hu (by omega)]; simp⟩
  rcases Nat.lt_or_ge u v with hl | hl
  · exact h6 u hu hl
  · have : u = v := by omega
    subst this
    have a1 := h8 hu
    have a2 := h5 u hu
    have a3 := hj hu
    omega
theorem AddSt.step {n : Int} {es : List Edg} {ar : List (List Int)} {q : Nat} {rot d : List Int} {v j : Nat} {now : List Int} {steps M : Nat} {mm : List Nat} {tt : MSt} (h : AddSt n es ar q rot d v j now steps) (hd : d.length = ar.length) (hv : v < d.length) (hj : (j : Int) < d.getD v 0)
    (hr : Run ar (endsL es) q (start rot d d.length) mm tt) (ht : ∀ u, ¬ Can q tt u) (hM : mm.length < M) :
    ∃ i, i < M ∧ chipV ar (endsL es) now v i = q ∧ (∀ k, k < i → chipV ar (endsL es) now v k ≠ q) ∧ AddSt n es ar q rot d v (j + 1) (rotI ar (endsL es) now v i) (steps + i) ∧ RtOk n es ar q (rotI ar (endsL es) now v i) ∧ steps + i ≤ mm.length := by
  obtain ⟨m, D, t', h1, h2, h3, h4, h5, h6, h7, h8⟩ := h
  have hb : ∀ i, (∀ k, k < i → chipV ar (endsL es) now v k ≠ q) → chipV ar (endsL es) now v i < D.length := fun i hi => by
    have := (h3.along (by omega : v < ar.length) i hi).2
    rw [h4, hd]; exact this
  have hR := chip_run (t := t') h5 (by omega : v < D.length) (fun hq => by have := h8 hq; omega) hb
  rcases first_or (chipV ar (endsL es) now v) q M with ⟨i, i1, i2, i3⟩ | hn
  · obtain ⟨m2, t2, r1, r2⟩ := hR i i3
    rw [i2] at r1
    have hrun := h1.append r1
    have hrt := (h3.along (by omega : v < ar.length) i i3).1
    refine ⟨i, i1, i2, i3, ⟨m ++ m2, _, t2, hrun, by simp; omega, hrt, by simp [addL_len, h4], fun u hu => ?_, fun u hu hl => ?_, fun u hu hl => ?_, fun hu => ?_⟩, hrt, ?_⟩
    · rw [addL_get, addL_get, if_neg (c := q = u ∧ _) (by intro hh; exact hu hh.1.symm)]
      split
      · rename_i h9
        have := h8 (by rw [h9.1]; exact hu)
        rw [← h9.1]
        omega
      · exact h5 u hu
    · rw [addL_get, addL_get, if_neg (c := q = u ∧ _) (by intro hh; exact hu hh.1.symm), if_neg (by omega)]
      exact h6 u hu hl
    · rw [addL_get, addL_get, if_neg (c := q = u ∧ _) (by intro hh; exact hu hh.1.symm), if_neg (by omega)]
      exact h7 u hu hl
    · rw [addL_get, addL_get, if_neg (c := q = v ∧ _) (by intro hh; exact hu hh.1.symm), if_pos ⟨rfl, by omega⟩, h8 hu]
      omega
    · obtain ⟨m3, _, e⟩ := hrun.rest hr ht
      simp at e
      omega
  · obtain ⟨m2, t2, r1, r2⟩ := hR M hn
    obtain ⟨m3, _, e⟩ := (h1.append r1).rest hr ht
    simp at e
    omega
theorem AddSt.finish {n : Int} {es : List Edg} {ar : List (List Int)} {q : Nat} {rot d : List Int} {now : List Int} {steps : Nat} {mm : List Nat} {tt : MSt} (h : AddSt n es ar q rot d d.length 0 now steps)
    (hr : Run ar (endsL es) q (start rot d d.length) mm tt) (ht : ∀ u, ¬ Can q tt u) : now = tt.1 ∧ (steps : Int) = tt.2.2.sum := by
  obtain ⟨m, D, t', h1, h2, h3, h4, h5, h6, h7, h8⟩ := h
  obtain ⟨e1, e2⟩ := hr.same ht h1 (fun u hc => by
    have := h6 u hc.2.1 (by have := hc.1; simp only at this; omega)
    have h9 := hc.2.2
    simp only at h9
    omega)
  have := hr.total (by simp [start])
  refine ⟨by rw [← e1], ?_⟩
  rw [this]
  simp [start]
  omega

end Go.Proofs.YtpgopmmobbemcaaGreat

set_option linter.unusedVariables false
set_option linter.unusedSimpArgs false
set_option linter.unnecessarySimpa false
namespace Go.Proofs.YtpgopmmobbemcaaGreat
open Go.RowKit

def MovesPost (B : Nat) (w : World) (x : List Int × List Int × Int) (e : Ending) (w' : World) : Prop :=
  ∃ rv cv, e = .returned (.tuple #[rv, cv, .int .i64 x.2.2]) ∧ OwnS intR 1 B 3 Non w' rv x.1 ∧ OwnS intR 1 B 3 Non w' cv x.2.1 ∧ Below B w w'

end Go.Proofs.YtpgopmmobbemcaaGreat

set_option linter.unusedVariables false
set_option linter.unusedSimpArgs false
set_option linter.unnecessarySimpa false
namespace Go.Proofs.YtpgopmmobbemcaaGreat
open Go.RowKit

def allRes (n : Int) (es : List Edg) (f : List Nat) (ar : List (List Int)) (q : Int) (rot d : List Int) : List Int × List Int × Int :=
  if gvE n es f ar q rot d = 0 then movesOf ar (endsL es) q.toNat pk0 rot d else ([], [], gvE n es f ar q rot d)

end Go.Proofs.YtpgopmmobbemcaaGreat

set_option linter.unusedVariables false
set_option linter.unusedSimpArgs false
set_option linter.unnecessarySimpa false
namespace Go.Proofs.YtpgopmmobbemcaaGreat
open Go.RowKit

theorem Run.nn {ar : List (List Int)} {E : List (Int × Int)} {q : Nat} {s t : MSt} {m : List Nat} (h : Run ar E q s m t) (hl : s.2.2.length = s.2.1.length) (h0 : ∀ x ∈ s.2.2, 0 ≤ x) : ∀ x ∈ t.2.2, 0 ≤ x := by
  induction h with
  | nil s => exact h0
  | @cons s t v l hv _ ih =>
    refine ih (by simp [mvS, addL_len, hl]) fun x hx => ?_
    rcases addL_mem (show x ∈ addL s.2.2 v 1 from hx) (by rw [hl]; exact hv.1) with h3 | ⟨z, h3, rfl⟩
    · exact h0 x h3
    · have := h0 z h3; omega
end Go.Proofs.YtpgopmmobbemcaaGreat

set_option linter.unusedVariables false
set_option linter.unusedSimpArgs false
set_option linter.unnecessarySimpa false
namespace Go.Proofs.YtpgopmmobbemcaaGreat
open Go.RowKit

/-- The half-edges of a vertex whose other ends are u. -/
def toU (E : List (Int × Int)) (u : Int) (h : Int) : Bool := hv E (oppH h.toNat) == u
def oneF (v u : Int) (p : Int × Int) : Int := (if p.1 = v ∧ p.2 = u then 1 else 0) + (if p.2 = v ∧ p.1 = u then 1 else 0)
def sumF (v u : Int) : List (Int × Int) → Int
  | [] => 0
  | p :: r => oneF v u p + sumF v u r
end Go.Proofs.YtpgopmmobbemcaaGreat

set_option linter.unusedVariables false
set_option linter.unusedSimpArgs false
set_option linter.unnecessarySimpa false
namespace Go.Proofs.YtpgopmmobbemcaaGreat
open Go.RowKit

/-- j steps at k. -/
def turnN (ar : List (List Int)) (E : List (Int × Int)) (s : MSt) (k : Nat) : Nat → MSt
  | 0 => s
  | j + 1 => mvS ar E (turnN ar E s k j) k
end Go.Proofs.YtpgopmmobbemcaaGreat

set_option linter.unusedVariables false
set_option linter.unusedSimpArgs false
set_option linter.unnecessarySimpa false
namespace Go.Proofs.YtpgopmmobbemcaaGreat
open Go.RowKit

/-- A list of the call's own is put behind: 'out = append(out, row)'. -/
theorem Lists.push {base s0 : Nat} {e lt : TypeId} {w w1 w' : World} {ov ov' v : Value} {vs : List Value} {xss : List (List Int)} {xs : List Int} (h : Lists base e lt w ov vs xss) (hs : w.heap.size = s0) (hb : base ≤ s0) (hb1 : Below s0 w w1) (hv : OwnN s0 e w1 v xs) {o : Obj}
    (hr : w'.ownsRow base lt 1 ov' (vs.length + 1) (vs ++ [v])) (hg : (w1.alloc o).grownBy w' ov.ownBlock)
    (hat : ov'.ownBlock = ov.ownBlock ∨ ov'.ownBlock = some (w1.alloc o).heap.size) : Lists base e lt w' ov' (vs ++ [v]) (xss ++ [xs]) := by
  have hsz := hb1.size
  have key : ∀ (i : Nat) (u : Value), (vs ++ [v])[i]? = some u → (i < vs.length ∧ vs[i]? = some u) ∨ (i = vs.length ∧ u = v) := fun i u hi => by
    rcases Nat.lt_or_ge i vs.length with hj | hj
    · rw [List.getElem?_append_left hj] at hi; exact .inl ⟨hj, hi⟩
    · rw [List.getElem?_append_right hj] at hi
      have h1 := (List.getElem?_eq_some_iff.1 hi).1
      simp at h1
      have : i = vs.length := by omega
      subst this
      simp at hi
      exact .inr ⟨rfl, hi.symm⟩
  have hold : ∀ (i : Nat) (u : Value) (k : Nat), vs[i]? = some u → u.ownBlock = some k → base ≤ k ∧ k < s0 := fun i u k hi hk => by have := h.ms.block hi k hk; omega
  have hovl : ∀ k, ov.ownBlock = some k → k < s0 := fun k hk => by have := (h.row.lt k hk).2; omega
  refine ⟨by rw [List.length_append]; exact hr, ⟨by simp [h.len], fun i u ys hu hy => ?_, fun i j u t k hu ht hku hkt => ?_⟩, fun i u k hi hk he => ?_⟩
  · rcases key i u hu with ⟨a1, a2⟩ | ⟨a1, a2⟩
    · rw [List.getElem?_append_left (by rw [← h.len]; exact a1)] at hy
      refine (h.ms.own i u ys a2 hy).keep fun g hgu => ?_
      have hgl := hold i u g a2 hgu
      rw [hg.block g (by simp; omega) (fun he => h.off i u g a2 hgu he.symm), Below.heap_alloc w1 o g (by omega)]
      exact hb1.block g hgl.2
    · subst a1 a2
      rw [List.getElem?_append_right (by rw [← h.len]; exact Nat.le_refl _), h.len, Nat.sub_self] at hy
      simp at hy
      subst hy
      refine (hv.rebase hb).keep fun g hgu => ?_
      have hgl := hv.block g hgu
      rw [hg.block g (by simp; omega) (fun he => by have := hovl g he.symm; omega), Below.heap_alloc w1 o g (by omega)]
  · rcases key i u hu with ⟨a1, a2⟩ | ⟨a1, a2⟩ <;> rcases key j t ht with ⟨b1, b2⟩ | ⟨b1, b2⟩
    · exact h.ms.apart i j u t k a2 b2 hku hkt
    · subst b2
      have := hold i u k a2 hku
      have := hv.block k hkt
      omega
    · subst a2
      have := hold j t k b2 hkt
      have := hv.block k hku
      omega
    · rw [a1, b1]
  · rcases key i u hi with ⟨a1, a2⟩ | ⟨a1, a2⟩
    · rcases hat with ha | ha
      · exact h.off i u k a2 hk (ha ▸ he)
      · rw [ha] at he
        injection he with he
        have := hold i u k a2 hk
        simp at he
        omega
    · subst a2
      have hkl := hv.block k hk
      rcases hat with ha | ha
      · rw [ha] at he
        have := hovl k he
        omega
      · rw [ha] at he
        injection he with he
        simp at he
        omega

/-- To which vertex each half-edge in the lists leads. -/
def tgL (ar : List (List Int)) (E : List (Int × Int)) : List (List Int) := ar.map fun l => l.map fun x => hv E (oppH x.toNat)

def TgPost (w : World) (t : List (List Int)) (e : Ending) (w' : World) : Prop := ∃ ot c, e = .returned (.slice ot t.length c) ∧ t.length ≤ c ∧ SliceR (slcR intR 1) 1 All w' ot t ∧ Below w.heap.size w w'

end Go.Proofs.YtpgopmmobbemcaaGreat

set_option linter.unusedVariables false
set_option linter.unusedSimpArgs false
set_option linter.unnecessarySimpa false
namespace Go.Proofs.YtpgopmmobbemcaaGreat
open Go.RowKit

section
variable (n : Int) (es : List Edg) (oe : Option Addr) (c : Nat) (ar : List (List Int)) (oa : Option Addr) (ca : Nat) (F G : Foot) (w : World) (hs : SliceR edgR 3 F w oe es) (hc : es.length ≤ c) (hc2 : es.length ≤ 1000)
    (ha : SliceR (slcR intR 1) 1 G w oa ar) (hac : ar.length ≤ ca) (hac2 : ar.length ≤ 9223372036854775807) (f : List Nat) (hU : Hid (gErr n es = 0 → Uf f (eL es)))
    (q : Int) (rot : List Int) (ot : Option Addr) (ct : Nat) (H : Foot) (hr : SliceR intR 1 H w ot rot) (hrc : rot.length ≤ ct) (hrl : rot.length ≤ 9223372036854775807)
include hs hc hc2 ha hac hac2 hU hr hrc hrl

end

end Go.Proofs.YtpgopmmobbemcaaGreat

set_option linter.unusedVariables false
set_option linter.unusedSimpArgs false
set_option linter.unnecessarySimpa false
namespace Go.Proofs.YtpgopmmobbemcaaGreat
open Go.RowKit

def smB (n : Int) (es : List Edg) (N M : Int) : Bool := if es.length ≤ 40 then (if gErr n es = 0 then decide (n ≤ N ∧ ((endsL es).length : Int) ≤ M) else true) else false

set_option maxRecDepth 100000 in
set_option maxHeartbeats 2000000 in
theorem small_any (n : Int) (es : List Edg) (oe : Option Addr) (c : Nat) (F : Foot) (w : World) (hs : SliceR edgR 3 F w oe es) (hc : es.length ≤ c) (hc2 : es.length ≤ 9223372036854775807) (N M : Int) :
    Calls Tryz.prog 82 #[.agg #[.int .i64 n, .slice oe es.length c], .int .i64 N, .int .i64 M] w fun e w' => e = .returned (.bool (smB n es N M)) ∧ Below w.heap.size w w' := by
  have hb0 := box_refl w (.cells #[.int .i64 n, .slice oe es.length c] 24)
  by_cases h40 : es.length ≤ 40
  · have q1 : decide ((40 : Int) < (es.length : Int)) = false := by simp; omega
    have hc3 : es.length ≤ 1000 := by omega
    have HS : Hid (smB n es N M = if gErr n es = 0 then decide (n ≤ N ∧ ((endsL es).length : Int) ≤ M) else true) := if_pos h40
    have HK := hide (rgcheck_any n es oe c F _ (hs.below edgR_ok (below_box hb0)) hc hc2)
    clear h40
    go_enter Tryz.func82, Tryz.ntmps82
    go_wp2_with fail
    refine HK.out.mono ?_
    rintro e w2 ⟨rfl, hb2⟩
    have hx2 := hb2.mono (B' := w.heap.size + 1) (by simp)
    have d0 := box_cell hx2 0
    have d1 := box_cell hx2 1
    simp at d0 d1
    have HX := hide hx2
    clear hb0 hb2 hx2
    by_cases hE : gErr n es = 0
    · have HS2 : Hid (smB n es N M = decide (n ≤ N ∧ ((endsL es).length : Int) ≤ M)) := by show _ = _; rw [HS.out, if_pos hE]
      have HM : Hid (∀ x ∈ es, x.m ≤ 50) := fun x hx => ((gErr_zero hE).2.1 x hx).2.2.2.1
      rw [hE]
      clear hE
      by_cases hN : n ≤ N
      · have q2 : decide (n ≤ N) = true := by simp [hN]
        by_cases hM : ((endsL es).length : Int) ≤ M
        · have q3 : decide (((endsL es).length : Int) ≤ M) = true := by simp [hM]
          have HS3 : Hid (smB n es N M = true) := by show _ = _; rw [HS2.out]; exact decide_eq_true ⟨hN, hM⟩
          clear hN hM
          go_wp2_with fail
          refine (rsize_any n es oe c F w2 (hs.below edgR_ok (below_box HX.out)) hc hc3 HM).mono ?_
          rintro e w3 ⟨rfl, hb3⟩
          go_wp2_with fail
          go_ret
          exact ⟨ret_bool HS3.out.symm, (below_box HX.out).trans (hb3.mono (below_box HX.out).size)⟩
        · have q3 : decide (((endsL es).length : Int) ≤ M) = false := by simp; omega
          have HS3 : Hid (smB n es N M = false) := by show _ = _; rw [HS2.out]; exact decide_eq_false (fun h => hM h.2)
          clear hN hM
          go_wp2_with fail
          refine (rsize_any n es oe c F w2 (hs.below edgR_ok (below_box HX.out)) hc hc3 HM).mono ?_
          rintro e w3 ⟨rfl, hb3⟩
          go_wp2_with fail
          go_ret
          exact ⟨ret_bool HS3.out.symm, (below_box HX.out).trans (hb3.mono (below_box HX.out).size)⟩
      · have q2 : decide (n ≤ N) = false := by simp; omega
        have HS3 : Hid (smB n es N M = false) := by show _ = _; rw [HS2.out]; exact decide_eq_false (fun h => hN h.1)
        clear hN
        go_wp2_with fail
        go_ret
        exact ⟨ret_bool HS3.out.symm, below_box HX.out⟩
    · have HS2 : Hid (smB n es N M = true) := by show _ = _; rw [HS.out, if_neg hE]
      have q2 : (gErr n es != 0) = true := by simpa using hE
      clear hE
      go_wp2_with fail
      go_ret
      exact ⟨ret_bool HS2.out.symm, below_box HX.out⟩
  · have q1 : decide ((40 : Int) < (es.length : Int)) = true := by simp; omega
    have HS : Hid (smB n es N M = false) := if_neg h40
    clear h40
    go_enter Tryz.func82, Tryz.ntmps82
    go_wp2_with fail
    go_ret
    exact ⟨ret_bool HS.out.symm, below_box hb0⟩

theorem rfew_any (n : Int) (es : List Edg) (oe : Option Addr) (c : Nat) (F : Foot) (w : World) (hs : SliceR edgR 3 F w oe es) (hc : es.length ≤ c) (hc2 : es.length ≤ 9223372036854775807) :
    Calls Tryz.prog 41 #[.agg #[.int .i64 n, .slice oe es.length c]] w fun e w' => e = .returned (.bool (smB n es 6 9)) ∧ Below w.heap.size w w' := by
  have hb0 := box_refl w (.cells #[.int .i64 n, .slice oe es.length c] 24)
  have HK := hide (small_any n es oe c F _ (hs.below edgR_ok (below_box hb0)) hc hc2 6 9)
  go_enter Tryz.func41, Tryz.ntmps41
  go_wp2_with fail
  refine HK.out.mono ?_
  rintro e w2 ⟨rfl, hb2⟩
  go_wp2_with fail
  go_ret
  exact ⟨rfl, below_box (hb2.mono (B' := w.heap.size + 1) (by simp))⟩

/-- No list is longer than 40. -/
def longB : List (List Int) → Bool
  | [] => true
  | l :: r => if l.length ≤ 40 then longB r else false
def few44 (n : Int) (es : List Edg) (ar : List (List Int)) : Bool := if smB n es 6 9 = true then (if ar.length ≤ 20 then longB ar else false) else false
def few45 (n : Int) (es : List Edg) (ar : List (List Int)) (rot : List Int) : Bool := if few44 n es ar = true then decide (rot.length ≤ 30) else false

end Go.Proofs.YtpgopmmobbemcaaGreat

set_option linter.unusedVariables false
set_option linter.unusedSimpArgs false
set_option linter.unnecessarySimpa false
namespace Go.Proofs.YtpgopmmobbemcaaGreat
open Go.RowKit

theorem rIn_any (k : Int) (w : World) : Calls Tryz.prog 88 #[.int .i64 k] w fun e w' => e = .returned (.bool (inChips k)) ∧ w = w' := by
  by_cases h1 : -1048576 ≤ k
  · by_cases h2 : k ≤ 1048576
    · have HR : Hid (inChips k = true) := by show _ = _; simp [inChips, h1, h2]
      have q1 : decide ((-1048576 : Int) ≤ k) = true := by simp [h1]
      have q2 : decide (k ≤ (1048576 : Int)) = true := by simp [h2]
      clear h1 h2
      go_enter Tryz.func88, Tryz.ntmps88
      go_wp2_with fail
      go_ret
      exact ⟨ret_bool HR.out.symm, rfl⟩
    · have HR : Hid (inChips k = false) := by show _ = _; simp [inChips]; omega
      have q1 : decide ((-1048576 : Int) ≤ k) = true := by simp [h1]
      have q2 : decide (k ≤ (1048576 : Int)) = false := by simp; omega
      clear h1 h2
      go_enter Tryz.func88, Tryz.ntmps88
      go_wp2_with fail
      go_ret
      exact ⟨ret_bool HR.out.symm, rfl⟩
  · have HR : Hid (inChips k = false) := by show _ = _; simp [inChips]; omega
    have q1 : decide ((-1048576 : Int) ≤ k) = false := by simp; omega
    clear h1
    go_enter Tryz.func88, Tryz.ntmps88
    go_wp2_with fail
    go_ret
    exact ⟨ret_bool HR.out.symm, rfl⟩

set_option maxRecDepth 100000 in
set_option maxHeartbeats 2000000 in
theorem rdcheck_any (n : Int) (d : List Int) (od : Option Addr) (cd : Nat) (F : Foot) (w : World) (hd : SliceR intR 1 F w od d) (hc : d.length ≤ cd) (hc2 : d.length ≤ 9223372036854775807) :
    Calls Tryz.prog 50 #[.slice od d.length cd, .int .i64 n] w fun e w' => e = .returned (.int .i64 (dErr n d)) ∧ w = w' := by
  by_cases h1 : 1 ≤ n
  · have q1 : decide (n < (1 : Int)) = false := by simp; omega
    by_cases h3 : n ≤ 12
    · have q2 : decide ((12 : Int) < n) = false := by simp; omega
      by_cases h2 : (d.length : Int) = n
      · have HR : Hid (dErr n d = dScan d) := by show _ = _; unfold dErr; rw [if_pos ⟨h1, h3⟩, if_pos h2]
        have q3 : ((d.length : Int) != n) = false := by simp [h2]
        have hn := hide h2
        clear h1 h3 h2
        go_enter Tryz.func50, Tryz.ntmps50
        go_wp2_with fail
        go_loopw [5] (fun iv wr => ∃ k : Nat, k ≤ d.length ∧ iv = .int .i64 k ∧ Hid (dErr n d = dScan (d.drop k)) ∧ wr = w) (fun iv _ => d.length - (intOf iv).toNat)
        case atStart => exact ⟨0, by omega, rfl, HR, rfl⟩
        case round =>
          obtain ⟨k, hk, rfl, HS, rfl⟩ := hrel
          by_cases hlt : k < d.length
          · have q4 : decide ((k : Int) < n) = true := by have := hn.out; simp; omega
            obtain ⟨x, hdr, _, ix, b, off, hod, _, c0⟩ := hd.int_at hlt
            subst hod
            have HS2 : Hid (dErr n d = if inChips x = true then dScan (d.drop (k + 1)) else 2) := by show _ = _; rw [HS.out, hdr]; rfl
            clear hdr
            by_cases hx : inChips x = true
            · have HS3 : Hid (dErr n d = dScan (d.drop (k + 1))) := by show _ = _; rw [HS2.out, if_pos hx]
              have hI := rIn_any x wr
              rw [hx] at hI
              clear hx
              go_wp2_with fail
              refine hI.mono ?_
              rintro e w3 ⟨rfl, rfl⟩
              go_wp2_with fail
              go_roundw
              case rel => exact ⟨k + 1, by omega, by go_num, HS3, by first | rfl | trivial⟩
              case measure => simp [intOf]; omega
            · have HS3 : Hid (dErr n d = 2) := by show _ = _; rw [HS2.out, if_neg hx]
              have hx2 : inChips x = false := by simpa using hx
              have hI := rIn_any x wr
              rw [hx2] at hI
              clear hx hx2
              go_wp2_with fail
              refine hI.mono ?_
              rintro e w3 ⟨rfl, rfl⟩
              go_wp2_with fail
              go_ret
              exact ⟨ret_int HS3.out.symm, rfl⟩
          · have q4 : decide ((k : Int) < n) = false := by have := hn.out; simp; omega
            have hke : k = d.length := by omega
            have HS3 : Hid (dErr n d = 0) := by show _ = _; rw [HS.out, hke, List.drop_length]; rfl
            clear hke
            go_wp2_with fail
            go_ret
            exact ⟨ret_int HS3.out.symm, rfl⟩
      · have HR : Hid (dErr n d = 8) := by show _ = _; unfold dErr; rw [if_pos ⟨h1, h3⟩, if_neg h2]
        have q3 : ((d.length : Int) != n) = true := by simp [h2]
        clear h1 h3 h2
        go_enter Tryz.func50, Tryz.ntmps50
        go_wp2_with fail
        go_ret
        exact ⟨ret_int HR.out.symm, rfl⟩
    · have HR : Hid (dErr n d = 2) := if_neg (by omega)
      have q2 : decide ((12 : Int) < n) = true := by simp; omega
      clear h1 h3
      go_enter Tryz.func50, Tryz.ntmps50
      go_wp2_with fail
      go_ret
      exact ⟨ret_int HR.out.symm, rfl⟩
  · have HR : Hid (dErr n d = 2) := if_neg (by omega)
    have q1 : decide (n < (1 : Int)) = true := by simp; omega
    clear h1
    go_enter Tryz.func50, Tryz.ntmps50
    go_wp2_with fail
    go_ret
    exact ⟨ret_int HR.out.symm, rfl⟩

/-- The error of the chips alone. -/
def chE (n q : Int) (d : List Int) : Int := if dErr n d = 0 then gScan q 0 d else dErr n d

end Go.Proofs.YtpgopmmobbemcaaGreat

set_option linter.unusedVariables false
set_option linter.unusedSimpArgs false
namespace Go.Proofs.YtpgopmmobbemcaaGreat
open Go.RowKit

def forest (es : List Edg) : List Nat := (eL es).foldl (fun f x => joinF f x.1 x.2) (List.range 12)
theorem forest_go : ∀ (l m : List (Nat × Nat)) (f : List Nat), Uf f m → (∀ x ∈ m, x.1 < 12 ∧ x.2 < 12) → (∀ x ∈ l, x.1 < 12 ∧ x.2 < 12) → Uf (l.foldl (fun f x => joinF f x.1 x.2) f) (m ++ l)
  | [], m, f, h, _, _ => by simpa using h
  | x :: l, m, f, h, hm, hl => by
    obtain ⟨h1, h2⟩ := hl x (List.mem_cons_self ..)
    have := forest_go l (m ++ [x]) (joinF f x.1 x.2) (h.join h1 h2 hm) (fun y hy => by
      rcases List.mem_append.1 hy with h3 | h3
      · exact hm y h3
      · simp at h3; subst h3; exact ⟨h1, h2⟩) (fun y hy => hl y (List.mem_cons_of_mem _ hy))
    rw [List.append_assoc] at this
    exact this
theorem forest_ok (n : Int) (es : List Edg) : gErr n es = 0 → Uf (forest es) (eL es) := fun h => by
  have := forest_go (eL es) [] (List.range 12) Uf.begin (by simp) (fun x hx => ?_)
  · unfold forest; simpa using this
  · have h1 := eL_lt h es.length x
    rw [List.take_length] at h1
    exact h1 hx

end Go.Proofs.YtpgopmmobbemcaaGreat

set_option linter.unusedVariables false
set_option linter.unusedSimpArgs false
set_option linter.unnecessarySimpa false
namespace Go.Proofs.YtpgopmmobbemcaaGreat
open Go.RowKit

theorem few17_any (d : List Int) (od : Option Addr) (cd : Nat) (w : World) : Calls Tryz.prog 22 #[.slice od d.length cd] w fun e w' => e = .returned (.bool (decide (d.length ≤ 24))) ∧ Below w.heap.size w w' := by
  have HR : Hid (decide (d.length ≤ 24) = decide ((d.length : Int) ≤ 24)) := by show _ = _; simp; omega
  go_enter Tryz.func22, Tryz.ntmps22
  go_wp2_with fail
  go_ret
  exact ⟨ret_bool HR.out.symm, Below.refl _ _⟩

/-- All chips are from -60 to 60. -/
def smD : List Int → Bool
  | [] => true
  | x :: r => if x < -60 ∨ 60 < x then false else smD r
section
variable {w : World} {n : Int} {es : List Edg} {oe : Option Addr} {c : Nat} {ar : List (List Int)} {oa : Option Addr} {ca : Nat} {q : Int} {rot : List Int} {ot : Option Addr} {ct : Nat} {d : List Int} {od : Option Addr} {cd : Nat} {pk : List Int} {op : Option Addr} {cp : Nat}
end

/-- A right and small game. -/
def smallB (n : Int) (es : List Edg) (ar : List (List Int)) (q : Int) (rot d : List Int) : Bool :=
  if few45 n es ar rot = true then (if d.length ≤ 24 then (if gvE n es (forest es) ar q rot d = 0 then smD d else false) else false) else false
end Go.Proofs.YtpgopmmobbemcaaGreat

set_option linter.unusedVariables false
set_option linter.unusedSimpArgs false
set_option linter.unnecessarySimpa false
namespace Go.Proofs.YtpgopmmobbemcaaGreat
open Go.RowKit

/-- What moves along an edge. -/
def flowL (s : List Int) (x : Edg) : Int := x.m * (s.getD x.a.toNat 0 - s.getD x.b.toNat 0)
def alongL (s : List Int) (x : Edg) (out : List Int) : List Int := addL (addL out x.a.toNat (-(flowL s x))) x.b.toNat (flowL s x)
def movedL (s : List Int) (es : List Edg) (d : List Int) : List Int := es.foldl (fun out x => alongL s x out) d
def oneHot (n k : Nat) : List Int := (List.replicate n 0).set k 1
theorem along_len (s : List Int) (x : Edg) (d : List Int) : (alongL s x d).length = d.length := by
  unfold alongL; rw [addL_len, addL_len]
theorem moved_len (s : List Int) : ∀ (es : List Edg) (d : List Int), (movedL s es d).length = d.length
  | [], _ => rfl
  | x :: r, d => by
    show (movedL s r (alongL s x d)).length = _
    rw [moved_len s r, along_len]
end Go.Proofs.YtpgopmmobbemcaaGreat

set_option linter.unusedVariables false
set_option linter.unusedSimpArgs false
set_option linter.unnecessarySimpa false
namespace Go.Proofs.YtpgopmmobbemcaaGreat
open Go.RowKit

section
variable {P : Program} {ops : Array Oper} {Q : Exit → Act → World → Prop} {md : Region.Mode}

/-- The operations that have to come before the i-th. -/
def preOf (md : Region.Mode) (ops : Array Oper) (i : Nat) : List Nat := ((ops[i]?).map fun o => (o.after.toList.filter (Region.binds md)).map (·.on)).getD []
theorem ready_pre {listed : Array Bool} {i : Nat} : i ∈ Region.ready md ops listed ↔ i < ops.size ∧ listed.getD i true = false ∧ ∀ p ∈ preOf md ops i, listed.getD p false = true := by
  unfold Region.ready
  rw [List.mem_filter, List.mem_range]
  constructor
  · rintro ⟨h1, h2⟩
    rw [Bool.and_eq_true] at h2
    refine ⟨h1, by simpa using h2.1, ?_⟩
    have h3 := h2.2
    rw [Array.getElem?_eq_getElem h1] at h3
    simp only [Option.map_some, Option.getD_some, Array.all_eq_true'] at h3
    intro p hp
    unfold preOf at hp
    rw [Array.getElem?_eq_getElem h1] at hp
    simp only [Option.map_some, Option.getD_some, List.mem_map, List.mem_filter] at hp
    obtain ⟨e, ⟨he, hb⟩, rfl⟩ := hp
    have := h3 e (by simpa using he)
    simpa [hb] using this
  · rintro ⟨h1, h2, h3⟩
    refine ⟨h1, ?_⟩
    rw [Bool.and_eq_true]
    refine ⟨by simp [h2], ?_⟩
    rw [Array.getElem?_eq_getElem h1]
    simp only [Option.map_some, Option.getD_some, Array.all_eq_true']
    intro e he
    by_cases hb : Region.binds md e = true
    · have := h3 e.on (by
        unfold preOf
        rw [Array.getElem?_eq_getElem h1]
        simp only [Option.map_some, Option.getD_some, List.mem_map, List.mem_filter]
        exact ⟨e, ⟨by simpa using he, hb⟩, rfl⟩)
      simp [this]
    · simp [hb]
/-- Where nothing may come up, all has been. -/
theorem ready_nil_all (hp : (List.range ops.size).all (fun i => (preOf md ops i).all fun p => decide (p < i)) = true) {listed : Array Bool} (hl : listed.size = ops.size) (h : Region.ready md ops listed = []) : ∀ i, i < ops.size → listed.getD i false = true := by
  intro i
  induction i using Nat.strongRecOn with
  | _ i ih =>
    intro hi
    have hil : i < listed.size := by omega
    by_cases hx : listed.getD i false = true
    · exact hx
    · have hm : i ∈ Region.ready md ops listed := ready_pre.2 ⟨hi, by
        simp only [Array.getD, hil, dif_pos] at hx ⊢
        simpa using hx, fun p hpp => by
        have h1 := (List.all_eq_true.1 hp) i (List.mem_range.2 hi)
        have h2 := (List.all_eq_true.1 h1) p hpp
        have h3 : p < i := by simpa using h2
        exact ih p h3 (by omega)⟩
      rw [h] at hm
      cases hm
theorem listed_set {listed : Array Bool} {i j : Nat} (hj : i ≠ j) (h : (listed.setIfInBounds i true).getD j false = true) : listed.getD j false = true := by
  rw [Array.getD_eq_getD_getElem?] at h ⊢
  rw [Array.getElem?_setIfInBounds_ne hj] at h
  exact h
def leftOf (ops : Array Oper) (listed : Array Bool) : Nat := (List.range ops.size).countP fun i => !listed.getD i true
end

/-- append(T{}, src...) as one step of a region that draws its order. -/
theorem step_append_fresh {α : Type} {R : Rep α} {f : α → Value} {P : Program} {ops : Array Oper} {o : Oper} {a : Act} {w : World} {K : Act → World → Prop} {Q : Exit → Act → World → Prop} {E : Prop} (hgd : o.guard = none) (s x : Operand) (t : TypeId)
    (ho : o.op = .call { callee := .builtin .append, args := #[s, x], argTypes := #[t, t] })
    (e : TypeId) (z : Value) (bytes : Nat) (ht : P.underlying t = some (.slice e)) (hinfo : (P.info? e).map (fun i => (i.zero, i.size, i.bytes)) = some (some z, 1, bytes))
    (hzs : z.cells.size = 1) (hR : ∀ F w cs x, R F w cs x → cs = [f x])
    (b : Addr) (hs : a.eval s = .slice (some b) 0 0) (F : Foot) (oa : Option Addr) (c : Nat) (ys : List α) (hx : a.eval x = .slice oa ys.length c) (hsrc : SliceR R 1 F w oa ys) (hne : 0 < ys.length)
    (hbytes : ys.length * bytes ≤ 140737488355328) (hm : ys.length ≤ maxLen)
    (hK : ∀ w' g cap rest, w.heap.size ≤ g → Row1 f w' g e ys rest → (cap = ys.length + rest.length ∧ cap ≤ maxLen) → w.grownBy w' none → K (a.put o.dst (.slice (some ⟨g, 0, none⟩) ys.length cap)) w') :
    if Region.wanted o (yielded ops a.tmps) = true then Oper.wp P o a w K Q else E := by
  have hw : Region.wanted o (yielded ops a.tmps) = true := by simp [Region.wanted, hgd]
  rw [if_pos hw]
  obtain ⟨i0, hi, hz0, hz1, hz2⟩ := info_parts hinfo
  have hat : ∀ i y, ys[i]? = some y → ∃ b off, oa = some ⟨b, off, none⟩ ∧ w.cell? ⟨b, off + i, none⟩ = some (f y) := fun i y hy => by
    obtain ⟨b, off, cs', hoa, _, hRy, hc⟩ := hsrc i y hy
    have := hR _ _ _ _ hRy
    subst this
    exact ⟨b, off, hoa, by simpa using hc 0 (f y) rfl⟩
  obtain ⟨b2, off2, hoa, _⟩ := hat 0 _ (List.getElem?_eq_getElem hne)
  subst hoa
  have hnews : ∀ j u, (ys.map f)[j]? = some u → w.cell? ((⟨b2, off2, none⟩ : Addr).add j) = some u := fun j u hu => by
    rw [List.getElem?_map] at hu
    obtain ⟨y, hy, rfl⟩ := Option.map_eq_some_iff.1 hu
    obtain ⟨b3, off3, he, hc⟩ := hat j y hy
    injection he with he
    injection he with e1 e2
    subst e1 e2
    rw [Addr.add_lit]
    exact hc
  obtain ⟨v', w', hrun, r1, r2⟩ := run_append_arg_grows (P := P) w t o.type e i0 z 1 bytes ht hi hz0 hz1 hz2 hzs (by decide) b 0 0 [] (by simp) (by simp) ⟨b2, off2, none⟩ ys.length c (ys.map f) (by simp) hnews (by omega) (by omega) (by simpa using hbytes)
  have hfin : ∃ g cap rest, w.heap.size ≤ g ∧ Row1 f w' g e ys rest ∧ (cap = ys.length + rest.length ∧ cap ≤ maxLen) ∧ v' = .slice (some ⟨g, 0, none⟩) ys.length cap := by
    rcases r1.2 with ⟨he, h0⟩ | ⟨g, cap, cur, he, hb, hh, hle, hcm, hcs, htake⟩
    · omega
    · refine ⟨g, cap, cur.toList.drop ys.length, hb, ?_, ⟨by simp; omega, hcm⟩, by rw [he]; simp⟩
      unfold Row1
      have : ys.map f ++ cur.toList.drop ys.length = cur.toList := by
        have h2 := List.take_append_drop ys.length cur.toList
        simp only [Nat.zero_add, Nat.mul_one, List.nil_append] at htake
        rw [htake] at h2
        exact h2
      rw [this]
      exact hh
  obtain ⟨g, cap, rest, hg, hrow, hcap, rfl⟩ := hfin
  unfold Oper.wp execOp
  simp only [ho, resolve, invoke, builtin, Sem.run_bind, Sem.run_pure, Result.andThen_ok, List.map_toArray, List.map_cons, List.map_nil, hs, hx, hrun]
  exact hK w' g cap rest hg hrow hcap r2

end Go.Proofs.YtpgopmmobbemcaaGreat

set_option linter.unusedVariables false
set_option linter.unusedSimpArgs false
set_option linter.unnecessarySimpa false
namespace Go.Proofs.YtpgopmmobbemcaaGreat
open Go.RowKit

def outB (d : List Int) : Bool := d.any fun k => !inChips k
theorem flow_bound {m a b : Int} (hm : 0 ≤ m ∧ m ≤ 50) (ha : -2097152 ≤ a ∧ a ≤ 2097152) (hb : -2097152 ≤ b ∧ b ≤ 2097152) : -300000000 ≤ m * (a - b) ∧ m * (a - b) ≤ 300000000 := by
  have h1 : m * (a - b) ≤ m * 4194304 := Int.mul_le_mul_of_nonneg_left (by omega) hm.1
  have h2 : m * (-4194304) ≤ m * (a - b) := Int.mul_le_mul_of_nonneg_left (by omega) hm.1
  omega

end Go.Proofs.YtpgopmmobbemcaaGreat

set_option linter.unusedVariables false
set_option linter.unusedSimpArgs false
set_option linter.unnecessarySimpa false
namespace Go.Proofs.YtpgopmmobbemcaaGreat
open Go.RowKit

theorem movedL_succ {s : List Int} {es : List Edg} {d : List Int} {k : Nat} {x : Edg} (h : es[k]? = some x) : movedL s (es.take (k + 1)) d = alongL s x (movedL s (es.take k) d) := by
  rw [List.take_add_one, h]
  simp [movedL, List.foldl_append]
theorem flowL_bound {s : List Int} {x : Edg} (hs : ∀ y ∈ s, -2097152 ≤ y ∧ y ≤ 2097152) (hm : 0 ≤ x.m ∧ x.m ≤ 50) : -300000000 ≤ flowL s x ∧ flowL s x ≤ 300000000 := by
  have hg : ∀ i : Nat, -2097152 ≤ s.getD i 0 ∧ s.getD i 0 ≤ 2097152 := fun i => by
    rw [List.getD_eq_getElem?_getD]
    rcases hx : s[i]? with _ | y
    · simp
    · exact hs y (List.mem_of_getElem? hx)
  exact flow_bound hm (hg _) (hg _)
theorem along_bound {s d : List Int} {x : Edg} {B : Int} (hs : ∀ y ∈ s, -2097152 ≤ y ∧ y ≤ 2097152) (hm : 0 ≤ x.m ∧ x.m ≤ 50) (ha : x.a.toNat < d.length) (hb : x.b.toNat < d.length) (hd : ∀ y ∈ d, -B ≤ y ∧ y ≤ B) :
    ∀ y ∈ alongL s x d, -(B + 600000000) ≤ y ∧ y ≤ B + 600000000 := by
  have hf := flowL_bound hs hm
  intro y hy
  unfold alongL at hy
  rcases addL_mem hy (by rw [addL_len]; exact hb) with h | ⟨z, h, e⟩
  · rcases addL_mem h ha with h1 | ⟨z, h1, e1⟩
    · have := hd y h1; omega
    · have := hd z h1; omega
  · rcases addL_mem h ha with h1 | ⟨z', h1, e1⟩
    · have := hd z h1; omega
    · have := hd z' h1; omega
theorem moved_bound {s d : List Int} {es : List Edg} (hs : ∀ y ∈ s, -2097152 ≤ y ∧ y ≤ 2097152) (he : ∀ x ∈ es, (0 ≤ x.m ∧ x.m ≤ 50) ∧ x.a.toNat < d.length ∧ x.b.toNat < d.length) (hd : ∀ y ∈ d, -1048576 ≤ y ∧ y ≤ 1048576) :
    ∀ k, k ≤ es.length → ∀ y ∈ movedL s (es.take k) d, -(1048576 + k * 600000000 : Int) ≤ y ∧ y ≤ 1048576 + k * 600000000
  | 0, _ => fun y hy => by have := hd y (by simpa [movedL] using hy); omega
  | k + 1, hk => fun y hy => by
    have ih := moved_bound hs he hd k (by omega)
    have hx : es[k]? = some es[k] := List.getElem?_eq_getElem (by omega)
    rw [movedL_succ hx] at hy
    obtain ⟨h1, h2, h3⟩ := he _ (List.getElem_mem (show k < es.length by omega))
    have := along_bound hs h1 (by rw [moved_len]; exact h2) (by rw [moved_len]; exact h3) ih y hy
    omega

end Go.Proofs.YtpgopmmobbemcaaGreat

set_option linter.unusedVariables false
set_option linter.unusedSimpArgs false
namespace Go.Proofs.YtpgopmmobbemcaaGreat
open Go.RowKit

set_option maxRecDepth 100000 in
set_option maxHeartbeats 1000000 in
theorem rtable43_any (n : Int) (es : List Edg) (oe : Option Addr) (c : Nat) (F : Foot) (w : World) (hs : SliceR edgR 3 F w oe es) (hc : es.length ≤ c) (hc2 : es.length ≤ 9223372036854775807)
    (f : List Nat) (hU : Hid (gErr n es = 0 → Uf f (eL es))) : Calls Tryz.prog 71 #[.agg #[.int .i64 n, .slice oe es.length c]] w (ErrPost w (jErr n es f)) := by
  go_enter Tryz.func71, Tryz.ntmps71
  go_wp2_with fail
  have hb0 := box_refl w (.cells #[.int .i64 n, .slice oe es.length c] 24)
  refine (rgcheck_any n es oe c F _ (hs.below edgR_ok (below_box hb0)) hc hc2).mono ?_
  rintro e w2 ⟨rfl, hb2⟩
  have hx2 := hb2.mono (B' := w.heap.size + 1) (by simp)
  have d0 := box_cell hx2 0
  have d1 := box_cell hx2 1
  simp at d0 d1
  clear hb2 hb0
  have hs2 := hs.below edgR_ok (below_box hx2)
  by_cases hV : gErr n es = 0
  · have HJ : Hid (jErr n es f = if partsN n es f = 1 then 0 else 13) := if_pos hV
    have HP : Hid (partsN n es f = cnt f n.toNat) := if_pos hV
    have HV := hide hV
    have hn := (gErr_zero hV).1
    rw [hV]
    clear hV
    obtain ⟨N, rfl⟩ := Int.eq_ofNat_of_zero_le (show 0 ≤ n by omega)
    have HUF := hide (hU.out HV.out)
    go_wp2_with fail
    refine (rconn_any N es oe c F _ hs2 hc hc2 HV f HUF).mono ?_
    rintro e w3 ⟨rfl, hb3⟩
    have HX := hide (below_box (hx2.trans (hb3.mono (box_lt hx2))))
    clear hb3 hs2 d0 d1 hx2
    by_cases hp : cnt f N = 1
    · have HJ2 : Hid (jErr (N : Int) es f = 0) := by show _ = _; rw [HJ.out, HP.out]; exact if_pos hp
      have hq : (cnt f N == 1) = true := by simpa using hp
      clear hp
      go_wp2_with fail
      go_ret
      exact ⟨ret_int HJ2.out.symm, HX.out⟩
    · have HJ2 : Hid (jErr (N : Int) es f = 13) := by show _ = _; rw [HJ.out, HP.out]; exact if_neg hp
      have hq : (cnt f N == 1) = false := by simpa using hp
      clear hp
      go_wp2_with fail
      go_ret
      exact ⟨ret_int HJ2.out.symm, HX.out⟩
  · have HJ : Hid (jErr n es f = gErr n es) := if_neg hV
    have hx := hide (below_box hx2)
    have hq : (gErr n es != 0) = true := by simpa using hV
    go_wp2_with fail
    go_ret
    exact ⟨ret_int HJ.out.symm, hx.out⟩


set_option maxRecDepth 100000 in
set_option maxHeartbeats 1000000 in
theorem djoined_any (n : Int) (es : List Edg) (oe : Option Addr) (c : Nat) (F : Foot) (w : World) (hs : SliceR edgR 3 F w oe es) (hc : es.length ≤ c) (hc2 : es.length ≤ 9223372036854775807)
    (f : List Nat) (hU : Hid (gErr n es = 0 → Uf f (eL es))) : Calls Tryz.prog 83 #[.agg #[.int .i64 n, .slice oe es.length c]] w (ErrPost w (jErr n es f)) := by
  go_enter Tryz.func83, Tryz.ntmps83
  go_wp2_with fail
  have hb0 := box_refl w (.cells #[.int .i64 n, .slice oe es.length c] 24)
  refine (conn_any n es oe c F _ (hs.below edgR_ok (below_box hb0)) hc hc2 f hU).mono ?_
  rintro e w2 ⟨rfl, hb2⟩
  have hx := hide (below_box (hb0.trans (hb2.mono (box_lt hb0))))
  clear hb2 hb0
  by_cases hV : gErr n es = 0
  · rw [hV]
    by_cases hp : partsN n es f = 1
    · have HJ : Hid (jErr n es f = 0) := by show _ = _; unfold jErr; rw [if_pos hV, if_pos hp]
      have hq : (partsN n es f == 1) = true := by simpa using hp
      rw [hq]
      clear hV hp hq
      go_wp2_with fail
      go_ret
      exact ⟨ret_int HJ.out.symm, hx.out⟩
    · have HJ : Hid (jErr n es f = 13) := by show _ = _; unfold jErr; rw [if_pos hV, if_neg hp]
      have hq : (partsN n es f == 1) = false := by simpa using hp
      rw [hq]
      clear hV hp hq
      go_wp2_with fail
      go_ret
      exact ⟨ret_int HJ.out.symm, hx.out⟩
  · have HJ : Hid (jErr n es f = gErr n es) := if_neg hV
    have hq : (gErr n es != 0) = true := by simpa using hV
    go_wp2_with fail
    go_ret
    exact ⟨ret_int HJ.out.symm, hx.out⟩
/-- The error of a connected graph and a divisor. -/
def tErr (n : Int) (es : List Edg) (f : List Nat) (d : List Int) : Int := if jErr n es f = 0 then dErr n d else jErr n es f
set_option maxRecDepth 100000 in
set_option maxHeartbeats 1000000 in
theorem dgiven_any (n : Int) (es : List Edg) (oe : Option Addr) (c : Nat) (F : Foot) (w : World) (hs : SliceR edgR 3 F w oe es) (hc : es.length ≤ c) (hc2 : es.length ≤ 9223372036854775807)
    (f : List Nat) (hU : Hid (gErr n es = 0 → Uf f (eL es))) (d : List Int) (od : Option Addr) (cd : Nat) (G : Foot) (hd : SliceR intR 1 G w od d) (hdc : d.length ≤ cd) (hdl : d.length ≤ 9223372036854775807) :
    Calls Tryz.prog 51 #[.agg #[.int .i64 n, .slice oe es.length c], .slice od d.length cd] w (ErrPost w (tErr n es f d)) := by
  have hb0 := bnew (Below.refl w.heap.size w) (.cells #[.int .i64 n, .slice oe es.length c] 24)
  have bxx := Box.new w [.int .i64 n, .slice oe es.length c] 24
  have HK := hide (djoined_any n es oe c F _ (hs.below edgR_ok hb0) hc hc2 f hU)
  have HD := hide (hd.below intR_ok hb0)
  have HB := hide hb0
  have HX := hide bxx
  clear hs hd hb0 bxx
  go_enter Tryz.func51, Tryz.ntmps51
  go_wp2_with fail
  refine HK.out.mono ?_
  rintro e w2 ⟨rfl, hb2⟩
  have HB2 := hide (below_then HB.out hb2)
  have bx2 := HX.out.below hb2
  have d0 := bx2.cell 0
  have d1 := bx2.cell 1
  simp only [List.getElem?_cons_zero, List.getElem?_cons_succ] at d0 d1
  have HC := hide (dcheck_any n d od cd G w2 (HD.out.below intR_ok hb2) hdc hdl)
  clear hb2 bx2
  by_cases hV : jErr n es f = 0
  · have HT : Hid (tErr n es f d = dErr n d) := if_pos hV
    rw [hV]
    clear hV
    go_wp2_with fail
    refine HC.out.mono ?_
    rintro e w3 ⟨rfl, h3⟩
    go_wp2_with fail
    go_ret
    exact ⟨ret_int HT.out.symm, below_then HB2.out h3⟩
  · have HT : Hid (tErr n es f d = jErr n es f) := if_neg hV
    have hq : (jErr n es f != 0) = true := by simpa using hV
    go_wp2_with fail
    go_ret
    exact ⟨ret_int HT.out.symm, HB2.out⟩
set_option maxRecDepth 100000 in
set_option maxHeartbeats 1000000 in
theorem rgiven43_any (n : Int) (es : List Edg) (oe : Option Addr) (c : Nat) (F : Foot) (w : World) (hs : SliceR edgR 3 F w oe es) (hc : es.length ≤ c) (hc2 : es.length ≤ 9223372036854775807)
    (f : List Nat) (hU : Hid (gErr n es = 0 → Uf f (eL es))) (d : List Int) (od : Option Addr) (cd : Nat) (G : Foot) (hd : SliceR intR 1 G w od d) (hdc : d.length ≤ cd) (hdl : d.length ≤ 9223372036854775807) :
    Calls Tryz.prog 30 #[.agg #[.int .i64 n, .slice oe es.length c], .slice od d.length cd] w (ErrPost w (tErr n es f d)) := by
  have hb0 := bnew (Below.refl w.heap.size w) (.cells #[.int .i64 n, .slice oe es.length c] 24)
  have bxx := Box.new w [.int .i64 n, .slice oe es.length c] 24
  have HK := hide (rtable43_any n es oe c F _ (hs.below edgR_ok hb0) hc hc2 f hU)
  have HD := hide (hd.below intR_ok hb0)
  have HB := hide hb0
  have HX := hide bxx
  clear hs hd hb0 bxx
  go_enter Tryz.func30, Tryz.ntmps30
  go_wp2_with fail
  refine HK.out.mono ?_
  rintro e w2 ⟨rfl, hb2⟩
  have HB2 := hide (below_then HB.out hb2)
  have bx2 := HX.out.below hb2
  have d0 := bx2.cell 0
  have d1 := bx2.cell 1
  simp only [List.getElem?_cons_zero, List.getElem?_cons_succ] at d0 d1
  have HC := hide (rdcheck_any n d od cd G w2 (HD.out.below intR_ok hb2) hdc hdl)
  clear hb2 bx2
  by_cases hV : jErr n es f = 0
  · have HT : Hid (tErr n es f d = dErr n d) := if_pos hV
    rw [hV]
    clear hV
    go_wp2_with fail
    refine HC.out.mono ?_
    rintro e w3 ⟨rfl, h3⟩
    go_wp2_with fail
    go_ret
    exact ⟨ret_int HT.out.symm, h3 ▸ HB2.out⟩
  · have HT : Hid (tErr n es f d = jErr n es f) := if_neg hV
    have hq : (jErr n es f != 0) = true := by simpa using hV
    go_wp2_with fail
    go_ret
    exact ⟨ret_int HT.out.symm, HB2.out⟩
/-- The error of a graph and a divisor. -/
def fErr (n : Int) (es : List Edg) (d : List Int) : Int := if gErr n es = 0 then dErr n d else gErr n es
set_option maxRecDepth 100000 in
set_option maxHeartbeats 1000000 in
theorem fgivenG_any (n : Int) (es : List Edg) (oe : Option Addr) (c : Nat) (F : Foot) (w : World) (hs : SliceR edgR 3 F w oe es) (hc : es.length ≤ c) (hc2 : es.length ≤ 9223372036854775807)
    (d : List Int) (od : Option Addr) (cd : Nat) (G : Foot) (hd : SliceR intR 1 G w od d) (hdc : d.length ≤ cd) (hdl : d.length ≤ 9223372036854775807) :
    Calls Tryz.prog 79 #[.agg #[.int .i64 n, .slice oe es.length c], .slice od d.length cd] w (ErrPost w (fErr n es d)) := by
  have hb0 := bnew (Below.refl w.heap.size w) (.cells #[.int .i64 n, .slice oe es.length c] 24)
  have bxx := Box.new w [.int .i64 n, .slice oe es.length c] 24
  have HK := hide (gcheck_any n es oe c F _ (hs.below edgR_ok hb0) hc hc2)
  have HD := hide (hd.below intR_ok hb0)
  have HB := hide hb0
  have HX := hide bxx
  clear hs hd hb0 bxx
  go_enter Tryz.func79, Tryz.ntmps79
  go_wp2_with fail
  refine HK.out.mono ?_
  rintro e w2 ⟨rfl, hb2⟩
  have HB2 := hide (below_then HB.out hb2)
  have bx2 := HX.out.below hb2
  have d0 := bx2.cell 0
  have d1 := bx2.cell 1
  simp only [List.getElem?_cons_zero, List.getElem?_cons_succ] at d0 d1
  have HC := hide (dcheck_any n d od cd G w2 (HD.out.below intR_ok hb2) hdc hdl)
  clear hb2 bx2
  by_cases hV : gErr n es = 0
  · have HT : Hid (fErr n es d = dErr n d) := if_pos hV
    rw [hV]
    clear hV
    go_wp2_with fail
    refine HC.out.mono ?_
    rintro e w3 ⟨rfl, h3⟩
    go_wp2_with fail
    go_ret
    exact ⟨ret_int HT.out.symm, below_then HB2.out h3⟩
  · have HT : Hid (fErr n es d = gErr n es) := if_neg hV
    have hq : (gErr n es != 0) = true := by simpa using hV
    go_wp2_with fail
    go_ret
    exact ⟨ret_int HT.out.symm, HB2.out⟩
theorem fcheckG_any (n : Int) (es : List Edg) (oe : Option Addr) (c : Nat) (F : Foot) (w : World) (hs : SliceR edgR 3 F w oe es) (hc : es.length ≤ c) (hc2 : es.length ≤ 9223372036854775807)
    (d : List Int) (od : Option Addr) (cd : Nat) (G : Foot) (hd : SliceR intR 1 G w od d) (hdc : d.length ≤ cd) (hdl : d.length ≤ 9223372036854775807) :
    Calls Tryz.prog 46 #[.agg #[.int .i64 n, .slice oe es.length c], .slice od d.length cd] w (ErrPost w (fErr n es d)) := by
  have hb0 := bnew (Below.refl w.heap.size w) (.cells #[.int .i64 n, .slice oe es.length c] 24)
  have HK := hide (fgivenG_any n es oe c F _ (hs.below edgR_ok hb0) hc hc2 d od cd G (hd.below intR_ok hb0) hdc hdl)
  have HB := hide hb0
  clear hs hd hb0
  go_enter Tryz.func46, Tryz.ntmps46
  go_wp2_with fail
  refine HK.out.mono ?_
  rintro e w2 ⟨rfl, hb2⟩
  go_wp2_with fail
  go_ret
  exact ⟨rfl, below_then HB.out hb2⟩
theorem jErr_g {n : Int} {es : List Edg} {f : List Nat} (h : jErr n es f = 0) : gErr n es = 0 := by
  unfold jErr at h
  split at h
  · rename_i e; exact e
  · rename_i e; exact absurd h e
set_option maxRecDepth 100000 in
set_option maxHeartbeats 1000000 in
theorem dscripted_any (n : Int) (es : List Edg) (oe : Option Addr) (c : Nat) (F : Foot) (w : World) (hs : SliceR edgR 3 F w oe es) (hc : es.length ≤ c) (hc2 : es.length ≤ 9223372036854775807)
    (f : List Nat) (hU : Hid (gErr n es = 0 → Uf f (eL es))) (d : List Int) (od : Option Addr) (cd : Nat) (G : Foot) (hd : SliceR intR 1 G w od d) (hdc : d.length ≤ cd) (hdl : d.length ≤ 9223372036854775807) :
    Calls Tryz.prog 43 #[.agg #[.int .i64 n, .slice oe es.length c], .slice od d.length cd] w (ErrPost w (tErr n es f d)) := by
  have hb0 := bnew (Below.refl w.heap.size w) (.cells #[.int .i64 n, .slice oe es.length c] 24)
  have bxx := Box.new w [.int .i64 n, .slice oe es.length c] 24
  have HK := hide (djoined_any n es oe c F _ (hs.below edgR_ok hb0) hc hc2 f hU)
  have HD := hide (hd.below intR_ok hb0)
  have HE := hide (hs.below edgR_ok hb0)
  have HB := hide hb0
  have HX := hide bxx
  clear hs hd hb0 bxx
  go_enter Tryz.func43, Tryz.ntmps43
  go_wp2_with fail
  refine HK.out.mono ?_
  rintro e w2 ⟨rfl, hb2⟩
  have HB2 := hide (below_then HB.out hb2)
  have bx2 := HX.out.below hb2
  have d0 := bx2.cell 0
  have d1 := bx2.cell 1
  simp only [List.getElem?_cons_zero, List.getElem?_cons_succ] at d0 d1
  have HC := hide (fcheckG_any n es oe c F w2 (HE.out.below edgR_ok hb2) hc hc2 d od cd G (HD.out.below intR_ok hb2) hdc hdl)
  clear hb2 bx2
  by_cases hV : jErr n es f = 0
  · have HT : Hid (tErr n es f d = fErr n es d) := by
      show _ = _
      have hg : gErr n es = 0 := jErr_g hV
      unfold tErr fErr
      rw [if_pos hV, if_pos hg]
    rw [hV]
    clear hV
    go_wp2_with fail
    refine HC.out.mono ?_
    rintro e w3 ⟨rfl, h3⟩
    go_wp2_with fail
    go_ret
    exact ⟨ret_int HT.out.symm, below_then HB2.out h3⟩
  · have HT : Hid (tErr n es f d = jErr n es f) := if_neg hV
    have hq : (jErr n es f != 0) = true := by simpa using hV
    go_wp2_with fail
    go_ret
    exact ⟨ret_int HT.out.symm, HB2.out⟩

end Go.Proofs.YtpgopmmobbemcaaGreat

set_option linter.unusedVariables false
set_option linter.unusedSimpArgs false
namespace Go.Proofs.YtpgopmmobbemcaaGreat
open Go.RowKit

/-- An edge's part of a valence. -/
def valX (x : Edg) (v : Int) : Int := if x.a ≠ x.b ∧ (x.a = v ∨ x.b = v) then x.m else 0
def valE : List Edg → Int → Int
  | [], _ => 0
  | x :: r, v => valX x v + valE r v
theorem valE_app (l m : List Edg) (v : Int) : valE (l ++ m) v = valE l v + valE m v := by
  induction l with
  | nil => simp [valE]
  | cons x r ih => simp only [List.cons_append, valE, ih]; omega
theorem valE_le (v : Int) : ∀ es : List Edg, (∀ x ∈ es, 0 ≤ x.m ∧ x.m ≤ 50) → 0 ≤ valE es v ∧ valE es v ≤ es.length * 50
  | [], _ => by simp [valE]
  | x :: r, h => by
    have h1 := valE_le v r fun y hy => h y (by simp [hy])
    have h2 := h x (by simp)
    have h3 : (((x :: r).length : Nat) : Int) * 50 = (r.length : Int) * 50 + 50 := by rw [List.length_cons]; push_cast; omega
    unfold valE valX
    split <;> omega
set_option maxRecDepth 100000 in
set_option maxHeartbeats 2000000 in
theorem gval_any (n : Int) (es : List Edg) (oe : Option Addr) (c : Nat) (F : Foot) (w : World) (hs : SliceR edgR 3 F w oe es) (hc : es.length ≤ c) (hc2 : es.length ≤ 1000) (v : Int) (hv : I64 v) (hV : Hid (gErr n es = 0)) (hA : Hid (atE n es [v] = 0)) :
    Calls Tryz.prog 93 #[.agg #[.int .i64 n, .slice oe es.length c], .int .i64 v] w fun e w' => e = .returned (.tuple #[.int .i64 (valE es v), .int .i64 0]) ∧ Below w.heap.size w w' := by
  have hm : Hid (∀ x ∈ es, 0 ≤ x.m ∧ x.m ≤ 50) := fun x hx => by
    have := (gErr_zero hV.out).2.1 x hx
    omega
  have HB : Hid (∀ k, 0 ≤ valE (es.take k) v ∧ valE (es.take k) v ≤ 50000) := fun k => by
    have h1 := valE_le v (es.take k) fun x hx => hm.out x (List.mem_of_mem_take hx)
    have h2 : (es.take k).length ≤ 1000 := by rw [List.length_take]; omega
    omega
  obtain ⟨W1, e1⟩ : ∃ W1, w.alloc (.cells #[.int .i64 n, .slice oe es.length c] 24) = W1 := ⟨_, rfl⟩
  have bx : Box W1 w.heap.size [.int .i64 n, .slice oe es.length c] 24 := by rw [← e1]; exact Box.new w [.int .i64 n, .slice oe es.length c] 24
  have bb1 := bnew (Below.refl w.heap.size w) (.cells #[.int .i64 n, .slice oe es.length c] 24)
  rw [e1] at bb1
  have d0 := bx.cell 0
  have d1 := bx.cell 1
  simp only [List.getElem?_cons_zero, List.getElem?_cons_succ] at d0 d1
  have hb2 := bnew (Below.refl W1.heap.size W1) (.cells #[.int .i64 v] 3)
  have hlit : SliceR intR 1 All (W1.alloc (.cells #[.int .i64 v] 3)) (some ⟨W1.heap.size, 0, none⟩) [v] := by
    have := ints_lit (F := All) (G := All) W1 3 [v] (by intro z hz; simp at hz; subst hz; exact hv) trivial
    simpa using this
  have HK := hide (gat_any n es oe c [v] (some ⟨W1.heap.size, 0, none⟩) 1 F All _ ((hs.below edgR_ok bb1).below edgR_ok hb2) hc (by omega) hlit (by simp))
  rw [hA.out] at HK
  have HX := hide (bx.below hb2)
  have HB0 := hide (below_then bb1 hb2)
  have HS := hide hs
  clear hs bx bb1 hb2 hlit
  go_enter Tryz.func93, Tryz.ntmps93
  go_wp2_with fail
  refine HK.out.mono ?_
  rintro e w2 ⟨rfl, hb3⟩
  have HW := hide (below_then HB0.out hb3)
  have HX2 := hide (HX.out.below hb3)
  have d0 := HX2.out.cell 0
  have d1 := HX2.out.cell 1
  simp only [List.getElem?_cons_zero, List.getElem?_cons_succ] at d0 d1
  clear hb3 e1
  go_wp2_with fail
  go_loopw [7, 20] (fun sv iv wr => ∃ k : Nat, k ≤ es.length ∧ iv = .int .i64 k ∧ sv = .int .i64 (valE (es.take k) v) ∧ Hid (Below w.heap.size w wr)) (fun _ iv _ => es.length - (intOf iv).toNat)
  case atStart => exact ⟨0, by omega, rfl, rfl, HW⟩
  case round =>
    obtain ⟨k, hk, rfl, rfl, HY⟩ := hrel
    obtain ⟨S, hS⟩ : ∃ S, S = valE (es.take k) v := ⟨_, rfl⟩
    have hS1 := HB.out k
    rw [← hS] at hS1 ⊢
    clear d0 d1
    by_cases hlt : k < es.length
    · obtain ⟨a, b, m, _, hget, _, _, _, bl, off, hoe, _, c0, c1, c2⟩ := (HS.out.below edgR_ok HY.out).edg_at hlt
      have HS2 : Hid (valE (es.take (k + 1)) v = S + valX ⟨a, b, m⟩ v) := by
        show _ = _
        rw [hS, List.take_add_one, hget, valE_app]
        simp [valE]
      have hmm := hm.out _ (List.mem_of_getElem? hget)
      simp only at hmm
      obtain ⟨W4, hW4⟩ : ∃ W4, wr.alloc (.cells #[.int .i64 a, .int .i64 b, .int .i64 m] 123) = W4 := ⟨_, rfl⟩
      have bb := bnew (Below.refl wr.heap.size wr) (.cells #[.int .i64 a, .int .i64 b, .int .i64 m] 123)
      rw [hW4] at bb
      have bx : Box W4 wr.heap.size [.int .i64 a, .int .i64 b, .int .i64 m] 123 := by rw [← hW4]; exact Box.new wr [.int .i64 a, .int .i64 b, .int .i64 m] 123
      have x0 := bx.cell 0
      have x1 := bx.cell 1
      have x2 := bx.cell 2
      simp only [List.getElem?_cons_zero, List.getElem?_cons_succ] at x0 x1 x2
      have HY2 := hide (below_then HY.out bb)
      subst hoe
      clear hS hget bx bb HY
      by_cases h1 : a = b
      · have q1 : (a != b) = false := by simpa using h1
        have HS3 : Hid (valE (es.take (k + 1)) v = S) := by show _ = _; rw [HS2.out]; unfold valX; rw [if_neg (fun hh => hh.1 h1)]; omega
        clear h1
        go_wp2_with fail
        go_roundw
        case rel => exact ⟨k + 1, by omega, by go_num, by rw [HS3.out], HY2⟩
        case measure => simp [intOf]; omega
      · have q1 : (a != b) = true := by simpa using h1
        by_cases h2 : a = v
        · have q2 : (a == v) = true := by simpa using h2
          have HS3 : Hid (valE (es.take (k + 1)) v = S + m) := by show _ = _; rw [HS2.out]; unfold valX; rw [if_pos ⟨h1, .inl h2⟩]
          clear h1 h2
          go_wp2_with fail
          go_roundw
          case rel => exact ⟨k + 1, by omega, by go_num, by rw [HS3.out] <;> go_num, HY2⟩
          case measure => simp [intOf]; omega
        · have q2 : (a == v) = false := by simpa using h2
          by_cases h3 : b = v
          · have q3 : (b == v) = true := by simpa using h3
            have HS3 : Hid (valE (es.take (k + 1)) v = S + m) := by show _ = _; rw [HS2.out]; unfold valX; rw [if_pos ⟨h1, .inr h3⟩]
            clear h1 h2 h3
            go_wp2_with fail
            go_roundw
            case rel => exact ⟨k + 1, by omega, by go_num, by rw [HS3.out] <;> go_num, HY2⟩
            case measure => simp [intOf]; omega
          · have q3 : (b == v) = false := by simpa using h3
            have HS3 : Hid (valE (es.take (k + 1)) v = S) := by show _ = _; rw [HS2.out]; unfold valX; rw [if_neg (fun hh => by rcases hh.2 with e | e; exact h2 e; exact h3 e)]; omega
            clear h1 h2 h3
            go_wp2_with fail
            go_roundw
            case rel => exact ⟨k + 1, by omega, by go_num, by rw [HS3.out], HY2⟩
            case measure => simp [intOf]; omega
    · have hke : k = es.length := by omega
      have HS3 : Hid (S = valE es v) := by show _ = _; rw [hS, hke, List.take_length]
      clear hke hS
      go_wp2_with fail
      go_ret2
      exact ⟨by rw [HS3.out]; rfl, HY.out⟩
end Go.Proofs.YtpgopmmobbemcaaGreat

set_option linter.unusedVariables false
set_option linter.unusedSimpArgs false
namespace Go.Proofs.YtpgopmmobbemcaaGreat
open Go.RowKit

theorem sumI_add (f g : Nat → Int) : ∀ n, sumI (fun v => f v + g v) n = sumI f n + sumI g n
  | 0 => rfl
  | n + 1 => by simp only [sumI, sumI_add f g n]; omega
theorem sumI_neg (f : Nat → Int) : ∀ n, sumI (fun v => -(f v)) n = -(sumI f n)
  | 0 => rfl
  | n + 1 => by simp only [sumI, sumI_neg f n]; omega
theorem sumI_zero : ∀ n, sumI (fun _ => 0) n = 0
  | 0 => rfl
  | n + 1 => by simp only [sumI, sumI_zero n]; rfl
theorem sumI_comm (f : Nat → Nat → Int) (n : Nat) : ∀ m, sumI (fun v => sumI (f v) n) m = sumI (fun w => sumI (fun v => f v w) m) n
  | 0 => (sumI_zero n).symm
  | m + 1 => by
    show sumI (fun v => sumI (f v) n) m + sumI (f m) n = sumI (fun w => sumI (fun v => f v w) m + f m w) n
    rw [sumI_comm f n m, sumI_add]
section
variable {n : Nat} {R : Nat → Nat → Int} {D s : Nat → Int}
/-- The chips behind a script: each vertex fires as often as it says. -/
def app (n : Nat) (R : Nat → Nat → Int) (D s : Nat → Int) (v : Nat) : Int := D v - sumI (fun w => R v w * (s v - s w)) n
/-- A graph: how often vertices are joined. -/
structure Gr (n : Nat) (R : Nat → Nat → Int) : Prop where
  nn : ∀ v w, v < n → w < n → 0 ≤ R v w
  sym : ∀ v w, R v w = R w v
  dg : ∀ v, R v v = 0
def Conn (n : Nat) (R : Nat → Nat → Int) : Prop := ∀ S : Nat → Bool, (∃ v, v < n ∧ S v = true) → (∃ w, w < n ∧ S w = false) → ∃ v w, v < n ∧ w < n ∧ S v = true ∧ S w = false ∧ 1 ≤ R v w
theorem app_shift (c : Int) (v : Nat) : app n R D (fun w => s w + c) v = app n R D s v := by
  unfold app
  congr 2
  funext w
  rw [show s v + c - (s w + c) = s v - s w by omega]
theorem app_congr {t : Nat → Int} (h : ∀ v, v < n → s v = t v) {v : Nat} (hv : v < n) : app n R D s v = app n R D t v := by
  unfold app
  rw [sumI_eq fun w hw => show R v w * (s v - s w) = R v w * (t v - t w) by rw [h v hv, h w hw]]
theorem app_app (t : Nat → Int) (v : Nat) : app n R (app n R D s) t v = app n R D (fun w => s w + t w) v := by
  unfold app
  have e : (fun w => R v w * (s v + t v - (s w + t w))) = fun w => R v w * (s v - s w) + R v w * (t v - t w) := by
    funext w
    rw [← Int.mul_add]
    congr 1
    omega
  rw [e, sumI_add]
  omega
/-- What a script takes out of a set crosses its cut. -/
theorem app_cut (hG : Gr n R) (S : Nat → Bool) : sumI (fun v => if S v then D v - app n R D s v else 0) n = sumI (fun v => if S v then sumI (fun w => if S w then 0 else R v w * (s v - s w)) n else 0) n := by
  have hA : sumI (fun v => sumI (fun w => if S v && S w then R v w * (s v - s w) else 0) n) n = 0 := by
    have h1 := sumI_comm (fun v w => if S v && S w then R v w * (s v - s w) else 0) n n
    have h2 : sumI (fun w => sumI (fun v => if S v && S w then R v w * (s v - s w) else 0) n) n = -(sumI (fun v => sumI (fun w => if S v && S w then R v w * (s v - s w) else 0) n) n) := by
      rw [← sumI_neg]
      refine sumI_eq fun w hw => ?_
      rw [← sumI_neg]
      refine sumI_eq fun v hv => ?_
      rw [Bool.and_comm (S w), hG.sym w v]
      split
      · rw [← Int.mul_neg]
        congr 1
        omega
      · rfl
    omega
  have e : ∀ v, (if S v then D v - app n R D s v else 0) = (if S v then sumI (fun w => if S w then 0 else R v w * (s v - s w)) n else 0) + sumI (fun w => if S v && S w then R v w * (s v - s w) else 0) n := fun v => by
    rcases hv : S v with _ | _
    · simp [sumI_zero]
    · simp only [if_true, Bool.true_and]
      rw [← sumI_add]
      unfold app
      rw [show D v - (D v - sumI (fun w => R v w * (s v - s w)) n) = sumI (fun w => R v w * (s v - s w)) n by omega]
      refine sumI_eq fun w hw => ?_
      rcases hw : S w with _ | _
      · simp
      · simp
  rw [sumI_eq fun v _ => e v, sumI_add, hA]
  omega
/-- The numbers of a script lie no farther apart than what leaves the upper sets. -/
theorem range_le (hG : Gr n R) (hc : Conn n R) {C : Int} (hC : ∀ t, sumI (fun v => if decide (t ≤ s v) then D v - app n R D s v else 0) n ≤ C) (h0 : 0 ≤ C) {v : Nat} (hv : v < n) : ∀ w, w < n → s v - s w ≤ (n - 1 : Nat) * C := by
  have key : ∀ k : Nat, k + 1 ≤ sumN (fun w => if s v - k * C ≤ s w then 1 else 0) n ∨ ∀ w, w < n → s v - k * C ≤ s w := fun k => by
    induction k with
    | zero =>
      left
      have := sumN_mem (f := fun w => if s v - (0 : Nat) * C ≤ s w then 1 else 0) hv
      simp at this ⊢
      omega
    | succ k ih =>
      have e : ((k + 1 : Nat) : Int) * C = k * C + C := by push_cast; rw [Int.add_mul, Int.one_mul]
      rcases ih with ih | ih
      · by_cases hall : ∀ w, w < n → s v - k * C ≤ s w
        · right
          intro w hw
          have := hall w hw
          omega
        · left
          have hkC : 0 ≤ (k : Int) * C := Int.mul_nonneg (Int.natCast_nonneg _) h0
          obtain ⟨w0, hw0, hn0⟩ : ∃ w, w < n ∧ ¬ (s v - k * C ≤ s w) := Classical.byContradiction fun hh => hall fun w hw => Classical.byContradiction fun h => hh ⟨w, hw, h⟩
          obtain ⟨a, b, ha, hb, hSa, hSb, hR⟩ := hc (fun w => decide (s v - k * C ≤ s w)) ⟨v, hv, by simp; omega⟩ ⟨w0, hw0, by simpa using hn0⟩
          have hSa' : s v - k * C ≤ s a := by simpa using hSa
          have hSb' : ¬ (s v - k * C ≤ s b) := by simpa using hSb
          have hcut := app_cut (D := D) (s := s) hG (fun w => decide (s v - k * C ≤ s w))
          have hle := hC (s v - k * C)
          rw [hcut] at hle
          have hterm : ∀ x, x < n → ∀ y, y < n → (decide (s v - k * C ≤ s x)) = true → 0 ≤ (if decide (s v - k * C ≤ s y) then 0 else R x y * (s x - s y)) := fun x hx y hy h => by
            split
            · exact Int.le_refl _
            · rename_i hh
              have h1 : s v - k * C ≤ s x := by simpa using h
              have h2 : ¬ (s v - k * C ≤ s y) := by simpa using hh
              exact Int.mul_nonneg (hG.nn x y hx hy) (by omega)
          have h1 := sumI_mem (f := fun x => if decide (s v - k * C ≤ s x) then sumI (fun y => if decide (s v - k * C ≤ s y) then 0 else R x y * (s x - s y)) n else 0) (n := n) (k := a) (fun x hx => by
            show 0 ≤ (if decide (s v - k * C ≤ s x) then _ else 0)
            split
            · rename_i h
              exact sumI_nn fun y hy => hterm x hx y hy h
            · exact Int.le_refl _) ha
          simp only [hSa, if_true] at h1
          have h2 := sumI_mem (f := fun y => if decide (s v - k * C ≤ s y) then 0 else R a y * (s a - s y)) (n := n) (k := b) (fun y hy => hterm a ha y hy hSa) hb
          simp only [hSb] at h2
          have h3 : s a - s b ≤ R a b * (s a - s b) := by
            have := Int.mul_le_mul_of_nonneg_right hR (show 0 ≤ s a - s b by omega)
            rwa [Int.one_mul] at this
          have hb2 : s v - ((k + 1 : Nat) : Int) * C ≤ s b := by
            simp only [Bool.false_eq_true, if_false] at h2
            omega
          have h4 := sumN_one (f := fun w => if s v - ((k + 1 : Nat) : Int) * C ≤ s w then 1 else 0) (g := fun w => if w = b then 0 else if s v - ((k + 1 : Nat) : Int) * C ≤ s w then 1 else 0) hb (fun p hp hne => by simp [hne])
          simp only [if_pos hb2, if_true] at h4
          have h5 : sumN (fun w => if s v - k * C ≤ s w then 1 else 0) n ≤ sumN (fun w => if w = b then 0 else if s v - ((k + 1 : Nat) : Int) * C ≤ s w then 1 else 0) n := sumN_le fun p hp => by
            show (if s v - k * C ≤ s p then 1 else 0) ≤ (if p = b then 0 else if s v - ((k + 1 : Nat) : Int) * C ≤ s p then 1 else 0)
            by_cases h6 : s v - k * C ≤ s p
            · rw [if_pos h6, if_neg (fun hh => hSb' (by rw [← hh]; exact h6)), if_pos (by omega)]
              exact Nat.le_refl _
            · rw [if_neg h6]; exact Nat.zero_le _
          omega
      · right
        intro w hw
        have := ih w hw
        omega
  intro w hw
  rcases key (n - 1) with h | h
  · have h1 := sumN_le_eq (f := fun w => if s v - ((n - 1 : Nat) : Int) * C ≤ s w then 1 else 0) (g := fun _ => 1) (n := n) (fun p hp => by split <;> omega) (by
      have : ∀ m, sumN (fun _ => 1) m = m := fun m => by
        induction m with
        | zero => rfl
        | succ m ih => simp only [sumN, ih]
      rw [this]
      omega) w hw
    split at h1
    · omega
    · cases h1
  · have := h w hw
    omega
end

end Go.Proofs.YtpgopmmobbemcaaGreat

set_option linter.unusedVariables false
set_option linter.unusedSimpArgs false
namespace Go.Proofs.YtpgopmmobbemcaaGreat
open Go.RowKit

/-- How often an edge joins two vertices. -/
def lkX (x : Edg) (v w : Nat) : Int := if x.a ≠ x.b ∧ ((x.a = (v : Int) ∧ x.b = (w : Int)) ∨ (x.a = (w : Int) ∧ x.b = (v : Int))) then x.m else 0
def linkE : List Edg → Nat → Nat → Int
  | [], _, _ => 0
  | x :: r, v, w => lkX x v w + linkE r v w
theorem lkX_sym (x : Edg) (v w : Nat) : lkX x v w = lkX x w v := by
  unfold lkX
  by_cases h : x.a ≠ x.b ∧ ((x.a = (v : Int) ∧ x.b = (w : Int)) ∨ (x.a = (w : Int) ∧ x.b = (v : Int)))
  · rw [if_pos h, if_pos ⟨h.1, h.2.symm⟩]
  · rw [if_neg h, if_neg (fun hh => h ⟨hh.1, hh.2.symm⟩)]
theorem linkE_sym (v w : Nat) : ∀ es : List Edg, linkE es v w = linkE es w v
  | [] => rfl
  | x :: r => by unfold linkE; rw [lkX_sym, linkE_sym v w r]
theorem linkE_gr {n : Nat} {es : List Edg} (h : ∀ x ∈ es, 0 ≤ x.m) : Gr n (linkE es) where
  nn := fun v w _ _ => by
    induction es with
    | nil => exact Int.le_refl _
    | cons x r ih =>
      have h1 := ih fun y hy => h y (by simp [hy])
      have h2 := h x (by simp)
      unfold linkE lkX
      split <;> omega
  sym := fun v w => linkE_sym v w es
  dg := fun v => by
    induction es with
    | nil => rfl
    | cons x r ih =>
      have h1 := ih fun y hy => h y (by simp [hy])
      unfold linkE lkX
      rw [h1, if_neg]
      · rfl
      · rintro ⟨hne, hh⟩
        rcases hh with hh | hh
        · exact hne (hh.1.trans hh.2.symm)
        · exact hne (hh.1.trans hh.2.symm)
/-- What an edge takes from a vertex. -/
def outX (s : Nat → Int) (x : Edg) (v : Nat) : Int := (if x.a = (v : Int) then x.m * (s x.a.toNat - s x.b.toNat) else 0) - (if x.b = (v : Int) then x.m * (s x.a.toNat - s x.b.toNat) else 0)
def outE (s : Nat → Int) : List Edg → Nat → Int
  | [], _ => 0
  | x :: r, v => outX s x v + outE s r v
/-- Between two different vertices there are as many edges as Between counts. -/
theorem betw_link : ∀ {es : List Edg}, (∀ x ∈ es, x.a ≤ x.b) → (es.Pairwise fun x y => ¬ (y.a = x.a ∧ y.b = x.b)) → ∀ {v w : Nat}, v ≠ w → betw es v w = linkE es v w
  | [], _, _, _, _, _ => rfl
  | x :: r, ho, hp, v, w, hne => by
    obtain ⟨h1, h2⟩ := List.pairwise_cons.1 hp
    have hx := ho x (by simp)
    rw [betw_cons h1, betw_link (fun y hy => ho y (by simp [hy])) h2 hne]
    show _ = lkX x v w + linkE r v w
    have e : hit x v w = lkX x v w := by
      unfold hit lkX
      by_cases h : x.a ≠ x.b ∧ ((x.a = (v : Int) ∧ x.b = (w : Int)) ∨ (x.a = (w : Int) ∧ x.b = (v : Int)))
      · rw [if_pos h, if_pos (by omega)]
      · rw [if_neg h, if_neg (by omega)]
    rw [e]
theorem gErr_link {n : Int} {es : List Edg} (h : gErr n es = 0) {v w : Nat} (hne : v ≠ w) : betw es v w = linkE es v w := by
  obtain ⟨_, h2, h3⟩ := gErr_zero h
  refine betw_link (fun x hx => (h2 x hx).2.2.2.2) (h3.imp ?_) hne
  intro x y hxy hh
  have h4 := cmpP_neg.1 hxy
  simp only [hh.1, hh.2] at h4
  omega
/-- The sum over the edges is the number of neighbours. -/
theorem val_link {n : Nat} (v : Nat) : ∀ {es : List Edg}, (∀ x ∈ es, (0 ≤ x.a ∧ x.a < n) ∧ 0 ≤ x.b ∧ x.b < n) → valE es v = vlR n (linkE es) v
  | [], _ => (sumI_zero n).symm
  | x :: r, h => by
    have ih := val_link v (es := r) fun y hy => h y (by simp [hy])
    have hx := h x (by simp)
    have e : vlR n (linkE (x :: r)) v = sumI (lkX x v) n + vlR n (linkE r) v := by
      unfold vlR
      rw [← sumI_add]
      rfl
    rw [e, ← ih]
    show valX x v + valE r v = _
    have h2 : valX x v = sumI (lkX x v) n := by
      obtain ⟨a, b, m⟩ := x
      obtain ⟨a, rfl⟩ := Int.eq_ofNat_of_zero_le hx.1.1
      obtain ⟨b, rfl⟩ := Int.eq_ofNat_of_zero_le hx.2.1
      simp only at hx
      unfold valX
      simp only
      by_cases hab : a = b
      · subst hab
        rw [if_neg (fun hh => hh.1 rfl), sumI_eq (g := fun _ => 0) fun w hw => by unfold lkX; rw [if_neg (fun hh => hh.1 rfl)], sumI_zero]
      · by_cases hv : a = v
        · subst hv
          have h1 := sumI_one (f := lkX ⟨a, b, m⟩ a) (g := fun _ => 0) (n := n) (k := b) (by omega) (fun p hp hne => by
            unfold lkX
            rw [if_neg (by
              rintro ⟨_, hh⟩
              simp only at hh
              omega)])
          rw [if_pos ⟨by omega, .inl rfl⟩, h1, sumI_zero]
          unfold lkX
          rw [if_pos ⟨by simp only; omega, .inl ⟨rfl, rfl⟩⟩]
          simp only
          omega
        · by_cases hv2 : b = v
          · subst hv2
            have h1 := sumI_one (f := lkX ⟨a, b, m⟩ b) (g := fun _ => 0) (n := n) (k := a) (by omega) (fun p hp hne => by
              unfold lkX
              rw [if_neg (by
                rintro ⟨_, hh⟩
                simp only at hh
                omega)])
            rw [if_pos ⟨by omega, .inr rfl⟩, h1, sumI_zero]
            unfold lkX
            rw [if_pos ⟨by simp only; omega, .inr ⟨rfl, rfl⟩⟩]
            simp only
            omega
          · rw [if_neg (by omega), sumI_eq (g := fun _ => 0) fun w hw => by
              unfold lkX
              rw [if_neg (by
                rintro ⟨_, hh⟩
                simp only at hh
                omega)], sumI_zero]
    rw [h2]
end Go.Proofs.YtpgopmmobbemcaaGreat

set_option linter.unusedVariables false
set_option linter.unusedSimpArgs false
namespace Go.Proofs.YtpgopmmobbemcaaGreat
open Go.RowKit

theorem tied_zero {N : Nat} {es : List Edg} {f : List Nat} (hU : gErr N es = 0 → Uf f (eL es)) (hj : jErr N es f = 0) : ∀ k v, v ≤ k → v < N → Tied (eL es) 0 v := by
  have hg : gErr N es = 0 := jErr_zero hj
  have hUf := hU hg
  have h12 := (gErr_zero hg).1
  have hp : cnt f N = 1 := by
    unfold jErr at hj
    rw [if_pos hg] at hj
    split at hj
    · rename_i h1
      unfold partsN at h1
      rw [if_pos hg] at h1
      simpa using h1
    · cases hj
  have two : ∀ a b, a < N → b < N → rootF f a = a → rootF f b = b → a = b := fun a b ha hb ea eb => by
    unfold cnt at hp
    obtain ⟨x, hx⟩ := List.length_eq_one_iff.1 hp
    have h1 : a ∈ (List.range N).filter fun v => rootF f v == v := List.mem_filter.2 ⟨List.mem_range.2 ha, by simp [ea]⟩
    have h2 : b ∈ (List.range N).filter fun v => rootF f v == v := List.mem_filter.2 ⟨List.mem_range.2 hb, by simp [eb]⟩
    rw [hx, List.mem_singleton] at h1 h2
    rw [h1, h2]
  have r0 : rootF f 0 = 0 := (hUf.least (by omega)).2 fun u hu => by omega
  intro k
  induction k with
  | zero => intro v hv _; rw [show v = 0 by omega]; exact fun c _ => rfl
  | succ k ih =>
    intro v hv hvN
    by_cases e : v = 0
    · rw [e]; exact fun c _ => rfl
    · have hr : ¬ rootF f v = v := fun h => e (two v 0 hvN (by omega) h r0)
      have hex : ∃ u, u < v ∧ Tied (eL es) u v := Classical.byContradiction fun hn => hr ((hUf.least (by omega)).2 fun u hu ht => hn ⟨u, hu, ht⟩)
      obtain ⟨u, hu, ht⟩ := hex
      have h1 := ih u (by omega) (by omega)
      exact fun c hc => (h1 c hc).trans (ht c hc)
theorem linkE_mem (v w : Nat) : ∀ {es : List Edg}, (∀ x ∈ es, 0 ≤ x.m) → ∀ {y : Edg}, y ∈ es → lkX y v w ≤ linkE es v w
  | [], _, y, hy => by simp at hy
  | x :: r, h, y, hy => by
    have h1 := (linkE_gr (n := v + w + 1) (es := r) fun z hz => h z (by simp [hz])).nn v w (by omega) (by omega)
    have h2 : 0 ≤ lkX x v w := by
      have := h x (by simp)
      unfold lkX
      split <;> omega
    show _ ≤ lkX x v w + linkE r v w
    rcases List.mem_cons.1 hy with rfl | hy
    · omega
    · have := linkE_mem v w (es := r) (fun z hz => h z (by simp [hz])) hy
      omega
theorem conn_link {N : Nat} {es : List Edg} {f : List Nat} (hU : gErr N es = 0 → Uf f (eL es)) (hj : jErr N es f = 0) : Conn N (linkE es) := by
  intro S hv hw
  obtain ⟨v, hv, hSv⟩ := hv
  obtain ⟨w, hw, hSw⟩ := hw
  have hg : gErr N es = 0 := jErr_zero hj
  refine Classical.byContradiction fun hn => ?_
  obtain ⟨c, hcd⟩ : ∃ c : Nat → Nat, c = fun u => if S u = true then 1 else 0 := ⟨_, rfl⟩
  have hc : ∀ x ∈ eL es, c x.1 = c x.2 := fun x hx => by
    rw [hcd]
    unfold eL at hx
    obtain ⟨y, hy, rfl⟩ := List.mem_map.1 hx
    obtain ⟨ya, yb, ym, _⟩ := (gErr_zero hg).2.1 y hy
    have hpos : ∀ x ∈ es, 0 ≤ x.m := fun x hx => by have := (gErr_zero hg).2.1 x hx; omega
    simp only
    rcases ha : S y.a.toNat with _ | _ <;> rcases hb : S y.b.toNat with _ | _
    · rfl
    · exfalso
      refine hn ⟨y.b.toNat, y.a.toNat, by omega, by omega, hb, ha, ?_⟩
      have := linkE_mem y.b.toNat y.a.toNat hpos hy
      unfold lkX at this
      rw [if_pos ⟨(fun e => by rw [e] at ha; rw [ha] at hb; cases hb), .inr ⟨by omega, by omega⟩⟩] at this
      omega
    · exfalso
      refine hn ⟨y.a.toNat, y.b.toNat, by omega, by omega, ha, hb, ?_⟩
      have := linkE_mem y.a.toNat y.b.toNat hpos hy
      unfold lkX at this
      rw [if_pos ⟨(fun e => by rw [e] at ha; rw [ha] at hb; cases hb), .inl ⟨by omega, by omega⟩⟩] at this
      omega
    · rfl
  have h1 := tied_zero hU hj v v (Nat.le_refl _) hv c hc
  have h2 := tied_zero hU hj w w (Nat.le_refl _) hw c hc
  rw [h1, hcd] at h2
  simp [hSv, hSw] at h2
end Go.Proofs.YtpgopmmobbemcaaGreat

set_option linter.unusedVariables false
set_option linter.unusedSimpArgs false
namespace Go.Proofs.YtpgopmmobbemcaaGreat
open Go.RowKit

section
variable {n q : Nat} {R : Nat → Nat → Int} {D r : Nat → Int}
/-- Some script leads to no debt. -/
def Winn (n : Nat) (R : Nat → Nat → Int) (D : Nat → Int) : Prop := ∃ s : Nat → Int, ∀ v, v < n → 0 ≤ app n R D s v
theorem app_zero (v : Nat) : app n R D (fun _ => 0) v = D v := by
  unfold app
  rw [sumI_eq (g := fun _ => 0) fun w _ => by simp, sumI_zero]
  omega
theorem Winn.moved (s : Nat → Int) : Winn n R (app n R D s) ↔ Winn n R D := by
  constructor
  · rintro ⟨t, h⟩
    exact ⟨fun w => s w + t w, fun v hv => by rw [← app_app]; exact h v hv⟩
  · rintro ⟨t, h⟩
    refine ⟨fun w => t w - s w, fun v hv => ?_⟩
    rw [app_app, show (fun w => s w + (t w - s w)) = t from funext fun w => by omega]
    exact h v hv
theorem Winn.congr {E : Nat → Int} (h : ∀ v, v < n → D v = E v) : Winn n R D → Winn n R E := by
  rintro ⟨t, ht⟩
  refine ⟨t, fun v hv => ?_⟩
  have := ht v hv
  unfold app at this ⊢
  rw [← h v hv]
  exact this
theorem exists_max (f : Nat → Int) : ∀ n, 0 < n → ∃ m, m < n ∧ ∀ v, v < n → f v ≤ f m
  | 0, h => by omega
  | 1, _ => ⟨0, by omega, fun v hv => by rw [show v = 0 by omega]; exact Int.le_refl _⟩
  | n + 2, _ => by
    obtain ⟨m, h1, h2⟩ := exists_max f (n + 1) (by omega)
    by_cases h : f m ≤ f (n + 1)
    · refine ⟨n + 1, by omega, fun v hv => ?_⟩
      rcases Nat.lt_or_ge v (n + 1) with hv' | hv'
      · exact Int.le_trans (h2 v hv') h
      · rw [show v = n + 1 by omega]; exact Int.le_refl _
    · refine ⟨m, by omega, fun v hv => ?_⟩
      rcases Nat.lt_or_ge v (n + 1) with hv' | hv'
      · exact h2 v hv'
      · rw [show v = n + 1 by omega]; omega
/-- How often each vertex has borrowed, one in debt after the other. -/
def negU (b : Nat → Nat) : Nat → Int := fun v => -(b v : Int)
inductive Bor (n : Nat) (R : Nat → Nat → Int) (D : Nat → Int) : (Nat → Nat) → Prop
  | zero : Bor n R D (fun _ => 0)
  | step {b : Nat → Nat} {v : Nat} : Bor n R D b → v < n → app n R D (negU b) v < 0 → Bor n R D (upU b v 1)
theorem Bor.least (hG : Gr n R) {g : Nat → Nat} (hw : ∀ v, v < n → 0 ≤ app n R D (negU g) v) {b : Nat → Nat} (h : Bor n R D b) : ∀ v, v < n → b v ≤ g v := by
  induction h with
  | zero => exact fun v _ => Nat.zero_le _
  | @step b x hb hx hd ih =>
    intro v hv
    by_cases e : v = x
    · subst e
      rw [upU_at]
      have h1 := ih v hv
      rcases Nat.lt_or_ge (b v) (g v) with h2 | h2
      · exact h2
      · exfalso
        have h3 := hw v hv
        have h4 : b v = g v := by omega
        unfold app at hd h3
        have h5 : sumI (fun w => R v w * (negU b v - negU b w)) n ≤ sumI (fun w => R v w * (negU g v - negU g w)) n := sumI_le fun w hw' => by
          refine Int.mul_le_mul_of_nonneg_left ?_ (hG.nn v w hv hw')
          have := ih w hw'
          unfold negU
          omega
        omega
    · rw [upU_ne _ _ e]
      exact ih v hv
/-- Where all have borrowed, nobody wins. -/
theorem Bor.lost (hG : Gr n R) (hn : 0 < n) {b : Nat → Nat} (h : Bor n R D b) (ha : ∀ v, v < n → 1 ≤ b v) : ¬ Winn n R D := by
  rintro ⟨s, hs⟩
  obtain ⟨m, hm, hmax⟩ := exists_max s n hn
  have hg : ∀ v, v < n → 0 ≤ app n R D (negU fun w => (s m - s w).toNat) v := fun v hv => by
    have e := app_shift (n := n) (R := R) (D := D) (s := s) (-(s m)) v
    rw [app_congr (t := fun w => s w + -(s m)) (fun w hw => by have := hmax w hw; show -(((s m - s w).toNat : Nat) : Int) = s w + -(s m); omega) hv, e]
    exact hs v hv
  have h1 := h.least hG hg m hm
  have h2 := ha m hm
  simp at h1
  omega
theorem Bor.won {b : Nat → Nat} (h : Bor n R D b) (hd : ∀ v, v < n → 0 ≤ app n R D (negU b) v) : Winn n R D := ⟨_, hd⟩
/-- Two games that are won borrow the same. -/
theorem Bor.same (hG : Gr n R) {b g : Nat → Nat} (h : Bor n R D b) (k : Bor n R D g) (hd : ∀ v, v < n → 0 ≤ app n R D (negU b) v) (kd : ∀ v, v < n → 0 ≤ app n R D (negU g) v) : ∀ v, v < n → b v = g v := fun v hv => Nat.le_antisymm (h.least hG kd v hv) (k.least hG hd v hv)
theorem app_up (hG : Gr n R) (b : Nat → Nat) {x v : Nat} (hx : x < n) (hv : v < n) : app n R D (negU (upU b x 1)) v = app n R D (negU b) v + (if v = x then vlR n R x else 0) - R x v := by
  unfold app
  by_cases e : v = x
  · subst e
    rw [if_pos rfl, hG.dg v]
    have h1 : sumI (fun w => R v w * (negU (upU b v 1) v - negU (upU b v 1) w)) n = sumI (fun w => R v w * (negU b v - negU b w) + -(R v w)) n := sumI_eq fun w hw => by
      by_cases e2 : w = v
      · subst e2
        rw [hG.dg w]
        simp
      · unfold negU
        rw [upU_at, upU_ne _ _ e2]
        rw [show (-((b v + 1 : Nat) : Int) - -(b w : Int)) = (-(b v : Int) - -(b w : Int)) + -1 by push_cast; omega, Int.mul_add]
        omega
    rw [h1, sumI_add, sumI_neg]
    unfold vlR
    omega
  · rw [if_neg e]
    have h1 := sumI_one (f := fun w => R v w * (negU (upU b x 1) v - negU (upU b x 1) w)) (g := fun w => R v w * (negU b v - negU b w)) hx (fun p hp hne => by
      unfold negU
      rw [upU_ne _ _ e, upU_ne _ _ hne])
    rw [h1]
    have h2 : R v x * (negU (upU b x 1) v - negU (upU b x 1) x) - R v x * (negU b v - negU b x) = R x v := by
      rw [hG.sym x v, ← Int.mul_sub]
      unfold negU
      rw [upU_ne _ _ e, upU_at, show (-(b v : Int) - -((b x + 1 : Nat) : Int) - (-(b v : Int) - -(b x : Int))) = 1 by push_cast; omega, Int.mul_one]
    omega
/-- Who has borrowed has less than its valence. -/
theorem Bor.lessV (hG : Gr n R) {b : Nat → Nat} (h : Bor n R D b) : ∀ v, v < n → 1 ≤ b v → app n R D (negU b) v < vlR n R v := by
  induction h with
  | zero => exact fun v _ hb => absurd hb (Nat.not_succ_le_zero 0)
  | @step b x hb hx hd ih =>
    intro v hv h1
    rw [app_up hG b hx hv]
    have hR := hG.nn x v hx hv
    by_cases e : v = x
    · subst e
      rw [if_pos rfl]
      omega
    · rw [if_neg e]
      rw [upU_ne _ _ e] at h1
      have := ih v hv h1
      omega
theorem app_total (hG : Gr n R) (s : Nat → Int) : sumI (fun v => D v - app n R D s v) n = 0 := by
  have h := app_cut (D := D) (s := s) hG (fun _ => true)
  simp only [if_true] at h
  rw [h, sumI_eq (g := fun _ => 0) fun v _ => sumI_zero n, sumI_zero]
/-- While one has not borrowed, none has borrowed often. -/
theorem Bor.range (hG : Gr n R) (hc : Conn n R) {c : Int} (hD : ∀ v, v < n → -c ≤ D v) (h0 : 0 ≤ c) {b : Nat → Nat} (h : Bor n R D b) {z : Nat} (hz : z < n) (hbz : b z = 0) {v : Nat} (hv : v < n) : (b v : Int) ≤ (n - 1 : Nat) * sumI (fun u => vlR n R u + c) n := by
  have hvl : ∀ u, u < n → 0 ≤ vlR n R u := fun u hu => sumI_nn fun w hw => hG.nn u w hu hw
  have hC0 : 0 ≤ sumI (fun u => vlR n R u + c) n := sumI_nn fun u hu => by have := hvl u hu; omega
  have hC : ∀ t, sumI (fun u => if decide (t ≤ negU b u) then D u - app n R D (negU b) u else 0) n ≤ sumI (fun u => vlR n R u + c) n := fun t => by
    by_cases ht : t ≤ 0
    · have h1 := app_total (D := D) hG (negU b)
      have h2 : sumI (fun u => D u - app n R D (negU b) u) n = sumI (fun u => (if decide (t ≤ negU b u) then D u - app n R D (negU b) u else 0) + -(if decide (t ≤ negU b u) then 0 else app n R D (negU b) u - D u)) n := sumI_eq fun u hu => by
        split <;> omega
      rw [sumI_add, sumI_neg] at h2
      have h3 : sumI (fun u => if decide (t ≤ negU b u) then 0 else app n R D (negU b) u - D u) n ≤ sumI (fun u => vlR n R u + c) n := sumI_le fun u hu => by
        have a1 := hvl u hu
        have a2 := hD u hu
        split
        · omega
        · rename_i hh
          have a3 : ¬ (t ≤ negU b u) := by simpa using hh
          have a4 := h.lessV hG u hu (by unfold negU at a3; omega)
          omega
      omega
    · rw [sumI_eq (g := fun _ => 0) fun u hu => if_neg (by unfold negU; simp; omega), sumI_zero]
      exact hC0
  have := range_le hG hc (D := D) (s := negU b) hC hC0 hz v hv
  unfold negU at this
  rw [hbz] at this
  simp at this ⊢
  omega
/-- No set without q can fire. -/
def Redu (n q : Nat) (R : Nat → Nat → Int) (r : Nat → Int) : Prop := ∀ S : Nat → Bool, S q = false → (∃ v, v < n ∧ S v = true) → ∃ v, v < n ∧ S v = true ∧ r v < sumI (fun w => if S w then 0 else R v w) n
/-- A reduced divisor is winnable where q has no debt. -/
theorem redu_win (hG : Gr n R) (hq : q < n) (h0 : ∀ v, v < n → v ≠ q → 0 ≤ r v) (hr : Redu n q R r) : Winn n R r ↔ 0 ≤ r q := by
  constructor
  · rintro ⟨s, hs⟩
    obtain ⟨m, hm, hmax⟩ := exists_max s n (by omega)
    by_cases e : s q = s m
    · have h1 := hs q hq
      unfold app at h1
      have h2 : 0 ≤ sumI (fun w => R q w * (s q - s w)) n := sumI_nn fun w hw => Int.mul_nonneg (hG.nn q w hq hw) (by have := hmax w hw; omega)
      omega
    · exfalso
      obtain ⟨v, hv, hS, hlt⟩ := hr (fun v => decide (s v = s m)) (by simpa using e) ⟨m, hm, by simp⟩
      have hS' : s v = s m := by simpa using hS
      have h1 := hs v hv
      unfold app at h1
      have h2 : sumI (fun w => if decide (s w = s m) then 0 else R v w) n ≤ sumI (fun w => R v w * (s v - s w)) n := sumI_le fun w hw => by
        have a1 := hmax w hw
        have a2 := hG.nn v w hv hw
        split
        · exact Int.mul_nonneg a2 (by omega)
        · rename_i hh
          have a3 : ¬ (s w = s m) := by simpa using hh
          have := Int.mul_le_mul_of_nonneg_left (show 1 ≤ s v - s w by omega) a2
          omega
      omega
  · intro h
    refine ⟨fun _ => 0, fun v hv => ?_⟩
    rw [app_zero]
    by_cases e : v = q
    · rw [e]; exact h
    · exact h0 v hv e
end

end Go.Proofs.YtpgopmmobbemcaaGreat

set_option linter.unusedVariables false
set_option linter.unusedSimpArgs false
namespace Go.Proofs.YtpgopmmobbemcaaGreat
open Go.RowKit

section
variable {n q : Nat} {R : Nat → Nat → Int} {D s : Nat → Int} {far : Nat → Nat}
theorem sumI_mul (t : Int) (f : Nat → Int) : ∀ n, sumI (fun v => t * f v) n = t * sumI f n
  | 0 => by simp [sumI]
  | n + 1 => by simp only [sumI, sumI_mul t f n, Int.mul_add]
def fireF (S : Nat → Bool) (t : Int) (s : Nat → Int) : Nat → Int := fun w => s w + if S w then t else 0
/-- Edges out of a set, and into it. -/
def outD (n : Nat) (R : Nat → Nat → Int) (S : Nat → Bool) (v : Nat) : Int := sumI (fun w => if S w then 0 else R v w) n
def inD (n : Nat) (R : Nat → Nat → Int) (S : Nat → Bool) (v : Nat) : Int := sumI (fun w => if S w then R v w else 0) n
theorem app_fire (S : Nat → Bool) (t : Int) (v : Nat) : app n R D (fireF S t s) v = app n R D s v + if S v then -(t * outD n R S v) else t * inD n R S v := by
  unfold app fireF
  rcases hv : S v with _ | _
  · have e : (fun w => R v w * (s v + (if false = true then t else 0) - (s w + if S w = true then t else 0))) = fun w => R v w * (s v - s w) + -(t * (if S w then R v w else 0)) := by
      funext w
      rcases S w with _ | _
      · simp
      · simp only [if_true, Bool.false_eq_true, if_false]
        rw [show s v + 0 - (s w + t) = (s v - s w) + -t by omega, Int.mul_add, Int.mul_neg, Int.mul_comm (R v w) t]
    rw [e, sumI_add, sumI_neg, sumI_mul]
    unfold inD
    simp only [Bool.false_eq_true, if_false]
    omega
  · have e : (fun w => R v w * (s v + (if true = true then t else 0) - (s w + if S w = true then t else 0))) = fun w => R v w * (s v - s w) + t * (if S w then 0 else R v w) := by
      funext w
      rcases S w with _ | _
      · simp only [if_true, Bool.false_eq_true, if_false]
        rw [show s v + t - (s w + 0) = (s v - s w) + t by omega, Int.mul_add, Int.mul_comm (R v w) t]
      · simp only [if_true]
        rw [show s v + t - (s w + t) = s v - s w by omega]
        simp
    rw [e, sumI_add, sumI_mul]
    unfold outD
    simp only [if_true]
    omega
/-- Distances from q. -/
structure Far (n q : Nat) (R : Nat → Nat → Int) (far : Nat → Nat) : Prop where
  q0 : far q = 0
  pos : ∀ v, v < n → v ≠ q → 1 ≤ far v
  back : ∀ v, v < n → v ≠ q → ∃ u, u < n ∧ far u + 1 = far v ∧ 1 ≤ R v u
  near : ∀ v w, v < n → w < n → far w + 1 < far v → R v w = 0
def nearB (far : Nat → Nat) (k : Nat) (v : Nat) : Bool := decide (far v < k)
/-- How often the nearer ones have to fire. -/
def needT (d e : Int) : Int := (-d + e - 1) / e
def timesL (n : Nat) (R : Nat → Nat → Int) (far : Nat → Nat) (d : Nat → Int) (k : Nat) : Nat → Int
  | 0 => 0
  | i + 1 => if far i = k ∧ d i < 0 then max (timesL n R far d k i) (needT (d i) (inD n R (nearB far k) i)) else timesL n R far d k i
theorem needT_spec {d e : Int} (he : 1 ≤ e) (hd : d < 0) : 0 ≤ d + needT d e * e ∧ 1 ≤ needT d e ∧ needT d e ≤ -d := by
  unfold needT
  have h1 := Int.mul_ediv_add_emod (-d + e - 1) e
  have h2 := Int.emod_nonneg (-d + e - 1) (show e ≠ 0 by omega)
  have h3 := Int.emod_lt_of_pos (-d + e - 1) (show 0 < e by omega)
  have h4 : e * ((-d + e - 1) / e) = (-d + e - 1) / e * e := Int.mul_comm _ _
  refine ⟨by omega, ?_, ?_⟩
  · exact Int.le_ediv_of_mul_le (by omega) (by omega)
  · refine Int.ediv_le_of_le_mul (by omega) ?_
    have h5 := Int.mul_le_mul_of_nonneg_left he (show 0 ≤ -d - 1 by omega)
    have h6 : (-d - 1) * e = -d * e - e := by rw [Int.sub_mul, Int.one_mul]
    rw [Int.mul_one, h6] at h5
    omega
theorem timesL_nn {d : Nat → Int} {k : Nat} : ∀ i, 0 ≤ timesL n R far d k i
  | 0 => Int.le_refl _
  | i + 1 => by
    have := timesL_nn (d := d) (k := k) i
    unfold timesL
    split
    · omega
    · exact this
theorem timesL_ge {d : Nat → Int} {k : Nat} : ∀ i v, v < i → far v = k → d v < 0 → needT (d v) (inD n R (nearB far k) v) ≤ timesL n R far d k i
  | 0, v, hv, _, _ => by omega
  | i + 1, v, hv, h1, h2 => by
    unfold timesL
    by_cases e : v = i
    · subst e
      rw [if_pos ⟨h1, h2⟩]
      omega
    · have := timesL_ge (d := d) (k := k) i v (by omega) h1 h2
      split <;> omega
theorem timesL_le {d : Nat → Int} {k : Nat} {B : Int} (hB : 0 ≤ B) (hin : ∀ v, v < n → far v = k → 1 ≤ inD n R (nearB far k) v) : ∀ i, i ≤ n → (∀ v, v < n → far v = k → -B ≤ d v) → timesL n R far d k i ≤ B
  | 0, _, _ => hB
  | i + 1, hi, h => by
    have ih := timesL_le (d := d) hB hin i (by omega) h
    unfold timesL
    split
    · rename_i e
      have := (needT_spec (hin i (by omega) e.1) e.2).2.2
      have := h i (by omega) e.1
      omega
    · exact ih
theorem inD_pos (hG : Gr n R) (hF : Far n q R far) {k v : Nat} (hv : v < n) (hk : far v = k) (h1 : 1 ≤ k) : 1 ≤ inD n R (nearB far k) v := by
  have hne : v ≠ q := fun e => by rw [e, hF.q0] at hk; omega
  obtain ⟨u, hu, e1, e2⟩ := hF.back v hv hne
  have := sumI_mem (f := fun w => if nearB far k w then R v w else 0) (n := n) (fun w hw => by
    split
    · exact hG.nn v w hv hw
    · exact Int.le_refl _) hu
  have hb : nearB far k u = true := by unfold nearB; simp; omega
  simp only [hb, if_true] at this
  unfold inD
  omega
/-- Powers of 2. -/
def P2 (x : Int) : Int := (2 : Int) ^ x.toNat
theorem P2_add {a b : Int} (ha : 0 ≤ a) (hb : 0 ≤ b) : P2 (a + b) = P2 a * P2 b := by
  unfold P2
  rw [Int.toNat_add ha hb, Int.pow_add]
theorem P2_ge {b : Int} (hb : 0 ≤ b) : 1 + b ≤ P2 b := by
  unfold P2
  obtain ⟨k, rfl⟩ := Int.eq_ofNat_of_zero_le hb
  have h1 : k < 2 ^ k := Nat.lt_two_pow_self
  have h2 : ((2 ^ k : Nat) : Int) = (2 : Int) ^ k := by push_cast; rfl
  rw [Int.toNat_natCast, ← h2]
  omega
theorem P2_mono {a b : Int} (ha : 0 ≤ a) (h : a ≤ b) : P2 a ≤ P2 b := by
  have h1 := P2_add ha (show 0 ≤ b - a by omega)
  rw [show a + (b - a) = b by omega] at h1
  have h2 := P2_ge (show 0 ≤ b - a by omega)
  have h3 := P2_ge ha
  rw [h1]
  have := Int.mul_le_mul_of_nonneg_left (show 1 ≤ P2 (b - a) by omega) (show 0 ≤ P2 a by omega)
  omega
theorem P2_step {c a b : Int} (hc : 0 ≤ c) (ha : 0 ≤ a) (hb : 0 ≤ b) : c + c * P2 a * b ≤ c * P2 (a + b) := by
  have h1 := P2_ge ha
  have h2 := P2_ge hb
  have h3 : c * P2 (a + b) = c * P2 a * P2 b := by rw [P2_add ha hb, Int.mul_assoc]
  have h5 : 0 ≤ c * P2 a := Int.mul_nonneg hc (by omega)
  have h4 := Int.mul_le_mul_of_nonneg_left h2 h5
  have h6 := Int.mul_le_mul_of_nonneg_left (show 1 ≤ P2 a by omega) hc
  rw [Int.mul_add] at h4
  omega
/-- Edges from the layers beyond k to nearer ones, and from the layer k. -/
def downX (n : Nat) (R : Nat → Nat → Int) (far : Nat → Nat) (k : Nat) : Int := sumI (fun v => if k < far v then inD n R (nearB far (far v)) v else 0) n
def downE (n : Nat) (R : Nat → Nat → Int) (far : Nat → Nat) (k : Nat) : Int := sumI (fun v => if far v = k then inD n R (nearB far k) v else 0) n
theorem inD_nn (hG : Gr n R) (S : Nat → Bool) {v : Nat} (hv : v < n) : 0 ≤ inD n R S v := sumI_nn fun w hw => by
  split
  · exact hG.nn v w hv hw
  · exact Int.le_refl _
theorem outD_nn (hG : Gr n R) (S : Nat → Bool) {v : Nat} (hv : v < n) : 0 ≤ outD n R S v := sumI_nn fun w hw => by
  split
  · exact Int.le_refl _
  · exact hG.nn v w hv hw
theorem downX_nn (hG : Gr n R) (k : Nat) : 0 ≤ downX n R far k := sumI_nn fun v hv => by
  split
  · exact inD_nn hG _ hv
  · exact Int.le_refl _
theorem downE_nn (hG : Gr n R) (k : Nat) : 0 ≤ downE n R far k := sumI_nn fun v hv => by
  split
  · exact inD_nn hG _ hv
  · exact Int.le_refl _
theorem downX_step (k : Nat) : downX n R far k = downX n R far (k + 1) + downE n R far (k + 1) := by
  unfold downX downE
  rw [← sumI_add]
  refine sumI_eq fun v hv => ?_
  by_cases e : far v = k + 1
  · rw [if_pos (by omega), if_neg (by omega), if_pos e, e]
    omega
  · rw [if_neg e]
    by_cases h : k < far v
    · rw [if_pos h, if_pos (by omega)]
      omega
    · rw [if_neg h, if_neg (by omega)]
      rfl
theorem downX_half (hG : Gr n R) : 2 * downX n R far 0 ≤ sumI (fun v => vlR n R v) n := by
  have e1 : downX n R far 0 = sumI (fun v => sumI (fun w => if far w < far v then R v w else 0) n) n := sumI_eq fun v hv => by
    unfold inD nearB
    by_cases h : 0 < far v
    · rw [if_pos h]
      exact sumI_eq fun w hw => by simp
    · rw [if_neg h, sumI_eq (g := fun _ => 0) fun w hw => if_neg (by omega), sumI_zero]
  have e2 : sumI (fun v => sumI (fun w => if far w < far v then R v w else 0) n) n = sumI (fun v => sumI (fun w => if far v < far w then R v w else 0) n) n := by
    rw [sumI_comm]
    exact sumI_eq fun v hv => sumI_eq fun w hw => by rw [hG.sym]
  have e3 : sumI (fun v => sumI (fun w => if far w < far v then R v w else 0) n + sumI (fun w => if far v < far w then R v w else 0) n) n ≤ sumI (fun v => vlR n R v) n := sumI_le fun v hv => by
    rw [← sumI_add]
    unfold vlR
    exact sumI_le fun w hw => by
      have := hG.nn v w hv hw
      by_cases h1 : far w < far v
      · rw [if_pos h1, if_neg (by omega)]; omega
      · rw [if_neg h1]
        split <;> omega
  rw [sumI_add, ← e2, ← e1] at e3
  omega
theorem out_le (hG : Gr n R) (hF : Far n q R far) {k v : Nat} (hv : v < n) (hk : far v < k) : outD n R (nearB far k) v ≤ downE n R far k := by
  refine sumI_le fun w hw => ?_
  by_cases h : far w < k
  · rw [if_pos (by unfold nearB; simpa using h), if_neg (by omega)]
    exact Int.le_refl _
  · rw [if_neg (by unfold nearB; simpa using h)]
    by_cases e : far w = k
    · rw [if_pos e, hG.sym v w]
      have := sumI_mem (f := fun u => if nearB far k u then R w u else 0) (n := n) (fun u hu => by
        split
        · exact hG.nn w u hw hu
        · exact Int.le_refl _) hv
      have hb : nearB far k v = true := by unfold nearB; simpa using hk
      simp only [hb, if_true] at this
      exact this
    · rw [if_neg e, hG.sym v w, hF.near w v hw hv (by omega)]
      exact Int.le_refl _
theorem in_le (hG : Gr n R) {k v : Nat} (hv : v < n) (hk : far v = k) : inD n R (nearB far k) v ≤ downE n R far k := by
  have := sumI_mem (f := fun u => if far u = k then inD n R (nearB far k) u else 0) (n := n) (fun u hu => by
    split
    · exact inD_nn hG _ hu
    · exact Int.le_refl _) hv
  rw [if_pos hk] at this
  exact this
/-- What is there when the layers beyond k have been paid. -/
structure LInv (n q : Nat) (R : Nat → Nat → Int) (far : Nat → Nat) (D : Nat → Int) (c : Int) (K k : Nat) (s : Nat → Int) : Prop where
  lo : ∀ v, v < n → far v < k → app n R D s v = D v
  mid : ∀ v, v < n → far v = k → -(c * P2 (downX n R far k)) ≤ app n R D s v ∧ app n R D s v ≤ c
  hi : ∀ v, v < n → k < far v → 0 ≤ app n R D s v ∧ app n R D s v ≤ c * P2 (downX n R far 0)
  sb : ∀ v, v < n → 0 ≤ s v ∧ s v ≤ (K - k : Nat) * (c * P2 (downX n R far 0))
def stepL (n : Nat) (R : Nat → Nat → Int) (far : Nat → Nat) (D : Nat → Int) (k : Nat) (s : Nat → Int) : Nat → Int := fireF (nearB far k) (timesL n R far (app n R D s) k n) s
theorem downX_mono (hG : Gr n R) : ∀ k, downX n R far k ≤ downX n R far 0
  | 0 => Int.le_refl _
  | k + 1 => by
    have h1 := downX_mono hG k
    have h2 := downX_step (n := n) (R := R) (far := far) k
    have h3 := downE_nn (far := far) hG (k + 1)
    omega
theorem LInv.step (hG : Gr n R) (hF : Far n q R far) {c : Int} (hc : 0 ≤ c) (hD : ∀ v, v < n → -c ≤ D v ∧ D v ≤ c) {K k : Nat} (hk : k < K) (h : LInv n q R far D c K (k + 1) s) : LInv n q R far D c K k (stepL n R far D (k + 1) s) := by
  have hX := downX_step (n := n) (R := R) (far := far) k
  have hXn := downX_nn (far := far) hG (k + 1)
  have hEn := downE_nn (far := far) hG (k + 1)
  have hP := P2_step hc hXn hEn
  rw [← hX] at hP
  have hm1 := Int.mul_le_mul_of_nonneg_left (P2_mono (downX_nn (far := far) hG k) (downX_mono hG k)) hc
  have hm2 := Int.mul_le_mul_of_nonneg_left (P2_mono hXn (downX_mono hG (k + 1))) hc
  obtain ⟨t, ht⟩ : ∃ t, t = timesL n R far (app n R D s) (k + 1) n := ⟨_, rfl⟩
  have ht0 : 0 ≤ t := by rw [ht]; exact timesL_nn n
  have hB0 : 0 ≤ c * P2 (downX n R far (k + 1)) := Int.mul_nonneg hc (by have := P2_ge hXn; omega)
  have htB : t ≤ c * P2 (downX n R far (k + 1)) := by
    rw [ht]
    exact timesL_le hB0 (fun v hv e => inD_pos hG hF hv e (by omega)) n (Nat.le_refl _) fun v hv e => (h.mid v hv e).1
  have htE : t * downE n R far (k + 1) ≤ c * P2 (downX n R far (k + 1)) * downE n R far (k + 1) := Int.mul_le_mul_of_nonneg_right htB hEn
  have happ : ∀ v, app n R D (stepL n R far D (k + 1) s) v = app n R D s v + if nearB far (k + 1) v then -(t * outD n R (nearB far (k + 1)) v) else t * inD n R (nearB far (k + 1)) v := fun v => by
    unfold stepL
    rw [← ht, app_fire]
  refine ⟨fun v hv hlt => ?_, fun v hv e => ?_, fun v hv hlt => ?_, fun v hv => ?_⟩
  · rw [happ, if_pos (by unfold nearB; simp; omega), h.lo v hv (by omega)]
    have e0 : outD n R (nearB far (k + 1)) v = 0 := by
      unfold outD
      rw [sumI_eq (g := fun _ => 0) fun w hw => by
        by_cases hw2 : far w < k + 1
        · exact if_pos (by unfold nearB; simpa using hw2)
        · rw [if_neg (by unfold nearB; simpa using hw2), hG.sym, hF.near w v hw hv (by omega)], sumI_zero]
    rw [e0]
    simp
  · rw [happ, if_pos (by unfold nearB; simp; omega), h.lo v hv (by omega)]
    have h1 := outD_nn hG (nearB far (k + 1)) hv
    have h2 := Int.mul_le_mul_of_nonneg_left (out_le hG hF hv (show far v < k + 1 by omega)) ht0
    have h3 := Int.mul_nonneg ht0 h1
    have h4 := hD v hv
    constructor <;> omega
  · rw [happ, if_neg (by unfold nearB; simp; omega)]
    by_cases e : far v = k + 1
    · have h1 := inD_nn hG (nearB far (k + 1)) hv
      have h2 := Int.mul_le_mul_of_nonneg_left (in_le (R := R) hG hv e) ht0
      have h3 := Int.mul_nonneg ht0 h1
      have h4 := h.mid v hv e
      refine ⟨?_, by omega⟩
      rcases Int.lt_or_le (app n R D s v) 0 with hn | hp
      · have h5 := timesL_ge (n := n) (R := R) (far := far) (d := app n R D s) (k := k + 1) n v hv e hn
        rw [← ht] at h5
        have h6 := (needT_spec (inD_pos hG hF hv e (by omega)) hn).1
        have h7 := Int.mul_le_mul_of_nonneg_right h5 h1
        omega
      · omega
    · have e0 : inD n R (nearB far (k + 1)) v = 0 := by
        unfold inD
        rw [sumI_eq (g := fun _ => 0) fun w hw => by
          by_cases hw2 : far w < k + 1
          · rw [if_pos (by unfold nearB; simpa using hw2), hF.near v w hv hw (by omega)]
          · exact if_neg (by unfold nearB; simpa using hw2), sumI_zero]
      rw [e0]
      have := h.hi v hv (by omega)
      simp
      omega
  · have h1 := h.sb v hv
    have e : ((K - k : Nat) : Int) * (c * P2 (downX n R far 0)) = ((K - (k + 1) : Nat) : Int) * (c * P2 (downX n R far 0)) + c * P2 (downX n R far 0) := by
      rw [show ((K - k : Nat) : Int) = ((K - (k + 1) : Nat) : Int) + 1 by omega, Int.add_mul, Int.one_mul]
    rw [e]
    unfold stepL fireF
    rw [← ht]
    split <;> constructor <;> omega
end

end Go.Proofs.YtpgopmmobbemcaaGreat

set_option linter.unusedVariables false
set_option linter.unusedSimpArgs false
namespace Go.Proofs.YtpgopmmobbemcaaGreat
open Go.RowKit

section
variable {n q : Nat} {R : Nat → Nat → Int} {D s t : Nat → Int} {far : Nat → Nat}
def lendF (n : Nat) (R : Nat → Nat → Int) (far : Nat → Nat) (D : Nat → Int) : Nat → (Nat → Int) → Nat → Int
  | 0, s => s
  | k + 1, s => lendF n R far D k (stepL n R far D (k + 1) s)
theorem LInv.begin_ (hG : Gr n R) {c : Int} (hc : 0 ≤ c) (hD : ∀ v, v < n → -c ≤ D v ∧ D v ≤ c) {K : Nat} (hK : ∀ v, v < n → far v ≤ K) : LInv n q R far D c K K (fun _ => 0) where
  lo := fun v _ _ => app_zero v
  mid := fun v hv _ => by
    rw [app_zero]
    have h1 := hD v hv
    have h2 := P2_ge (downX_nn (far := far) hG K)
    have h3 := downX_nn (far := far) hG K
    have h4 := Int.mul_le_mul_of_nonneg_left (show 1 ≤ P2 (downX n R far K) by omega) hc
    omega
  hi := fun v hv h => by have := hK v hv; omega
  sb := fun v _ => by simp
/-- What a fire from q leaves. -/
structure Unb (n q : Nat) (R : Nat → Nat → Int) (d : Nat → Int) (S : Nat → Bool) : Prop where
  q0 : S q = false
  ok : ∀ v, v < n → S v = true → outD n R S v ≤ d v
  top : ∀ T : Nat → Bool, T q = false → (∀ v, v < n → T v = true → outD n R T v ≤ d v) → ∀ v, v < n → T v = true → S v = true
theorem Unb.redu {d : Nat → Int} {S : Nat → Bool} (h : Unb n q R d S) (he : ∀ v, v < n → S v = false) : Redu n q R d := fun T hT hv => by
  refine Classical.byContradiction fun hn => ?_
  obtain ⟨v, hv, hTv⟩ := hv
  have := h.top T hT (fun u hu hTu => Int.not_lt.1 fun hlt => hn ⟨u, hu, hTu, hlt⟩) v hv hTv
  rw [he v hv] at this
  cases this
/-- How often a set can fire. -/
def mostT (n : Nat) (R : Nat → Nat → Int) (S : Nat → Bool) (d : Nat → Int) : Nat → Int
  | 0 => 0
  | i + 1 => if S i = true ∧ 0 < outD n R S i then (if mostT n R S d i = 0 ∨ d i / outD n R S i < mostT n R S d i then d i / outD n R S i else mostT n R S d i) else mostT n R S d i
theorem mostT_spec {S : Nat → Bool} {d : Nat → Int} (hok : ∀ v, v < n → S v = true → outD n R S v ≤ d v) : ∀ i, i ≤ n → (0 ≤ mostT n R S d i) ∧ (mostT n R S d i = 0 → ∀ v, v < i → S v = true → ¬ 0 < outD n R S v) ∧ ∀ v, v < i → S v = true → 0 < outD n R S v → mostT n R S d i ≤ d v / outD n R S v
  | 0, _ => ⟨Int.le_refl _, fun _ v hv => by omega, fun v hv => by omega⟩
  | i + 1, hi => by
    obtain ⟨h1, h2, h3⟩ := mostT_spec hok i (by omega)
    unfold mostT
    by_cases e : S i = true ∧ 0 < outD n R S i
    · rw [if_pos e]
      have hq : 1 ≤ d i / outD n R S i := Int.le_ediv_of_mul_le e.2 (by have := hok i (by omega) e.1; omega)
      split
      · rename_i hc
        refine ⟨by omega, fun hz => by omega, fun v hv hS ho => ?_⟩
        by_cases ev : v = i
        · subst ev; exact Int.le_refl _
        · rcases hc with hc | hc
          · exact absurd ho (h2 hc v (by omega) hS)
          · have := h3 v (by omega) hS ho; omega
      · rename_i hc
        refine ⟨h1, fun hz => absurd (Or.inl hz) hc, fun v hv hS ho => ?_⟩
        by_cases ev : v = i
        · subst ev
          rcases Int.lt_or_le (d v / outD n R S v) (mostT n R S d v) with hh | hh
          · exact absurd (Or.inr hh) hc
          · exact hh
        · exact h3 v (by omega) hS ho
    · rw [if_neg e]
      refine ⟨h1, fun hz v hv hS ho => ?_, fun v hv hS ho => ?_⟩
      · by_cases ev : v = i
        · subst ev; exact e ⟨hS, ho⟩
        · exact h2 hz v (by omega) hS ho
      · by_cases ev : v = i
        · subst ev; exact absurd ⟨hS, ho⟩ e
        · exact h3 v (by omega) hS ho
/-- What sets without q have fired, with no debt but at q. -/
structure SInv (n q : Nat) (R : Nat → Nat → Int) (D t : Nat → Int) : Prop where
  q0 : t q = 0
  nn : ∀ v, v < n → 0 ≤ t v
  pay : ∀ v, v < n → v ≠ q → 0 ≤ app n R D t v
theorem SInv.begin_ (h : ∀ v, v < n → v ≠ q → 0 ≤ D v) : SInv n q R D (fun _ => 0) where
  q0 := rfl
  nn := fun _ _ => Int.le_refl _
  pay := fun v hv hne => by rw [app_zero]; exact h v hv hne
theorem most_pos (hc : Conn n R) (hq : q < n) {S : Nat → Bool} (h0 : S q = false) {d : Nat → Int} (hok : ∀ v, v < n → S v = true → outD n R S v ≤ d v) (hG : Gr n R) (hS : ∃ v, v < n ∧ S v = true) : 1 ≤ mostT n R S d n := by
  obtain ⟨h1, h2, _⟩ := mostT_spec hok n (Nat.le_refl _)
  obtain ⟨a, b, ha, hb, hSa, hSb, hR⟩ := hc S hS ⟨q, hq, h0⟩
  rcases Int.lt_or_le 0 (mostT n R S d n) with h | h
  · omega
  · exfalso
    refine h2 (by omega) a ha hSa ?_
    have := sumI_mem (f := fun w => if S w then 0 else R a w) (n := n) (fun w hw => by
      split
      · exact Int.le_refl _
      · exact hG.nn a w ha hw) hb
    simp only [hSb, Bool.false_eq_true, if_false] at this
    unfold outD
    omega
theorem SInv.step (hG : Gr n R) (hq : q < n) {S : Nat → Bool} (hU : Unb n q R (app n R D t) S) (h : SInv n q R D t) : SInv n q R D (fireF S (mostT n R S (app n R D t) n) t) := by
  obtain ⟨h1, _, h3⟩ := mostT_spec hU.ok n (Nat.le_refl _)
  obtain ⟨m, hm⟩ : ∃ m, m = mostT n R S (app n R D t) n := ⟨_, rfl⟩
  rw [← hm] at h1 h3 ⊢
  refine ⟨?_, fun v hv => ?_, fun v hv hne => ?_⟩
  · unfold fireF
    rw [hU.q0, h.q0]
    rfl
  · have := h.nn v hv
    unfold fireF
    split <;> omega
  · rw [app_fire]
    have h4 := h.pay v hv hne
    rcases hS : S v with _ | _
    · have := Int.mul_nonneg h1 (inD_nn hG S hv)
      simp only [Bool.false_eq_true, if_false]
      omega
    · simp only [if_true]
      have ho := outD_nn hG S hv
      rcases Int.lt_or_le 0 (outD n R S v) with h5 | h5
      · have h6 := h3 v hv hS h5
        have h7 := Int.mul_le_mul_of_nonneg_right h6 ho
        have h8 : app n R D t v / outD n R S v * outD n R S v ≤ app n R D t v := Int.ediv_mul_le _ (by omega)
        omega
      · rw [show outD n R S v = 0 by omega, Int.mul_zero]
        omega
/-- The numbers stay small. -/
theorem SInv.range (hG : Gr n R) (hc : Conn n R) (hq : q < n) {C : Int} (hD : ∀ v, v < n → v ≠ q → 0 ≤ D v) (hC : sumI (fun v => if v = q then 0 else D v) n ≤ C) (h : SInv n q R D t) {v : Nat} (hv : v < n) : t v ≤ (n - 1 : Nat) * C := by
  have hs0 : 0 ≤ sumI (fun v => if v = q then 0 else D v) n := sumI_nn fun u hu => by
    split
    · exact Int.le_refl _
    · rename_i hh; exact hD u hu hh
  have hcut : ∀ l, sumI (fun u => if decide (l ≤ t u) then D u - app n R D t u else 0) n ≤ C := fun l => by
    rcases Int.lt_or_le 0 l with hl | hl
    · refine Int.le_trans (sumI_le fun u hu => ?_) hC
      show (if decide (l ≤ t u) then D u - app n R D t u else 0) ≤ if u = q then 0 else D u
      by_cases e : u = q
      · subst e
        rw [if_neg (by rw [h.q0]; simp; omega), if_pos rfl]
        exact Int.le_refl _
      · rw [if_neg e]
        have h1 := h.pay u hu e
        have h2 := hD u hu e
        split <;> omega
    · have h1 := app_total (D := D) hG t
      rw [sumI_eq (g := fun u => D u - app n R D t u) fun u hu => if_pos (by have := h.nn u hu; simp; omega), h1]
      omega
  have := range_le hG hc (D := D) (s := t) hcut (by omega) hv q hq
  rw [h.q0] at this
  omega
theorem SInv.off (hG : Gr n R) (hq : q < n) (h : SInv n q R D t) : sumI (fun v => if v = q then 0 else app n R D t v) n ≤ sumI (fun v => if v = q then 0 else D v) n := by
  have h1 := app_total (D := D) hG t
  have h2 : app n R D t q - D q = sumI (fun v => if v = q then 0 else D v) n - sumI (fun v => if v = q then 0 else app n R D t v) n := by
    have e : sumI (fun v => D v - app n R D t v) n = sumI (fun v => (if v = q then 0 else D v) + -(if v = q then 0 else app n R D t v)) n + ((D q - app n R D t q) - 0) := by
      have := sumI_one (f := fun v => D v - app n R D t v) (g := fun v => (if v = q then 0 else D v) + -(if v = q then 0 else app n R D t v)) hq fun p hp hne => by
        simp only [if_neg hne]
        omega
      simp only [if_true] at this
      rw [this]
      omega
    rw [sumI_add, sumI_neg] at e
    omega
  have h3 : D q ≤ app n R D t q := by
    unfold app
    have h4 : sumI (fun w => R q w * (t q - t w)) n ≤ 0 := by
      have := sumI_nn (f := fun w => -(R q w * (t q - t w))) (n := n) fun w hw => by
        rw [← Int.mul_neg]
        refine Int.mul_nonneg (hG.nn q w hq hw) ?_
        have := h.nn w hw
        rw [h.q0]
        omega
      rw [sumI_neg] at this
      omega
    omega
  omega
/-- Each round adds to the numbers. -/
theorem fire_sum {S : Nat → Bool} {m : Int} (hm : 1 ≤ m) (hS : ∃ v, v < n ∧ S v = true) : sumI t n + 1 ≤ sumI (fireF S m t) n := by
  obtain ⟨v, hv, hSv⟩ := hS
  have e : sumI (fireF S m t) n = sumI t n + sumI (fun w => if S w then m else 0) n := by
    rw [← sumI_add]
    rfl
  have := sumI_mem (f := fun w => if S w then m else 0) (n := n) (fun w hw => by split <;> omega) hv
  simp only [hSv, if_true] at this
  omega
end

end Go.Proofs.YtpgopmmobbemcaaGreat

set_option linter.unusedVariables false
set_option linter.unusedSimpArgs false
namespace Go.Proofs.YtpgopmmobbemcaaGreat
open Go.RowKit

/-- An edge that leads from t to u. -/
def Jn (x : Edg) (t u : Nat) : Prop := x.a ≠ x.b ∧ ((x.a = (t : Int) ∧ x.b = (u : Int)) ∨ (x.a = (u : Int) ∧ x.b = (t : Int)))
theorem Jn.symm {x : Edg} {t u : Nat} (h : Jn x t u) : Jn x u t := ⟨h.1, h.2.symm⟩
theorem jn_link {es : List Edg} (hm : ∀ x ∈ es, 1 ≤ x.m) {v w : Nat} (x : Edg) (hx : x ∈ es) (h : Jn x v w) : 1 ≤ linkE es v w := by
  have h1 := linkE_mem v w (fun x hx => by have := hm x hx; omega) hx
  have h2 := hm x hx
  unfold lkX at h1
  rw [if_pos (show _ ∧ _ from h)] at h1
  omega
theorem link_jn : ∀ {es : List Edg} {v w : Nat}, 1 ≤ linkE es v w → ∃ x ∈ es, Jn x v w
  | [], v, w, h => by simp [linkE] at h
  | x :: r, v, w, h => by
    by_cases hj : Jn x v w
    · exact ⟨x, by simp, hj⟩
    · have e : linkE (x :: r) v w = lkX x v w + linkE r v w := rfl
      have e2 : lkX x v w = 0 := by unfold lkX; exact if_neg hj
      obtain ⟨y, hy, hj2⟩ := link_jn (es := r) (v := v) (w := w) (by omega)
      exact ⟨y, by simp [hy], hj2⟩
section
variable {n q : Nat} {es : List Edg} {out : Nat → Int} {t k : Nat} {work : List Nat}
def putF (f : Nat → Int) (i : Nat) (x : Int) : Nat → Int := fun u => if u = i then x else f u
/-- Between two rounds. -/
structure DBfs (n q : Nat) (es : List Edg) (out : Nat → Int) (work : List Nat) : Prop where
  q0 : out q = 0
  lo : ∀ v, v < n → -1 ≤ out v
  back : ∀ v, v < n → v ≠ q → 0 ≤ out v → ∃ u, u < n ∧ 0 ≤ out u ∧ out u + 1 = out v ∧ ∃ x ∈ es, Jn x v u
  wk : ∀ u ∈ work, u < n ∧ 0 ≤ out u
  srt : work.Pairwise fun a b => out a ≤ out b
  top : ∀ a ∈ work, ∀ v, v < n → out v ≤ out a + 1
  closed : ∀ u, u < n → 0 ≤ out u → u ∉ work → ∀ x ∈ es, ∀ w, Jn x u w → 0 ≤ out w ∧ out w ≤ out u + 1
/-- How many are still unknown. -/
def unkN (n : Nat) (out : Nat → Int) : Nat := sumN (fun v => if out v < 0 then 1 else 0) n
def begF (q : Nat) : Nat → Int := fun v => if v = q then 0 else -1
theorem DBfs.begin_ (hq : q < n) : DBfs n q es (begF q) [q] where
  q0 := if_pos rfl
  lo := fun v _ => by unfold begF; split <;> omega
  back := fun v _ hne h => by unfold begF at h; rw [if_neg hne] at h; omega
  wk := fun u hu => by simp at hu; subst hu; exact ⟨hq, by unfold begF; simp⟩
  srt := by simp
  top := fun a ha v hv => by
    simp at ha
    subst ha
    unfold begF
    simp only [if_true]
    split <;> omega
  closed := fun u hu h hn => by
    unfold begF at h
    split at h
    · rename_i e; exact absurd (by simp [e]) hn
    · omega
theorem putF_at (f : Nat → Int) (i : Nat) (x : Int) : putF f i x i = x := if_pos rfl
theorem putF_ne (f : Nat → Int) {i j : Nat} (x : Int) (h : j ≠ i) : putF f i x j = f j := if_neg h
theorem unk_more {u : Nat} (hu : u < n) (hn : out u < 0) {x : Int} (hx : 0 ≤ x) : unkN n (putF out u x) + 1 = unkN n out := by
  unfold unkN
  have h1 := sumN_one (f := fun v => if out v < 0 then 1 else 0) (g := fun v => if putF out u x v < 0 then 1 else 0) hu (fun p hp hne => by simp only [putF_ne _ _ hne])
  simp only [putF_at, if_pos hn] at h1
  rw [if_neg (by omega)] at h1
  omega
theorem DBfs.all (h : DBfs n q es out []) (hq : q < n) (hc : Conn n (linkE es)) : ∀ v, v < n → 0 ≤ out v := fun v hv => by
  refine Classical.byContradiction fun hn => ?_
  obtain ⟨a, b, ha, hb, h1, h2, h3⟩ := hc (fun u => decide (0 ≤ out u)) ⟨q, hq, by simp [h.q0]⟩ ⟨v, hv, by simpa using hn⟩
  obtain ⟨x, hx, hj⟩ := link_jn h3
  have h4 := h.closed a ha (by simpa using h1) (by simp) x hx b hj
  have h5 : ¬ 0 ≤ out b := by simpa using h2
  exact h5 h4.1
/-- The distances. -/
theorem DBfs.far (h : DBfs n q es out []) (hq : q < n) (hm : ∀ x ∈ es, 1 ≤ x.m) (hc : Conn n (linkE es)) : Far n q (linkE es) (fun v => (out v).toNat) := by
  have ha := h.all hq hc
  refine ⟨by simp [h.q0], fun v hv hne => ?_, fun v hv hne => ?_, fun v w hv hw hlt => ?_⟩
  · obtain ⟨u, h1, h2, h3, _⟩ := h.back v hv hne (ha v hv)
    show 1 ≤ (out v).toNat
    omega
  · obtain ⟨u, h1, h2, h3, x, hx, hj⟩ := h.back v hv hne (ha v hv)
    exact ⟨u, h1, by show (out u).toNat + 1 = (out v).toNat; omega, jn_link hm x hx hj⟩
  · refine Classical.byContradiction fun hne => ?_
    have h0 : 0 ≤ linkE es v w := (linkE_gr (n := n) (es := es) fun x hx => by have := hm x hx; omega).nn v w hv hw
    obtain ⟨x, hx, hj⟩ := link_jn (show 1 ≤ linkE es v w by omega)
    have h1 := h.closed w hw (ha w hw) (by simp) x hx v hj.symm
    have h2 := ha w hw
    have h3 := ha v hv
    have hlt' : (out w).toNat + 1 < (out v).toNat := hlt
    omega
end
end Go.Proofs.YtpgopmmobbemcaaGreat

set_option linter.unusedVariables false
set_option linter.unusedSimpArgs false
namespace Go.Proofs.YtpgopmmobbemcaaGreat
open Go.RowKit Go.Shelf

attribute [local go_sem] Oper.semAt_some

structure RLay where
  p : Nat
  gd : Nat
  cd : Nat
  gs : Nat
  oe : Option Addr
  c : Nat
  rest : List Value
structure RSt where
  d : Nat → Int
  s : Nat → Int
def rCells (N q len : Nat) (L : RLay) : List Value := [.int .i64 N, .slice L.oe len L.c, .int .i64 q, .slice (some ⟨L.gd, 0, none⟩) N L.cd, .slice (some ⟨L.gs, 0, none⟩) N N, .int .i64 0]
/-- The state in memory. -/
structure RMem (B N q : Nat) (es : List Edg) (L : RLay) (x : RSt) (W : World) : Prop where
  box : Box W L.p (rCells N q es.length L) 162
  rd : Row1 (Value.int .i64) W L.gd 3 (lst N x.d) L.rest
  rs : Row1 (Value.int .i64) W L.gs 3 (lst N x.s) []
  edg : EdgesBelow B W L.oe es
  ne : L.gd ≠ L.gs
  low : B ≤ L.p ∧ B ≤ L.gd ∧ B ≤ L.gs
  num : (1 ≤ N ∧ N ≤ 12) ∧ q < N ∧ N ≤ L.cd
  ok : EOk N es
section
variable {B N q : Nat} {es : List Edg} {L : RLay} {x : RSt} {W W' : World}
theorem RMem.size (h : RMem B N q es L x W) : B ≤ W.heap.size := by have := h.box.lt; have := h.low.1; omega
theorem RMem.below (h : RMem B N q es L x W) (hb : Below W.heap.size W W') : RMem B N q es L x W' := ⟨h.box.below hb, h.rd.below hb, h.rs.below hb, h.edg.below (hb.mono h.size), h.ne, h.low, h.num, h.ok⟩
theorem RMem.drewN (h : RMem B N q es L x W) (n : Nat) : RMem B N q es L x (W.drewN n) := h.below (below_drewN (Below.refl _ _) n)
theorem RMem.pne (h : RMem B N q es L x W) : L.p ≠ L.gd ∧ L.p ≠ L.gs := by
  have key : ∀ {g : Nat} {xs : List Int} {rest : List Value}, Row1 (Value.int .i64) W g 3 xs rest → g ≠ L.p := fun hr => ne_type hr h.box (by decide)
  exact ⟨(key h.rd).symm, (key h.rs).symm⟩
theorem RMem.cells (h : RMem B N q es L x W) : W.cell? ⟨L.p, 0, none⟩ = some (.int .i64 N) ∧ W.cell? ⟨L.p, 1, none⟩ = some (.slice L.oe es.length L.c) ∧ W.cell? ⟨L.p, 2, none⟩ = some (.int .i64 q) ∧ W.cell? ⟨L.p, 3, none⟩ = some (.slice (some ⟨L.gd, 0, none⟩) N L.cd) ∧ W.cell? ⟨L.p, 4, none⟩ = some (.slice (some ⟨L.gs, 0, none⟩) N N) ∧ W.cell? ⟨L.p, 5, none⟩ = some (.int .i64 0) :=
  ⟨h.box.cell 0, h.box.cell 1, h.box.cell 2, h.box.cell 3, h.box.cell 4, h.box.cell 5⟩
theorem RMem.dAt (h : RMem B N q es L x W) {v : Nat} (hv : v < N) : W.cell? ⟨L.gd, v, none⟩ = some (.int .i64 (x.d v)) := h.rd.cell (lst_get x.d hv)
theorem RMem.sAt (h : RMem B N q es L x W) {v : Nat} (hv : v < N) : W.cell? ⟨L.gs, v, none⟩ = some (.int .i64 (x.s v)) := h.rs.cell (lst_get x.s hv)
theorem RMem.putD (h : RMem B N q es L x W) {i : Nat} (hi : i < N) (z : Int) : RMem B N q es L { x with d := putF x.d i z } (W.setCell ⟨L.gd, i, none⟩ (.int .i64 z)) := by
  obtain ⟨p1, p2⟩ := h.pne
  refine ⟨h.box.other (by simpa using p1) _, ?_, h.rs.other (by simpa using h.ne.symm) _, h.edg.below ((Below.refl _ _).setCell h.low.2.1 _), h.ne, h.low, h.num, h.ok⟩
  have := h.rd.put (i := i) (by rw [lst_len]; exact hi) z
  rw [lst_set] at this
  exact this
theorem RMem.putS (h : RMem B N q es L x W) {i : Nat} (hi : i < N) (z : Int) : RMem B N q es L { x with s := putF x.s i z } (W.setCell ⟨L.gs, i, none⟩ (.int .i64 z)) := by
  obtain ⟨p1, p2⟩ := h.pne
  refine ⟨h.box.other (by simpa using p2) _, h.rd.other (by simpa using h.ne) _, ?_, h.edg.below ((Below.refl _ _).setCell h.low.2.2 _), h.ne, h.low, h.num, h.ok⟩
  have := h.rs.put (i := i) (by rw [lst_len]; exact hi) z
  rw [lst_set] at this
  exact this
theorem RMem.congr (h : RMem B N q es L x W) {y : RSt} (hd : ∀ v, v < N → x.d v = y.d v) (hs : ∀ v, v < N → x.s v = y.s v) : RMem B N q es L y W := by
  refine ⟨h.box, ?_, ?_, h.edg, h.ne, h.low, h.num, h.ok⟩
  · rw [← lst_congr hd]; exact h.rd
  · rw [← lst_congr hs]; exact h.rs
end
/-- A list of truths behind a captured variable. -/
structure BMem (N bb gb : Nat) (f : Nat → Bool) (W : World) : Prop where
  box : Box W bb [.slice (some ⟨gb, 0, none⟩) N N] 139
  row : Row1 Value.bool W gb 4 ((List.range N).map f) []
section
variable {N bb gb : Nat} {f : Nat → Bool} {W W' : World}
theorem BMem.below (h : BMem N bb gb f W) (hb : Below W.heap.size W W') : BMem N bb gb f W' := ⟨h.box.below hb, h.row.below hb⟩
theorem BMem.at (h : BMem N bb gb f W) {v : Nat} (hv : v < N) : W.cell? ⟨gb, v, none⟩ = some (.bool (f v)) := h.row.cell (by rw [List.getElem?_map, List.getElem?_range hv]; rfl)
theorem BMem.put (h : BMem N bb gb f W) {i : Nat} (hi : i < N) (z : Bool) : BMem N bb gb (updW f i z) (W.setCell ⟨gb, i, none⟩ (.bool z)) := by
  have hne : bb ≠ gb := ne_type (show W.heap[bb]? = some (.cells _ 139 (0, 0)) from h.box) (show W.heap[gb]? = some (.cells _ 4 (0, 0)) from h.row) (by decide)
  refine ⟨h.box.other hne _, ?_⟩
  have := h.row.put (i := i) (by simpa using hi) z
  rw [map_set] at this
  exact this
end
theorem lnkV_ok {N v : Nat} (l : List (LnkT N v)) : ∀ p ∈ lnkV l, 1 ≤ p.2 ∧ p.2 ≤ 50 := fun p hp => by
  obtain ⟨x, _, rfl⟩ := List.mem_map.1 hp
  obtain ⟨u, _, _, _, h⟩ := x.2
  exact h
/-- The single edges at v that lead to vertices with a property. -/
def jnS (P : Nat → Bool) (l : List (Int × Int)) : Int := (l.map fun p => if P p.1.toNat then p.2 else 0).sum
theorem jnS_snoc (P : Nat → Bool) (l : List (Int × Int)) (p : Int × Int) : jnS P (l ++ [p]) = jnS P l + (if P p.1.toNat then p.2 else 0) := by simp [jnS]
theorem lnk_len (es : List Edg) (v : Int) : (lnkL es v).length ≤ es.length := List.length_filterMap_le _ _
theorem jnS_bound {N : Nat} {es : List Edg} (h : EOk N es) {v : Nat} (P : Nat → Bool) : ∀ l : List (Int × Int), (∀ p ∈ l, 1 ≤ p.2 ∧ p.2 ≤ 50) → 0 ≤ jnS P l ∧ jnS P l ≤ l.length * 50
  | [], _ => by simp [jnS]
  | p :: r, hl => by
    have h1 := jnS_bound (v := v) h P r fun x hx => hl x (by simp [hx])
    have h2 := hl p (by simp)
    have e : jnS P (p :: r) = (if P p.1.toNat then p.2 else 0) + jnS P r := by simp [jnS]
    have e2 : (((p :: r).length : Nat) : Int) * 50 = (r.length : Int) * 50 + 50 := by rw [List.length_cons]; push_cast; omega
    rw [e]
    split <;> omega
theorem jn_inD {N : Nat} (P : Nat → Bool) (v : Nat) : ∀ {es : List Edg}, (∀ y ∈ es, (0 ≤ y.a ∧ y.a < N) ∧ 0 ≤ y.b ∧ y.b < N) → jnS P (lnkL es v) = inD N (linkE es) P v
  | [], _ => by
    unfold inD
    rw [sumI_eq (g := fun _ => 0) fun w hw => by split <;> rfl, sumI_zero]
    rfl
  | x :: r, h => by
    have ih := jn_inD P v (es := r) fun y hy => h y (by simp [hy])
    have hx := h x (by simp)
    have e : inD N (linkE (x :: r)) P v = sumI (fun w => if P w then lkX x v w else 0) N + inD N (linkE r) P v := by
      unfold inD
      rw [← sumI_add]
      refine sumI_eq fun w hw => ?_
      show (if P w = true then lkX x v w + linkE r v w else 0) = _
      split <;> omega
    rw [e, ← ih]
    by_cases hc : x.a ≠ x.b ∧ (x.a = v ∨ x.b = v)
    · have e1 : lnkL (x :: r) v = (x.a + x.b - v, x.m) :: lnkL r v := by
        unfold lnkL
        rw [List.filterMap_cons]
        unfold lnkX
        rw [if_pos hc]
      have e2 : jnS P ((x.a + x.b - v, x.m) :: lnkL r v) = (if P (x.a + x.b - v).toNat then x.m else 0) + jnS P (lnkL r v) := by simp [jnS]
      rw [e1, e2]
      congr 1
      have h1 := sumI_one (f := fun w => if P w then lkX x v w else 0) (g := fun _ => 0) (n := N) (k := (x.a + x.b - v).toNat) (by omega) (fun p hp hne => by
        have : lkX x v p = 0 := by unfold lkX; exact if_neg (by omega)
        simp only [this]
        split <;> rfl)
      rw [h1, sumI_zero]
      have : lkX x v (x.a + x.b - v).toNat = x.m := by unfold lkX; exact if_pos (by omega)
      rw [this]
      omega
    · have e1 : lnkL (x :: r) v = lnkL r v := by
        unfold lnkL
        rw [List.filterMap_cons]
        unfold lnkX
        rw [if_neg hc]
      have e2 : sumI (fun w => if P w then lkX x v w else 0) N = 0 := by
        rw [sumI_eq (g := fun _ => 0) fun w hw => by
          have : lkX x v w = 0 := by unfold lkX; exact if_neg (by omega)
          rw [this]
          split <;> rfl, sumI_zero]
      rw [e1, e2]
      omega

theorem unb_is {N bb gb : Nat} {f : Nat → Bool} {W : World} (h : BMem N bb gb f W) {u : Nat} (hu : u < N) : Calls Tryz.prog 155 #[.int .i64 u, .pointer (some ⟨bb, 0, none⟩)] W fun e w' => e = .returned (.bool (f u)) ∧ W = w' := by
  have d0 := h.box.cell 0
  have c0 := h.at hu
  simp only [List.getElem?_cons_zero] at d0
  have h0 : (0 : Int) ≤ u := by omega
  have h1 : (u : Int) < N := by omega
  clear h
  generalize f u = b at *
  go_enter Tryz.func155, Tryz.ntmps155
  go_wp2_with fail
  go_ret
  exact ⟨rfl, rfl⟩
set_option maxRecDepth 100000 in
set_option maxHeartbeats 4000000 in
theorem unb_joins {B N q : Nat} {es : List Edg} {L : RLay} {x : RSt} {w : World} {bb gb : Nat} {f : Nat → Bool} (hM : RMem B N q es L x w) (hB : BMem N bb gb f w) {v : Nat} (hv : v < N) :
    Calls Tryz.prog 128 #[.pointer (some ⟨L.p, 0, none⟩), .int .i64 v, .func (.func 155) #[] #[.pointer (some ⟨bb, 0, none⟩)]] w fun e w' => e = .returned (.int .i64 (jnS (fun u => f u) (lnkL es v))) ∧ Below w.heap.size w w' := by
  refine (callsIn_wide (n := 6)).1 ?_
  have h1 : 1 ≤ 6 := by omega
  have hsz := hM.size
  have hok := hM.ok
  obtain ⟨_, d1, _, _, _, _⟩ := hM.cells
  have h12 := hM.num.1
  have HL := hide (fun W => links_any L.p (v : Int) W)
  have HM := hide hM
  have HBM := hide hB
  have hED := hM.edg
  clear hM hB
  refine callsIn_of_wp_marks Tryz.func128 rfl trivial ?_ rfl
  simp only [Tryz.ntmps128, List.size_toArray, List.length_cons, List.length_nil, Nat.reduceAdd, Nat.reduceSub, Array.replicate_succ, Array.replicate_zero, List.push_toArray, List.append_toArray, List.nil_append, List.cons_append]
  have HLc : Hid (∀ W, CallsIn Go.Fence.wide (6 - 1) Tryz.prog 154 #[.pointer (some ⟨L.p, 0, none⟩), .int .i64 v] W fun e w' => e = .returned (.func (.func 165) #[] #[.pointer (some ⟨W.heap.size, 0, none⟩), .pointer (some ⟨W.heap.size + 1, 0, none⟩)]) ∧ w' = (W.alloc (.cells #[.pointer (some ⟨L.p, 0, none⟩)] 143)).alloc (.cells #[.int .i64 v] 3)) := fun W => callsIn_wide.2 (HL.out W)
  have hf1 : Go.Fence.wide.fn 154 := trivial
  clear d1
  gi_wp2_with (gi_at_call 154; refine (HLc.out _).mono ?_; rintro e w2 ⟨rfl, rfl⟩)
  obtain ⟨W2, hW2⟩ : ∃ W2, (((w.alloc (.cells #[.func (.func 155) #[] #[.pointer (some ⟨bb, 0, none⟩)]] 126)).alloc (.cells #[.int .i64 0] 3)).alloc (.cells #[.pointer (some ⟨L.p, 0, none⟩)] 143)).alloc (.cells #[.int .i64 (v : Int)] 3) = W2 := ⟨_, rfl⟩
  have hs2 : W2.heap.size = w.heap.size + 4 := by rw [← hW2]; simp
  have hb2 : Below w.heap.size w W2 := by rw [← hW2]; exact bnew (bnew (bnew (bnew (Below.refl _ _) _) _) _) _
  have bI : Boxed W2 w.heap.size 126 (.func (.func 155) #[] #[.pointer (some ⟨bb, 0, none⟩)]) := by rw [← hW2]; exact (((Boxed.new w _ _).alloc _).alloc _).alloc _
  have bN : Boxed W2 (w.heap.size + 1) 3 (.int .i64 0) := by
    rw [← hW2]
    have := ((Boxed.new (w.alloc (.cells #[.func (.func 155) #[] #[.pointer (some ⟨bb, 0, none⟩)]] 126)) 3 (.int .i64 0)).alloc (.cells #[.pointer (some ⟨L.p, 0, none⟩)] 143)).alloc (.cells #[.int .i64 (v : Int)] 3)
    simpa using this
  have bX : Boxed W2 (w.heap.size + 2) 143 (.pointer (some ⟨L.p, 0, none⟩)) := by
    rw [← hW2]
    have := (Boxed.new ((w.alloc (.cells #[.func (.func 155) #[] #[.pointer (some ⟨bb, 0, none⟩)]] 126)).alloc (.cells #[.int .i64 0] 3)) 143 (.pointer (some ⟨L.p, 0, none⟩))).alloc (.cells #[.int .i64 (v : Int)] 3)
    simpa using this
  have bV : Boxed W2 (w.heap.size + 3) 3 (.int .i64 v) := by
    rw [← hW2]
    have := Boxed.new (((w.alloc (.cells #[.func (.func 155) #[] #[.pointer (some ⟨bb, 0, none⟩)]] 126)).alloc (.cells #[.int .i64 0] 3)).alloc (.cells #[.pointer (some ⟨L.p, 0, none⟩)] 143)) 3 (.int .i64 v)
    simpa using this
  have hM2 := HM.out.below hb2
  obtain ⟨_, d1, _, _, _, _⟩ := hM2.cells
  simp only [World.size_alloc, Nat.add_assoc, Nat.reduceAdd]
  rw [hW2]
  clear hW2
  refine wpIn_rangeFunc_ownF rfl h1 (gf := 165) (lb := #[.pointer (some ⟨w.heap.size + 2, 0, none⟩), .pointer (some ⟨w.heap.size + 3, 0, none⟩)]) rfl trivial (enters_of Tryz.func165 (by kernel_rfl) rfl)
    (links_stops Go.Fence.wide (6 - 1) trivial rfl (by omega) (w.heap.size + 2) (w.heap.size + 3) L.p w.heap.size N v L.c L.oe es hok hv (by omega) W2 (by omega) bX.cell bV.cell d1 (EdgesBelow.below hb2 (hED.more hsz)))
    KpL.t (KpL.b (by omega) (by intro g hg; simp at hg; omega)) (Below.refl _ _) (fun _ => rfl)
    (fun pre W => (Boxed W (w.heap.size + 1) 3 (.int .i64 (jnS (fun u => f u) (lnkV pre))) ∧ Boxed W w.heap.size 126 (.func (.func 155) #[] #[.pointer (some ⟨bb, 0, none⟩)])) ∧ Below w.heap.size w W)
    (fun _ _ _ => False)
    (OwnFrom.and (OwnFrom.and (Own.from (boxed_own _ _ _) _) (Own.from (boxed_own _ _ _) _)) (ownFrom_below (Nat.le_refl _) (by omega)))
    (fun _ _ _ _ _ hs _ _ => hs)
    ⟨⟨bN, bI⟩, hb2⟩
    (fun p => { tmps := #[.pointer (some ⟨L.p, 0, none⟩), .int .i64 v, .func (.func 155) #[] #[.pointer (some ⟨bb, 0, none⟩)], undef, undef, .pointer (some ⟨w.heap.size, 0, none⟩), .int .i64 0, .pointer (some ⟨w.heap.size + 1, 0, none⟩), .int .i64 p.1.1, .int .i64 p.1.2, .pointer (some ⟨L.p, 0, none⟩), .int .i64 v, .func (.func 165) #[] #[.pointer (some ⟨w.heap.size + 2, 0, none⟩), .pointer (some ⟨w.heap.size + 3, 0, none⟩)], .int .i64 p.1.1, .int .i64 p.1.2, undef, undef, undef, undef, undef, undef, undef], defers := [] }) ?assign ?body ?done ?stop
  case assign =>
    intro l p W K hK
    simp only [lEnc]
    gi_wp2
    exact hK
  case body =>
    rintro l pre ⟨⟨u0, k⟩, u, e0, hu, hne, hk⟩ W ⟨⟨bN, bI⟩, hB⟩ hlt
    have e0 : u0 = u := e0
    subst e0
    have hJB := jnS_bound hok (v := v) (fun u => f u) (lnkV pre) (lnkV_ok pre)
    have hll := lnk_len es (v : Int)
    have hl5 : (lnkV pre).length = pre.length := by unfold lnkV; rw [List.length_map]
    have hes := hok.len
    obtain ⟨S, hS⟩ : ∃ S, S = jnS (fun u => f u) (lnkV pre) := ⟨_, rfl⟩
    rw [← hS] at hJB bN
    have HS := hide hS
    have cN := bN.cell
    have fN := bN.frozen
    have cI := bI.cell
    have HBB := hide (HBM.out.below hB)
    obtain ⟨b, hb⟩ : ∃ b, b = f u := ⟨_, rfl⟩
    have HI : Hid (Calls Tryz.prog 155 #[.int .i64 u, .pointer (some ⟨bb, 0, none⟩)] W fun e w' => e = .returned (.bool b) ∧ W = w') := by have := unb_is HBB.out hu; rw [← hb] at this; exact this
    have HBS : Hid (jnS (fun u => f u) (lnkV (pre ++ [⟨((u : Int), k), ⟨u, rfl, hu, hne, hk⟩⟩])) = S + if b = true then k else 0) := by
      show _ = _
      rw [lnkV_snoc, jnS_snoc, hS]
      simp only [Int.toNat_natCast, ← hb]
    simp only at hk
    have HBW := hide hB
    have hN1 : 1 ≤ 6 - 1 - 1 := by omega
    clear hb hS hB
    rcases b with _ | _
    · simp only [Bool.false_eq_true, if_false, Int.add_zero] at HBS
      gi_wp2_with (refine ⟨trivial, ?_⟩; gi_at_call 155; refine (CallsIn.inRound l (callsIn_wide.2 HI.out)).mono ?_; rintro e w5 ⟨rfl, rfl⟩)
      exact ⟨KeepsOthers.refl _, KpL.refl _ _ _, ⟨by rw [HBS.out]; exact bN, bI⟩, HBW.out⟩
    · simp only [if_true] at HBS
      gi_wp2_with (refine ⟨trivial, ?_⟩; gi_at_call 155; refine (CallsIn.inRound l (callsIn_wide.2 HI.out)).mono ?_; rintro e w5 ⟨rfl, rfl⟩)
      exact ⟨KeepsOthers.setCell _ _ _, ⟨(Below.refl _ _).setCell (by simp) _, fun g hg => Below.heap_setCell _ _ _ g (by simp at hg; simp; omega)⟩, ⟨by rw [HBS.out]; exact bN.set _, bI.other (by omega) _⟩, HBW.out.setCell (p := ⟨w.heap.size + 1, 0, none⟩) (by simp) _⟩
  case done =>
    rintro D ys W hD hys ⟨⟨bN, bI⟩, hB⟩ hK
    rw [hys] at bN
    have cN := bN.cell
    obtain ⟨S, hS⟩ : ∃ S, S = jnS (fun u => f u) (lnkL es v) := ⟨_, rfl⟩
    rw [← hS] at cN
    have HS := hide hS
    clear hS bN
    gi_wp2
    refine ⟨by simp, .inl ⟨_, _, rfl, run_takeDeferred hK, ?_⟩⟩
    exact ⟨_, results_tmp rfl _ _ _, by rw [HS.out]; rfl, hB.trans (belowK_b (w := w) (Nat.le_refl _) W D _ _ (by omega) hK rfl rfl)⟩
  case stop =>
    rintro D c pre W _ _ h _
    exact h.elim

theorem lend_is {N bb gb : Nat} {f : Nat → Bool} {W : World} (h : BMem N bb gb f W) {u : Nat} (hu : u < N) : Calls Tryz.prog 129 #[.int .i64 u, .pointer (some ⟨bb, 0, none⟩)] W fun e w' => e = .returned (.bool (f u)) ∧ W = w' := by
  have d0 := h.box.cell 0
  have c0 := h.at hu
  simp only [List.getElem?_cons_zero] at d0
  have h0 : (0 : Int) ≤ u := by omega
  have h1 : (u : Int) < N := by omega
  clear h
  generalize f u = b at *
  go_enter Tryz.func129, Tryz.ntmps129
  go_wp2_with fail
  go_ret
  exact ⟨rfl, rfl⟩
set_option maxRecDepth 100000 in
set_option maxHeartbeats 4000000 in
theorem lend_joins {B N q : Nat} {es : List Edg} {L : RLay} {x : RSt} {w : World} {bb gb : Nat} {f : Nat → Bool} (hM : RMem B N q es L x w) (hB : BMem N bb gb f w) {v : Nat} (hv : v < N) :
    Calls Tryz.prog 128 #[.pointer (some ⟨L.p, 0, none⟩), .int .i64 v, .func (.func 129) #[] #[.pointer (some ⟨bb, 0, none⟩)]] w fun e w' => e = .returned (.int .i64 (jnS (fun u => f u) (lnkL es v))) ∧ Below w.heap.size w w' := by
  refine (callsIn_wide (n := 6)).1 ?_
  have h1 : 1 ≤ 6 := by omega
  have hsz := hM.size
  have hok := hM.ok
  obtain ⟨_, d1, _, _, _, _⟩ := hM.cells
  have h12 := hM.num.1
  have HL := hide (fun W => links_any L.p (v : Int) W)
  have HM := hide hM
  have HBM := hide hB
  have hED := hM.edg
  clear hM hB
  refine callsIn_of_wp_marks Tryz.func128 rfl trivial ?_ rfl
  simp only [Tryz.ntmps128, List.size_toArray, List.length_cons, List.length_nil, Nat.reduceAdd, Nat.reduceSub, Array.replicate_succ, Array.replicate_zero, List.push_toArray, List.append_toArray, List.nil_append, List.cons_append]
  have HLc : Hid (∀ W, CallsIn Go.Fence.wide (6 - 1) Tryz.prog 154 #[.pointer (some ⟨L.p, 0, none⟩), .int .i64 v] W fun e w' => e = .returned (.func (.func 165) #[] #[.pointer (some ⟨W.heap.size, 0, none⟩), .pointer (some ⟨W.heap.size + 1, 0, none⟩)]) ∧ w' = (W.alloc (.cells #[.pointer (some ⟨L.p, 0, none⟩)] 143)).alloc (.cells #[.int .i64 v] 3)) := fun W => callsIn_wide.2 (HL.out W)
  have hf1 : Go.Fence.wide.fn 154 := trivial
  clear d1
  gi_wp2_with (gi_at_call 154; refine (HLc.out _).mono ?_; rintro e w2 ⟨rfl, rfl⟩)
  obtain ⟨W2, hW2⟩ : ∃ W2, (((w.alloc (.cells #[.func (.func 129) #[] #[.pointer (some ⟨bb, 0, none⟩)]] 126)).alloc (.cells #[.int .i64 0] 3)).alloc (.cells #[.pointer (some ⟨L.p, 0, none⟩)] 143)).alloc (.cells #[.int .i64 (v : Int)] 3) = W2 := ⟨_, rfl⟩
  have hs2 : W2.heap.size = w.heap.size + 4 := by rw [← hW2]; simp
  have hb2 : Below w.heap.size w W2 := by rw [← hW2]; exact bnew (bnew (bnew (bnew (Below.refl _ _) _) _) _) _
  have bI : Boxed W2 w.heap.size 126 (.func (.func 129) #[] #[.pointer (some ⟨bb, 0, none⟩)]) := by rw [← hW2]; exact (((Boxed.new w _ _).alloc _).alloc _).alloc _
  have bN : Boxed W2 (w.heap.size + 1) 3 (.int .i64 0) := by
    rw [← hW2]
    have := ((Boxed.new (w.alloc (.cells #[.func (.func 129) #[] #[.pointer (some ⟨bb, 0, none⟩)]] 126)) 3 (.int .i64 0)).alloc (.cells #[.pointer (some ⟨L.p, 0, none⟩)] 143)).alloc (.cells #[.int .i64 (v : Int)] 3)
    simpa using this
  have bX : Boxed W2 (w.heap.size + 2) 143 (.pointer (some ⟨L.p, 0, none⟩)) := by
    rw [← hW2]
    have := (Boxed.new ((w.alloc (.cells #[.func (.func 129) #[] #[.pointer (some ⟨bb, 0, none⟩)]] 126)).alloc (.cells #[.int .i64 0] 3)) 143 (.pointer (some ⟨L.p, 0, none⟩))).alloc (.cells #[.int .i64 (v : Int)] 3)
    simpa using this
  have bV : Boxed W2 (w.heap.size + 3) 3 (.int .i64 v) := by
    rw [← hW2]
    have := Boxed.new (((w.alloc (.cells #[.func (.func 129) #[] #[.pointer (some ⟨bb, 0, none⟩)]] 126)).alloc (.cells #[.int .i64 0] 3)).alloc (.cells #[.pointer (some ⟨L.p, 0, none⟩)] 143)) 3 (.int .i64 v)
    simpa using this
  have hM2 := HM.out.below hb2
  obtain ⟨_, d1, _, _, _, _⟩ := hM2.cells
  simp only [World.size_alloc, Nat.add_assoc, Nat.reduceAdd]
  rw [hW2]
  clear hW2
  refine wpIn_rangeFunc_ownF rfl h1 (gf := 165) (lb := #[.pointer (some ⟨w.heap.size + 2, 0, none⟩), .pointer (some ⟨w.heap.size + 3, 0, none⟩)]) rfl trivial (enters_of Tryz.func165 (by kernel_rfl) rfl)
    (links_stops Go.Fence.wide (6 - 1) trivial rfl (by omega) (w.heap.size + 2) (w.heap.size + 3) L.p w.heap.size N v L.c L.oe es hok hv (by omega) W2 (by omega) bX.cell bV.cell d1 (EdgesBelow.below hb2 (hED.more hsz)))
    KpL.t (KpL.b (by omega) (by intro g hg; simp at hg; omega)) (Below.refl _ _) (fun _ => rfl)
    (fun pre W => (Boxed W (w.heap.size + 1) 3 (.int .i64 (jnS (fun u => f u) (lnkV pre))) ∧ Boxed W w.heap.size 126 (.func (.func 129) #[] #[.pointer (some ⟨bb, 0, none⟩)])) ∧ Below w.heap.size w W)
    (fun _ _ _ => False)
    (OwnFrom.and (OwnFrom.and (Own.from (boxed_own _ _ _) _) (Own.from (boxed_own _ _ _) _)) (ownFrom_below (Nat.le_refl _) (by omega)))
    (fun _ _ _ _ _ hs _ _ => hs)
    ⟨⟨bN, bI⟩, hb2⟩
    (fun p => { tmps := #[.pointer (some ⟨L.p, 0, none⟩), .int .i64 v, .func (.func 129) #[] #[.pointer (some ⟨bb, 0, none⟩)], undef, undef, .pointer (some ⟨w.heap.size, 0, none⟩), .int .i64 0, .pointer (some ⟨w.heap.size + 1, 0, none⟩), .int .i64 p.1.1, .int .i64 p.1.2, .pointer (some ⟨L.p, 0, none⟩), .int .i64 v, .func (.func 165) #[] #[.pointer (some ⟨w.heap.size + 2, 0, none⟩), .pointer (some ⟨w.heap.size + 3, 0, none⟩)], .int .i64 p.1.1, .int .i64 p.1.2, undef, undef, undef, undef, undef, undef, undef], defers := [] }) ?assign ?body ?done ?stop
  case assign =>
    intro l p W K hK
    simp only [lEnc]
    gi_wp2
    exact hK
  case body =>
    rintro l pre ⟨⟨u0, k⟩, u, e0, hu, hne, hk⟩ W ⟨⟨bN, bI⟩, hB⟩ hlt
    have e0 : u0 = u := e0
    subst e0
    have hJB := jnS_bound hok (v := v) (fun u => f u) (lnkV pre) (lnkV_ok pre)
    have hll := lnk_len es (v : Int)
    have hl5 : (lnkV pre).length = pre.length := by unfold lnkV; rw [List.length_map]
    have hes := hok.len
    obtain ⟨S, hS⟩ : ∃ S, S = jnS (fun u => f u) (lnkV pre) := ⟨_, rfl⟩
    rw [← hS] at hJB bN
    have HS := hide hS
    have cN := bN.cell
    have fN := bN.frozen
    have cI := bI.cell
    have HBB := hide (HBM.out.below hB)
    obtain ⟨b, hb⟩ : ∃ b, b = f u := ⟨_, rfl⟩
    have HI : Hid (Calls Tryz.prog 129 #[.int .i64 u, .pointer (some ⟨bb, 0, none⟩)] W fun e w' => e = .returned (.bool b) ∧ W = w') := by have := lend_is HBB.out hu; rw [← hb] at this; exact this
    have HBS : Hid (jnS (fun u => f u) (lnkV (pre ++ [⟨((u : Int), k), ⟨u, rfl, hu, hne, hk⟩⟩])) = S + if b = true then k else 0) := by
      show _ = _
      rw [lnkV_snoc, jnS_snoc, hS]
      simp only [Int.toNat_natCast, ← hb]
    simp only at hk
    have HBW := hide hB
    have hN1 : 1 ≤ 6 - 1 - 1 := by omega
    clear hb hS hB
    rcases b with _ | _
    · simp only [Bool.false_eq_true, if_false, Int.add_zero] at HBS
      gi_wp2_with (refine ⟨trivial, ?_⟩; gi_at_call 129; refine (CallsIn.inRound l (callsIn_wide.2 HI.out)).mono ?_; rintro e w5 ⟨rfl, rfl⟩)
      exact ⟨KeepsOthers.refl _, KpL.refl _ _ _, ⟨by rw [HBS.out]; exact bN, bI⟩, HBW.out⟩
    · simp only [if_true] at HBS
      gi_wp2_with (refine ⟨trivial, ?_⟩; gi_at_call 129; refine (CallsIn.inRound l (callsIn_wide.2 HI.out)).mono ?_; rintro e w5 ⟨rfl, rfl⟩)
      exact ⟨KeepsOthers.setCell _ _ _, ⟨(Below.refl _ _).setCell (by simp) _, fun g hg => Below.heap_setCell _ _ _ g (by simp at hg; simp; omega)⟩, ⟨by rw [HBS.out]; exact bN.set _, bI.other (by omega) _⟩, HBW.out.setCell (p := ⟨w.heap.size + 1, 0, none⟩) (by simp) _⟩
  case done =>
    rintro D ys W hD hys ⟨⟨bN, bI⟩, hB⟩ hK
    rw [hys] at bN
    have cN := bN.cell
    obtain ⟨S, hS⟩ : ∃ S, S = jnS (fun u => f u) (lnkL es v) := ⟨_, rfl⟩
    rw [← hS] at cN
    have HS := hide hS
    clear hS bN
    gi_wp2
    refine ⟨by simp, .inl ⟨_, _, rfl, run_takeDeferred hK, ?_⟩⟩
    exact ⟨_, results_tmp rfl _ _ _, by rw [HS.out]; rfl, hB.trans (belowK_b (w := w) (Nat.le_refl _) W D _ _ (by omega) hK rfl rfl)⟩
  case stop =>
    rintro D c pre W _ _ h _
    exact h.elim

theorem setl_is {N bb gb : Nat} {f : Nat → Bool} {W : World} (h : BMem N bb gb f W) {u : Nat} (hu : u < N) : Calls Tryz.prog 131 #[.int .i64 u, .pointer (some ⟨bb, 0, none⟩)] W fun e w' => e = .returned (.bool (!f u)) ∧ W = w' := by
  have d0 := h.box.cell 0
  have c0 := h.at hu
  simp only [List.getElem?_cons_zero] at d0
  have h0 : (0 : Int) ≤ u := by omega
  have h1 : (u : Int) < N := by omega
  clear h
  generalize f u = b at *
  go_enter Tryz.func131, Tryz.ntmps131
  go_wp2_with fail
  go_ret
  exact ⟨rfl, rfl⟩
set_option maxRecDepth 100000 in
set_option maxHeartbeats 4000000 in
theorem setl_joins {B N q : Nat} {es : List Edg} {L : RLay} {x : RSt} {w : World} {bb gb : Nat} {f : Nat → Bool} (hM : RMem B N q es L x w) (hB : BMem N bb gb f w) {v : Nat} (hv : v < N) :
    Calls Tryz.prog 128 #[.pointer (some ⟨L.p, 0, none⟩), .int .i64 v, .func (.func 131) #[] #[.pointer (some ⟨bb, 0, none⟩)]] w fun e w' => e = .returned (.int .i64 (jnS (fun u => !f u) (lnkL es v))) ∧ Below w.heap.size w w' := by
  refine (callsIn_wide (n := 6)).1 ?_
  have h1 : 1 ≤ 6 := by omega
  have hsz := hM.size
  have hok := hM.ok
  obtain ⟨_, d1, _, _, _, _⟩ := hM.cells
  have h12 := hM.num.1
  have HL := hide (fun W => links_any L.p (v : Int) W)
  have HM := hide hM
  have HBM := hide hB
  have hED := hM.edg
  clear hM hB
  refine callsIn_of_wp_marks Tryz.func128 rfl trivial ?_ rfl
  simp only [Tryz.ntmps128, List.size_toArray, List.length_cons, List.length_nil, Nat.reduceAdd, Nat.reduceSub, Array.replicate_succ, Array.replicate_zero, List.push_toArray, List.append_toArray, List.nil_append, List.cons_append]
  have HLc : Hid (∀ W, CallsIn Go.Fence.wide (6 - 1) Tryz.prog 154 #[.pointer (some ⟨L.p, 0, none⟩), .int .i64 v] W fun e w' => e = .returned (.func (.func 165) #[] #[.pointer (some ⟨W.heap.size, 0, none⟩), .pointer (some ⟨W.heap.size + 1, 0, none⟩)]) ∧ w' = (W.alloc (.cells #[.pointer (some ⟨L.p, 0, none⟩)] 143)).alloc (.cells #[.int .i64 v] 3)) := fun W => callsIn_wide.2 (HL.out W)
  have hf1 : Go.Fence.wide.fn 154 := trivial
  clear d1
  gi_wp2_with (gi_at_call 154; refine (HLc.out _).mono ?_; rintro e w2 ⟨rfl, rfl⟩)
  obtain ⟨W2, hW2⟩ : ∃ W2, (((w.alloc (.cells #[.func (.func 131) #[] #[.pointer (some ⟨bb, 0, none⟩)]] 126)).alloc (.cells #[.int .i64 0] 3)).alloc (.cells #[.pointer (some ⟨L.p, 0, none⟩)] 143)).alloc (.cells #[.int .i64 (v : Int)] 3) = W2 := ⟨_, rfl⟩
  have hs2 : W2.heap.size = w.heap.size + 4 := by rw [← hW2]; simp
  have hb2 : Below w.heap.size w W2 := by rw [← hW2]; exact bnew (bnew (bnew (bnew (Below.refl _ _) _) _) _) _
  have bI : Boxed W2 w.heap.size 126 (.func (.func 131) #[] #[.pointer (some ⟨bb, 0, none⟩)]) := by rw [← hW2]; exact (((Boxed.new w _ _).alloc _).alloc _).alloc _
  have bN : Boxed W2 (w.heap.size + 1) 3 (.int .i64 0) := by
    rw [← hW2]
    have := ((Boxed.new (w.alloc (.cells #[.func (.func 131) #[] #[.pointer (some ⟨bb, 0, none⟩)]] 126)) 3 (.int .i64 0)).alloc (.cells #[.pointer (some ⟨L.p, 0, none⟩)] 143)).alloc (.cells #[.int .i64 (v : Int)] 3)
    simpa using this
  have bX : Boxed W2 (w.heap.size + 2) 143 (.pointer (some ⟨L.p, 0, none⟩)) := by
    rw [← hW2]
    have := (Boxed.new ((w.alloc (.cells #[.func (.func 131) #[] #[.pointer (some ⟨bb, 0, none⟩)]] 126)).alloc (.cells #[.int .i64 0] 3)) 143 (.pointer (some ⟨L.p, 0, none⟩))).alloc (.cells #[.int .i64 (v : Int)] 3)
    simpa using this
  have bV : Boxed W2 (w.heap.size + 3) 3 (.int .i64 v) := by
    rw [← hW2]
    have := Boxed.new (((w.alloc (.cells #[.func (.func 131) #[] #[.pointer (some ⟨bb, 0, none⟩)]] 126)).alloc (.cells #[.int .i64 0] 3)).alloc (.cells #[.pointer (some ⟨L.p, 0, none⟩)] 143)) 3 (.int .i64 v)
    simpa using this
  have hM2 := HM.out.below hb2
  obtain ⟨_, d1, _, _, _, _⟩ := hM2.cells
  simp only [World.size_alloc, Nat.add_assoc, Nat.reduceAdd]
  rw [hW2]
  clear hW2
  refine wpIn_rangeFunc_ownF rfl h1 (gf := 165) (lb := #[.pointer (some ⟨w.heap.size + 2, 0, none⟩), .pointer (some ⟨w.heap.size + 3, 0, none⟩)]) rfl trivial (enters_of Tryz.func165 (by kernel_rfl) rfl)
    (links_stops Go.Fence.wide (6 - 1) trivial rfl (by omega) (w.heap.size + 2) (w.heap.size + 3) L.p w.heap.size N v L.c L.oe es hok hv (by omega) W2 (by omega) bX.cell bV.cell d1 (EdgesBelow.below hb2 (hED.more hsz)))
    KpL.t (KpL.b (by omega) (by intro g hg; simp at hg; omega)) (Below.refl _ _) (fun _ => rfl)
    (fun pre W => (Boxed W (w.heap.size + 1) 3 (.int .i64 (jnS (fun u => !f u) (lnkV pre))) ∧ Boxed W w.heap.size 126 (.func (.func 131) #[] #[.pointer (some ⟨bb, 0, none⟩)])) ∧ Below w.heap.size w W)
    (fun _ _ _ => False)
    (OwnFrom.and (OwnFrom.and (Own.from (boxed_own _ _ _) _) (Own.from (boxed_own _ _ _) _)) (ownFrom_below (Nat.le_refl _) (by omega)))
    (fun _ _ _ _ _ hs _ _ => hs)
    ⟨⟨bN, bI⟩, hb2⟩
    (fun p => { tmps := #[.pointer (some ⟨L.p, 0, none⟩), .int .i64 v, .func (.func 131) #[] #[.pointer (some ⟨bb, 0, none⟩)], undef, undef, .pointer (some ⟨w.heap.size, 0, none⟩), .int .i64 0, .pointer (some ⟨w.heap.size + 1, 0, none⟩), .int .i64 p.1.1, .int .i64 p.1.2, .pointer (some ⟨L.p, 0, none⟩), .int .i64 v, .func (.func 165) #[] #[.pointer (some ⟨w.heap.size + 2, 0, none⟩), .pointer (some ⟨w.heap.size + 3, 0, none⟩)], .int .i64 p.1.1, .int .i64 p.1.2, undef, undef, undef, undef, undef, undef, undef], defers := [] }) ?assign ?body ?done ?stop
  case assign =>
    intro l p W K hK
    simp only [lEnc]
    gi_wp2
    exact hK
  case body =>
    rintro l pre ⟨⟨u0, k⟩, u, e0, hu, hne, hk⟩ W ⟨⟨bN, bI⟩, hB⟩ hlt
    have e0 : u0 = u := e0
    subst e0
    have hJB := jnS_bound hok (v := v) (fun u => !f u) (lnkV pre) (lnkV_ok pre)
    have hll := lnk_len es (v : Int)
    have hl5 : (lnkV pre).length = pre.length := by unfold lnkV; rw [List.length_map]
    have hes := hok.len
    obtain ⟨S, hS⟩ : ∃ S, S = jnS (fun u => !f u) (lnkV pre) := ⟨_, rfl⟩
    rw [← hS] at hJB bN
    have HS := hide hS
    have cN := bN.cell
    have fN := bN.frozen
    have cI := bI.cell
    have HBB := hide (HBM.out.below hB)
    obtain ⟨b, hb⟩ : ∃ b, b = !f u := ⟨_, rfl⟩
    have HI : Hid (Calls Tryz.prog 131 #[.int .i64 u, .pointer (some ⟨bb, 0, none⟩)] W fun e w' => e = .returned (.bool b) ∧ W = w') := by have := setl_is HBB.out hu; rw [← hb] at this; exact this
    have HBS : Hid (jnS (fun u => !f u) (lnkV (pre ++ [⟨((u : Int), k), ⟨u, rfl, hu, hne, hk⟩⟩])) = S + if b = true then k else 0) := by
      show _ = _
      rw [lnkV_snoc, jnS_snoc, hS]
      simp only [Int.toNat_natCast, ← hb]
    simp only at hk
    have HBW := hide hB
    have hN1 : 1 ≤ 6 - 1 - 1 := by omega
    clear hb hS hB
    rcases b with _ | _
    · simp only [Bool.false_eq_true, if_false, Int.add_zero] at HBS
      gi_wp2_with (refine ⟨trivial, ?_⟩; gi_at_call 131; refine (CallsIn.inRound l (callsIn_wide.2 HI.out)).mono ?_; rintro e w5 ⟨rfl, rfl⟩)
      exact ⟨KeepsOthers.refl _, KpL.refl _ _ _, ⟨by rw [HBS.out]; exact bN, bI⟩, HBW.out⟩
    · simp only [if_true] at HBS
      gi_wp2_with (refine ⟨trivial, ?_⟩; gi_at_call 131; refine (CallsIn.inRound l (callsIn_wide.2 HI.out)).mono ?_; rintro e w5 ⟨rfl, rfl⟩)
      exact ⟨KeepsOthers.setCell _ _ _, ⟨(Below.refl _ _).setCell (by simp) _, fun g hg => Below.heap_setCell _ _ _ g (by simp at hg; simp; omega)⟩, ⟨by rw [HBS.out]; exact bN.set _, bI.other (by omega) _⟩, HBW.out.setCell (p := ⟨w.heap.size + 1, 0, none⟩) (by simp) _⟩
  case done =>
    rintro D ys W hD hys ⟨⟨bN, bI⟩, hB⟩ hK
    rw [hys] at bN
    have cN := bN.cell
    obtain ⟨S, hS⟩ : ∃ S, S = jnS (fun u => !f u) (lnkL es v) := ⟨_, rfl⟩
    rw [← hS] at cN
    have HS := hide hS
    clear hS bN
    gi_wp2
    refine ⟨by simp, .inl ⟨_, _, rfl, run_takeDeferred hK, ?_⟩⟩
    exact ⟨_, results_tmp rfl _ _ _, by rw [HS.out]; rfl, hB.trans (belowK_b (w := w) (Nat.le_refl _) W D _ _ (by omega) hK rfl rfl)⟩
  case stop =>
    rintro D c pre W _ _ h _
    exact h.elim
end Go.Proofs.YtpgopmmobbemcaaGreat

set_option linter.unusedVariables false
set_option linter.unusedSimpArgs false
namespace Go.Proofs.YtpgopmmobbemcaaGreat
open Go.RowKit

section
variable {n q : Nat} {R : Nat → Nat → Int} {d : Nat → Int} {f : Nat → Bool}
/-- Burnt: q, and who cannot be in a set that can fire. -/
structure Burn (n q : Nat) (R : Nat → Nat → Int) (d : Nat → Int) (f : Nat → Bool) : Prop where
  q1 : f q = true
  out : ∀ T : Nat → Bool, T q = false → (∀ v, v < n → T v = true → outD n R T v ≤ d v) → ∀ v, v < n → T v = true → f v = false
theorem Burn.begin_ : Burn n q R d (updW (fun _ => false) q true) where
  q1 := if_pos rfl
  out := fun T hq _ v hv hT => if_neg fun e => by rw [e, hq] at hT; cases hT
theorem Burn.step (hG : Gr n R) (h : Burn n q R d f) {v : Nat} (hv : v < n) (hd : d v < inD n R f v) : Burn n q R d (updW f v true) where
  q1 := by unfold updW; split; rfl; exact h.q1
  out := fun T hq hT u hu hTu => by
    by_cases e : u = v
    · subst e
      exfalso
      have h1 := hT u hu hTu
      have h2 : inD n R f u ≤ outD n R T u := sumI_le fun w hw => by
        rcases hTw : T w with _ | _
        · simp only [Bool.false_eq_true, if_false]
          split
          · exact Int.le_refl _
          · exact hG.nn u w hu hw
        · rw [h.out T hq hT w hw hTw]
          exact Int.le_refl _
      omega
    · unfold updW
      rw [if_neg e]
      exact h.out T hq hT u hu hTu
theorem out_not (v : Nat) : outD n R (fun u => !f u) v = inD n R f v := by
  unfold outD inD
  refine sumI_eq fun w _ => ?_
  show (if (!f w) = true then 0 else R v w) = if f w = true then R v w else 0
  cases f w <;> rfl
theorem Burn.unb (h : Burn n q R d f) (hd : ∀ v, v < n → f v = false → ¬ d v < inD n R f v) : Unb n q R d (fun v => !f v) where
  q0 := by rw [h.q1]; rfl
  ok := fun v hv hS => by
    rw [out_not]
    have := hd v hv (by simpa using hS)
    omega
  top := fun T hq hT v hv hTv => by rw [h.out T hq hT v hv hTv]; rfl
/-- How many are not burnt. -/
def unbN (n : Nat) (f : Nat → Bool) : Nat := sumN (fun v => if f v then 0 else 1) n
theorem unbN_le : ∀ n, unbN n f ≤ n
  | 0 => Nat.le_refl _
  | n + 1 => by
    have := unbN_le n
    unfold unbN at this ⊢
    simp only [sumN]
    split <;> omega
theorem unbN_step {v : Nat} (hv : v < n) (h : f v = false) : unbN n (updW f v true) + 1 = unbN n f := by
  unfold unbN
  have h1 := sumN_one (f := fun u => if f u then 0 else 1) (g := fun u => if updW f v true u then 0 else 1) hv (fun p hp hne => by simp [updW, hne])
  have e1 : (if f v = true then 0 else 1) = 1 := by rw [h]; rfl
  have e2 : (if updW f v true v = true then 0 else 1) = 0 := by simp [updW]
  simp only [e1, e2] at h1
  omega
end
theorem rbInfo : (Tryz.prog.info? 4).map (fun i => (i.zero, i.size, i.bytes)) = some (some (.bool false), 1, 1) := by kernel_rfl
theorem map_false (n : Nat) : List.replicate n false = (List.range n).map fun _ => false := by
  apply List.ext_getElem?
  intro j
  rw [List.getElem?_replicate, List.getElem?_map]
  by_cases h : j < n
  · rw [if_pos h, List.getElem?_range h]; rfl
  · rw [if_neg h, List.getElem?_eq_none (by simp; omega)]; rfl
def UnbPost (w : World) (N q : Nat) (es : List Edg) (d : Nat → Int) (e : Ending) (w' : World) : Prop :=
  ∃ gl S b, e = .returned (.tuple #[.slice (some ⟨gl, 0, none⟩) N N, .bool b]) ∧ Unb N q (linkE es) d S ∧ (b = true ↔ ∃ v, v < N ∧ S v = true) ∧ Row1 Value.bool w' gl 4 ((List.range N).map S) [] ∧ w.heap.size ≤ gl ∧ Below w.heap.size w w'

set_option maxRecDepth 100000 in
set_option maxHeartbeats 4000000 in
theorem unburnt_any {B N q : Nat} {es : List Edg} {L : RLay} {x : RSt} {w : World} (hM : RMem B N q es L x w) :
    Calls Tryz.prog 130 #[.pointer (some ⟨L.p, 0, none⟩)] w (UnbPost w N q es x.d) := by
  have h12 := hM.num.1
  have hqN := hM.num.2.1
  have hcd := hM.num.2.2
  have hok := hide hM.ok
  have hG : Hid (Gr N (linkE es)) := linkE_gr fun y hy => by have := (hok.out.at_ y hy).2; omega
  have HM := hide hM
  obtain ⟨d0, _, d2, _, _, _⟩ := hM.cells
  clear hM
  go_enter Tryz.func130, Tryz.ntmps130
  go_wp2_with (at_make; refine wpList_make_row _ rfl _ _ 139 rfl 4 false 1 Tryz.underlying139 rbInfo rfl .i64 .i64 _ _ N rfl rfl rfl rfl (by omega) (by unfold maxLen; omega) (fun w1 hrow hb1 hg1 => ?_))
  rw [map_false] at hrow
  obtain ⟨W2, hW2⟩ : ∃ W2, w1.alloc (.cells #[.slice (some ⟨w.heap.size, 0, none⟩) N N] 139) = W2 := ⟨_, rfl⟩
  have hlt1 := hrow.lt
  have hB2 : BMem N w1.heap.size w.heap.size (fun _ => false) W2 := by
    rw [← hW2]
    exact ⟨Box.new w1 [.slice (some ⟨w.heap.size, 0, none⟩) N N] 139, hrow.new _⟩
  have hb2 : Below w.heap.size w W2 := by rw [← hW2]; exact hb1.alloc hb1.size _
  rw [hW2]
  have hM2 := HM.out.below hb2
  obtain ⟨d0, _, d2, _, _, _⟩ := hM2.cells
  have b0 := hB2.box.cell 0
  have g0 := hB2.at hqN
  have f0 := hB2.row.free q
  simp only [List.getElem?_cons_zero] at b0
  have hq0 : (0 : Int) ≤ q := by omega
  have hq1 : (q : Int) < N := by omega
  have HB2 := hide hB2
  have HL2 := hide hb2
  clear hB2 hb2 hM2 hrow hb1 hg1 hW2
  go_region
  all_goals
    have hB3 : BMem N w1.heap.size w.heap.size (updW (fun _ => false) q true) (W2.drew.setCell ⟨w.heap.size, q, none⟩ (.bool true)) := (HB2.out.below (Below.refl _ _).drew).put hqN true
    have hL3 : Below w.heap.size w (W2.drew.setCell ⟨w.heap.size, q, none⟩ (.bool true)) := HL2.out.drew.setCell (by simp) _
    go_wp2_with fail
    go_loopg [6] (N + 1) (fun gk av wr => ∃ (ag : Bool) (f : Nat → Bool), av = .bool ag ∧ (ag = true → unbN N f < gk) ∧ Hid (Burn N q (linkE es) x.d f ∧ (ag = false → ∀ v, v < N → f v = false → ¬ x.d v < inD N (linkE es) f v)) ∧ Hid (BMem N w1.heap.size w.heap.size f wr) ∧ Hid (Below w.heap.size w wr))
    case atStart => exact ⟨true, _, rfl, fun _ => by have := unbN_le (f := updW (fun _ => false) q true) N; omega, ⟨Burn.begin_, fun h => by cases h⟩, hB3, hL3⟩
    case round =>
      obtain ⟨ag, f, rfl, hag, HU, HB, HL⟩ := hrel
      clear d0 d2 b0 g0 f0 hB3 hL3
      rcases ag with _ | _
      · have hUnb := hide (HU.out.1.unb (HU.out.2 rfl))
        clear hag
        have hMr := HM.out.below HL.out
        obtain ⟨d0, _, _, _, _, _⟩ := hMr.cells
        have b0 := HB.out.box.cell 0
        simp only [List.getElem?_cons_zero] at b0
        clear hMr
        go_wp2_with (at_make; refine wpList_make_row _ rfl _ _ 139 rfl 4 false 1 Tryz.underlying139 rbInfo rfl .i64 .i64 _ _ N rfl rfl rfl rfl (by omega) (by unfold maxLen; omega) (fun w3 hrow3 hb3 hg3 => ?_); have b0 := (hb3.cell (World.block_lt_of_cell? _ _ b0)).trans b0)
        rw [map_false] at hrow3
        have HB3 := hide (HB.out.below hb3)
        have HL3 := hide (below_then HL.out hb3)
        have HR3 := hide hrow3
        have hgl := HL.out.size
        have hl3 := hrow3.lt
        clear hb3 hg3 hrow3 b0 d0
        obtain ⟨wo, rfl⟩ : ∃ wo : World, wo = wr := ⟨_, rfl⟩
        obtain ⟨gl, hgle⟩ : ∃ gl, gl = wo.heap.size := ⟨_, rfl⟩
        rw [← hgle] at HR3 hl3 ⊢
        have HGL : Hid (w.heap.size ≤ gl) := by show _ ≤ _; omega
        have HNE : Hid (w.heap.size ≠ gl ∧ w1.heap.size ≠ gl) := by
          have h1 := HB.out.box.lt
          have h2 := HB.out.row.lt
          show _ ∧ _
          omega
        clear hgle
        go_loopg [9, 64] N (fun gm sv iv wx => ∃ (i : Nat) (sm : Bool), i ≤ N ∧ gm = N - i ∧ sv = .bool sm ∧ iv = .int .i64 i ∧ Hid (sm = true ↔ ∃ v, v < i ∧ f v = false) ∧ Hid (Row1 Value.bool wx gl 4 ((List.range N).map fun v => if v < i then !f v else false) []) ∧ Hid (BMem N w1.heap.size w.heap.size f wx) ∧ Hid (Below w.heap.size w wx))
        case atStart =>
          refine ⟨0, false, by omega, by omega, rfl, rfl, (show _ ↔ _ from ⟨fun h => Bool.noConfusion h, fun ⟨v, h, _⟩ => absurd h (Nat.not_lt_zero v)⟩), ?_, HB3, HL3⟩
          show Row1 _ _ _ _ _ _
          rw [show (fun v : Nat => if v < 0 then !f v else false) = fun _ => false from funext fun v => if_neg (Nat.not_lt_zero v)]
          exact HR3.out
        case round =>
          obtain ⟨i, sm, hi, hgm, rfl, rfl, HS, HR, HB', HL'⟩ := hrel
          have HGM := hide hgm
          clear hgm
          by_cases hlt : i < N
          · have b0 := HB'.out.box.cell 0
            have g0 := HB'.out.at hlt
            simp only [List.getElem?_cons_zero] at b0
            have fz := HR.out.free i
            have l1 : wr.cell? ⟨gl, i, none⟩ = some (.bool false) := HR.out.cell (i := i) (x := false) (by rw [List.getElem?_map, List.getElem?_range hlt]; simp)
            have hi0 : (0 : Int) ≤ i := by omega
            have hi1 : (i : Int) < N := by omega
            obtain ⟨b, hb⟩ : ∃ b, f i = b := ⟨_, rfl⟩
            rw [hb] at g0
            have hput := HR.out.put (i := i) (by simpa using hlt) (!b)
            rw [map_set] at hput
            have he : (fun u => if u = i then !b else if u < i then !f u else false) = fun v => if v < i + 1 then !f v else false := funext fun u => by
              by_cases e : u = i
              · subst e; rw [if_pos rfl, if_pos (by omega), hb]
              · rw [if_neg e]
                by_cases h : u < i
                · rw [if_pos h, if_pos (by omega)]
                · rw [if_neg h, if_neg (by omega)]
            rw [he] at hput
            obtain ⟨W5, hW5⟩ : ∃ W5, wr.setCell ⟨gl, i, none⟩ (.bool !b) = W5 := ⟨_, rfl⟩
            rw [hW5] at hput
            have l0 : W5.cell? ⟨gl, i, none⟩ = some (.bool !b) := by
              have := hput.cell (i := i) (x := !b) (by rw [List.getElem?_map, List.getElem?_range hlt]; simp [hb])
              exact this
            have hne : w.heap.size ≠ gl ∧ w1.heap.size ≠ gl := HNE.out
            have hBW5 : BMem N w1.heap.size w.heap.size f W5 := by
              rw [← hW5]
              exact ⟨HB'.out.box.other hne.2 _, HB'.out.row.other hne.1 _⟩
            have hL5 : Below w.heap.size w W5 := by rw [← hW5]; exact HL'.out.setCell HGL.out _
            have HB5 := hide hBW5
            have HL5 := hide hL5
            have HR5 := hide hput
            have HS2 : Hid ((sm || !b) = true ↔ ∃ v, v < i + 1 ∧ f v = false) := by
              show _ ↔ _
              constructor
              · intro h
                rcases Bool.or_eq_true_iff.1 h with h | h
                · obtain ⟨v, h1, h2⟩ := HS.out.1 h
                  exact ⟨v, by omega, h2⟩
                · exact ⟨i, by omega, by rw [hb]; simpa using h⟩
              · rintro ⟨v, h1, h2⟩
                by_cases e : v = i
                · rw [e, hb] at h2; rw [h2]; simp
                · rw [HS.out.2 ⟨v, by omega, h2⟩]; rfl
            clear hb he hput hBW5 hL5
            rcases sm with _ | _
            · rw [Bool.false_or] at HS2
              go_wp2_with fail
              go_roundg (N - (i + 1))
              case rel => exact ⟨i + 1, !b, by omega, rfl, by first | rfl | trivial, by go_num, HS2, HR5, HB5, HL5⟩
              case measure => rw [HGM.out]; omega
            · rw [Bool.true_or] at HS2
              go_wp2_with fail
              go_roundg (N - (i + 1))
              case rel => exact ⟨i + 1, true, by omega, rfl, by first | rfl | trivial, by go_num, (show _ ↔ _ from ⟨fun _ => HS2.out.1 (by trivial), fun _ => by trivial⟩), HR5, HB5, HL5⟩
              case measure => rw [HGM.out]; omega
          · have hie : i = N := by omega
            subst hie
            have HRE : Hid (Row1 Value.bool wr gl 4 ((List.range i).map fun v => !f v) []) := by
              have h1 := HR.out
              rw [show ((List.range i).map fun v => if v < i then !f v else false) = (List.range i).map fun v => !f v from List.map_congr_left fun v hv => if_pos (List.mem_range.1 hv)] at h1
              exact h1
            go_wp2_with fail
            go_ret2
            refine ⟨gl, _, sm, rfl, hUnb.out, ?_, HRE.out, HGL.out, HL'.out⟩
            rw [HS.out]
            constructor
            · rintro ⟨v, h1, h2⟩
              exact ⟨v, h1, by simp [h2]⟩
            · rintro ⟨v, h1, h2⟩
              exact ⟨v, h1, by simpa using h2⟩
      · have hag := hag rfl
        have hMr := HM.out.below HL.out
        obtain ⟨d0, _, _, _, _, _⟩ := hMr.cells
        clear hMr
        obtain ⟨g0, hg0⟩ : ∃ g0, g0 = gk := ⟨_, rfl⟩
        have hag : unbN N f < g0 := by rw [hg0]; exact hag
        have HG0 := hide hg0
        clear hg0
        go_wp2_with fail
        obtain ⟨wo, rfl⟩ : ∃ wo : World, wo = wr := ⟨_, rfl⟩
        go_loopg [6, 30] N (fun gm av iv wx => ∃ (i : Nat) (ag' : Bool) (f' : Nat → Bool), i ≤ N ∧ gm = N - i ∧ av = .bool ag' ∧ iv = .int .i64 i ∧ Hid (Burn N q (linkE es) x.d f' ∧ (ag' = false → f' = f ∧ ∀ v, v < i → f v = false → ¬ x.d v < inD N (linkE es) f v) ∧ (ag' = true → unbN N f' + 1 ≤ unbN N f)) ∧ Hid (BMem N w1.heap.size w.heap.size f' wx) ∧ Hid (Below w.heap.size w wx))
        case atStart => exact ⟨0, false, f, by omega, by omega, rfl, rfl, ⟨HU.out.1, fun _ => ⟨rfl, fun v hv => by omega⟩, fun h => by cases h⟩, HB, HL⟩
        case round =>
          clear d0
          obtain ⟨i, ag', f', hi, hgm, rfl, rfl, HU', HB', HL'⟩ := hrel
          have HGM := hide hgm
          clear hgm
          by_cases hlt : i < N
          · have hMr := HM.out.below HL'.out
            obtain ⟨_, _, _, d3, _, _⟩ := hMr.cells
            have e0 := hMr.dAt hlt
            have b0 := HB'.out.box.cell 0
            have g0 := HB'.out.at hlt
            have fz := HB'.out.row.free i
            simp only [List.getElem?_cons_zero] at b0
            have hi0 : (0 : Int) ≤ i := by omega
            have hi1 : (i : Int) < N := by omega
            have HMr := hide hMr
            clear hMr
            by_cases hf : f' i = true
            · have HU2 : Hid (Burn N q (linkE es) x.d f' ∧ (ag' = false → f' = f ∧ ∀ v, v < i + 1 → f v = false → ¬ x.d v < inD N (linkE es) f v) ∧ (ag' = true → unbN N f' + 1 ≤ unbN N f)) := by
                refine ⟨HU'.out.1, fun h => ⟨(HU'.out.2.1 h).1, fun v hv hfv => ?_⟩, HU'.out.2.2⟩
                by_cases e : v = i
                · rw [e, ← (HU'.out.2.1 h).1, hf] at hfv
                  cases hfv
                · exact (HU'.out.2.1 h).2 v (by omega) hfv
              rw [hf] at g0
              clear hf e0 d3 fz
              go_wp2_with fail
              go_quiet (fail)
              go_wp2_with fail
              go_roundg (N - (i + 1))
              case rel => exact ⟨i + 1, ag', f', by omega, rfl, by first | rfl | trivial, by go_num, HU2, HB'.out.below (below_drewN (Below.refl _ _) _), below_drewN HL'.out _⟩
              case measure => rw [HGM.out]; omega
            · have hf : f' i = false := by simpa using hf
              have HJ : Hid (∀ W, Below wr.heap.size wr W → Calls Tryz.prog 128 #[.pointer (some ⟨L.p, 0, none⟩), .int .i64 i, .func (.func 155) #[] #[.pointer (some ⟨w1.heap.size, 0, none⟩)]] W fun e w' => e = .returned (.int .i64 (inD N (linkE es) f' i)) ∧ Below W.heap.size W w') := fun W hW => by
                have := unb_joins (HMr.out.below hW) (HB'.out.below hW) hlt
                rw [jn_inD _ _ fun y hy => (hok.out.at_ y hy).1] at this
                exact this
              have hjb : 0 ≤ inD N (linkE es) f' i ∧ inD N (linkE es) f' i ≤ 50000 := by
                rw [← jn_inD (fun u => f' u) i fun y hy => (hok.out.at_ y hy).1]
                have h1 := jnS_bound hok.out (v := i) (fun u => f' u) (lnkL es i) (fun p hp => by obtain ⟨u, _, _, _, h⟩ := lnk_in hok.out hp; exact h)
                have h2 := lnk_len es (i : Int)
                have h3 := hok.out.len
                omega
              have HST : Hid (x.d i < inD N (linkE es) f' i → (Burn N q (linkE es) x.d (updW f' i true) ∧ (true = false → updW f' i true = f ∧ ∀ v, v < i + 1 → f v = false → ¬ x.d v < inD N (linkE es) f v) ∧ (true = true → unbN N (updW f' i true) + 1 ≤ unbN N f))) := fun hd => by
                refine ⟨HU'.out.1.step hG.out hlt hd, ⟨fun h => Bool.noConfusion h, fun _ => ?_⟩⟩
                have h1 := unbN_step hlt hf
                cases ag' with
                | true => have := HU'.out.2.2 rfl; omega
                | false => rw [← (HU'.out.2.1 rfl).1]; omega
              have HKP : Hid (¬ x.d i < inD N (linkE es) f' i → (Burn N q (linkE es) x.d f' ∧ (ag' = false → f' = f ∧ ∀ v, v < i + 1 → f v = false → ¬ x.d v < inD N (linkE es) f v) ∧ (ag' = true → unbN N f' + 1 ≤ unbN N f))) := fun hd => by
                refine ⟨HU'.out.1, fun h => ⟨(HU'.out.2.1 h).1, fun v hv hfv => ?_⟩, HU'.out.2.2⟩
                by_cases e : v = i
                · rw [e, ← (HU'.out.2.1 h).1]; exact hd
                · exact (HU'.out.2.1 h).2 v (by omega) hfv
              rw [hf] at g0
              clear hf
              generalize inD N (linkE es) f' i = J at *
              generalize hdi : x.d i = D at *
              clear hdi
              by_cases hd : D < J
              · have q1 : decide (D < J) = true := by simpa using hd
                have HU2 := hide (HST.out hd)
                clear hd HST HKP
                go_wp2_with fail
                go_region_held3 (fun w' => w'.cell? ⟨w1.heap.size, 0, none⟩ = some (.slice (some ⟨w.heap.size, 0, none⟩) N N) ∧ w'.cell? ⟨w.heap.size, i, none⟩ = some (.bool false) ∧ w'.cell? ⟨L.p, 3, none⟩ = some (.slice (some ⟨L.gd, 0, none⟩) N L.cd) ∧ w'.cell? ⟨L.gd, i, none⟩ = some (.int .i64 D)) (first | exact ⟨b0, g0, d3, e0⟩) (first
                  | (go_at_call 128; refine (HJ.out _ (Below.refl _ _)).mono ?_; rintro e w5 ⟨rfl, h5⟩; have b0 := (h5.cell (World.block_lt_of_cell? _ _ b0)).trans b0; have g0 := (h5.cell (World.block_lt_of_cell? _ _ g0)).trans g0; have d3 := (h5.cell (World.block_lt_of_cell? _ _ d3)).trans d3; have e0 := (h5.cell (World.block_lt_of_cell? _ _ e0)).trans e0; have HB5 := hide (HB'.out.below h5); have HL5 := hide (below_then HL'.out h5); have fz := HB5.out.row.free i)
                  | (go_at_call 128; refine (HJ.out _ (Below.refl _ _).drew).mono ?_; rintro e w5 ⟨rfl, h5⟩; have b0 := (h5.cell (World.block_lt_of_cell? _ _ b0)).trans b0; have g0 := (h5.cell (World.block_lt_of_cell? _ _ g0)).trans g0; have d3 := (h5.cell (World.block_lt_of_cell? _ _ d3)).trans d3; have e0 := (h5.cell (World.block_lt_of_cell? _ _ e0)).trans e0; have HB5 := hide (HB'.out.below ((Below.refl _ _).drew.trans h5)); have HL5 := hide (below_then HL'.out ((Below.refl _ _).drew.trans h5)); have fz := HB5.out.row.free i))
                all_goals
                  go_wp2_with fail
                  go_roundg (N - (i + 1))
                  case rel =>
                    have hlow : w.heap.size ≤ w.heap.size := Nat.le_refl _
                    exact ⟨i + 1, true, updW f' i true, by omega, rfl, by first | rfl | trivial, by go_num, ⟨HU2.out.1, HU2.out.2.1, fun _ => HU2.out.2.2 (by trivial)⟩, by first | exact HB5.out.put hlt true | exact (HB5.out.below (Below.refl _ _).drew).put hlt true, by first | exact HL5.out.setCell hlow _ | exact HL5.out.drew.setCell hlow _⟩
                  case measure => rw [HGM.out]; omega
              · have q1 : decide (D < J) = false := by simpa using hd
                have HU2 := hide (HKP.out hd)
                clear hd HST HKP
                go_wp2_with fail
                go_region_held3 (fun w' => w'.cell? ⟨w1.heap.size, 0, none⟩ = some (.slice (some ⟨w.heap.size, 0, none⟩) N N) ∧ w'.cell? ⟨w.heap.size, i, none⟩ = some (.bool false) ∧ w'.cell? ⟨L.p, 3, none⟩ = some (.slice (some ⟨L.gd, 0, none⟩) N L.cd) ∧ w'.cell? ⟨L.gd, i, none⟩ = some (.int .i64 D)) (first | exact ⟨b0, g0, d3, e0⟩) (first
                  | (go_at_call 128; refine (HJ.out _ (Below.refl _ _)).mono ?_; rintro e w5 ⟨rfl, h5⟩; have b0 := (h5.cell (World.block_lt_of_cell? _ _ b0)).trans b0; have g0 := (h5.cell (World.block_lt_of_cell? _ _ g0)).trans g0; have d3 := (h5.cell (World.block_lt_of_cell? _ _ d3)).trans d3; have e0 := (h5.cell (World.block_lt_of_cell? _ _ e0)).trans e0; have HB5 := hide (HB'.out.below h5); have HL5 := hide (below_then HL'.out h5); have fz := HB5.out.row.free i)
                  | (go_at_call 128; refine (HJ.out _ (Below.refl _ _).drew).mono ?_; rintro e w5 ⟨rfl, h5⟩; have b0 := (h5.cell (World.block_lt_of_cell? _ _ b0)).trans b0; have g0 := (h5.cell (World.block_lt_of_cell? _ _ g0)).trans g0; have d3 := (h5.cell (World.block_lt_of_cell? _ _ d3)).trans d3; have e0 := (h5.cell (World.block_lt_of_cell? _ _ e0)).trans e0; have HB5 := hide (HB'.out.below ((Below.refl _ _).drew.trans h5)); have HL5 := hide (below_then HL'.out ((Below.refl _ _).drew.trans h5)); have fz := HB5.out.row.free i))
                all_goals
                  go_wp2_with fail
                  go_roundg (N - (i + 1))
                  case rel =>
                    exact ⟨i + 1, ag', f', by omega, rfl, by first | rfl | trivial, by go_num, HU2, by first | exact HB5.out | exact (HB5.out.below (Below.refl _ _).drew), by first | exact HL5.out | exact HL5.out.drew⟩
                  case measure => rw [HGM.out]; omega
          · have hie : i = N := by omega
            have HU2 : Hid (Burn N q (linkE es) x.d f' ∧ (ag' = false → ∀ v, v < N → f' v = false → ¬ x.d v < inD N (linkE es) f' v)) := ⟨HU'.out.1, fun h => by
              have h1 := HU'.out.2.1 h
              rw [hie] at h1
              rw [h1.1]
              exact h1.2⟩
            have HU3 : Hid (ag' = true → unbN N f' < g0 - 1) := fun h => by have := HU'.out.2.2 h; omega
            have hgk : 1 ≤ g0 := by omega
            clear hie
            go_wp2_with fail
            go_roundg (g0 - 1)
            case rel => exact ⟨ag', f', by first | rfl | trivial, HU3.out, HU2, HB', HL'⟩
            case measure => rw [← HG0.out]; omega
end Go.Proofs.YtpgopmmobbemcaaGreat

set_option linter.unusedVariables false
namespace Go.Proofs.YtpgopmmobbemcaaGreat
open Go.RowKit

/-- The marks of ranges that are over. -/
def Marks (B : Nat) (ds : List Deferred) (w : World) : Prop := ∃ Ds : List Nat, ds = Ds.map (fun D => ({ target := .collected D, args := #[] } : Deferred)) ∧ Ds.Nodup ∧ ∀ D ∈ Ds, B ≤ D ∧ w.heap[D]? = some (.deferred (some []))
theorem Marks.nil (B : Nat) (w : World) : Marks B [] w := ⟨[], rfl, List.nodup_nil, fun _ h => by cases h⟩
theorem Marks.cons {B D : Nat} {ds : List Deferred} {w w' : World} (h : Marks B ds w) (hb : ∀ k, B ≤ k → k < w.heap.size → w'.heap[k]? = w.heap[k]?) (hD : w.heap.size ≤ D) (hB : B ≤ w.heap.size) (hk : w'.heap[D]? = some (.deferred (some []))) : Marks B ({ target := .collected D, args := #[] } :: ds) w' := by
  obtain ⟨Ds, rfl, h1, h2⟩ := h
  have hl : ∀ D' ∈ Ds, D' < w.heap.size := fun D' hD' => (Array.getElem?_eq_some_iff.1 (h2 D' hD').2).1
  refine ⟨D :: Ds, rfl, List.nodup_cons.2 ⟨fun hm => ?_, h1⟩, fun D' hD' => ?_⟩
  · have := hl D hm; omega
  · rcases List.mem_cons.1 hD' with rfl | hm
    · exact ⟨by omega, hk⟩
    · exact ⟨(h2 D' hm).1, (hb D' (h2 D' hm).1 (hl D' hm)).trans (h2 D' hm).2⟩
theorem Marks.keep {B : Nat} {ds : List Deferred} {w w' : World} (h : Marks B ds w) (hb : ∀ k, B ≤ k → w'.heap[k]? = w.heap[k]?) : Marks B ds w' := by
  obtain ⟨Ds, e, h1, h2⟩ := h
  exact ⟨Ds, e, h1, fun D' hD' => ⟨(h2 D' hD').1, (hb D' (h2 D' hD').1).trans (h2 D' hD').2⟩⟩
theorem Marks.below {B : Nat} {ds : List Deferred} {w w' : World} (h : Marks B ds w) (hb : Below w.heap.size w w') : Marks B ds w' := by
  obtain ⟨Ds, e, h1, h2⟩ := h
  exact ⟨Ds, e, h1, fun D' hD' => ⟨(h2 D' hD').1, (hb.block D' (Array.getElem?_eq_some_iff.1 (h2 D' hD').2).1).trans (h2 D' hD').2⟩⟩
/-- The function leaves over its marks. -/
theorem leaves_marks {F : Fence} {n : Nat} {P : Program} {fn : Func} {tmps : Array Value} {R : Ending → World → Prop} {B : Nat} : ∀ (Ds : List Nat) (w : World), Ds.Nodup → (∀ D ∈ Ds, B ≤ D ∧ w.heap[D]? = some (.deferred (some []))) →
    (∀ w' : World, Below B w w' → (∀ (k : Nat) (o : Obj), w.heap[k]? = some o → o.isCells = true → w'.heap[k]? = some o) → LeavesInM F n P fn tmps R [] .returning w') →
    LeavesInM F n P fn tmps R (Ds.map (fun D => ({ target := .collected D, args := #[] } : Deferred))) .returning w
  | [], w, _, _, hf => hf w (Below.refl _ _) fun _ _ h _ => h
  | D :: Ds, w, hn, hm, hf => by
    obtain ⟨h1, h2⟩ := List.nodup_cons.1 hn
    obtain ⟨hB, hD⟩ := hm D (List.mem_cons_self ..)
    refine ⟨by simp, .inl ⟨D, _, rfl, run_takeDeferred hD, ?_⟩⟩
    refine leaves_marks (B := B) Ds _ h2 (fun D' hD' => ?_) fun w' hb hc => hf w' ?_ fun k o hk ho => hc k o ?_ ho
    · have hne : D' ≠ D := fun e => h1 (e ▸ hD')
      exact ⟨(hm D' (List.mem_cons_of_mem _ hD')).1, (World.putObj_heap_other hne).trans (hm D' (List.mem_cons_of_mem _ hD')).2⟩
    · have h0 : Below B w (w.putObj D (.deferred none)) := ⟨rfl, rfl, rfl, by simp, fun k hk => World.putObj_heap_other (by omega)⟩
      exact h0.trans hb
    · refine (World.putObj_heap_other fun e => ?_).trans hk
      subst e
      rw [hD] at hk
      injection hk with hk
      subst hk
      cases ho

end Go.Proofs.YtpgopmmobbemcaaGreat

set_option linter.unusedVariables false
namespace Go.Proofs.YtpgopmmobbemcaaGreat
open Go.RowKit

section
variable {P : Program} {Q : Exit → Act → World → Prop} {r m : Nat}
theorem rows_round {row : String} {args : Array Value} {w : World} {R : Value → World → Prop} (h : Rows P row args w R) : RowsIn (Fence.wide.inRound r) m P row args w R := fun c cs _ => by
  obtain ⟨v, w', h1, h2⟩ := h c cs
  exact ⟨v, w', h1, stepsIn_wide.2 h2⟩
theorem op_round {o : Oper} {a : Act} {w : World} {K : Act → World → Prop} (hnd : ∀ c, o.op ≠ .defer c) (h : o.wp P a w K Q) : o.wpIn (Fence.wide.inRound r) m P a w K Q := by
  refine ⟨fun _ _ => trivial, ?_⟩
  rw [Oper.semAt_plain _ _ _ hnd]
  unfold Oper.wp at h
  have hd : (Fence.wide.inRound r).depth.isSome = true → 1 ≤ m := fun e => by cases e
  generalize (execOp a.eval o).run P w = z at h ⊢
  rcases z with ⟨x, w'⟩ | ⟨x, w'⟩
  · cases x with
    | value v => exact h
    | skip => exact h
    | defer d => exact h
    | enter f args =>
      exact ⟨hd, CallsIn.inRound r (callsIn_wide.2 h)⟩
    | row n args => exact ⟨hd, rows_round h⟩
    | _ => exact h.elim
  · cases x <;> first | exact h | exact h.elim
def noDefer (l : List Oper) : Bool := l.all fun o => match o.op with
  | .defer _ => false
  | _ => true
theorem noDefer_at {l : List Oper} (h : noDefer l = true) {j : Nat} {o : Oper} (ho : l.toArray[j]? = some o) : ∀ c, o.op ≠ .defer c := fun c hc => by
  have h1 := List.all_eq_true.1 h o (List.mem_of_getElem? (by simpa using ho))
  rw [hc] at h1
  cases h1
theorem any_round {l : List Oper} (hnd : noDefer l = true) (hout : ¬ LetsOut Q) {md : Region.Mode} : ∀ (fuel : Nat) (listed : Array Bool) (a : Act) (w : World), wpAny P md l.toArray Q fuel listed a w → wpAnyIn (Fence.wide.inRound r) m P md l.toArray Q fuel listed a w
  | 0, _, _, _, h => h
  | fuel + 1, listed, a, w, h => by
    refine ⟨h.1, fun i hi => ?_⟩
    have h1 := h.2 i hi
    unfold wpOp at h1
    unfold wpOpIn
    rcases ho : l.toArray[i]? with _ | o
    · rw [ho] at h1
      exact any_round hnd hout fuel _ _ _ h1
    · rw [ho] at h1
      simp only at h1 ⊢
      by_cases hw : Region.wanted o (yielded l.toArray a.tmps) = true
      · rw [if_pos hw] at h1 ⊢
        rcases h1 with h1 | h1
        · exact Oper.wpIn_mono (fun a w => any_round hnd hout fuel _ a w) (op_round (noDefer_at hnd ho) h1)
        · exact absurd h1.2 hout
      · rw [if_neg hw] at h1 ⊢
        exact ⟨fun _ _ => trivial, any_round hnd hout fuel _ _ _ h1⟩
/-- The operations but the last ones only read: walked once, in the order of the text. -/
theorem round_still {id : Nat} {a : Act} {w : World} {l : List Oper} (n : Nat) (hm : P.follows .mixedOrders = true) (hB : Region.lexTailB .any l.toArray n = true) (hnd : noDefer l = true) (hout : ¬ LetsOut Q)
    (h : wpStill P l.toArray w.drew (fun a' => wpList P l.toArray Q (l.drop n) a' w.drew) (l.take n) a) : (Code.region id l.toArray true).wpIn (Fence.wide.inRound r) m P Q a w := by
  refine wpIn_region_any hm (any_round hnd hout _ _ _ _ ?_)
  unfold Region.lexTailB at hB
  simp only [Bool.and_eq_true, decide_eq_true_eq] at hB
  have hn : n < l.length := by simpa using hB.1.1.1.2
  have e1 : (l.take n).length = n := by simp; omega
  have e2 : (l.drop n).length = l.length - n := List.length_drop
  have hI : HeadInv .any l.toArray n (Array.replicate l.toArray.size false) := ⟨by simp, fun _ _ _ hh => (by rw [getD_replicate_false] at hh; cases hh), fun t _ ht => getD_in (by simpa using ht) (getD_replicate_false _ _)⟩
  have hL := wpAnyL_lex (md := .any) (g := l.length - n) hB.1.1.1.1 hB.1.1.2 hB.1.2 (by simpa using hn) (l.take n) 0 (Array.replicate l.toArray.size false) a (fun j hj => by rw [e1] at hj; simp [hj]) (by simpa using e1) hI (by rw [e1]; simpa using hB.2) h
  have hT := wpAny_of_head (Q' := Q) (g := l.length - n) (fun listed a' hh => by
    have hs := wpAny_of_seq (md := .any) (Q' := Q) (l.drop n) n listed a' w.drew (fun j => by simp [List.getElem?_drop]) (by rw [e2]; exact hh.1) hh.2
    rw [e2] at hs
    exact hs) _ _ _ hL
  rw [e1, Nat.add_sub_cancel' (Nat.le_of_lt hn)] at hT
  simpa using hT
theorem list_round {ops : Array Oper} (hout : ¬ LetsOut Q) : ∀ (l : List Oper) (a : Act) (w : World), noDefer l = true → wpList P ops Q l a w → wpListIn (Fence.wide.inRound r) m P ops Q l a w
  | [], _, _, _, h => h
  | o :: rest, a, w, hnd, h => by
    have hn1 := noDefer_at hnd (j := 0) (o := o) (by simp)
    have hn2 : noDefer rest = true := by
      unfold noDefer at hnd ⊢
      rw [List.all_cons, Bool.and_eq_true] at hnd
      exact hnd.2
    unfold wpList at h
    unfold wpListIn
    by_cases hw : Region.wanted o (yielded ops a.tmps) = true
    · rw [if_pos hw] at h ⊢
      rcases h with h | h
      · exact Oper.wpIn_mono (fun a w => list_round hout rest a w hn2) (op_round hn1 h)
      · exact absurd h.2 hout
    · rw [if_neg hw] at h ⊢
      exact ⟨fun _ _ => trivial, list_round hout rest _ _ hn2 h⟩
/-- A region in the order of its text. -/
theorem round_list {id : Nat} {a : Act} {w : World} {l : List Oper} (hnd : noDefer l = true) (hout : ¬ LetsOut Q) (h : wpList P l.toArray Q l a w) : (Code.region id l.toArray false).wpIn (Fence.wide.inRound r) m P Q a w :=
  wpIn_region_lit (list_round hout l a w hnd h)
end
end Go.Proofs.YtpgopmmobbemcaaGreat

set_option linter.unusedVariables false
set_option linter.unusedSimpArgs false
namespace Go.Proofs.YtpgopmmobbemcaaGreat
open Go.RowKit

def linkStep (v : Nat) (t : Int) (d : Nat → Int) (p : Int × Int) : Nat → Int :=
  putF (putF d v (d v - p.2 * t)) p.1.toNat (putF d v (d v - p.2 * t) p.1.toNat + p.2 * t)
def linkAll (v : Nat) (t : Int) (d : Nat → Int) (l : List (Int × Int)) : Nat → Int := l.foldl (linkStep v t) d
theorem linkAll_snoc (v : Nat) (t : Int) (d : Nat → Int) (l : List (Int × Int)) (p : Int × Int) : linkAll v t d (l ++ [p]) = linkStep v t (linkAll v t d l) p := by unfold linkAll; rw [List.foldl_append]; rfl
theorem linkStep_at {v : Nat} {t : Int} {d : Nat → Int} {p : Int × Int} (h : p.1.toNat ≠ v) (w : Nat) : linkStep v t d p w = d w - (if w = v then t * p.2 else 0) + t * (if p.1.toNat = w then p.2 else 0) := by
  unfold linkStep
  have e : p.2 * t = t * p.2 := Int.mul_comm _ _
  by_cases h1 : w = p.1.toNat
  · subst h1
    rw [putF_at, putF_ne _ _ h, if_neg h, if_pos rfl, e]
    omega
  · have h1' : ¬ p.1.toNat = w := fun e => h1 e.symm
    rw [putF_ne _ _ h1, if_neg h1']
    by_cases h2 : w = v
    · subst h2
      rw [putF_at, if_pos rfl, e]
      omega
    · rw [putF_ne _ _ h2, if_neg h2]
      omega
theorem linkAll_at {v : Nat} {t : Int} (w : Nat) : ∀ (l : List (Int × Int)) (d : Nat → Int), (∀ p ∈ l, p.1.toNat ≠ v) → linkAll v t d l w = d w - (if w = v then t * jnS (fun _ => true) l else 0) + t * jnS (fun u => decide (u = w)) l
  | [], d, _ => by simp [linkAll, jnS]
  | p :: r, d, h => by
    have ih := linkAll_at (t := t) w r (linkStep v t d p) fun x hx => h x (by simp [hx])
    have e : linkAll v t d (p :: r) = linkAll v t (linkStep v t d p) r := rfl
    have e1 : jnS (fun _ => true) (p :: r) = p.2 + jnS (fun _ => true) r := by simp [jnS]
    have e2 : jnS (fun u => decide (u = w)) (p :: r) = (if p.1.toNat = w then p.2 else 0) + jnS (fun u => decide (u = w)) r := by simp [jnS]
    rw [e, ih, linkStep_at (h p (by simp)), e1, e2, Int.mul_add, Int.mul_add]
    split <;> omega
theorem linkStep_bound {v : Nat} {t : Int} {d : Nat → Int} {p : Int × Int} {b : Int} (h : p.1.toNat ≠ v) (hd : ∀ u, -b ≤ d u ∧ d u ≤ b) (ht : 0 ≤ t ∧ t ≤ 2097152) (hp : 1 ≤ p.2 ∧ p.2 ≤ 50) (u : Nat) : -(b + 104857600) ≤ linkStep v t d p u ∧ linkStep v t d p u ≤ b + 104857600 := by
  have h1 : 0 ≤ t * p.2 := Int.mul_nonneg ht.1 (by omega)
  have h2 : t * p.2 ≤ 2097152 * 50 := Int.le_trans (Int.mul_le_mul_of_nonneg_right ht.2 (by omega)) (Int.mul_le_mul_of_nonneg_left hp.2 (by omega))
  have h3 := hd u
  rw [linkStep_at h]
  by_cases e1 : u = v
  · rw [if_pos e1, if_neg (fun e2 => h (e2.trans e1))]
    omega
  · rw [if_neg e1]
    split
    · omega
    · omega
theorem linkAll_bound {N v : Nat} {t : Int} {d : Nat → Int} {b : Int} (ht : 0 ≤ t ∧ t ≤ 2097152) (hd : ∀ u, -b ≤ d u ∧ d u ≤ b) (l : List (LnkT N v)) : ∀ u, -(b + 104857600 * (l.length : Int)) ≤ linkAll v t d (lnkV l) u ∧ linkAll v t d (lnkV l) u ≤ b + 104857600 * (l.length : Int) := by
  have key : ∀ (r : List (LnkT N v)) (d : Nat → Int) (b : Int), (∀ u, -b ≤ d u ∧ d u ≤ b) → ∀ u, -(b + 104857600 * (r.length : Int)) ≤ linkAll v t d (lnkV r) u ∧ linkAll v t d (lnkV r) u ≤ b + 104857600 * (r.length : Int) := by
    intro r
    induction r with
    | nil => intro d b h u; have := h u; simp [linkAll, lnkV]; omega
    | cons p r ih =>
      intro d b h u
      obtain ⟨z, h1, h2, h3, h4⟩ := p.2
      have h5 := ih (linkStep v t d p.1) (b + 104857600) (linkStep_bound (by omega) h ht h4) u
      have e : linkAll v t d (lnkV (p :: r)) = linkAll v t (linkStep v t d p.1) (lnkV r) := rfl
      rw [e, List.length_cons]
      push_cast
      omega
  exact key l d b hd
/-- The chips when the first k vertices have been looked at. -/
def fireD (es : List Edg) (S : Nat → Bool) (t : Int) (d : Nat → Int) : Nat → Nat → Int
  | 0 => d
  | k + 1 => if S k then linkAll k t (fireD es S t d k) (lnkL es k) else fireD es S t d k
def fireS (S : Nat → Bool) (t : Int) (s : Nat → Int) (k : Nat) : Nat → Int := fun v => s v + if v < k ∧ S v = true then t else 0
section
variable {N : Nat} {es : List Edg} {S : Nat → Bool} {t : Int} {d : Nat → Int}
theorem fireD_at (h : EOk N es) {w : Nat} (hw : w < N) : ∀ k, k ≤ N → fireD es S t d k w = d w + sumI (fun v => if S v then t * linkE es w v - (if v = w then t * vlR N (linkE es) w else 0) else 0) k
  | 0, _ => by simp [fireD, sumI]
  | k + 1, hk => by
    have ih := fireD_at h hw k (by omega)
    have hGr : Gr N (linkE es) := linkE_gr fun y hy => by have := (h.at_ y hy).2; omega
    unfold fireD
    simp only [sumI]
    rcases hS : S k with _ | _
    · simp only [Bool.false_eq_true, if_false]
      rw [ih]
      omega
    · simp only [if_true]
      rw [linkAll_at w (lnkL es k) _ (fun p hp => by obtain ⟨u, h1, _, h2, _⟩ := lnk_in h hp; omega), ih]
      have hat := fun y hy => (h.at_ y hy).1
      rw [jn_inD (fun _ => true) k hat, jn_inD (fun u => decide (u = w)) k hat]
      have e1 : inD N (linkE es) (fun _ => true) k = vlR N (linkE es) k := by unfold inD vlR; exact sumI_eq fun u _ => if_pos rfl
      have e2 : inD N (linkE es) (fun u => decide (u = w)) k = linkE es w k := by
        unfold inD
        have h1 := sumI_one (f := fun u => if decide (u = w) then linkE es k u else 0) (g := fun _ => 0) hw (fun p hp hne => by simp [hne])
        rw [h1, sumI_zero, hGr.sym w k]
        simp
      rw [e1, e2]
      by_cases e : w = k
      · subst e
        rw [if_pos rfl]
        omega
      · rw [if_neg e, if_neg (fun e2 => e e2.symm)]
        omega
theorem fireN_all (h : EOk N es) {w : Nat} (hw : w < N) : fireD es S t d N w = d w + if S w then -(t * outD N (linkE es) S w) else t * inD N (linkE es) S w := by
  rw [fireD_at h hw N (Nat.le_refl _)]
  have hGr : Gr N (linkE es) := linkE_gr fun y hy => by have := (h.at_ y hy).2; omega
  have e1 : sumI (fun v => if S v then t * linkE es w v - (if v = w then t * vlR N (linkE es) w else 0) else 0) N = t * inD N (linkE es) S w + sumI (fun v => if v = w then (if S w then -(t * vlR N (linkE es) w) else 0) else 0) N := by
    unfold inD
    rw [← sumI_mul, ← sumI_add]
    refine sumI_eq fun v hv => ?_
    by_cases e : v = w
    · subst e
      cases S v <;> simp
      omega
    · simp only [e, if_false]
      cases S v <;> simp
  have e2 : sumI (fun v => if v = w then (if S w then -(t * vlR N (linkE es) w) else 0) else 0) N = if S w then -(t * vlR N (linkE es) w) else 0 := by
    have h1 := sumI_one (f := fun v => if v = w then (if S w then -(t * vlR N (linkE es) w) else 0) else 0) (g := fun _ => 0) hw (fun p hp hne => if_neg hne)
    rw [h1, sumI_zero, if_pos rfl]
    omega
  have e3 : vlR N (linkE es) w = inD N (linkE es) S w + outD N (linkE es) S w := by
    unfold vlR inD outD
    rw [← sumI_add]
    refine sumI_eq fun v _ => ?_
    cases S v <;> simp
  rw [e1, e2]
  rcases hS : S w with _ | _
  · simp
  · simp only [if_true]
    rw [e3, Int.mul_add]
    omega
theorem fire_app (h : EOk N es) {D s : Nat → Int} (hd : ∀ v, v < N → d v = app N (linkE es) D s v) {w : Nat} (hw : w < N) : fireD es S t d N w = app N (linkE es) D (fireF S t s) w := by
  rw [fireN_all h hw, app_fire, hd w hw]
theorem fireS_all {s : Nat → Int} {v : Nat} (hv : v < N) : fireS S t s N v = fireF S t s v := by
  unfold fireS fireF
  by_cases h : S v = true
  · rw [if_pos ⟨hv, h⟩, if_pos h]
  · rw [if_neg (fun hh => h hh.2), if_neg h]
theorem fireS_next (s : Nat → Int) (k : Nat) : fireS S t s (k + 1) = if S k then putF (fireS S t s k) k (fireS S t s k k + t) else fireS S t s k := by
  funext v
  rcases hS : S k with _ | _
  · simp only [Bool.false_eq_true, if_false]
    unfold fireS
    congr 1
    by_cases h : v < k ∧ S v = true
    · rw [if_pos h, if_pos ⟨by omega, h.2⟩]
    · rw [if_neg h, if_neg (fun hh => h ⟨by
        have : v ≠ k := fun e => by rw [e, hS] at hh; cases hh.2
        omega, hh.2⟩)]
  · simp only [if_true]
    by_cases e : v = k
    · subst e
      rw [putF_at]
      unfold fireS
      rw [if_pos ⟨by omega, hS⟩, if_neg (fun hh => by omega)]
      omega
    · rw [putF_ne _ _ e]
      unfold fireS
      congr 1
      by_cases h : v < k ∧ S v = true
      · rw [if_pos h, if_pos ⟨by omega, h.2⟩]
      · rw [if_neg h, if_neg (fun hh => h ⟨by omega, hh.2⟩)]
theorem fireS_zero (s : Nat → Int) : fireS S t s 0 = s := by
  funext v
  unfold fireS
  rw [if_neg (fun hh => by omega)]
  omega
end
end Go.Proofs.YtpgopmmobbemcaaGreat

set_option linter.unusedVariables false
set_option linter.unusedSimpArgs false
set_option linter.unnecessarySimpa false
namespace Go.Proofs.YtpgopmmobbemcaaGreat
open Go.RowKit Go.Shelf

attribute [local go_sem] Oper.semAt_some

/-- What firing leaves alone: all but the two rows. -/
def Fk (B : Nat) (L : RLay) (A W : World) : Prop := Below B A W ∧ ∀ k, k < A.heap.size → k ≠ L.gd → k ≠ L.gs → W.heap[k]? = A.heap[k]?
section
variable {B N q : Nat} {es : List Edg} {L : RLay} {x : RSt} {A W W' : World}
theorem Fk.refl (B : Nat) (L : RLay) (A : World) : Fk B L A A := ⟨Below.refl _ _, fun _ _ _ _ => rfl⟩
theorem Fk.trans (h : Fk B L A W) (k : Fk B L W W') : Fk B L A W' := ⟨h.1.trans k.1, fun j hj h1 h2 => (k.2 j (Nat.lt_of_lt_of_le hj h.1.size) h1 h2).trans (h.2 j hj h1 h2)⟩
theorem Fk.below (h : Fk B L A W) (hB : B ≤ W.heap.size) (k : Below W.heap.size W W') : Fk B L A W' := h.trans ⟨k.mono hB, fun j hj _ _ => k.block j hj⟩
theorem Fk.put (h : Fk B L A W) {g : Nat} (hg : g = L.gd ∨ g = L.gs) (hB : B ≤ g) (i : Nat) (z : Value) : Fk B L A (W.setCell ⟨g, i, none⟩ z) :=
  ⟨h.1.setCell hB _, fun j hj h1 h2 => (Below.heap_setCell W ⟨g, i, none⟩ z j (by rcases hg with e | e <;> (rw [e]; assumption))).trans (h.2 j hj h1 h2)⟩
theorem Fk.box {b : Nat} {cs : List Value} {t : TypeId} (h : Fk B L A W) (hb : Box A b cs t) (h1 : b ≠ L.gd) (h2 : b ≠ L.gs) : Box W b cs t := hb.keep (h.2 b hb.lt h1 h2)
/-- Within the links of a vertex: only the row of the chips changes. -/
def Fd (B g : Nat) (A W : World) : Prop := Below B A W ∧ ∀ k, k < A.heap.size → k ≠ g → W.heap[k]? = A.heap[k]?
theorem Fd.from {β : Type} {C g : Nat} {A : World} (hB : B ≤ A.heap.size) (hC : A.heap.size ≤ C) : OwnFrom C (fun (_ : β) W => Fd B g A W) := fun _ X Y row h hg hr => by
  refine ⟨ownFrom_below (β := Unit) hB (by omega) () X Y row h.1 hg hr, fun k h1 h2 => ?_⟩
  have h3 := h.2 k h1 h2
  have hl : k < X.heap.size := by
    rw [Array.getElem?_eq_getElem h1] at h3
    exact (Array.getElem?_eq_some_iff.1 h3).1
  rw [hg.block k hl (fun e => by have := (hr k e.symm).1; omega), h3]
theorem row1_own {β : Type} (g : Nat) (t : TypeId) (xs : β → List Int) (rest : List Value) : Own (fun s W => Row1 (Value.int .i64) W g t (xs s) rest) := fun s X Y row hs hg hr =>
  hs.keep (hg.block g hs.lt fun e => by
    obtain ⟨o, h1, h2⟩ := hr g e.symm
    have h3 := (show X.heap[g]? = _ from hs).symm.trans h1
    injection h3 with h3
    subst h3
    cases h2)
theorem RMem.fd (h : RMem B N q es L x A) (hF : Fd B L.gd A W) {d : Nat → Int} (hr : Row1 (Value.int .i64) W L.gd 3 (lst N d) L.rest) : RMem B N q es L { x with d := d } W :=
  ⟨h.box.keep (hF.2 _ h.box.lt h.pne.1), hr, h.rs.keep (hF.2 _ h.rs.lt h.ne.symm), h.edg.below hF.1, h.ne, h.low, h.num, h.ok⟩
end
theorem act_ex (T : Array Value) (ds : List Deferred) {X : (Nat → Value) → Act} {p : Prop} (hp : p) (h : ({ tmps := T, defers := ds } : Act) = X fun i => T.getD i undef) : ∃ u, p ∧ ({ tmps := T, defers := ds } : Act) = X u := ⟨_, hp, h⟩
def FirePost (B N q : Nat) (es : List Edg) (L : RLay) (x : RSt) (S : Nat → Bool) (t : Int) (w : World) (e : Ending) (w' : World) : Prop :=
  e = .returned (.tuple #[]) ∧ RMem B N q es L ⟨fireD es S t x.d N, fireS S t x.s N⟩ w' ∧ Fk B L w w'

def mx2 (x y : Int) : Int := if x < y then y else x
theorem mx2_eq (x y : Int) : mx2 x y = max x y := by unfold mx2; omega
theorem quiet_max4 {P : Program} {o : Oper} {a : Act} {C : World → Prop} {K : Act → Prop} (t1 t2 t3 t4 : Nat) (ats : Array TypeId) (x y z u : Int) (ho : o.op = .call { callee := .builtin .max, args := #[.tmp t1, .tmp t2, .tmp t3, .tmp t4], argTypes := ats })
    (h1 : a.tmps[t1]?.getD undef = .int .i64 x) (h2 : a.tmps[t2]?.getD undef = .int .i64 y) (h3 : a.tmps[t3]?.getD undef = .int .i64 z) (h4 : a.tmps[t4]?.getD undef = .int .i64 u) (hK : K (a.put o.dst (.int .i64 (mx2 (mx2 (mx2 x y) z) u)))) : o.quiet P a C K := by
  refine ⟨_, fun w _ => ?_, hK⟩
  unfold Oper.quietAt
  have e : (execOp a.eval o).run P w = .ok (.value (.int .i64 (mx2 (mx2 (mx2 x y) z) u))) w := by
    unfold execOp
    rw [ho]
    simp [go_sem, h1, h2, h3, h4, Builtin.max_, Builtin.max2, mx2]
    first | rfl | congr
  rw [e]
  exact ⟨rfl, rfl⟩
/-- The rounds of the first loop. -/
def FireI (B N q : Nat) (es : List Edg) (L : RLay) (x : RSt) (S : Nat → Bool) (t : Int) (gb : Nat) (w W1 : World) (a' : Act) (w' : World) : Prop :=
  ∃ (k : Nat) (ds : List Deferred), (k ≤ N ∧ Marks w.heap.size ds w' ∧ RMem B N q es L ⟨fireD es S t x.d k, fireS S t x.s k⟩ w' ∧ Fk B L W1 w' ∧ ∀ u, -(4194304 + 104857600 * (1000 * (k : Int))) ≤ fireD es S t x.d k u ∧ fireD es S t x.d k u ≤ 4194304 + 104857600 * (1000 * (k : Int))) ∧ ∃ u : Nat → Value, True ∧ a' = { tmps := #[.pointer (some ⟨L.p, 0, none⟩), .slice (some ⟨gb, 0, none⟩) N N, .int .i64 t, .pointer (some ⟨w.heap.size, 0, none⟩), undef, .pointer (some ⟨w.heap.size + 1, 0, none⟩), (u 6), (u 7), (u 8), (u 9), (u 10), .slice (some ⟨gb, 0, none⟩) N N, .int .i64 N, .int .i64 (k : Nat), (u 14), (u 15), (u 16), (u 17), (u 18), (u 19), (u 20), (u 21), (u 22), (u 23), (u 24), (u 25), (u 26), (u 27), (u 28), (u 29), (u 30), (u 31), (u 32), (u 33), (u 34), (u 35), (u 36), (u 37), (u 38), (u 39), (u 40), (u 41), (u 42), (u 43), (u 44), (u 45), (u 46), (u 47), (u 48), (u 49), (u 50), (u 51), (u 52), (u 53), (u 54), (u 55), (u 56), (u 57), (u 58), (u 59), (u 60), (u 61), (u 62), (u 63), (u 64), (u 65), (u 66), (u 67), (u 68), (u 69), (u 70), (u 71), (u 72), (u 73), (u 74), (u 75), (u 76), (u 77), (u 78), (u 79), (u 80), (u 81), (u 82), (u 83), (u 84), (u 85), (u 86), (u 87), (u 88), (u 89), (u 90), (u 91), (u 92), (u 93), (u 94), (u 95), (u 96), (u 97), (u 98), (u 99), (u 100), (u 101), (u 102), (u 103), (u 104), (u 105), (u 106), (u 107), (u 108), (u 109), (u 110)], defers := ds }
set_option maxRecDepth 100000 in
set_option maxHeartbeats 8000000 in
theorem rfire_any {B N q : Nat} {es : List Edg} {L : RLay} {x : RSt} {w : World} (hM : RMem B N q es L x w) {gb : Nat} {S : Nat → Bool} (hin : Row1 Value.bool w gb 4 ((List.range N).map S) []) {t : Int} (ht : 0 ≤ t ∧ t ≤ 2097152)
    (hd : Hid (∀ u, -4194304 ≤ x.d u ∧ x.d u ≤ 4194304)) (hs : Hid (∀ u, -4194304 ≤ x.s u ∧ x.s u ≤ 4194304)) (hd' : Hid (∀ u, u < N → -2097152 ≤ fireD es S t x.d N u ∧ fireD es S t x.d N u ≤ 2097152)) (hs' : Hid (∀ u, u < N → -2097152 ≤ fireS S t x.s N u ∧ fireS S t x.s N u ≤ 2097152)) :
    Calls Tryz.prog 126 #[.pointer (some ⟨L.p, 0, none⟩), .slice (some ⟨gb, 0, none⟩) N N, .int .i64 t] w (FirePost B N q es L x S t w) := by
  refine (callsIn_wide (n := 6)).1 ?_
  have h1 : 1 ≤ 6 := by omega
  have hsz := hM.size
  have hok := hide hM.ok
  have h12 := hM.num.1
  have hcd := hM.num.2.2
  have hge1 : gb ≠ L.gd := ne_type (show w.heap[gb]? = some (.cells _ 4 (0, 0)) from hin) (show w.heap[L.gd]? = some (.cells _ 3 (0, 0)) from hM.rd) (by decide)
  have hge2 : gb ≠ L.gs := ne_type (show w.heap[gb]? = some (.cells _ 4 (0, 0)) from hin) (show w.heap[L.gs]? = some (.cells _ 3 (0, 0)) from hM.rs) (by decide)
  have hgdl := hM.rd.lt
  have hgsl := hM.rs.lt
  have hpl := hM.box.lt
  have hlow := hM.low
  have HM := hide hM
  have HIN := hide hin
  obtain ⟨W1, hW1⟩ : ∃ W1, (w.alloc (.cells #[.pointer (some ⟨L.p, 0, none⟩)] 143)).alloc (.cells #[.int .i64 t] 3) = W1 := ⟨_, rfl⟩
  have hs1 : W1.heap.size = w.heap.size + 2 := by rw [← hW1]; simp
  have hb1 : Below w.heap.size w W1 := by rw [← hW1]; exact bnew (bnew (Below.refl _ _) _) _
  have bP : Boxed W1 w.heap.size 143 (.pointer (some ⟨L.p, 0, none⟩)) := by rw [← hW1]; exact (Boxed.new w _ _).alloc _
  have bT : Boxed W1 (w.heap.size + 1) 3 (.int .i64 t) := by
    rw [← hW1]
    have := Boxed.new (w.alloc (.cells #[.pointer (some ⟨L.p, 0, none⟩)] 143)) 3 (.int .i64 t)
    simpa using this
  have HIN1 := hide (hin.below hb1)
  have HBP := hide bP
  have HBT := hide bT
  have HM1 := hide (hM.below hb1)
  have HF1 : Hid (Fk B L w W1) := (Fk.refl B L w).below hsz hb1
  have HS1 := hide hs1
  clear hM hin bP bT hs1
  refine callsIn_of_wp_marks Tryz.func126 rfl trivial ?_ rfl
  simp only [Tryz.ntmps126, List.size_toArray, List.length_cons, List.length_nil, Nat.reduceAdd, Nat.reduceSub, Array.replicate_succ, Array.replicate_zero, List.push_toArray, List.append_toArray, List.nil_append, List.cons_append]
  refine wpIn_wide.2 ?_
  go_wp2_with fail
  clear hW1 hb1
  refine wp_loop (FireI B N q es L x S t gb w W1)
    (fun a' _ => N - (intOf (a'.tmps.getD 13 undef)).toNat) ?atStart ?round
  case atStart =>
    exact ⟨0, [], ⟨by omega, Marks.nil _ _, HM1.out.congr (fun _ _ => rfl) (fun v _ => by show x.s v = fireS S t x.s 0 v; rw [fireS_zero]), Fk.refl _ _ _, fun u => by have := hd.out u; show _ ≤ x.d u ∧ x.d u ≤ _; omega⟩, act_ex _ _ trivial rfl⟩
  case round =>
    rintro a' wr ⟨k, ds, ⟨hk, hMk, hMr, hFr, hbd⟩, u, _, rfl⟩
    have hszr := hFr.1.size
    have hszB := hMr.size
    have hBPr : Boxed wr w.heap.size 143 (.pointer (some ⟨L.p, 0, none⟩)) := (hFr.2 _ (by have := HS1.out; omega) (by omega) (by omega)).trans HBP.out
    have hBTr : Boxed wr (w.heap.size + 1) 3 (.int .i64 t) := (hFr.2 _ (by have := HS1.out; omega) (by omega) (by omega)).trans HBT.out
    have hINr : Row1 Value.bool wr gb 4 ((List.range N).map S) [] := HIN1.out.keep (hFr.2 gb HIN1.out.lt hge1 hge2)
    have HMK := hide hMk
    have HMR := hide hMr
    have HFR := hide hFr
    have HBD := hide hbd
    clear hMk hMr hFr hbd
    by_cases hlt : k < N
    · have g0 : wr.cell? ⟨gb, k, none⟩ = some (.bool (S k)) := hINr.cell (by rw [List.getElem?_map, List.getElem?_range hlt]; rfl)
      have hk0 : (0 : Int) ≤ k := by omega
      have hk1 : (k : Int) < N := by omega
      rcases hS : S k with _ | _
      · rw [hS] at g0
        have HD : Hid (fireD es S t x.d (k + 1) = fireD es S t x.d k) := by show _ = _; rw [fireD, hS]; rfl
        have HSS : Hid (fireS S t x.s (k + 1) = fireS S t x.s k) := by show _ = _; rw [fireS_next, hS]; rfl
        clear hS hBPr hBTr hINr
        go_wp2_with fail
        refine ⟨⟨k + 1, ds, ⟨by omega, HMK.out.below (bnew (Below.refl _ _) _), by rw [HD.out, HSS.out]; exact HMR.out.below (bnew (Below.refl _ _) _), HFR.out.below hszB (bnew (Below.refl _ _) _), fun z => ?_⟩, act_ex _ _ trivial rfl⟩, by simp [intOf]; omega⟩
        have := HBD.out z
        rw [HD.out]
        push_cast
        omega
      · rw [hS] at g0
        obtain ⟨W2, hW2⟩ : ∃ W2, wr.alloc (.cells #[.int .i64 (k : Int)] 3) = W2 := ⟨_, rfl⟩
        have hb2 : Below wr.heap.size wr W2 := by rw [← hW2]; exact bnew (Below.refl _ _) _
        have hs2 : W2.heap.size = wr.heap.size + 1 := by rw [← hW2]; simp
        have bV : Boxed W2 wr.heap.size 3 (.int .i64 k) := by rw [← hW2]; exact Boxed.new wr _ _
        have bP : Boxed W2 w.heap.size 143 (.pointer (some ⟨L.p, 0, none⟩)) := (hb2.block _ hBPr.lt).trans hBPr
        have bT : Boxed W2 (w.heap.size + 1) 3 (.int .i64 t) := (hb2.block _ hBTr.lt).trans hBTr
        have hM2 := HMR.out.below hb2
        obtain ⟨_, _, _, _, d4, _⟩ := hM2.cells
        have f4 := hM2.rs.free k
        have cV := bV.cell
        have cP := bP.cell
        have cT := bT.cell
        have hsb := hs.out k
        have HSK : Hid (fireS S t x.s k k = x.s k) := by show _ = _; unfold fireS; rw [if_neg (fun hh => by omega)]; omega
        have e4 : W2.cell? ⟨L.gs, k, none⟩ = some (.int .i64 (x.s k)) := by
          have h5 : W2.cell? ⟨L.gs, k, none⟩ = some (.int .i64 (fireS S t x.s k k)) := hM2.sAt hlt
          rw [HSK.out] at h5
          exact h5
        obtain ⟨sk, hsk⟩ : ∃ sk, sk = x.s k := ⟨_, rfl⟩
        rw [← hsk] at e4 hsb
        have HSKE := hide hsk
        have HS2 := hide hs2
        have HV := hide bV
        have HP := hide bP
        have HT := hide bT
        have HM2 := hide hM2
        have HB2 := hide hb2
        have HST := hide hS
        clear hS hBPr hBTr hINr hb2 hs2 bV bP bT hM2 hsk
        go_wp2_with fail
        clear hW2
        go_region
        all_goals
          obtain ⟨W3, hW3⟩ : ∃ W3, (W2.setCell ⟨L.gs, k, none⟩ (.int .i64 (sk + t))).drew = W3 := ⟨_, rfl⟩
          rw [hW3]
          have hlgs : W2.heap.size ≤ W3.heap.size := by rw [← hW3]; simp
          have hM3 : RMem B N q es L ⟨fireD es S t x.d k, fireS S t x.s (k + 1)⟩ W3 := by
            have h5 := (HM2.out.putS hlt (fireS S t x.s k k + t)).below (Below.refl _ _).drew
            rw [fireS_next, HST.out, ← hW3]
            rw [HSK.out, ← HSKE.out] at h5
            simp only [if_true]
            rw [HSK.out, ← HSKE.out]
            exact h5
          have hF3 : Fk B L W1 W3 := by
            have h5 := ((HFR.out.below hszB HB2.out).put (.inr rfl) hlow.2.2 k (.int .i64 (sk + t)))
            have h6 := h5.below (by have := HB2.out.size; simp; omega) (Below.refl _ _).drew
            rw [hW3] at h6
            exact h6
          have hF23 : Fk B L W2 W3 := by
            have h5 := ((Fk.refl B L W2).put (.inr rfl) hlow.2.2 k (.int .i64 (sk + t)))
            have h6 := h5.below (by have := HB2.out.size; simp; omega) (Below.refl _ _).drew
            rw [hW3] at h6
            exact h6
          have hs2 := HS2.out
          have hs1 := HS1.out
          have hne1 : wr.heap.size ≠ L.gd ∧ wr.heap.size ≠ L.gs := by omega
          have bV3 : Boxed W3 wr.heap.size 3 (.int .i64 k) := (hF23.2 wr.heap.size (by omega) hne1.1 hne1.2).trans HV.out
          have bP3 : Boxed W3 w.heap.size 143 (.pointer (some ⟨L.p, 0, none⟩)) := (hF23.2 w.heap.size (by omega) (by omega) (by omega)).trans HP.out
          have bT3 : Boxed W3 (w.heap.size + 1) 3 (.int .i64 t) := (hF23.2 (w.heap.size + 1) (by have := HS1.out; omega) (by omega) (by omega)).trans HT.out
          have HX3 := hide (And.intro bP3 (And.intro bT3 (And.intro bV3 (And.intro hM3 (And.intro hF3 hF23)))))
          have cV3 := bV3.cell
          have cP3 := bP3.cell
          clear hW3 cV cP cT d4 e4 f4 bV3 bP3 bT3 hM3 hF3 hF23 g0
          have HL3 := hide (links_any L.p (k : Int) W3)
          clear hs2 hs1
          go_wp2_with (go_at_call 154; refine HL3.out.mono ?_; rintro e w5 ⟨rfl, rfl⟩)
          obtain ⟨hP3, hT3, hV3, hM3, hF3, hF23⟩ := HX3.out
          obtain ⟨W4, hW4⟩ : ∃ W4, (W3.alloc (.cells #[.pointer (some ⟨L.p, 0, none⟩)] 143)).alloc (.cells #[.int .i64 (k : Int)] 3) = W4 := ⟨_, rfl⟩
          have hs4 : W4.heap.size = W3.heap.size + 2 := by rw [← hW4]; simp
          have hb4 : Below W3.heap.size W3 W4 := by rw [← hW4]; exact bnew (bnew (Below.refl _ _) _) _
          have bX4 : Boxed W4 W3.heap.size 143 (.pointer (some ⟨L.p, 0, none⟩)) := by rw [← hW4]; exact (Boxed.new W3 _ _).alloc _
          have bV4 : Boxed W4 (W3.heap.size + 1) 3 (.int .i64 k) := by
            rw [← hW4]
            have := Boxed.new (W3.alloc (.cells #[.pointer (some ⟨L.p, 0, none⟩)] 143)) 3 (.int .i64 (k : Int))
            simpa using this
          have hP4 : Boxed W4 w.heap.size 143 (.pointer (some ⟨L.p, 0, none⟩)) := (hb4.block _ hP3.lt).trans hP3
          have hT4 : Boxed W4 (w.heap.size + 1) 3 (.int .i64 t) := (hb4.block _ hT3.lt).trans hT3
          have hV4 : Boxed W4 wr.heap.size 3 (.int .i64 k) := (hb4.block _ hV3.lt).trans hV3
          have hM4 := hM3.below hb4
          have hB4 := hM4.size
          have hF4 : Fk B L W1 W4 := hF3.below hM3.size hb4
          have hz23 := hF23.1.size
          obtain ⟨_, c1, _, _, _, _⟩ := hM4.cells
          have HFW : Hid (Fk B L wr W4) := (((Fk.refl B L wr).below hszB HB2.out).trans hF23).below hM3.size hb4
          rw [hW4]
          clear hW4 hb4
          refine (wpIn_wide (n := 6)).1 (wpIn_rangeFunc_ownF rfl h1 (gf := 165) (lb := #[.pointer (some ⟨W3.heap.size, 0, none⟩), .pointer (some ⟨W3.heap.size + 1, 0, none⟩)]) rfl trivial (enters_of Tryz.func165 (by kernel_rfl) rfl)
            (links_stops Go.Fence.wide (6 - 1) trivial rfl (by omega) W3.heap.size (W3.heap.size + 1) L.p B N k L.c L.oe es hok hlt (by omega) W4 hB4 bX4.cell bV4.cell c1 hM4.edg)
            KpL.t (KpL.b hB4 (by intro g hg; simp at hg; omega)) (Below.refl _ _) (fun _ => rfl)
            (fun pre W => Row1 (Value.int .i64) W L.gd 3 (lst N (linkAll k t (fireD es S t x.d k) (lnkV pre))) L.rest ∧ Fd B L.gd W4 W)
            (fun _ _ _ => False)
            (OwnFrom.and (Own.from (row1_own _ _ _ _) _) (Fd.from hB4 (Nat.le_refl _)))
            (fun _ _ _ _ _ hs _ _ => hs)
            ⟨hM4.rd, Below.refl _ _, fun _ _ _ => rfl⟩
            (fun p => { tmps := #[.pointer (some ⟨L.p, 0, none⟩), .slice (some ⟨gb, 0, none⟩) N N, .int .i64 t, .pointer (some ⟨w.heap.size, 0, none⟩), undef, .pointer (some ⟨w.heap.size + 1, 0, none⟩), .pointer (some ⟨wr.heap.size, 0, none⟩), .bool true, .int .i64 p.1.1, .int .i64 p.1.2, (u 10), .slice (some ⟨gb, 0, none⟩) N N, .int .i64 N, .int .i64 (k : Int), .bool true, .int .i64 (k : Int), .pointer (some ⟨gb, k, none⟩), .bool true, .bool true, .bool false, .pointer (some ⟨L.p, 0, none⟩), .pointer (some ⟨L.p, 0, none⟩), .pointer (some ⟨L.p, 4, none⟩), .slice (some ⟨L.gs, 0, none⟩) N N, .int .i64 (k : Int), .pointer (some ⟨L.gs, k, none⟩), .int .i64 sk, .int .i64 t, .int .i64 (sk + t), .pointer (some ⟨L.gs, k, none⟩), .pointer (some ⟨L.p, 0, none⟩), .int .i64 (k : Int), .func (.func 165) #[] #[.pointer (some ⟨W3.heap.size, 0, none⟩), .pointer (some ⟨W3.heap.size + 1, 0, none⟩)], .int .i64 p.1.1, .int .i64 p.1.2, (u 35), (u 36), (u 37), (u 38), (u 39), (u 40), (u 41), (u 42), (u 43), (u 44), (u 45), (u 46), (u 47), (u 48), (u 49), (u 50), (u 51), (u 52), (u 53), (u 54), (u 55), (u 56), (u 57), (u 58), (u 59), (u 60), (u 61), (u 62), (u 63), (u 64), (u 65), (u 66), (u 67), (u 68), (u 69), (u 70), (u 71), (u 72), (u 73), (u 74), (u 75), (u 76), (u 77), (u 78), (u 79), (u 80), (u 81), (u 82), (u 83), (u 84), (u 85), (u 86), (u 87), (u 88), (u 89), (u 90), (u 91), (u 92), (u 93), (u 94), (u 95), (u 96), (u 97), (u 98), (u 99), (u 100), (u 101), (u 102), (u 103), (u 104), (u 105), (u 106), (u 107), (u 108), (u 109), (u 110)], defers := [] }) ?assign ?body ?done ?stop)
          case assign =>
            intro l p W K hK
            simp only [lEnc]
            gi_wp2
            exact hK
          case body =>
            rintro l pre ⟨⟨u0, m⟩, z, e0, hz, hne, hm⟩ W ⟨hrow, hFd⟩ hlen
            have e0 : u0 = z := e0
            subst e0
            simp only at hm
            have hMW := hM4.fd hFd hrow
            obtain ⟨_, _, _, d3, _, _⟩ := hMW.cells
            have hs1 := HS1.out
            have hPW : Boxed W w.heap.size 143 (.pointer (some ⟨L.p, 0, none⟩)) := (hFd.2 w.heap.size hP4.lt (by omega)).trans hP4
            have hTW : Boxed W (w.heap.size + 1) 3 (.int .i64 t) := (hFd.2 (w.heap.size + 1) hT4.lt (by omega)).trans hT4
            have hVW : Boxed W wr.heap.size 3 (.int .i64 k) := (hFd.2 wr.heap.size hV4.lt (by omega)).trans hV4
            have cP := hPW.cell
            have cT := hTW.cell
            have cV := hVW.cell
            obtain ⟨D, hD⟩ : ∃ D, D = linkAll k t (fireD es S t x.d k) (lnkV pre) := ⟨_, rfl⟩
            have hbD : ∀ u, -(4194304 + 104857600 * (1000 * (k : Int)) + 104857600 * pre.length) ≤ D u ∧ D u ≤ 4194304 + 104857600 * (1000 * (k : Int)) + 104857600 * pre.length := by
              rw [hD]
              exact linkAll_bound ht HBD.out pre
            have hll := lnk_len es (k : Int)
            have hes := hok.out.len
            have hbk := hbD k
            have hbz := hbD z
            rw [← hD] at hrow hMW
            have e1 : W.cell? ⟨L.gd, k, none⟩ = some (.int .i64 (D k)) := hMW.dAt hlt
            have f1 := hMW.rd.free k
            have e2 : W.cell? ⟨L.gd, z, none⟩ = some (.int .i64 (D z)) := hMW.dAt hz
            have hz0 : (0 : Int) ≤ z := by omega
            have hz1 : (z : Int) < N := by omega
            obtain ⟨mt, hmt⟩ : ∃ mt, mt = m * t := ⟨_, rfl⟩
            have hmtb : 0 ≤ mt ∧ mt ≤ 104857600 := by
              rw [hmt]
              have h5 := Int.mul_nonneg (show 0 ≤ m by omega) ht.1
              have h6 := Int.mul_le_mul hm.2 ht.2 ht.1 (by omega)
              omega
            obtain ⟨W5, hW5⟩ : ∃ W5, (W.setCell ⟨L.gd, k, none⟩ (.int .i64 (D k - mt))).drew = W5 := ⟨_, rfl⟩
            have hM5 : RMem B N q es L { d := putF D k (D k - mt), s := fireS S t x.s (k + 1) } W5 := by
              rw [← hW5]
              exact (hMW.putD hlt (D k - mt)).below (Below.refl _ _).drew
            have hFd5 : Fd B L.gd W4 W5 := by
              rw [← hW5]
              exact ⟨(hFd.1.setCell hlow.2.1 _).drew, fun j hj hjg => (Below.heap_setCell W ⟨L.gd, k, none⟩ _ j hjg).trans (hFd.2 j hj hjg)⟩
            have hkk : (fun j => j) k ≠ z := fun e => hne e.symm
            obtain ⟨_, _, _, d35, _, _⟩ := hM5.cells
            have cP5 : W5.cell? ⟨w.heap.size, 0, none⟩ = some (.pointer (some ⟨L.p, 0, none⟩)) := Boxed.cell (t := 143) ((hFd5.2 w.heap.size hP4.lt (by omega)).trans hP4)
            have cT5 : W5.cell? ⟨w.heap.size + 1, 0, none⟩ = some (.int .i64 t) := Boxed.cell (t := 3) ((hFd5.2 (w.heap.size + 1) hT4.lt (by omega)).trans hT4)
            have e25 : W5.cell? ⟨L.gd, z, none⟩ = some (.int .i64 (D z)) := by
              have h5 : W5.cell? ⟨L.gd, z, none⟩ = some (.int .i64 (putF D k (D k - mt) z)) := hM5.dAt hz
              rw [putF_ne _ _ hne] at h5
              exact h5
            have f25 := hM5.rd.free z
            have HMT := hide hmt
            have HD := hide hD
            have hWW5 : Below B W W5 := by rw [← hW5]; exact ((Below.refl B W).setCell hlow.2.1 _).drew
            have hn5 : ∀ j, j ≠ L.gd → W5.heap[j]? = W.heap[j]? := fun j hj => by rw [← hW5]; exact Below.heap_setCell W ⟨L.gd, k, none⟩ _ j hj
            have HXB := hide (And.intro hM5 (And.intro hFd5 (And.intro hWW5 hn5)))
            have HKO : Hid (KeepsOthers W W5) := by rw [← hW5]; exact ⟨(KeepsOthers.setCell _ _ _).size, (KeepsOthers.setCell W ⟨L.gd, k, none⟩ (.int .i64 (D k - mt))).same⟩
            have HROW := hide hrow
            have HLV := hide (linkAll_snoc k t (fireD es S t x.d k) (lnkV pre) ((z : Int), m))
            have hq5 : m * t = mt := hmt.symm
            clear hWW5 hn5 hM5 hFd5 hFd hrow hMW hPW hTW hVW hbD hkk hmt hD hs1
            generalize hdk : D k = dk at *
            generalize hdz : D z = dz at *
            have HDK := hide hdk
            have HDZ := hide hdz
            clear hdk hdz
            gi_wp2
            refine round_still 12 (by kernel_rfl) (by kernel_rfl) (by kernel_rfl) (by rintro ⟨_, _, h⟩; exact h) ?_
            simp only [List.take_succ_cons, List.take_zero, List.drop_succ_cons, List.drop_zero]
            repeat still_step
            refine wpStill_nil ?_
            change wpList _ _ _ _ _ W.drew
            go_wp2_with fail
            rw [hW5]
            clear e1 f1 e2 hW5 d3 cP cT cV
            refine round_still 12 (by kernel_rfl) (by kernel_rfl) (by kernel_rfl) (by rintro ⟨_, _, h⟩; exact h) ?_
            simp only [List.take_succ_cons, List.take_zero, List.drop_succ_cons, List.drop_zero]
            repeat still_step
            refine wpStill_nil ?_
            change wpList _ _ _ _ _ W5.drew
            go_wp2_with fail
            obtain ⟨hM5, hFd5, hWW5, hn5⟩ := HXB.out
            have hKO2 : KeepsOthers W (W5.setCell ⟨L.gd, z, none⟩ (.int .i64 (dz + mt))).drew := HKO.out.trans ⟨(KeepsOthers.setCell _ _ _).size, (KeepsOthers.setCell W5 ⟨L.gd, z, none⟩ (.int .i64 (dz + mt))).same⟩
            have hFd6 : Fd B L.gd W4 (W5.setCell ⟨L.gd, z, none⟩ (.int .i64 (dz + mt))).drew := ⟨(hFd5.1.setCell hlow.2.1 _).drew, fun j hj hjg => (Below.heap_setCell W5 ⟨L.gd, z, none⟩ _ j hjg).trans (hFd5.2 j hj hjg)⟩
            refine ⟨hKO2, ⟨?_, fun g hg => ?_⟩, ?_, hFd6⟩
            · exact (hWW5.setCell hlow.2.1 _).drew
            · have hg5 : g = W3.heap.size + 1 := by simpa using hg
              have hs1 := HS1.out
              have hs2 := HS2.out
              exact (Below.heap_setCell W5 ⟨L.gd, z, none⟩ _ g (by show g ≠ L.gd; omega)).trans (hn5 g (by omega))
            · have h5 := ((hM5.putD hz (dz + mt)).below (Below.refl _ _).drew).rd
              have h6 : linkAll k t (fireD es S t x.d k) (lnkV (pre ++ [⟨((z : Int), m), ⟨z, rfl, hz, hne, hm⟩⟩])) = putF (putF D k (dk - mt)) z (dz + mt) := by
                rw [lnkV_snoc, HLV.out, ← HD.out]
                unfold linkStep
                simp only [Int.toNat_natCast]
                rw [putF_ne _ _ hne, HDK.out, HDZ.out, HMT.out]
              rw [h6]
              exact h5
          case done =>
            rintro D ys W hDl hys ⟨hrow, hFd⟩ hK
            rw [hys] at hrow
            have hs1 := HS1.out
            have hMW := hM4.fd hFd hrow
            have hmk : Marks w.heap.size ({ target := .collected D, args := #[] } :: ds) W := HMK.out.cons (fun j hj1 hj2 => (hFd.2 j (Nat.lt_of_lt_of_le hj2 HFW.out.1.size) (by omega)).trans (HFW.out.2 j hj2 (by omega) (by omega))) (Nat.le_trans HFW.out.1.size hDl) (by omega) hK
            have hF5 : Fk B L W1 W := hF4.trans ⟨hFd.1, fun j hj h5 _ => hFd.2 j hj h5⟩
            have HD1 : Hid (linkAll k t (fireD es S t x.d k) (lnkL es k) = fireD es S t x.d (k + 1)) := by show _ = _; rw [fireD, HST.out]; rfl
            have hbn : ∀ z, -(4194304 + 104857600 * (1000 * ((k + 1 : Nat) : Int))) ≤ fireD es S t x.d (k + 1) z ∧ fireD es S t x.d (k + 1) z ≤ 4194304 + 104857600 * (1000 * ((k + 1 : Nat) : Int)) := fun z => by
              have h5 := linkAll_bound ht HBD.out ys z
              rw [hys, HD1.out] at h5
              have h6 := congrArg List.length hys
              have h7 := lnk_len es (k : Int)
              have h8 := hok.out.len
              unfold lnkV at h6
              rw [List.length_map] at h6
              push_cast
              omega
            rw [HD1.out] at hMW
            have HEND := hide (And.intro hmk (And.intro hMW (And.intro hF5 hbn)))
            clear hrow hFd hMW hmk hF5 hbn hK hM4 hF4 c1 bX4 bV4 hP4 hT4 hV4 hM3 hF3 hF23 hP3 hT3 hV3 hs1
            go_wp2_with fail
            refine ⟨⟨k + 1, _, ⟨by omega, HEND.out.1, HEND.out.2.1, HEND.out.2.2.1, HEND.out.2.2.2⟩, act_ex _ _ trivial rfl⟩, by simp [intOf]; omega⟩
          case stop =>
            rintro D c pre W _ _ h _
            exact h.elim
    · have hke : k = N := by omega
      subst hke
      obtain ⟨_, _, _, d3, _, _⟩ := HMR.out.cells
      have cP := hBPr.cell
      have HBW := hide hBPr
      clear hBPr hBTr hINr hlt
      go_wp2_with fail
      clear d3 cP
      go_loopg [10, 65] k (fun gm _ iv wx => ∃ i : Nat, i ≤ k ∧ gm = k - i ∧ iv = .int .i64 i ∧ Hid (Below wr.heap.size wr wx))
      case atStart => exact ⟨0, by omega, by omega, rfl, Below.refl _ _⟩
      case round =>
        obtain ⟨i, hi, hgm, rfl, HB⟩ := hrel
        have HGM := hide hgm
        clear hgm
        by_cases hlt : i < k
        · have hMx := HMR.out.below HB.out
          obtain ⟨_, _, _, d3, d4, d5⟩ := hMx.cells
          have e0 : wr.cell? ⟨L.gd, i, none⟩ = some (.int .i64 (fireD es S t x.d k i)) := hMx.dAt hlt
          have s0 : wr.cell? ⟨L.gs, i, none⟩ = some (.int .i64 (fireS S t x.s k i)) := hMx.sAt hlt
          have hx1 := hd'.out i hlt
          have hx2 := hs'.out i hlt
          have hi0 : (0 : Int) ≤ i := by omega
          have hi1 : (i : Int) < k := by omega
          have cP : wr.cell? ⟨w.heap.size, 0, none⟩ = some (.pointer (some ⟨L.p, 0, none⟩)) := Boxed.cell (t := 143) ((HB.out.block _ HBW.out.lt).trans HBW.out)
          clear hMx
          generalize fireD es S t x.d k i = dv at *
          generalize fireS S t x.s k i = sv at *
          go_wp2_with fail
          have hmx : mx2 (mx2 (mx2 dv (-dv)) sv) (-sv) ≤ 2097152 := by simp only [mx2_eq]; omega
          generalize hME : mx2 (mx2 (mx2 dv (-dv)) sv) (-sv) = M at hmx
          have HME := hide hME
          clear hME
          have m4 : decide ((2097152 : Int) < M) = false := by simp; omega
          refine wp_region_quiet_lit (by kernel_rfl) (by kernel_rfl) ?_
          repeat (go_big_quiet_step (fail))
          go_big_quiet_want
          refine quiet_max4 74 82 89 97 _ dv (-dv) sv (-sv) rfl rfl rfl rfl rfl ?_
          rw [HME.out]
          simp only [Act.put, List.setIfInBounds_toArray, List.set_cons_zero, List.set_cons_succ]
          go_big_quiet_on
          repeat (go_big_quiet_step (fail))
          refine wpQuiet_nil ?_
          rintro w' ⟨nq, rfl⟩
          clear cP d3 d4 d5 e0 s0 m4
          go_wp2_with fail
          go_roundg (k - (i + 1))
          case rel => exact ⟨i + 1, by omega, rfl, by go_num, below_drewN HB.out nq⟩
          case measure => rw [HGM.out]; omega
        · have hke : i = k := by omega
          subst hke
          have HMX := hide (HMR.out.below HB.out)
          clear hlt
          go_wp2_with fail
          obtain ⟨Ds, rfl, hnd, hDs⟩ := HMK.out.below HB.out
          refine leaves_marks (B := w.heap.size) Ds wr hnd hDs fun w' hb' hc' => ?_
          refine ⟨_, results_none rfl _ _ _, rfl, ?_, ?_⟩
          · have hM := HMX.out
            exact ⟨hc' _ _ hM.box rfl, hc' _ _ hM.rd rfl, hc' _ _ hM.rs rfl, hM.edg.below (hb'.mono hsz), hM.ne, hM.low, hM.num, hM.ok⟩
          · have hF := HF1.out.trans (HFR.out.below hszB HB.out)
            exact ⟨hF.1.trans (hb'.mono hsz), fun j hj h5 h6 => (hb'.block j hj).trans (hF.2 j hj h5 h6)⟩
end Go.Proofs.YtpgopmmobbemcaaGreat

/-
  Run: the program and the reference.
  Step: the program and the reference.
  commute, Commuting.
  Abelian: the program and the reference.
  The wire machine in plain Lean: what stays true of it while it goes on, and how great its numbers become.
  The wire machine over a right network: its rules are within bounds.
  The reference of networks: Few, Small, Commutes.
  slices.Clone at the lists of a network (printed by wip/mkClone.py).
  A slice of the call's own of which one element is open: a store into an element of a list of lists. No program is named here.
  The wire machine: processors with lists of their own.
  append to a slice of the call's own, as one step of a region that draws its order. No program is named here.
  append of one element to a slice of the call's own, as one step of a region that draws its order: and where the new slice lies. No program is named here.
  network.copied: a network that shares no memory with the given one.
  A network that runs, in memory: start, network, moves.
  The wire machine: letters that were acknowledged are removed.
  The wire machine: packets are sent.
  The wire machine in memory: the letters of a line grow.
  slices.IndexFunc and slices.ContainsFunc at the closures of the wire machine (printed by wip/mkIdx.py).
  The wire machine: a packet that arrives is handled.
  The wire machine: the packets of a tick arrive: what is needed of the lists.
  A slice of the call's own whose elements are lists of integers of the call's own, no two in one block. No program is named here.
  The wire machine: a processor reads a letter.
  A network that runs, in memory: make, a move.
  Networks that run, in plain Lean: a move keeps a network right; a run by picks.
  Rows of outputs: swapping two parts of the same length, and rotating two parts.
  Merging two sorted lists: plain Lean.
  The merge of two sorted parts of a row: one part has one element.
  The merge of two sorted parts of a row: the second part has one element.
  The merge of two sorted parts of a row: both parts have at least two elements.
  The stable sort of a row of outputs: blocks of 20, then merges.
  The examples of chapter 54: Vertex, Rotor, Setter.
  awake: the examples of chapter 54 hold.
  The walk of ProcessorRuns.
  The walk of ProcessorCommutes.
  right: whether a processor, a state and a word are right and small.
  slices.Grow of the nil slice, and slices.Concat, at lists of outputs.
  The walk of ProcessorSplits.
  slices.Min of ints: whether it is negative.
  slices.Repeat of a list of one integer.
  Counts of letters: the least count, the error of counts, the word of counts.
  The word of counts and the error of counts: the reference.
  The error of counts: the reference.
  Many: the program.
  An abelian processor reads a word in whatever order with the same end and the same outputs up to order.
  Networks of abelian processors, in plain Lean: histories (what each processor has read), what was sent by them, and the least action.
-/
import Derived.Test.YtpgopmmobbemcaaGreatDc1
import Derived.Test.YtpgopmmobbemcaaGreatProg
import Derived.WalkKit
import Derived.BigQuiet
import Derived.Deep.RegionHeld3
import Derived.Deep.RegionLaw
import Derived.Deep.AppendLies
import Derived.Deep.LoopGhost
import Derived.Deep.DeepCutAuto
import Derived.Laws.ResultCell
import Derived.Laws.OwnMore
import Derived.Maps.AppendAt
import Derived.Maps.OwnOps
import Derived.OneCell
import Derived.Lib.SmallJoins
import Derived.BigRegion
import Derived.Lib.AppendZeros
import Derived.Deep.QuietTactic
import Derived.StillTailTactics
import Derived.Laws.CopyOwn
import Derived.OwnWalk
import Derived.Laws.Bits64b

set_option linter.unusedVariables false
namespace Go.Proofs.YtpgopmmobbemcaaGreat
open Go.RowKit

def runRes (p : Prc) (s : Int) (word : List Int) : Int × List Out × Int :=
  if stateErr p s = 0 then (if rlettersErr p.letters word = 0 then ((readSpec p.rules s word).1, (readSpec p.rules s word).2, 0) else (0, [], rlettersErr p.letters word)) else (0, [], stateErr p s)
def stepRes (p : Prc) (s a : Int) : Int × List Out × Int :=
  if stateErr p s = 0 then (if belowB a p.letters then ((readSpec p.rules s [a]).1, (readSpec p.rules s [a]).2, 0) else (0, [], 2)) else (0, [], stateErr p s)

end Go.Proofs.YtpgopmmobbemcaaGreat

set_option linter.unusedVariables false
namespace Go.Proofs.YtpgopmmobbemcaaGreat
open Go.RowKit

end Go.Proofs.YtpgopmmobbemcaaGreat

set_option linter.unusedVariables false
namespace Go.Proofs.YtpgopmmobbemcaaGreat
open Go.RowKit

def commB (rs : List (List Rul)) (s a b : Int) : Bool :=
  decide ((readSpec rs s [a, b]).1 = (readSpec rs s [b, a]).1) && decide (isort (readSpec rs s [a, b]).2 = isort (readSpec rs s [b, a]).2)

theorem ruleAt_mem {p : Prc} {N : Int} (h : checkErr p N = 0) {s a : Int} (hs : 0 ≤ s ∧ s < p.states) (ha : 0 ≤ a ∧ a < p.letters) :
    (0 ≤ (ruleAt p.rules s a).next ∧ (ruleAt p.rules s a).next < p.states) ∧ (ruleAt p.rules s a).sent.length ≤ 16 ∧ ∀ o ∈ (ruleAt p.rules s a).sent, (0 ≤ o.dst ∧ o.dst < N) ∧ 0 ≤ o.letter ∧ o.letter < 8 := by
  obtain ⟨n, rfl⟩ := Int.eq_ofNat_of_zero_le hs.1
  obtain ⟨m, rfl⟩ := Int.eq_ofNat_of_zero_le ha.1
  have h1 := (check_zero h).2.2.2.1
  have hn : n < p.rules.length := by omega
  have hrow := List.getElem?_eq_getElem hn
  have hl := valid_row h hrow
  have hm : m < (p.rules[n]).length := by omega
  have hr := List.getElem?_eq_getElem hm
  rw [ruleAt_eq hrow hr]
  exact valid_rule h hrow hr
theorem readSpec_right {p : Prc} {N : Int} (h : checkErr p N = 0) : ∀ (word : List Int) (s : Int), 0 ≤ s ∧ s < p.states → lettersErr p.letters word = 0 →
    (0 ≤ (readSpec p.rules s word).1 ∧ (readSpec p.rules s word).1 < p.states) ∧ (readSpec p.rules s word).2.length ≤ 16 * word.length ∧ ∀ o ∈ (readSpec p.rules s word).2, (0 ≤ o.dst ∧ o.dst < N) ∧ 0 ≤ o.letter ∧ o.letter < 8
  | [], s, hs, _ => ⟨hs, by simp [readSpec], by simp [readSpec]⟩
  | a :: r, s, hs, hw => by
    have ha := letters_zero hw a (by simp)
    have hr : lettersErr p.letters r = 0 := by
      unfold lettersErr at hw
      split at hw
      · exact hw
      · cases hw
    obtain ⟨h1, h2, h3⟩ := ruleAt_mem h hs ha
    obtain ⟨h4, h5, h6⟩ := readSpec_right h r _ h1 hr
    refine ⟨h4, ?_, ?_⟩
    · simp only [readSpec, List.length_append, List.length_cons]; omega
    · intro o ho
      simp only [readSpec, List.mem_append] at ho
      rcases ho with ho | ho
      · exact h3 o ho
      · exact h6 o ho

end Go.Proofs.YtpgopmmobbemcaaGreat

set_option linter.unusedVariables false
namespace Go.Proofs.YtpgopmmobbemcaaGreat
open Go.RowKit

/-- The first state and letters that do not commute. -/
def witB (f : Nat → Nat → Nat → Bool) (s a : Nat) : Nat → Nat → Option (Nat × Nat × Nat)
  | 0, _ => none
  | n + 1, b => if f s a b then witB f s a n (b + 1) else some (s, a, b)
def witA (f : Nat → Nat → Nat → Bool) (s L : Nat) : Nat → Nat → Option (Nat × Nat × Nat)
  | 0, _ => none
  | n + 1, a => (witB f s a L 0).or (witA f s L n (a + 1))
def witS (f : Nat → Nat → Nat → Bool) (L : Nat) : Nat → Nat → Option (Nat × Nat × Nat)
  | 0, _ => none
  | n + 1, s => (witA f s L L 0).or (witS f L n (s + 1))
def witL : Option (Nat × Nat × Nat) → List Int
  | none => []
  | some (s, a, b) => [(s : Int), (a : Int), (b : Int)]
def commN (rs : List (List Rul)) (s a b : Nat) : Bool := commB rs s a b
def abelRes (p : Prc) : Bool × List Int × Int :=
  if checkErr p 12 = 0 then ((witS (commN p.rules) p.letters.toNat p.states.toNat 0).isNone, witL (witS (commN p.rules) p.letters.toNat p.states.toNat 0), 0) else (false, [], checkErr p 12)
def AbelPost (w : World) (r : Bool × List Int × Int) (e : Ending) (w' : World) : Prop :=
  ∃ v, e = .returned (.tuple #[.bool r.1, v, .int .i64 r.2.2]) ∧ OwnS intR 1 w.heap.size 3 Non w' v r.2.1 ∧ Below w.heap.size w w'
def IntsPost (w : World) (r : List Int) (e : Ending) (w' : World) : Prop :=
  ∃ v, e = .returned v ∧ OwnS intR 1 w.heap.size 3 Non w' v r ∧ Below w.heap.size w w'
end Go.Proofs.YtpgopmmobbemcaaGreat

set_option linter.unusedVariables false
set_option linter.unusedSimpArgs false
set_option linter.unnecessarySimpa false
namespace Go.Proofs.YtpgopmmobbemcaaGreat
open Go.RowKit

def Ln.tot (l : Ln) : Nat := l.rm + l.q.length
def Pk.L : Pk → Int
  | .lett _ _ _ => 1
  | .ack _ _ => 0
def Pk.W : Pk → Int
  | .lett _ _ _ => 3
  | .ack _ _ => 1
def Lc : List (Pk × Nat) → Int
  | [] => 0
  | a :: r => a.1.L + Lc r
def Wc : List (Pk × Nat) → Int
  | [] => 0
  | a :: r => a.1.W + Wc r
theorem Pk.L_nonneg (p : Pk) : 0 ≤ p.L := by cases p <;> simp [Pk.L]
theorem Pk.W_pos (p : Pk) : 1 ≤ p.W := by cases p <;> simp [Pk.W]
theorem Lc_nonneg : ∀ l, 0 ≤ Lc l
  | [] => by simp [Lc]
  | a :: r => by have := Lc_nonneg r; have := a.1.L_nonneg; simp only [Lc]; omega
theorem Lc_append : ∀ l k, Lc (l ++ k) = Lc l + Lc k
  | [], k => by simp [Lc]
  | a :: r, k => by simp only [List.cons_append, Lc, Lc_append r k]; omega
theorem Wc_append : ∀ l k, Wc (l ++ k) = Wc l + Wc k
  | [], k => by simp [Wc]
  | a :: r, k => by simp only [List.cons_append, Wc, Wc_append r k]; omega
theorem Lc_split (f : Pk × Nat → Bool) : ∀ l, Lc (l.filter f) + Lc (l.filter fun a => !f a) = Lc l
  | [] => by simp [Lc]
  | a :: r => by
    have ih := Lc_split f r
    cases h : f a <;> simp [List.filter_cons, h, Lc] at ih ⊢ <;> omega
theorem Wc_split (f : Pk × Nat → Bool) : ∀ l, Wc (l.filter f) + Wc (l.filter fun a => !f a) = Wc l
  | [] => by simp [Wc]
  | a :: r => by
    have ih := Wc_split f r
    cases h : f a <;> simp [List.filter_cons, h, Wc] at ih ⊢ <;> omega

def PkOk (N : Nat) (m : Nat → Nat) (ls : List Ln) : Pk → Prop
  | .lett l num kind => l < N * N ∧ num ≤ (ls.getD l Ln.none).tot ∧ 0 ≤ kind ∧ kind < (m (l % N) : Nat)
  | .ack l num => l < N * N ∧ num ≤ (ls.getD l Ln.none).tot

/-- m: letters of a processor, ns: its states; pend: packets that arrived and were not handled yet. -/
structure WInv (N : Nat) (m : Nat → Nat) (ns : Nat → Int) (X M K A T : Int) (pend : List (Pk × Nat)) (S : Wr) : Prop where
  nst : S.st.length = N
  nwt : S.wt.length = N
  nct : S.ct.length = N
  nls : S.ls.length = N * N
  st : ∀ (p : Nat) (s : Int), S.st[p]? = some s → 0 ≤ s ∧ s < ns p
  wl : ∀ (p : Nat) (row : List Int), S.wt[p]? = some row → row.length = m p
  cl : ∀ (p : Nat) (row : List Int), S.ct[p]? = some row → row.length = m p
  wb : ∀ (p : Nat) (row : List Int), S.wt[p]? = some row → ∀ (k : Nat) (x : Int), row[k]? = some x → 0 ≤ x ∧ x + Lc (pend ++ S.fl) ≤ M
  cb : ∀ (p : Nat) (row : List Int), S.ct[p]? = some row → ∀ (k : Nat) (x : Int), row[k]? = some x → 0 ≤ x ∧ x ≤ T
  lb : ∀ (j : Nat) (l : Ln), S.ls[j]? = some l → (l.tot : Int) ≤ T ∧ l.ac ≤ l.tot ∧ l.sn ≤ S.tk ∧ ∀ a ∈ l.q, 0 ≤ a ∧ a < (m (j % N) : Nat)
  pk : ∀ a ∈ pend ++ S.fl, PkOk N m S.ls a.1
  wgt : Wc (pend ++ S.fl) ≤ K
  seb : S.se + Lc (pend ++ S.fl) ≤ A
  lg : X ≤ 1048576 → S.lg = false
  mx : M ≤ X

structure NetOk (N σ : Nat) (m : Nat → Nat) (ns : Nat → Int) (next : Nat → Int → Nat → Int) (sent : Nat → Int → Nat → List (Int × Int)) : Prop where
  next : ∀ p s k, p < N → 0 ≤ s → s < ns p → k < m p → 0 ≤ next p s k ∧ next p s k < ns p
  few : ∀ p s k, p < N → 0 ≤ s → s < ns p → k < m p → (sent p s k).length ≤ σ
  out : ∀ p s k, p < N → 0 ≤ s → s < ns p → k < m p → ∀ x ∈ sent p s k, 0 ≤ x.1 ∧ x.1 < N ∧ 0 ≤ x.2 ∧ x.2 < (m x.1.toNat : Nat)

theorem set_get {α : Type} {l : List α} {i j : Nat} {y x : α} (h : (l.set i y)[j]? = some x) : (j = i ∧ x = y) ∨ (j ≠ i ∧ l[j]? = some x) := by
  rw [List.getElem?_set] at h
  split at h
  · rename_i e
    split at h
    · injection h with h; exact .inl ⟨e.symm, h.symm⟩
    · cases h
  · rename_i e
    exact .inr ⟨fun h => e h.symm, h⟩
theorem getD_some {α : Type} {l : List α} {i : Nat} {d x : α} (h : l[i]? = some x) : l.getD i d = x := by
  rw [List.getD_eq_getElem?_getD, h]; rfl
theorem getD_set {α : Type} {l : List α} {i j : Nat} {d y : α} : (l.set i y).getD j d = if j = i ∧ i < l.length then y else l.getD j d := by
  rw [List.getD_eq_getElem?_getD, List.getD_eq_getElem?_getD, List.getElem?_set]
  by_cases e : i = j
  · subst e
    by_cases h : i < l.length
    · simp [h]
    · simp [h, List.getElem?_eq_none (Nat.le_of_not_lt h)]
  · have : ¬ j = i := fun h => e h.symm
    simp [e, this]

section
variable {N : Nat} {m : Nat → Nat} {ns : Nat → Int} {X M K A T : Int} {pend : List (Pk × Nat)} {S : Wr}

theorem PkOk.grow {ls ls' : List Ln} (h : ∀ j, (ls.getD j Ln.none).tot ≤ (ls'.getD j Ln.none).tot) {p : Pk} (hp : PkOk N m ls p) : PkOk N m ls' p := by
  cases p with
  | lett l num kind => obtain ⟨h1, h2, h3⟩ := hp; exact ⟨h1, Nat.le_trans h2 (h l), h3⟩
  | ack l num => obtain ⟨h1, h2⟩ := hp; exact ⟨h1, Nat.le_trans h2 (h l)⟩
theorem tot_set {ls : List Ln} {j : Nat} {l : Ln} (h : (ls.getD j Ln.none).tot ≤ l.tot) (i : Nat) : (ls.getD i Ln.none).tot ≤ ((ls.set j l).getD i Ln.none).tot := by
  rw [getD_set]
  split
  · rename_i e; rw [e.1]; exact h
  · exact Nat.le_refl _

theorem WInv.mono (h : WInv N m ns X M K A T pend S) {X' M' K' A' T' : Int} (h1 : M ≤ M') (h2 : K ≤ K') (h3 : A ≤ A') (h4 : T ≤ T') (h5 : X ≤ X') (h6 : M' ≤ X') : WInv N m ns X' M' K' A' T' pend S :=
  { h with
    wb := fun p row hp k x hx => by have := h.wb p row hp k x hx; omega
    cb := fun p row hp k x hx => by have := h.cb p row hp k x hx; omega
    lb := fun j l hl => by obtain ⟨a, b⟩ := h.lb j l hl; exact ⟨by omega, b⟩
    wgt := by have := h.wgt; omega
    seb := by have := h.seb; omega
    lg := fun hM => h.lg (by omega)
    mx := h6 }
theorem WInv.line (h : WInv N m ns X M K A T pend S) {j : Nat} (hj : j < N * N) : ∃ l, S.ls[j]? = some l ∧ S.ls.getD j Ln.none = l := by
  have : j < S.ls.length := by rw [h.nls]; exact hj
  exact ⟨_, List.getElem?_eq_getElem this, getD_some (List.getElem?_eq_getElem this)⟩
theorem WInv.wrow (h : WInv N m ns X M K A T pend S) {p : Nat} (hp : p < N) : ∃ row, S.wt[p]? = some row ∧ S.wt.getD p [] = row ∧ row.length = m p := by
  have : p < S.wt.length := by rw [h.nwt]; exact hp
  exact ⟨_, List.getElem?_eq_getElem this, getD_some (List.getElem?_eq_getElem this), h.wl _ _ (List.getElem?_eq_getElem this)⟩
theorem WInv.state (h : WInv N m ns X M K A T pend S) {p : Nat} (hp : p < N) : ∃ s, S.st[p]? = some s ∧ S.st.getD p 0 = s ∧ 0 ≤ s ∧ s < ns p := by
  have : p < S.st.length := by rw [h.nst]; exact hp
  exact ⟨_, List.getElem?_eq_getElem this, getD_some (List.getElem?_eq_getElem this), h.st _ _ (List.getElem?_eq_getElem this)⟩

/-- A packet is taken. -/
theorem WInv.pop {a : Pk × Nat} (h : WInv N m ns X M K A T (a :: pend) S) : WInv N m ns X (M - a.1.L) (K - a.1.W) (A - a.1.L) T pend S ∧ PkOk N m S.ls a.1 := by
  refine ⟨{ h with
    wb := fun p row hp k x hx => by have := h.wb p row hp k x hx; simp only [List.cons_append, Lc] at this; omega
    pk := fun b hb => h.pk b (by simp only [List.cons_append]; exact List.mem_cons_of_mem _ hb)
    wgt := by have := h.wgt; simp only [List.cons_append, Wc] at this; omega
    seb := by have := h.seb; simp only [List.cons_append, Lc] at this; omega
    mx := by have := h.mx; have := a.1.L_nonneg; omega }, h.pk a (by simp)⟩
/-- A packet is sent. -/
theorem WInv.send (h : WInv N m ns X M K A T pend S) (fates : List Int) {p : Pk} (hp : PkOk N m S.ls p) (hX : M + 2 * p.L ≤ X) : WInv N m ns X (M + 2 * p.L) (K + 2 * p.W) (A + 1 + 2 * p.L) T pend (sendS fates p S) := by
  have hL : Lc (pend ++ (sendS fates p S).fl) ≤ Lc (pend ++ S.fl) + 2 * p.L := by
    have := p.L_nonneg
    unfold sendS delayS
    simp only [Lc_append]
    split
    · simp [Lc]; omega
    · split
      · simp [Lc]; omega
      · split
        · simp [Lc]; omega
        · simp [Lc]; omega
  have hW : Wc (pend ++ (sendS fates p S).fl) ≤ Wc (pend ++ S.fl) + 2 * p.W := by
    have := p.W_pos
    unfold sendS delayS
    simp only [Wc_append]
    split
    · simp [Wc]; omega
    · split
      · simp [Wc]; omega
      · split
        · simp [Wc]; omega
        · simp [Wc]; omega
  exact { h with
    wb := fun q row hq k x hx => by have := h.wb q row hq k x hx; omega
    pk := fun b hb => by
      rcases List.mem_append.1 hb with hb | hb
      · exact h.pk b (List.mem_append_left _ hb)
      · rcases List.mem_append.1 hb with hb | hb
        · exact h.pk b (List.mem_append_right _ hb)
        · obtain ⟨n, _, rfl⟩ := List.mem_map.1 hb
          exact hp
    wgt := by have := h.wgt; omega
    seb := by
      have := h.seb
      have e : (sendS fates p S).se = S.se + 1 := rfl
      rw [e]
      omega
    mx := hX }
/-- A letter waits. -/
theorem WInv.wait (h : WInv N m ns X M K A T pend S) {p k : Nat} (hp : p < N) (hk : k < m p) (hX : M + 1 ≤ X) : WInv N m ns X (M + 1) K A T pend (waitS p k S) := by
  obtain ⟨row, hr, hg, hl⟩ := h.wrow hp
  have hk' : k < row.length := by omega
  have hx := List.getElem?_eq_getElem hk'
  have e : waitS p k S = { S with wt := S.wt.set p (row.set k (row[k] + 1)), lg := S.lg || decide (1048576 < row[k] + 1) } := by
    unfold waitS bump
    rw [hg, getD_some hx]
  rw [e]
  have hb := h.wb p row hr k _ hx
  have hn := Lc_nonneg (pend ++ S.fl)
  exact { h with
    nwt := by show (S.wt.set p _).length = N; rw [List.length_set]; exact h.nwt
    wl := fun q r hq => by
      rcases set_get hq with ⟨rfl, rfl⟩ | ⟨_, hq⟩
      · rw [List.length_set]; exact hl
      · exact h.wl q r hq
    wb := fun q r hq i x hi => by
      show 0 ≤ x ∧ x + Lc (pend ++ S.fl) ≤ M + 1
      rcases set_get hq with ⟨rfl, rfl⟩ | ⟨_, hq⟩
      · rcases set_get hi with ⟨rfl, rfl⟩ | ⟨_, hi⟩
        · omega
        · have := h.wb q row hr i x hi; omega
      · have := h.wb q r hq i x hi; omega
    lg := fun hM => by
      show (S.lg || decide (1048576 < row[k] + 1)) = false
      rw [h.lg hM]
      simp
      omega
    mx := hX }
/-- A line's numbers change, what it holds in all does not become less. -/
theorem WInv.setLn (h : WInv N m ns X M K A T pend S) {j : Nat} {l l' : Ln} (hl : S.ls[j]? = some l) (hj : j < N * N) {T' : Int} (hT : T ≤ T') (ht : l.tot ≤ l'.tot) (htT : (l'.tot : Int) ≤ T') (hac : l'.ac ≤ l'.tot) (hsn : l'.sn ≤ S.tk) (hq : ∀ a ∈ l'.q, 0 ≤ a ∧ a < (m (j % N) : Nat)) :
    WInv N m ns X M K A T' pend { S with ls := S.ls.set j l' } :=
  { h with
    nls := by show (S.ls.set j l').length = N * N; rw [List.length_set]; exact h.nls
    cb := fun p row hp k x hx => by have := h.cb p row hp k x hx; omega
    lb := fun i y hi => by
      rcases set_get hi with ⟨rfl, rfl⟩ | ⟨_, hi⟩
      · exact ⟨htT, hac, hsn, hq⟩
      · obtain ⟨a, b⟩ := h.lb i y hi; exact ⟨by omega, b⟩
    pk := fun b hb => PkOk.grow (tot_set (by rw [getD_some hl]; exact ht)) (h.pk b hb) }

/-- A tick begins: the packets of this tick are taken out. -/
theorem WInv.begin_ (h : WInv N m ns X M K A T [] S) : WInv N m ns X M K A T ((S.fl.filter fun a => a.2 == S.tk + 1)) { S with tk := S.tk + 1, fl := S.fl.filter fun a => !(a.2 == S.tk + 1) } := by
  have hL : Lc ((S.fl.filter fun a => a.2 == S.tk + 1) ++ S.fl.filter fun a => !(a.2 == S.tk + 1)) = Lc S.fl := by rw [Lc_append]; exact Lc_split (fun a => a.2 == S.tk + 1) S.fl
  have hW : Wc ((S.fl.filter fun a => a.2 == S.tk + 1) ++ S.fl.filter fun a => !(a.2 == S.tk + 1)) = Wc S.fl := by rw [Wc_append]; exact Wc_split (fun a => a.2 == S.tk + 1) S.fl
  exact { h with
    wb := fun p row hp k x hx => by have := h.wb p row hp k x hx; simp only [List.nil_append] at this; rw [hL]; exact this
    lb := fun j l hl => by obtain ⟨a, b, c, d⟩ := h.lb j l hl; exact ⟨a, b, by show l.sn ≤ S.tk + 1; omega, d⟩
    pk := fun b hb => h.pk b (by
      simp only [List.nil_append]
      rcases List.mem_append.1 hb with hb | hb
      · exact (List.mem_filter.1 hb).1
      · exact (List.mem_filter.1 hb).1)
    wgt := by have := h.wgt; simp only [List.nil_append] at this; rw [hW]; exact this
    seb := by have := h.seb; simp only [List.nil_append] at this; rw [hL]; exact this }

/-- One output. -/
theorem WInv.put (h : WInv N m ns X M K A T pend S) {p : Nat} (hp : p < N) {x : Int × Int} (h1 : 0 ≤ x.1 ∧ x.1 < N) (h2 : 0 ≤ x.2 ∧ x.2 < (m x.1.toNat : Nat)) (hX : M + 1 ≤ X) : WInv N m ns X (M + 1) K A (T + 1) pend (putS N p x S) := by
  unfold putS
  split
  · rename_i e
    have e2 : x.1.toNat = p := by omega
    rw [e2] at h2
    exact (h.wait hp (k := x.2.toNat) (by omega) hX).mono (Int.le_refl _) (Int.le_refl _) (Int.le_refl _) (by omega) (Int.le_refl _) hX
  · have hq : x.1.toNat < N := by omega
    have hj : p * N + x.1.toNat < N * N := by
      have : (p + 1) * N ≤ N * N := Nat.mul_le_mul_right N hp
      rw [Nat.succ_mul] at this
      omega
    obtain ⟨l, hl, hgl⟩ := h.line hj
    obtain ⟨a1, a2, a3, a4⟩ := h.lb _ l hl
    rw [hgl]
    have hm : (p * N + x.1.toNat) % N = x.1.toNat := by rw [Nat.add_comm, Nat.add_mul_mod_self_right, Nat.mod_eq_of_lt hq]
    have e : ({ l with q := l.q ++ [x.2] } : Ln).tot = l.tot + 1 := by unfold Ln.tot; simp; omega
    exact (h.setLn (l' := { l with q := l.q ++ [x.2] }) (T' := T + 1) hl hj (by omega) (by rw [e]; omega) (by rw [e]; push_cast; omega) (by rw [e]; show l.ac ≤ _; omega) a3 (fun a ha => by
      rcases List.mem_append.1 ha with ha | ha
      · exact a4 a ha
      · rw [List.mem_singleton] at ha; rw [ha, hm]; exact h2)).mono (by omega) (Int.le_refl _) (Int.le_refl _) (Int.le_refl _) (Int.le_refl _) hX
/-- A line sends. -/
theorem WInv.lineS (h : WInv N m ns X M K A T [] S) (fates : List Int) {j : Nat} (hj : j < N * N) (hX : M + 2 ≤ X) : WInv N m ns X (M + 2) (K + 6) (A + 3) T [] (lineS fates j S) := by
  obtain ⟨l, hl, hgl⟩ := h.line hj
  obtain ⟨a1, a2, a3, a4⟩ := h.lb _ l hl
  unfold Go.Proofs.YtpgopmmobbemcaaGreat.lineS
  rw [hgl]
  rcases hq : l.q with _ | ⟨a, r⟩
  · exact h.mono (by omega) (by omega) (by omega) (Int.le_refl _) (Int.le_refl _) hX
  · simp only
    split
    · have ht : l.rm + 1 ≤ l.tot := by unfold Ln.tot; rw [hq]; simp
      have hp : PkOk N m S.ls (.lett j (l.rm + 1) a) := ⟨hj, by rw [hgl]; exact ht, (a4 a (by rw [hq]; simp)).1, (a4 a (by rw [hq]; simp)).2⟩
      have h1 := h.send fates hp (by simp only [Pk.L]; omega)
      simp only [Pk.L, Pk.W] at h1
      have h2 := h1.setLn (l' := { l with sn := S.tk }) hl hj (Int.le_refl T) (Nat.le_refl _) a1 a2 (Nat.le_refl _) a4
      exact (h2.mono (by omega) (by omega) (by omega) (Int.le_refl _) (Int.le_refl _) hX)
    · exact h.mono (by omega) (by omega) (by omega) (Int.le_refl _) (Int.le_refl _) hX

end

end Go.Proofs.YtpgopmmobbemcaaGreat

set_option linter.unusedVariables false
set_option linter.unusedSimpArgs false
set_option linter.unnecessarySimpa false
namespace Go.Proofs.YtpgopmmobbemcaaGreat
open Go.RowKit

def ruleP (procs : List Prc) (p : Nat) (s : Int) (k : Nat) : Rul := ruleAt (procs.getD p prc0).rules s k
def nextP (procs : List Prc) (p : Nat) (s : Int) (k : Nat) : Int := (ruleP procs p s k).next
def pairO (o : Out) : Int × Int := (o.dst, o.letter)
def sentP (procs : List Prc) (p : Nat) (s : Int) (k : Nat) : List (Int × Int) := (ruleP procs p s k).sent.map pairO
def lettersP (procs : List Prc) (p : Nat) : Nat := (procs.getD p prc0).letters.toNat
def statesP (procs : List Prc) (p : Nat) : Int := (procs.getD p prc0).states

theorem Right.rule {x : Nwk} (h : Right x) {p k : Nat} {s : Int} (hp : p < x.procs.length) (h0 : 0 ≤ s) (h1 : s < statesP x.procs p) (hk : k < lettersP x.procs p) :
    ∃ pr row r, x.procs[p]? = some pr ∧ x.procs.getD p prc0 = pr ∧ pr.rules[s.toNat]? = some row ∧ row[k]? = some r ∧ ruleP x.procs p s k = r ∧ (0 ≤ r.next ∧ r.next < pr.states) ∧ r.sent.length ≤ 16 ∧
      ∀ o ∈ r.sent, (0 ≤ o.dst ∧ o.dst < x.procs.length) ∧ 0 ≤ o.letter ∧ o.letter < lettersP x.procs o.dst.toNat := by
  have hpr := List.getElem?_eq_getElem hp
  have hg : x.procs.getD p prc0 = x.procs[p] := getD_some hpr
  have hc := h.proc p _ hpr
  unfold statesP at h1
  unfold lettersP at hk
  rw [hg] at h1 hk
  have hz := check_zero hc
  have hs : s.toNat < (x.procs[p]).rules.length := by have := hz.2.2.2.1; omega
  have hrow := List.getElem?_eq_getElem hs
  have hl := valid_row hc hrow
  have hk2 : k < ((x.procs[p]).rules[s.toNat]).length := by omega
  have hr := List.getElem?_eq_getElem hk2
  obtain ⟨v1, v2, v3⟩ := valid_rule hc hrow hr
  refine ⟨_, _, _, hpr, hg, hrow, hr, ?_, v1, v2, fun o ho => ?_⟩
  · unfold ruleP ruleAt
    rw [hg, getD_some hrow, show ((k : Nat) : Int).toNat = k from Int.toNat_natCast k, getD_some hr]
  · obtain ⟨a, b, c⟩ := v3 o ho
    have ha : o.dst < x.procs.length := a.2
    refine ⟨⟨a.1, ha⟩, b, ?_⟩
    have := outsOk_all (rulesOk_all (rowsOk_all (h.und p _ hpr) _ (List.mem_of_getElem? hrow)) _ (List.mem_of_getElem? hr)) o ho
    unfold lettersP
    omega
theorem Right.ok {x : Nwk} (h : Right x) : NetOk x.procs.length 16 (lettersP x.procs) (statesP x.procs) (nextP x.procs) (sentP x.procs) where
  next := fun p s k hp h0 h1 hk => by
    obtain ⟨pr, row, r, e1, e2, e3, e4, e5, e6, _⟩ := h.rule hp h0 h1 hk
    unfold nextP statesP
    rw [e5, e2]
    exact e6
  few := fun p s k hp h0 h1 hk => by
    obtain ⟨pr, row, r, e1, e2, e3, e4, e5, e6, e7, _⟩ := h.rule hp h0 h1 hk
    unfold sentP
    rw [e5, List.length_map]
    exact e7
  out := fun p s k hp h0 h1 hk y hy => by
    obtain ⟨pr, row, r, e1, e2, e3, e4, e5, e6, e7, e8⟩ := h.rule hp h0 h1 hk
    unfold sentP at hy
    rw [e5] at hy
    obtain ⟨o, ho, rfl⟩ := List.mem_map.1 hy
    obtain ⟨a, b, c⟩ := e8 o ho
    exact ⟨a.1, a.2, b, c⟩
theorem Right.letters {x : Nwk} (h : Right x) (p : Nat) (hp : p < x.procs.length) : 1 ≤ lettersP x.procs p ∧ lettersP x.procs p ≤ 8 := by
  have hpr := List.getElem?_eq_getElem hp
  have hz := check_zero (h.proc p _ hpr)
  unfold lettersP
  rw [getD_some hpr]
  omega
/-- The machine at its beginning. -/
theorem Right.begin_ {x : Nwk} (h : Right x) {M X : Int} (hM : ∀ t ∈ x.waiting, ∀ k ∈ t, k ≤ M) (hX : M ≤ X) : WInv x.procs.length (lettersP x.procs) (statesP x.procs) X M 0 0 0 [] (beginS x.state x.waiting x.procs.length) where
  nst := h.nst
  nwt := h.nwt
  nct := by show (x.waiting.map _).length = _; rw [List.length_map]; exact h.nwt
  nls := by simp [beginS]
  st := fun p s hs => by
    have hp : p < x.procs.length := by have := (List.getElem?_eq_some_iff.1 hs).1; have := h.nst; simp only [beginS] at *; omega
    have hpr := List.getElem?_eq_getElem hp
    unfold statesP
    rw [getD_some hpr]
    exact h.st p s _ hs hpr
  wl := fun p row hr => by
    have hp : p < x.procs.length := by have := (List.getElem?_eq_some_iff.1 hr).1; have := h.nwt; simp only [beginS] at *; omega
    have hpr := List.getElem?_eq_getElem hp
    unfold lettersP
    rw [getD_some hpr]
    have := h.wl p row _ hr hpr
    omega
  cl := fun p row hr => by
    simp only [beginS, List.getElem?_map, Option.map_eq_some_iff] at hr
    obtain ⟨t, ht, rfl⟩ := hr
    have hp : p < x.procs.length := by have := (List.getElem?_eq_some_iff.1 ht).1; have := h.nwt; omega
    have hpr := List.getElem?_eq_getElem hp
    unfold lettersP
    rw [getD_some hpr, List.length_replicate]
    have := h.wl p t _ ht hpr
    omega
  wb := fun p row hr k y hy => by
    have h1 := h.wb row (List.mem_of_getElem? hr) y (List.mem_of_getElem? hy)
    have h2 := hM row (List.mem_of_getElem? hr) y (List.mem_of_getElem? hy)
    refine ⟨h1.1, ?_⟩
    show y + Lc ([] ++ []) ≤ M
    simp [Lc]
    exact h2
  cb := fun p row hr k y hy => by
    simp only [beginS, List.getElem?_map, Option.map_eq_some_iff] at hr
    obtain ⟨t, ht, rfl⟩ := hr
    rw [List.getElem?_replicate] at hy
    split at hy
    · injection hy with hy; omega
    · cases hy
  lb := fun j l hl => by
    simp only [beginS, List.getElem?_replicate] at hl
    split at hl
    · injection hl with hl
      subst hl
      exact ⟨by simp [Ln.tot, Ln.none], by simp [Ln.tot, Ln.none], by simp [Ln.none], fun a ha => by simp [Ln.none] at ha⟩
    · cases hl
  pk := fun a ha => by simp [beginS] at ha
  wgt := by simp [beginS, Wc]
  seb := by simp [beginS, Lc]
  lg := fun _ => rfl
  mx := hX
end Go.Proofs.YtpgopmmobbemcaaGreat

set_option linter.unusedVariables false
set_option linter.unusedSimpArgs false
namespace Go.Proofs.YtpgopmmobbemcaaGreat
open Go.RowKit

theorem checkErr_more {p : Prc} {N : Int} (h : checkErr p N = 0) : checkErr p 12 = 0 := by
  obtain ⟨h1, h2, h3, h4, h5⟩ := check_zero h
  have hs : ∀ l : List Out, sentErr N l = 0 → sentErr 12 l = 0 := fun l => by
    induction l with
    | nil => intro _; rfl
    | cons x r ih =>
      intro hl
      unfold sentErr at hl ⊢
      split at hl
      · rename_i hx
        simp [belowB] at hx
        rw [if_pos (by simp [belowB]; omega)]
        exact ih hl
      · cases hl
  have hr : ∀ r : Rul, ruleErr p.states N r = 0 → ruleErr p.states 12 r = 0 := fun r hr => by
    unfold ruleErr at hr ⊢
    split at hr
    · rename_i hx
      rw [if_pos hx]
      split at hr
      · rename_i hy
        rw [if_pos hy]
        exact hs _ hr
      · cases hr
    · cases hr
  have ho : ∀ l : List Rul, rowErr p.states N l = 0 → rowErr p.states 12 l = 0 := fun l => by
    induction l with
    | nil => intro _; rfl
    | cons x r ih =>
      intro hl
      unfold rowErr at hl ⊢
      split at hl
      · rename_i hx
        rw [if_pos (hr x hx)]
        exact ih hl
      · rename_i hx; exact absurd hl hx
  have hw : ∀ l : List (List Rul), rowsErr p.states p.letters N l = 0 → rowsErr p.states p.letters 12 l = 0 := fun l => by
    induction l with
    | nil => intro _; rfl
    | cons x r ih =>
      intro hl
      unfold rowsErr at hl ⊢
      split at hl
      · rename_i hx
        rw [if_pos hx]
        split at hl
        · rename_i hy
          rw [if_pos (ho x hy)]
          exact ih hl
        · rename_i hy; exact absurd hl hy
      · cases hl
  unfold checkErr
  rw [if_neg (by omega), if_neg (by omega), if_neg (by omega)]
  exact hw _ h5

/-- All processors are abelian. -/
def commP (procs : List Prc) : Bool := procs.all fun p => (witS (commN p.rules) p.letters.toNat p.states.toNat 0).isNone

end Go.Proofs.YtpgopmmobbemcaaGreat

set_option linter.unusedVariables false
set_option linter.unusedSimpArgs false
set_option linter.unnecessarySimpa false
namespace Go.Proofs.YtpgopmmobbemcaaGreat
open Go.RowKit

end Go.Proofs.YtpgopmmobbemcaaGreat

set_option linter.unusedVariables false
set_option linter.unusedSimpArgs false
set_option linter.unnecessarySimpa false
namespace Go.Proofs.YtpgopmmobbemcaaGreat
open Go.RowKit

theorem chunk_cell {sz i j : Nat} {l : List Value} (hj : j < sz) : (chunk sz i l)[j]? = l[i * sz + j]? := by
  unfold chunk
  rw [List.getElem?_take, if_pos hj, List.getElem?_drop]
theorem chunk_set_same {sz i j : Nat} {l : List Value} {u : Value} (hj : j < sz) : chunk sz i (l.set (i * sz + j) u) = (chunk sz i l).set j u := by
  unfold chunk
  rw [List.drop_set, if_neg (by omega), show i * sz + j - i * sz = j from by omega, List.take_set]
theorem chunk_set_other {sz i j k : Nat} {l : List Value} {u : Value} (hj : j < sz) (hk : k ≠ i) : chunk sz k (l.set (i * sz + j) u) = chunk sz k l := by
  unfold chunk
  apply List.ext_getElem?
  intro n
  rw [List.getElem?_take, List.getElem?_take]
  split
  · rename_i hn
    rw [List.getElem?_drop, List.getElem?_drop, List.getElem?_set]
    rw [if_neg]
    intro e
    rcases Nat.lt_or_ge k i with h | h
    · have := Nat.mul_le_mul_right sz (Nat.succ_le_of_lt h)
      rw [Nat.succ_mul] at this
      omega
    · have h2 : i + 1 ≤ k := by omega
      have := Nat.mul_le_mul_right sz h2
      rw [Nat.succ_mul] at this
      omega
  · rfl

/-- The slice v at block g holds xs, but for element i, of which the cells hc are known. -/
def RowH {α : Type} (R : Rep α) (sz base : Nat) (e : TypeId) (F : Foot) (w : World) (v : Value) (g : Nat) (xs : List α) (i : Nat) (hc : List Value) : Prop :=
  ∃ cap cur, v = .slice (some ⟨g, 0, none⟩) xs.length cap ∧ base ≤ g ∧ w.heap[g]? = some (.cells cur e (0, 0)) ∧ xs.length ≤ cap ∧ cap ≤ maxLen ∧ cur.size = cap * sz ∧
    (∀ u ∈ cur.toList.take (xs.length * sz), u.oneCell' = true) ∧ i < xs.length ∧ hc = chunk sz i cur.toList ∧ ∀ k x, k ≠ i → xs[k]? = some x → R F w (chunk sz k cur.toList) x
section
variable {α : Type} {R : Rep α} {sz base : Nat} {e : TypeId} {F F' : Foot} {w w' : World} {v : Value} {xs : List α} {g i : Nat} {hc : List Value}

theorem RowH.free (h : RowH R sz base e F w v g xs i hc) (k : Nat) : w.frozen? ⟨g, k, none⟩ = false := by
  obtain ⟨cap, cur, _, _, hh, _⟩ := h
  exact frozen_of_row w g k _ _ hh
theorem RowH.cell (h : RowH R sz base e F w v g xs i hc) {j : Nat} (hj : j < sz) : w.cell? ⟨g, i * sz + j, none⟩ = hc[j]? := by
  obtain ⟨cap, cur, _, _, hh, _, _, _, _, hi, rfl, _⟩ := h
  rw [chunk_cell hj, cell_of_row w g _ cur e (0, 0) hh]
  simp
theorem RowH.keep (ok : RepOk R sz) (h : RowH R sz base e F w v g xs i hc) (hb : w'.heap[g]? = w.heap[g]?) (hs : SameOn F w w') : RowH R sz base e F w' v g xs i hc := by
  obtain ⟨cap, cur, h1, h2, hh, h3, h4, h5, h6, hi, h7, h8⟩ := h
  exact ⟨cap, cur, h1, h2, by rw [hb]; exact hh, h3, h4, h5, h6, hi, h7, fun k x hk hx => ok.keep (h8 k x hk hx) hs⟩
theorem RowH.wide (ok : RepOk R sz) (h : RowH R sz base e F w v g xs i hc) (hs : ∀ k, F k → k < w.heap.size → F' k) : RowH R sz base e F' w v g xs i hc := by
  obtain ⟨cap, cur, h1, h2, hh, h3, h4, h5, h6, hi, h7, h8⟩ := h
  exact ⟨cap, cur, h1, h2, hh, h3, h4, h5, h6, hi, h7, fun k x hk hx => ok.wide (h8 k x hk hx) hs⟩
theorem RowH.put (ok : RepOk R sz) (h : RowH R sz base e F w v g xs i hc) (hF : ¬ F g) {j : Nat} (hj : j < sz) {u : Value} (hu : u.oneCell' = true) : RowH R sz base e F (w.setCell ⟨g, i * sz + j, none⟩ u) v g xs i (hc.set j u) := by
  obtain ⟨cap, cur, h1, h2, hh, h3, h4, h5, h6, hi, h7, h8⟩ := h
  have hle : i * sz + sz ≤ xs.length * sz := by
    have := Nat.mul_le_mul_right sz (Nat.succ_le_of_lt hi)
    rw [Nat.succ_mul] at this
    exact this
  have hle2 := Nat.mul_le_mul_right sz h3
  have hheap := heap_set1 w g (i * sz + j) cur.toList e u (by simpa using hh)
  refine ⟨cap, (cur.toList.set (i * sz + j) u).toArray, h1, h2, hheap, h3, h4, by simp [h5], ?_, hi, ?_, ?_⟩
  · intro x hx
    simp only [List.take_set] at hx
    rcases List.mem_or_eq_of_mem_set hx with hx | rfl
    · exact h6 x hx
    · exact hu
  · rw [h7]
    exact (chunk_set_same hj).symm
  · intro k x hk hx
    have := h8 k x hk hx
    simp only
    rw [chunk_set_other hj hk]
    exact ok.keep this fun m hm hml => Below.heap_setCell w ⟨g, i * sz + j, none⟩ u m fun e => hF (by rw [show g = m from e.symm]; exact hm)
theorem OwnS.wide (ok : RepOk R sz) (h : OwnS R sz base e F w v xs) (hs : ∀ k, F k → k < w.heap.size → F' k) : OwnS R sz base e F' w v xs := by
  obtain ⟨cells, ho, h1, hcs⟩ := h
  exact ⟨cells, ho, h1, fun i x hx => ok.wide (hcs i x hx) hs⟩
end

end Go.Proofs.YtpgopmmobbemcaaGreat

set_option linter.unusedVariables false
set_option linter.unusedSimpArgs false
set_option linter.unnecessarySimpa false
namespace Go.Proofs.YtpgopmmobbemcaaGreat
open Go.RowKit

end Go.Proofs.YtpgopmmobbemcaaGreat

set_option linter.unusedVariables false
set_option linter.unusedSimpArgs false
namespace Go.Proofs.YtpgopmmobbemcaaGreat
open Go.RowKit

theorem step_append_rep {α : Type} {R : Rep α} {P : Program} {ops : Array Oper} {o : Oper} {a : Act} {w : World} {K : Act → World → Prop} {Q : Exit → Act → World → Prop} {E : Prop} (hgd : o.guard = none) (s x : Operand) (t : TypeId)
    (ho : o.op = .call { callee := .builtin .append, args := #[s, x], argTypes := #[t, t] })
    (base : Nat) (e : TypeId) (z : Value) (size bytes : Nat) (ht : P.underlying t = some (.slice e)) (hinfo : (P.info? e).map (fun i => (i.zero, i.size, i.bytes)) = some (some z, size, bytes))
    (hzs : z.cells.size = size) (hsz : 0 < size) (ok : RepOk R size)
    (F G : Foot) (v : Value) (xs : List α) (hs : a.eval s = v) (hown : OwnS R size base e F w v xs)
    (oa : Option Addr) (c : Nat) (ys : List α) (hx : a.eval x = .slice oa ys.length c) (hsrc : SliceR R size G w oa ys) (hW : ∀ cs x, R G w cs x → R F w cs x) (hF : ∀ k, F k → k < base)
    (hbytes : (xs.length + ys.length) * bytes ≤ 140737488355328) (hm : xs.length + ys.length ≤ 9223372036854775807) (hbase : base ≤ w.heap.size)
    (hK : ∀ v' w', OwnS R size base e F w' v' (xs ++ ys) → Below base w w' → w.grownBy w' v.ownBlock → K (a.put o.dst v') w') :
    if Region.wanted o (yielded ops a.tmps) = true then Oper.wp P o a w K Q else E := by
  have hw : Region.wanted o (yielded ops a.tmps) = true := by simp [Region.wanted, hgd]
  rw [if_pos hw]
  obtain ⟨i0, hi, hz0, hz1, hz2⟩ := info_parts hinfo
  obtain ⟨cells, hown0, h1, hc⟩ := hown
  obtain ⟨news, hn1, hn2, hn3, hn4⟩ := hsrc.cells ok
  obtain ⟨v', w', hrun, ho', hg⟩ := run_append_src (P := P) w base t o.type e i0 z size bytes ht hi hz0 hz1 hz2 hzs hsz v xs.length cells hown0 oa ys.length c news hn1 hn2 hn3 (by unfold maxLen; omega) hbytes hbase
  have hb : Below base w w' := (Below.refl base w).grown hg hbase fun k hk => (hown0.lt k hk).1
  have hsame : SameOn F w w' := fun k hk _ => hb.block k (hF k hk)
  have hfin := hK v' w' (OwnS.app hown0.1.symm ho' h1 hn3 (fun i x hx => ok.keep (hc i x hx) hsame) (fun i x hx => ok.keep (hW _ _ (hn4 i x hx)) hsame)) hb hg
  unfold Oper.wp execOp
  simp only [ho, resolve, invoke, builtin, Sem.run_bind, Sem.run_pure, Result.andThen_ok, List.map_toArray, List.map_cons, List.map_nil, hs, hx, hrun]
  exact hfin

end Go.Proofs.YtpgopmmobbemcaaGreat

set_option linter.unusedVariables false
set_option linter.unusedSimpArgs false
namespace Go.Proofs.YtpgopmmobbemcaaGreat
open Go.RowKit

end Go.Proofs.YtpgopmmobbemcaaGreat

set_option linter.unusedVariables false
set_option linter.unusedSimpArgs false
namespace Go.Proofs.YtpgopmmobbemcaaGreat
open Go.RowKit

theorem alloc_size' (w : World) (o : Obj) : (w.alloc o).heap.size = w.heap.size + 1 := by simp
theorem results_cell_row {P : Program} {fn : Func} {p : Tmp} {ty : TypeId} (h : fn.results = #[.cell p ty]) (tmps : Array Value) (w : World) (g : Nat) (t : TypeId) (cs : Array Value) (fr : Nat × Nat) (d : TypeDesc)
    (hp : tmps.getD p undef = .pointer (some ⟨g, 0, none⟩)) (hg : w.heap[g]? = some (.cells cs t fr))
    (hu : P.underlying ty = some d) (hd : (match d with | .struct _ | .array _ _ => true | _ => false) = true) (hi : (P.info? ty).map (·.size) = some cs.size) :
    (results fn tmps).run P w = .ok (.agg cs) w := by
  have hp' : tmps[p]?.getD undef = .pointer (some ⟨g, 0, none⟩) := by simpa using hp
  simp only [results, h]
  simp [hp', asAddr, Result.andThen, Sem.run_bind, run_loadVar_row w g t ty cs fr d hg hu hd hi]
/-- In the memory that was there, or in blocks from K on. -/
def OldNew (F : Foot) (B K : Nat) : Foot := fun k => (F k ∧ k < B) ∨ K ≤ k

end Go.Proofs.YtpgopmmobbemcaaGreat

set_option linter.unusedVariables false
set_option linter.unusedSimpArgs false
namespace Go.Proofs.YtpgopmmobbemcaaGreat
open Go.RowKit

def machV (p : Nat) : Value := .pointer (some ⟨p, 0, none⟩)
section
variable {O : Foot} {B0 K H p gs : Nat} {vp tw : Value} {rs : List Rw} {x : Nwk} {W W' : World}
end

section
variable {O : Foot} {B0 K H p gs : Nat} {vp tw : Value} {rs : List Rw} {x : Nwk} {W : World}
def mvR : Rep (Nat × Nat) := fun _ _ cs x => cs = [.int .i64 (x.1 : Nat), .int .i64 (x.2 : Nat)]
/-- The letters of one processor that may be read. -/
def rowMv (p : Nat) (l : List Int) (k : Nat) : List (Nat × Nat) := ((List.range k).filter fun a => decide (0 < l.getD a 0)).map fun a => (p, a)
/-- The moves: the letters that wait, in order. -/
def movesS (wt : List (List Int)) : List (Nat × Nat) := (List.range wt.length).flatMap fun p => rowMv p (wt.getD p []) (wt.getD p []).length
def movesUpto (wt : List (List Int)) (i : Nat) : List (Nat × Nat) := (List.range i).flatMap fun p => rowMv p (wt.getD p []) (wt.getD p []).length
end

end Go.Proofs.YtpgopmmobbemcaaGreat

set_option linter.unusedVariables false
set_option linter.unusedSimpArgs false
set_option linter.unnecessarySimpa false
namespace Go.Proofs.YtpgopmmobbemcaaGreat
open Go.RowKit

def WLay.setQ (L : WLay) (j : Nat) (v : Value) : WLay := { L with lv := fun m => if m = j then v else L.lv m }
theorem setQ_blk {L : WLay} {j : Nat} {v : Value} (hv : v.ownBlock = (L.lv j).ownBlock) (r : IR) : r.blk (L.setQ j v) = r.blk L := by
  cases r with
  | s => rfl
  | w i => rfl
  | c i => rfl
  | q m =>
    show (if m = j then v else L.lv m).ownBlock = (L.lv m).ownBlock
    split
    · rename_i e; rw [hv, e]
    · rfl
theorem setQ_mine {L : WLay} {N j : Nat} {v : Value} (hv : v.ownBlock = (L.lv j).ownBlock) (k : Nat) : Mine (L.setQ j v) N k ↔ Mine L N k := by
  have h : ∀ m, ((L.setQ j v).lv m).ownBlock = (L.lv m).ownBlock := fun m => setQ_blk hv (.q m)
  unfold Mine
  simp only [h]
  exact Iff.rfl
section
variable {B N : Nat} {L : WLay} {oP : Option Addr} {cP : Nat} {oF : Option Addr} {nF cF : Nat} {S : Wr} {W W' : World}

theorem Went.setQ {j : Nat} {v : Value} (hv : v.ownBlock = (L.lv j).ownBlock) (hj : j < N * N) (i : Nat) (u : Value) : Went N L W (L.setQ j v) (W.setCell ⟨L.bl j, i, none⟩ u) :=
  { Went.put (W := W) (i := i) (v := u) (show Mine L N (L.bl j) from .inr (.inr (.inr (.inr (.inr (.inr (.inr (.inl ⟨j, hj, rfl⟩)))))))) with
    mine := fun k _ hm => (setQ_mine hv k).1 hm, fix := ⟨_, _, rfl⟩ }
end

theorem OwnN.cons {base : Nat} {e : TypeId} {w : World} {v : Value} {x : Int} {r : List Int} (h : OwnN base e w v (x :: r)) : OwnQ base e w v (x :: r) := by
  rcases h with ⟨_, h⟩ | h
  · cases h
  · exact h

end Go.Proofs.YtpgopmmobbemcaaGreat

set_option linter.unusedVariables false
set_option linter.unusedSimpArgs false
set_option linter.unnecessarySimpa false
namespace Go.Proofs.YtpgopmmobbemcaaGreat
open Go.RowKit

section
variable {B N : Nat} {L : WLay} {oP : Option Addr} {cP : Nat} {oF : Option Addr} {nF cF : Nat} {S : Wr} {W W' : World}
end

end Go.Proofs.YtpgopmmobbemcaaGreat

set_option linter.unusedVariables false
set_option linter.unusedSimpArgs false
set_option linter.unnecessarySimpa false
namespace Go.Proofs.YtpgopmmobbemcaaGreat
open Go.RowKit

section
variable {B N : Nat} {L : WLay} {oP : Option Addr} {cP : Nat} {oF : Option Addr} {nF cF : Nat} {S : Wr} {W W' : World}
end

end Go.Proofs.YtpgopmmobbemcaaGreat

set_option linter.unusedVariables false
set_option linter.unusedSimpArgs false
set_option linter.unnecessarySimpa false
namespace Go.Proofs.YtpgopmmobbemcaaGreat
open Go.RowKit

def idxI : Option Nat → Int
  | some k => k
  | none => -1
end Go.Proofs.YtpgopmmobbemcaaGreat

set_option linter.unusedVariables false
set_option linter.unusedSimpArgs false
set_option linter.unnecessarySimpa false
namespace Go.Proofs.YtpgopmmobbemcaaGreat
open Go.RowKit

theorem Went.of_below {N : Nat} {L : WLay} {W W' : World} (hb : Below W.heap.size W W') : Went N L W L W' := ⟨hb.os, hb.tape, hb.output, hb.size, fun k hk _ => hb.block k hk, fun _ _ h => h, ⟨_, _, rfl⟩⟩
section
variable {B N : Nat} {L : WLay} {oP : Option Addr} {cP : Nat} {oF : Option Addr} {nF cF : Nat} {S : Wr} {W W' : World}

end

end Go.Proofs.YtpgopmmobbemcaaGreat

set_option linter.unusedVariables false
set_option linter.unusedSimpArgs false
set_option linter.unnecessarySimpa false
namespace Go.Proofs.YtpgopmmobbemcaaGreat
open Go.RowKit

section
variable {B N : Nat} {L : WLay} {oP : Option Addr} {cP : Nat} {oF : Option Addr} {nF cF : Nat} {S : Wr} {W W' : World}
variable {m : Nat → Nat} {ns : Nat → Int} {X M K A T : Int} {pend : List (Pk × Nat)}

end

end Go.Proofs.YtpgopmmobbemcaaGreat

set_option linter.unusedVariables false
set_option linter.unusedSimpArgs false
namespace Go.Proofs.YtpgopmmobbemcaaGreat
open Go.RowKit

/-- ov holds the headers vs (elements of type lt) of the lists xss (of elements of type e). -/
structure Lists (base : Nat) (e lt : TypeId) (w : World) (ov : Value) (vs : List Value) (xss : List (List Int)) : Prop where
  row : w.ownsRow base lt 1 ov vs.length vs
  ms : OwnM base e w vs xss
  off : ∀ (i : Nat) (v : Value) (k : Nat), vs[i]? = some v → v.ownBlock = some k → ov.ownBlock ≠ some k

section
variable {base : Nat} {e lt : TypeId} {w w' : World} {ov : Value} {vs : List Value} {xss : List (List Int)}
theorem Lists.nil (base : Nat) (e lt : TypeId) (w : World) : Lists base e lt w (.slice none 0 0) [] [] :=
  ⟨World.ownsRow_nil _ _ _ _, OwnM.nils 0, fun i v k h => by simp at h⟩
theorem Lists.len (h : Lists base e lt w ov vs xss) : vs.length = xss.length := h.ms.len
theorem Lists.below (h : Lists base e lt w ov vs xss) (hb : Below w.heap.size w w') : Lists base e lt w' ov vs xss := by
  refine ⟨h.row.kept (row := none) ⟨hb.os, hb.tape, hb.output, hb.size, fun k hk _ => hb.block k hk⟩ ?_, h.ms.below hb, h.off⟩
  cases ov.ownBlock <;> simp
theorem Lists.new (h : Lists base e lt w ov vs xss) (o : Obj) : Lists base e lt (w.alloc o) ov vs xss := h.below (bnew (Below.refl _ _) o)
theorem Lists.draw (h : Lists base e lt w ov vs xss) : Lists base e lt w.drew ov vs xss := ⟨h.row.drew, h.ms.draw, h.off⟩
/-- A change in blocks that are not theirs. -/
theorem Lists.under (h : Lists base e lt w ov vs xss) {k : Nat} (hg : w.grownBy w' (some k)) (hk : k < base) : Lists base e lt w' ov vs xss := by
  refine ⟨h.row.kept hg ?_, h.ms.keep fun i v g h1 hgv => hg.block g (h.ms.block h1 g hgv).2 ?_, h.off⟩
  · refine .inr fun he => ?_
    have := (h.row.lt k he).1
    omega
  · intro he
    injection he with he
    have := (h.ms.block h1 g hgv).1
    omega
/-- One more list, empty: 'out = append(out, nil)'. -/
theorem Lists.snoc (h : Lists base e lt w ov vs xss) {o : Obj} {ov' : Value} (hr : w'.ownsRow base lt 1 ov' (vs.length + 1) (vs ++ [.slice none 0 0])) (hg : (w.alloc o).grownBy w' ov.ownBlock)
    (hat : ov'.ownBlock = ov.ownBlock ∨ ov'.ownBlock = some (w.alloc o).heap.size) : Lists base e lt w' ov' (vs ++ [.slice none 0 0]) (xss ++ [[]]) := by
  have hnew : ∀ (i : Nat) (v : Value) (k : Nat), (vs ++ [.slice none 0 0])[i]? = some v → v.ownBlock = some k → vs[i]? = some v := fun i v k hi hk => by
    rcases Nat.lt_or_ge i vs.length with hj | hj
    · rw [List.getElem?_append_left hj] at hi; exact hi
    · rw [List.getElem?_append_right hj] at hi
      have hm := List.mem_of_getElem? hi
      simp at hm
      subst hm
      simp [Value.ownBlock] at hk
  refine ⟨by rw [List.length_append]; exact hr, ((h.ms.new o).keep fun i v g h1 hgv => hg.block g ?_ fun he => h.off i v g h1 hgv he.symm).snoc, fun i v k hi hk he => ?_⟩
  · have := (h.ms.block h1 g hgv).2; simp; omega
  · have h1 := hnew i v k hi hk
    rcases hat with ha | ha
    · exact h.off i v k h1 hk (ha ▸ he)
    · rw [ha] at he
      injection he with he
      have := (h.ms.block h1 k hk).2
      simp at he
      omega
/-- List i has grown, and its header was stored: 'out[i] = append(out[i], x)'. -/
theorem Lists.grow {g cap : Nat} (h : Lists base e lt w (.slice (some ⟨g, 0, none⟩) vs.length cap) vs xss) {i : Nat} {v v' : Value} {xs : List Int} {x : Int} {o : Obj} (hi : vs[i]? = some v) (hx : xss[i]? = some xs)
    (ho : OwnN base e w' v' (xs ++ [x])) (hg : (w.alloc o).grownBy w' v.ownBlock) (hv : ∀ k, v'.ownBlock = some k → v.ownBlock = some k ∨ (w.alloc o).heap.size ≤ k) :
    Lists base e lt (w'.setCell ⟨g, i, none⟩ v') (.slice (some ⟨g, 0, none⟩) (vs.set i v').length cap) (vs.set i v') (xss.set i (xs ++ [x])) := by
  have hgl := (h.row.lt g rfl).2
  have hng : v.ownBlock ≠ some g := fun he => h.off i v g hi he rfl
  have hng' : v'.ownBlock ≠ some g := fun he => by
    rcases hv g he with h1 | h1
    · exact hng h1
    · simp at h1; omega
  have hrow : w'.ownsRow base lt 1 (.slice (some ⟨g, 0, none⟩) vs.length cap) vs.length vs := (h.row.alloc o).kept hg (.inr fun he => hng he.symm)
  have hms := h.ms.grow hi hx ho hg hv
  have hoff : ∀ (j : Nat) (u : Value) (k : Nat), (vs.set i v')[j]? = some u → u.ownBlock = some k → k ≠ g := fun j u k hu hk he => by
    subst he
    by_cases e1 : i = j
    · subst e1
      rw [List.getElem?_set_self (List.getElem?_eq_some_iff.1 hi).1] at hu
      injection hu with hu
      subst hu
      exact hng' hk
    · rw [List.getElem?_set_ne e1] at hu
      exact h.off j u k hu hk rfl
  refine ⟨by rw [List.length_set]; exact (hrow.stored i v').1, hms.keep fun j u k hu hk => Below.heap_setCell _ _ _ _ ?_, fun j u k hu hk he => hoff j u k hu hk ?_⟩
  · exact hoff j u k hu hk
  · simp [Value.ownBlock] at he; exact he.symm
end

/-- 'append(v, x)' as one step of a region that draws its order. -/
theorem step_append_n {P : Program} {ops : Array Oper} {o : Oper} {a : Act} {w : World} {K : Act → World → Prop} {Q : Exit → Act → World → Prop} {E : Prop} (hgd : o.guard = none) (s y : Operand) (t : TypeId)
    (ho : o.op = .call { callee := .builtin .append, args := #[s, y], argTypes := #[t, t] })
    (base : Nat) (e : TypeId) (z : Value) (ht : P.underlying t = some (.slice e)) (hinfo : (P.info? e).map (fun i => (i.zero, i.size, i.bytes)) = some (some z, 1, 8))
    (hzs : z.cells.size = 1) (v : Value) (xs : List Int) (hs : a.eval s = v) (hown : OwnN base e w v xs)
    (ad : Addr) (c : Nat) (x : Int) (hy : a.eval y = .slice (some ad) 1 c) (hx : w.cell? (ad.add 0) = some (.int .i64 x)) (ix : I64 x) (hn : xs.length + 1 ≤ 1000000000) (hbase : base ≤ w.heap.size)
    (hK : ∀ v' w', OwnN base e w' v' (xs ++ [x]) → Below base w w' → w.grownBy w' v.ownBlock → (∀ k, v'.ownBlock = some k → v.ownBlock = some k ∨ w.heap.size ≤ k) → K (a.put o.dst v') w') :
    if Region.wanted o (yielded ops a.tmps) = true then Oper.wp P o a w K Q else E := by
  have hw : Region.wanted o (yielded ops a.tmps) = true := by simp [Region.wanted, hgd]
  rw [if_pos hw]
  obtain ⟨i0, hi, hz0, hz1, hz2⟩ := info_parts hinfo
  obtain ⟨v', w', hrun, h2, h3, h4⟩ := run_append_n (P := P) t o.type i0 z ht hi hz0 hz1 hz2 hzs hown ad c x hx ix hn hbase
  have hb : Below base w w' := (Below.refl base w).grown h3 hbase fun k hk => (hown.block k hk).1
  unfold Oper.wp execOp
  simp only [ho, resolve, invoke, builtin, Sem.run_bind, Sem.run_pure, Result.andThen_ok, List.map_toArray, List.map_cons, List.map_nil, hs, hy, hrun]
  exact hK v' w' h2 hb h3 h4

end Go.Proofs.YtpgopmmobbemcaaGreat

set_option linter.unusedVariables false
set_option linter.unusedSimpArgs false
set_option linter.unnecessarySimpa false
namespace Go.Proofs.YtpgopmmobbemcaaGreat
open Go.RowKit

section
variable {B N : Nat} {L : WLay} {oP : Option Addr} {cP : Nat} {oF : Option Addr} {nF cF : Nat} {S : Wr} {W W' : World}
variable {X M K A T : Int}

end

end Go.Proofs.YtpgopmmobbemcaaGreat

set_option linter.unusedVariables false
set_option linter.unusedSimpArgs false
namespace Go.Proofs.YtpgopmmobbemcaaGreat
open Go.RowKit

def addO (wt : List (List Int)) (o : Int × Int) : List (List Int) := bump wt o.1.toNat o.2.toNat 1
/-- The network behind the move that lets processor p read the letter a. -/
def moveX (x : Nwk) (p a : Nat) : Nwk :=
  { x with state := x.state.set p (nextP x.procs p (x.state.getD p 0) a), waiting := (sentP x.procs p (x.state.getD p 0) a).foldl addO (bump x.waiting p a (-1)) }
/-- What a move leaves alone. -/
structure Kept (B0 gs : Nat) (rs : List Rw) (W W' : World) : Prop where
  low : Below B0 W W'
  size : W.heap.size ≤ W'.heap.size
  fix : ∀ k, k < W.heap.size → k ≠ gs → (∀ r ∈ rs, k ≠ r.g) → W'.heap[k]? = W.heap[k]?
theorem Kept.refl (B0 gs : Nat) (rs : List Rw) (W : World) : Kept B0 gs rs W W := ⟨Below.refl _ _, Nat.le_refl _, fun _ _ _ _ => rfl⟩
theorem Kept.trans {B0 gs : Nat} {rs : List Rw} {W W1 W2 : World} (h : Kept B0 gs rs W W1) (g : Kept B0 gs rs W1 W2) : Kept B0 gs rs W W2 :=
  ⟨h.low.trans g.low, Nat.le_trans h.size g.size, fun k hk h1 h2 => (g.fix k (Nat.lt_of_lt_of_le hk h.size) h1 h2).trans (h.fix k hk h1 h2)⟩
theorem Kept.of_below {B0 gs : Nat} {rs : List Rw} {W W1 : World} (h : Below W.heap.size W W1) (hB : B0 ≤ W.heap.size) : Kept B0 gs rs W W1 := ⟨h.mono hB, h.size, fun k hk _ _ => h.block k hk⟩
section
variable {O : Foot} {B0 K H p gs : Nat} {vp tw : Value} {rs : List Rw} {x : Nwk} {W W' : World}
theorem Kept.put (hB : B0 ≤ gs ∧ B0 ≤ H) (ht : ∀ r ∈ rs, H ≤ r.g) {b k : Nat} (hb : b = gs ∨ ∃ r ∈ rs, b = r.g) (v : Value) : Kept B0 gs rs W (W.setCell ⟨b, k, none⟩ v) := by
  have hB0 : B0 ≤ b := by
    rcases hb with rfl | ⟨r, hr, rfl⟩
    · exact hB.1
    · have := ht r hr; omega
  refine ⟨(Below.refl _ _).setCell hB0 _, by simp [World.setCell], fun q hq h1 h2 => Below.heap_setCell _ _ _ q ?_⟩
  rcases hb with rfl | ⟨r, hr, rfl⟩
  · exact h1
  · exact h2 r hr
end

/-- Tables of one shape, with numbers from 0 to c. -/
structure Shape (wt wt' : List (List Int)) (c : Int) : Prop where
  len : wt'.length = wt.length
  row : ∀ (j : Nat) (l' : List Int), wt'[j]? = some l' → ∃ l, wt[j]? = some l ∧ l'.length = l.length
  num : ∀ l ∈ wt', ∀ z ∈ l, 0 ≤ z ∧ z ≤ c
theorem bump_eq {wt : List (List Int)} {p k : Nat} {l : List Int} {z : Int} (hl : wt[p]? = some l) (hz : l[k]? = some z) (y : Int) : bump wt p k y = wt.set p (l.set k (z + y)) := by
  unfold bump
  rw [getD_some hl, getD_some hz]
theorem Shape.put {wt wt' : List (List Int)} {c c' : Int} (h : Shape wt wt' c) (hc : c ≤ c') {p k : Nat} {l : List Int} (hl : wt'[p]? = some l) (hk : k < l.length) {y : Int} (hy : 0 ≤ y ∧ y ≤ c') : Shape wt (wt'.set p (l.set k y)) c' where
  len := by rw [List.length_set]; exact h.len
  row := fun j l' hj => by
    rw [List.getElem?_set] at hj
    split at hj
    · rename_i e
      subst e
      split at hj
      · injection hj with hj
        subst hj
        obtain ⟨l0, h1, h2⟩ := h.row p l hl
        exact ⟨l0, h1, by rw [List.length_set]; exact h2⟩
      · cases hj
    · exact h.row j l' hj
  num := fun l' hl' z hz => by
    rcases List.mem_or_eq_of_mem_set hl' with hm | rfl
    · have := h.num l' hm z hz; omega
    · rcases List.mem_or_eq_of_mem_set hz with hm | rfl
      · have := h.num l (List.mem_of_getElem? hl) z hm; omega
      · exact hy

section
variable {O : Foot} {B0 K H p gs : Nat} {vp tw : Value} {rs : List Rw} {x : Nwk} {W : World}
end

end Go.Proofs.YtpgopmmobbemcaaGreat

set_option linter.unusedVariables false
set_option linter.unusedSimpArgs false
namespace Go.Proofs.YtpgopmmobbemcaaGreat
open Go.RowKit

theorem Shape.add {wt wt' : List (List Int)} {c : Int} (h : Shape wt wt' c) {o : Int × Int} (ho : ∃ l, wt[o.1.toNat]? = some l ∧ o.2.toNat < l.length) : Shape wt (addO wt' o) (c + 1) := by
  obtain ⟨l, h1, h2⟩ := ho
  have hi : o.1.toNat < wt'.length := by rw [h.len]; exact (List.getElem?_eq_some_iff.1 h1).1
  have hl' := List.getElem?_eq_getElem hi
  obtain ⟨l0, h3, h4⟩ := h.row _ _ hl'
  rw [h1] at h3
  injection h3 with h3
  subst h3
  have hk : o.2.toNat < (wt'[o.1.toNat]).length := by omega
  have hz := List.getElem?_eq_getElem hk
  have hb := h.num _ (List.mem_of_getElem? hl') _ (List.mem_of_getElem? hz)
  unfold addO
  rw [bump_eq hl' hz]
  exact h.put (by omega) hl' hk (by omega)
theorem Right.row {x : Nwk} (h : Right x) {p : Nat} (hp : p < x.procs.length) : ∃ l, x.waiting[p]? = some l ∧ l.length = lettersP x.procs p := by
  have hw := List.getElem?_eq_getElem (show p < x.waiting.length by rw [h.nwt]; exact hp)
  have hpr := List.getElem?_eq_getElem hp
  have h1 := h.wl p _ _ hw hpr
  refine ⟨_, hw, ?_⟩
  unfold lettersP
  rw [getD_some hpr]
  omega
/-- The pick with number i among some moves. -/
def pickS (picks : List Int) (l : List (Nat × Nat)) (i : Nat) : Nat × Nat := l.getD ((picks.getD (i % picks.length) 0).toNat % l.length) (0, 0)
/-- A run by picks: the network and the counts when it has halted; none where the moves are used up. -/
def runX (picks : List Int) : Nat → Nat → Nwk → List (List Int) → Option (Nwk × List (List Int))
  | 0, i, x, ct => if (movesS x.waiting).isEmpty then some (x, ct) else none
  | n + 1, i, x, ct => if (movesS x.waiting).isEmpty then some (x, ct) else runX picks n (i + 1) (moveX x (pickS picks (movesS x.waiting) i).1 (pickS picks (movesS x.waiting) i).2) (bump ct (pickS picks (movesS x.waiting) i).1 (pickS picks (movesS x.waiting) i).2 1)
end Go.Proofs.YtpgopmmobbemcaaGreat

set_option linter.unusedVariables false
namespace Go.Proofs.YtpgopmmobbemcaaGreat
open Go.RowKit

end Go.Proofs.YtpgopmmobbemcaaGreat

set_option linter.unusedVariables false
namespace Go.Proofs.YtpgopmmobbemcaaGreat
open Go.RowKit

end Go.Proofs.YtpgopmmobbemcaaGreat

set_option linter.unusedVariables false
namespace Go.Proofs.YtpgopmmobbemcaaGreat
open Go.RowKit

end Go.Proofs.YtpgopmmobbemcaaGreat

set_option linter.unusedVariables false
namespace Go.Proofs.YtpgopmmobbemcaaGreat
open Go.RowKit

end Go.Proofs.YtpgopmmobbemcaaGreat

set_option linter.unusedVariables false
namespace Go.Proofs.YtpgopmmobbemcaaGreat
open Go.RowKit

end Go.Proofs.YtpgopmmobbemcaaGreat

set_option linter.unusedVariables false
namespace Go.Proofs.YtpgopmmobbemcaaGreat
open Go.RowKit

inductive Bk (s : Nat) : List Out → Prop
  | last (l : List Out) : Srt l → l.length ≤ s → Bk s l
  | cons (l r : List Out) : Srt l → l.length = s → Bk s r → Bk s (l ++ r)
inductive Full (s : Nat) : List Out → Prop
  | nil : Full s []
  | snoc (D l : List Out) : Full s D → Srt l → l.length = s → Full s (D ++ l)
theorem Bk.split {s : Nat} {R : List Out} (h : Bk s R) (hs : s ≤ R.length) : ∃ l r, R = l ++ r ∧ Srt l ∧ l.length = s ∧ Bk s r := by
  cases h with
  | last _ h1 h2 => exact ⟨R, [], by simp, h1, by omega, Bk.last [] List.Pairwise.nil (by simp)⟩
  | cons l r h1 h2 h3 => exact ⟨l, r, rfl, h1, h2, h3⟩
end Go.Proofs.YtpgopmmobbemcaaGreat

set_option linter.unusedVariables false
namespace Go.Proofs.YtpgopmmobbemcaaGreat
open Go.RowKit

def vertexRs : List (List Rul) := [[⟨1, []⟩], [⟨0, [⟨1, 0⟩, ⟨2, 0⟩]⟩]]
def rotorRs : List (List Rul) := [[⟨1, [⟨1, 0⟩]⟩], [⟨0, [⟨2, 0⟩]⟩]]
def setterRs : List (List Rul) := [[⟨0, []⟩, ⟨1, []⟩], [⟨0, []⟩, ⟨1, []⟩]]
def PrcPost (w : World) (S L : Int) (rs : List (List Rul)) (e : Ending) (w' : World) : Prop :=
  ∃ oa c, e = .returned (.agg #[.int .i64 S, .int .i64 L, .slice oa rs.length c]) ∧ rs.length ≤ c ∧ SliceR (slcR ruleR 2) 1 All w' oa rs ∧ Below w.heap.size w w'

end Go.Proofs.YtpgopmmobbemcaaGreat

set_option linter.unusedVariables false
namespace Go.Proofs.YtpgopmmobbemcaaGreat
open Go.RowKit

end Go.Proofs.YtpgopmmobbemcaaGreat

set_option linter.unusedVariables false
namespace Go.Proofs.YtpgopmmobbemcaaGreat
open Go.RowKit

theorem OwnS.bound {α : Type} {R : Rep α} {sz base : Nat} {e : TypeId} {F : Foot} {w : World} {v : Value} {xs : List α} (h : OwnS R sz base e F w v xs) : xs.length ≤ 9223372036854775807 := by
  obtain ⟨cells, ho, _⟩ := h
  rcases ho.2 with ⟨_, hn⟩ | ⟨g, cap, cur, _, _, _, hle, hm, _⟩
  · omega
  · unfold maxLen at hm; omega

end Go.Proofs.YtpgopmmobbemcaaGreat

set_option linter.unusedVariables false
namespace Go.Proofs.YtpgopmmobbemcaaGreat
open Go.RowKit

def commRes (p : Prc) (s a b : Int) : Bool × Int :=
  if stateErr p s = 0 then (if belowB a p.letters && belowB b p.letters then (commB p.rules s a b, 0) else (false, 2)) else (false, stateErr p s)
def BoolPost (w : World) (r : Bool × Int) (e : Ending) (w' : World) : Prop :=
  e = .returned (.tuple #[.bool r.1, .int .i64 r.2]) ∧ Below w.heap.size w w'
end Go.Proofs.YtpgopmmobbemcaaGreat

set_option linter.unusedVariables false
namespace Go.Proofs.YtpgopmmobbemcaaGreat
open Go.RowKit

def RightP (S L s : Int) (rs : List (List Rul)) (word : List Int) : Prop := checkErr ⟨S, L, rs⟩ 12 = 0 ∧ (0 ≤ s ∧ s < S) ∧ word.length ≤ 40 ∧ lettersErr L word = 0

end Go.Proofs.YtpgopmmobbemcaaGreat

set_option linter.unusedVariables false
namespace Go.Proofs.YtpgopmmobbemcaaGreat
open Go.RowKit

def sumLen (l : List (List Out)) : Nat := (l.map List.length).sum

end Go.Proofs.YtpgopmmobbemcaaGreat

set_option linter.unusedVariables false
namespace Go.Proofs.YtpgopmmobbemcaaGreat
open Go.RowKit

theorem readSpec_app (rs : List (List Rul)) : ∀ (a b : List Int) (s : Int), readSpec rs s (a ++ b) = ((readSpec rs (readSpec rs s a).1 b).1, (readSpec rs s a).2 ++ (readSpec rs (readSpec rs s a).1 b).2)
  | [], b, s => by simp [readSpec]
  | x :: a, b, s => by
    have h := readSpec_app rs a b (ruleAt rs s x).next
    simp only [List.cons_append, readSpec]
    rw [h]
    simp
theorem letters_of {L : Int} : ∀ {l : List Int}, (∀ a ∈ l, 0 ≤ a ∧ a < L) → lettersErr L l = 0
  | [], _ => rfl
  | a :: r, h => by
    have h1 := h a (by simp)
    have h2 : belowB a L = true := by simp [belowB]; omega
    simp only [lettersErr, h2]
    exact letters_of fun x hx => h x (by simp [hx])
theorem SliceR.take {α : Type} {R : Rep α} {sz : Nat} {F : Foot} {w : World} {oa : Option Addr} {xs : List α} (h : SliceR R sz F w oa xs) (k : Nat) : SliceR R sz F w oa (xs.take k) := by
  intro i x hx
  rw [List.getElem?_take] at hx
  split at hx
  · exact h i x hx
  · cases hx
end Go.Proofs.YtpgopmmobbemcaaGreat

set_option linter.unusedVariables false
set_option linter.unusedSimpArgs false
set_option linter.unnecessarySimpa false
namespace Go.Proofs.YtpgopmmobbemcaaGreat
open Go.RowKit

def negB (l : List Int) : Bool := l.any fun x => decide (x < 0)

set_option maxHeartbeats 400000 in
theorem min_any (l : List Int) (oa : Option Addr) (c : Nat) (F : Foot) (w : World) (hs : SliceR intR 1 F w oa l) (hc : l.length ≤ c) (hc2 : l.length ≤ 9223372036854775807) (hne : 0 < l.length) :
    Calls Tryz.prog 90 #[.slice oa l.length c] w fun e w' => ∃ m : Int, e = .returned (.int .i64 m) ∧ decide (m < 0) = negB l ∧ w = w' := by
  obtain ⟨x0, hd0, _, i0, b, off, hoa, _, c0⟩ := hs.int_at hne
  have hoa' := hoa
  subst hoa'
  have HD0 := hide hd0
  have H0 : Hid (decide (x0 < 0) = negB (l.take 1)) := by
    rw [List.drop_zero] at hd0
    show _ = _
    rw [hd0]
    simp [negB]
  have I0 := hide i0
  clear hd0 hoa i0
  rw [Nat.add_zero] at c0
  have hl1 : decide ((l.length : Int) < 1) = false := by simp; omega
  go_enter Tryz.func90, Tryz.ntmps90
  go_wp2_with fail
  go_loop [3, 4] (fun mv i => ∃ (k : Nat) (m : Int), 0 < k ∧ k ≤ l.length ∧ mv = .int .i64 m ∧ i = .int .i64 k ∧ Hid (decide (m < 0) = negB (l.take k))) (fun _ i => l.length - (intOf i).toNat)
  case atStart => exact ⟨1, x0, by omega, by omega, rfl, rfl, H0⟩
  case round =>
    obtain ⟨k, m, hk0, hk, rfl, rfl, HM⟩ := hrel
    by_cases hlt : k < l.length
    · obtain ⟨x, hd, hget, _, b', off', hoa, _, cx⟩ := hs.int_at hlt
      injection hoa with hoa
      injection hoa with e1 e2
      subst e1 e2
      have HN : Hid (negB (l.take (k + 1)) = (negB (l.take k) || decide (x < 0))) := by
        show _ = _
        rw [List.take_add_one, hget]
        simp [negB]
      clear hd hget
      by_cases hmx : x < m
      · go_wp2_with fail
        go_round
        case rel =>
          refine ⟨k + 1, _, by omega, by omega, rfl, by go_num, ?_⟩
          show _ = _
          rw [HN.out, ← HM.out]
          by_cases h1 : m < 0 <;> by_cases h2 : x < 0 <;> simp [h1, h2] <;> omega
        case measure => simp [intOf]; omega
      · go_wp2_with fail
        go_round
        case rel =>
          refine ⟨k + 1, _, by omega, by omega, rfl, by go_num, ?_⟩
          show _ = _
          rw [HN.out, ← HM.out]
          by_cases h1 : m < 0 <;> by_cases h2 : x < 0 <;> simp [h1, h2] <;> omega
        case measure => simp [intOf]; omega
    · go_wp2_with fail
      go_ret
      refine ⟨m, rfl, ?_, rfl⟩
      rw [HM.out, List.take_of_length_le (by omega)]

end Go.Proofs.YtpgopmmobbemcaaGreat

set_option linter.unusedVariables false
namespace Go.Proofs.YtpgopmmobbemcaaGreat
open Go.RowKit

theorem mul64_one (n : Nat) (hn : n ≤ 1000000) (w : World) : Calls Tryz.prog 135 #[.int .u64 1, .int .u64 n] w fun e w' => e = .returned (.tuple #[.int .u64 0, .int .u64 n]) ∧ w = w' := by
  have h1 : bits .and .u64 (1 : Int) 4294967295 = 1 := by decide
  have h2 : bits .and .u64 (n : Int) 4294967295 = n := by
    have h := bits_and_u64_nat n 4294967295 (by omega) (by omega)
    have e : n &&& 4294967295 = n % 4294967296 := Nat.and_two_pow_sub_one_eq_mod n 32
    rw [e, Nat.mod_eq_of_lt (by omega)] at h
    exact h
  have h3 : bits .and .u64 (0 : Int) 4294967295 = 0 := by decide
  have h4 : (n : Int) / 4294967296 = 0 := by omega
  have h5 : IntKind.u64.wrap (n : Int) = n := by rw [IntKind.wrap_u64]; omega
  go_enter Tryz.func135, Tryz.ntmps135
  go_wp2_with fail
  go_ret2
  simp
theorem mul_one (n : Nat) (hn : n ≤ 1000000) (w : World) : Calls Tryz.prog 109 #[.int .u64 1, .int .u64 n] w fun e w' => e = .returned (.tuple #[.int .u64 0, .int .u64 n]) ∧ w = w' := by
  go_enter Tryz.func109, Tryz.ntmps109
  go_wp2_with (go_at_call 135; refine (mul64_one n hn _).mono ?_; rintro e w' ⟨rfl, rfl⟩)
  go_ret2
  exact ⟨rfl, rfl⟩

theorem intInfo : (Tryz.prog.info? 3).map (fun i => (i.zero, i.size, i.bytes)) = some (some (.int .i64 0), 1, 8) := by kernel_rfl
theorem intSize : (Tryz.prog.info? 3).map (·.size) = some 1 := by kernel_rfl

def IntsMade (w : World) (r : List Int) (e : Ending) (w' : World) : Prop :=
  ∃ v, e = .returned v ∧ OwnS intR 1 w.heap.size 3 Non w' v r ∧ Below w.heap.size w w'

/-- A row of n cells, of which the first m hold x. -/
def RowI (w : World) (g n : Nat) (x : Int) (m : Nat) : Prop := ∃ cur : List Value, w.heap[g]? = some (.cells cur.toArray 3 (0, 0)) ∧ cur.length = n ∧ ∀ j, j < m → cur[j]? = some (.int .i64 x)

theorem copy_first {w w1 : World} {n c b off : Nat} {x : Int} {zs : List Value} (hown : w1.ownsRow w.heap.size 3 1 (.slice (some ⟨w.heap.size, 0, none⟩) n n) n zs) (hg : w.grownBy w1 none) (cx : w.cell? ⟨b, off, none⟩ = some (.int .i64 x)) :
    ∃ (m : Nat) (w2 : World), Hid (m = min n 1) ∧ (Builtin.copy_ #[25, 25] 3 #[.slice (some ⟨w.heap.size, 0, none⟩) n n, .slice (some ⟨b, off, none⟩) 1 c]).run Tryz.prog w1 = .ok (.int .i64 m) w2 ∧ RowI w2 w.heap.size n x m ∧ Below w.heap.size w w2 := by
  obtain ⟨hl, hv⟩ := hown
  have hb1 : Below w.heap.size w w1 := (Below.refl w.heap.size w).grown hg (Nat.le_refl _) fun k hk => by cases hk
  rcases hv with ⟨he, _⟩ | ⟨g, cap, cur, he, _, hh, _, _, hcs, _⟩
  · cases he
  · injection he with h1 h2 h3
    injection h1 with h1
    injection h1 with h1
    subst h1 h3
    rcases Nat.eq_zero_or_pos n with h0 | h0
    · subst h0
      refine ⟨0, w1, rfl, run_copy_none w1 _ _ _ 3 _ _ _ _ _ _ Tryz.underlying25 intSize (by simp), ⟨cur.toList, by simpa using hh, by simpa using hcs, fun j hj => by omega⟩, hb1⟩
    · have hcell : w1.cell? ⟨b, off, none⟩ = some (.int .i64 x) := (hb1.cell (World.block_lt_of_cell? _ _ cx)).trans cx
      have hrun := run_copy_row (P := Tryz.prog) w1 25 25 3 3 w.heap.size 0 n n ⟨b, off, none⟩ 1 c cur 3 [.int .i64 x] Tryz.underlying25 intSize hh (by show 1 = min 1 n; omega) (fun j v hj => by
        match j, hj with
        | 0, hj => simp at hj; subst hj; simpa [Addr.add] using hcell) (by rw [hcs]; simp; omega) (by simp [Value.oneCell'])
      refine ⟨1, _, by show _ = _; omega, hrun, ⟨_, setRow_heap w1 _ _ _ _ _ hh, ?_, ?_⟩, below_setRow hb1 (Nat.le_refl _) _⟩
      · simp [hcs]; omega
      · intro j hj
        have : j = 0 := by omega
        subst this
        simp

set_option maxRecDepth 100000 in
set_option maxHeartbeats 2000000 in
theorem repeat_any (x : Int) (n c : Nat) (oa : Option Addr) (F : Foot) (w : World) (ix : I64 x) (hn : n ≤ 256) (hs : SliceR intR 1 F w oa [x]) :
    Calls Tryz.prog 153 #[.slice oa 1 c, .int .i64 n] w (IntsMade w (List.replicate n x)) := by
  obtain ⟨x', _, hx', _, b, off, rfl, _, cx⟩ := hs.int_at (i := 0) (by simp)
  simp at hx'
  subst hx'
  rw [Nat.add_zero] at cx
  obtain ⟨i, hi, hz, hsz, hby⟩ := info_parts intInfo
  have IX := hide ix
  have HI := hide (And.intro hi (And.intro hz (And.intro hsz hby)))
  clear hi hz hsz hby ix
  have hd1 : decide ((n : Int) < 0) = false := by simp
  have hd2 : decide (9223372036854775807 < (n : Int)) = false := by simp; omega
  go_enter Tryz.func153, Tryz.ntmps153
  go_wp2_with (first
    | (go_at_call 109; refine (mul_one n (by omega) _).mono ?_; rintro e w' ⟨rfl, rfl⟩)
    | (at_make; refine wpList_make_full _ rfl _ _ 25 rfl w.heap.size 3 i _ 1 Tryz.underlying25 HI.out.1 HI.out.2.1 HI.out.2.2.1 .i64 .i64 _ _ n rfl rfl rfl rfl (by rw [HI.out.2.2.2]; omega) (by unfold maxLen; omega) (Nat.le_refl _) (fun w1 hown hgrow => ?_)
       obtain ⟨m0, w2, HM0, hcp, hrow, hbw⟩ := copy_first (c := c) hown hgrow cx
       clear hown hgrow))
  clear hcp cx
  go_loopw [8] (fun v wr => ∃ m : Nat, v = .int .i64 m ∧ m ≤ n ∧ (n = 0 ∨ 0 < m) ∧ RowI wr w.heap.size n x m ∧ Below w.heap.size w wr) (fun v _ => n - (intOf v).toNat)
  case atStart => exact ⟨m0, rfl, by have := HM0.out; omega, by have := HM0.out; omega, hrow, hbw⟩
  case round =>
    obtain ⟨m, rfl, hmn, hm0, ⟨cur, hcur, hcl, hcx⟩, hb⟩ := hrel
    by_cases hlt : m < n
    · have hm1 : 0 < m := by omega
      have hnm : ¬ n = m := by omega
      obtain ⟨q, hq⟩ : ∃ q, q = min m (n - m) := ⟨_, rfl⟩
      have hq1 : 0 < q := by omega
      have hq2 : m + q ≤ n := by omega
      have hqm : q ≤ m := by omega
      have hwr : IntKind.i64.wrap ((m : Int) + (q : Int)) = (m : Int) + q := IntWalk.i64_in _ (by omega)
      have HQ := hide hq
      have HCUR := hide hcur
      have HCX := hide hcx
      have HCL := hide hcl
      clear hq hcur hcx hcl hrow hbw
      go_wp2_with fail
      go_region_law (refine step_copy_splice rfl (.tmp 41) (.tmp 44) 25 25 rfl 3 Tryz.underlying25 intSize (some ⟨w.heap.size, m, none⟩) (some ⟨w.heap.size, 0, none⟩) (n - m) (n - m) m n (by simp [Act.eval, Act.put]) (by simp [Act.eval, Act.put]) w.heap.size m cur 3 HCUR.out (List.replicate q (.int .i64 x)) (by have := HQ.out; simp; omega) (fun _ => ⟨rfl, _, rfl, fun j v hj => by
        have hjq : j < q := by have := (List.getElem?_eq_some_iff.1 hj).1; simpa using this
        rw [List.getElem?_replicate] at hj
        simp [hjq] at hj
        subst hj
        rw [show (Addr.mk w.heap.size 0 none).add j = ⟨w.heap.size, j, none⟩ from by unfold Addr.add; split <;> simp_all]
        change wr.cell? ⟨w.heap.size, j, none⟩ = _
        rw [cell_of_row wr w.heap.size j _ _ _ HCUR.out]
        simpa using HCX.out j (by omega)⟩) (by simp; have := HCL.out; omega) (by simp [Value.oneCell']) w.heap.size w hb.drew (Nat.le_refl _) ?_; intro w4 hg4 hb4)
      all_goals
        simp [Act.put]
        go_roundw
        case rel =>
          refine ⟨_, _, _, _, _, _, _, _, _, _, _, _, _, _, ⟨m + q, by go_num, by omega, .inr (by omega), ⟨_, hg4.out, by rw [length_splice _ _ _ (by simp; have := HCL.out; omega)]; exact HCL.out, ?_⟩, hb4⟩, rfl⟩
          intro j hj
          unfold splice
          have hcl := HCL.out
          by_cases h : j < m
          · rw [List.getElem?_append_left (by simp; omega), List.getElem?_take_of_lt h]
            exact HCX.out j h
          · rw [List.getElem?_append_right (by simp; omega), List.getElem?_append_left (by simp; omega), List.getElem?_replicate]
            rw [if_pos (by simp; omega)]
        case measure => simp [intOf]; omega
    · have hmn2 : m = n := by omega
      subst hmn2
      have HCUR := hide hcur
      have HCX := hide hcx
      have HCL := hide hcl
      clear hcur hcx hcl
      go_wp2_with fail
      go_ret
      have hcl := HCL.out
      have hrep : cur = List.replicate m (.int .i64 x) := by
        apply List.ext_getElem?
        intro j
        by_cases h : j < m
        · rw [HCX.out j h, List.getElem?_replicate, if_pos h]
        · rw [List.getElem?_eq_none (by omega), List.getElem?_eq_none (by simp; omega)]
      subst hrep
      refine ⟨_, rfl, ⟨List.replicate m (.int .i64 x), ⟨by simp, .inr ⟨w.heap.size, m, _, by simp, Nat.le_refl _, HCUR.out, by simp, by unfold maxLen; omega, by simp, by simp⟩⟩, ?_, ?_⟩, hb⟩
      · intro u hu
        rw [List.eq_of_mem_replicate hu]
        rfl
      · intro j y hy
        have hj : j < m := by have := (List.getElem?_eq_some_iff.1 hy).1; simpa using this
        rw [List.getElem?_replicate, if_pos hj] at hy
        injection hy with hy
        subst hy
        refine ⟨?_, IX.out⟩
        unfold chunk
        apply List.ext_getElem?
        intro k
        rw [List.getElem?_take]
        split
        · have : k = 0 := by omega
          subst this
          rw [List.getElem?_drop, List.getElem?_replicate, if_pos (by omega)]
          rfl
        · rw [List.getElem?_eq_none (by simp; omega)]

end Go.Proofs.YtpgopmmobbemcaaGreat

set_option linter.unusedVariables false
namespace Go.Proofs.YtpgopmmobbemcaaGreat
open Go.RowKit

def wordFrom : Nat → List Int → List Int
  | _, [] => []
  | a, n :: r => List.replicate n.toNat (a : Int) ++ wordFrom (a + 1) r
def manyErr (L : Int) (l : List Int) : Int := if (l.length : Int) = L then (if negB l then 2 else if 256 < (wordFrom 0 l).length then 5 else 0) else 8

end Go.Proofs.YtpgopmmobbemcaaGreat

set_option linter.unusedVariables false
namespace Go.Proofs.YtpgopmmobbemcaaGreat
open Go.RowKit

end Go.Proofs.YtpgopmmobbemcaaGreat

set_option linter.unusedVariables false
namespace Go.Proofs.YtpgopmmobbemcaaGreat
open Go.RowKit

def capS : List Int → Int
  | [] => 0
  | n :: r => min n 257 + capS r
end Go.Proofs.YtpgopmmobbemcaaGreat

set_option linter.unusedVariables false
namespace Go.Proofs.YtpgopmmobbemcaaGreat
open Go.RowKit

def manyRes (p : Prc) (s : Int) (l : List Int) : Int × List Out × Int :=
  if stateErr p s = 0 then (if manyErr p.letters l = 0 then ((readSpec p.rules s (wordFrom 0 l)).1, isort (readSpec p.rules s (wordFrom 0 l)).2, 0) else (0, [], manyErr p.letters l)) else (0, [], stateErr p s)

end Go.Proofs.YtpgopmmobbemcaaGreat

set_option linter.unusedVariables false
set_option linter.unusedSimpArgs false
namespace Go.Proofs.YtpgopmmobbemcaaGreat
open Go.RowKit

/-- All letters commute in all states. -/
def AllComm (rs : List (List Rul)) (S L : Int) : Prop := ∀ s a b : Int, 0 ≤ s ∧ s < S → 0 ≤ a ∧ a < L → 0 ≤ b ∧ b < L → commB rs s a b = true

theorem read_range {S L : Int} {rs : List (List Rul)} (hV : checkErr ⟨S, L, rs⟩ 12 = 0) (l : List Int) (s : Int) (hs : 0 ≤ s ∧ s < S) (hl : ∀ a ∈ l, 0 ≤ a ∧ a < L) : 0 ≤ (readSpec rs s l).1 ∧ (readSpec rs s l).1 < S :=
  (readSpec_right (p := ⟨S, L, rs⟩) hV l s hs (letters_of hl)).1

theorem read_perm {S L : Int} {rs : List (List Rul)} (hV : checkErr ⟨S, L, rs⟩ 12 = 0) (hC : AllComm rs S L) {l m : List Int} (hp : l.Perm m) :
    (∀ a ∈ l, 0 ≤ a ∧ a < L) → ∀ s : Int, 0 ≤ s ∧ s < S → (readSpec rs s l).1 = (readSpec rs s m).1 ∧ (readSpec rs s l).2.Perm (readSpec rs s m).2 := by
  induction hp with
  | nil => intro _ s _; exact ⟨rfl, List.Perm.refl _⟩
  | cons a _ ih =>
    intro hl s hs
    have h1 := read_range hV [a] s hs (fun x hx => hl x (by simp at hx; simp [hx]))
    have h2 := ih (fun x hx => hl x (by simp [hx])) (ruleAt rs s a).next h1
    simp only [readSpec]
    exact ⟨h2.1, h2.2.append_left _⟩
  | swap a b r =>
    intro hl s hs
    have h := hC s b a hs (hl b (by simp)) (hl a (by simp))
    unfold commB at h
    simp only [Bool.and_eq_true, decide_eq_true_eq] at h
    have e1 := readSpec_app rs [b, a] r s
    have e2 := readSpec_app rs [a, b] r s
    simp only [List.cons_append, List.nil_append] at e1 e2
    rw [e1, e2]
    refine ⟨by simp only; rw [h.1], ?_⟩
    simp only
    rw [h.1]
    refine List.Perm.append_right _ ?_
    exact ((isort_perm _).symm.trans (h.2 ▸ List.Perm.refl _)).trans (isort_perm _)
  | trans h1 h2 ih1 ih2 =>
    intro hl s hs
    have a1 := ih1 hl s hs
    have a2 := ih2 (fun x hx => hl x (h1.mem_iff.2 hx)) s hs
    exact ⟨a1.1.trans a2.1, a1.2.trans a2.2⟩

/-- The counts of a word's letters. -/
def tally (L : Nat) (l : List Int) : List Int := (List.range L).map fun a : Nat => (l.count (a : Int) : Int)
theorem tally_nil (L : Nat) : tally L [] = List.replicate L 0 := by
  apply List.ext_getElem?
  intro i
  simp only [tally, List.getElem?_map, List.getElem?_replicate]
  by_cases h : i < L
  · simp [h]
  · simp [h]
end Go.Proofs.YtpgopmmobbemcaaGreat

set_option linter.unusedVariables false
set_option linter.unusedSimpArgs false
namespace Go.Proofs.YtpgopmmobbemcaaGreat
open Go.RowKit

theorem sub_rest : ∀ (h h' : List Int), (∀ a, h.count a ≤ h'.count a) → ∃ r, h'.Perm (h ++ r)
  | [], h', _ => ⟨h', List.Perm.refl _⟩
  | a :: t, h', hc => by
    have ha : a ∈ h' := by
      have := hc a
      rw [List.count_cons_self] at this
      exact List.count_pos_iff.1 (by omega)
    have hp := List.perm_cons_erase ha
    obtain ⟨r, hr⟩ := sub_rest t (h'.erase a) fun b => by
      have h1 := hc b
      rw [hp.count_eq b, List.count_cons, List.count_cons] at h1
      omega
    exact ⟨r, hp.trans (hr.cons a)⟩

def sumN (f : Nat → Nat) : Nat → Nat
  | 0 => 0
  | n + 1 => sumN f n + f n
theorem sumN_le {f g : Nat → Nat} : ∀ {n : Nat}, (∀ p, p < n → f p ≤ g p) → sumN f n ≤ sumN g n
  | 0, _ => Nat.le_refl _
  | n + 1, h => by
    have h1 := sumN_le (n := n) fun p hp => h p (by omega)
    have h2 := h n (by omega)
    simp only [sumN]
    omega
theorem sumN_eq {f g : Nat → Nat} {n : Nat} (h : ∀ p, p < n → f p = g p) : sumN f n = sumN g n :=
  Nat.le_antisymm (sumN_le fun p hp => Nat.le_of_eq (h p hp)) (sumN_le fun p hp => Nat.le_of_eq (h p hp).symm)
theorem sumN_one {f g : Nat → Nat} {k : Nat} : ∀ {n : Nat}, k < n → (∀ p, p < n → p ≠ k → f p = g p) → sumN f n + g k = sumN g n + f k
  | 0, h, _ => by omega
  | n + 1, h, he => by
    simp only [sumN]
    by_cases hk : k = n
    · subst hk
      rw [sumN_eq fun p hp => he p (by omega) (by omega)]
      omega
    · have h1 := sumN_one (n := n) (k := k) (by omega) fun p hp hne => he p (by omega) hne
      rw [he n (by omega) (by omega)]
      omega
theorem sumN_mem {f : Nat → Nat} {k : Nat} : ∀ {n : Nat}, k < n → f k ≤ sumN f n
  | 0, h => by omega
  | n + 1, h => by
    simp only [sumN]
    by_cases hk : k = n
    · subst hk; omega
    · have := sumN_mem (f := f) (n := n) (k := k) (by omega)
      omega
theorem sumN_le_eq {f g : Nat → Nat} : ∀ {n : Nat}, (∀ p, p < n → f p ≤ g p) → sumN g n ≤ sumN f n → ∀ p, p < n → f p = g p
  | 0, _, _, p, hp => by omega
  | n + 1, h, he, p, hp => by
    simp only [sumN] at he
    have h1 := sumN_le (n := n) fun p hp => h p (by omega)
    have h2 := h n (by omega)
    by_cases hk : p = n
    · subst hk; omega
    · exact sumN_le_eq (n := n) (fun p hp => h p (by omega)) (by omega) p (by omega)

/-- The letters a for q among some outputs. -/
def cntO (os : List Out) (q a : Nat) : Nat := os.countP fun o => decide (o.dst = (q : Int) ∧ o.letter = (a : Int))
theorem cntO_app (l m : List Out) (q a : Nat) : cntO (l ++ m) q a = cntO l q a + cntO m q a := by unfold cntO; rw [List.countP_append]
theorem cntO_perm {l m : List Out} (h : l.Perm m) (q a : Nat) : cntO l q a = cntO m q a := h.countP_eq _

/-- What a processor of a network comes to by a history. -/
def histR (x : Nwk) (p : Nat) (h : List Int) : Int × List Out := readSpec (x.procs.getD p prc0).rules (x.state.getD p 0) h
def sentN (x : Nwk) (hs : Nat → List Int) (q a : Nat) : Nat := sumN (fun p => cntO (histR x p (hs p)).2 q a) x.procs.length
def cellT (t : List (List Int)) (q a : Nat) : Int := (t.getD q []).getD a 0
def AbN (x : Nwk) : Prop := ∀ (i : Nat) (p : Prc), x.procs[i]? = some p → AllComm p.rules p.states p.letters
def InL (x : Nwk) (hs : Nat → List Int) : Prop := ∀ p, p < x.procs.length → ∀ a ∈ hs p, 0 ≤ a ∧ a < (lettersP x.procs p : Int)
def LeH (x : Nwk) (hs hc : Nat → List Int) : Prop := ∀ p, p < x.procs.length → ∀ a : Int, (hs p).count a ≤ (hc p).count a
def totH (x : Nwk) (hs : Nat → List Int) : Nat := sumN (fun p => (hs p).length) x.procs.length
/-- Complete histories: all letters that are there were read. -/
def Compl (x : Nwk) (hs : Nat → List Int) : Prop := ∀ q a, q < x.procs.length → a < lettersP x.procs q → cellT x.waiting q a + sentN x hs q a ≤ ((hs q).count (a : Int) : Int)

section
variable {x : Nwk} {hs hc : Nat → List Int}
theorem getD_procs {x : Nwk} {p : Nat} (hp : p < x.procs.length) : x.procs[p]? = some (x.procs.getD p prc0) := by rw [getD_some (List.getElem?_eq_getElem hp)]; exact List.getElem?_eq_getElem hp
theorem Right.st0 (hr : Right x) {p : Nat} (hp : p < x.procs.length) : 0 ≤ x.state.getD p 0 ∧ x.state.getD p 0 < (x.procs.getD p prc0).states := by
  have hs := List.getElem?_eq_getElem (show p < x.state.length by rw [hr.nst]; exact hp)
  rw [getD_some hs]
  exact hr.st p _ _ hs (getD_procs hp)
theorem Right.let0 (hr : Right x) {p : Nat} (hp : p < x.procs.length) : (x.procs.getD p prc0).letters = (lettersP x.procs p : Int) := by
  have := hr.letters p hp
  unfold lettersP at this ⊢
  omega
theorem hist_perm (hr : Right x) (hA : AbN x) {p : Nat} (hp : p < x.procs.length) {l m : List Int} (hl : ∀ a ∈ l, 0 ≤ a ∧ a < (lettersP x.procs p : Int)) (h : l.Perm m) : (histR x p l).1 = (histR x p m).1 ∧ (histR x p l).2.Perm (histR x p m).2 := by
  have hpr := getD_procs hp
  have hck : checkErr (x.procs.getD p prc0) 12 = 0 := checkErr_more (hr.proc p _ hpr)
  exact read_perm (S := (x.procs.getD p prc0).states) (L := (x.procs.getD p prc0).letters) hck (hA p _ hpr) h (by rw [hr.let0 hp]; exact hl) _ (hr.st0 hp)
theorem hist_mono (hr : Right x) (hA : AbN x) {p : Nat} (hp : p < x.procs.length) {l m : List Int} (hm : ∀ a ∈ m, 0 ≤ a ∧ a < (lettersP x.procs p : Int)) (hc : ∀ a, l.count a ≤ m.count a) (q a : Nat) : cntO (histR x p l).2 q a ≤ cntO (histR x p m).2 q a := by
  obtain ⟨r, hp'⟩ := sub_rest l m hc
  rw [cntO_perm (hist_perm hr hA hp hm hp').2]
  unfold histR
  rw [readSpec_app]
  simp only [cntO_app]
  omega
theorem sent_mono (hr : Right x) (hA : AbN x) (hI : InL x hc) (hL : LeH x hs hc) (q a : Nat) : sentN x hs q a ≤ sentN x hc q a :=
  sumN_le fun p hp => hist_mono hr hA hp (hI p hp) (hL p hp) q a
/-- The least action: where a letter may still be read, fewer have been read than by complete histories. -/
theorem least (hr : Right x) (hA : AbN x) (hI : InL x hc) (hC : Compl x hc) (hL : LeH x hs hc) {q a : Nat} (hq : q < x.procs.length) (ha : a < lettersP x.procs q) (h : ((hs q).count (a : Int) : Int) < cellT x.waiting q a + sentN x hs q a) :
    (hs q).count (a : Int) < (hc q).count (a : Int) := by
  have h1 := sent_mono hr hA hI hL q a
  have h2 := hC q a hq ha
  omega
theorem LeH.len (h : LeH x hs hc) {p : Nat} (hp : p < x.procs.length) : (hs p).length ≤ (hc p).length := by
  obtain ⟨r, hr⟩ := sub_rest _ _ (h p hp)
  rw [hr.length_eq, List.length_append]
  omega
theorem LeH.tot (h : LeH x hs hc) : totH x hs ≤ totH x hc := sumN_le fun p hp => h.len hp
/-- A history with one letter more. -/
def upH (hs : Nat → List Int) (p : Nat) (a : Int) : Nat → List Int := fun q => if q = p then hs q ++ [a] else hs q
/-- A network behind some moves, with what each processor has read. -/
structure HistI (x : Nwk) (hs : Nat → List Int) (y : Nwk) (ct : List (List Int)) : Prop where
  procs : y.procs = x.procs
  right : Right y
  inl : InL x hs
  st : ∀ p, p < x.procs.length → y.state.getD p 0 = (histR x p (hs p)).1
  ct : ct = (List.range x.procs.length).map fun p => tally (lettersP x.procs p) (hs p)
  wt : ∀ q a, q < x.procs.length → a < lettersP x.procs q → cellT y.waiting q a + ((hs q).count (a : Int) : Int) = cellT x.waiting q a + sentN x hs q a
theorem HistI.begin_ (hr : Right x) : HistI x (fun _ => []) x (x.procs.map fun p => List.replicate p.letters.toNat (0 : Int)) where
  procs := rfl
  right := hr
  inl := fun p hp a ha => by simp at ha
  st := fun p hp => rfl
  ct := by
    apply List.ext_getElem?
    intro i
    simp only [List.getElem?_map, tally_nil]
    by_cases h : i < x.procs.length
    · rw [List.getElem?_range h, getD_procs h]
      rfl
    · rw [List.getElem?_eq_none (by omega), List.getElem?_eq_none (by simp; omega)]
      rfl
  wt := fun q a hq ha => by
    have : sentN x (fun _ => []) q a = 0 := by
      have h1 := sumN_eq (f := fun p => cntO (histR x p []).2 q a) (g := fun _ => 0) (n := x.procs.length) fun p hp => rfl
      have h2 : ∀ n, sumN (fun _ => 0) n = 0 := fun n => by
        induction n with
        | zero => rfl
        | succ n ih => simp only [sumN]; omega
      unfold sentN
      rw [h1, h2]
    rw [this]
    simp

end

theorem LeH.nil (x : Nwk) (hc : Nat → List Int) : LeH x (fun _ => []) hc := fun p _ a => by simp
end Go.Proofs.YtpgopmmobbemcaaGreat

/-
  Networks of abelian processors, in plain Lean: histories (what each processor has read), what was sent by them, and the least action.
  network.Complete.
  Graphs as plain Lean; how they lie in memory; which are right.
  Comparing pairs: cmp.Compare, cmp.Or, (pair).compare; vertices.
  Check of graphs: the program and the reference.
  graph.at, graph.joined, slices.BinarySearchFunc at the edges of a graph, graph.Between.
  slices.Repeat of a list of one output; copy between places of a row of elements of several cells.
  network.sink, waiting, toppler: the processors of a sandpile.
  Check of graphs: the reference.
  Which states are reachable: plain Lean. Within k steps; after S steps nothing new.
  The search for reachable states, and the fixed point: plain Lean.
  Joined vertices: the forest of the program, and what is reached: plain Lean.
  The forest of a graph: root, join, grown, joined.
  The forest of a graph: joined.
  The parts of a forest: how many there are.
  The single edges of a graph: the iterator, Ends.
  The ends of the single edges: the program and the reference.
  Components, Connected, and joined of ribbon.
  The half-edges at each vertex.
-/
import Derived.Test.YtnigfddanoaonaaGreatNl3
import Derived.Test.YtnigfddanoaonaaGreatProg
import Derived.Deep.RegionHeld3
import Derived.BigQuiet
import Derived.StillTailTactics
import Derived.Outline
import Derived.Deep.AppendLies
import Derived.RangeFuncBox
import Derived.RangeFuncNested
import Derived.RangeFuncLeaves
import Derived.Shelf.Abstract
import Derived.OwnWalkIn
import Derived.TacticsInMore
import Derived.LoopNIn
import Derived.LoopIn
import Derived.Maps.AppendAt

set_option linter.unusedVariables false
set_option linter.unusedSimpArgs false
namespace Go.Proofs.YtnigfddanoaonaaGreat
open Go.RowKit

theorem sub_rest : ∀ (h h' : List Int), (∀ a, h.count a ≤ h'.count a) → ∃ r, h'.Perm (h ++ r)
  | [], h', _ => ⟨h', List.Perm.refl _⟩
  | a :: t, h', hc => by
    have ha : a ∈ h' := by
      have := hc a
      rw [List.count_cons_self] at this
      exact List.count_pos_iff.1 (by omega)
    have hp := List.perm_cons_erase ha
    obtain ⟨r, hr⟩ := sub_rest t (h'.erase a) fun b => by
      have h1 := hc b
      rw [hp.count_eq b, List.count_cons, List.count_cons] at h1
      omega
    exact ⟨r, hp.trans (hr.cons a)⟩

def sumN (f : Nat → Nat) : Nat → Nat
  | 0 => 0
  | n + 1 => sumN f n + f n
theorem sumN_le {f g : Nat → Nat} : ∀ {n : Nat}, (∀ p, p < n → f p ≤ g p) → sumN f n ≤ sumN g n
  | 0, _ => Nat.le_refl _
  | n + 1, h => by
    have h1 := sumN_le (n := n) fun p hp => h p (by omega)
    have h2 := h n (by omega)
    simp only [sumN]
    omega
theorem sumN_eq {f g : Nat → Nat} {n : Nat} (h : ∀ p, p < n → f p = g p) : sumN f n = sumN g n :=
  Nat.le_antisymm (sumN_le fun p hp => Nat.le_of_eq (h p hp)) (sumN_le fun p hp => Nat.le_of_eq (h p hp).symm)
theorem sumN_one {f g : Nat → Nat} {k : Nat} : ∀ {n : Nat}, k < n → (∀ p, p < n → p ≠ k → f p = g p) → sumN f n + g k = sumN g n + f k
  | 0, h, _ => by omega
  | n + 1, h, he => by
    simp only [sumN]
    by_cases hk : k = n
    · subst hk
      rw [sumN_eq fun p hp => he p (by omega) (by omega)]
      omega
    · have h1 := sumN_one (n := n) (k := k) (by omega) fun p hp hne => he p (by omega) hne
      rw [he n (by omega) (by omega)]
      omega
/-- The letters a for q among some outputs. -/
def cntO (os : List Out) (q a : Nat) : Nat := os.countP fun o => decide (o.dst = (q : Int) ∧ o.letter = (a : Int))
theorem cntO_nil (q a : Nat) : cntO [] q a = 0 := rfl
theorem cntO_app (l m : List Out) (q a : Nat) : cntO (l ++ m) q a = cntO l q a + cntO m q a := by unfold cntO; rw [List.countP_append]
theorem cntO_perm {l m : List Out} (h : l.Perm m) (q a : Nat) : cntO l q a = cntO m q a := h.countP_eq _

/-- What a processor of a network comes to by a history. -/
def histR (x : Nwk) (p : Nat) (h : List Int) : Int × List Out := readSpec (x.procs.getD p prc0).rules (x.state.getD p 0) h
def sentN (x : Nwk) (hs : Nat → List Int) (q a : Nat) : Nat := sumN (fun p => cntO (histR x p (hs p)).2 q a) x.procs.length
def cellT (t : List (List Int)) (q a : Nat) : Int := (t.getD q []).getD a 0
def AbN (x : Nwk) : Prop := ∀ (i : Nat) (p : Prc), x.procs[i]? = some p → AllComm p.rules p.states p.letters
def InL (x : Nwk) (hs : Nat → List Int) : Prop := ∀ p, p < x.procs.length → ∀ a ∈ hs p, 0 ≤ a ∧ a < (lettersP x.procs p : Int)
def LeH (x : Nwk) (hs hc : Nat → List Int) : Prop := ∀ p, p < x.procs.length → ∀ a : Int, (hs p).count a ≤ (hc p).count a
def totH (x : Nwk) (hs : Nat → List Int) : Nat := sumN (fun p => (hs p).length) x.procs.length
/-- Complete histories: all letters that are there were read. -/
def Compl (x : Nwk) (hs : Nat → List Int) : Prop := ∀ q a, q < x.procs.length → a < lettersP x.procs q → cellT x.waiting q a + sentN x hs q a ≤ ((hs q).count (a : Int) : Int)

section
variable {x : Nwk} {hs hc : Nat → List Int}
theorem getD_procs {x : Nwk} {p : Nat} (hp : p < x.procs.length) : x.procs[p]? = some (x.procs.getD p prc0) := by rw [getD_some (List.getElem?_eq_getElem hp)]; exact List.getElem?_eq_getElem hp
theorem Right.st0 (hr : Right x) {p : Nat} (hp : p < x.procs.length) : 0 ≤ x.state.getD p 0 ∧ x.state.getD p 0 < (x.procs.getD p prc0).states := by
  have hs := List.getElem?_eq_getElem (show p < x.state.length by rw [hr.nst]; exact hp)
  rw [getD_some hs]
  exact hr.st p _ _ hs (getD_procs hp)
theorem Right.let0 (hr : Right x) {p : Nat} (hp : p < x.procs.length) : (x.procs.getD p prc0).letters = (lettersP x.procs p : Int) := by
  have := hr.letters p hp
  unfold lettersP at this ⊢
  omega
theorem hist_perm (hr : Right x) (hA : AbN x) {p : Nat} (hp : p < x.procs.length) {l m : List Int} (hl : ∀ a ∈ l, 0 ≤ a ∧ a < (lettersP x.procs p : Int)) (h : l.Perm m) : (histR x p l).1 = (histR x p m).1 ∧ (histR x p l).2.Perm (histR x p m).2 := by
  have hpr := getD_procs hp
  have hck : checkErr (x.procs.getD p prc0) 12 = 0 := checkErr_more (hr.proc p _ hpr)
  exact read_perm (S := (x.procs.getD p prc0).states) (L := (x.procs.getD p prc0).letters) hck (hA p _ hpr) h (by rw [hr.let0 hp]; exact hl) _ (hr.st0 hp)
theorem hist_mono (hr : Right x) (hA : AbN x) {p : Nat} (hp : p < x.procs.length) {l m : List Int} (hm : ∀ a ∈ m, 0 ≤ a ∧ a < (lettersP x.procs p : Int)) (hc : ∀ a, l.count a ≤ m.count a) (q a : Nat) : cntO (histR x p l).2 q a ≤ cntO (histR x p m).2 q a := by
  obtain ⟨r, hp'⟩ := sub_rest l m hc
  rw [cntO_perm (hist_perm hr hA hp hm hp').2]
  unfold histR
  rw [readSpec_app]
  simp only [cntO_app]
  omega
theorem sent_mono (hr : Right x) (hA : AbN x) (hI : InL x hc) (hL : LeH x hs hc) (q a : Nat) : sentN x hs q a ≤ sentN x hc q a :=
  sumN_le fun p hp => hist_mono hr hA hp (hI p hp) (hL p hp) q a
/-- The least action: where a letter may still be read, fewer have been read than by complete histories. -/
theorem least (hr : Right x) (hA : AbN x) (hI : InL x hc) (hC : Compl x hc) (hL : LeH x hs hc) {q a : Nat} (hq : q < x.procs.length) (ha : a < lettersP x.procs q) (h : ((hs q).count (a : Int) : Int) < cellT x.waiting q a + sentN x hs q a) :
    (hs q).count (a : Int) < (hc q).count (a : Int) := by
  have h1 := sent_mono hr hA hI hL q a
  have h2 := hC q a hq ha
  omega
theorem LeH.len (h : LeH x hs hc) {p : Nat} (hp : p < x.procs.length) : (hs p).length ≤ (hc p).length := by
  obtain ⟨r, hr⟩ := sub_rest _ _ (h p hp)
  rw [hr.length_eq, List.length_append]
  omega
theorem LeH.tot (h : LeH x hs hc) : totH x hs ≤ totH x hc := sumN_le fun p hp => h.len hp
/-- A history with one letter more. -/
def upH (hs : Nat → List Int) (p : Nat) (a : Int) : Nat → List Int := fun q => if q = p then hs q ++ [a] else hs q
theorem upH_at (hs : Nat → List Int) (p : Nat) (a : Int) : upH hs p a p = hs p ++ [a] := by simp [upH]
theorem upH_ne (hs : Nat → List Int) {p q : Nat} (a : Int) (h : q ≠ p) : upH hs p a q = hs q := by simp [upH, h]
theorem upH_le {p : Nat} {a : Int} (h : LeH x hs hc) (ha : (hs p).count a < (hc p).count a) : LeH x (upH hs p a) hc := by
  intro q hq b
  by_cases hqp : q = p
  · subst hqp
    rw [upH_at, List.count_append, List.count_singleton]
    have := h q hq b
    by_cases hb : a = b
    · subst hb; simp; omega
    · simp [hb]; omega
  · rw [upH_ne hs a hqp]
    exact h q hq b
theorem upH_in {p a : Nat} (h : InL x hs) (ha : a < lettersP x.procs p) : InL x (upH hs p a) := by
  intro q hq b hb
  by_cases hqp : q = p
  · subst hqp
    rw [upH_at] at hb
    rcases List.mem_append.1 hb with hb | hb
    · exact h q hq b hb
    · rw [List.mem_singleton] at hb
      subst hb
      omega
  · rw [upH_ne hs _ hqp] at hb
    exact h q hq b hb
theorem upH_tot {p : Nat} (hp : p < x.procs.length) (a : Int) : totH x (upH hs p a) = totH x hs + 1 := by
  unfold totH
  have h1 := sumN_one (f := fun q => (upH hs p a q).length) (g := fun q => (hs q).length) hp fun q hq hne => by rw [upH_ne hs a hne]
  rw [upH_at, List.length_append, List.length_singleton] at h1
  omega
/-- What a processor sends that reads a letter more. -/
theorem hist_snoc (x : Nwk) (p : Nat) (h : List Int) (a : Int) : histR x p (h ++ [a]) = ((ruleAt (x.procs.getD p prc0).rules (histR x p h).1 a).next, (histR x p h).2 ++ (ruleAt (x.procs.getD p prc0).rules (histR x p h).1 a).sent) := by
  unfold histR
  rw [readSpec_app]
  simp [readSpec]
theorem sent_up {p : Nat} (hp : p < x.procs.length) (a : Int) (q b : Nat) : sentN x (upH hs p a) q b = sentN x hs q b + cntO (ruleAt (x.procs.getD p prc0).rules (histR x p (hs p)).1 a).sent q b := by
  unfold sentN
  have h1 := sumN_one (f := fun r => cntO (histR x r (upH hs p a r)).2 q b) (g := fun r => cntO (histR x r (hs r)).2 q b) hp fun r hr hne => by rw [upH_ne hs a hne]
  rw [upH_at, hist_snoc, cntO_app] at h1
  omega

/-- A network behind some moves, with what each processor has read. -/
structure HistI (x : Nwk) (hs : Nat → List Int) (y : Nwk) (ct : List (List Int)) : Prop where
  procs : y.procs = x.procs
  right : Right y
  inl : InL x hs
  st : ∀ p, p < x.procs.length → y.state.getD p 0 = (histR x p (hs p)).1
  ct : ct = (List.range x.procs.length).map fun p => tally (lettersP x.procs p) (hs p)
  wt : ∀ q a, q < x.procs.length → a < lettersP x.procs q → cellT y.waiting q a + ((hs q).count (a : Int) : Int) = cellT x.waiting q a + sentN x hs q a
theorem HistI.begin_ (hr : Right x) : HistI x (fun _ => []) x (x.procs.map fun p => List.replicate p.letters.toNat (0 : Int)) where
  procs := rfl
  right := hr
  inl := fun p hp a ha => by simp at ha
  st := fun p hp => rfl
  ct := by
    apply List.ext_getElem?
    intro i
    simp only [List.getElem?_map, tally_nil]
    by_cases h : i < x.procs.length
    · rw [List.getElem?_range h, getD_procs h]
      rfl
    · rw [List.getElem?_eq_none (by omega), List.getElem?_eq_none (by simp; omega)]
      rfl
  wt := fun q a hq ha => by
    have : sentN x (fun _ => []) q a = 0 := by
      have h1 := sumN_eq (f := fun p => cntO (histR x p []).2 q a) (g := fun _ => 0) (n := x.procs.length) fun p hp => rfl
      have h2 : ∀ n, sumN (fun _ => 0) n = 0 := fun n => by
        induction n with
        | zero => rfl
        | succ n ih => simp only [sumN]; omega
      unfold sentN
      rw [h1, h2]
    rw [this]
    simp

theorem cellT_bump {t : List (List Int)} {p k : Nat} {l : List Int} {z : Int} (hl : t[p]? = some l) (hz : l[k]? = some z) (y : Int) (q a : Nat) : cellT (bump t p k y) q a = cellT t q a + if q = p ∧ a = k then y else 0 := by
  have hp := (List.getElem?_eq_some_iff.1 hl).1
  have hk := (List.getElem?_eq_some_iff.1 hz).1
  rw [bump_eq hl hz]
  unfold cellT
  by_cases hq : q = p
  · subst hq
    rw [getD_some (show (t.set q (l.set k (z + y)))[q]? = some (l.set k (z + y)) from by rw [List.getElem?_set_self hp]), getD_some hl]
    by_cases ha : a = k
    · subst ha
      rw [getD_some (show (l.set a (z + y))[a]? = some (z + y) from by rw [List.getElem?_set_self hk]), getD_some hz]
      simp
    · rw [if_neg (fun h => ha h.2), List.getD_eq_getElem?_getD, List.getElem?_set_ne (fun e => ha e.symm), ← List.getD_eq_getElem?_getD]
      omega
  · have e : (t.set p (l.set k (z + y))).getD q [] = t.getD q [] := by rw [List.getD_eq_getElem?_getD, List.getElem?_set_ne (fun e => hq e.symm), ← List.getD_eq_getElem?_getD]
    rw [if_neg (fun h => hq h.1), e]
    omega
theorem cellT_adds {wt : List (List Int)} : ∀ (os : List Out) {wt' : List (List Int)} {c : Int}, Shape wt wt' c → (∀ o ∈ os, 0 ≤ o.dst ∧ 0 ≤ o.letter ∧ ∃ l, wt[o.dst.toNat]? = some l ∧ o.letter.toNat < l.length) → ∀ q a : Nat, cellT ((os.map pairO).foldl addO wt') q a = cellT wt' q a + cntO os q a
  | [], wt', c, _, _, q, a => by simp [cntO_nil]
  | o :: r, wt', c, h, ho, q, a => by
    obtain ⟨h0, h0', l, h1, h2⟩ := ho o (by simp)
    have hsh := h.add (o := pairO o) ⟨l, h1, h2⟩
    rw [List.map_cons, List.foldl_cons, cellT_adds r hsh (fun y hy => ho y (by simp [hy])) q a]
    have hi : (pairO o).1.toNat < wt'.length := by rw [h.len]; exact (List.getElem?_eq_some_iff.1 h1).1
    have hl' := List.getElem?_eq_getElem hi
    obtain ⟨l0, h3, h4⟩ := h.row _ _ hl'
    have h3' : wt[o.dst.toNat]? = some l0 := h3
    rw [h1] at h3'
    injection h3' with h3'
    subst h3'
    have hk : (pairO o).2.toNat < (wt'[(pairO o).1.toNat]).length := by rw [h4]; exact h2
    unfold addO
    rw [cellT_bump hl' (List.getElem?_eq_getElem hk)]
    unfold cntO
    rw [List.countP_cons]
    have e : (q = (pairO o).1.toNat ∧ a = (pairO o).2.toNat) ↔ (o.dst = (q : Int) ∧ o.letter = (a : Int)) := by
      unfold pairO
      simp only
      omega
    by_cases hq : o.dst = (q : Int) ∧ o.letter = (a : Int)
    · rw [if_pos (e.2 hq), if_pos (by simpa using hq)]
      push_cast
      omega
    · rw [if_neg (fun h => hq (e.1 h)), if_neg (by simpa using hq)]
      push_cast
      omega
/-- A legal move, with the histories. -/
theorem HistI.move {y : Nwk} {ct : List (List Int)} (h : HistI x hs y ct) {p a : Nat} {l : List Int} {z : Int} (hl : y.waiting[p]? = some l) (ha : l[a]? = some z) (hz : 0 < z) {c : Int} (hc : ∀ t ∈ y.waiting, ∀ z ∈ t, z ≤ c) (hm : c + 16 ≤ 1048576) :
    p < x.procs.length ∧ a < lettersP x.procs p ∧ ((hs p).count (a : Int) : Int) < cellT x.waiting p a + sentN x hs p a ∧ HistI x (upH hs p a) (moveX y p a) (bump ct p a 1) := by
  have hr := h.right
  have hpy : p < y.procs.length := by rw [← hr.nwt]; exact (List.getElem?_eq_some_iff.1 hl).1
  have hp : p < x.procs.length := by rw [← h.procs]; exact hpy
  obtain ⟨l', e1, e2⟩ := hr.row hpy
  rw [hl] at e1
  injection e1 with e1
  subst e1
  have hal := (List.getElem?_eq_some_iff.1 ha).1
  have hL : a < lettersP x.procs p := by rw [← h.procs]; omega
  have hcell : cellT y.waiting p a = z := by unfold cellT; rw [getD_some hl, getD_some ha]
  have hw := h.wt p a hp hL
  obtain ⟨hR, _, _⟩ := moveX_right hr hl ha hz hc hm
  have hst := h.st p hp
  have hstl : p < y.state.length := by rw [hr.nst]; exact hpy
  have hsp : 0 ≤ y.state.getD p 0 ∧ y.state.getD p 0 < statesP y.procs p := hr.st0 hpy
  refine ⟨hp, hL, by omega, rfl.trans h.procs, hR, upH_in h.inl hL, fun q hq => ?_, ?_, fun q b hq hb => ?_⟩
  · show (y.state.set p (nextP y.procs p (y.state.getD p 0) a)).getD q 0 = _
    by_cases hqp : q = p
    · subst hqp
      rw [List.getD_eq_getElem?_getD, List.getElem?_set_self hstl, upH_at, hist_snoc]
      simp only [Option.getD_some, nextP, ruleP, h.procs, hst]
    · rw [List.getD_eq_getElem?_getD, List.getElem?_set_ne (fun e => hqp e.symm), ← List.getD_eq_getElem?_getD, upH_ne hs _ hqp]
      exact h.st q hq
  · rw [h.ct]
    have hg : ((List.range x.procs.length).map fun p => tally (lettersP x.procs p) (hs p))[p]? = some (tally (lettersP x.procs p) (hs p)) := by simp [hp]
    rw [bump_eq hg (tally_get hL)]
    apply List.ext_getElem?
    intro q
    rw [List.getElem?_set]
    by_cases hqp : p = q
    · subst hqp
      rw [if_pos rfl, if_pos (by simp [hp])]
      simp only [List.getElem?_map, List.getElem?_range hp, Option.map_some, upH_at, tally_snoc _ hL]
    · rw [if_neg hqp]
      simp only [List.getElem?_map]
      by_cases hq : q < x.procs.length
      · rw [List.getElem?_range hq]
        simp only [Option.map_some]
        rw [upH_ne hs _ (fun e => hqp e.symm)]
      · rw [List.getElem?_eq_none (by simp; omega)]
        rfl
  · have hrule := hr.rule (p := p) (k := a) (s := y.state.getD p 0) hpy hsp.1 hsp.2 (by rw [h.procs]; exact hL)
    obtain ⟨pr, row, r, _, hgd, _, _, hrr, _, _, hout⟩ := hrule
    have hsent : sentP y.procs p (y.state.getD p 0) a = r.sent.map pairO := by unfold sentP; rw [hrr]
    have hrat : (ruleAt (x.procs.getD p prc0).rules (histR x p (hs p)).1 (a : Int)) = r := by rw [← hrr, ← hst, ← h.procs]; rfl
    have h1 : Shape y.waiting (bump y.waiting p a (-1)) (max c 0) := by
      rw [bump_eq hl ha]
      have hsh := (hr.shape hc).put (c' := max c 0) (by omega) hl hal (y := z + -1) (by have := hc l (List.mem_of_getElem? hl) z (List.mem_of_getElem? ha); omega)
      exact hsh
    show cellT ((sentP y.procs p (y.state.getD p 0) a).foldl addO (bump y.waiting p a (-1))) q b + _ = _
    rw [hsent, cellT_adds r.sent h1 (fun o ho => by
      obtain ⟨o1, o2, o3⟩ := hout o ho
      have hd : o.dst.toNat < y.procs.length := by omega
      obtain ⟨l2, m1, m2⟩ := hr.row hd
      exact ⟨o1.1, o2, l2, m1, by omega⟩), cellT_bump hl ha, sent_up hp, hrat]
    have hwq := h.wt q b hq hb
    by_cases hqp : q = p
    · subst hqp
      rw [upH_at, List.count_append, List.count_singleton]
      by_cases hab : b = a
      · subst hab
        simp
        omega
      · have : ¬ ((a : Int) = (b : Int)) := by omega
        simp [hab, this]
        omega
    · rw [upH_ne hs _ hqp, if_neg (fun e => hqp e.1)]
      push_cast
      omega
/-- Where no move is left, the histories are complete. -/
theorem moves_nil {wt : List (List Int)} (h : movesS wt = []) {q a : Nat} : cellT wt q a ≤ 0 := by
  unfold cellT
  by_cases hq : q < wt.length
  · by_cases ha : a < (wt.getD q []).length
    · by_cases h0 : (wt.getD q []).getD a 0 ≤ 0
      · exact h0
      · exfalso
        have hm : (q, a) ∈ movesS wt := by
          unfold movesS rowMv
          refine List.mem_flatMap.2 ⟨q, List.mem_range.2 hq, List.mem_map.2 ⟨a, List.mem_filter.2 ⟨List.mem_range.2 ha, ?_⟩, rfl⟩⟩
          simpa using h0
        rw [h] at hm
        cases hm
    · rw [List.getD_eq_getElem?_getD, List.getElem?_eq_none (by omega)]
      simp
  · rw [show wt.getD q [] = [] from by rw [List.getD_eq_getElem?_getD, List.getElem?_eq_none (by omega)]; rfl]
    simp
theorem HistI.compl {y : Nwk} {ct : List (List Int)} (h : HistI x hs y ct) (hm : movesS y.waiting = []) : Compl x hs := fun q a hq ha => by
  have h1 := h.wt q a hq ha
  have h2 := moves_nil hm (q := q) (a := a)
  omega
/-- A run by picks, with the histories. -/
theorem runX_hist (hx : Right x) (hA : AbN x) (picks : List Int) : ∀ (n i : Nat) (hs : Nat → List Int) (y : Nwk) (ct : List (List Int)) (c : Int), HistI x hs y ct → (∀ t ∈ y.waiting, ∀ z ∈ t, z ≤ c) → c + 16 * n ≤ 1048576 →
    ∃ hs' z cz, HistI x hs' z cz ∧ (∀ t ∈ z.waiting, ∀ k ∈ t, k ≤ c + 16 * n) ∧ (∀ hc, InL x hc → Compl x hc → LeH x hs hc → LeH x hs' hc) ∧
      ((runX picks n i y ct = some (z, cz) ∧ movesS z.waiting = [] ∧ totH x hs' ≤ totH x hs + n) ∨ (runX picks n i y ct = none ∧ movesS z.waiting ≠ [] ∧ totH x hs' = totH x hs + n))
  | 0, i, hs, y, ct, c, h, hc, hn => by
    refine ⟨hs, y, ct, h, fun t ht k hk => by have := hc t ht k hk; omega, fun hc _ _ hl => hl, ?_⟩
    unfold runX
    by_cases hm : movesS y.waiting = []
    · left; simp [hm]
    · right
      rw [if_neg (by simpa using hm)]
      exact ⟨rfl, hm, rfl⟩
  | n + 1, i, hs, y, ct, c, h, hc, hn => by
    unfold runX
    by_cases hm : movesS y.waiting = []
    · exact ⟨hs, y, ct, h, fun t ht k hk => by { have := hc t ht k hk; omega }, fun hc _ _ hl => hl, Or.inl ⟨by simp [hm], hm, by omega⟩⟩
    · rw [if_neg (by simpa using hm)]
      obtain ⟨l, z, m1, m2, m3⟩ := mem_moves (pickS_mem (picks := picks) (i := i) hm)
      obtain ⟨hp, ha, hlt, hmv⟩ := h.move m1 m2 m3 hc (by push_cast at hn; omega)
      obtain ⟨_, hc', _⟩ := moveX_right h.right m1 m2 m3 hc (by push_cast at hn; omega)
      obtain ⟨hs', z', cz, g1, gb, g2, g3⟩ := runX_hist hx hA picks n (i + 1) _ _ _ (c + 16) hmv hc' (by push_cast at hn; omega)
      rw [upH_tot hp] at g3
      refine ⟨hs', z', cz, g1, fun t ht k hk => by { have := gb t ht k hk; push_cast; omega }, fun hc hI hC hl => g2 hc hI hC (upH_le hl (least hx hA hI hC hl hp ha hlt)), ?_⟩
      rcases g3 with ⟨a1, a2, a3⟩ | ⟨a1, a2, a3⟩
      · exact Or.inl ⟨a1, a2, by omega⟩
      · exact Or.inr ⟨a1, a2, by omega⟩
end

theorem LeH.nil (x : Nwk) (hc : Nat → List Int) : LeH x (fun _ => []) hc := fun p _ a => by simp
theorem totH_nil (x : Nwk) : totH x (fun _ => []) = 0 := by
  unfold totH
  have h2 : ∀ n, sumN (fun _ => ([] : List Int).length) n = 0 := fun n => by
    induction n with
    | zero => rfl
    | succ n ih => simp only [sumN, List.length_nil]; omega
  exact h2 _
end Go.Proofs.YtnigfddanoaonaaGreat

set_option linter.unusedVariables false
set_option linter.unusedSimpArgs false
namespace Go.Proofs.YtnigfddanoaonaaGreat
open Go.RowKit

theorem fldW (a b c : Value) (w : World) : Sem.run Tryz.prog (Instr.field 26 (.agg #[a, b, c]) 2) w = .ok c w := by kernel_rfl
def addOs (t : List (List Int)) (os : List Out) : List (List Int) := (os.map pairO).foldl addO t
theorem addOs_app (t : List (List Int)) (a b : List Out) : addOs t (a ++ b) = addOs (addOs t a) b := by unfold addOs; rw [List.map_append, List.foldl_append]
theorem word_take : ∀ (l : List Int) (k a : Nat) (z : Int), l[a]? = some z → wordFrom k (l.take (a + 1)) = wordFrom k (l.take a) ++ List.replicate z.toNat ((k + a : Nat) : Int)
  | [], _, _, _, h => by simp at h
  | x :: r, k, 0, z, h => by
    simp at h
    subst h
    simp [wordFrom]
  | x :: r, k, a + 1, z, h => by
    simp only [List.take_succ_cons, wordFrom]
    rw [word_take r (k + 1) a z (by simpa using h), List.append_assoc, show k + 1 + a = k + (a + 1) from by omega]
def ctW (ct : List (List Int)) (p : Nat) : List Int := wordFrom 0 (ct.getD p [])
/-- What waits at first, and what is sent by the first p processors. -/
def totP (x : Nwk) (ct : List (List Int)) : Nat → List (List Int)
  | 0 => x.waiting
  | p + 1 => addOs (totP x ct p) (histR x p (ctW ct p)).2
def doneB (x : Nwk) (ct : List (List Int)) : Bool := (List.range ct.length).all fun p => (List.range (ct.getD p []).length).all fun a => decide (cellT (totP x ct ct.length) p a ≤ cellT ct p a)
def compR (x : Nwk) (ct : List (List Int)) : Bool × Int :=
  if (nabR x).2 = 0 then (if (nabR x).1 = true then (if cntErr x ct = 0 then (doneB x ct, 0) else (false, cntErr x ct)) else (false, 15)) else (false, (nabR x).2)
theorem leftE_zero : ∀ {l : List Int} {left : Int}, leftE left l = 0 → ∀ z ∈ l, (∀ y ∈ l, 0 ≤ y) → z ≤ left
  | [], _, _, z, hz, _ => by cases hz
  | k :: r, left, h, z, hz, h0 => by
    unfold leftE at h
    split at h
    · cases h
    · rcases List.mem_cons.1 hz with rfl | hz
      · omega
      · have := leftE_zero h z hz fun y hy => h0 y (by simp [hy])
        have := h0 k (by simp)
        omega
/-- Right counts. -/
theorem cnt_zero {x : Nwk} {ct : List (List Int)} (h : cntErr x ct = 0) : ct.length = x.procs.length ∧ (∀ (p : Nat) (l : List Int) (pr : Prc), ct[p]? = some l → x.procs[p]? = some pr → (l.length : Int) = pr.letters) ∧ (∀ l ∈ ct, ∀ z ∈ l, 0 ≤ z ∧ z ≤ 4096) := by
  unfold cntErr at h
  split at h
  · rename_i hs
    split at h
    · cases h
    · rename_i hn
      unfold shapedErr at hs
      split at hs
      · rename_i hl
        have hnn : ∀ l ∈ ct, ∀ z ∈ l, 0 ≤ z := fun l hl z hz => by
          have h1 : ct.any negB = false := by simpa using hn
          rw [List.any_eq_false] at h1
          have h2 := h1 l hl
          unfold negB at h2
          simp at h2
          exact h2 z hz
        refine ⟨hl, shapesErr_zero hs, fun l hl z hz => ⟨hnn l hl z hz, ?_⟩⟩
        exact leftE_zero h z (List.mem_flatten.2 ⟨l, hl, hz⟩) fun y hy => by
          obtain ⟨l2, h1, h2⟩ := List.mem_flatten.1 hy
          exact hnn l2 h1 y h2
      · cases hs
  · rename_i hx; exact absurd h hx

theorem doneB_false {x : Nwk} {ct : List (List Int)} {p a : Nat} (hp : p < ct.length) (ha : a < (ct.getD p []).length) (h : ¬ cellT (totP x ct ct.length) p a ≤ cellT ct p a) : doneB x ct = false := by
  unfold doneB
  rw [List.all_eq_false]
  refine ⟨p, List.mem_range.2 hp, ?_⟩
  rw [Bool.not_eq_true, List.all_eq_false]
  exact ⟨a, List.mem_range.2 ha, by simpa using h⟩
theorem doneB_true {x : Nwk} {ct : List (List Int)} (h : ∀ p, p < ct.length → ∀ a, a < (ct.getD p []).length → cellT (totP x ct ct.length) p a ≤ cellT ct p a) : doneB x ct = true := by
  unfold doneB
  rw [List.all_eq_true]
  intro p hp
  rw [List.all_eq_true]
  intro a ha
  exact decide_eq_true (h p (List.mem_range.1 hp) a (List.mem_range.1 ha))
theorem Shape.mono {wt wt' : List (List Int)} {c c' : Int} (h : Shape wt wt' c) (hc : c ≤ c') : Shape wt wt' c' := ⟨h.len, h.row, fun l hl z hz => by have := h.num l hl z hz; omega⟩
theorem word_in {l : List Int} {L : Nat} (hl : l.length = L) : ∀ a ∈ wordFrom 0 l, 0 ≤ a ∧ a < (L : Int) := fun a ha => by
  have h1 := List.count_pos_iff.2 ha
  rw [wordFrom_count] at h1
  split at h1
  · omega
  · omega
theorem hist_range {x : Nwk} (hr : Right x) {p : Nat} (hp : p < x.procs.length) {h : List Int} (hh : ∀ a ∈ h, 0 ≤ a ∧ a < (lettersP x.procs p : Int)) : 0 ≤ (histR x p h).1 ∧ (histR x p h).1 < statesP x.procs p := by
  have hpr := getD_procs hp
  exact read_range (S := (x.procs.getD p prc0).states) (L := (x.procs.getD p prc0).letters) (checkErr_more (hr.proc p _ hpr)) h _ (hr.st0 hp) (by rw [hr.let0 hp]; exact hh)
set_option maxRecDepth 100000 in
set_option maxHeartbeats 8000000 in
theorem ncomplete_any (x : Nwk) (op : Option Addr) (cp : Nat) (os : Option Addr) (cs : Nat) (ow : Option Addr) (cw : Nat) (F : Foot) (w : World) (hp : SliceR prcR 3 F w op x.procs) (hp2 : x.procs.length ≤ 1000000) (hs : SliceR intR 1 F w os x.state) (hs2 : x.state.length ≤ 1000000) (ht : SliceR (slcR intR 1) 1 F w ow x.waiting) (ht2 : x.waiting.length ≤ 1000000)
    (ct : List (List Int)) (ot : Option Addr) (cc : Nat) (G : Foot) (hct : SliceR (slcR intR 1) 1 G w ot ct) (hcl : ct.length ≤ cc) (hc2 : ct.length ≤ 1000000) :
    Calls Tryz.prog 17 #[.agg #[.slice op x.procs.length cp, .slice os x.state.length cs, .slice ow x.waiting.length cw], .slice ot ct.length cc] w fun e w' => e = .returned (.tuple #[.bool (compR x ct).1, .int .i64 (compR x ct).2]) ∧ Below w.heap.size w w' := by
  obtain ⟨W1, e1⟩ : ∃ W1, w.alloc (.cells #[.slice op x.procs.length cp, .slice os x.state.length cs, .slice ow x.waiting.length cw] 26) = W1 := ⟨_, rfl⟩
  have bx1 : Box W1 w.heap.size [.slice op x.procs.length cp, .slice os x.state.length cs, .slice ow x.waiting.length cw] 26 := by rw [← e1]; exact Box.new w [.slice op x.procs.length cp, .slice os x.state.length cs, .slice ow x.waiting.length cw] 26
  have bb1 := bnew (Below.refl w.heap.size w) (.cells #[.slice op x.procs.length cp, .slice os x.state.length cs, .slice ow x.waiting.length cw] 26)
  rw [e1] at bb1
  have HX1 := hide bx1
  have HB1 := hide bb1
  have d0 := bx1.cell 0
  have d1 := bx1.cell 1
  have d2 := bx1.cell 2
  simp only [List.getElem?_cons_zero, List.getElem?_cons_succ] at d0 d1 d2
  have HAB := hide (nabelian_any x op cp os cs ow cw F W1 (hp.below prcR_ok bb1) hp2 (hs.below intR_ok bb1) hs2 (ht.below (slcR_ok intR_ok (by decide)) bb1) ht2)
  obtain ⟨A, hA⟩ : ∃ A, A = nabR x := ⟨_, rfl⟩
  rw [← hA] at HAB
  have HA := hide hA
  obtain ⟨ab, ae⟩ := A
  have HP := hide hp
  have HS := hide hs
  have HTW := hide ht
  have HCT := hide hct
  clear hA hp hs ht hct bx1 bb1
  by_cases h0 : ae = 0
  · subst h0
    cases ab
    · have HR : Hid (compR x ct = (false, 15)) := by
        show _ = _
        unfold compR
        rw [← HA.out]
        rfl
      go_enter Tryz.func17, Tryz.ntmps17
      go_wp2_with (go_at_call 30; refine HAB.out.mono ?_; rintro e w2 ⟨rfl, hb2⟩; have HB2 := hide (HB1.out.trans (hb2.mono HB1.out.size)); clear hb2)
      go_ret2
      exact ⟨by rw [HR.out]; rfl, HB2.out⟩
    · have HR : Hid (compR x ct = if cntErr x ct = 0 then (doneB x ct, 0) else (false, cntErr x ct)) := by
        show _ = _
        unfold compR
        rw [← HA.out]
        rfl
      have hz : netErr x = 0 := by
        have h1 := HA.out
        unfold nabR at h1
        split at h1
        · assumption
        · cases h1
      have hr := netErr_zero hz
      have HRT := hide hr
      have HCN := hide (fun (u : World) (hu : Below w.heap.size w u) => ncounted_any x op cp os x.state.length cs ow x.waiting.length cw ct ot cc F G u (HP.out.below prcR_ok hu) hp2 (HCT.out.below (slcR_ok intR_ok (by decide)) hu) hc2 hcl)
      by_cases hce : cntErr x ct = 0
      · have HR2 : Hid (compR x ct = (doneB x ct, 0)) := by show _ = _; rw [HR.out, if_pos hce]
        have HCZ := hide (cnt_zero hce)
        rw [hce] at HCN
        have HCP := hide (fun (u : World) (hu : Below w.heap.size w u) => ncopied_any x op cp os cs ow cw F u (HP.out.below prcR_ok hu) (HS.out.below intR_ok hu) (HTW.out.below (slcR_ok intR_ok (by decide)) hu) hr)
        have hst := hr.nst
        have hwt := hr.nwt
        rw [hst] at d1 e1 HX1 HAB HCN ⊢
        rw [hwt] at d2 e1 HX1 HAB HCN ⊢
        obtain ⟨n, hn⟩ : ∃ n, n = x.procs.length := ⟨_, rfl⟩
        have h12 : 1 ≤ n ∧ n ≤ 12 := by rw [hn]; exact hr.n
        have hcn := HCZ.out.1
        have HN := hide hn
        have HCNN := hide hcn
        clear hce hr hz hst hwt hn hcn
        have hfl := fldW
        go_enter Tryz.func17, Tryz.ntmps17
        go_wp2_with (first
          | (go_at_call 30; refine HAB.out.mono ?_; rintro e w2 ⟨rfl, hb2⟩; have x2 := HX1.out.below hb2; have y0 := x2.cell 0; have y1 := x2.cell 1; have y2 := x2.cell 2; simp only [List.getElem?_cons_zero, List.getElem?_cons_succ] at y0 y1 y2; have HL2 := hide hb2; have HB2 := hide (HB1.out.trans (hb2.mono HB1.out.size)); clear hb2 x2)
          | (go_at_call 49; refine (HCN.out _ HB2.out).mono ?_; rintro e w3 ⟨rfl, hb3⟩; have HL3 := hide (HL2.out.trans (hb3.mono HL2.out.size)); have x2 := HX1.out.below HL3.out; have y0 := x2.cell 0; have y1 := x2.cell 1; have y2 := x2.cell 2; simp only [List.getElem?_cons_zero, List.getElem?_cons_succ] at y0 y1 y2; have HB3 := hide (HB2.out.trans (hb3.mono HB2.out.size)); clear hb3 x2)
          | (go_at_call 50; refine (HCP.out _ HB3.out).mono ?_; rintro e w4 ⟨vp, tw, rs, K, H, gs, rfl, hgs, hgK, hKH, _, _, hPo, _, htab, htabs, hb4⟩; obtain ⟨oV, cV, hvp, _, _⟩ := hPo.slice prcR_ok; obtain ⟨oT, cT, htw, _⟩ := htab.len; subst hvp htw; have hWH : W1.heap.size ≤ H := (by have := HL3.out.size; omega); have HTAB := hide htab; have HTABS := hide htabs; have HL4 := hide (HL3.out.trans (hb4.mono HL3.out.size)); clear htab htabs hb4 hPo))
        obtain ⟨nT, hnT⟩ : ∃ nT, nT = rs.length := ⟨_, rfl⟩
        have hnT12 : nT = ct.length := by
          have h1 := congrArg List.length HTABS.out
          unfold tabL at h1
          rw [List.length_map] at h1
          rw [hnT, h1, HRT.out.nwt, HCNN.out]
        rw [← hnT] at HTAB ⊢
        have HNT := hide hnT12
        have hnc : ct.length ≤ 12 := by rw [HCNN.out]; have := HN.out; omega
        clear hnT hnT12 y0 y1 y2
        go_loopg [43] ct.length (fun gm iv wx => ∃ (p : Nat) (rs' : List Rw), p ≤ ct.length ∧ gm = ct.length - p ∧ iv = .int .i64 p ∧ Hid (RTab H (.slice oT nT cT) rs' wx) ∧ Hid (tabL rs' = totP x ct p) ∧ Hid (Shape x.waiting (totP x ct p) (1048576 + 524288 * p)) ∧ Hid (Below W1.heap.size W1 wx))
        case atStart => exact ⟨0, rs, by omega, by omega, rfl, HTAB.out, HTABS.out, HRT.out.shape fun t ht z hz => by have := HRT.out.wb t ht z hz; omega, HL4.out⟩
        case round =>
          obtain ⟨p, rs', hpc, hgm, rfl, HT, HTL, HSH, HB⟩ := hrel
          have HGM := hide hgm
          clear hgm
          have hx1 := HX1.out.below HB.out
          have y0 := hx1.cell 0
          have y1 := hx1.cell 1
          simp only [List.getElem?_cons_zero, List.getElem?_cons_succ] at y0 y1
          have hbw : Below w.heap.size w wr := HB1.out.trans (HB.out.mono HB1.out.size)
          by_cases hlt : p < ct.length
          · obtain ⟨l, _, hl, b, off, ol, cl, hot, _, c0w, hcll, _, hsl⟩ := HCT.out.slc_at hlt
            subst hot
            have c0 := (hbw.cell (World.block_lt_of_cell? _ _ c0w)).trans c0w
            have hpn : p < x.procs.length := by rw [← HCNN.out]; exact hlt
            obtain ⟨s0, _, hs0, _, b2, off2, hos, _, c1⟩ := (HS.out.below intR_ok hbw).int_at (i := p) (by rw [HRT.out.nst]; exact hpn)
            subst hos
            have hlL : l.length = lettersP x.procs p := by
              have h1 := HCZ.out.2.1 p l _ hl (getD_procs hpn)
              rw [HRT.out.let0 hpn] at h1
              omega
            have hL8 := (HRT.out.letters p hpn).2
            have hsl2 : p < x.state.length := by rw [HRT.out.nst]; exact hpn
            have HLW := hide hl
            have HSZ0 : Hid (s0 = (histR x p []).1) := by show _ = _; unfold histR readSpec; rw [getD_some hs0]
            have HLZ := hide (HCZ.out.2.2 l (List.mem_of_getElem? hl))
            obtain ⟨ln, hln⟩ : ∃ ln, ln = l.length := ⟨_, rfl⟩
            have hln8 : ln ≤ 8 := by omega
            have HLN := hide hln
            have HLL := hide hlL
            have HSL0 := hide hsl
            obtain ⟨S7, L7, rls, b7, off7, oR, cR, _, hpr7, hoP, _, _, _, yy2, _, _, hrc7, _, hrs7⟩ := HP.out.prc_at hpn
            subst hoP
            have HPR7 := hide hpr7
            have HRS7 := hide hrs7
            have hpn12 : p < x.procs.length := hpn
            obtain ⟨wl, hwl⟩ : ∃ wl : World, wl = wr := ⟨_, rfl⟩
            subst hwl
            rw [← hln] at c0 hcll
            have HBo := hide HB.out
            clear hl hs0 hlL hL8 hln hsl hbw hx1 hpr7 hrs7 c0w
            go_wp2_with fail
            go_loopg [12, 55] ln (fun gm sv av wx => ∃ (a : Nat) (s : Int) (rs' : List Rw), a ≤ ln ∧ gm = ln - a ∧ av = .int .i64 a ∧ sv = .int .i64 s ∧ Hid (s = (histR x p (wordFrom 0 (l.take a))).1) ∧ Hid (RTab H (.slice oT nT cT) rs' wx) ∧ Hid (tabL rs' = addOs (totP x ct p) (histR x p (wordFrom 0 (l.take a))).2) ∧ Hid (Shape x.waiting (tabL rs') (1048576 + 524288 * p + 65536 * a)) ∧ Hid (Below W1.heap.size W1 wx))
            case atStart => exact ⟨0, s0, rs', by omega, by omega, rfl, rfl, HSZ0.out, HT.out, by rw [HTL.out]; rfl, by show Shape _ _ _; rw [HTL.out]; exact HSH.out.mono (by omega), HB.out⟩
            case round =>
              obtain ⟨a, s, rs1, ha, hgm, rfl, rfl, HS1, HT1, HTL1, HSH1, HBa⟩ := hrel
              have HGMa := hide hgm
              clear hgm
              by_cases hal : a < ln
              · have hbwx : Below w.heap.size w wr := HB1.out.trans (HBa.out.mono HB1.out.size)
                obtain ⟨z, _, hzg, _, b3, off3, hol, _, c2⟩ := (HSL0.out.below intR_ok hbwx).int_at (i := a) (by rw [← HLN.out]; exact hal)
                subst hol
                have hz0 := HLZ.out z (List.mem_of_getElem? hzg)
                obtain ⟨zn, rfl⟩ := Int.eq_ofNat_of_zero_le hz0.1
                have hz4 : zn ≤ 4096 := by omega
                have HWT : Hid (wordFrom 0 (l.take (a + 1)) = wordFrom 0 (l.take a) ++ List.replicate zn (a : Int)) := by
                  have h1 := word_take l 0 a (zn : Int) hzg
                  rw [Nat.zero_add] at h1
                  exact h1
                obtain ⟨W0, hW0⟩ : ∃ W0, W0 = wordFrom 0 (l.take a) := ⟨_, rfl⟩
                rw [← hW0] at HS1 HTL1 HWT
                have HIN : Hid (∀ y ∈ W0, 0 ≤ y ∧ y < (a : Int)) := by
                  show ∀ y ∈ W0, _
                  rw [hW0]
                  exact word_in (by rw [List.length_take, ← HLN.out]; omega)
                clear hzg hz0 hW0 hbwx
                go_wp2_with fail
                go_loopg [12, 61] zn (fun gm sv jv wx => ∃ (j : Nat) (s : Int) (rs2 : List Rw), j ≤ zn ∧ gm = zn - j ∧ jv = .int .i64 j ∧ sv = .int .i64 s ∧ Hid (s = (histR x p (W0 ++ List.replicate j (a : Int))).1) ∧ Hid (RTab H (.slice oT nT cT) rs2 wx) ∧ Hid (tabL rs2 = addOs (totP x ct p) (histR x p (W0 ++ List.replicate j (a : Int))).2) ∧ Hid (Shape x.waiting (tabL rs2) (1048576 + 524288 * p + 65536 * a + 16 * j)) ∧ Hid (Below W1.heap.size W1 wx))
                case atStart => exact ⟨0, s, rs1, by omega, by omega, rfl, rfl, by show _ = _; rw [List.replicate_zero, List.append_nil]; exact HS1.out, HT1.out, by show _ = _; rw [List.replicate_zero, List.append_nil]; exact HTL1.out, HSH1.out.mono (by omega), HBa.out⟩
                case round =>
                  obtain ⟨j, s, rs2, hj, hgm, rfl, rfl, HS2, HT2, HTL2, HSH2, HBj⟩ := hrel
                  have HGMj := hide hgm
                  clear hgm
                  by_cases hjl : j < zn
                  · have haL : a < lettersP x.procs p := by rw [← HLL.out, ← HLN.out]; exact hal
                    have hin : ∀ y ∈ W0 ++ List.replicate j (a : Int), 0 ≤ y ∧ y < (lettersP x.procs p : Int) := fun y hy => by
                      rcases List.mem_append.1 hy with hy | hy
                      · have := HIN.out y hy; omega
                      · have := List.eq_of_mem_replicate hy; omega
                    have hrg := hist_range HRT.out hpn12 hin
                    rw [← HS2.out] at hrg
                    obtain ⟨pr, row, r, q1, q2, q3, q4, q5, q6, q7, q8⟩ := HRT.out.rule (p := p) (k := a) (s := s) hpn12 hrg.1 hrg.2 haL
                    obtain ⟨sn, hsn⟩ := Int.eq_ofNat_of_zero_le hrg.1
                    subst hsn
                    rw [HPR7.out] at q1
                    injection q1 with q1
                    subst q1
                    simp only [Int.toNat_natCast] at q3
                    have HHS : Hid (histR x p (W0 ++ List.replicate (j + 1) (a : Int)) = (r.next, (histR x p (W0 ++ List.replicate j (a : Int))).2 ++ r.sent)) := by
                      show _ = _
                      rw [List.replicate_succ', ← List.append_assoc, hist_snoc, ← HS2.out]
                      have h5 : ruleAt (x.procs.getD p prc0).rules (sn : Int) (a : Int) = r := q5
                      rw [h5]
                    have hbwx : Below w.heap.size w wr := HB1.out.trans (HBj.out.mono HB1.out.size)
                    have hsl9 : sn < rls.length := (List.getElem?_eq_some_iff.1 q3).1
                    obtain ⟨row2, _, hr2, b8, off8, oa2, cc2, hoR, _, c8w, hcc2, _, hs8⟩ := HRS7.out.slc_at hsl9
                    subst hoR
                    rw [q3] at hr2
                    injection hr2 with hr2
                    subst hr2
                    have hal2 : a < row.length := (List.getElem?_eq_some_iff.1 q4).1
                    obtain ⟨nx, st, _, x1, x2, b9, off9, oS, cS, hoa2, x3, x4w, x5w, x6, x7, x8⟩ := hs8.rule_at hal2
                    subst hoa2
                    rw [q4] at x1
                    injection x1 with x1
                    subst x1
                    have c8 := (hbwx.cell (World.block_lt_of_cell? _ _ c8w)).trans c8w
                    have x4 := (hbwx.cell (World.block_lt_of_cell? _ _ x4w)).trans x4w
                    have x5 := (hbwx.cell (World.block_lt_of_cell? _ _ x5w)).trans x5w
                    have y7 := (hbwx.cell (World.block_lt_of_cell? _ _ yy2)).trans yy2
                    clear c8w x4w x5w
                    have hx1 := HX1.out.below HBj.out
                    have y0 := hx1.cell 0
                    simp only [List.getElem?_cons_zero] at y0
                    have HQ8 := hide q8
                    have HST9 := hide x8
                    have hq7 : st.length ≤ 16 := q7
                    obtain ⟨sl, hsl⟩ : ∃ sl, sl = st.length := ⟨_, rfl⟩
                    have HSLN := hide hsl
                    rw [← hsl] at x5 hq7 x6 x7
                    clear q2 q3 q4 q5 q6 q7 q8 hin hrg hs8 x8 hx1 hsl haL
                    go_wp2_with fail
                    obtain ⟨W5, e5⟩ : ∃ W5, wr.alloc (.cells #[.int .i64 nx, .slice oS sl cS] 99) = W5 := ⟨_, rfl⟩
                    have bb5 : Below wr.heap.size wr W5 := by rw [← e5]; exact bnew (Below.refl _ _) _
                    have HT5 := hide (HT2.out.below bb5)
                    have HB5 : Hid (Below W1.heap.size W1 W5) := HBj.out.trans (bb5.mono HBj.out.size)
                    have HZ5 := hide bb5.size
                    rw [e5]
                    clear e5 bb5 c8 x4 x5 y7 y0 hbwx
                    go_loopg [80] sl (fun gm qv wx => ∃ (qn : Nat) (rs3 : List Rw), qn ≤ sl ∧ gm = sl - qn ∧ qv = .int .i64 qn ∧ Hid (RTab H (.slice oT nT cT) rs3 wx) ∧ Hid (tabL rs3 = addOs (tabL rs2) (st.take qn)) ∧ Hid (Shape x.waiting (tabL rs3) (1048576 + 524288 * p + 65536 * a + 16 * j + qn)) ∧ Hid (Below W1.heap.size W1 wx))
                    case atStart => exact ⟨0, rs2, by omega, by omega, rfl, HT5.out, rfl, HSH2.out.mono (by omega), HB5.out⟩
                    case round =>
                      obtain ⟨qn, rs3, hq, hgm, rfl, HT3, HTL3, HSH3, HBq⟩ := hrel
                      have HGMq := hide hgm
                      clear hgm
                      by_cases hql : qn < sl
                      · have hbwq : Below w.heap.size w wr := HB1.out.trans (HBq.out.mono HB1.out.size)
                        obtain ⟨tt, le, _, hxo, it, il, b6, off6, hoS, _, oc0, oc1⟩ := (HST9.out.below outR_ok hbwq).out_at (i := qn) (by rw [← HSLN.out]; exact hql)
                        subst hoS
                        obtain ⟨⟨m1, m2⟩, m3, m4⟩ := HQ8.out _ (List.mem_of_getElem? hxo)
                        simp only at m1 m2 m3 m4
                        obtain ⟨tn, rfl⟩ := Int.eq_ofNat_of_zero_le m1
                        obtain ⟨lq, rfl⟩ := Int.eq_ofNat_of_zero_le m3
                        simp only [Int.toNat_natCast] at m4
                        have htn : tn < x.procs.length := by omega
                        obtain ⟨lw, hlw, hlwl⟩ := HRT.out.row htn
                        obtain ⟨l0, hl0⟩ : ∃ l0, (tabL rs3)[tn]? = some l0 := ⟨_, List.getElem?_eq_getElem (by rw [HSH3.out.len, HRT.out.nwt]; exact htn)⟩
                        have hl0l : l0.length = lettersP x.procs tn := by
                          obtain ⟨l1, h1, h2⟩ := HSH3.out.row tn l0 hl0
                          rw [hlw] at h1
                          injection h1 with h1
                          rw [h2, ← h1, hlwl]
                        have hlq : lq < l0.length := by omega
                        obtain ⟨zc, hzc⟩ : ∃ zc, l0[lq]? = some zc := ⟨_, List.getElem?_eq_getElem hlq⟩
                        have hzcb := HSH3.out.num l0 (List.mem_of_getElem? hl0) zc (List.mem_of_getElem? hzc)
                        have hzb : 0 ≤ zc ∧ zc ≤ 20000000 := by omega
                        obtain ⟨r6, hr6, hrl6⟩ : ∃ r6, rs3[tn]? = some r6 ∧ r6.l = l0 := by
                          have h1 := hl0
                          unfold tabL at h1
                          rw [List.getElem?_map, Option.map_eq_some_iff] at h1
                          exact h1
                        obtain ⟨W6, e6⟩ : ∃ W6, wr.alloc (.cells #[.int .i64 tn, .int .i64 lq] 102) = W6 := ⟨_, rfl⟩
                        have bx6 : Box W6 wr.heap.size [.int .i64 tn, .int .i64 lq] 102 := by rw [← e6]; exact Box.new wr [.int .i64 tn, .int .i64 lq] 102
                        have bb6 := bnew (Below.refl wr.heap.size wr) (.cells #[.int .i64 tn, .int .i64 lq] 102)
                        rw [e6] at bb6
                        have hT6 := HT3.out.below bb6
                        have HB6 : Hid (Below W1.heap.size W1 W6) := HBq.out.trans (bb6.mono HBq.out.size)
                        obtain ⟨gc, capc, htc, hcc9, hBg, cr0, hrow7, hBr, hrc9, hrne⟩ := hT6.get hr6
                        injection htc with htc htn9 htcap
                        subst htc htcap
                        rw [hrl6] at cr0 hrow7 hrc9
                        have cr1 := hrow7.cell (i := lq) (x := zc) hzc
                        have fr1 := hrow7.free lq
                        have k60 := bx6.cell 0
                        have k61 := bx6.cell 1
                        simp only [List.getElem?_cons_zero, List.getElem?_cons_succ] at k60 k61
                        have htnT : tn < nT := by
                          have h1 := (List.getElem?_eq_some_iff.1 hr6).1
                          omega
                        have HT6 := hide hT6
                        have HCT6 := hide (And.intro hl0 (And.intro hzc (And.intro hr6 (And.intro hrl6 (And.intro hlq hxo)))))
                        obtain ⟨cn, hcn⟩ : ∃ cn, cn = l0.length := ⟨_, rfl⟩
                        unfold slV at cr0
                        rw [← hcn] at cr0 hrc9 hlq
                        have hcn8 : cn ≤ 8 := by
                          rw [hcn, hl0l]
                          exact (HRT.out.letters tn htn).2
                        have lz0 := World.block_lt_of_cell? _ _ cr0
                        have lz1 := World.block_lt_of_cell? _ _ cr1
                        have lz2 := World.block_lt_of_cell? _ _ k60
                        simp only at lz0 lz1 lz2
                        have HBR := hide hBr
                        clear hl0 hzc hr6 hrl6 hcn hlw hlwl hl0l hxo htn9 bx6 bb6 hT6 hrow7 hcc9 hBg hrne hBr hbwq hzcb htn
                        go_wp2_with fail
                        go_region
                        obtain ⟨W7, e7⟩ : ∃ W7, (W6.setCell ⟨r6.g, lq, none⟩ (.int .i64 (zc + 1))).drew = W7 := ⟨_, rfl⟩
                        obtain ⟨hl0, hzc, hr6, hrl6, hlq0, hxo⟩ := HCT6.out
                        have HT7 : Hid (RTab H (.slice (some ⟨gc, 0, none⟩) nT cT) (rwSet rs3 tn (l0.set lq (zc + 1))) W7) := by
                          show RTab _ _ _ _
                          rw [← e7]
                          have := HT6.out.put hr6 (k := lq) (by rw [hrl6]; exact hlq0) (zc + 1)
                          rw [hrl6] at this
                          exact this.draw
                        have HB7 : Hid (Below W1.heap.size W1 W7) := by
                          show Below _ _ _
                          rw [← e7]
                          exact (HB6.out.setCell (by have := HBR.out; simp only; omega) _).drew
                        have HTL7 : Hid (tabL (rwSet rs3 tn (l0.set lq (zc + 1))) = addOs (tabL rs2) (st.take (qn + 1))) := by
                          show _ = _
                          rw [List.take_add_one, hxo, addOs_app, ← HTL3.out, tabL_set]
                          show _ = addO (tabL rs3) (pairO ⟨(tn : Int), (lq : Int)⟩)
                          unfold addO pairO
                          simp only [Int.toNat_natCast]
                          exact (bump_eq hl0 hzc 1).symm
                        have HSH7 : Hid (Shape x.waiting (tabL (rwSet rs3 tn (l0.set lq (zc + 1)))) (1048576 + 524288 * p + 65536 * a + 16 * j + (qn + 1 : Nat))) := by
                          show Shape _ _ _
                          rw [tabL_set]
                          have hz9 := HSH3.out.num l0 (List.mem_of_getElem? hl0) zc (List.mem_of_getElem? hzc)
                          exact HSH3.out.put (by push_cast; omega) hl0 hlq0 (by push_cast; omega)
                        rw [e7]
                        clear e7 cr0 cr1 fr1 k60 k61 lz0 lz1 lz2 hl0 hzc hr6 hrl6 hxo
                        go_wp2_with fail
                        go_roundg (sl - (qn + 1))
                        case measure => have := HGMq.out; omega
                        case rel => exact ⟨qn + 1, _, by omega, rfl, by go_num, HT7.out, HTL7.out, HSH7.out, HB7.out⟩
                      · have hqe : qn = sl := by omega
                        have HF : Hid (tabL rs3 = addOs (totP x ct p) (histR x p (W0 ++ List.replicate (j + 1) (a : Int))).2) := by
                          show _ = _
                          rw [HHS.out, addOs_app, ← HTL2.out, HTL3.out, List.take_of_length_le (by rw [← HSLN.out]; omega)]
                        clear hqe
                        go_wp2_with fail
                        go_roundg (zn - (j + 1))
                        case measure => have := HGMj.out; omega
                        case rel => exact ⟨j + 1, nx, rs3, by omega, rfl, by go_num, rfl, by show _ = _; rw [HHS.out], HT3.out, HF.out, HSH3.out.mono (by push_cast; omega), HBq.out⟩
                  · have hje : j = zn := by omega
                    subst hje
                    rw [← HWT.out] at HS2 HTL2
                    go_wp2_with fail
                    go_roundg (ln - (a + 1))
                    case measure => have := HGMa.out; omega
                    case rel => exact ⟨a + 1, s, rs2, by omega, rfl, by go_num, rfl, HS2.out, HT2.out, HTL2.out, HSH2.out.mono (by push_cast; omega), HBj.out⟩
              · have hae : a = ln := by omega
                have HTP : Hid (tabL rs1 = totP x ct (p + 1)) := by
                  show _ = _
                  rw [HTL1.out, hae, List.take_of_length_le (by rw [← HLN.out]; omega)]
                  show _ = addOs (totP x ct p) (histR x p (ctW ct p)).2
                  unfold ctW
                  rw [getD_some HLW.out]
                have HSH2 : Hid (Shape x.waiting (totP x ct (p + 1)) (1048576 + 524288 * (p + 1 : Nat))) := by
                  show Shape _ _ _
                  rw [← HTP.out]
                  exact HSH1.out.mono (by push_cast; omega)
                clear hae
                go_wp2_with fail
                go_roundg (ct.length - (p + 1))
                case measure => have := HGM.out; omega
                case rel => exact ⟨p + 1, rs1, by omega, rfl, by go_num, HT1.out, HTP.out, HSH2.out, HBa.out⟩
          · have hpe : p = ct.length := by omega
            have HTF : Hid (tabL rs' = totP x ct ct.length) := by show _ = _; rw [HTL.out, hpe]
            have HSHF : Hid (Shape x.waiting (tabL rs') (1048576 + 524288 * p)) := by show Shape _ _ _; rw [HTL.out]; exact HSH.out
            obtain ⟨wv, hwv⟩ : ∃ wv : World, wv = wr := ⟨_, rfl⟩
            subst hwv
            have HBV := hide hbw
            clear hpe hbw hx1
            go_wp2_with fail
            clear y0 y1
            go_loopw [101] (fun iv wx => ∃ p2 : Nat, p2 ≤ ct.length ∧ iv = .int .i64 p2 ∧ Hid (∀ p', p' < p2 → ∀ a', a' < (ct.getD p' []).length → cellT (totP x ct ct.length) p' a' ≤ cellT ct p' a') ∧ wx = wv) (fun iv _ => ct.length - (intOf iv).toNat)
            case atStart => exact ⟨0, by omega, rfl, fun p' hp' => absurd hp' (Nat.not_lt_zero _), rfl⟩
            case round =>
              obtain ⟨p2, hp2c, rfl, HOK, rfl⟩ := hrel
              by_cases hlt2 : p2 < ct.length
              · obtain ⟨l, _, hl, b, off, ol, cl, hot, _, c0w, hcll, _, hsl⟩ := HCT.out.slc_at hlt2
                subst hot
                have c0 := (HBV.out.cell (World.block_lt_of_cell? _ _ c0w)).trans c0w
                have hpn : p2 < x.procs.length := by rw [← HCNN.out]; exact hlt2
                obtain ⟨l0, hl0⟩ : ∃ l0, (tabL rs')[p2]? = some l0 := ⟨_, List.getElem?_eq_getElem (by rw [HSHF.out.len, HRT.out.nwt]; exact hpn)⟩
                obtain ⟨r6, hr6, hrl6⟩ : ∃ r6, rs'[p2]? = some r6 ∧ r6.l = l0 := by
                  have h1 := hl0
                  unfold tabL at h1
                  rw [List.getElem?_map, Option.map_eq_some_iff] at h1
                  exact h1
                have hll : l0.length = l.length := by
                  obtain ⟨lw, hlw, hlwl⟩ := HRT.out.row hpn
                  obtain ⟨l1, h1, h2⟩ := HSHF.out.row p2 l0 hl0
                  rw [hlw] at h1
                  injection h1 with h1
                  have h3 := HCZ.out.2.1 p2 l _ hl (getD_procs hpn)
                  rw [HRT.out.let0 hpn] at h3
                  rw [h2, ← h1, hlwl]
                  omega
                have hl8 : l.length ≤ 8 := by
                  have h3 := HCZ.out.2.1 p2 l _ hl (getD_procs hpn)
                  rw [HRT.out.let0 hpn] at h3
                  have := (HRT.out.letters p2 hpn).2
                  omega
                obtain ⟨gc, capc, htc, hcc9, hBg, cr0, hrow7, hBr, hrc9, hrne⟩ := HT.out.get hr6
                injection htc with htc htn9 htcap
                subst htc htcap
                rw [hrl6] at cr0 hrow7 hrc9
                have hp2T : p2 < nT := by
                  have h1 := (List.getElem?_eq_some_iff.1 hr6).1
                  omega
                unfold slV at cr0
                rw [hll] at cr0 hrc9
                have HCELL : Hid (∀ a', cellT (totP x ct ct.length) p2 a' = l0.getD a' 0 ∧ cellT ct p2 a' = l.getD a' 0) := fun a' => by
                  unfold cellT
                  rw [← HTF.out, getD_some hl0, getD_some hl]
                  exact ⟨rfl, rfl⟩
                have HGD : Hid ((ct.getD p2 []).length = l.length) := by show _ = _; rw [getD_some hl]
                have HLL := hide hll
                have HROW := hide hrow7
                have HSL := hide (hsl.below intR_ok HBV.out)
                obtain ⟨ln, hln⟩ : ∃ ln, ln = l.length := ⟨_, rfl⟩
                rw [← hln] at c0 cr0 hcll hrc9 hl8
                have HLN := hide hln
                clear hl hl0 hr6 hrl6 hll htn9 hrow7 hsl hln c0w hcc9 hBg hBr hrne
                go_wp2_with fail
                go_loopw [108] (fun av wx => ∃ a2 : Nat, a2 ≤ ln ∧ av = .int .i64 a2 ∧ Hid (∀ a', a' < a2 → cellT (totP x ct ct.length) p2 a' ≤ cellT ct p2 a') ∧ wx = wr) (fun iv _ => ln - (intOf iv).toNat)
                case atStart => exact ⟨0, by omega, rfl, fun p' hp' => absurd hp' (Nat.not_lt_zero _), by first | rfl | trivial⟩
                case round =>
                  obtain ⟨a2, ha2, rfl, HOA, rfl⟩ := hrel
                  by_cases hal2 : a2 < ln
                  · obtain ⟨k, _, hk, _, b3, off3, hol, _, e0⟩ := HSL.out.int_at (i := a2) (by rw [← HLN.out]; exact hal2)
                    subst hol
                    obtain ⟨zc, hzc⟩ : ∃ zc, l0[a2]? = some zc := ⟨_, List.getElem?_eq_getElem (by rw [HLL.out, ← HLN.out]; exact hal2)⟩
                    have cr1 := HROW.out.cell (i := a2) (x := zc) hzc
                    have hcc := HCELL.out a2
                    rw [getD_some hzc, getD_some hk] at hcc
                    have HCC := hide hcc
                    clear hk hzc hcc
                    by_cases hgt : k < zc
                    · have q1 : decide (k < zc) = true := by simp [hgt]
                      have HD : Hid (doneB x ct = false) := by
                        refine doneB_false hlt2 (a := a2) (by rw [HGD.out, ← HLN.out]; exact hal2) ?_
                        rw [HCC.out.1, HCC.out.2]
                        omega
                      clear hgt
                      go_wp2_with fail
                      go_ret2
                      exact ⟨by rw [HR2.out, HD.out]; rfl, HBV.out⟩
                    · have q1 : decide (k < zc) = false := by simp; omega
                      have HOA2 : Hid (∀ a', a' < a2 + 1 → cellT (totP x ct ct.length) p2 a' ≤ cellT ct p2 a') := fun a' ha' => by
                        by_cases he : a' = a2
                        · subst he
                          rw [HCC.out.1, HCC.out.2]
                          omega
                        · exact HOA.out a' (by omega)
                      clear hgt
                      go_wp2_with fail
                      go_roundw
                      case rel => exact ⟨a2 + 1, by omega, by go_num, HOA2, by first | rfl | trivial⟩
                      case measure => simp [intOf]; omega
                  · have HOK2 : Hid (∀ p', p' < p2 + 1 → ∀ a', a' < (ct.getD p' []).length → cellT (totP x ct ct.length) p' a' ≤ cellT ct p' a') := fun p' hp' a' ha' => by
                      by_cases he : p' = p2
                      · subst he
                        exact HOA.out a' (by rw [HGD.out, ← HLN.out] at ha'; omega)
                      · exact HOK.out p' (by omega) a' ha'
                    go_wp2_with fail
                    go_roundw
                    case rel => exact ⟨p2 + 1, by omega, by go_num, HOK2, by first | rfl | trivial⟩
                    case measure => simp [intOf]; omega
              · have HD : Hid (doneB x ct = true) := doneB_true fun p' hp' a' ha' => HOK.out p' (by omega) a' ha'
                go_wp2_with fail
                go_ret2
                exact ⟨by rw [HR2.out, HD.out]; rfl, HBV.out⟩
      · have HR2 : Hid (compR x ct = (false, cntErr x ct)) := by show _ = _; rw [HR.out, if_neg hce]
        have hq0 : (cntErr x ct != 0) = true := by simpa using hce
        clear hce hr hz
        go_enter Tryz.func17, Tryz.ntmps17
        go_wp2_with (first
          | (go_at_call 30; refine HAB.out.mono ?_; rintro e w2 ⟨rfl, hb2⟩; have x2 := HX1.out.below hb2; have y0 := x2.cell 0; have y1 := x2.cell 1; have y2 := x2.cell 2; simp only [List.getElem?_cons_zero, List.getElem?_cons_succ] at y0 y1 y2; have HB2 := hide (HB1.out.trans (hb2.mono HB1.out.size)); clear hb2 x2)
          | (go_at_call 49; refine (HCN.out _ HB2.out).mono ?_; rintro e w3 ⟨rfl, hb3⟩; have HB3 := hide (HB2.out.trans (hb3.mono HB2.out.size)); clear hb3))
        go_ret2
        exact ⟨by rw [HR2.out]; rfl, HB3.out⟩
  · have HR : Hid (compR x ct = (false, ae)) := by
      show _ = _
      unfold compR
      rw [← HA.out, if_neg h0]
    go_enter Tryz.func17, Tryz.ntmps17
    go_wp2_with (go_at_call 30; refine HAB.out.mono ?_; rintro e w2 ⟨rfl, hb2⟩; have HB2 := hide (HB1.out.trans (hb2.mono HB1.out.size)); clear hb2)
    go_ret2
    exact ⟨by rw [HR.out]; rfl, HB2.out⟩

end Go.Proofs.YtnigfddanoaonaaGreat

set_option linter.unusedVariables false
set_option linter.unusedSimpArgs false
namespace Go.Proofs.YtnigfddanoaonaaGreat
open Go.RowKit

structure Edg where
  a : Int
  b : Int
  m : Int
  deriving DecidableEq

def edgR : Rep Edg := fun _ _ cs x => cs = [.int .i64 x.a, .int .i64 x.b, .int .i64 x.m] ∧ I64 x.a ∧ I64 x.b ∧ I64 x.m
def prR : Rep (Int × Int) := fun _ _ cs x => cs = [.int .i64 x.1, .int .i64 x.2] ∧ I64 x.1 ∧ I64 x.2

theorem edgR_ok : RepOk edgR 3 := {
  len := by rintro F w cs x ⟨rfl, _⟩; rfl
  one := by rintro F w cs x ⟨rfl, _⟩ u hu; simp at hu; rcases hu with rfl | rfl | rfl <;> rfl
  keep := by rintro F w w' cs x h _; exact h
  wide := by rintro F F' w cs x h _; exact h }
theorem prR_ok : RepOk prR 2 := {
  len := by rintro F w cs x ⟨rfl, _⟩; rfl
  one := by rintro F w cs x ⟨rfl, _⟩ u hu; simp at hu; rcases hu with rfl | rfl <;> rfl
  keep := by rintro F w w' cs x h _; exact h
  wide := by rintro F F' w cs x h _; exact h }

section
variable {F : Foot} {w : World} {oa : Option Addr}
theorem SliceR.edg_at {xs : List Edg} (h : SliceR edgR 3 F w oa xs) {i : Nat} (hi : i < xs.length) :
    ∃ a b m, xs.drop i = ⟨a, b, m⟩ :: xs.drop (i + 1) ∧ xs[i]? = some ⟨a, b, m⟩ ∧ I64 a ∧ I64 b ∧ I64 m ∧ ∃ bl off, oa = some ⟨bl, off, none⟩ ∧ F bl ∧ w.cell? ⟨bl, off + i * 3, none⟩ = some (.int .i64 a) ∧ w.cell? ⟨bl, off + i * 3 + 1, none⟩ = some (.int .i64 b) ∧ w.cell? ⟨bl, off + i * 3 + 2, none⟩ = some (.int .i64 m) := by
  obtain ⟨⟨a, b, m⟩, h1, h2, bl, off, cs, h3, h4, ⟨rfl, h5, h6, h7⟩, h8⟩ := h.at hi
  exact ⟨a, b, m, h1, h2, h5, h6, h7, bl, off, h3, h4, by simpa using h8 0 _ rfl, by simpa using h8 1 _ rfl, by simpa using h8 2 _ rfl⟩
theorem SliceR.pr_at {xs : List (Int × Int)} (h : SliceR prR 2 F w oa xs) {i : Nat} (hi : i < xs.length) :
    ∃ a b, xs.drop i = (a, b) :: xs.drop (i + 1) ∧ xs[i]? = some (a, b) ∧ I64 a ∧ I64 b ∧ ∃ bl off, oa = some ⟨bl, off, none⟩ ∧ F bl ∧ w.cell? ⟨bl, off + i * 2, none⟩ = some (.int .i64 a) ∧ w.cell? ⟨bl, off + i * 2 + 1, none⟩ = some (.int .i64 b) := by
  obtain ⟨⟨a, b⟩, h1, h2, bl, off, cs, h3, h4, ⟨rfl, h5, h6⟩, h8⟩ := h.at hi
  exact ⟨a, b, h1, h2, h5, h6, bl, off, h3, h4, by simpa using h8 0 _ rfl, by simpa using h8 1 _ rfl⟩
end

/- The specifications of layer 8. -/
def vtxB (n v : Int) : Bool := decide (0 ≤ v) && decide (v < n)
def cmpI (a b : Int) : Int := if a < b then -1 else if b < a then 1 else 0
def cmpP (p q : Int × Int) : Int := if cmpI p.1 q.1 = 0 then cmpI p.2 q.2 else cmpI p.1 q.1
def edgeErr (n : Int) (last : Int × Int) (x : Edg) : Int :=
  if vtxB n x.a && vtxB n x.b && decide (1 ≤ x.m) && decide (x.m ≤ 50) then (if decide (x.a ≤ x.b) && decide (cmpP last (x.a, x.b) < 0) then 0 else 9) else 2
def edgesErr (n : Int) : Int × Int → List Edg → Int
  | _, [] => 0
  | last, x :: r => if edgeErr n last x = 0 then edgesErr n (x.a, x.b) r else edgeErr n last x
def gErr (n : Int) (es : List Edg) : Int := if n < 1 ∨ n > 12 then 2 else edgesErr n (-1, -1) es

theorem vtxB_iff {n v : Int} : vtxB n v = true ↔ 0 ≤ v ∧ v < n := by simp [vtxB]
theorem cmpI_neg {a b : Int} : cmpI a b < 0 ↔ a < b := by unfold cmpI; split <;> (try split) <;> omega
theorem cmpI_zero {a b : Int} : cmpI a b = 0 ↔ a = b := by unfold cmpI; split <;> (try split) <;> omega
theorem cmpP_neg {p q : Int × Int} : cmpP p q < 0 ↔ p.1 < q.1 ∨ (p.1 = q.1 ∧ p.2 < q.2) := by
  unfold cmpP
  split
  · rename_i h
    have := cmpI_zero.1 h
    have h2 := cmpI_neg (a := p.2) (b := q.2)
    omega
  · rename_i h
    have h1 := cmpI_neg (a := p.1) (b := q.1)
    have h2 := cmpI_zero (a := p.1) (b := q.1)
    omega

theorem edgeErr_zero {n : Int} {last : Int × Int} {x : Edg} (h : edgeErr n last x = 0) : (0 ≤ x.a ∧ x.a < n) ∧ (0 ≤ x.b ∧ x.b < n) ∧ 1 ≤ x.m ∧ x.m ≤ 50 ∧ x.a ≤ x.b ∧ cmpP last (x.a, x.b) < 0 := by
  unfold edgeErr at h
  split at h
  · rename_i h1
    simp only [Bool.and_eq_true, decide_eq_true_eq, vtxB_iff] at h1
    split at h
    · rename_i h2
      simp only [Bool.and_eq_true, decide_eq_true_eq] at h2
      omega
    · cases h
  · cases h
theorem edgesErr_zero {n : Int} : ∀ {es : List Edg} {last : Int × Int}, edgesErr n last es = 0 →
    (∀ x ∈ es, (0 ≤ x.a ∧ x.a < n) ∧ (0 ≤ x.b ∧ x.b < n) ∧ 1 ≤ x.m ∧ x.m ≤ 50 ∧ x.a ≤ x.b ∧ cmpP last (x.a, x.b) < 0) ∧ es.Pairwise fun x y => cmpP (x.a, x.b) (y.a, y.b) < 0
  | [], _, _ => by simp
  | x :: r, last, h => by
    unfold edgesErr at h
    split at h
    · rename_i h0
      have h1 := edgeErr_zero h0
      have ih := edgesErr_zero h
      refine ⟨fun y hy => ?_, ?_⟩
      · rcases List.mem_cons.1 hy with rfl | hy
        · exact h1
        · have h2 := ih.1 y hy
          refine ⟨h2.1, h2.2.1, h2.2.2.1, h2.2.2.2.1, h2.2.2.2.2.1, ?_⟩
          have h3 := cmpP_neg.1 h1.2.2.2.2.2
          have h4 := cmpP_neg.1 h2.2.2.2.2.2
          rw [cmpP_neg]
          simp only at h3 h4 ⊢
          omega
      · rw [List.pairwise_cons]
        exact ⟨fun y hy => (ih.1 y hy).2.2.2.2.2, ih.2⟩
    · rename_i hx; exact absurd h hx
theorem gErr_zero {n : Int} {es : List Edg} (h : gErr n es = 0) : (1 ≤ n ∧ n ≤ 12) ∧ (∀ x ∈ es, (0 ≤ x.a ∧ x.a < n) ∧ (0 ≤ x.b ∧ x.b < n) ∧ 1 ≤ x.m ∧ x.m ≤ 50 ∧ x.a ≤ x.b) ∧ es.Pairwise fun x y => cmpP (x.a, x.b) (y.a, y.b) < 0 := by
  unfold gErr at h
  split at h
  · cases h
  · have h1 := edgesErr_zero h
    refine ⟨by omega, fun x hx => ?_, h1.2⟩
    have := h1.1 x hx
    exact ⟨this.1, this.2.1, this.2.2.1, this.2.2.2.1, this.2.2.2.2.1⟩

/-- The ends of the single edges, one after the other. -/
def endsL (es : List Edg) : List (Int × Int) := es.flatMap fun x => List.replicate x.m.toNat (x.a, x.b)
theorem endsL_cons (x : Edg) (r : List Edg) : endsL (x :: r) = List.replicate x.m.toNat (x.a, x.b) ++ endsL r := rfl
theorem endsL_len {es : List Edg} (h : ∀ x ∈ es, x.m ≤ 50) : (endsL es).length ≤ 50 * es.length := by
  induction es with
  | nil => simp [endsL]
  | cons x r ih =>
    have h1 := ih fun y hy => h y (by simp [hy])
    have h2 := h x (by simp)
    rw [endsL_cons]
    simp
    omega
theorem endsL_mem {es : List Edg} {p : Int × Int} (h : p ∈ endsL es) : ∃ x ∈ es, p = (x.a, x.b) := by
  unfold endsL at h
  rw [List.mem_flatMap] at h
  obtain ⟨x, hx, hp⟩ := h
  exact ⟨x, hx, (List.mem_replicate.1 hp).2⟩

/-- How often two vertices are joined. -/
def betw (es : List Edg) (a b : Int) : Int :=
  match es with
  | [] => 0
  | x :: r => if x.a = min a b ∧ x.b = max a b then x.m else betw r a b
end Go.Proofs.YtnigfddanoaonaaGreat

set_option linter.unusedVariables false
set_option linter.unusedSimpArgs false
namespace Go.Proofs.YtnigfddanoaonaaGreat
open Go.RowKit

theorem cmpC_any (x y : Int) (w : World) : Calls Tryz.prog 149 #[.int .i64 x, .int .i64 y] w fun e w' => e = .returned (.int .i64 (cmpI x y)) ∧ w = w' := by
  have h1 : (x != x) = false := by simp
  have h2 : (y != y) = false := by simp
  by_cases h : x < y
  · have HR : Hid (cmpI x y = -1) := by show _ = _; simp [cmpI, h]
    go_enter Tryz.func149, Tryz.ntmps149
    go_wp2
    go_ret
    exact ⟨ret_int HR.out.symm, rfl⟩
  · by_cases h' : y < x
    · have HR : Hid (cmpI x y = 1) := by show _ = _; simp [cmpI, h, h']
      go_enter Tryz.func149, Tryz.ntmps149
      go_wp2
      go_ret
      exact ⟨ret_int HR.out.symm, rfl⟩
    · have HR : Hid (cmpI x y = 0) := by show _ = _; simp [cmpI, h, h']
      go_enter Tryz.func149, Tryz.ntmps149
      go_wp2
      go_ret
      exact ⟨ret_int HR.out.symm, rfl⟩

def orI (x y : Int) : Int := if x = 0 then y else x
theorem orI_zero {x y : Int} (h : x = 0) : orI x y = y := if_pos h
theorem orI_ne {x y : Int} (h : ¬ x = 0) : orI x y = x := if_neg h
theorem or2_any (x y : Int) (b : Nat) (w : World) (c0 : w.cell? ⟨b, 0, none⟩ = some (.int .i64 x)) (c1 : w.cell? ⟨b, 1, none⟩ = some (.int .i64 y)) :
    Calls Tryz.prog 148 #[.slice (some ⟨b, 0, none⟩) 2 2] w fun e w' => e = .returned (.int .i64 (orI x y)) ∧ w = w' := by
  go_enter Tryz.func148, Tryz.ntmps148
  go_wp2_with fail
  go_loop [8] (fun i => ∃ k : Nat, k ≤ 2 ∧ i = .int .i64 k ∧ Hid (0 < k → x = 0) ∧ Hid (1 < k → y = 0)) (fun i => 2 - (intOf i).toNat)
  case atStart => exact ⟨0, by omega, rfl, fun h => by omega, fun h => by omega⟩
  case round =>
    obtain ⟨k, hk, rfl, HX, HY⟩ := hrel
    match k, hk with
    | 0, _ =>
      by_cases hx : x = 0
      · have hq : (x != 0) = false := by simp [hx]
        have HH := hide hx
        clear hx
        go_wp2_with fail
        go_round
        case rel => exact ⟨1, by omega, by go_num, fun _ => HH.out, fun h => by omega⟩
        case measure => simp [intOf]
      · have hq : (x != 0) = true := by simp [hx]
        have HH := hide hx
        clear hx
        go_wp2_with fail
        go_ret
        exact ⟨ret_int ((orI_ne HH.out).symm), rfl⟩
    | 1, _ =>
      have hx := HX.out (by omega)
      have HH := hide hx
      clear hx
      by_cases hy : y = 0
      · have hq : (y != 0) = false := by simp [hy]
        have HHY := hide hy
        clear hy
        go_wp2_with fail
        go_round
        case rel => exact ⟨2, by omega, by go_num, fun _ => HH.out, fun _ => HHY.out⟩
        case measure => simp [intOf]
      · have hq : (y != 0) = true := by simp [hy]
        have HHY := hide hy
        clear hy
        go_wp2_with fail
        go_ret
        exact ⟨ret_int ((orI_zero HH.out).symm), rfl⟩
    | 2, _ =>
      have HH := hide (HX.out (by omega))
      have HHY := hide (HY.out (by omega))
      clear HX HY
      go_wp2_with fail
      go_ret
      exact ⟨ret_int (by rw [orI_zero HH.out, HHY.out]), rfl⟩

set_option maxHeartbeats 1000000 in
theorem pcmp_any (a b c d : Int) (w : World) :
    Calls Tryz.prog 129 #[.agg #[.int .i64 a, .int .i64 b], .agg #[.int .i64 c, .int .i64 d]] w fun e w' => e = .returned (.int .i64 (cmpP (a, b) (c, d))) ∧ Below w.heap.size w w' := by
  have HR : Hid (cmpP (a, b) (c, d) = orI (cmpI a c) (cmpI b d)) := rfl
  go_enter Tryz.func129, Tryz.ntmps129
  go_wp2_with fail
  have hball : Below w.heap.size w ((w.alloc (.cells #[.int .i64 a, .int .i64 b] 168)).alloc (.cells #[.int .i64 c, .int .i64 d] 168)) := ((Below.refl w.heap.size w).alloc (Nat.le_refl _) _).alloc (by simp) _
  have B1 := (Box.new w [.int .i64 a, .int .i64 b] 168).next (.cells #[.int .i64 c, .int .i64 d] 168)
  have B2 := Box.new (w.alloc (.cells #[.int .i64 a, .int .i64 b] 168)) [.int .i64 c, .int .i64 d] 168
  rw [World.size_alloc] at B2
  generalize hWW : (w.alloc (.cells #[.int .i64 a, .int .i64 b] 168)).alloc (.cells #[.int .i64 c, .int .i64 d] 168) = WW at *
  have d0 := B1.cell 0
  have d1 := B1.cell 1
  have d2 := B2.cell 0
  have d3 := B2.cell 1
  simp at d0 d1 d2 d3
  clear B1 B2
  go_region_held3 (fun w' => w'.cell? ⟨w.heap.size, 0, none⟩ = some (.int .i64 a) ∧ w'.cell? ⟨w.heap.size, 1, none⟩ = some (.int .i64 b) ∧ w'.cell? ⟨w.heap.size + 1, 0, none⟩ = some (.int .i64 c) ∧ w'.cell? ⟨w.heap.size + 1, 1, none⟩ = some (.int .i64 d)) (first | exact ⟨d0, d1, d2, d3⟩ | exact ⟨cell_next d0 _, cell_next d1 _, cell_next d2 _, cell_next d3 _⟩)
    (first
      | (go_at_call 149; refine (cmpC_any _ _ _).mono ?_; rintro e w4 ⟨rfl, rfl⟩)
      | (go_at_call 148; refine (or2_any (cmpI a c) (cmpI b d) _ _ (by simp) (by simp)).mono ?_; rintro e w4 ⟨rfl, rfl⟩))
  all_goals
    go_wp2_with fail
    go_ret
    exact ⟨ret_int HR.out.symm, bnew hball.drew _⟩

theorem gvertex_any (n v : Int) (w : World) : Calls Tryz.prog 132 #[.int .i64 n, .int .i64 v] w fun e w' => e = .returned (.bool (vtxB n v)) ∧ w = w' := by
  by_cases h1 : 0 ≤ v
  · by_cases h2 : v < n
    · have HR : Hid (vtxB n v = true) := by show _ = _; simp [vtxB, h1, h2]
      go_enter Tryz.func132, Tryz.ntmps132
      go_wp2
      go_ret
      exact ⟨ret_bool HR.out.symm, rfl⟩
    · have HR : Hid (vtxB n v = false) := by show _ = _; simp [vtxB, h2]
      go_enter Tryz.func132, Tryz.ntmps132
      go_wp2
      go_ret
      exact ⟨ret_bool HR.out.symm, rfl⟩
  · have HR : Hid (vtxB n v = false) := by show _ = _; simp [vtxB, h1]
    have h2 : decide (0 ≤ v) = false := by simp [h1]
    go_enter Tryz.func132, Tryz.ntmps132
    go_wp2
    go_ret
    exact ⟨ret_bool HR.out.symm, rfl⟩
end Go.Proofs.YtnigfddanoaonaaGreat

set_option linter.unusedVariables false
set_option linter.unusedSimpArgs false
namespace Go.Proofs.YtnigfddanoaonaaGreat
open Go.RowKit

theorem edges_bad2 {n a b m : Int} {last : Int × Int} {r : List Edg} (h : ¬ (vtxB n a = true ∧ vtxB n b = true ∧ 1 ≤ m ∧ m ≤ 50)) : edgesErr n last (⟨a, b, m⟩ :: r) = 2 := by
  have h1 : edgeErr n last ⟨a, b, m⟩ = 2 := by
    unfold edgeErr
    rw [if_neg]
    simp only [Bool.and_eq_true, decide_eq_true_eq]
    intro h2; exact h ⟨h2.1.1.1, h2.1.1.2, h2.1.2, h2.2⟩
  simp [edgesErr, h1]
theorem edges_bad9 {n a b m : Int} {last : Int × Int} {r : List Edg} (h : vtxB n a = true ∧ vtxB n b = true ∧ 1 ≤ m ∧ m ≤ 50) (h2 : ¬ (a ≤ b ∧ cmpP last (a, b) < 0)) : edgesErr n last (⟨a, b, m⟩ :: r) = 9 := by
  have h1 : edgeErr n last ⟨a, b, m⟩ = 9 := by
    unfold edgeErr
    rw [if_pos, if_neg]
    · simp only [Bool.and_eq_true, decide_eq_true_eq]
      exact h2
    · simp only [Bool.and_eq_true, decide_eq_true_eq]
      exact ⟨⟨⟨h.1, h.2.1⟩, h.2.2.1⟩, h.2.2.2⟩
  simp [edgesErr, h1]
theorem edges_good {n a b m : Int} {last : Int × Int} {r : List Edg} (h : vtxB n a = true ∧ vtxB n b = true ∧ 1 ≤ m ∧ m ≤ 50) (h2 : a ≤ b ∧ cmpP last (a, b) < 0) : edgesErr n last (⟨a, b, m⟩ :: r) = edgesErr n (a, b) r := by
  have h1 : edgeErr n last ⟨a, b, m⟩ = 0 := by
    unfold edgeErr
    rw [if_pos, if_pos]
    · simp only [Bool.and_eq_true, decide_eq_true_eq]
      exact h2
    · simp only [Bool.and_eq_true, decide_eq_true_eq]
      exact ⟨⟨⟨h.1, h.2.1⟩, h.2.2.1⟩, h.2.2.2⟩
  simp [edgesErr, h1]

def ErrPost (w : World) (x : Int) (e : Ending) (w' : World) : Prop := e = .returned (.int .i64 x) ∧ Below w.heap.size w w'

set_option maxRecDepth 100000 in
set_option maxHeartbeats 4000000 in
theorem gcheck_any (n : Int) (es : List Edg) (oe : Option Addr) (c : Nat) (F : Foot) (w : World) (hs : SliceR edgR 3 F w oe es) (hc : es.length ≤ c) (hc2 : es.length ≤ 9223372036854775807) :
    Calls Tryz.prog 104 #[.agg #[.int .i64 n, .slice oe es.length c]] w (ErrPost w (gErr n es)) := by
  by_cases hn1 : n < 1
  · have HR : Hid (gErr n es = 2) := if_pos (.inl hn1)
    go_enter Tryz.func104, Tryz.ntmps104
    go_wp2_with fail
    go_ret
    exact ⟨ret_int HR.out.symm, bnew (Below.refl _ _) _⟩
  by_cases hn2 : 12 < n
  · have HR : Hid (gErr n es = 2) := if_pos (.inr hn2)
    go_enter Tryz.func104, Tryz.ntmps104
    go_wp2_with fail
    go_ret
    exact ⟨ret_int HR.out.symm, bnew (Below.refl _ _) _⟩
  have HR : Hid (gErr n es = edgesErr n (-1, -1) es) := if_neg (by omega)
  have hnb1 : 1 ≤ n := by omega
  have hnb2 : n ≤ 12 := by omega
  clear hn1 hn2
  go_enter Tryz.func104, Tryz.ntmps104
  go_wp2_with fail
  have hb0 := box_new (box_refl w (.cells #[.int .i64 n, .slice oe es.length c] 43)) (by simp) (.cells #[.int .i64 (-1), .int .i64 (-1)] 168)
  have hl0 := Box.new (w.alloc (.cells #[.int .i64 n, .slice oe es.length c] 43)) [.int .i64 (-1), .int .i64 (-1)] 168
  rw [World.size_alloc] at hl0
  go_loopw [19] (fun iv wr => ∃ (k : Nat) (la lb : Int), k ≤ es.length ∧ iv = .int .i64 k ∧ Hid (edgesErr n (-1, -1) es = edgesErr n (la, lb) (es.drop k)) ∧ Box wr (w.heap.size + 1) [.int .i64 la, .int .i64 lb] 168 ∧
     Below (w.heap.size + 1) (w.alloc (.cells #[.int .i64 n, .slice oe es.length c] 43)) wr) (fun i _ => es.length - (intOf i).toNat)
  case atStart => exact ⟨0, -1, -1, by omega, rfl, rfl, hl0, hb0⟩
  case round =>
    obtain ⟨k, la, lb, hk, rfl, HE, hl, hb⟩ := hrel
    have d0 := box_cell hb 0
    have d1 := box_cell hb 1
    have l0 := hl.cell 0
    have l1 := hl.cell 1
    simp at d0 d1 l0 l1
    have lf0 := hl.free 0
    have lf1 := hl.free 1
    have hsz := box_lt hb
    have hsz2 := hl.lt
    by_cases hlt : k < es.length
    · obtain ⟨a, b, m, hd, _, _, _, _, bl, off, rfl, _, c0, c1, c2⟩ := (hs.below edgR_ok (below_box hb)).edg_at hlt
      have hl1 := (hl.next (.cells #[.int .i64 a, .int .i64 b, .int .i64 m] 145)).next (.cells #[.int .i64 a, .int .i64 b] 168)
      rw [hd] at HE
      clear hd hs hl
      by_cases hg : vtxB n a = true ∧ vtxB n b = true ∧ 1 ≤ m ∧ m ≤ 50
      case neg =>
        have HX : Hid (gErr n es = 2) := by show _ = _; rw [HR.out, HE.out, edges_bad2 hg]
        clear HE
        have ways : vtxB n a = false ∨ (vtxB n a = true ∧ vtxB n b = false) ∨ (vtxB n a = true ∧ vtxB n b = true ∧ m < 1) ∨ (vtxB n a = true ∧ vtxB n b = true ∧ 1 ≤ m ∧ 50 < m) := by
          cases hva : vtxB n a
          · exact .inl rfl
          · cases hvb : vtxB n b
            · exact .inr (.inl ⟨rfl, rfl⟩)
            · by_cases h1 : m < 1
              · exact .inr (.inr (.inl ⟨rfl, rfl, h1⟩))
              · by_cases h2 : 50 < m
                · exact .inr (.inr (.inr ⟨rfl, rfl, by omega, h2⟩))
                · exact absurd ⟨hva, hvb, by omega, by omega⟩ hg
        clear hg
        rcases ways with h1 | ⟨h1, h2⟩ | ⟨h1, h2, h3⟩ | ⟨h1, h2, h3, h4⟩
        all_goals
          go_wp2_with (go_at_call 132; refine (gvertex_any _ _ _).mono ?_; rintro e w' ⟨rfl, rfl⟩)
          go_ret
          exact ⟨ret_int HX.out.symm, below_box (box_new (box_new hb (by simp) _) (by simp) _)⟩
      case pos =>
        by_cases ho : a ≤ b ∧ cmpP (la, lb) (a, b) < 0
        case neg =>
          have HX : Hid (gErr n es = 9) := by show _ = _; rw [HR.out, HE.out, edges_bad9 hg ho]
          clear HE
          obtain ⟨h1, h2, h3, h4⟩ := hg
          by_cases hab : b < a
          · clear ho
            go_wp2_with (go_at_call 132; refine (gvertex_any _ _ _).mono ?_; rintro e w' ⟨rfl, rfl⟩)
            go_ret
            exact ⟨ret_int HX.out.symm, below_box (box_new (box_new hb (by simp) _) (by simp) _)⟩
          · have hcc : 0 ≤ cmpP (la, lb) (a, b) := by omega
            have hab' : a ≤ b := by omega
            clear ho hab
            go_wp2_with (first
              | (go_at_call 132; refine (gvertex_any _ _ _).mono ?_; rintro e w' ⟨rfl, rfl⟩)
              | (go_at_call 129; refine (pcmp_any _ _ _ _ _).mono ?_; rintro e w4 ⟨rfl, hb4⟩))
            go_ret
            exact ⟨ret_int HX.out.symm, below_box (box_then (box_new (box_new hb (by simp) _) (by simp) _) (by simp) hb4)⟩
        case pos =>
          have HX := hide (HE.out.trans (edges_good hg ho))
          clear HE
          obtain ⟨h1, h2, h3, h4⟩ := hg
          obtain ⟨hab, hcc⟩ := ho
          have hcc2 : decide (0 ≤ cmpP (la, lb) (a, b)) = false := by simp; omega
          go_wp2_with (go_at_call 132; refine (gvertex_any _ _ _).mono ?_; rintro e w' ⟨rfl, rfl⟩)
          refine (pcmp_any _ _ _ _ _).mono ?_
          rintro e w4 ⟨rfl, hb4⟩
          have hp4 := (Box.new (wr.alloc (.cells #[.int .i64 a, .int .i64 b, .int .i64 m] 145)) [.int .i64 a, .int .i64 b] 168).below hb4
          rw [World.size_alloc] at hp4
          have hl4 := hl1.below hb4
          have hx4 := box_then (box_new (box_new hb (by simp) (.cells #[.int .i64 a, .int .i64 b, .int .i64 m] 145)) (by simp) (.cells #[.int .i64 a, .int .i64 b] 168)) (by simp) hb4
          have hsz4 := hl4.lt
          have q0 := hl4.cell 0
          have q1 := hl4.cell 1
          have qf0 := hl4.free 0
          have qf1 := hl4.free 1
          have p0 := hp4.cell 0
          have p1 := hp4.cell 1
          simp at q0 q1 p0 p1
          have hl5 := (hl4.put 0 (.int .i64 a)).put 1 (.int .i64 b)
          simp only [List.set_cons_zero, List.set_cons_succ] at hl5
          clear hl4 hp4 hb4 hl1
          go_wp2_with fail
          go_roundw
          case rel => exact ⟨k + 1, a, b, by omega, by go_num, HX, hl5, (hx4.setCell (p := ⟨w.heap.size + 1, 0, none⟩) (Nat.le_refl _) _).setCell (p := ⟨w.heap.size + 1, 1, none⟩) (Nat.le_refl _) _⟩
          case measure => simp [intOf]; omega
    · have HX : Hid (gErr n es = 0) := by show _ = _; rw [HR.out, HE.out, List.drop_eq_nil_of_le (by omega)]; rfl
      go_wp2_with fail
      go_ret
      exact ⟨ret_int HX.out.symm, below_box hb⟩

end Go.Proofs.YtnigfddanoaonaaGreat

set_option linter.unusedVariables false
set_option linter.unusedSimpArgs false
namespace Go.Proofs.YtnigfddanoaonaaGreat
open Go.RowKit

def atE (n : Int) (es : List Edg) (vs : List Int) : Int := if gErr n es = 0 then (if vs.all (vtxB n) then 0 else 2) else gErr n es
set_option maxRecDepth 100000 in
set_option maxHeartbeats 1000000 in
theorem gat_any (n : Int) (es : List Edg) (oe : Option Addr) (c : Nat) (vs : List Int) (ov : Option Addr) (cv : Nat) (F G : Foot) (w : World) (hs : SliceR edgR 3 F w oe es) (hc : es.length ≤ c) (hc2 : es.length ≤ 9223372036854775807)
    (hv : SliceR intR 1 G w ov vs) (hcv : vs.length ≤ 1000000) :
    Calls Tryz.prog 125 #[.agg #[.int .i64 n, .slice oe es.length c], .slice ov vs.length cv] w (ErrPost w (atE n es vs)) := by
  obtain ⟨W1, e1⟩ : ∃ W1, w.alloc (.cells #[.int .i64 n, .slice oe es.length c] 43) = W1 := ⟨_, rfl⟩
  have bx : Box W1 w.heap.size [.int .i64 n, .slice oe es.length c] 43 := by rw [← e1]; exact Box.new w [.int .i64 n, .slice oe es.length c] 43
  have bb1 := bnew (Below.refl w.heap.size w) (.cells #[.int .i64 n, .slice oe es.length c] 43)
  rw [e1] at bb1
  have HCK := hide (gcheck_any n es oe c F W1 (hs.below edgR_ok bb1) hc hc2)
  have d0 := bx.cell 0
  have d1 := bx.cell 1
  simp only [List.getElem?_cons_zero, List.getElem?_cons_succ] at d0 d1
  have HX := hide bx
  have HB1 := hide bb1
  obtain ⟨ge, hge⟩ : ∃ ge, ge = gErr n es := ⟨_, rfl⟩
  rw [← hge] at HCK
  have HGE := hide hge
  clear hge bx bb1
  by_cases hg0 : ge = 0
  · subst hg0
    have HR : Hid (atE n es vs = if vs.all (vtxB n) then 0 else 2) := by
      show _ = _
      unfold atE
      rw [if_pos HGE.out.symm]
    go_enter Tryz.func125, Tryz.ntmps125
    go_wp2_with (go_at_call 104; refine HCK.out.mono ?_; rintro e w2 ⟨rfl, hb2⟩; have HB2 := hide hb2; have x2 := HX.out.below hb2; have HX2 := hide x2; clear hb2 x2)
    go_loopw [15] (fun iv wr => ∃ k : Nat, k ≤ vs.length ∧ iv = .int .i64 k ∧ Hid (vs.all (vtxB n) = (vs.drop k).all (vtxB n)) ∧ wr = w2) (fun i _ => vs.length - (intOf i).toNat)
    case atStart => exact ⟨0, by omega, rfl, rfl, rfl⟩
    case round =>
      obtain ⟨k, hk, rfl, HE, rfl⟩ := hrel
      have hbw : Below w.heap.size w wr := HB1.out.trans (HB2.out.mono HB1.out.size)
      have HBW := hide hbw
      have y0 := HX2.out.cell 0
      simp only [List.getElem?_cons_zero] at y0
      by_cases hlt : k < vs.length
      · obtain ⟨x, hd, hget, _, b, off, rfl, _, cx⟩ := (hv.below intR_ok hbw).int_at hlt
        have HD := hide hd
        clear hd hget hbw
        cases hq : vtxB n x
        · have HQ := hide hq
          have HR2 : Hid (vs.all (vtxB n) = false) := by
            show _ = _
            rw [HE.out, HD.out]
            simp [HQ.out]
          clear hq
          go_wp2_with (go_at_call 132; refine (gvertex_any n x _).mono ?_; rintro e w' ⟨rfl, rfl⟩; rw [HQ.out])
          go_ret
          exact ⟨ret_int (by rw [HR.out, HR2.out]; rfl), HBW.out⟩
        · have HQ := hide hq
          clear hq
          go_wp2_with (go_at_call 132; refine (gvertex_any n x _).mono ?_; rintro e w' ⟨rfl, rfl⟩; rw [HQ.out])
          go_roundw
          case rel =>
            refine ⟨k + 1, by omega, by go_num, ?_, by first | rfl | trivial⟩
            show _ = _
            rw [HE.out, HD.out, List.all_cons, HQ.out, Bool.true_and]
          case measure => simp [intOf]; omega
      · have HR2 : Hid (vs.all (vtxB n) = true) := by
          show _ = _
          rw [HE.out, List.drop_eq_nil_of_le (by omega)]
          rfl
        clear hbw
        go_wp2_with fail
        go_ret
        exact ⟨ret_int (by rw [HR.out, HR2.out]; rfl), HBW.out⟩
  · have HR : Hid (atE n es vs = ge) := by
      show _ = _
      unfold atE
      rw [← HGE.out, if_neg hg0]
    go_enter Tryz.func125, Tryz.ntmps125
    go_wp2_with (go_at_call 104; refine HCK.out.mono ?_; rintro e w2 ⟨rfl, hb2⟩; have HB2 := hide hb2; clear hb2)
    go_ret
    exact ⟨ret_int HR.out.symm, HB1.out.trans (HB2.out.mono HB1.out.size)⟩

theorem gjoined_any (a b : Int) (w : World) : Calls Tryz.prog 127 #[.int .i64 a, .int .i64 b] w fun e w' => e = .returned (.agg #[.int .i64 (min a b), .int .i64 (max a b)]) ∧ Below w.heap.size w w' := by
  have fin : ∀ x y : Int, Box (w.alloc (.cells #[.int .i64 x, .int .i64 y] 168)) w.heap.size [.int .i64 x, .int .i64 y] 168 := fun x y => Box.new w [.int .i64 x, .int .i64 y] 168
  rcases Int.lt_trichotomy a b with hab | hab | hab
  · rw [show min a b = a by omega, show max a b = b by omega]
    go_enter Tryz.func127, Tryz.ntmps127
    go_wp2_with fail
    refine bodyPost_ret (results_cell_row rfl _ _ w.heap.size 168 _ (0, 0) _ rfl (fin a b) Tryz.underlying168 rfl (by kernel_rfl)) rfl ?_
    exact ⟨rfl, bnew (Below.refl _ _) _⟩
  · subst hab
    rw [show min a a = a by omega, show max a a = a by omega]
    go_enter Tryz.func127, Tryz.ntmps127
    go_wp2_with fail
    refine bodyPost_ret (results_cell_row rfl _ _ w.heap.size 168 _ (0, 0) _ rfl (fin a a) Tryz.underlying168 rfl (by kernel_rfl)) rfl ?_
    exact ⟨rfl, bnew (Below.refl _ _) _⟩
  · rw [show min a b = b by omega, show max a b = a by omega]
    go_enter Tryz.func127, Tryz.ntmps127
    go_wp2_with fail
    refine bodyPost_ret (results_cell_row rfl _ _ w.heap.size 168 _ (0, 0) _ rfl (fin b a) Tryz.underlying168 rfl (by kernel_rfl)) rfl ?_
    exact ⟨rfl, bnew (Below.refl _ _) _⟩

theorem btw1_any (x y m p q cv : Int) (hcv : Hid (cv = cmpP (x, y) (p, q))) (w : World) : Calls Tryz.prog 128 #[.agg #[.int .i64 x, .int .i64 y, .int .i64 m], .agg #[.int .i64 p, .int .i64 q]] w fun e w' => e = .returned (.int .i64 cv) ∧ Below w.heap.size w w' := by
  obtain ⟨W1, e1⟩ : ∃ W1, w.alloc (.cells #[.int .i64 x, .int .i64 y, .int .i64 m] 145) = W1 := ⟨_, rfl⟩
  have b1 : Box W1 w.heap.size [.int .i64 x, .int .i64 y, .int .i64 m] 145 := by rw [← e1]; exact Box.new w [.int .i64 x, .int .i64 y, .int .i64 m] 145
  have bb1 := bnew (Below.refl w.heap.size w) (.cells #[.int .i64 x, .int .i64 y, .int .i64 m] 145)
  rw [e1] at bb1
  obtain ⟨W2, e2⟩ : ∃ W2, W1.alloc (.cells #[.int .i64 p, .int .i64 q] 168) = W2 := ⟨_, rfl⟩
  have b2 : Box W2 W1.heap.size [.int .i64 p, .int .i64 q] 168 := by rw [← e2]; exact Box.new W1 [.int .i64 p, .int .i64 q] 168
  have bb2 := bnew (Below.refl W1.heap.size W1) (.cells #[.int .i64 p, .int .i64 q] 168)
  rw [e2] at bb2
  have b1 := b1.below bb2
  have HB := hide (bb1.trans (bb2.mono bb1.size))
  have d0 := b1.cell 0
  have d1 := b1.cell 1
  have d2 := b2.cell 0
  have d3 := b2.cell 1
  simp only [List.getElem?_cons_zero, List.getElem?_cons_succ] at d0 d1 d2 d3
  clear b1 b2 bb1 bb2
  go_enter Tryz.func128, Tryz.ntmps128
  go_wp2_with (go_at_call 129; refine (pcmp_any x y p q W2).mono ?_; rintro e w' ⟨rfl, hb⟩; have HB3 := hide hb; clear hb)
  go_ret
  exact ⟨ret_int hcv.out.symm, HB.out.trans (HB3.out.mono HB.out.size)⟩

theorem cmpP_zero {p q : Int × Int} : cmpP p q = 0 ↔ p.1 = q.1 ∧ p.2 = q.2 := by
  unfold cmpP
  split
  · rename_i h
    have h1 := cmpI_zero.1 h
    have h2 := cmpI_zero (a := p.2) (b := q.2)
    omega
  · rename_i h
    have h1 := cmpI_zero (a := p.1) (b := q.1)
    omega
/-- Edges in ascending order: what is behind one that is not less is not less. -/
theorem edg_up {es : List Edg} (hp : es.Pairwise fun x y => cmpP (x.a, x.b) (y.a, y.b) < 0) {i j : Nat} {x y : Edg} (hi : es[i]? = some x) (hj : es[j]? = some y) (hij : i < j) : x.a < y.a ∨ (x.a = y.a ∧ x.b < y.b) := by
  obtain ⟨h1, rfl⟩ := List.getElem?_eq_some_iff.1 hi
  obtain ⟨h2, rfl⟩ := List.getElem?_eq_some_iff.1 hj
  have := List.pairwise_iff_getElem.1 hp i j h1 h2 hij
  exact cmpP_neg.1 this

set_option maxRecDepth 100000 in
set_option maxHeartbeats 2000000 in
theorem binE_any (p q : Int) (es : List Edg) (hp : Hid (es.Pairwise fun x y => cmpP (x.a, x.b) (y.a, y.b) < 0)) (oe : Option Addr) (c : Nat) (F : Foot) (w : World) (hs : SliceR edgR 3 F w oe es) (hc : es.length ≤ c) (hc2 : es.length ≤ 1000000000) :
    Calls Tryz.prog 126 #[.slice oe es.length c, .agg #[.int .i64 p, .int .i64 q], .func (.func 128) #[] #[]] w fun e w' =>
      ∃ (i : Nat) (ok : Bool), e = .returned (.tuple #[.int .i64 i, .bool ok]) ∧ (ok = true → ∃ x, es[i]? = some x ∧ x.a = p ∧ x.b = q) ∧ (ok = false → ∀ x ∈ es, ¬ (x.a = p ∧ x.b = q)) ∧ Below w.heap.size w w' := by
  obtain ⟨W1, e1⟩ : ∃ W1, w.alloc (.cells #[.int .i64 p, .int .i64 q] 168) = W1 := ⟨_, rfl⟩
  have bx : Box W1 w.heap.size [.int .i64 p, .int .i64 q] 168 := by rw [← e1]; exact Box.new w [.int .i64 p, .int .i64 q] 168
  have bb1 := bnew (Below.refl w.heap.size w) (.cells #[.int .i64 p, .int .i64 q] 168)
  rw [e1] at bb1
  have HX := hide bx
  have HB1 := hide bb1
  have hs1 := hs.below edgR_ok bb1
  clear bx bb1 hs
  go_enter Tryz.func126, Tryz.ntmps126
  go_wp2_with fail
  go_loopw [9, 10] (fun iv jv wr => ∃ i j : Nat, i ≤ j ∧ j ≤ es.length ∧ iv = .int .i64 i ∧ jv = .int .i64 j ∧ Hid ((∀ (k : Nat) (y : Edg), k < i → es[k]? = some y → cmpP (y.a, y.b) (p, q) < 0) ∧ ∀ (k : Nat) (y : Edg), j ≤ k → es[k]? = some y → 0 ≤ cmpP (y.a, y.b) (p, q)) ∧ Hid (Below W1.heap.size W1 wr)) (fun iv jv _ => (intOf jv).toNat - (intOf iv).toNat)
  case atStart => exact ⟨0, es.length, by omega, by omega, rfl, rfl, ⟨fun k y hk => by omega, fun k y hk h => by
    have := (List.getElem?_eq_some_iff.1 h).1
    omega⟩, Below.refl _ _⟩
  case round =>
    obtain ⟨i, j, hij, hj, rfl, rfl, HI, HB⟩ := hrel
    have y0 := (HX.out.below HB.out).cell 0
    have y1 := (HX.out.below HB.out).cell 1
    simp only [List.getElem?_cons_zero, List.getElem?_cons_succ] at y0 y1
    by_cases hlt : i < j
    · obtain ⟨h, hh⟩ : ∃ h, h = (i + j) / 2 := ⟨_, rfl⟩
      have hmid : ((i : Int) + j) / 2 = (h : Int) := by omega
      have h1 : i ≤ h := by omega
      have h2 : h < j := by omega
      have HH := hide hh
      have hz1 : (0 : Int) ≤ (h : Int) := by omega
      have hz2 : (h : Int) < (es.length : Int) := by omega
      clear hh
      obtain ⟨xa, xb, xm, hd, hget, _, _, _, b, off, hoa, _, c0, c1, c2⟩ := (hs1.below edgR_ok HB.out).edg_at (i := h) (by omega)
      subst hoa
      have HG := hide hget
      clear hd hget
      obtain ⟨cv, hcv⟩ : ∃ cv, cv = cmpP (xa, xb) (p, q) := ⟨_, rfl⟩
      have HCV := hide hcv
      by_cases hyx : cv < 0
      · have HI2 : Hid ((∀ (k : Nat) (y : Edg), k < h + 1 → es[k]? = some y → cmpP (y.a, y.b) (p, q) < 0) ∧ ∀ (k : Nat) (y : Edg), j ≤ k → es[k]? = some y → 0 ≤ cmpP (y.a, y.b) (p, q)) := by
          refine ⟨fun k z hk hz => ?_, HI.out.2⟩
          rcases Nat.lt_or_ge k h with hkh | hkh
          · have h3 := edg_up hp.out hz HG.out hkh
            have h4 := cmpP_neg.1 (hcv ▸ hyx)
            rw [cmpP_neg]
            simp only at h3 h4 ⊢
            omega
          · have : k = h := by omega
            subst this
            rw [HG.out] at hz
            injection hz with hz
            subst hz
            exact hcv ▸ hyx
        have q0 : decide (cv < 0) = true := by simp [hyx]
        clear hcv hyx
        go_wp2_with fail
        go_region_held3 (fun w' => w'.cell? ⟨b, off + h * 3, none⟩ = some (.int .i64 xa) ∧ w'.cell? ⟨b, off + h * 3 + 1, none⟩ = some (.int .i64 xb) ∧ w'.cell? ⟨b, off + h * 3 + 2, none⟩ = some (.int .i64 xm) ∧ w'.cell? ⟨w.heap.size, 0, none⟩ = some (.int .i64 p) ∧ w'.cell? ⟨w.heap.size, 1, none⟩ = some (.int .i64 q)) (first | exact ⟨c0, c1, c2, y0, y1⟩) (first
          | (go_at_call 128; refine (btw1_any xa xb xm p q cv HCV _).mono ?_; rintro e w5 ⟨rfl, h5⟩; have c0 := (h5.cell (World.block_lt_of_cell? _ _ c0)).trans c0; have c1 := (h5.cell (World.block_lt_of_cell? _ _ c1)).trans c1; have c2 := (h5.cell (World.block_lt_of_cell? _ _ c2)).trans c2; have y0 := (h5.cell (World.block_lt_of_cell? _ _ y0)).trans y0; have y1 := (h5.cell (World.block_lt_of_cell? _ _ y1)).trans y1; have HB5 : Hid (Below W1.heap.size W1 w5) := HB.out.trans (((Below.refl _ _).drew.trans h5).mono HB.out.size); clear h5)
          | (go_at_call 128; refine (btw1_any xa xb xm p q cv HCV _).mono ?_; rintro e w5 ⟨rfl, h5⟩; have c0 := (h5.cell (World.block_lt_of_cell? _ _ c0)).trans c0; have c1 := (h5.cell (World.block_lt_of_cell? _ _ c1)).trans c1; have c2 := (h5.cell (World.block_lt_of_cell? _ _ c2)).trans c2; have y0 := (h5.cell (World.block_lt_of_cell? _ _ y0)).trans y0; have y1 := (h5.cell (World.block_lt_of_cell? _ _ y1)).trans y1; have HB5 : Hid (Below W1.heap.size W1 w5) := HB.out.trans (h5.mono HB.out.size); clear h5))
        all_goals
          go_wp2_with fail
          go_roundw
          case rel => exact ⟨h + 1, j, by omega, hj, by go_num, rfl, HI2, HB5.out⟩
          case measure => simp [intOf]; omega
      · have HI2 : Hid ((∀ (k : Nat) (y : Edg), k < i → es[k]? = some y → cmpP (y.a, y.b) (p, q) < 0) ∧ ∀ (k : Nat) (y : Edg), h ≤ k → es[k]? = some y → 0 ≤ cmpP (y.a, y.b) (p, q)) := by
          refine ⟨HI.out.1, fun k z hk hz => ?_⟩
          rcases Nat.lt_or_ge h k with hkh | hkh
          · have h3 := edg_up hp.out HG.out hz hkh
            have h4 := cmpP_neg (p := (xa, xb)) (q := (p, q))
            rw [← hcv] at h4
            have h5 := cmpP_neg (p := (z.a, z.b)) (q := (p, q))
            simp only at h3 h4 h5 ⊢
            omega
          · have : k = h := by omega
            subst this
            rw [HG.out] at hz
            injection hz with hz
            subst hz
            have : ¬ cmpP (xa, xb) (p, q) < 0 := hcv ▸ hyx
            simp only
            omega
        have q0 : decide (cv < 0) = false := by simp; omega
        clear hcv hyx
        go_wp2_with fail
        go_region_held3 (fun w' => w'.cell? ⟨b, off + h * 3, none⟩ = some (.int .i64 xa) ∧ w'.cell? ⟨b, off + h * 3 + 1, none⟩ = some (.int .i64 xb) ∧ w'.cell? ⟨b, off + h * 3 + 2, none⟩ = some (.int .i64 xm) ∧ w'.cell? ⟨w.heap.size, 0, none⟩ = some (.int .i64 p) ∧ w'.cell? ⟨w.heap.size, 1, none⟩ = some (.int .i64 q)) (first | exact ⟨c0, c1, c2, y0, y1⟩) (first
          | (go_at_call 128; refine (btw1_any xa xb xm p q cv HCV _).mono ?_; rintro e w5 ⟨rfl, h5⟩; have c0 := (h5.cell (World.block_lt_of_cell? _ _ c0)).trans c0; have c1 := (h5.cell (World.block_lt_of_cell? _ _ c1)).trans c1; have c2 := (h5.cell (World.block_lt_of_cell? _ _ c2)).trans c2; have y0 := (h5.cell (World.block_lt_of_cell? _ _ y0)).trans y0; have y1 := (h5.cell (World.block_lt_of_cell? _ _ y1)).trans y1; have HB5 : Hid (Below W1.heap.size W1 w5) := HB.out.trans (((Below.refl _ _).drew.trans h5).mono HB.out.size); clear h5)
          | (go_at_call 128; refine (btw1_any xa xb xm p q cv HCV _).mono ?_; rintro e w5 ⟨rfl, h5⟩; have c0 := (h5.cell (World.block_lt_of_cell? _ _ c0)).trans c0; have c1 := (h5.cell (World.block_lt_of_cell? _ _ c1)).trans c1; have c2 := (h5.cell (World.block_lt_of_cell? _ _ c2)).trans c2; have y0 := (h5.cell (World.block_lt_of_cell? _ _ y0)).trans y0; have y1 := (h5.cell (World.block_lt_of_cell? _ _ y1)).trans y1; have HB5 : Hid (Below W1.heap.size W1 w5) := HB.out.trans (h5.mono HB.out.size); clear h5))
        all_goals
          go_wp2_with fail
          go_roundw
          case rel => exact ⟨i, h, by omega, by omega, rfl, rfl, HI2, HB5.out⟩
          case measure => simp [intOf]; omega
    · have hije : i = j := by omega
      subst hije
      by_cases hi : i < es.length
      · obtain ⟨xa, xb, xm, hd, hget, _, _, _, b, off, hoa, _, c0, c1, c2⟩ := (hs1.below edgR_ok HB.out).edg_at hi
        subst hoa
        have HG := hide hget
        clear hd hget
        obtain ⟨cv, hcv⟩ : ∃ cv, cv = cmpP (xa, xb) (p, q) := ⟨_, rfl⟩
        have HCV := hide hcv
        have hil : decide ((i : Int) < es.length) = true := by simp; omega
        by_cases hyx : cv = 0
        · have hpq : xa = p ∧ xb = q := by
            rw [hcv, cmpP_zero] at hyx
            exact hyx
          have HY : Hid (∃ x, es[i]? = some x ∧ x.a = p ∧ x.b = q) := ⟨_, HG.out, hpq⟩
          have q0 : (cv == 0) = true := by simp [hyx]
          clear hcv hpq hyx
          go_wp2_with fail
          go_region_held3 (fun w' => w'.cell? ⟨b, off + i * 3, none⟩ = some (.int .i64 xa) ∧ w'.cell? ⟨b, off + i * 3 + 1, none⟩ = some (.int .i64 xb) ∧ w'.cell? ⟨b, off + i * 3 + 2, none⟩ = some (.int .i64 xm) ∧ w'.cell? ⟨w.heap.size, 0, none⟩ = some (.int .i64 p) ∧ w'.cell? ⟨w.heap.size, 1, none⟩ = some (.int .i64 q)) (first | exact ⟨c0, c1, c2, y0, y1⟩) (first
          | (go_at_call 128; refine (btw1_any xa xb xm p q cv HCV _).mono ?_; rintro e w5 ⟨rfl, h5⟩; have c0 := (h5.cell (World.block_lt_of_cell? _ _ c0)).trans c0; have c1 := (h5.cell (World.block_lt_of_cell? _ _ c1)).trans c1; have c2 := (h5.cell (World.block_lt_of_cell? _ _ c2)).trans c2; have y0 := (h5.cell (World.block_lt_of_cell? _ _ y0)).trans y0; have y1 := (h5.cell (World.block_lt_of_cell? _ _ y1)).trans y1; have HB5 : Hid (Below W1.heap.size W1 w5) := HB.out.trans (((Below.refl _ _).drew.trans h5).mono HB.out.size); clear h5)
          | (go_at_call 128; refine (btw1_any xa xb xm p q cv HCV _).mono ?_; rintro e w5 ⟨rfl, h5⟩; have c0 := (h5.cell (World.block_lt_of_cell? _ _ c0)).trans c0; have c1 := (h5.cell (World.block_lt_of_cell? _ _ c1)).trans c1; have c2 := (h5.cell (World.block_lt_of_cell? _ _ c2)).trans c2; have y0 := (h5.cell (World.block_lt_of_cell? _ _ y0)).trans y0; have y1 := (h5.cell (World.block_lt_of_cell? _ _ y1)).trans y1; have HB5 : Hid (Below W1.heap.size W1 w5) := HB.out.trans (h5.mono HB.out.size); clear h5))
          all_goals
            go_wp2_with fail
            go_ret2
            exact ⟨_, true, rfl, fun _ => HY.out, fun h => by (cases h), HB1.out.trans (HB5.out.mono HB1.out.size)⟩
        · have HY : Hid (∀ x ∈ es, ¬ (x.a = p ∧ x.b = q)) := fun z hz hpq => by
            obtain ⟨k, hk, rfl⟩ := List.getElem_of_mem hz
            have hzk := List.getElem?_eq_getElem hk
            have hcz : cmpP ((es[k]).a, (es[k]).b) (p, q) = 0 := by rw [cmpP_zero]; exact hpq
            rcases Nat.lt_or_ge k i with h1 | h1
            · have := HI.out.1 k _ h1 hzk
              omega
            · rcases Nat.lt_or_ge i k with h2 | h2
              · have h3 := edg_up hp.out HG.out hzk h2
                have h4 := HI.out.2 i _ (Nat.le_refl _) HG.out
                have h5 := cmpP_neg (p := (xa, xb)) (q := (p, q))
                simp only at h3 h4 h5
                omega
              · have : k = i := by omega
                subst this
                rw [hzk] at HG
                have e := HG.out
                injection e with e
                rw [e] at hcz
                exact hyx (hcv.trans hcz)
          have q0 : (cv == 0) = false := by simp [hyx]
          clear hcv hyx
          go_wp2_with fail
          go_region_held3 (fun w' => w'.cell? ⟨b, off + i * 3, none⟩ = some (.int .i64 xa) ∧ w'.cell? ⟨b, off + i * 3 + 1, none⟩ = some (.int .i64 xb) ∧ w'.cell? ⟨b, off + i * 3 + 2, none⟩ = some (.int .i64 xm) ∧ w'.cell? ⟨w.heap.size, 0, none⟩ = some (.int .i64 p) ∧ w'.cell? ⟨w.heap.size, 1, none⟩ = some (.int .i64 q)) (first | exact ⟨c0, c1, c2, y0, y1⟩) (first
          | (go_at_call 128; refine (btw1_any xa xb xm p q cv HCV _).mono ?_; rintro e w5 ⟨rfl, h5⟩; have c0 := (h5.cell (World.block_lt_of_cell? _ _ c0)).trans c0; have c1 := (h5.cell (World.block_lt_of_cell? _ _ c1)).trans c1; have c2 := (h5.cell (World.block_lt_of_cell? _ _ c2)).trans c2; have y0 := (h5.cell (World.block_lt_of_cell? _ _ y0)).trans y0; have y1 := (h5.cell (World.block_lt_of_cell? _ _ y1)).trans y1; have HB5 : Hid (Below W1.heap.size W1 w5) := HB.out.trans (((Below.refl _ _).drew.trans h5).mono HB.out.size); clear h5)
          | (go_at_call 128; refine (btw1_any xa xb xm p q cv HCV _).mono ?_; rintro e w5 ⟨rfl, h5⟩; have c0 := (h5.cell (World.block_lt_of_cell? _ _ c0)).trans c0; have c1 := (h5.cell (World.block_lt_of_cell? _ _ c1)).trans c1; have c2 := (h5.cell (World.block_lt_of_cell? _ _ c2)).trans c2; have y0 := (h5.cell (World.block_lt_of_cell? _ _ y0)).trans y0; have y1 := (h5.cell (World.block_lt_of_cell? _ _ y1)).trans y1; have HB5 : Hid (Below W1.heap.size W1 w5) := HB.out.trans (h5.mono HB.out.size); clear h5))
          all_goals
            go_wp2_with fail
            go_ret2
            exact ⟨_, false, rfl, fun h => by (cases h), fun _ => HY.out, HB1.out.trans (HB5.out.mono HB1.out.size)⟩
      · have HY : Hid (∀ x ∈ es, ¬ (x.a = p ∧ x.b = q)) := fun z hz hpq => by
          obtain ⟨k, hk, rfl⟩ := List.getElem_of_mem hz
          have h1 := HI.out.1 k _ (by omega) (List.getElem?_eq_getElem hk)
          have hcz : cmpP ((es[k]).a, (es[k]).b) (p, q) = 0 := by rw [cmpP_zero]; exact hpq
          omega
        have hil : decide ((i : Int) < es.length) = false := by simp; omega
        go_wp2_with fail
        go_quiet (fail)
        go_wp2_with fail
        go_ret2
        exact ⟨_, false, rfl, fun h => by (cases h), fun _ => HY.out, below_drewN (HB1.out.trans (HB.out.mono HB1.out.size)) _⟩

def btwRes (n : Int) (es : List Edg) (a b : Int) : Int × Int := if atE n es [a, b] = 0 then (betw es a b, 0) else (0, atE n es [a, b])
theorem betw_of {es : List Edg} (hp : es.Pairwise fun x y => cmpP (x.a, x.b) (y.a, y.b) < 0) {a b : Int} : (∀ x ∈ es, x.a = min a b ∧ x.b = max a b → betw es a b = x.m) ∧ ((∀ x ∈ es, ¬ (x.a = min a b ∧ x.b = max a b)) → betw es a b = 0) := by
  induction es with
  | nil => exact ⟨fun x hx => by (cases hx), fun _ => rfl⟩
  | cons y r ih =>
    rw [List.pairwise_cons] at hp
    have ih := ih hp.2
    refine ⟨fun x hx hxe => ?_, fun h => ?_⟩
    · simp only [betw]
      rcases List.mem_cons.1 hx with rfl | hx
      · rw [if_pos hxe]
      · rw [if_neg (fun hy => by
          have h1 := cmpP_neg.1 (hp.1 x hx)
          simp only at h1
          omega)]
        exact ih.1 x hx hxe
    · simp only [betw]
      rw [if_neg (h y (by simp))]
      exact ih.2 fun x hx => h x (by simp [hx])

set_option maxRecDepth 100000 in
set_option maxHeartbeats 2000000 in
theorem gbetw_any (n : Int) (es : List Edg) (oe : Option Addr) (c : Nat) (F : Foot) (w : World) (hs : SliceR edgR 3 F w oe es) (hc : es.length ≤ c) (hc2 : es.length ≤ 1000000000) (a b : Int) (ha : I64 a) (hb : I64 b) :
    Calls Tryz.prog 97 #[.agg #[.int .i64 n, .slice oe es.length c], .int .i64 a, .int .i64 b] w fun e w' => e = .returned (.tuple #[.int .i64 (btwRes n es a b).1, .int .i64 (btwRes n es a b).2]) ∧ Below w.heap.size w w' := by
  obtain ⟨W1, e1⟩ : ∃ W1, w.alloc (.cells #[.int .i64 n, .slice oe es.length c] 43) = W1 := ⟨_, rfl⟩
  have bx : Box W1 w.heap.size [.int .i64 n, .slice oe es.length c] 43 := by rw [← e1]; exact Box.new w [.int .i64 n, .slice oe es.length c] 43
  have bb1 := bnew (Below.refl w.heap.size w) (.cells #[.int .i64 n, .slice oe es.length c] 43)
  rw [e1] at bb1
  obtain ⟨W2, e2⟩ : ∃ W2, W1.alloc (.cells #[.int .i64 a, .int .i64 b] 3) = W2 := ⟨_, rfl⟩
  have hl2 : SliceR intR 1 All W2 (some ⟨W1.heap.size, 0, none⟩) [a, b] := by
    have := ints_lit (F := All) (G := All) W1 3 [a, b] (by intro x hx; simp at hx; rcases hx with rfl | rfl <;> assumption) trivial
    rw [← e2]
    simpa using this
  have bb2 := bnew (Below.refl W1.heap.size W1) (.cells #[.int .i64 a, .int .i64 b] 3)
  rw [e2] at bb2
  have hs2 := (hs.below edgR_ok bb1).below edgR_ok bb2
  have bx2 := bx.below bb2
  have d0 := bx.cell 0
  have d1 := bx.cell 1
  simp only [List.getElem?_cons_zero, List.getElem?_cons_succ] at d0 d1
  have HX := hide bx2
  have HB2 := hide (bb1.trans (bb2.mono bb1.size))
  have HAT := hide (gat_any n es oe c [a, b] (some ⟨W1.heap.size, 0, none⟩) 2 F All W2 hs2 hc (by omega) hl2 (by simp))
  have HS2 := hide hs2
  obtain ⟨ae, hae⟩ : ∃ ae, ae = atE n es [a, b] := ⟨_, rfl⟩
  rw [← hae] at HAT
  have HAE := hide hae
  clear hae bx bb1 bb2 hl2 hs2 bx2
  by_cases h0 : ae = 0
  · subst h0
    have HG : Hid (gErr n es = 0) := by
      have := HAE.out
      unfold atE at this
      split at this
      · assumption
      · rename_i hx; exact absurd this.symm hx
    have HR : Hid (btwRes n es a b = (betw es a b, 0)) := by show _ = _; unfold btwRes; rw [if_pos HAE.out.symm]
    have HPW := hide (gErr_zero HG.out).2.2
    have HBW := hide (betw_of HPW.out (a := a) (b := b))
    obtain ⟨mn, hmn⟩ : ∃ mn, mn = min a b := ⟨_, rfl⟩
    obtain ⟨mx, hmx⟩ : ∃ mx, mx = max a b := ⟨_, rfl⟩
    have HJ : Hid (∀ u, Calls Tryz.prog 127 #[.int .i64 a, .int .i64 b] u fun e w' => e = .returned (.agg #[.int .i64 mn, .int .i64 mx]) ∧ Below u.heap.size u w') := fun u => by
      rw [hmn, hmx]
      exact gjoined_any a b u
    rw [← hmn, ← hmx] at HBW
    clear hmn hmx
    go_enter Tryz.func97, Tryz.ntmps97
    go_wp2_with (go_at_call 125; refine HAT.out.mono ?_; rintro e w3 ⟨rfl, hb3⟩; have x3 := HX.out.below hb3; have y0 := x3.cell 0; have y1 := x3.cell 1; simp only [List.getElem?_cons_zero, List.getElem?_cons_succ] at y0 y1; have HX3 := hide x3; have HB3 := hide (HB2.out.trans (hb3.mono HB2.out.size)); have HS3 := hide (HS2.out.below edgR_ok hb3); clear hb3 x3)
    go_region_held3 (fun w' => w'.cell? ⟨w.heap.size, 1, none⟩ = some (.slice oe es.length c)) (first | exact y1) (first
      | (go_at_call 127; refine (HJ.out _).mono ?_; rintro e w5 ⟨rfl, h5⟩; have y1 := (h5.cell (World.block_lt_of_cell? _ _ y1)).trans y1; have HS5 := hide ((HS3.out.below edgR_ok (Below.refl _ _).drew).below edgR_ok h5); have HB5 := hide (HB3.out.drew.trans (h5.mono HB3.out.size)); have HX5 := hide (HX3.out.draw.below h5); clear h5)
      | (go_at_call 127; refine (HJ.out _).mono ?_; rintro e w5 ⟨rfl, h5⟩; have y1 := (h5.cell (World.block_lt_of_cell? _ _ y1)).trans y1; have HS5 := hide (HS3.out.below edgR_ok h5); have HB5 := hide (HB3.out.trans (h5.mono HB3.out.size)); have HX5 := hide (HX3.out.below h5); clear h5)
      | (go_at_call 126; refine (binE_any mn mx es HPW oe c F _ HS5.out hc (by omega)).mono ?_; rintro e w6 ⟨i, ok, rfl, hy, hn, h6⟩; have y1 := (h6.cell (World.block_lt_of_cell? _ _ y1)).trans y1; have HS6 := hide (HS5.out.below edgR_ok h6); have HB6 := hide (HB5.out.trans (h6.mono HB5.out.size)); have HX6 := hide (HX5.out.below h6); have HY := hide hy; have HN := hide hn; clear h6 hy hn))
    all_goals
      cases ok
      · go_wp2_with fail
        go_ret2
        exact ⟨by rw [HR.out, HBW.out.2 (HN.out (by first | rfl | trivial))]; rfl, HB6.out⟩
      · obtain ⟨x, hx, hxe⟩ := HY.out (by first | rfl | trivial)
        obtain ⟨xa, xb, xm, hd, hget, _, _, _, b', off, hoa, _, c0, c1, c2⟩ := HS6.out.edg_at (i := i) (List.getElem?_eq_some_iff.1 hx).1
        subst hoa
        have HM : Hid (betw es a b = xm) := by
          show _ = _
          rw [HBW.out.1 x (List.mem_of_getElem? hx) hxe]
          rw [hget] at hx
          injection hx with hx
          rw [← hx]
        have hil : i < es.length := (List.getElem?_eq_some_iff.1 hx).1
        clear hx hxe hd hget
        go_wp2_with fail
        go_ret2
        exact ⟨by rw [HR.out, HM.out]; rfl, HB6.out⟩
  · have HR : Hid (btwRes n es a b = (0, ae)) := by show _ = _; unfold btwRes; rw [← HAE.out, if_neg h0]
    go_enter Tryz.func97, Tryz.ntmps97
    go_wp2_with (go_at_call 125; refine HAT.out.mono ?_; rintro e w3 ⟨rfl, hb3⟩; have HB3 := hide (HB2.out.trans (hb3.mono HB2.out.size)); clear hb3)
    go_ret2
    exact ⟨by rw [HR.out]; rfl, HB3.out⟩

end Go.Proofs.YtnigfddanoaonaaGreat

set_option linter.unusedVariables false
set_option linter.unusedSimpArgs false
namespace Go.Proofs.YtnigfddanoaonaaGreat
open Go.RowKit

theorem run_copy_at {P : Program} (w : World) (dT sT ty elem : TypeId) (g off dLen dCap sz n : Nat) (ad : Addr) (sLen sCap : Nat) (cur : Array Value) (t : TypeId) (cs : List Value)
    (hu : P.underlying dT = some (.slice elem)) (hs : (P.info? elem).map (·.size) = some sz) (hg : w.heap[g]? = some (.cells cur t (0, 0))) (hn : n = Nat.min sLen dLen) (hc : cs.length = n * sz)
    (hsrc : ∀ j v, cs[j]? = some v → w.cell? (ad.add j) = some v) (hfit : off + cs.length ≤ cur.size) (h1 : ∀ v ∈ cs, v.oneCell' = true) :
    (Builtin.copy_ #[dT, sT] ty #[.slice (some ⟨g, off, none⟩) dLen dCap, .slice (some ad) sLen sCap]).run P w = .ok (goInt n) (w.setRow g (splice cur.toList off cs).toArray) := by
  have hl := run_loadCells_list (P := P) w ad cs hsrc
  have hst := run_storeCells_at P g off t cs 0 cur w hg (by simpa using hfit) h1
  cases hq : P.info? elem with
  | none => simp [hq] at hs
  | some i =>
    have hi : i.size = sz := by simpa [hq] using hs
    rw [hc] at hl
    rw [Nat.add_zero, List.append_assoc] at hst
    unfold splice
    simp [Builtin.copy_, run_underlying hu, Builtin.lenOf, Builtin.firstCells, sizeOf, typeInfo, hq, hi, ← hn, hl, hst]
/-- A copy within a drawn region, of n elements of sz cells. -/
theorem step_copy_at {P : Program} {ops : Array Oper} {o : Oper} {a : Act} {w : World} {K : Act → World → Prop} {Q : Exit → Act → World → Prop} {E : Prop} (hgd : o.guard = none) (d s : Operand) (dT sT : TypeId)
    (ho : o.op = .call { callee := .builtin .copy, args := #[d, s], argTypes := #[dT, sT] }) (elem : TypeId) (sz : Nat) (hu : P.underlying dT = some (.slice elem)) (hsz : (P.info? elem).map (·.size) = some sz)
    (g off dLen dCap : Nat) (ad : Addr) (sLen sCap : Nat) (hd : a.eval d = .slice (some ⟨g, off, none⟩) dLen dCap) (hs : a.eval s = .slice (some ad) sLen sCap)
    (cur : List Value) (t : TypeId) (hg : w.heap[g]? = some (.cells cur.toArray t (0, 0))) (n : Nat) (hn : n = Nat.min sLen dLen) (cs : List Value) (hc : cs.length = n * sz)
    (hsrc : ∀ j v, cs[j]? = some v → w.cell? (ad.add j) = some v) (hfit : off + cs.length ≤ cur.length) (h1 : ∀ v ∈ cs, v.oneCell' = true) (B : Nat) (w0 : World) (hb : RowKit.Below B w0 w) (hBg : B ≤ g)
    (h : ∀ w', RowKit.Hid (w'.heap[g]? = some (.cells (splice cur off cs).toArray t (0, 0))) → RowKit.Below B w0 w' → K (a.put o.dst (goInt n)) w') :
    if Region.wanted o (yielded ops a.tmps) = true then Oper.wp P o a w K Q else E := by
  have hw : Region.wanted o (yielded ops a.tmps) = true := by simp [Region.wanted, hgd]
  rw [if_pos hw]
  have hrun := run_copy_at (P := P) w dT sT o.type elem g off dLen dCap sz n ad sLen sCap cur.toArray t cs hu hsz hg hn hc hsrc (by simpa using hfit) h1
  unfold Oper.wp
  simp [execOp, ho, resolve, invoke, builtin, hd, hs, hrun, Result.andThen]
  exact h _ (show _ = _ by simpa using setRow_heap w g _ _ t _ hg) (below_setRow hb hBg _)

theorem outSizeN : (Tryz.prog.info? 102).map (·.size) = some 2 := by kernel_rfl
theorem outInfoN : (Tryz.prog.info? 102).map (fun i => (i.zero, i.size, i.bytes)) = some (some (.agg #[.int .i64 0, .int .i64 0]), 2, 16) := by kernel_rfl
def pat (a b : Value) (j : Nat) : Value := if j % 2 = 0 then a else b
def pats (a b : Value) (n : Nat) : List Value := (List.range n).map (pat a b)
theorem pats_len (a b : Value) (n : Nat) : (pats a b n).length = n := by simp [pats]
theorem pats_get {a b : Value} {n j : Nat} (h : j < n) : (pats a b n)[j]? = some (pat a b j) := by simp [pats, h]
theorem pats_at {a b : Value} {n j : Nat} {v : Value} (h : (pats a b n)[j]? = some v) : j < n ∧ v = pat a b j := by
  have hj : j < n := by have := (List.getElem?_eq_some_iff.1 h).1; rwa [pats_len] at this
  rw [pats_get hj] at h
  injection h with h
  exact ⟨hj, h.symm⟩
theorem pats_one (x y : Int) (n : Nat) : ∀ v ∈ pats (.int .i64 x) (.int .i64 y) n, v.oneCell' = true := fun v hv => by
  unfold pats at hv
  obtain ⟨j, _, rfl⟩ := List.mem_map.1 hv
  unfold pat
  split <;> rfl
/-- A row of n outputs, of which the first m are ⟨x, y⟩. -/
def RowP (w : World) (g n : Nat) (x y : Int) (m : Nat) : Prop := ∃ cur : List Value, w.heap[g]? = some (.cells cur.toArray 102 (0, 0)) ∧ cur.length = 2 * n ∧ ∀ j, j < 2 * m → cur[j]? = some (pat (.int .i64 x) (.int .i64 y) j)

theorem copy_firstO {w w1 : World} {n c b off : Nat} {x y : Int} {zs : List Value} (hown : w1.ownsRow w.heap.size 102 2 (.slice (some ⟨w.heap.size, 0, none⟩) n n) n zs) (hg : w.grownBy w1 none)
    (cx : w.cell? ⟨b, off, none⟩ = some (.int .i64 x)) (cy : w.cell? ⟨b, off + 1, none⟩ = some (.int .i64 y)) :
    ∃ (m : Nat) (w2 : World), Hid (m = min n 1) ∧ (Builtin.copy_ #[97, 97] 3 #[.slice (some ⟨w.heap.size, 0, none⟩) n n, .slice (some ⟨b, off, none⟩) 1 c]).run Tryz.prog w1 = .ok (.int .i64 m) w2 ∧ RowP w2 w.heap.size n x y m ∧ Below w.heap.size w w2 := by
  obtain ⟨hl, hv⟩ := hown
  have hb1 : Below w.heap.size w w1 := (Below.refl w.heap.size w).grown hg (Nat.le_refl _) fun k hk => by cases hk
  rcases hv with ⟨he, _⟩ | ⟨g, cap, cur, he, _, hh, _, _, hcs, _⟩
  · cases he
  · injection he with h1 h2 h3
    injection h1 with h1
    injection h1 with h1
    subst h1 h3
    rcases Nat.eq_zero_or_pos n with h0 | h0
    · subst h0
      have hrun : (Builtin.copy_ #[97, 97] 3 #[.slice (some ⟨w.heap.size, 0, none⟩) 0 0, .slice (some ⟨b, off, none⟩) 1 c]).run Tryz.prog w1 = .ok (goInt ((0 : Nat) : Int)) (w1.setRow w.heap.size (splice cur.toList 0 []).toArray) :=
        run_copy_at (P := Tryz.prog) w1 97 97 3 102 w.heap.size 0 0 0 2 0 ⟨b, off, none⟩ 1 c cur 102 [] Tryz.underlying97 outSizeN hh (by simp) rfl (fun j v hj => by simp at hj) (by simp) (by simp)
      refine ⟨0, _, rfl, hrun, ⟨_, setRow_heap w1 _ _ _ _ _ hh, ?_, fun j hj => by omega⟩, below_setRow hb1 (Nat.le_refl _) _⟩
      simpa [splice] using hcs
    · have hcell : w1.cell? ⟨b, off, none⟩ = some (.int .i64 x) := (hb1.cell (World.block_lt_of_cell? _ _ cx)).trans cx
      have hcell2 : w1.cell? ⟨b, off + 1, none⟩ = some (.int .i64 y) := (hb1.cell (World.block_lt_of_cell? _ _ cy)).trans cy
      have hcs' : cur.size = 2 * n := by rw [hcs]; omega
      have hrun : (Builtin.copy_ #[97, 97] 3 #[.slice (some ⟨w.heap.size, 0, none⟩) n n, .slice (some ⟨b, off, none⟩) 1 c]).run Tryz.prog w1 = .ok (goInt ((1 : Nat) : Int)) (w1.setRow w.heap.size (splice cur.toList 0 [.int .i64 x, .int .i64 y]).toArray) :=
        run_copy_at (P := Tryz.prog) w1 97 97 3 102 w.heap.size 0 n n 2 1 ⟨b, off, none⟩ 1 c cur 102 [.int .i64 x, .int .i64 y] Tryz.underlying97 outSizeN hh (by show 1 = min 1 n; omega) rfl (fun j v hj => by
          match j, hj with
          | 0, hj => simp at hj; subst hj; simpa [Addr.add] using hcell
          | 1, hj => simp at hj; subst hj; simpa [Addr.add] using hcell2) (by rw [hcs']; simp; omega) (by intro v hv; simp at hv; rcases hv with rfl | rfl <;> rfl)
      refine ⟨1, _, by show _ = _; omega, hrun, ⟨_, setRow_heap w1 _ _ _ _ _ hh, ?_, ?_⟩, below_setRow hb1 (Nat.le_refl _) _⟩
      · rw [length_splice _ _ _ (by simp; omega)]; simpa using hcs'
      · intro j hj
        match j, hj with
        | 0, _ => simp [splice, pat]
        | 1, _ => simp [splice, pat]

set_option maxRecDepth 100000 in
set_option maxHeartbeats 4000000 in
theorem repeatO_any (x : Out) (n c : Nat) (oa : Option Addr) (F : Foot) (w : World) (hn : n ≤ 256) (hs : SliceR outR 2 F w oa [x]) :
    Calls Tryz.prog 98 #[.slice oa 1 c, .int .i64 n] w fun e w' => ∃ v, e = .returned v ∧ OwnS outR 2 w.heap.size 102 Non w' v (List.replicate n x) ∧ Below w.heap.size w w' := by
  obtain ⟨x1, y1, _, hx', ix, iy, b, off, rfl, _, cx, cy⟩ := hs.out_at (i := 0) (by simp)
  simp at hx'
  subst hx'
  rw [Nat.zero_mul, Nat.add_zero] at cx cy
  obtain ⟨i, hi, hz, hsz, hby⟩ := info_parts outInfoN
  have IX := hide (And.intro ix iy)
  have HI := hide (And.intro hi (And.intro hz (And.intro hsz hby)))
  clear hi hz hsz hby ix iy
  have hd1 : decide ((n : Int) < 0) = false := by simp
  have hd2 : decide (9223372036854775807 < (n : Int)) = false := by simp; omega
  go_enter Tryz.func98, Tryz.ntmps98
  go_wp2_with (first
    | (go_at_call 93; refine (mul_one n (by omega) _).mono ?_; rintro e w' ⟨rfl, rfl⟩)
    | (at_make; refine wpList_make_full _ rfl _ _ 97 rfl w.heap.size 102 i _ 2 Tryz.underlying97 HI.out.1 HI.out.2.1 HI.out.2.2.1 .i64 .i64 _ _ n rfl rfl rfl rfl (by rw [HI.out.2.2.2]; omega) (by unfold maxLen; omega) (Nat.le_refl _) (fun w1 hown hgrow => ?_)
       obtain ⟨m0, w2, HM0, hcp, hrow, hbw⟩ := copy_firstO (c := c) hown hgrow cx cy
       clear hown hgrow))
  clear hcp cx cy
  go_loopw [8] (fun v wr => ∃ m : Nat, v = .int .i64 m ∧ m ≤ n ∧ (n = 0 ∨ 0 < m) ∧ RowP wr w.heap.size n x1 y1 m ∧ Below w.heap.size w wr) (fun v _ => n - (intOf v).toNat)
  case atStart => exact ⟨m0, rfl, by have := HM0.out; omega, by have := HM0.out; omega, hrow, hbw⟩
  case round =>
    obtain ⟨m, rfl, hmn, hm0, ⟨cur, hcur, hcl, hcx⟩, hb⟩ := hrel
    by_cases hlt : m < n
    · have hm1 : 0 < m := by omega
      have hnm : ¬ n = m := by omega
      obtain ⟨q, hq⟩ : ∃ q, q = min m (n - m) := ⟨_, rfl⟩
      have hq1 : 0 < q := by omega
      have hq2 : m + q ≤ n := by omega
      have hqm : q ≤ m := by omega
      have hwr : IntKind.i64.wrap ((m : Int) + (q : Int)) = (m : Int) + q := IntWalk.i64_in _ (by omega)
      have HQ := hide hq
      have HCUR := hide hcur
      have HCX := hide hcx
      have HCL := hide hcl
      clear hq hcur hcx hcl hrow hbw
      go_wp2_with fail
      go_region_law (refine step_copy_at rfl (.tmp 41) (.tmp 44) 97 97 rfl 102 2 Tryz.underlying97 outSizeN w.heap.size (m * 2) (n - m) (n - m) ⟨w.heap.size, 0, none⟩ m n (by simp [Act.eval, Act.put]) (by simp [Act.eval, Act.put]) cur 102 HCUR.out q (by have := HQ.out; show q = min m (n - m); exact this) (pats (.int .i64 x1) (.int .i64 y1) (q * 2)) (by rw [pats_len]) (fun j v hj => by
        obtain ⟨hjq, hv⟩ := pats_at hj
        subst hv
        rw [show (Addr.mk w.heap.size 0 none).add j = ⟨w.heap.size, j, none⟩ from by unfold Addr.add; split <;> simp_all]
        change wr.cell? ⟨w.heap.size, j, none⟩ = _
        rw [cell_of_row wr w.heap.size j _ _ _ HCUR.out]
        simpa using HCX.out j (by omega)) (by rw [pats_len]; have := HCL.out; omega) (pats_one x1 y1 _) w.heap.size w hb.drew (Nat.le_refl _) ?_; intro w4 hg4 hb4)
      all_goals
        simp [Act.put]
        go_roundw
        case rel =>
          refine ⟨_, _, _, _, _, _, _, _, _, _, _, _, _, _, ⟨m + q, by go_num, by omega, .inr (by omega), ⟨_, hg4.out, by rw [length_splice _ _ _ (by rw [pats_len]; have := HCL.out; omega)]; exact HCL.out, ?_⟩, hb4⟩, rfl⟩
          intro j hj
          unfold splice
          have hcl := HCL.out
          by_cases h : j < m * 2
          · rw [List.getElem?_append_left (by simp; omega), List.getElem?_take_of_lt h]
            exact HCX.out j (by omega)
          · have htl : (cur.take (m * 2)).length = m * 2 := by rw [List.length_take]; omega
            rw [List.getElem?_append_right (by omega), htl, List.getElem?_append_left (by rw [pats_len]; omega), pats_get (by omega)]
            unfold pat
            have : (j - m * 2) % 2 = j % 2 := by omega
            rw [this]
        case measure => simp [intOf]; omega
    · have hmn2 : m = n := by omega
      subst hmn2
      have HCUR := hide hcur
      have HCX := hide hcx
      have HCL := hide hcl
      clear hcur hcx hcl
      go_wp2_with fail
      go_ret
      have hcl := HCL.out
      refine ⟨_, rfl, ⟨cur, ⟨by rw [List.length_replicate, hcl]; omega, .inr ⟨w.heap.size, m, _, by simp, Nat.le_refl _, HCUR.out, by simp, by unfold maxLen; omega, by rw [List.size_toArray, hcl]; omega, by rw [List.length_replicate]; exact List.take_of_length_le (by rw [hcl]; omega)⟩⟩, ?_, ?_⟩, hb⟩
      · intro u hu
        obtain ⟨j, hj, rfl⟩ := List.mem_iff_getElem.1 hu
        have h1 := HCX.out j (by omega)
        rw [List.getElem?_eq_getElem hj] at h1
        injection h1 with h1
        rw [h1]
        unfold pat
        split <;> rfl
      · intro j y hy
        have hj : j < m := by have := (List.getElem?_eq_some_iff.1 hy).1; simpa using this
        rw [List.getElem?_replicate, if_pos hj] at hy
        injection hy with hy
        subst hy
        refine ⟨?_, IX.out⟩
        unfold chunk
        have e0 := HCX.out (j * 2) (by omega)
        have e1 := HCX.out (j * 2 + 1) (by omega)
        unfold pat at e0 e1
        rw [if_pos (by omega)] at e0
        rw [if_neg (by omega)] at e1
        apply List.ext_getElem?
        intro k
        rw [List.getElem?_take]
        split
        · rename_i hk
          rw [List.getElem?_drop]
          match k, hk with
          | 0, _ => simpa using e0
          | 1, _ => simpa using e1
        · rw [List.getElem?_eq_none (by simp; omega)]

end Go.Proofs.YtnigfddanoaonaaGreat

set_option linter.unusedVariables false
set_option linter.unusedSimpArgs false
namespace Go.Proofs.YtnigfddanoaonaaGreat
open Go.RowKit

def sinkP : Prc := ⟨1, 1, [[⟨0, []⟩]]⟩
/-- The letters that vertex v sends to the first i vertices. -/
def nbrU (es : List Edg) (v : Nat) (i : Nat) : List Out := (List.range i).flatMap fun w => if w = v then [] else List.replicate (betw es v w).toNat ⟨w, 0⟩
theorem nbrU_succ (es : List Edg) (v i : Nat) : nbrU es v (i + 1) = nbrU es v i ++ (if i = v then [] else List.replicate (betw es v i).toNat ⟨i, 0⟩) := by
  unfold nbrU
  rw [List.range_succ, List.flatMap_append]
  simp
def topRow (sent : List Out) (s : Nat) : List Rul := [⟨((s + 1) % sent.length : Nat), if s + 1 = sent.length then sent else []⟩]
def topP (sent : List Out) : Prc := ⟨sent.length, 1, (List.range sent.length).map (topRow sent)⟩
theorem betw_bound {n : Int} {es : List Edg} (h : gErr n es = 0) (a b : Int) : 0 ≤ betw es a b ∧ betw es a b ≤ 50 := by
  obtain ⟨_, h2, h3⟩ := gErr_zero h
  have hb := betw_of h3 (a := a) (b := b)
  by_cases hx : ∃ x ∈ es, x.a = min a b ∧ x.b = max a b
  · obtain ⟨x, hx, he⟩ := hx
    rw [hb.1 x hx he]
    have := h2 x hx
    omega
  · rw [hb.2 fun x hm he => hx ⟨x, hm, he⟩]
    omega
theorem nbrU_len {n : Int} {es : List Edg} (h : gErr n es = 0) (v : Nat) : ∀ i, (nbrU es v i).length ≤ 50 * i
  | 0 => by simp [nbrU]
  | i + 1 => by
    have h1 := nbrU_len h v i
    have h2 := betw_bound h (v : Int) (i : Int)
    rw [nbrU_succ, List.length_append]
    split
    · simp; omega
    · rw [List.length_replicate]; omega
theorem out_lit (w : World) (x y : Int) (hx : I64 x) (hy : I64 y) : SliceR outR 2 All (w.alloc (.cells #[.int .i64 x, .int .i64 y] 102)) (some ⟨w.heap.size, 0, none⟩) [⟨x, y⟩] :=
  SliceR.lit (F := All) outR_ok w 102 [[.int .i64 x, .int .i64 y]] [⟨x, y⟩] (fun k z hz => by match k, hz with | 0, hz => simp at hz; subst hz; exact ⟨_, rfl, rfl, hx, hy⟩) rfl (fun _ h => h) trivial
theorem ruleF_lit {F : Foot} (w : World) (cs : List Value) (r : Rul) (h : ruleR F w cs r) (hF : F w.heap.size) : SliceR ruleR 2 F (w.alloc (.cells cs.toArray 99)) (some ⟨w.heap.size, 0, none⟩) [r] := by
  have := SliceR.lit (F := F) (G := F) ruleR_ok w 99 [cs] [r] (fun k z hz => by match k, hz with | 0, hz => simp at hz; subst hz; exact ⟨_, rfl, h⟩) rfl (fun _ h => h) hF
  simpa using this
theorem rowF_lit {F : Foot} (w : World) (cs : List Value) (r : List Rul) (h : slcR ruleR 2 F w cs r) (hF : F w.heap.size) : SliceR (slcR ruleR 2) 1 F (w.alloc (.cells cs.toArray 100)) (some ⟨w.heap.size, 0, none⟩) [r] := by
  have := SliceR.lit (F := F) (G := F) rowR_ok w 100 [cs] [r] (fun k z hz => by match k, hz with | 0, hz => simp at hz; subst hz; exact ⟨_, rfl, h⟩) rfl (fun _ h => h) hF
  simpa using this

set_option maxRecDepth 100000 in
theorem nsink_any (w : World) : Calls Tryz.prog 53 #[] w fun e w' => ∃ cs, e = .returned (.agg cs.toArray) ∧ prcR (fun k => w.heap.size < k) w' cs sinkP ∧ Below w.heap.size w w' := by
  obtain ⟨W1, e1⟩ : ∃ W1, w.alloc (.cells #[.int .i64 0, .int .i64 0, .slice none 0 0] 89) = W1 := ⟨_, rfl⟩
  have bx : Box W1 w.heap.size [.int .i64 0, .int .i64 0, .slice none 0 0] 89 := by rw [← e1]; exact Box.new w [.int .i64 0, .int .i64 0, .slice none 0 0] 89
  have bb1 := bnew (Below.refl w.heap.size w) (.cells #[.int .i64 0, .int .i64 0, .slice none 0 0] 89)
  have hz1 : W1.heap.size = w.heap.size + 1 := by rw [← e1, alloc_size']
  rw [e1] at bb1
  obtain ⟨W2, e2⟩ : ∃ W2, W1.alloc (.cells #[.int .i64 0, .slice none 0 0] 99) = W2 := ⟨_, rfl⟩
  have hr2 : SliceR ruleR 2 (fun k => w.heap.size < k) W2 (some ⟨w.heap.size + 1, 0, none⟩) [⟨0, []⟩] := by
    rw [← e2, ← hz1]
    exact ruleF_lit W1 [.int .i64 0, .slice none 0 0] ⟨0, []⟩ ⟨none, 0, rfl, by unfold I64; simp, by simp, by simp, SliceR.nil _ _ _ _ _⟩ (by omega)
  have bb2 := bnew (Below.refl W1.heap.size W1) (.cells #[.int .i64 0, .slice none 0 0] 99)
  have hz2 : W2.heap.size = w.heap.size + 2 := by rw [← e2, alloc_size', hz1]
  rw [e2] at bb2
  obtain ⟨W3, e3⟩ : ∃ W3, W2.alloc (.cells #[.slice (some ⟨w.heap.size + 1, 0, none⟩) 1 1] 100) = W3 := ⟨_, rfl⟩
  have hr3 : SliceR (slcR ruleR 2) 1 (fun k => w.heap.size < k) W3 (some ⟨w.heap.size + 2, 0, none⟩) [[⟨0, []⟩]] := by
    rw [← e3, ← hz2]
    exact rowF_lit W2 [.slice (some ⟨w.heap.size + 1, 0, none⟩) 1 1] [⟨0, []⟩] ⟨_, 1, rfl, by simp, by simp, hr2⟩ (by omega)
  have bb3 := bnew (Below.refl W2.heap.size W2) (.cells #[.slice (some ⟨w.heap.size + 1, 0, none⟩) 1 1] 100)
  rw [e3] at bb3
  have bx3 := (bx.below bb2).below bb3
  have HB := hide ((bb1.trans (bb2.mono bb1.size)).trans (bb3.mono (by omega)))
  have HR := hide hr3
  have HX := hide bx3
  have x0 := bx3.cell 0
  have x1 := bx3.cell 1
  have x2 := bx3.cell 2
  have xf := bx3.free
  simp only [List.getElem?_cons_zero, List.getElem?_cons_succ] at x0 x1 x2
  clear hr2 hr3 bb1 bb2 bb3 bx bx3
  go_enter Tryz.func53, Tryz.ntmps53
  go_wp2_with fail
  have hfin := ((HX.out.put 0 (.int .i64 1)).put 1 (.int .i64 1)).put 2 (.slice (some ⟨w.heap.size + 2, 0, none⟩) 1 1)
  simp only [List.set_cons_zero, List.set_cons_succ] at hfin
  refine bodyPost_ret (results_cell_row rfl _ _ w.heap.size 89 _ (0, 0) _ rfl hfin Tryz.underlying89 rfl (by kernel_rfl)) rfl ?_
  refine ⟨_, rfl, ⟨some ⟨w.heap.size + 2, 0, none⟩, 1, rfl, by unfold I64 sinkP; simp, by unfold I64 sinkP; simp, by simp [sinkP], by simp [sinkP], ?_⟩, ((HB.out.setCell (Nat.le_refl _) _).setCell (Nat.le_refl _) _).setCell (Nat.le_refl _) _⟩
  refine HR.out.keep rowR_ok fun k hk _ => ?_
  rw [Below.heap_setCell _ _ _ k (by simp only; omega), Below.heap_setCell _ _ _ k (by simp only; omega), Below.heap_setCell _ _ _ k (by simp only; omega)]

theorem intlF {F : Foot} (w : World) (x : Int) (hx : I64 x) (hF : F w.heap.size) : SliceR intR 1 F (w.alloc (.cells #[.int .i64 x] 3)) (some ⟨w.heap.size, 0, none⟩) [x] := by
  have := ints_lit (F := F) (G := F) w 3 [x] (by intro z hz; simp at hz; subst hz; exact hx) hF
  simpa using this
def waitD (d : List Int) (q : Int) (i : Nat) : List (List Int) := (List.range i).map fun v : Nat => [if (v : Int) = q then 0 else d.getD v 0]
theorem waitD_succ (d : List Int) (q : Int) (i : Nat) : waitD d q (i + 1) = waitD d q i ++ [[if (i : Int) = q then 0 else d.getD i 0]] := by
  unfold waitD
  rw [List.range_succ, List.map_append]
  rfl
theorem waitD_len (d : List Int) (q : Int) (i : Nat) : (waitD d q i).length = i := by simp [waitD]
set_option maxRecDepth 100000 in
set_option maxHeartbeats 1000000 in
theorem nwaiting_any (d : List Int) (q : Int) (od : Option Addr) (cd : Nat) (F : Foot) (w : World) (hs : SliceR intR 1 F w od d) (hc : d.length ≤ cd) (hc2 : d.length ≤ 1000000) :
    Calls Tryz.prog 52 #[.slice od d.length cd, .int .i64 q] w fun e w' => ∃ v, e = .returned v ∧ OwnS (slcR intR 1) 1 w.heap.size 23 (InF (fun k => w.heap.size ≤ k) v) w' v (waitD d q d.length) ∧ Below w.heap.size w w' := by
  go_enter Tryz.func52, Tryz.ntmps52
  go_wp2_with fail
  go_loopg [5, 10] d.length (fun gm tv iv wr => ∃ i : Nat, i ≤ d.length ∧ gm = d.length - i ∧ iv = .int .i64 i ∧ Hid (OwnS (slcR intR 1) 1 w.heap.size 23 (InF (fun k => w.heap.size ≤ k) tv) wr tv (waitD d q i)) ∧ Hid (Below w.heap.size w wr))
  case atStart => exact ⟨0, by omega, by omega, rfl, OwnS.nil _ _ _ _ _ _, Below.refl _ _⟩
  case round =>
    obtain ⟨i, hi, hgm, rfl, HO, HB⟩ := hrel
    have HGM := hide hgm
    clear hgm
    by_cases hlt : i < d.length
    · obtain ⟨x, hd, hget, hx64, b, off, rfl, _, c0⟩ := (hs.below intR_ok HB.out).int_at hlt
      have HG := hide hget
      have HL : Hid ((waitD d q i).length = i) := waitD_len d q i
      obtain ⟨y, hy⟩ : ∃ y, y = if (i : Int) = q then 0 else x := ⟨_, rfl⟩
      have HY : Hid (waitD d q (i + 1) = waitD d q i ++ [[y]]) := by
        show _ = _
        rw [waitD_succ, hy, getD_some hget]
      have hy64 : I64 y := by
        rw [hy]
        split
        · unfold I64; simp
        · exact hx64
      have HY64 := hide hy64
      have hbase : w.heap.size ≤ wr.heap.size := HB.out.size
      clear hd hget hx64 hy64
      by_cases hq : (i : Int) = q
      · have hye : y = 0 := by rw [hy, if_pos hq]
        subst hye
        have q1 : ((i : Int) == q) = true := by simp [hq]
        clear hy hq
        go_wp2_with (at_builtin; refine wpList_append_in rfl (.tmp 18) (.tmp 21) 24 rfl w.heap.size 23 _ 1 24 Tryz.underlying24 tabInfoN rfl (by decide) (slcR_ok intR_ok (by decide)) (fun k => w.heap.size ≤ k) u5 (waitD d q i) (by simp [Act.eval, Act.put]) ((HO.out.new (slcR_ok intR_ok (by decide)) _).new (slcR_ok intR_ok (by decide)) _) ⟨_, 0, none⟩ 1 [.slice (some ⟨wr.heap.size, 0, none⟩) 1 1] [0] (by simp [Act.eval, Act.put]) (World.news_of_block (heap_alloc_new _ _)) ((slcR_ok intR_ok (by decide)).keep (⟨some ⟨wr.heap.size, 0, none⟩, 1, rfl, by simp, by simp, intlF wr 0 HY64.out ⟨hbase, fun e => by have := (HO.out.block _ e.symm).2; omega⟩⟩ : slcR intR 1 (InF (fun k => w.heap.size ≤ k) u5) (wr.alloc (.cells #[.int .i64 0] 3)) [.slice (some ⟨wr.heap.size, 0, none⟩) 1 1] [0]) (SameOn.of_below (bnew (Below.refl _ _) _))) (by rw [HL.out]; omega) (by rw [HL.out]; unfold maxLen; omega) (by rw [alloc_size', alloc_size']; omega) (fun v' w8 ho hb8 hg8 hat => ?_); have HO8 := hide ho; have HB8 := hide hb8; clear ho hb8 hg8 hat)
        go_roundg (d.length - (i + 1))
        case measure => have := HGM.out; omega
        case rel =>
          have ho := HO8.out
          rw [← HY.out] at ho
          exact ⟨i + 1, by omega, rfl, by go_num, ho, ((HB.out.alloc hbase _).alloc (by rw [alloc_size']; omega) _).trans HB8.out⟩
      · have hye : y = x := by rw [hy, if_neg hq]
        subst hye
        have q1 : ((i : Int) == q) = false := by simp [hq]
        clear hy hq
        go_wp2_with (at_builtin; refine wpList_append_in rfl (.tmp 18) (.tmp 21) 24 rfl w.heap.size 23 _ 1 24 Tryz.underlying24 tabInfoN rfl (by decide) (slcR_ok intR_ok (by decide)) (fun k => w.heap.size ≤ k) u5 (waitD d q i) (by simp [Act.eval, Act.put]) ((HO.out.new (slcR_ok intR_ok (by decide)) _).new (slcR_ok intR_ok (by decide)) _) ⟨_, 0, none⟩ 1 [.slice (some ⟨wr.heap.size, 0, none⟩) 1 1] [y] (by simp [Act.eval, Act.put]) (World.news_of_block (heap_alloc_new _ _)) ((slcR_ok intR_ok (by decide)).keep (⟨some ⟨wr.heap.size, 0, none⟩, 1, rfl, by simp, by simp, intlF wr y HY64.out ⟨hbase, fun e => by have := (HO.out.block _ e.symm).2; omega⟩⟩ : slcR intR 1 (InF (fun k => w.heap.size ≤ k) u5) (wr.alloc (.cells #[.int .i64 y] 3)) [.slice (some ⟨wr.heap.size, 0, none⟩) 1 1] [y]) (SameOn.of_below (bnew (Below.refl _ _) _))) (by rw [HL.out]; omega) (by rw [HL.out]; unfold maxLen; omega) (by rw [alloc_size', alloc_size']; omega) (fun v' w8 ho hb8 hg8 hat => ?_); have HO8 := hide ho; have HB8 := hide hb8; clear ho hb8 hg8 hat)
        go_roundg (d.length - (i + 1))
        case measure => have := HGM.out; omega
        case rel =>
          have ho := HO8.out
          rw [← HY.out] at ho
          exact ⟨i + 1, by omega, rfl, by go_num, ho, ((HB.out.alloc hbase _).alloc (by rw [alloc_size']; omega) _).trans HB8.out⟩
    · have hie : i = d.length := by omega
      subst hie
      go_wp2_with fail
      go_ret
      exact ⟨_, rfl, HO.out, HB.out⟩

theorem topRules_take (sent : List Out) (s : Nat) : (List.range (s + 1)).map (topRow sent) = (List.range s).map (topRow sent) ++ [topRow sent s] := by rw [List.range_succ, List.map_append]; rfl
/-- What toppler comes to. -/
def TopPost (w : World) (sent : List Out) (e : Ending) (w' : World) : Prop :=
  (if sent.length ≤ 16 then ∃ cs, e = .returned (.tuple #[.agg cs.toArray, .int .i64 0]) ∧ prcR (fun k => w.heap.size ≤ k) w' cs (topP sent)
    else e = .returned (.tuple #[.agg #[.int .i64 0, .int .i64 0, .slice none 0 0], .int .i64 12])) ∧ Below w.heap.size w w'
set_option maxRecDepth 100000 in
set_option maxHeartbeats 4000000 in
theorem ntoppler_any (n : Nat) (es : List Edg) (oe : Option Addr) (c : Nat) (F : Foot) (w : World) (hs : SliceR edgR 3 F w oe es) (hc : es.length ≤ c) (hc2 : es.length ≤ 1000000000) (hg : gErr n es = 0) (v : Nat) (hv : v < n) :
    Calls Tryz.prog 54 #[.agg #[.int .i64 n, .slice oe es.length c], .int .i64 v] w (TopPost w (nbrU es v n)) := by
  have h12 : 1 ≤ n ∧ n ≤ 12 := by have := (gErr_zero hg).1; omega
  obtain ⟨W1, e1⟩ : ∃ W1, w.alloc (.cells #[.int .i64 n, .slice oe es.length c] 43) = W1 := ⟨_, rfl⟩
  have bx1 : Box W1 w.heap.size [.int .i64 n, .slice oe es.length c] 43 := by rw [← e1]; exact Box.new w [.int .i64 n, .slice oe es.length c] 43
  have bb1 := bnew (Below.refl w.heap.size w) (.cells #[.int .i64 n, .slice oe es.length c] 43)
  rw [e1] at bb1
  obtain ⟨W2, e2⟩ : ∃ W2, W1.alloc (.cells #[.int .i64 0, .int .i64 0, .slice none 0 0] 89) = W2 := ⟨_, rfl⟩
  have bx2 : Box W2 W1.heap.size [.int .i64 0, .int .i64 0, .slice none 0 0] 89 := by rw [← e2]; exact Box.new W1 [.int .i64 0, .int .i64 0, .slice none 0 0] 89
  have bb2 := bnew (Below.refl W1.heap.size W1) (.cells #[.int .i64 0, .int .i64 0, .slice none 0 0] 89)
  rw [e2] at bb2
  have hz1 : w.heap.size ≤ W1.heap.size := bb1.size
  have hz2 : W1.heap.size < W2.heap.size := by rw [← e2, alloc_size']; omega
  have bx1 := bx1.below bb2
  have hb2 := bb1.trans (bb2.mono hz1)
  have HX1 := hide bx1
  have HX2 := hide bx2
  have HB2 := hide hb2
  have HGE := hide hg
  have d0 := bx1.cell 0
  have d1 := bx1.cell 1
  have r0 := bx2.cell 0
  have r1 := bx2.cell 1
  have r2 := bx2.cell 2
  simp only [List.getElem?_cons_zero, List.getElem?_cons_succ] at d0 d1 r0 r1 r2
  have HBT : Hid (∀ (u : World) (i : Nat), i < n → Below w.heap.size w u → Calls Tryz.prog 97 #[.agg #[.int .i64 n, .slice oe es.length c], .int .i64 v, .int .i64 i] u fun e w' => e = .returned (.tuple #[.int .i64 (betw es v i), .int .i64 0]) ∧ Below u.heap.size u w') := fun u i hi hu => by
    have h := gbetw_any n es oe c F u (hs.below edgR_ok hu) hc hc2 v i (by unfold I64; omega) (by unfold I64; omega)
    have h1 : btwRes n es v i = (betw es v i, 0) := by
      have : atE n es [(v : Int), (i : Int)] = 0 := by
        unfold atE
        rw [if_pos hg, if_pos]
        simp [vtxB]
        omega
      unfold btwRes
      rw [if_pos this]
    rw [h1] at h
    exact h
  clear bx1 bx2 bb1 bb2 hb2 hs hg
  go_enter Tryz.func54, Tryz.ntmps54
  go_wp2_with fail
  go_loopg [6, 16] n (fun gm tv iv wr => ∃ i : Nat, i ≤ n ∧ gm = n - i ∧ iv = .int .i64 i ∧ Hid (OwnS outR 2 W2.heap.size 102 Non wr tv (nbrU es v i)) ∧ Hid (Below W2.heap.size W2 wr))
  case atStart => exact ⟨0, by omega, by omega, rfl, OwnS.nil _ _ _ _ _ _, Below.refl _ _⟩
  case round =>
    obtain ⟨i, hi, hgm, rfl, HO, HB⟩ := hrel
    have HGM := hide hgm
    clear hgm
    have x1 := HX1.out.below HB.out
    have y0 := x1.cell 0
    have y1 := x1.cell 1
    simp only [List.getElem?_cons_zero, List.getElem?_cons_succ] at y0 y1
    by_cases hlt : i < n
    · by_cases hiv : i = v
      · have q1 : ((i : Int) == (v : Int)) = true := by simp [hiv]
        have HN : Hid (nbrU es v (i + 1) = nbrU es v i) := by show _ = _; rw [nbrU_succ, if_pos hiv, List.append_nil]
        clear hiv
        go_wp2_with fail
        go_roundg (n - (i + 1))
        case measure => have := HGM.out; omega
        case rel => exact ⟨i + 1, by omega, rfl, by go_num, by rw [HN.out]; exact HO, HB⟩
      · have q1 : ((i : Int) == (v : Int)) = false := by simp; omega
        obtain ⟨m, hm⟩ : ∃ m : Nat, betw es v i = (m : Int) := ⟨(betw es v i).toNat, by have := betw_bound HGE.out (v : Int) (i : Int); omega⟩
        have hm50 : m ≤ 50 := by have := betw_bound HGE.out (v : Int) (i : Int); omega
        have HN : Hid (nbrU es v (i + 1) = nbrU es v i ++ List.replicate m ⟨i, 0⟩) := by show _ = _; rw [nbrU_succ, if_neg hiv, hm]; rfl
        have HLN := hide (nbrU_len HGE.out v i)
        have hbw : Below w.heap.size w wr := HB2.out.trans (HB.out.mono (by omega))
        have HBC := hide (HBT.out wr i hlt hbw)
        rw [hm] at HBC
        have hsz : W2.heap.size ≤ wr.heap.size := HB.out.size
        clear hm hiv hbw
        go_wp2_with (first
          | (go_at_call 97; refine HBC.out.mono ?_; rintro e w3 ⟨rfl, h3⟩; have HB3 := hide h3; clear h3)
          | (go_at_call 98; refine (repeatO_any ⟨i, 0⟩ m 1 _ All _ (by omega) (out_lit w3 i 0 (by unfold I64; omega) (by unfold I64; omega))).mono ?_; rintro e w4 ⟨v4, rfl, h4, hb4⟩; obtain ⟨o4, c4, hv4, hc4, hs4⟩ := h4.slice outR_ok; rw [List.length_replicate] at hv4; subst hv4; have HS4 := hide hs4; have HB4 := hide hb4; clear h4 hb4 hc4 hs4)
          | (at_builtin; refine wpList_append_rep rfl (.tmp 33) (.tmp 38) 97 rfl W2.heap.size 102 _ 2 16 Tryz.underlying97 outInfoN rfl (by decide) outR_ok Non (fun k => Non k ∨ (w3.alloc (.cells #[.int .i64 i, .int .i64 0] 102)).heap.size ≤ k) u6 (nbrU es v i) (by simp [Act.eval, Act.put]) (((HO.out.below outR_ok HB3.out).new outR_ok _).below outR_ok HB4.out) o4 c4 (List.replicate m ⟨i, 0⟩) (by simp [Act.eval, Act.put]) HS4.out (fun _ _ h => h) (fun _ h => h.elim) (by rw [List.length_replicate]; have := HLN.out; omega) (by rw [List.length_replicate]; have := HLN.out; omega) (by have h1 := HB3.out.size; have h2 := HB4.out.size; rw [alloc_size'] at h2; omega) ?_; intro v' w5 ho hb5 hg5; have HO5 := hide ho; have HB5 := hide hb5; clear ho hb5 hg5))
        go_roundg (n - (i + 1))
        case measure => have := HGM.out; omega
        case rel =>
          have h3 := HB3.out.size
          have h4 := HB4.out
          rw [alloc_size'] at h4
          exact ⟨i + 1, by omega, rfl, by go_num, by rw [HN.out]; exact HO5, (HB.out.trans ((HB3.out.mono hsz).alloc (by omega) _)).trans ((h4.mono (by omega)).trans HB5.out)⟩
    · have hin : i = n := by omega
      subst hin
      obtain ⟨ot, ct, htv, hct, hst⟩ := HO.out.slice outR_ok
      have hlen := nbrU_len HGE.out v i
      obtain ⟨sent, hsent⟩ : ∃ sent, sent = nbrU es v i := ⟨_, rfl⟩
      rw [← hsent] at htv hct hst hlen ⊢
      obtain ⟨k, hk⟩ : ∃ k, k = sent.length := ⟨_, rfl⟩
      rw [← hk] at htv hct hlen
      subst htv
      have hsz : W2.heap.size ≤ wr.heap.size := HB.out.size
      have hbw : Below w.heap.size w wr := HB2.out.trans (HB.out.mono (by omega))
      have HBW := hide hbw
      have HK := hide hk
      have HST : Hid (SliceR outR 2 (fun q => W2.heap.size ≤ q ∧ q < wr.heap.size) wr ot sent) := hst.wide outR_ok (by decide) fun q hq hlq => ⟨by rcases hq with h | h; exact h.elim; exact h, hlq⟩
      have x2 := HX2.out.below HB.out
      have r0 := x2.cell 0
      have r1 := x2.cell 1
      have r2 := x2.cell 2
      have rf := x2.free
      simp only [List.getElem?_cons_zero, List.getElem?_cons_succ] at r0 r1 r2
      have HX2r := hide x2
      have hk0 : (0 : Int) ≤ (k : Int) := by omega
      have hk600 : (k : Int) ≤ 600 := by omega
      have hct2 : k ≤ ct := hct
      have HLV := hide hsent
      clear x2 hst hsent hk hbw HO hct
      by_cases hk16 : k ≤ 16
      · have q16 : decide ((16 : Int) < (k : Int)) = false := by simp; omega
        go_wp2_with fail
        obtain ⟨W3, e3⟩ : ∃ W3, wr.alloc (.cells #[.int .i64 k, .int .i64 1, .slice none 0 0] 89) = W3 := ⟨_, rfl⟩
        have bx3 : Box W3 wr.heap.size [.int .i64 k, .int .i64 1, .slice none 0 0] 89 := by rw [← e3]; exact Box.new wr [.int .i64 k, .int .i64 1, .slice none 0 0] 89
        have bb3 := bnew (Below.refl wr.heap.size wr) (.cells #[.int .i64 k, .int .i64 1, .slice none 0 0] 89)
        rw [e3] at bb3
        rw [e3]
        obtain ⟨pb, hpb⟩ : ∃ pb, pb = wr.heap.size := ⟨_, rfl⟩
        have HB3 := hide bb3
        have HX3 := hide bx3
        have HBWR : Hid (Below pb wr W3) := by rw [hpb]; exact bb3
        rw [← hpb] at HX3 HST hsz
        rw [← hpb]
        clear hpb e3 r0 r1 r2 rf bx3 bb3
        go_loopg [53] k (fun gm sv wx => ∃ (s : Nat) (vq : Value), s ≤ k ∧ gm = k - s ∧ sv = .int .i64 s ∧ Hid (OwnS (slcR ruleR 2) 1 (pb + 1) 100 (InF (fun q => W2.heap.size ≤ q ∧ q ≠ pb) vq) wx vq ((List.range s).map (topRow sent))) ∧ Hid (Box wx pb [.int .i64 k, .int .i64 1, vq] 89) ∧ Hid (Below pb W3 wx))
        case atStart => exact ⟨0, _, by omega, by omega, rfl, OwnS.nil _ _ _ _ _ _, HX3.out, Below.refl _ _⟩
        case round =>
          obtain ⟨s, vq, hs, hgm, rfl, HOq, HXq, HBq⟩ := hrel
          have HGM2 := hide hgm
          clear hgm
          have hpbl : pb < wr.heap.size := HXq.out.lt
          by_cases hls : s < k
          · obtain ⟨r, hr⟩ : ∃ r, r = (s + 1) % k := ⟨_, rfl⟩
            have hrem : ((s : Int) + 1).tmod (k : Int) = (r : Int) := by rw [hr, Int.tmod_eq_emod_of_nonneg (by omega)]; rfl
            have hr16 : r < k := by rw [hr]; exact Nat.mod_lt _ (by omega)
            obtain ⟨oQ, cQ, hvq, hcQ, _⟩ := HOq.out.slice rowR_ok
            rw [List.length_map, List.length_range] at hvq hcQ
            have HOB := hide HOq.out.block
            have HT : Hid ((List.range (s + 1)).map (topRow sent) = (List.range s).map (topRow sent) ++ [topRow sent s]) := topRules_take sent s
            have HLS : Hid (((List.range s).map (topRow sent)).length = s) := by show _ = _; rw [List.length_map, List.length_range]
            have HR := hide hr
            subst hvq
            clear hr
            by_cases hl : s + 1 = k
            · have q2 : ((s : Int) == (k : Int) - 1) = true := by simp; omega
              obtain ⟨W6, e6⟩ : ∃ W6, wr.alloc (.cells #[.int .i64 r, .slice ot k ct] 99) = W6 := ⟨_, rfl⟩
              have bx6 : Box W6 wr.heap.size [.int .i64 r, .slice ot k ct] 99 := by rw [← e6]; exact Box.new wr [.int .i64 r, .slice ot k ct] 99
              have bb6 : Below wr.heap.size wr W6 := by rw [← e6]; exact bnew (Below.refl _ _) _
              have hz6 : W6.heap.size = wr.heap.size + 1 := by rw [← e6, alloc_size']
              have hrl : ruleR (InF (fun q => W2.heap.size ≤ q ∧ q ≠ pb) (.slice oQ s cQ)) W6 [.int .i64 r, .slice ot k ct] ⟨r, sent⟩ := by
                refine ⟨ot, ct, by simp only; rw [← HK.out], by unfold I64; simp only; omega, by simp only; rw [← HK.out]; exact hct2, by simp only; rw [← HK.out]; omega, ?_⟩
                refine (HST.out.below outR_ok HB3.out).keep outR_ok (fun q hq _ => ?_) |>.wide outR_ok (by decide) fun q hq _ => ⟨⟨by omega, by omega⟩, fun e => by have := (HOB.out q e.symm).1; omega⟩
                rw [bb6.block q (by omega)]
                exact HBq.out.block q hq.2
              have hrow : topRow sent s = [⟨r, sent⟩] := by unfold topRow; rw [← HK.out, if_pos hl, ← HR.out]
              have HREP : Hid (slcR ruleR 2 (InF (fun q => W2.heap.size ≤ q ∧ q ≠ pb) (.slice oQ s cQ)) (W6.alloc (.cells #[.int .i64 r, .slice ot k ct] 99)) [.slice (some ⟨W6.heap.size, 0, none⟩) 1 1] (topRow sent s)) := by
                show slcR ruleR 2 _ _ _ _
                rw [hrow]
                have h9 := ruleF_lit W6 [.int .i64 r, .slice ot k ct] ⟨r, sent⟩ hrl ⟨⟨by omega, by omega⟩, fun e => by have := (HOB.out _ e.symm).2; omega⟩
                exact ⟨_, 1, rfl, by simp, by simp, h9⟩
              have HOW := hide (HOq.out.below rowR_ok bb6)
              have HXQ := hide (HXq.out.below bb6)
              have k60 := bx6.cell 0
              have k61 := bx6.cell 1
              have kf := bx6.free
              have p2 := HXQ.out.cell 2
              have p2a := (HXQ.out.next (.cells #[.int .i64 r, .slice ot k ct] 99)).cell 2
              have p2b := ((HXQ.out.next (.cells #[.int .i64 r, .slice ot k ct] 99)).next (.cells #[.slice (some ⟨W6.heap.size, 0, none⟩) 1 1] 100)).cell 2
              simp only [List.getElem?_cons_zero, List.getElem?_cons_succ] at k60 k61 p2 p2a p2b
              have HBB6 := hide bb6
              have HZ6 := hide hz6
              have HBX6 := hide bx6
              clear hrow hrl bb6 hz6 bx6 hl
              go_wp2_with (at_builtin; go_loud (refine wpList_append_in rfl (.tmp 68) (.tmp 71) 87 rfl (pb + 1) 100 _ 1 24 Tryz.underlying87 rowInfoN rfl (by decide) rowR_ok (fun q => W2.heap.size ≤ q ∧ q ≠ pb) (.slice oQ s cQ) ((List.range s).map (topRow sent)) (by simp [Act.eval, Act.put]) ((HOW.out.new rowR_ok _).new rowR_ok _) ⟨_, 0, none⟩ 1 [.slice (some ⟨W6.heap.size, 0, none⟩) 1 1] (topRow sent s) (by simp [Act.eval, Act.put]) (World.news_of_block (heap_alloc_new _ _)) (rowR_ok.keep HREP.out (SameOn.of_below (bnew (Below.refl _ _) _))) (by rw [HLS.out]; omega) (by rw [HLS.out]; unfold maxLen; omega) (by rw [alloc_size', alloc_size']; have := HZ6.out; omega) (fun v' w8 ho hb8 hg8 hat => ?_); have hbx8 := ((HXQ.out.next (.cells #[.int .i64 r, .slice ot k ct] 99)).next (.cells #[.slice (some ⟨W6.heap.size, 0, none⟩) 1 1] 100)).grown hg8 (fun e => by have := (HOB.out pb e.symm).1; omega); have m2 := hbx8.cell 2; have mf := hbx8.free 2; obtain ⟨o8, c8, hv8, _, _⟩ := ho.slice rowR_ok; rw [List.length_append, HLS.out] at hv8; simp only [List.length_cons, List.length_nil, Nat.zero_add] at hv8; subst hv8; simp only [List.getElem?_cons_zero, List.getElem?_cons_succ] at m2; have HOW8 := hide ho; have HX8 := hide hbx8; have HB8 := hide hb8; clear ho hb8 hg8 hat hbx8 p2 p2a p2b))
              go_roundg (k - (s + 1))
              case measure => have := HGM2.out; omega
              case rel =>
                have hput := HX8.out.put 2 (.slice o8 (s + 1) c8)
                simp only [List.set_cons_zero, List.set_cons_succ] at hput
                refine ⟨s + 1, .slice o8 (s + 1) c8, by omega, rfl, by go_num, ?_, hput, ?_⟩
                · rw [HT.out]
                  exact HOW8.out.keep rowR_ok (fun g hg => Below.heap_setCell _ _ _ g (by have := (HOW8.out.block g hg).1; simp only; omega)) (fun q hq _ => Below.heap_setCell _ _ _ q hq.1.2)
                · have h6 := HBB6.out
                  have hz := HZ6.out
                  show Below _ _ _
                  refine Below.setCell (p := ⟨pb, 2, none⟩) ?_ (Nat.le_refl pb) _
                  exact (HBq.out.trans ((h6.mono (by omega)).alloc (by omega) _)).trans ((bnew (Below.refl _ _) _).mono (by rw [alloc_size']; omega) |>.trans (HB8.out.mono (by omega)))
            · have q2 : ((s : Int) == (k : Int) - 1) = false := by simp; omega
              have bx6 : Box (wr.alloc (.cells #[.int .i64 r, .slice none 0 0] 99)) wr.heap.size [.int .i64 r, .slice none 0 0] 99 := Box.new wr [.int .i64 r, .slice none 0 0] 99
              have bb6 : Below wr.heap.size wr (wr.alloc (.cells #[.int .i64 r, .slice none 0 0] 99)) := bnew (Below.refl _ _) _
              have hz6 : (wr.alloc (.cells #[.int .i64 r, .slice none 0 0] 99)).heap.size = wr.heap.size + 1 := alloc_size' _ _
              have hrl : ruleR (InF (fun q => W2.heap.size ≤ q ∧ q ≠ pb) (.slice oQ s cQ)) (wr.alloc (.cells #[.int .i64 r, .slice none 0 0] 99)) [.int .i64 r, .slice none 0 0] ⟨r, []⟩ := ⟨none, 0, rfl, by unfold I64; simp only; omega, by simp, by simp, SliceR.nil _ _ _ _ _⟩
              have hrow : topRow sent s = [⟨r, []⟩] := by unfold topRow; rw [← HK.out, if_neg hl, ← HR.out]
              have HREP : Hid (slcR ruleR 2 (InF (fun q => W2.heap.size ≤ q ∧ q ≠ pb) (.slice oQ s cQ)) ((wr.alloc (.cells #[.int .i64 r, .slice none 0 0] 99)).alloc (.cells #[.int .i64 r, .slice none 0 0] 99)) [.slice (some ⟨wr.heap.size + 1, 0, none⟩) 1 1] (topRow sent s)) := by
                show slcR ruleR 2 _ _ _ _
                rw [hrow]
                have h9 := ruleF_lit (wr.alloc (.cells #[.int .i64 r, .slice none 0 0] 99)) [.int .i64 r, .slice none 0 0] ⟨r, []⟩ hrl ⟨⟨by omega, by omega⟩, fun e => by have := (HOB.out _ e.symm).2; omega⟩
                rw [alloc_size'] at h9
                exact ⟨_, 1, rfl, by simp, by simp, h9⟩
              have HOW := hide (HOq.out.below rowR_ok bb6)
              have HXQ := hide (HXq.out.below bb6)
              have k60 := bx6.cell 0
              have k61 := bx6.cell 1
              have kf := bx6.free
              have p2 := HXQ.out.cell 2
              have p2a := (HXQ.out.next (.cells #[.int .i64 r, .slice none 0 0] 99)).cell 2
              have p2b := ((HXQ.out.next (.cells #[.int .i64 r, .slice none 0 0] 99)).next (.cells #[.slice (some ⟨wr.heap.size + 1, 0, none⟩) 1 1] 100)).cell 2
              simp only [List.getElem?_cons_zero, List.getElem?_cons_succ] at k60 k61 p2 p2a p2b
              have HBB6 := hide bb6
              have HZ6 := hide hz6
              have HBX6 := hide bx6
              clear hrow hrl bb6 hz6 bx6 hl
              go_wp2_with (at_builtin; go_loud (refine wpList_append_in rfl (.tmp 68) (.tmp 71) 87 rfl (pb + 1) 100 _ 1 24 Tryz.underlying87 rowInfoN rfl (by decide) rowR_ok (fun q => W2.heap.size ≤ q ∧ q ≠ pb) (.slice oQ s cQ) ((List.range s).map (topRow sent)) (by simp [Act.eval, Act.put]) ((HOW.out.new rowR_ok _).new rowR_ok _) ⟨_, 0, none⟩ 1 [.slice (some ⟨wr.heap.size + 1, 0, none⟩) 1 1] (topRow sent s) (by simp [Act.eval, Act.put]) (World.news_of_block (heap_alloc_new _ _)) (rowR_ok.keep HREP.out (SameOn.of_below (bnew (Below.refl _ _) _))) (by rw [HLS.out]; omega) (by rw [HLS.out]; unfold maxLen; omega) (by rw [alloc_size', alloc_size']; have := HZ6.out; omega) (fun v' w8 ho hb8 hg8 hat => ?_); have hbx8 := ((HXQ.out.next (.cells #[.int .i64 r, .slice none 0 0] 99)).next (.cells #[.slice (some ⟨wr.heap.size + 1, 0, none⟩) 1 1] 100)).grown hg8 (fun e => by have := (HOB.out pb e.symm).1; omega); have m2 := hbx8.cell 2; have mf := hbx8.free 2; obtain ⟨o8, c8, hv8, _, _⟩ := ho.slice rowR_ok; rw [List.length_append, HLS.out] at hv8; simp only [List.length_cons, List.length_nil, Nat.zero_add] at hv8; subst hv8; simp only [List.getElem?_cons_zero, List.getElem?_cons_succ] at m2; have HOW8 := hide ho; have HX8 := hide hbx8; have HB8 := hide hb8; clear ho hb8 hg8 hat hbx8 p2 p2a p2b))
              go_roundg (k - (s + 1))
              case measure => have := HGM2.out; omega
              case rel =>
                have hput := HX8.out.put 2 (.slice o8 (s + 1) c8)
                simp only [List.set_cons_zero, List.set_cons_succ] at hput
                refine ⟨s + 1, .slice o8 (s + 1) c8, by omega, rfl, by go_num, ?_, hput, ?_⟩
                · rw [HT.out]
                  exact HOW8.out.keep rowR_ok (fun g hg => Below.heap_setCell _ _ _ g (by have := (HOW8.out.block g hg).1; simp only; omega)) (fun q hq _ => Below.heap_setCell _ _ _ q hq.1.2)
                · have h6 := HBB6.out
                  have hz := HZ6.out
                  show Below _ _ _
                  refine Below.setCell (p := ⟨pb, 2, none⟩) ?_ (Nat.le_refl pb) _
                  exact (HBq.out.trans ((h6.mono (by omega)).alloc (by omega) _)).trans ((bnew (Below.refl _ _) _).mono (by rw [alloc_size']; omega) |>.trans (HB8.out.mono (by omega)))
          · have hse : s = k := by omega
            subst hse
            obtain ⟨oQ, cQ, hvq, hcQ, hsQ⟩ := HOq.out.slice rowR_ok
            rw [List.length_map, List.length_range] at hvq hcQ
            subst hvq
            have hpw := HBWR.out.trans HBq.out
            have x2 := HX2r.out.under hpw (by omega)
            have r0 := x2.cell 0
            have r1 := x2.cell 1
            have r2 := x2.cell 2
            have rf := x2.free
            have p0 := HXq.out.cell 0
            have p1 := HXq.out.cell 1
            have p2 := HXq.out.cell 2
            simp only [List.getElem?_cons_zero, List.getElem?_cons_succ] at r0 r1 r2 p0 p1 p2
            have HX2w := hide x2
            have HSQ := hide hsQ
            have hbz : Below w.heap.size w wr := HBW.out.trans (hpw.mono (by omega))
            have HBZ := hide hbz
            clear x2 hsQ hpw hbz
            go_wp2_with fail
            have hfin := ((HX2w.out.put 0 (.int .i64 s)).put 1 (.int .i64 1)).put 2 (.slice oQ s cQ)
            simp only [List.set_cons_zero, List.set_cons_succ] at hfin
            refine bodyPost_ret (results_cell_tmp_row rfl _ _ W1.heap.size 89 _ (0, 0) _ rfl hfin Tryz.underlying89 rfl (by kernel_rfl)) rfl ?_
            refine ⟨?_, ((HBZ.out.setCell hz1 _).setCell hz1 _).setCell hz1 _⟩
            rw [if_pos (by rw [← HLV.out, ← HK.out]; omega), ← HLV.out]
            refine ⟨_, rfl, oQ, cQ, ?_, ?_, ?_, ?_, ?_, ?_⟩
            · simp only [topP, List.length_map, List.length_range, ← HK.out]
            · unfold I64 topP; simp only; rw [← HK.out]; omega
            · unfold I64 topP; simp
            · simp only [topP, List.length_map, List.length_range, ← HK.out]; exact hcQ
            · simp only [topP, List.length_map, List.length_range, ← HK.out]; omega
            · show SliceR (slcR ruleR 2) 1 _ _ _ ((List.range sent.length).map (topRow sent))
              rw [← HK.out]
              refine (HSQ.out.keep rowR_ok fun q hq _ => ?_).wide rowR_ok (by decide) fun q hq _ => ?_
              · have hq2 : W1.heap.size < q := by
                  rcases hq with h | h
                  · have := h.1.1; omega
                  · omega
                rw [Below.heap_setCell _ _ _ q (by simp only; omega), Below.heap_setCell _ _ _ q (by simp only; omega), Below.heap_setCell _ _ _ q (by simp only; omega)]
              · rcases hq with h | h
                · have := h.1.1; omega
                · omega
      · have q16 : decide ((16 : Int) < (k : Int)) = true := by simp; omega
        have hfin := ((HX2r.out.put 0 (.int .i64 0)).put 1 (.int .i64 0)).put 2 (.slice none 0 0)
        simp only [List.set_cons_zero, List.set_cons_succ] at hfin
        have HF := hide hfin
        clear hfin
        go_wp2_with fail
        refine bodyPost_ret (results_cell_tmp_row rfl _ _ W1.heap.size 89 _ (0, 0) _ rfl HF.out Tryz.underlying89 rfl (by kernel_rfl)) rfl ?_
        refine ⟨?_, ((HBW.out.setCell hz1 _).setCell hz1 _).setCell hz1 _⟩
        rw [if_neg (by rw [← HLV.out, ← HK.out]; omega)]
        rfl

end Go.Proofs.YtnigfddanoaonaaGreat

set_option linter.unusedVariables false
set_option linter.unusedSimpArgs false
namespace Go.Proofs.YtnigfddanoaonaaGreat
open Go.RowKit

/-- The edge behind another one. -/
def edgeAt (n : Int) (es : List Edg) (k : Nat) : Int := edgeErr n (if k = 0 then (-1, -1) else ((es.getD (k - 1) ⟨0, 0, 0⟩).a, (es.getD (k - 1) ⟨0, 0, 0⟩).b)) (es.getD k ⟨0, 0, 0⟩)

theorem not_errI {a : Int} (h : a ≠ 0) : (a != 0) = true := by simp [h]
/-- All edges from k on. -/
def edgesFrom (n : Int) (es : List Edg) : Nat → Nat → Int
  | 0, _ => 0
  | j + 1, k => if edgeAt n es k = 0 then edgesFrom n es j (k + 1) else edgeAt n es k
end Go.Proofs.YtnigfddanoaonaaGreat

set_option linter.unusedVariables false
namespace Go.Proofs.YtnigfddanoaonaaGreat
open Go.RowKit

theorem countP_lt {p q : Nat → Bool} : ∀ {l : List Nat}, (∀ x ∈ l, p x = true → q x = true) → (∃ x ∈ l, q x = true ∧ p x = false) → l.countP p < l.countP q
  | [], _, h => by obtain ⟨x, hx, _⟩ := h; cases hx
  | y :: r, h, hx => by
    obtain ⟨x, hx, h1, h2⟩ := hx
    have hle : ∀ l : List Nat, (∀ x ∈ l, p x = true → q x = true) → l.countP p ≤ l.countP q := fun l hl => List.countP_mono_left hl
    have hr := hle r fun x hx => h x (by simp [hx])
    rw [List.countP_cons, List.countP_cons]
    rcases List.mem_cons.1 hx with rfl | hx
    · simp [h1, h2]; omega
    · have ih := countP_lt (l := r) (fun x hx => h x (by simp [hx])) ⟨x, hx, h1, h2⟩
      have hy := h y (by simp)
      by_cases h3 : p y = true
      · simp [h3, hy h3]; omega
      · have h4 : p y = false := by simpa using h3
        simp [h4]
        split <;> omega

/-- Reachable from s within k steps of nx, letters below L. -/
def within (nx : Nat → Nat → Nat) (L s : Nat) : Nat → Nat → Prop
  | 0, t => t = s
  | k + 1, t => within nx L s k t ∨ ∃ u a, within nx L s k u ∧ a < L ∧ t = nx u a
def Rch (nx : Nat → Nat → Nat) (L s t : Nat) : Prop := ∃ k, within nx L s k t

section
variable {nx : Nat → Nat → Nat} {L s S : Nat}
theorem within_lt (hs : s < S) (h : ∀ u a, u < S → a < L → nx u a < S) : ∀ k t, within nx L s k t → t < S
  | 0, t, e => by cases e; exact hs
  | k + 1, t, e => by
    rcases e with e | ⟨u, a, hu, ha, rfl⟩
    · exact within_lt hs h k t e
    · exact h u a (within_lt hs h k u hu) ha
theorem within_mono {k t : Nat} (h : within nx L s k t) : ∀ j, within nx L s (k + j) t
  | 0 => h
  | j + 1 => .inl (within_mono h j)
theorem within_closed {k : Nat} (hc : ∀ t, within nx L s (k + 1) t → within nx L s k t) : ∀ j t, within nx L s (k + j) t → within nx L s k t
  | 0, t, h => h
  | j + 1, t, h => by
    rcases h with h | ⟨u, a, hu, ha, rfl⟩
    · exact within_closed hc j t h
    · exact hc _ (.inr ⟨u, a, within_closed hc j u hu, ha, rfl⟩)
open Classical in
theorem within_more (hs : s < S) (h : ∀ u a, u < S → a < L → nx u a < S) (k : Nat) (hbase : k + 1 ≤ (List.range S).countP fun t => decide (within nx L s k t)) :
    (∀ t, within nx L s (k + 1) t → within nx L s k t) ∨ k + 2 ≤ (List.range S).countP fun t => decide (within nx L s (k + 1) t) := by
  by_cases hc : ∀ t, within nx L s (k + 1) t → within nx L s k t
  · exact .inl hc
  · refine .inr ?_
    have hx : ∃ t, within nx L s (k + 1) t ∧ ¬ within nx L s k t := by
      apply Classical.byContradiction
      intro hn
      exact hc fun t ht => Classical.byContradiction fun h2 => hn ⟨t, ht, h2⟩
    obtain ⟨t, h1, h2⟩ := hx
    have hlt := countP_lt (l := List.range S) (p := fun t => decide (within nx L s k t)) (q := fun t => decide (within nx L s (k + 1) t))
      (fun x _ hp => by simp at hp ⊢; exact .inl hp) ⟨t, by simp; exact within_lt hs h _ _ h1, by simp [h1], by simp [h2]⟩
    omega
open Classical in
theorem within_count (hs : s < S) (h : ∀ u a, u < S → a < L → nx u a < S) (k : Nat) : (∀ t, within nx L s (k + 1) t → within nx L s k t) ∨ k + 2 ≤ (List.range S).countP fun t => decide (within nx L s (k + 1) t) := by
  induction k with
  | zero =>
    refine within_more hs h 0 ?_
    have : 0 < (List.range S).countP fun t => decide (within nx L s 0 t) := List.countP_pos_iff.2 ⟨s, by simp [hs], by simp [within]⟩
    omega
  | succ k ih =>
    rcases ih with hcl | hcl
    · exact .inl fun t ht => Or.inl (within_closed hcl 2 t ht)
    · exact within_more hs h (k + 1) hcl
/-- After S steps all is reached. -/
theorem rch_within (hs : s < S) (h : ∀ u a, u < S → a < L → nx u a < S) (t : Nat) : Rch nx L s t ↔ within nx L s S t := by
  refine ⟨fun ⟨k, hk⟩ => ?_, fun h => ⟨S, h⟩⟩
  have hcl : ∀ t, within nx L s (S + 1) t → within nx L s S t := by
    rcases within_count hs h S with hc | hc
    · exact hc
    · exfalso
      have := List.countP_le_length (p := fun t => Classical.propDecidable (within nx L s (S + 1) t) |>.decide) (l := List.range S)
      simp only [List.length_range] at this
      omega
  have h1 := within_mono hk S
  rw [Nat.add_comm] at h1
  exact within_closed hcl k t h1
end

end Go.Proofs.YtnigfddanoaonaaGreat

set_option linter.unusedVariables false
namespace Go.Proofs.YtnigfddanoaonaaGreat
open Go.RowKit

def castL (l : List Nat) : List Int := l.map fun n : Nat => (n : Int)
theorem nodup_len {S : Nat} : ∀ {l : List Nat}, l.Nodup → (∀ x ∈ l, x < S) → l.length ≤ S := by
  induction S with
  | zero =>
    intro l _ h
    match l with
    | [] => simp
    | x :: r => exact absurd (h x (by simp)) (by omega)
  | succ S ih =>
    intro l hn h
    have h1 : (l.erase S).Nodup := hn.erase S
    have h2 : ∀ x ∈ l.erase S, x < S := fun x hx => by
      have h3 := List.mem_of_mem_erase hx
      have h4 := h x h3
      have h5 : x ≠ S := fun e => by subst e; exact (List.Nodup.not_mem_erase hn) hx
      omega
    have h3 := ih h1 h2
    have h4 : l.length ≤ (l.erase S).length + 1 := by
      rw [List.length_erase]; split <;> omega
    omega

section
variable {nx : Nat → Nat → Nat} {L S s : Nat}
theorem rch_refl : Rch nx L s s := ⟨0, rfl⟩
theorem rch_step {t a : Nat} (h : Rch nx L s t) (ha : a < L) : Rch nx L s (nx t a) := by
  obtain ⟨k, hk⟩ := h
  exact ⟨k + 1, .inr ⟨t, a, hk, ha, rfl⟩⟩
theorem rch_lt (hs : s < S) (h : ∀ u a, u < S → a < L → nx u a < S) {t : Nat} (ht : Rch nx L s t) : t < S := by
  obtain ⟨k, hk⟩ := ht
  exact within_lt hs h k t hk
theorem rch_in {P : Nat → Prop} (h0 : P s) (h : ∀ u a, P u → a < L → P (nx u a)) {t : Nat} (ht : Rch nx L s t) : P t := by
  obtain ⟨k, hk⟩ := ht
  induction k generalizing t with
  | zero => cases hk; exact h0
  | succ k ih =>
    rcases hk with hk | ⟨u, a, hu, ha, rfl⟩
    · exact ih hk
    · exact h u a (ih hu) ha
/-- The search: what waits, what was seen. -/
structure Bfs (nx : Nat → Nat → Nat) (L s : Nat) (work seen : List Nat) : Prop where
  nodup : seen.Nodup
  start : s ∈ seen
  sound : ∀ x ∈ seen, Rch nx L s x
  sub : ∀ x ∈ work, x ∈ seen
  closed : ∀ u ∈ seen, u ∉ work → ∀ a, a < L → nx u a ∈ seen
/-- .. while the letters of t from k on are still to come. -/
structure Mid (nx : Nat → Nat → Nat) (L s t k : Nat) (work seen : List Nat) : Prop where
  nodup : seen.Nodup
  start : s ∈ seen
  sound : ∀ x ∈ seen, Rch nx L s x
  sub : ∀ x ∈ work, x ∈ seen
  here : t ∈ seen
  done : ∀ a, a < k → nx t a ∈ seen
  closed : ∀ u ∈ seen, u ∉ work → u ≠ t → ∀ a, a < L → nx u a ∈ seen
theorem Bfs.begin : Bfs nx L s [s] [s] :=
  ⟨by simp, by simp, fun x hx => by simp at hx; subst hx; exact rch_refl, fun x hx => hx, fun u hu hn => absurd hu hn⟩
theorem Bfs.pop {t : Nat} {r seen : List Nat} (h : Bfs nx L s (t :: r) seen) : Mid nx L s t 0 r seen :=
  ⟨h.nodup, h.start, h.sound, fun x hx => h.sub x (by simp [hx]), h.sub t (by simp), fun a ha => by omega, fun u hu hn hne a ha => h.closed u hu (by simp [hn, hne]) a ha⟩
theorem Bfs.all {seen : List Nat} (h : Bfs nx L s [] seen) (t : Nat) : t ∈ seen ↔ Rch nx L s t :=
  ⟨h.sound t, fun ht => rch_in (P := fun x => x ∈ seen) h.start (fun u a hu ha => h.closed u hu (by simp) a ha) ht⟩
theorem Bfs.few {work seen : List Nat} (h : Bfs nx L s work seen) (hs : s < S) (hn : ∀ u a, u < S → a < L → nx u a < S) : seen.length ≤ S :=
  nodup_len h.nodup fun x hx => rch_lt hs hn (h.sound x hx)
theorem Mid.few {t k : Nat} {work seen : List Nat} (h : Mid nx L s t k work seen) (hs : s < S) (hn : ∀ u a, u < S → a < L → nx u a < S) : seen.length ≤ S :=
  nodup_len h.nodup fun x hx => rch_lt hs hn (h.sound x hx)
end

/-- The list of what is reachable, in order. -/
def IsReach (nx : Nat → Nat → Nat) (L s : Nat) (l : List Int) : Prop := l.Pairwise (· < ·) ∧ ∀ t : Int, t ∈ l ↔ ∃ n : Nat, t = n ∧ Rch nx L s n

/-- The fixed point, round by round: bs after k rounds; of the round after that the states below t have been taken; of t the letters below j. -/
structure Led (nx : Nat → Nat → Nat) (L S s k t : Nat) (bs : List Bool) : Prop where
  len : bs.length = S
  got : ∀ u, within nx L s k u → bs[u]? = some true
  sound : ∀ u, bs[u]? = some true → Rch nx L s u
  part : ∀ u, u < t → within nx L s k u → ∀ a, a < L → bs[nx u a]? = some true

section
variable {nx : Nat → Nat → Nat} {L S s : Nat}
theorem Led.begin (hs : s < S) : Led nx L S s 0 0 ((List.replicate S false).set s true) where
  len := by simp
  got := fun u hu => by cases hu; simp [hs]
  sound := fun u hu => by
    by_cases e : s = u
    · subst e; exact rch_refl
    · rw [List.getElem?_set_ne e, List.getElem?_replicate] at hu
      split at hu <;> simp at hu
  part := fun u hu => by omega
theorem Led.set {k t j : Nat} {bs : List Bool} (h : Led nx L S s k t bs) (ht : bs[t]? = some true) (hj : j < L) (hn : nx t j < S) (hd : ∀ a, a < j → bs[nx t a]? = some true) :
    Led nx L S s k t (bs.set (nx t j) true) ∧ (bs.set (nx t j) true)[t]? = some true ∧ ∀ a, a < j + 1 → (bs.set (nx t j) true)[nx t a]? = some true := by
  have mono : ∀ u, bs[u]? = some true → (bs.set (nx t j) true)[u]? = some true := fun u hu => by
    by_cases e : nx t j = u
    · subst e; rw [List.getElem?_set_self (by rw [h.len]; exact hn)]
    · rw [List.getElem?_set_ne e]; exact hu
  refine ⟨⟨by simp [h.len], fun u hu => mono u (h.got u hu), fun u hu => ?_, fun u hu hw a ha => mono _ (h.part u hu hw a ha)⟩, mono t ht, fun a ha => ?_⟩
  · by_cases e : nx t j = u
    · subst e; exact rch_step (h.sound t ht) hj
    · rw [List.getElem?_set_ne e] at hu; exact h.sound u hu
  · rcases Nat.lt_or_ge a j with h1 | h1
    · exact mono _ (hd a h1)
    · have : a = j := by omega
      subst this
      rw [List.getElem?_set_self (by rw [h.len]; exact hn)]
theorem Led.next {k t : Nat} {bs : List Bool} (h : Led nx L S s k t bs) (hd : bs[t]? = some true → ∀ a, a < L → bs[nx t a]? = some true) : Led nx L S s k (t + 1) bs := by
  refine ⟨h.len, h.got, h.sound, fun u hu hw a ha => ?_⟩
  rcases Nat.lt_or_ge u t with h1 | h1
  · exact h.part u h1 hw a ha
  · have : u = t := by omega
    subst this
    exact hd (h.got u hw) a ha
theorem Led.round (hs : s < S) (hn : ∀ u a, u < S → a < L → nx u a < S) {k : Nat} {bs : List Bool} (h : Led nx L S s k S bs) : Led nx L S s (k + 1) 0 bs where
  len := h.len
  got := fun u hu => by
    rcases hu with hu | ⟨v, a, hv, ha, rfl⟩
    · exact h.got u hu
    · exact h.part v (within_lt hs hn k v hv) hv a ha
  sound := h.sound
  part := fun u hu => by omega
/-- What the reference says in the end. -/
def Leads (nx : Nat → Nat → Nat) (L S s : Nat) (bs : List Bool) : Prop := bs.length = S ∧ ∀ u, bs[u]? = some true ↔ Rch nx L s u
theorem Led.all (hs : s < S) (hn : ∀ u a, u < S → a < L → nx u a < S) {bs : List Bool} (h : Led nx L S s S 0 bs) : Leads nx L S s bs :=
  ⟨h.len, fun u => ⟨h.sound u, fun hu => h.got u ((rch_within hs hn u).1 hu)⟩⟩
end

/-- The list of the states whose place in bs is true. -/
def trues (bs : List Bool) : Nat → List Int
  | 0 => []
  | k + 1 => if bs.getD k false then trues bs k ++ [(k : Int)] else trues bs k
/-- Recurrent: from all that is reachable one comes back. -/
def Back (nx : Nat → Nat → Nat) (L s : Nat) : Prop := ∀ t, Rch nx L s t → Rch nx L t s

end Go.Proofs.YtnigfddanoaonaaGreat

set_option linter.unusedVariables false
set_option linter.unusedSimpArgs false
namespace Go.Proofs.YtnigfddanoaonaaGreat
open Go.RowKit

/-- A forest: each vertex has one that is not greater. -/
structure Fst (f : List Nat) : Prop where
  len : f.length = 12
  le : ∀ v, v < 12 → f.getD v 0 ≤ v

def rootK (f : List Nat) : Nat → Nat → Nat
  | 0, v => v
  | k + 1, v => if f.getD v 0 = v then v else rootK f k (f.getD v 0)
def rootF (f : List Nat) (v : Nat) : Nat := rootK f v v

section
variable {f : List Nat}
theorem rootK_le (h : Fst f) : ∀ k v, v < 12 → rootK f k v ≤ v
  | 0, v, _ => Nat.le_refl v
  | k + 1, v, hv => by
    unfold rootK
    have h1 := h.le v hv
    split
    · exact Nat.le_refl v
    · exact Nat.le_trans (rootK_le h k _ (by omega)) h1
theorem rootK_fix (h : Fst f) : ∀ k v, v < 12 → v ≤ k → f.getD (rootK f k v) 0 = rootK f k v
  | 0, v, hv, hk => by
    have h0 : v = 0 := by omega
    subst h0
    have := h.le 0 (by omega)
    simp only [rootK]
    omega
  | k + 1, v, hv, hk => by
    unfold rootK
    have h1 := h.le v hv
    split
    · assumption
    · rename_i hne
      exact rootK_fix h k _ (by omega) (by omega)
theorem rootK_more (h : Fst f) : ∀ k v, v < 12 → v ≤ k → rootK f (k + 1) v = rootK f k v
  | 0, v, hv, hk => by
    have h0 : v = 0 := by omega
    subst h0
    have := h.le 0 (by omega)
    simp only [rootK]
    rw [if_pos (by omega)]
  | k + 1, v, hv, hk => by
    have h1 := h.le v hv
    show (if f.getD v 0 = v then v else rootK f (k + 1) (f.getD v 0)) = (if f.getD v 0 = v then v else rootK f k (f.getD v 0))
    by_cases hf : f.getD v 0 = v
    · rw [if_pos hf, if_pos hf]
    · rw [if_neg hf, if_neg hf]
      exact rootK_more h k _ (by omega) (by omega)
theorem rootK_eq (h : Fst f) {v : Nat} (hv : v < 12) : ∀ j, rootK f (v + j) v = rootF f v
  | 0 => rfl
  | j + 1 => by rw [← Nat.add_assoc, rootK_more h _ _ hv (by omega)]; exact rootK_eq h hv j
theorem rootF_le (h : Fst f) {v : Nat} (hv : v < 12) : rootF f v ≤ v := rootK_le h v v hv
theorem rootF_fix (h : Fst f) {v : Nat} (hv : v < 12) : f.getD (rootF f v) 0 = rootF f v := rootK_fix h v v hv (Nat.le_refl v)
theorem rootF_self (h : Fst f) {v : Nat} (hf : f.getD v 0 = v) : rootF f v = v := by
  unfold rootF
  cases v with
  | zero => rfl
  | succ k => rw [rootK, if_pos hf]
theorem rootF_step (h : Fst f) {v : Nat} (hv : v < 12) : rootF f v = rootF f (f.getD v 0) := by
  have h1 := h.le v hv
  by_cases hf : f.getD v 0 = v
  · rw [hf]
  · obtain ⟨k, rfl⟩ : ∃ k, v = k + 1 := ⟨v - 1, by omega⟩
    unfold rootF
    rw [rootK, if_neg hf]
    obtain ⟨j, hj⟩ : ∃ j, k = f.getD (k + 1) 0 + j := ⟨k - f.getD (k + 1) 0, by omega⟩
    have := rootK_eq h (show f.getD (k + 1) 0 < 12 by omega) j
    rw [← hj] at this
    exact this
end

/-- Two roots are joined; the lesser stands for both. -/
def joinF (f : List Nat) (a b : Nat) : List Nat := f.set (max (rootF f a) (rootF f b)) (min (rootF f a) (rootF f b))

section
variable {f : List Nat} {a b : Nat}
theorem getD_setN {l : List Nat} {i j x : Nat} (hi : i < l.length) : (l.set i x).getD j 0 = if i = j then x else l.getD j 0 := by
  rw [List.getD_eq_getElem?_getD, List.getD_eq_getElem?_getD]
  by_cases h : i = j
  · subst h; rw [List.getElem?_set_self hi, if_pos rfl]; rfl
  · rw [List.getElem?_set_ne h, if_neg h]
theorem joinF_get (h : Fst f) (ha : a < 12) (hb : b < 12) (j : Nat) : (joinF f a b).getD j 0 = if max (rootF f a) (rootF f b) = j then min (rootF f a) (rootF f b) else f.getD j 0 := by
  have h1 := rootF_le h ha
  have h2 := rootF_le h hb
  exact getD_setN (by rw [h.len]; omega)
theorem joinF_fst (h : Fst f) (ha : a < 12) (hb : b < 12) : Fst (joinF f a b) := by
  refine ⟨by simp [joinF, h.len], fun v hv => ?_⟩
  rw [joinF_get h ha hb]
  split
  · omega
  · exact h.le v hv
/-- What the roots are then. -/
theorem joinF_root (h : Fst f) (ha : a < 12) (hb : b < 12) : ∀ n v, v < n → v < 12 → rootF (joinF f a b) v = if rootF f v = max (rootF f a) (rootF f b) then min (rootF f a) (rootF f b) else rootF f v
  | 0, v, hn, _ => by omega
  | n + 1, v, hn, hv => by
    have hj := joinF_fst h ha hb
    have ih := joinF_root h ha hb n
    have ra := rootF_le h ha
    have rb := rootF_le h hb
    have fa := rootF_fix h ha
    have fb := rootF_fix h hb
    have h1 := h.le v hv
    have hget := joinF_get h ha hb
    generalize hA : rootF f a = A at *
    generalize hB : rootF f b = B at *
    have fM : f.getD (max A B) 0 = max A B := by
      rcases Nat.le_total A B with hab | hab
      · rw [Nat.max_eq_right hab]; exact fb
      · rw [Nat.max_eq_left hab]; exact fa
    have fm : f.getD (min A B) 0 = min A B := by
      rcases Nat.le_total A B with hab | hab
      · rw [Nat.min_eq_left hab]; exact fa
      · rw [Nat.min_eq_right hab]; exact fb
    have rM : rootF f (max A B) = max A B := rootF_self h fM
    have rm : rootF f (min A B) = min A B := rootF_self h fm
    by_cases hM : max A B = v
    · subst hM
      rw [rM, if_pos rfl]
      by_cases e : max A B = min A B
      · rw [rootF_self hj (by rw [hget, if_pos rfl]; exact e.symm), e]
      · have hlt : min A B < max A B := by omega
        rw [rootF_step hj hv, hget, if_pos rfl, ih (min A B) (by omega) (by omega), rm, if_neg (by omega)]
    · by_cases hf : f.getD v 0 = v
      · rw [rootF_self hj (by rw [hget, if_neg hM]; exact hf), rootF_self h hf, if_neg (fun e => hM e.symm)]
      · rw [rootF_step hj hv, hget, if_neg hM, ih (f.getD v 0) (by omega) (by omega), ← rootF_step h hv]
end

/-- The vertices that edges join stand in one class, whatever the classes are. -/
def Tied (es : List (Nat × Nat)) (u v : Nat) : Prop := ∀ c : Nat → Nat, (∀ x ∈ es, c x.1 = c x.2) → c u = c v

/-- The forest of the edges so far. -/
structure Uf (f : List Nat) (es : List (Nat × Nat)) : Prop where
  fst : Fst f
  tied : ∀ v, v < 12 → Tied es v (f.getD v 0)
  one : ∀ x ∈ es, rootF f x.1 = rootF f x.2

section
variable {f : List Nat} {es : List (Nat × Nat)}
theorem Uf.begin : Uf (List.range 12) [] := by
  have hg : ∀ v, v < 12 → (List.range 12).getD v 0 = v := fun v hv => by
    rw [List.getD_eq_getElem?_getD, List.getElem?_range hv]; rfl
  exact ⟨⟨by simp, fun v hv => by rw [hg v hv]; exact Nat.le_refl v⟩, fun v hv c _ => by rw [hg v hv], fun x hx => by simp at hx⟩
theorem Uf.root_tied (h : Uf f es) : ∀ n v, v < n → v < 12 → Tied es v (rootF f v)
  | 0, v, hn, _ => by omega
  | n + 1, v, hn, hv => fun c hc => by
    by_cases hf : f.getD v 0 = v
    · rw [rootF_self h.fst hf]
    · have h1 := h.fst.le v hv
      rw [rootF_step h.fst hv]
      exact (h.tied v hv c hc).trans (h.root_tied n (f.getD v 0) (by omega) (by omega) c hc)
theorem Uf.join (h : Uf f es) {a b : Nat} (ha : a < 12) (hb : b < 12) (hes : ∀ x ∈ es, x.1 < 12 ∧ x.2 < 12) : Uf (joinF f a b) (es ++ [(a, b)]) := by
  have ta := h.root_tied (a + 1) a (by omega) ha
  have tb := h.root_tied (b + 1) b (by omega) hb
  refine ⟨joinF_fst h.fst ha hb, fun v hv c hc => ?_, fun x hx => ?_⟩
  · have hc1 : ∀ x ∈ es, c x.1 = c x.2 := fun x hx => hc x (by simp [hx])
    rw [joinF_get h.fst ha hb]
    split
    · rename_i e
      have hab := hc (a, b) (by simp)
      simp only at hab
      have h1 := ta c hc1
      have h2 := tb c hc1
      rw [← e]
      rcases Nat.le_total (rootF f a) (rootF f b) with hl | hl
      · rw [Nat.max_eq_right hl, Nat.min_eq_left hl, ← h1, ← h2, hab]
      · rw [Nat.max_eq_left hl, Nat.min_eq_right hl, ← h1, ← h2, hab]
    · exact h.tied v hv c hc1
  · rcases List.mem_append.1 hx with hx | hx
    · rw [joinF_root h.fst ha hb 12 _ (hes x hx).1 (hes x hx).1, joinF_root h.fst ha hb 12 _ (hes x hx).2 (hes x hx).2, h.one x hx]
    · simp at hx
      subst hx
      rw [joinF_root h.fst ha hb 12 a ha ha, joinF_root h.fst ha hb 12 b hb hb]
      rcases Nat.le_total (rootF f a) (rootF f b) with hl | hl
      · rw [Nat.max_eq_right hl, Nat.min_eq_left hl]
        by_cases e : rootF f a = rootF f b
        · simp [e]
        · simp [e]
      · rw [Nat.max_eq_left hl, Nat.min_eq_right hl]
        by_cases e : rootF f b = rootF f a
        · simp [e]
        · simp [e]
theorem Uf.same (h : Uf f es) {u v : Nat} (hu : u < 12) (hv : v < 12) : rootF f u = rootF f v ↔ Tied es u v :=
  ⟨fun e c hc => (h.root_tied 12 u hu hu c hc).trans ((congrArg c e).trans (h.root_tied 12 v hv hv c hc).symm), fun ht => ht (rootF f) h.one⟩
/-- A root is the least of its class. -/
theorem Uf.least (h : Uf f es) {v : Nat} (hv : v < 12) : rootF f v = v ↔ ∀ u, u < v → ¬ Tied es u v := by
  constructor
  · intro e u hu ht
    have h1 := (h.same (by omega) hv).2 ht
    have h2 := rootF_le h.fst (show u < 12 by omega)
    omega
  · intro hn
    rcases Nat.lt_or_ge (rootF f v) v with h1 | h1
    · exact absurd (fun c hc => (h.root_tied 12 v hv hv c hc).symm) (hn _ h1)
    · have := rootF_le h.fst hv
      omega
end

theorem Tied.symm {es : List (Nat × Nat)} {u v : Nat} (h : Tied es u v) : Tied es v u := fun c hc => (h c hc).symm
theorem Tied.refl {es : List (Nat × Nat)} {u : Nat} : Tied es u u := fun c hc => rfl
theorem Tied.trans {es : List (Nat × Nat)} {u v x : Nat} (h : Tied es u v) (h2 : Tied es v x) : Tied es u x := fun c hc => (h c hc).trans (h2 c hc)

/-- Along the edges, step by step: adj says whether two vertices are joined. -/
def nxA (adj : Nat → Nat → Bool) (a b : Nat) : Nat := if adj a b then b else a
end Go.Proofs.YtnigfddanoaonaaGreat

set_option linter.unusedVariables false
set_option linter.unusedSimpArgs false
namespace Go.Proofs.YtnigfddanoaonaaGreat
open Go.RowKit

def castV (l : List Nat) : List Value := l.map fun n : Nat => .int .i64 n
theorem castV_get {l : List Nat} {i : Nat} (hi : i < l.length) : (castV l)[i]? = some (.int .i64 (l.getD i 0 : Nat)) := by
  simp only [castV, List.getElem?_map, List.getD_eq_getElem?_getD, List.getElem?_eq_getElem hi]
  rfl
theorem castV_set (l : List Nat) (i x : Nat) : (castV l).set i (.int .i64 x) = castV (l.set i x) := by simp [castV, List.map_set]
set_option maxHeartbeats 400000 in
theorem root_any (f : List Nat) (B v : Nat) (w : World) (hb : Box w B (castV f) 219) (hf : Hid (Fst f)) (hv : v < 12) :
    Calls Tryz.prog 173 #[.pointer (some ⟨B, 0, none⟩), .int .i64 v] w fun e w' => e = .returned (.int .i64 (rootF f v : Nat)) ∧ w = w' := by
  go_enter Tryz.func173, Tryz.ntmps173
  go_wp2_with fail
  go_loop [1] (fun uv => ∃ u : Nat, u < 12 ∧ uv = .int .i64 u ∧ Hid (rootF f v = rootF f u)) (fun uv => (intOf uv).toNat)
  case atStart => exact ⟨v, hv, rfl, rfl⟩
  case round =>
    obtain ⟨u, hu, rfl, HU⟩ := hrel
    have c0 := hb.cell u
    rw [castV_get (by rw [hf.out.len]; exact hu)] at c0
    have hle := hf.out.le u hu
    by_cases hfix : f.getD u 0 = u
    · have HR : Hid (rootF f v = u) := HU.out.trans (rootF_self hf.out hfix)
      rw [hfix] at c0
      have hq : ((u : Int) != (u : Int)) = false := by simp
      clear hfix hle
      go_wp2_with fail
      go_ret
      exact ⟨ret_int (by rw [HR.out]), rfl⟩
    · have HR : Hid (rootF f v = rootF f (f.getD u 0)) := HU.out.trans (rootF_step hf.out hu)
      generalize f.getD u 0 = x at c0 hle hfix HR
      have hq : ((x : Int) != (u : Int)) = true := by simp; omega
      have hlt : x < u := by omega
      clear hfix hle
      go_wp2_with fail
      go_round
      case rel => exact ⟨x, by omega, rfl, HR⟩
      case measure => simp [intOf]; omega

def JoinPost (w : World) (B : Nat) (f : List Nat) (a b : Nat) (e : Ending) (w' : World) : Prop :=
  e = .returned (.tuple #[]) ∧ Box w' B (castV (joinF f a b)) 219 ∧ ∀ n, n ≤ B → Below n w w'

set_option maxHeartbeats 400000 in
theorem join_any (f : List Nat) (B a b : Nat) (w : World) (hb : Box w B (castV f) 219) (hf : Hid (Fst f)) (ha : a < 12) (hbb : b < 12) :
    Calls Tryz.prog 172 #[.pointer (some ⟨B, 0, none⟩), .int .i64 a, .int .i64 b] w (JoinPost w B f a b) := by
  have h1 := rootF_le hf.out ha
  have h2 := rootF_le hf.out hbb
  go_enter Tryz.func172, Tryz.ntmps172
  go_wp2_with fail
  refine (root_any f B a _ hb hf ha).mono ?_
  rintro e w2 ⟨rfl, rfl⟩
  go_wp2_with fail
  refine (root_any f B b _ hb hf hbb).mono ?_
  rintro e w2 ⟨rfl, rfl⟩
  have HJ : Hid (joinF f a b = f.set (max (rootF f a) (rootF f b)) (min (rootF f a) (rootF f b))) := rfl
  generalize rootF f a = x at h1 HJ
  generalize rootF f b = y at h2 HJ
  have hlen : f.length = 12 := hf.out.len
  rcases Nat.lt_trichotomy x y with hxy | hxy | hxy
  · skip
    have c0 := hb.cell y
    rw [castV_get (by omega)] at c0
    have f0 := hb.free y
    have hp := hb.put y (.int .i64 x)
    rw [castV_set] at hp
    have HE : Hid (joinF f a b = f.set y x) := by show _ = _; rw [HJ.out, Nat.max_eq_right (by omega), Nat.min_eq_left (by omega)]
    go_wp2_with fail
    go_end0
    exact ⟨rfl, by rw [HE.out]; exact hp, fun n hn => (Below.refl n w).setCell hn _⟩
  · subst hxy
    have c0 := hb.cell x
    rw [castV_get (by omega)] at c0
    have f0 := hb.free x
    have hp := hb.put x (.int .i64 x)
    rw [castV_set] at hp
    have HE : Hid (joinF f a b = f.set x x) := by show _ = _; rw [HJ.out, Nat.max_self, Nat.min_self]
    go_wp2_with fail
    go_end0
    exact ⟨rfl, by rw [HE.out]; exact hp, fun n hn => (Below.refl n w).setCell hn _⟩
  · skip
    have c0 := hb.cell x
    rw [castV_get (by omega)] at c0
    have f0 := hb.free x
    have hp := hb.put x (.int .i64 y)
    rw [castV_set] at hp
    have HE : Hid (joinF f a b = f.set x y) := by show _ = _; rw [HJ.out, Nat.max_eq_left (by omega), Nat.min_eq_right (by omega)]
    go_wp2_with fail
    go_end0
    exact ⟨rfl, by rw [HE.out]; exact hp, fun n hn => (Below.refl n w).setCell hn _⟩

theorem twelve {α : Type} {l : List α} (h : l.length = 12) : ∃ a0 a1 a2 a3 a4 a5 a6 a7 a8 a9 a10 a11, l = [a0, a1, a2, a3, a4, a5, a6, a7, a8, a9, a10, a11] := by
  match l, h with
  | [a0, a1, a2, a3, a4, a5, a6, a7, a8, a9, a10, a11], _ => exact ⟨a0, a1, a2, a3, a4, a5, a6, a7, a8, a9, a10, a11, rfl⟩

set_option maxRecDepth 100000 in
set_option maxHeartbeats 1000000 in
theorem grown_any (w : World) : Calls Tryz.prog 171 #[] w fun e w' => e = .returned (.agg #[.int .i64 0, .int .i64 1, .int .i64 2, .int .i64 3, .int .i64 4, .int .i64 5, .int .i64 6, .int .i64 7, .int .i64 8, .int .i64 9, .int .i64 10, .int .i64 11]) ∧ Below w.heap.size w w' := by
  go_enter Tryz.func171, Tryz.ntmps171
  go_wp2_with fail
  have hb0 := box_refl w (.cells (castV (List.replicate 12 0)).toArray 219)
  have hb1 := Box.new (w.alloc (.cells (castV (List.replicate 12 0)).toArray 219)) (castV (List.replicate 12 0)) 219
  have hb2 := box_new hb0 (by simp) (.cells (castV (List.replicate 12 0)).toArray 219)
  rw [World.size_alloc] at hb1
  go_loopw [3] (fun iv wr => ∃ (k : Nat) (fl : List Nat), k ≤ 12 ∧ iv = .int .i64 k ∧ Hid (fl.length = 12 ∧ ∀ j, j < k → fl.getD j 0 = j) ∧ Box wr (w.heap.size + 1) (castV fl) 219 ∧
    Below (w.heap.size + 1) (w.alloc (.cells (castV (List.replicate 12 0)).toArray 219)) wr) (fun iv _ => 12 - (intOf iv).toNat)
  case atStart => exact ⟨0, _, by omega, rfl, ⟨by simp, fun j hj => by omega⟩, hb1, hb2⟩
  case round =>
    obtain ⟨k, fl, hk, rfl, HF, hbx, hbb⟩ := hrel
    by_cases hlt : k < 12
    · have c0 := hbx.cell k
      rw [castV_get (by rw [HF.out.1]; exact hlt)] at c0
      have f0 := hbx.free k
      have hp := hbx.put k (.int .i64 k)
      rw [castV_set] at hp
      have HF2 : Hid ((fl.set k k).length = 12 ∧ ∀ j, j < k + 1 → (fl.set k k).getD j 0 = j) := by
        refine ⟨by simp [HF.out.1], fun j hj => ?_⟩
        rw [getD_setN (by rw [HF.out.1]; exact hlt)]
        split
        · assumption
        · exact HF.out.2 j (by omega)
      go_wp2_with fail
      go_roundw
      case rel => exact ⟨k + 1, _, by omega, by go_num, HF2, hp, hbb.setCell (by simp) _⟩
      case measure => simp [intOf]; omega
    · have hfl : fl = List.range 12 := by
        apply List.ext_getElem
        · simp [HF.out.1]
        · intro i h1 h2
          have := HF.out.2 i (by have := HF.out.1; omega)
          rw [List.getD_eq_getElem?_getD, List.getElem?_eq_getElem h1] at this
          simpa using this
      subst hfl
      have q0 := hbx.cell 0
      have q1 := hbx.cell 1
      have q2 := hbx.cell 2
      have q3 := hbx.cell 3
      have q4 := hbx.cell 4
      have q5 := hbx.cell 5
      have q6 := hbx.cell 6
      have q7 := hbx.cell 7
      have q8 := hbx.cell 8
      have q9 := hbx.cell 9
      have q10 := hbx.cell 10
      have q11 := hbx.cell 11
      have E12 : castV (List.range 12) = [.int .i64 0, .int .i64 1, .int .i64 2, .int .i64 3, .int .i64 4, .int .i64 5, .int .i64 6, .int .i64 7, .int .i64 8, .int .i64 9, .int .i64 10, .int .i64 11] := rfl
      have Z12 : castV (List.replicate 12 0) = [.int .i64 0, .int .i64 0, .int .i64 0, .int .i64 0, .int .i64 0, .int .i64 0, .int .i64 0, .int .i64 0, .int .i64 0, .int .i64 0, .int .i64 0, .int .i64 0] := rfl
      rw [E12] at q0 q1 q2 q3 q4 q5 q6 q7 q8 q9 q10 q11
      simp only [List.getElem?_cons_zero, List.getElem?_cons_succ] at q0 q1 q2 q3 q4 q5 q6 q7 q8 q9 q10 q11
      have hr : Box wr w.heap.size (castV (List.replicate 12 0)) 219 := (hbb.block w.heap.size (by omega)).trans (heap_alloc_new w _)
      have r0 := hr.cell 0
      have r1 := hr.cell 1
      have r2 := hr.cell 2
      have r3 := hr.cell 3
      have r4 := hr.cell 4
      have r5 := hr.cell 5
      have r6 := hr.cell 6
      have r7 := hr.cell 7
      have r8 := hr.cell 8
      have r9 := hr.cell 9
      have r10 := hr.cell 10
      have r11 := hr.cell 11
      rw [Z12] at r0 r1 r2 r3 r4 r5 r6 r7 r8 r9 r10 r11
      simp only [List.getElem?_cons_zero, List.getElem?_cons_succ] at r0 r1 r2 r3 r4 r5 r6 r7 r8 r9 r10 r11
      have fr := fun i => hr.free i
      have hsz := hr.lt
      clear hb0 hb1 hb2 E12 Z12 HF hbx
      go_wp2_with fail
      have hfin := ((((((((((((hr.put 0 (.int .i64 0)).put 1 (.int .i64 1)).put 2 (.int .i64 2)).put 3 (.int .i64 3)).put 4 (.int .i64 4)).put 5 (.int .i64 5)).put 6 (.int .i64 6)).put 7 (.int .i64 7)).put 8 (.int .i64 8)).put 9 (.int .i64 9)).put 10 (.int .i64 10)).put 11 (.int .i64 11))
      rw [show castV (List.replicate 12 0) = [.int .i64 0, .int .i64 0, .int .i64 0, .int .i64 0, .int .i64 0, .int .i64 0, .int .i64 0, .int .i64 0, .int .i64 0, .int .i64 0, .int .i64 0, .int .i64 0] from rfl] at hfin
      simp only [List.set_cons_zero, List.set_cons_succ] at hfin
      have z0 := hfin.cell 0
      have z1 := hfin.cell 1
      have z2 := hfin.cell 2
      have z3 := hfin.cell 3
      have z4 := hfin.cell 4
      have z5 := hfin.cell 5
      have z6 := hfin.cell 6
      have z7 := hfin.cell 7
      have z8 := hfin.cell 8
      have z9 := hfin.cell 9
      have z10 := hfin.cell 10
      have z11 := hfin.cell 11
      simp only [List.getElem?_cons_zero, List.getElem?_cons_succ] at z0 z1 z2 z3 z4 z5 z6 z7 z8 z9 z10 z11
      have hbf := (below_box hbb)
      refine bodyPost_ret (v := .agg #[.int .i64 0, .int .i64 1, .int .i64 2, .int .i64 3, .int .i64 4, .int .i64 5, .int .i64 6, .int .i64 7, .int .i64 8, .int .i64 9, .int .i64 10, .int .i64 11]) ?_ rfl ⟨rfl, ?_⟩
      · simp [results, Tryz.results171, go_sem, z0, z1, z2, z3, z4, z5, z6, z7, z8, z9, z10, z11]
      · exact (((((((((((hbf.setCell (Nat.le_refl _) _).setCell (Nat.le_refl _) _).setCell (Nat.le_refl _) _).setCell (Nat.le_refl _) _).setCell (Nat.le_refl _) _).setCell (Nat.le_refl _) _).setCell (Nat.le_refl _) _).setCell (Nat.le_refl _) _).setCell (Nat.le_refl _) _).setCell (Nat.le_refl _) _).setCell (Nat.le_refl _) _).setCell (Nat.le_refl _) _

end Go.Proofs.YtnigfddanoaonaaGreat

set_option linter.unusedVariables false
set_option linter.unusedSimpArgs false
namespace Go.Proofs.YtnigfddanoaonaaGreat
open Go.RowKit

def eL (es : List Edg) : List (Nat × Nat) := es.map fun x => (x.a.toNat, x.b.toNat)
theorem eL_next {es : List Edg} {k : Nat} {a b : Nat} {m : Int} (h : es[k]? = some ⟨a, b, m⟩) : eL (es.take (k + 1)) = eL (es.take k) ++ [(a, b)] := by
  rw [List.take_add_one, h]
  simp [eL]
theorem eL_lt {n : Int} {es : List Edg} (hV : gErr n es = 0) (k : Nat) : ∀ x ∈ eL (es.take k), x.1 < 12 ∧ x.2 < 12 := by
  intro x hx
  simp only [eL, List.mem_map] at hx
  obtain ⟨y, hy, rfl⟩ := hx
  have h := (gErr_zero hV).2.1 y (List.mem_of_mem_take hy)
  have h2 := (gErr_zero hV).1
  constructor
  · simp only; omega
  · simp only; omega

def ForestPost (w : World) (es : List Edg) (e : Ending) (w' : World) : Prop :=
  ∃ f, e = .returned (.agg (castV f).toArray) ∧ Uf f (eL es) ∧ Below w.heap.size w w'

set_option maxRecDepth 100000 in
set_option maxHeartbeats 2000000 in
theorem joinedG_any (n : Int) (es : List Edg) (oe : Option Addr) (c : Nat) (F : Foot) (w : World) (hs : SliceR edgR 3 F w oe es) (hc : es.length ≤ c) (hc2 : es.length ≤ 9223372036854775807) (hV : Hid (gErr n es = 0)) :
    Calls Tryz.prog 163 #[.agg #[.int .i64 n, .slice oe es.length c]] w (ForestPost w es) := by
  go_enter Tryz.func163, Tryz.ntmps163
  go_wp2_with fail
  refine (grown_any _).mono ?_
  rintro e w2 ⟨rfl, hb2⟩
  have hx2 := box_then (box_new (box_refl w (.cells #[.int .i64 n, .slice oe es.length c] 43)) (by simp) (.cells #[.int .i64 0, .int .i64 0, .int .i64 0, .int .i64 0, .int .i64 0, .int .i64 0, .int .i64 0, .int .i64 0, .int .i64 0, .int .i64 0, .int .i64 0, .int .i64 0] 219)) (by simp) hb2
  have hr2 := (Box.new (w.alloc (.cells #[.int .i64 n, .slice oe es.length c] 43)) [.int .i64 0, .int .i64 0, .int .i64 0, .int .i64 0, .int .i64 0, .int .i64 0, .int .i64 0, .int .i64 0, .int .i64 0, .int .i64 0, .int .i64 0, .int .i64 0] 219).below hb2
  rw [World.size_alloc] at hr2
  have hsz2 := hr2.lt
  have d1 := box_cell hx2 1
  simp at d1
  have hszx : w.heap.size < w2.heap.size := by omega
  have d1n := cell_next d1 (.cells #[.int .i64 0, .int .i64 1, .int .i64 2, .int .i64 3, .int .i64 4, .int .i64 5, .int .i64 6, .int .i64 7, .int .i64 8, .int .i64 9, .int .i64 10, .int .i64 11] 219)
  clear hb2
  go_wp2_with fail
  have hx3 := box_new hx2 (by simp) (.cells #[.int .i64 0, .int .i64 1, .int .i64 2, .int .i64 3, .int .i64 4, .int .i64 5, .int .i64 6, .int .i64 7, .int .i64 8, .int .i64 9, .int .i64 10, .int .i64 11] 219)
  have hf3 : Box (w2.alloc (.cells #[.int .i64 0, .int .i64 1, .int .i64 2, .int .i64 3, .int .i64 4, .int .i64 5, .int .i64 6, .int .i64 7, .int .i64 8, .int .i64 9, .int .i64 10, .int .i64 11] 219)) w2.heap.size (castV (List.range 12)) 219 := Box.new w2 (castV (List.range 12)) _
  have hr3 := hr2.next (.cells #[.int .i64 0, .int .i64 1, .int .i64 2, .int .i64 3, .int .i64 4, .int .i64 5, .int .i64 6, .int .i64 7, .int .i64 8, .int .i64 9, .int .i64 10, .int .i64 11] 219)
  have hU := hide (Uf.begin)
  clear hx2 hr2 d1 d1n
  go_loopw [10] (fun iv wr => ∃ (k : Nat) (f : List Nat), k ≤ es.length ∧ iv = .int .i64 k ∧ Hid (Uf f (eL (es.take k))) ∧ Box wr w2.heap.size (castV f) 219 ∧ Box wr (w.heap.size + 1) [.int .i64 0, .int .i64 0, .int .i64 0, .int .i64 0, .int .i64 0, .int .i64 0, .int .i64 0, .int .i64 0, .int .i64 0, .int .i64 0, .int .i64 0, .int .i64 0] 219 ∧
    Below (w.heap.size + 1) (w.alloc (.cells #[.int .i64 n, .slice oe es.length c] 43)) wr) (fun iv _ => es.length - (intOf iv).toNat)
  case atStart => exact ⟨0, _, by omega, rfl, hU, hf3, hr3, hx3⟩
  case round =>
    obtain ⟨k, f, hk, rfl, HU, hf, hr, hb⟩ := hrel
    clear hx3 hf3 hr3 hU
    have hszf := hf.lt
    by_cases hlt : k < es.length
    · obtain ⟨a, b, m, _, hget, _, _, _, bl, off, rfl, _, c0, c1, c2⟩ := (hs.below edgR_ok (below_box hb)).edg_at hlt
      have hve := (gErr_zero hV.out).2.1 _ (List.mem_of_getElem? hget)
      have hvn := (gErr_zero hV.out).1
      simp only at hve
      obtain ⟨a, rfl⟩ := Int.eq_ofNat_of_zero_le hve.1.1
      obtain ⟨b, rfl⟩ := Int.eq_ofNat_of_zero_le hve.2.1.1
      have ha : a < 12 := by omega
      have hbb : b < 12 := by omega
      have hbl := World.block_lt_of_cell? _ _ c0
      simp only at hbl
      have HU2 : Hid (Uf (joinF f a b) (eL (es.take (k + 1)))) := by
        show Uf _ _
        rw [eL_next hget]
        exact HU.out.join ha hbb (eL_lt hV.out k)
      have HF := hide HU.out.fst
      have bx := Box.new wr [.int .i64 a, .int .i64 b, .int .i64 m] 145
      have x0 := bx.cell 0
      have x1 := bx.cell 1
      simp at x0 x1
      clear hget hve bx
      go_wp2_with fail
      refine (join_any f w2.heap.size a b _ (hf.next _) HF ha hbb).mono ?_
      rintro e w4 ⟨rfl, hf4, hb4⟩
      have hb4a := hb4 (w.heap.size + 2) (by omega)
      go_wp2_with fail
      go_roundw
      case rel => exact ⟨k + 1, _, by omega, by go_num, HU2, hf4, (hr.next _).under hb4a (by omega), (box_new hb (by simp) _).trans (hb4a.mono (by omega))⟩
      case measure => simp [intOf]; omega
    · have hk2 : k = es.length := by omega
      have HUF : Hid (Uf f (eL es)) := by
        have := HU.out
        rw [hk2, List.take_length] at this
        exact this
      obtain ⟨a0, a1, a2, a3, a4, a5, a6, a7, a8, a9, a10, a11, rfl⟩ := twelve HU.out.fst.len
      have q : ∀ i, wr.cell? ⟨w2.heap.size, i, none⟩ = ([.int .i64 (a0 : Nat), .int .i64 (a1 : Nat), .int .i64 (a2 : Nat), .int .i64 (a3 : Nat), .int .i64 (a4 : Nat), .int .i64 (a5 : Nat), .int .i64 (a6 : Nat), .int .i64 (a7 : Nat), .int .i64 (a8 : Nat), .int .i64 (a9 : Nat), .int .i64 (a10 : Nat), .int .i64 (a11 : Nat)] : List Value)[i]? := fun i => hf.cell i
      have q0 := q 0
      have q1 := q 1
      have q2 := q 2
      have q3 := q 3
      have q4 := q 4
      have q5 := q 5
      have q6 := q 6
      have q7 := q 7
      have q8 := q 8
      have q9 := q 9
      have q10 := q 10
      have q11 := q 11
      simp only [List.getElem?_cons_zero, List.getElem?_cons_succ] at q0 q1 q2 q3 q4 q5 q6 q7 q8 q9 q10 q11
      have r0 := hr.cell 0
      have r1 := hr.cell 1
      have r2 := hr.cell 2
      have r3 := hr.cell 3
      have r4 := hr.cell 4
      have r5 := hr.cell 5
      have r6 := hr.cell 6
      have r7 := hr.cell 7
      have r8 := hr.cell 8
      have r9 := hr.cell 9
      have r10 := hr.cell 10
      have r11 := hr.cell 11
      simp only [List.getElem?_cons_zero, List.getElem?_cons_succ] at r0 r1 r2 r3 r4 r5 r6 r7 r8 r9 r10 r11
      have fr := fun i => hr.free i
      have hszr := hr.lt
      have hbf := below_box hb
      have HHR := hide hr
      clear hk2 HU q hf hr
      go_wp2_with fail
      have hfin := ((((((((((((HHR.out.put 0 (.int .i64 (a0 : Nat))).put 1 (.int .i64 (a1 : Nat))).put 2 (.int .i64 (a2 : Nat))).put 3 (.int .i64 (a3 : Nat))).put 4 (.int .i64 (a4 : Nat))).put 5 (.int .i64 (a5 : Nat))).put 6 (.int .i64 (a6 : Nat))).put 7 (.int .i64 (a7 : Nat))).put 8 (.int .i64 (a8 : Nat))).put 9 (.int .i64 (a9 : Nat))).put 10 (.int .i64 (a10 : Nat))).put 11 (.int .i64 (a11 : Nat)))
      simp only [List.set_cons_zero, List.set_cons_succ] at hfin
      have z0 := hfin.cell 0
      have z1 := hfin.cell 1
      have z2 := hfin.cell 2
      have z3 := hfin.cell 3
      have z4 := hfin.cell 4
      have z5 := hfin.cell 5
      have z6 := hfin.cell 6
      have z7 := hfin.cell 7
      have z8 := hfin.cell 8
      have z9 := hfin.cell 9
      have z10 := hfin.cell 10
      have z11 := hfin.cell 11
      simp only [List.getElem?_cons_zero, List.getElem?_cons_succ] at z0 z1 z2 z3 z4 z5 z6 z7 z8 z9 z10 z11
      refine bodyPost_ret (v := .agg #[.int .i64 (a0 : Nat), .int .i64 (a1 : Nat), .int .i64 (a2 : Nat), .int .i64 (a3 : Nat), .int .i64 (a4 : Nat), .int .i64 (a5 : Nat), .int .i64 (a6 : Nat), .int .i64 (a7 : Nat), .int .i64 (a8 : Nat), .int .i64 (a9 : Nat), .int .i64 (a10 : Nat), .int .i64 (a11 : Nat)]) ?_ rfl ⟨[a0, a1, a2, a3, a4, a5, a6, a7, a8, a9, a10, a11], rfl, HUF.out, ?_⟩
      · simp [results, Tryz.results163, go_sem, z0, z1, z2, z3, z4, z5, z6, z7, z8, z9, z10, z11]
      · exact (((((((((((hbf.setCell (by simp) _).setCell (by simp) _).setCell (by simp) _).setCell (by simp) _).setCell (by simp) _).setCell (by simp) _).setCell (by simp) _).setCell (by simp) _).setCell (by simp) _).setCell (by simp) _).setCell (by simp) _).setCell (by simp) _

end Go.Proofs.YtnigfddanoaonaaGreat

set_option linter.unusedVariables false
set_option linter.unusedSimpArgs false
namespace Go.Proofs.YtnigfddanoaonaaGreat
open Go.RowKit Go.Maps

theorem intInfo8 : (Tryz.prog.info? 3).map (fun i => (i.zero, i.size, i.bytes)) = some (some (.int .i64 0), 1, 8) := by kernel_rfl
theorem listInfo : (Tryz.prog.info? 23).map (fun i => (i.zero, i.size, i.bytes)) = some (some (.slice none 0 0), 1, 24) := by kernel_rfl
theorem keyLaw : Keyed Tryz.prog 3 := int_keyed Tryz.underlying3
theorem zeroInt (w : World) : (zeroValue 3).run Tryz.prog w = .ok (.int .i64 0) w := by kernel_rfl
abbrev DU := DataW Unit
def kl (r : Nat) : Lit := .int .i64 r
def vl (r : Nat) : DU := .lit (.int .i64 r)
theorem nat_wf {r : Nat} (h : r < 9223372036854775808) : (Lit.int .i64 (r : Nat)).wf = true := WalkArith.wf_i64 ⟨by omega, by omega⟩

set_option maxRecDepth 100000 in
theorem look_at {w : World} {b n : Nat} {D : DU} (h : w.ownsMap Tryz.prog 3 (plainElem (H := Unit) Tryz.prog 3) b n D) {r i : Nat} (hr : r < 9223372036854775808) (hat : D.atKey (kl r) (vl 0) = vl i) :
    (Instr.lookup 229 (.map (some b)) (.int .i64 (r : Nat)) false).run Tryz.prog w = .ok (.int .i64 (i : Nat)) w := by
  obtain ⟨c, hrun, hc, _⟩ := World.ownsMap.lookup_int h keyLaw Tryz.underlying229 Tryz.underlying3 (zeroInt w) (keyOf_int_mk Tryz.underlying3 (nat_wf hr))
  have : vl i = (.lit (.int .i64 c) : DU) := hat.symm.trans hc
  simp only [vl, DataW.lit.injEq, Lit.int.injEq, true_and] at this
  rw [hrun, this]

theorem grown_setR (w : World) (p : Addr) (v : Value) : w.grownBy (w.setCell p v) (some p.block) := ⟨rfl, rfl, rfl, by simp, fun k _ hk => heap_setCell_other w p k v (fun e => hk (by simp [e]))⟩
theorem one_cell {w : World} {t : TypeId} {v : Value} {j : Nat} {u : Value} (h : [v][j]? = some u) : (w.alloc (.cells #[v] t)).cell? ((⟨w.heap.size, 0, none⟩ : Addr).add j) = some u := by
  have hj : j = 0 := by
    have := (List.getElem?_eq_some_iff.1 h).1
    simp at this
    exact this
  subst hj
  simp at h
  subst h
  exact (Box.new w [v] t).cell 0

/-- How many of the first n vertices stand for themselves. -/
def cnt (f : List Nat) (n : Nat) : Nat := ((List.range n).filter fun v => rootF f v == v).length
theorem cnt_yes {f : List Nat} {k : Nat} (h : rootF f k = k) : cnt f (k + 1) = cnt f k + 1 := by
  simp [cnt, List.range_succ, List.filter_append, h]
theorem cnt_no {f : List Nat} {k : Nat} (h : ¬ rootF f k = k) : cnt f (k + 1) = cnt f k := by
  simp [cnt, List.range_succ, List.filter_append, h]

def PartsPost (w : World) (f : List Nat) (n : Nat) (e : Ending) (w' : World) : Prop := ∃ oa c, e = .returned (.slice oa (cnt f n) c) ∧ Below w.heap.size w w'

set_option maxRecDepth 100000 in
set_option maxHeartbeats 4000000 in
theorem parts_any (f : List Nat) (B n : Nat) (w : World) (hb : Box w B (castV f) 219) (hf : Hid (Fst f)) (hn : n ≤ 12) :
    Calls Tryz.prog 164 #[.pointer (some ⟨B, 0, none⟩), .int .i64 n] w (PartsPost w f n) := by
  have hmm := @run_makeMap Tryz.prog
  have hBl := hb.lt
  obtain ⟨i0, hi0, hz0, hz1, hz2⟩ := info_parts listInfo
  go_enter Tryz.func164, Tryz.ntmps164
  go_wp2_with fail
  have hm0 := World.ownsMap_made (H := Unit) w Tryz.prog 3 (plainElem (H := Unit) Tryz.prog 3)
  have hb0 : Below w.heap.size w (w.alloc (.map #[] 0)) := (Below.refl _ _).alloc (Nat.le_refl _) _
  go_loopw [5, 11] (fun ov iv wr => ∃ (k : Nat) (vs : List Value) (xss : List (List Int)) (m : Nat) (D : DU), k ≤ n ∧ iv = .int .i64 k ∧ Hid (vs.length = cnt f k) ∧ Lists (w.heap.size + 1) 3 23 wr ov vs xss ∧
      wr.ownsMap Tryz.prog 3 (plainElem (H := Unit) Tryz.prog 3) w.heap.size m D ∧ m ≤ k ∧ vs.length ≤ k ∧ Hid (∀ r, r < k → rootF f r = r → ∃ i, i < vs.length ∧ D.atKey (kl r) (vl 0) = vl i) ∧ Hid (∀ xs ∈ xss, xs.length ≤ k) ∧ Below w.heap.size w wr) (fun _ iv _ => n - (intOf iv).toNat)
  case atStart => exact ⟨0, [], [], 0, _, by omega, rfl, rfl, Lists.nil _ _ _ _, hm0, by omega, by simp, fun r hr => by omega, fun xs hx => by simp at hx, hb0⟩
  case round =>
    clear hm0 hb0
    obtain ⟨k, vs, xss, m, D, hk, rfl, HC, HL, hmap, hmk, hvk, HI, HS, hbW⟩ := hrel
    by_cases hlt : k < n
    · have HR : Hid (rootF f k ≤ k) := rootF_le hf.out (by omega)
      have HRR : Hid (rootF f (rootF f k) = rootF f k) := rootF_self hf.out (rootF_fix hf.out (by omega))
      have hbw := hb.below hbW
      have hk12 : k < 12 := by omega
      have hszr := hbW.size
      go_wp2_with fail
      refine (root_any f B k _ hbw hf hk12).mono ?_
      rintro e w2 ⟨rfl, rfl⟩
      have hrk := HR.out
      by_cases hroot : rootF f k = k
      · have HC2 : Hid (vs.length + 1 = cnt f (k + 1)) := by show _ = _; rw [cnt_yes hroot, HC.out]
        rw [hroot]
        have hiD : IsMap D := hmap.isMap
        have HI2 : Hid (∀ r, r < k + 1 → rootF f r = r → ∃ i, i < (vs ++ [Value.slice none 0 0]).length ∧ (D.put (kl k) (vl vs.length)).atKey (kl r) (vl 0) = vl i) := by
          intro r hr hrr
          by_cases he : r = k
          · subst he
            exact ⟨vs.length, by simp, atKey_put_same hiD (show WideAt.IsKeyLit (kl r) from trivial) _ _⟩
          · obtain ⟨i, h1, h2⟩ := HI.out r (by omega) hrr
            exact ⟨i, by simp; omega, (atKey_put_other (fun h => he (by simp [kl] at h; omega)) _ _).trans h2⟩
        have HS2 : Hid (∀ xs ∈ xss ++ [[]], xs.length ≤ k) := by
          intro xs hxs
          rcases List.mem_append.1 hxs with h | h
          · exact HS.out xs h
          · simp at h; subst h; simp
        have hvs : (Lit.int .i64 (vs.length : Nat)).wf = true := nat_wf (by omega)
        have hq : ((k : Int) == (k : Int)) = true := by simp
        have hlen : ∃ oa c, u5 = .slice oa vs.length c := by
          rcases Go.Joins.ownsRow_forms HL.row with ⟨h1, h2⟩ | ⟨g, c, h1⟩
          · rw [h2]; exact ⟨_, _, h1⟩
          · exact ⟨_, _, h1⟩
        obtain ⟨oa, c0, rfl⟩ := hlen
        clear hroot HC HI HS hrk HR HRR hiD
        go_wp2_with (first
          | (at_mapUpdate; refine wpList_mapUpdate_own _ rfl _ _ _ 229 rfl 3 3 keyLaw Tryz.underlying229 (plainElem (H := Unit) Tryz.prog 3) w.heap.size m D rfl hmap (by unfold maxLen; omega) _ _ (kl k) rfl rfl (keyOf_int_mk Tryz.underlying3 (nat_wf (by omega))) (vl vs.length) [] (plainElem_int Tryz.underlying3 hvs) ?_; intro w2 hmap2 hgm)
          | (at_builtin; refine wpList_append_own_at _ rfl (.tmp 24) (.tmp 25) 24 rfl (w.heap.size + 1) 23 i0 _ 1 24 Tryz.underlying24 hi0 hz0 hz1 hz2 rfl (by decide) (.slice oa vs.length c0) vs.length vs rfl ((HL.under hgm (by omega)).row.alloc _) ⟨w2.heap.size, 0, none⟩ 1 1 [.slice none 0 0] rfl rfl (fun j u hj => one_cell hj) (by simp [Value.oneCell']) (by unfold maxLen; omega) (by omega) (by have := hgm.size; simp; omega) ?_; intro ov2 w4 hrow4 hg4 hnil4 hat4)
          | fail)
        obtain ⟨vs', xss', m', D', i, HC, HL, hmap, hmk, hvk, HI, HS, hbW, hi, hat⟩ : ∃ (vs' : List Value) (xss' : List (List Int)) (m' : Nat) (D' : DU) (i : Nat), Hid (vs'.length = cnt f (k + 1)) ∧ Lists (w.heap.size + 1) 3 23 w4 ov2 vs' xss' ∧ w4.ownsMap Tryz.prog 3 (plainElem (H := Unit) Tryz.prog 3) w.heap.size m' D' ∧ m' ≤ k + 1 ∧ vs'.length ≤ k + 1 ∧
            Hid (∀ r, r < k + 1 → rootF f r = r → ∃ i, i < vs'.length ∧ D'.atKey (kl r) (vl 0) = vl i) ∧ Hid (∀ xs ∈ xss', xs.length ≤ k) ∧ Below w.heap.size w w4 ∧ i < vs'.length ∧ Hid (D'.atKey (kl k) (vl 0) = vl i) := by
          refine ⟨_, _, m + 1, _, vs.length, by simpa using HC2, (HL.under hgm (by omega)).snoc hrow4 hg4 hat4, (hmap2.alloc _).kept hg4 (fun he => by have := (HL.row.lt _ he.symm).1; omega), by omega, by simp; omega, HI2, HS2, ?_, by simp, hide (atKey_put_same hmap.isMap (show WideAt.IsKeyLit (kl k) from trivial) _ _)⟩
          exact (((hbW.grown hgm (by omega) fun q hq => by injection hq with hq; omega).alloc (by have := hgm.size; omega) _).grown hg4 (by have := hgm.size; simp; omega) fun q hq => by have := (HL.row.lt _ hq).1; omega)
        clear HC2 HI2 HS2 hmap2 hgm hrow4 hg4 hnil4 hat4 hvs
        obtain ⟨g, cap, rfl⟩ := Go.Joins.ownsRow_form HL.row (by omega)
        obtain ⟨v, hv⟩ : ∃ v, vs'[i]? = some v := ⟨vs'[i], List.getElem?_eq_getElem hi⟩
        obtain ⟨xs, hx⟩ : ∃ xs, xss'[i]? = some xs := ⟨xss'[i]'(by rw [← HL.len]; exact hi), List.getElem?_eq_getElem _⟩
        have hcell := HL.row.cellAt i (by omega)
        rw [hv] at hcell
        have hfree := HL.row.frozenAt i
        have hgl := (HL.row.lt g rfl).2
        have hgb := (HL.row.lt g rfl).1
        have hxl := HS.out xs (List.mem_of_getElem? hx)
        have hown := (HL.ms.own i v xs hv hx)
        have hvb := fun q hq => HL.ms.block hv q hq
        have HG := hide (fun w' v' h1 h2 h3 => HL.draw.grow (w' := w') (v' := v') (x := (k : Int)) (o := .cells #[.int .i64 (k : Nat)] 3) hv hx h1 h2 h3)
        have hoffv : v.ownBlock ≠ some g := fun he => HL.off i v g hv he rfl
        have hszW := hbW.size
        have HS2 : Hid (∀ ys ∈ xss'.set i (xs ++ [(k : Int)]), ys.length ≤ k + 1) := by
          intro ys hys
          rcases List.mem_or_eq_of_mem_set hys with h | h
          · exact Nat.le_succ_of_le (HS.out ys h)
          · subst h; simp; exact hxl
        have HBW := hide hbW
        have L1 := look_at hmap.drew (show k < 9223372036854775808 by omega) hat.out
        have L2 := look_at (hmap.alloc (.cells #[.int .i64 (k : Nat)] 3)).drew (show k < 9223372036854775808 by omega) hat.out
        clear hv hx HL hbW HS
        go_wp2_with fail
        go_region_law (refine step_append_n rfl (.tmp 36) (.tmp 38) 23 rfl (w.heap.size + 1) 3 _ Tryz.underlying23 intInfo8 rfl v xs (by simp [Act.eval, Act.put]) (hown.draw.new _) ⟨w4.heap.size, 0, none⟩ 1 (k : Int) (by simp [Act.eval, Act.put]) (one_cell rfl) (by constructor <;> omega) (by omega) (by simp; omega) ?_; intro v' w3 ho3 hb3 hg3 hv3; obtain ⟨oa3, c3, rfl, _, _⟩ := ho3.slice; have hm3 := (hmap.drew.alloc (.cells #[.int .i64 (k : Nat)] 3)).kept hg3 (fun he => by have := (hvb _ he.symm).1; omega); have L3 := look_at hm3 (show k < 9223372036854775808 by omega) hat.out; have hf3 : w3.frozen? ⟨g, i, none⟩ = false := (hg3.frozen_far ⟨g, i, none⟩ (by simp; omega) (fun he => hoffv he.symm)).trans (((World.grownBy_alloc w4.drew _ none).frozen_far ⟨g, i, none⟩ hgl (by simp)).trans hfree); have hc3 : w3.cell? ⟨g, i, none⟩ = some v := (hg3.cell_far ⟨g, i, none⟩ (by simp; omega) (fun he => hoffv he.symm)).trans (((World.grownBy_alloc w4.drew _ none).cell_far ⟨g, i, none⟩ hgl (by simp)).trans hcell))
        all_goals
          have hL := HG.out _ _ ho3 hg3 hv3
          rw [List.length_set] at hL
          have hBf := ((HBW.out.drew.alloc hszW (.cells #[.int .i64 (k : Nat)] 3)).trans (hb3.mono (by omega))).setCell (p := ⟨g, i, none⟩) (by simp; omega) (.slice oa3 (xs ++ [(k : Int)]).length c3)
          have hmf := hm3.kept (grown_setR w3 ⟨g, i, none⟩ (.slice oa3 (xs ++ [(k : Int)]).length c3)) (by simp; omega)
          simp only [List.length_append, List.length_cons, List.length_nil, Nat.zero_add] at hL hBf hmf
          have HH := hide (And.intro hL (And.intro hBf hmf))
          clear hL hBf hmf L1 L2 L3 hf3 hc3 hcell hfree ho3 hg3 hv3 hb3
          go_wp2_with fail
          go_roundw
          case rel => exact ⟨k + 1, _, _, m', D', by omega, by go_num, (by show _ = _; rw [List.length_set]; exact HC.out), HH.out.1, HH.out.2.2, hmk, by simp; exact hvk, by rw [List.length_set]; exact HI, HS2, HH.out.2.1⟩
          case measure => simp [intOf]; omega
      · have HC2 : Hid (vs.length = cnt f (k + 1)) := by show _ = _; rw [cnt_no hroot, HC.out]
        have HI2 : Hid (∀ r, r < k + 1 → rootF f r = r → ∃ i, i < vs.length ∧ D.atKey (kl r) (vl 0) = vl i) := by
          intro r hr hrr
          by_cases he : r = k
          · subst he; exact (hroot hrr).elim
          · exact HI.out r (by omega) hrr
        clear HI
        generalize rootF f k = r at hroot hrk HR HRR
        have hq : ((r : Int) == (k : Int)) = false := by simp; omega
        obtain ⟨i0', h1, h2⟩ := HI2.out r (by omega) HRR.out
        obtain ⟨vs', xss', m', D', i, HC, HL, hmap, hmk, hvk, HI, HS, hbW, hi, hat⟩ : ∃ (vs' : List Value) (xss' : List (List Int)) (m' : Nat) (D' : DU) (i : Nat), Hid (vs'.length = cnt f (k + 1)) ∧ Lists (w.heap.size + 1) 3 23 wr u5 vs' xss' ∧ wr.ownsMap Tryz.prog 3 (plainElem (H := Unit) Tryz.prog 3) w.heap.size m' D' ∧ m' ≤ k + 1 ∧ vs'.length ≤ k + 1 ∧
            Hid (∀ r, r < k + 1 → rootF f r = r → ∃ i, i < vs'.length ∧ D'.atKey (kl r) (vl 0) = vl i) ∧ Hid (∀ xs ∈ xss', xs.length ≤ k) ∧ Below w.heap.size w wr ∧ i < vs'.length ∧ Hid (D'.atKey (kl r) (vl 0) = vl i) := by
          exact ⟨_, _, m, _, i0', HC2, HL, hmap, by omega, by omega, HI2, HS, hbW, h1, h2⟩
        clear HC2 HI2 hroot HR HRR
        obtain ⟨g, cap, rfl⟩ := Go.Joins.ownsRow_form HL.row (by omega)
        obtain ⟨v, hv⟩ : ∃ v, vs'[i]? = some v := ⟨vs'[i], List.getElem?_eq_getElem hi⟩
        obtain ⟨xs, hx⟩ : ∃ xs, xss'[i]? = some xs := ⟨xss'[i]'(by rw [← HL.len]; exact hi), List.getElem?_eq_getElem _⟩
        have hcell := HL.row.cellAt i (by omega)
        rw [hv] at hcell
        have hfree := HL.row.frozenAt i
        have hgl := (HL.row.lt g rfl).2
        have hgb := (HL.row.lt g rfl).1
        have hxl := HS.out xs (List.mem_of_getElem? hx)
        have hown := (HL.ms.own i v xs hv hx)
        have hvb := fun q hq => HL.ms.block hv q hq
        have HG := hide (fun w' v' h1 h2 h3 => HL.draw.grow (w' := w') (v' := v') (x := (k : Int)) (o := .cells #[.int .i64 (k : Nat)] 3) hv hx h1 h2 h3)
        have hoffv : v.ownBlock ≠ some g := fun he => HL.off i v g hv he rfl
        have hszW := hbW.size
        have HS2 : Hid (∀ ys ∈ xss'.set i (xs ++ [(k : Int)]), ys.length ≤ k + 1) := by
          intro ys hys
          rcases List.mem_or_eq_of_mem_set hys with h | h
          · exact Nat.le_succ_of_le (HS.out ys h)
          · subst h; simp; exact hxl
        have HBW := hide hbW
        have L1 := look_at hmap.drew (show r < 9223372036854775808 by omega) hat.out
        have L2 := look_at (hmap.alloc (.cells #[.int .i64 (k : Nat)] 3)).drew (show r < 9223372036854775808 by omega) hat.out
        clear hv hx HL hbW HS
        go_wp2_with fail
        go_region_law (refine step_append_n rfl (.tmp 36) (.tmp 38) 23 rfl (w.heap.size + 1) 3 _ Tryz.underlying23 intInfo8 rfl v xs (by simp [Act.eval, Act.put]) (hown.draw.new _) ⟨wr.heap.size, 0, none⟩ 1 (k : Int) (by simp [Act.eval, Act.put]) (one_cell rfl) (by constructor <;> omega) (by omega) (by simp; omega) ?_; intro v' w3 ho3 hb3 hg3 hv3; obtain ⟨oa3, c3, rfl, _, _⟩ := ho3.slice; have hm3 := (hmap.drew.alloc (.cells #[.int .i64 (k : Nat)] 3)).kept hg3 (fun he => by have := (hvb _ he.symm).1; omega); have L3 := look_at hm3 (show r < 9223372036854775808 by omega) hat.out; have hf3 : w3.frozen? ⟨g, i, none⟩ = false := (hg3.frozen_far ⟨g, i, none⟩ (by simp; omega) (fun he => hoffv he.symm)).trans (((World.grownBy_alloc wr.drew _ none).frozen_far ⟨g, i, none⟩ hgl (by simp)).trans hfree); have hc3 : w3.cell? ⟨g, i, none⟩ = some v := (hg3.cell_far ⟨g, i, none⟩ (by simp; omega) (fun he => hoffv he.symm)).trans (((World.grownBy_alloc wr.drew _ none).cell_far ⟨g, i, none⟩ hgl (by simp)).trans hcell))
        all_goals
          have hL := HG.out _ _ ho3 hg3 hv3
          rw [List.length_set] at hL
          have hBf := ((HBW.out.drew.alloc hszW (.cells #[.int .i64 (k : Nat)] 3)).trans (hb3.mono (by omega))).setCell (p := ⟨g, i, none⟩) (by simp; omega) (.slice oa3 (xs ++ [(k : Int)]).length c3)
          have hmf := hm3.kept (grown_setR w3 ⟨g, i, none⟩ (.slice oa3 (xs ++ [(k : Int)]).length c3)) (by simp; omega)
          simp only [List.length_append, List.length_cons, List.length_nil, Nat.zero_add] at hL hBf hmf
          have HH := hide (And.intro hL (And.intro hBf hmf))
          clear hL hBf hmf L1 L2 L3 hf3 hc3 hcell hfree ho3 hg3 hv3 hb3
          go_wp2_with fail
          go_roundw
          case rel => exact ⟨k + 1, _, _, m', D', by omega, by go_num, (by show _ = _; rw [List.length_set]; exact HC.out), HH.out.1, HH.out.2.2, hmk, by simp; exact hvk, by rw [List.length_set]; exact HI, HS2, HH.out.2.1⟩
          case measure => simp [intOf]; omega
    · have : k = n := by omega
      subst this
      have hlen : ∃ oa c, u5 = .slice oa vs.length c := by
        rcases Go.Joins.ownsRow_forms HL.row with ⟨h1, h2⟩ | ⟨g, c, h1⟩
        · rw [h2]; exact ⟨_, _, h1⟩
        · exact ⟨_, _, h1⟩
      obtain ⟨oa, c0, rfl⟩ := hlen
      go_wp2_with fail
      go_ret
      exact ⟨oa, c0, congrArg (fun q : Nat => Ending.returned (.slice oa q c0)) HC.out, hbW⟩

end Go.Proofs.YtnigfddanoaonaaGreat

set_option linter.unusedVariables false
set_option linter.unusedSimpArgs false
namespace Go.Proofs.YtnigfddanoaonaaGreat
open Go.RowKit Go.Shelf

attribute [local go_sem] Oper.semAt_some

/-- The single edges with their numbers. -/
def singL (es : List Edg) : List (Nat × Int × Int) := (endsL es).zipIdx.map fun p => (p.2, p.1)
theorem singL_len (es : List Edg) : (singL es).length = (endsL es).length := by simp [singL]
theorem singL_snd (es : List Edg) : (singL es).map (fun p => p.2) = endsL es := by
  unfold singL
  rw [List.map_map]
  have : ((fun p : Nat × Int × Int => p.2) ∘ fun p : (Int × Int) × Nat => (p.2, p.1)) = Prod.fst := rfl
  rw [this]
  simp
theorem singL_get {es : List Edg} {i : Nat} {p : Int × Int} (h : (endsL es)[i]? = some p) : (singL es)[i]? = some (i, p) := by
  unfold singL
  rw [List.getElem?_map, List.getElem?_zipIdx, h]
  simp
theorem endsL_take (es : List Edg) (k : Nat) : endsL (es.take k) ++ endsL (es.drop k) = endsL es := by
  unfold endsL
  rw [← List.flatMap_append, List.take_append_drop]
theorem endsL_at {es : List Edg} {k j : Nat} {x : Edg} (hx : es[k]? = some x) (hj : j < x.m.toNat) : (endsL es)[(endsL (es.take k)).length + j]? = some (x.a, x.b) := by
  have hk : k < es.length := (List.getElem?_eq_some_iff.1 hx).1
  rw [← endsL_take es k, List.getElem?_append_right (by omega), Nat.add_sub_cancel_left, List.drop_eq_getElem_cons hk]
  have : es[k] = x := by rw [List.getElem?_eq_getElem hk] at hx; injection hx
  rw [this, endsL_cons, List.getElem?_append_left (by simpa using hj), List.getElem?_replicate, if_pos hj]
theorem endsL_next {es : List Edg} {k : Nat} {x : Edg} (hx : es[k]? = some x) : (endsL (es.take (k + 1))).length = (endsL (es.take k)).length + x.m.toNat := by
  have hk : k < es.length := (List.getElem?_eq_some_iff.1 hx).1
  rw [List.take_add_one, hx]
  simp [endsL, List.flatMap_append]
theorem take_next {α : Type} {l : List α} {i : Nat} {x : α} (h : l[i]? = some x) : l.take i ++ [x] = l.take (i + 1) := by
  rw [List.take_add_one, h]; rfl

/-- What lay below n₀ lies as it lay, and so do the blocks of type T, wherever they lie. -/
def KpE (T : TypeId) (n₀ : Nat) (W W' : World) : Prop := Below n₀ W W' ∧ ∀ (k : Nat) (cs : Array Value), W.heap[k]? = some (Obj.cells cs T (0, 0)) → W'.heap[k]? = some (Obj.cells cs T (0, 0))
theorem KpE.refl (T : TypeId) (n₀ : Nat) (W : World) : KpE T n₀ W W := ⟨Below.refl _ _, fun _ _ h => h⟩
theorem KpE.t {T : TypeId} {n₀ : Nat} {A B C : World} (h : KpE T n₀ A B) (k : KpE T n₀ B C) : KpE T n₀ A C := ⟨h.1.trans k.1, fun i cs hi => k.2 i cs (h.2 i cs hi)⟩
theorem KpE.b {T : TypeId} {n₀ : Nat} {w : World} (hn : n₀ ≤ w.heap.size) (W : World) (l : Nat) (o o' : Obj) (hl : w.heap.size ≤ l) (ho : W.heap[l]? = some o) (hc : o.isCells = false) (hw : o.isWalk = false) : KpE T n₀ W (W.putObj l o') := by
  refine ⟨belowK_b hn W l o o' hl ho hc hw, fun k cs hk => ?_⟩
  have : k ≠ l := fun e => by
    subst e
    rw [hk] at ho
    injection ho with ho
    subst ho
    cases hc
  rw [World.putObj_heap_other this]
  exact hk
theorem KpE.new {T : TypeId} {n₀ : Nat} {W W' : World} (h : KpE T n₀ W W') (hn : n₀ ≤ W'.heap.size) (o : Obj) : KpE T n₀ W (W'.alloc o) :=
  ⟨h.1.alloc hn o, fun k cs hk => (Below.heap_alloc W' o k (Array.getElem?_eq_some_iff.1 (h.2 k cs hk)).1).trans (h.2 k cs hk)⟩
theorem KpE.box {T : TypeId} {n₀ : Nat} {W W' : World} (h : KpE T n₀ W W') {B : Nat} {cs : List Value} (hb : Box W B cs T) : Box W' B cs T := h.2 B _ hb

def sEnc (x : Nat × Int × Int) : Array Value := #[.int .i64 (x.1 : Int), .agg #[.int .i64 x.2.1, .int .i64 x.2.2]]

set_option maxRecDepth 100000 in
set_option maxHeartbeats 4000000 in
theorem singles1_in (F : Fence) (n : Nat) (h7 : F.fn 133) (hro : F.round = none) (hn : 1 ≤ n) (l Bg n₀ bl off : Nat) (N : Int) (c : Nat) (oe : Option Addr) (es : List Edg) (hoe : oe = some ⟨bl, off, none⟩) (hes : es.length ≤ 1000) (hm : ∀ x ∈ es, x.m ≤ 50) (hb : bl < n₀) (J Jx : List (Nat × Int × Int) → World → Prop)
    (hY : ∀ pre x W, J pre W → pre.length < (singL es).length → YieldAt F (n - 1) Tryz.prog l (sEnc x) W fun e W' =>
      (e = .returned (.bool true) ∧ J (pre ++ [x]) W' ∧ KpE 145 n₀ W W') ∨ (e = .returned (.bool false) ∧ Jx (pre ++ [x]) W'))
    (W : World) (hn₀ : n₀ ≤ W.heap.size) (hJ : AbidesFrom W.heap.size J) (hBs : W.cell? ⟨Bg, 1, none⟩ = some (.slice oe es.length c)) (hc : ∀ i (x : Edg), es[i]? = some x → W.cell? ⟨bl, off + i * 3, none⟩ = some (.int .i64 x.a) ∧ W.cell? ⟨bl, off + i * 3 + 1, none⟩ = some (.int .i64 x.b) ∧ W.cell? ⟨bl, off + i * 3 + 2, none⟩ = some (.int .i64 x.m)) (h0 : J [] W) :
    CallsIn F n Tryz.prog 133 #[.func (.yield l) #[] #[], .pointer (some ⟨Bg, 0, none⟩)] W fun e W' => (∃ v, e = .returned v) ∧
      ((∃ ys, ys = singL es ∧ J ys W') ∨ (∃ pre, pre <+: singL es ∧ Jx pre W')) := by
  subst hoe
  have HC := hide hc
  have HM := hide hm
  clear hc hm
  have hcap : (endsL es).length ≤ 50000 := by have := endsL_len HM.out; omega
  refine callsIn_of_wp Tryz.func133 rfl h7 ?_ hro
  simp only [Tryz.ntmps133, List.size_toArray, List.length_cons, List.length_nil, Nat.reduceAdd, Nat.reduceSub, Array.replicate_succ, Array.replicate_zero, List.push_toArray, List.append_toArray, List.nil_append, List.cons_append]
  gi_wp2
  gi_loopw [3, 9] (fun ev iv wr => ∃ (k e : Nat), k ≤ es.length ∧ iv = .int .i64 k ∧ ev = .int .i64 e ∧ Hid (e = (endsL (es.take k)).length) ∧ J ((singL es).take e) wr ∧ Below n₀ W wr ∧ W.heap.size ≤ wr.heap.size)
    (fun _ i _ => es.length - (intOf i).toNat)
  case atStart => exact ⟨0, 0, Nat.zero_le _, rfl, rfl, rfl, by simpa using h0, Below.refl _ _, Nat.le_refl _⟩
  case round =>
    obtain ⟨k, e, hk, rfl, rfl, HE, hJs, hnx, hsz⟩ := hrel
    by_cases hlt : k < es.length
    · obtain ⟨x, hx⟩ : ∃ x, es[k]? = some x := ⟨_, List.getElem?_eq_getElem hlt⟩
      obtain ⟨c0, c1, c2⟩ := HC.out k x hx
      have c0 := (hnx.cell (p := ⟨bl, off + k * 3, none⟩) hb).trans c0
      have c1 := (hnx.cell (p := ⟨bl, off + k * 3 + 1, none⟩) hb).trans c1
      have c2 := (hnx.cell (p := ⟨bl, off + k * 3 + 2, none⟩) hb).trans c2
      have hbl : bl < wr.heap.size := by omega
      have HX := hide hx
      have hxm := HM.out x (List.mem_of_getElem? hx)
      have hJ2 : J ((singL es).take e) (wr.alloc (.cells #[.int .i64 x.a, .int .i64 x.b, .int .i64 x.m] 145)) := hJ _ _ _ none hJs (World.grownBy_alloc wr _ none) (fun r e => by cases e)
      have hbx := Box.new wr [.int .i64 x.a, .int .i64 x.b, .int .i64 x.m] 145
      have hnx2 := hnx.alloc (show n₀ ≤ wr.heap.size by omega) (.cells #[.int .i64 x.a, .int .i64 x.b, .int .i64 x.m] 145)
      obtain ⟨Bx, hBx⟩ : ∃ Bx, Bx = wr.heap.size := ⟨_, rfl⟩
      rw [← hBx] at hbx
      clear hx
      gi_wp2
      rw [← hBx]
      have hBn : n₀ ≤ Bx := by omega
      have hBsz : wr.heap.size ≤ wr.heap.size + 1 := by omega
      generalize hW2 : wr.alloc (.cells #[.int .i64 x.a, .int .i64 x.b, .int .i64 x.m] 145) = W2 at *
      have hs2 : W.heap.size ≤ W2.heap.size := by rw [← hW2]; simp; omega
      have HBX := hide hBx
      have HWW := hide hW2
      clear hBx hW2
      obtain ⟨wo, rfl⟩ : ∃ wo : World, wo = wr := ⟨_, rfl⟩
      gi_loopw [3, 15] (fun ev jv wy => ∃ (j f : Nat), (j : Int) ≤ max x.m 0 ∧ jv = .int .i64 j ∧ ev = .int .i64 f ∧ Hid (f = e + j) ∧ J ((singL es).take f) wy ∧ Below n₀ W wy ∧ W.heap.size ≤ wy.heap.size ∧ Box wy Bx [.int .i64 x.a, .int .i64 x.b, .int .i64 x.m] 145)
        (fun _ j _ => x.m.toNat - (intOf j).toNat)
      case atStart => exact ⟨0, e, by omega, rfl, rfl, rfl, hJ2, hnx2, hs2, hbx⟩
      case round =>
        obtain ⟨j, f, hj, rfl, rfl, HF, hJ3, hny, hsy, hby⟩ := hrel
        by_cases hjl : (j : Int) < x.m
        · have hat : (singL es)[f]? = some (f, x.a, x.b) := singL_get (by rw [HF.out, HE.out]; exact endsL_at HX.out (by omega))
          have hfl : f < (singL es).length := (List.getElem?_eq_some_iff.1 hat).1
          have hlen : ((singL es).take f).length < (singL es).length := by simp; omega
          obtain ⟨fn, tmps, assign, body, hy, hR⟩ := hY _ (f, x.a, x.b) wr hJ3 hlen
          simp only [sEnc] at hy
          have hfl2 : f ≤ 50000 := by rw [singL_len] at hfl; omega
          have HT := hide (take_next hat)
          have b0 := hby.cell 0
          have b1 := hby.cell 1
          simp at b0 b1
          clear hat hlen hJ3 hJ2
          gi_wp2
          refine hR.mono ?_
          rintro e' W3 (⟨rfl, hJ4, hk4⟩ | ⟨rfl, hJx4⟩)
          · gi_wp2
            go_roundw
            case rel =>
              refine ⟨j + 1, f + 1, by omega, by go_num, by go_num, ?_, by rw [← HT.out]; exact hJ4, hny.trans hk4.1, Nat.le_trans hsy hk4.1.size, hk4.box hby⟩
              show _ = _
              rw [HF.out]
              omega
            case measure => simp [intOf]; omega
          · gi_wp2
            refine bodyPost_ret (results_none rfl _ _ _) rfl ?_
            refine ⟨⟨_, rfl⟩, .inr ⟨_, ?_, hJx4⟩⟩
            rw [HT.out]
            exact List.take_prefix _ _
        · have HF2 : Hid (f = (endsL (es.take (k + 1))).length) := by
            show _ = _
            rw [endsL_next HX.out, HF.out, HE.out]
            omega
          gi_wp2
          go_roundw
          case rel => exact ⟨k + 1, f, by omega, by go_num, rfl, HF2, hJ3, hny, hsy⟩
          case measure => simp [intOf]; omega
    · have hke : k = es.length := by omega
      have HJ : Hid (J (singL es) wr) := by
        have h1 : e = (singL es).length := by rw [HE.out, hke, List.take_length, singL_len]
        rw [h1, List.take_length] at hJs
        exact hJs
      gi_wp2
      go_end0
      exact ⟨⟨_, rfl⟩, .inl ⟨_, rfl, HJ.out⟩⟩

set_option maxRecDepth 100000 in
set_option maxHeartbeats 1000000 in
theorem singles1_nil_in (F : Fence) (n : Nat) (h7 : F.fn 133) (hro : F.round = none) (l Bg : Nat) (c : Nat) (a : Option Addr) (J : List (Nat × Int × Int) → World → Prop) (W : World) (hBs : W.cell? ⟨Bg, 1, none⟩ = some (.slice a 0 c)) (h0 : J [] W) :
    CallsIn F n Tryz.prog 133 #[.func (.yield l) #[] #[], .pointer (some ⟨Bg, 0, none⟩)] W fun e W' => (∃ v, e = .returned v) ∧ J [] W' := by
  refine callsIn_of_wp Tryz.func133 rfl h7 ?_ hro
  simp only [Tryz.ntmps133, List.size_toArray, List.length_cons, List.length_nil, Nat.reduceAdd, Nat.reduceSub, Array.replicate_succ, Array.replicate_zero, List.push_toArray, List.append_toArray, List.nil_append, List.cons_append]
  gi_wp2
  gi_loopw [9] (fun i wr => i = .int .i64 0 ∧ J [] wr) (fun _ _ => 0)
  case atStart => exact ⟨rfl, h0⟩
  case round =>
    obtain ⟨rfl, hJs⟩ := hrel
    gi_wp2
    go_end0
    exact ⟨⟨_, rfl⟩, hJs⟩

/-- The edges as they lie, in a block below n₀. -/
def EdgesBelow (n₀ : Nat) (W : World) (oe : Option Addr) (es : List Edg) : Prop :=
  es = [] ∨ ∃ bl off, oe = some ⟨bl, off, none⟩ ∧ bl < n₀ ∧ ∀ i (x : Edg), es[i]? = some x → W.cell? ⟨bl, off + i * 3, none⟩ = some (.int .i64 x.a) ∧ W.cell? ⟨bl, off + i * 3 + 1, none⟩ = some (.int .i64 x.b) ∧ W.cell? ⟨bl, off + i * 3 + 2, none⟩ = some (.int .i64 x.m)
theorem EdgesBelow.of {F : Foot} {w : World} {oe : Option Addr} {es : List Edg} (h : SliceR edgR 3 F w oe es) : EdgesBelow w.heap.size w oe es := by
  rcases Nat.eq_zero_or_pos es.length with h0 | h0
  · exact .inl (List.eq_nil_of_length_eq_zero h0)
  · obtain ⟨a, b, m, _, _, _, _, _, bl, off, rfl, _, c0, _⟩ := h.edg_at h0
    refine .inr ⟨bl, off, rfl, World.block_lt_of_cell? _ _ c0, fun i x hx => ?_⟩
    obtain ⟨a', b', m', _, hg, _, _, _, bl', off', he, _, e0, e1, e2⟩ := h.edg_at (List.getElem?_eq_some_iff.1 hx).1
    injection he with he
    injection he with q1 q2
    subst q1 q2
    rw [hx] at hg
    injection hg with hg
    subst hg
    exact ⟨e0, e1, e2⟩
theorem EdgesBelow.below {n₀ : Nat} {A B : World} {oe : Option Addr} {es : List Edg} (h : Below n₀ A B) : EdgesBelow n₀ A oe es → EdgesBelow n₀ B oe es
  | .inl e => .inl e
  | .inr ⟨bl, off, e, hb, hc⟩ => .inr ⟨bl, off, e, hb, fun i x hx => ⟨(h.cell (p := ⟨bl, off + i * 3, none⟩) hb).trans (hc i x hx).1, (h.cell (p := ⟨bl, off + i * 3 + 1, none⟩) hb).trans (hc i x hx).2.1, (h.cell (p := ⟨bl, off + i * 3 + 2, none⟩) hb).trans (hc i x hx).2.2⟩⟩
theorem singles_stops (F : Fence) (n : Nat) (h7 : F.fn 133) (hro : F.round = none) (hn : 1 ≤ n) (Bg n₀ : Nat) (c : Nat) (oe : Option Addr) (es : List Edg) (hes : es.length ≤ 1000) (hm : ∀ x ∈ es, x.m ≤ 50) (w : World) (hBg : Bg < w.heap.size) (hn₀ : n₀ ≤ w.heap.size)
    (hc : w.cell? ⟨Bg, 1, none⟩ = some (.slice oe es.length c)) (hI : EdgesBelow n₀ w oe es) :
    SeqStopsK F n Tryz.prog 133 #[.pointer (some ⟨Bg, 0, none⟩)] sEnc (KpE 145 n₀) (fun ys => ys = singL es) (fun pre => pre <+: singL es) (singL es).length w := fun l J Jx W hW hJ _ hY h0 => by
  have hc' := (hW.cell (p := ⟨Bg, 1, none⟩) hBg).trans hc
  rcases hI.below (hW.mono hn₀) with rfl | ⟨bl, off, hoe, hb, hcs⟩
  · exact (singles1_nil_in F n h7 hro l Bg c oe J W hc' h0).mono fun e W' ⟨he, hj⟩ => ⟨he, .inl ⟨_, rfl, hj⟩⟩
  · exact singles1_in F n h7 hro hn l Bg n₀ bl off 0 c oe es hoe hes hm hb J Jx hY W (Nat.le_trans hn₀ hW.size) hJ hc' hcs h0

theorem singles_any (N : Int) (oe : Option Addr) (k c : Nat) (w : World) :
    Calls Tryz.prog 105 #[.agg #[.int .i64 N, .slice oe k c]] w fun e w' => e = .returned (.func (.func 133) #[] #[.pointer (some ⟨w.heap.size, 0, none⟩)]) ∧ w' = w.alloc (.cells #[.int .i64 N, .slice oe k c] 43) := by
  go_enter Tryz.func105, Tryz.ntmps105
  go_wp2_with fail
  go_ret
  exact ⟨rfl, rfl⟩

end Go.Proofs.YtnigfddanoaonaaGreat

set_option linter.unusedVariables false
set_option linter.unusedSimpArgs false
set_option linter.unnecessarySimpa false
namespace Go.Proofs.YtnigfddanoaonaaGreat
open Go.RowKit Go.Shelf

attribute [local go_sem] Oper.semAt_some

theorem prInfo : (Tryz.prog.info? 80).map (fun i => (i.zero, i.size, i.bytes)) = some (some (.agg #[.int .i64 0, .int .i64 0]), 2, 16) := by kernel_rfl

def flatP (l : List (Int × Int)) : List Value := l.flatMap fun p => [.int .i64 p.1, .int .i64 p.2]
theorem flatP_snoc (l : List (Int × Int)) (p : Int × Int) : flatP (l ++ [p]) = flatP l ++ [.int .i64 p.1, .int .i64 p.2] := by simp [flatP]
theorem flatP_chunk : ∀ (l : List (Int × Int)) (i : Nat) (p : Int × Int), l[i]? = some p → chunk 2 i (flatP l) = [.int .i64 p.1, .int .i64 p.2]
  | [], i, p, h => by simp at h
  | x :: r, 0, p, h => by simp at h; subst h; simp [chunk, flatP]
  | x :: r, i + 1, p, h => by
    have := flatP_chunk r i p (by simpa using h)
    unfold chunk at this ⊢
    rw [show (i + 1) * 2 = i * 2 + 1 + 1 from by omega]
    simpa [flatP] using this

def I64P (l : List (Int × Int)) : Prop := ∀ p ∈ l, I64 p.1 ∧ I64 p.2
theorem OwnS.pairs {base : Nat} {e : TypeId} {F : Foot} {w : World} {v : Value} {l : List (Int × Int)} (h : w.ownsRow base e 2 v l.length (flatP l)) (hl : I64P l) : OwnS prR 2 base e F w v l := by
  refine ⟨flatP l, h, ?_, fun i x hx => ⟨flatP_chunk l i x hx, hl x (List.mem_of_getElem? hx)⟩⟩
  intro u hu
  simp only [flatP, List.mem_flatMap] at hu
  obtain ⟨p, _, hp⟩ := hu
  simp at hp
  rcases hp with rfl | rfl <;> rfl

theorem box_own {β : Type} (B : Nat) (t : TypeId) (cs : List Value) : Own (fun (_ : β) W => Box W B cs t) := fun s X Y row hs hg hrow =>
  hs.keep (hg.block B hs.lt fun e' => by
    obtain ⟨o, ho, hc⟩ := hrow B e'.symm
    rw [show X.heap[B]? = _ from hs] at ho
    cases ho
    cases hc)
/-- What an append to a row of type e and a store into a box of type t do to the blocks of a third type. -/
theorem KpE.appended {T t e : TypeId} {W w1 : World} {n₀ B size k : Nat} {v v' u : Value} {xs : List Value} {tmp : Obj} (hTe : T ≠ e) (hTt : T ≠ t) (hrow : W.ownsRow n₀ e size v k xs) (hv : Boxed W B t u)
    (hgrow : (W.alloc tmp).grownBy w1 v.ownBlock) (hb : Below n₀ W (w1.setCell ⟨B, 0, none⟩ v')) : KpE T n₀ W (w1.setCell ⟨B, 0, none⟩ v') := by
  refine ⟨hb, fun j cs hj => ?_⟩
  have hjl := (Array.getElem?_eq_some_iff.1 hj).1
  have h1 : j ≠ B := fun e1 => by
    subst e1
    have := (show W.heap[j]? = _ from hv).symm.trans hj
    simp at this
    exact hTt this.2.symm
  rw [Below.heap_setCell w1 ⟨B, 0, none⟩ v' j h1, hgrow.block j (by simp; omega) ?_, Below.heap_alloc W tmp j hjl]
  · exact hj
  · intro e1
    rcases hrow.2 with ⟨rfl, _⟩ | ⟨g, cap, cur, rfl, _, hgb, _⟩
    · simp [Value.ownBlock] at e1
    · obtain rfl : j = g := by simpa [Value.ownBlock] using e1
      rw [hj] at hgb
      simp at hgb
      exact hTe hgb.2

theorem cells_new (W : World) (l : List Value) (t : TypeId) : ∀ (j : Nat) (u : Value), l[j]? = some u → (W.alloc (.cells l.toArray t)).cell? ((⟨W.heap.size, 0, none⟩ : Addr).add j) = some u := fun j u hu => by
  rw [Addr.add_lit, Nat.zero_add, (Box.new W l t).cell j]
  exact hu

def EndsPost (w : World) (es : List Edg) (e : Ending) (w' : World) : Prop :=
  ∃ v, e = .returned (.tuple #[v, .int .i64 0]) ∧ OwnS prR 2 w.heap.size 80 Non w' v (endsL es) ∧ Below w.heap.size w w'

set_option maxRecDepth 100000 in
set_option maxHeartbeats 4000000 in
theorem gends_in (n0 : Nat) (n : Int) (es : List Edg) (oe : Option Addr) (c : Nat) (F : Foot) (w : World) (hs : SliceR edgR 3 F w oe es) (hc : es.length ≤ c) (hc2 : es.length ≤ 1000) (hn0 : 3 ≤ n0)
    (hV : Hid (gErr n es = 0)) : CallsIn Go.Fence.wide n0 Tryz.prog 71 #[.agg #[.int .i64 n, .slice oe es.length c]] w (EndsPost w es) := by
  have h1 : 1 ≤ n0 := by omega
  obtain ⟨i0, hi, hz0, hz1, hz2⟩ := info_parts prInfo
  have HI := hide (And.intro hi (And.intro hz0 (And.intro hz1 hz2)))
  clear hi hz0 hz1 hz2
  have hcap : (endsL es).length ≤ 50000 := by have := endsL_len fun x hx => ((gErr_zero hV.out).2.1 x hx).2.2.2.1; omega
  have HM : Hid (∀ x ∈ es, x.m ≤ 50) := fun x hx => ((gErr_zero hV.out).2.1 x hx).2.2.2.1
  have cK : ∀ W : World, Below w.heap.size w W → CallsIn Go.Fence.wide (n0 - 1) Tryz.prog 104 #[.agg #[.int .i64 n, .slice oe es.length c]] W (ErrPost W 0) := fun W hW => by
    have := (callsIn_wide (n := n0 - 1)).2 (gcheck_any n es oe c F W (hs.below edgR_ok hW) hc (by omega))
    rw [hV.out] at this
    exact this
  have cS : ∀ W : World, CallsIn Go.Fence.wide (n0 - 1) Tryz.prog 105 #[.agg #[.int .i64 n, .slice oe es.length c]] W fun e w' => e = .returned (.func (.func 133) #[] #[.pointer (some ⟨W.heap.size, 0, none⟩)]) ∧ w' = W.alloc (.cells #[.int .i64 n, .slice oe es.length c] 43) := fun W => callsIn_wide.2 (singles_any n oe es.length c W)
  have hf1 : Go.Fence.wide.fn 104 := trivial
  have hf2 : Go.Fence.wide.fn 105 := trivial
  have HK := hide cK
  have HS := hide cS
  clear cK cS
  refine callsIn_of_wp_marks Tryz.func71 rfl trivial ?_ rfl
  simp only [Tryz.ntmps71, List.size_toArray, List.length_cons, List.length_nil, Nat.reduceAdd, Nat.reduceSub, Array.replicate_succ, Array.replicate_zero, List.push_toArray, List.append_toArray, List.nil_append, List.cons_append]
  gi_wp2_with (first | (gi_at_call 104; refine (HK.out _ (bnew (Below.refl _ _) _)).mono ?_; rintro e w2 ⟨rfl, hb2⟩; have hx2 := hb2.mono (B' := w.heap.size + 1) (by simp); have d0 := box_cell hx2 0; have d1 := box_cell hx2 1; simp at d0 d1; have hsz2 := box_lt hx2; clear hb2) | (gi_at_call 105; refine (HS.out _).mono ?_; rintro e w3 ⟨rfl, rfl⟩))
  have HB2 := hide (below_box hx2)
  have hle2 : w.heap.size ≤ w2.heap.size := by omega
  obtain ⟨W0, hW0⟩ : ∃ W0, (w2.alloc (.cells #[.slice none 0 0] 76)).alloc (.cells #[.int .i64 n, .slice oe es.length c] 43) = W0 := ⟨_, rfl⟩
  have hsz0 : W0.heap.size = w2.heap.size + 2 := by rw [← hW0]; simp
  have bO : Boxed W0 w2.heap.size 76 (.slice none 0 0) := by rw [← hW0]; exact (Boxed.new w2 _ _).alloc _
  have hB0 : Below w.heap.size w W0 := by rw [← hW0]; exact (HB2.out.alloc hle2 _).alloc (by simp; omega) _
  have bg : W0.cell? ⟨w2.heap.size + 1, 1, none⟩ = some (.slice oe es.length c) := by
    have := (Box.new (w2.alloc (.cells #[.slice none 0 0] 76)) [.int .i64 n, .slice oe es.length c] 43).cell 1
    rw [World.size_alloc] at this
    rw [← hW0]
    simpa using this
  have hEB : EdgesBelow w.heap.size W0 oe es := (EdgesBelow.of hs).below hB0
  rw [hW0]
  clear hx2 d0 d1 hsz2 hW0
  refine wpIn_rangeFunc_ownH rfl h1 (gf := 133) (lb := #[.pointer (some ⟨w2.heap.size + 1, 0, none⟩)]) rfl trivial (enters_of Tryz.func133 (by kernel_rfl) rfl)
    (singles_stops Go.Fence.wide (n0 - 1) trivial rfl (by omega) (w2.heap.size + 1) w.heap.size c oe es hc2 HM.out W0 (by omega) (by omega) bg hEB) KpE.t (KpE.b (by omega)) (Below.refl _ _) (fun _ => rfl)
    (fun pre W => (∃ v, Boxed W w2.heap.size 76 v ∧ W.ownsRow w.heap.size 80 2 v pre.length (flatP (pre.map fun p => p.2)) ∧ True) ∧ Below w.heap.size w W)
    (fun _ _ _ => False)
    (OwnFrom.and (Own.from (holdsRow_own w.heap.size w2.heap.size 76 80 2 (fun pre : List (Nat × Int × Int) => pre.length) (fun pre => flatP (pre.map fun p => p.2)) (fun pre v => True)) _) (ownFrom_below (Nat.le_refl _) (by omega)))
    (fun _ _ _ _ _ hs _ _ => hs)
    ⟨⟨_, bO, World.ownsRow_nil _ _ _ _, trivial⟩, hB0⟩
    (fun x a' W => ∃ Bx, Box W Bx [.int .i64 x.2.1, .int .i64 x.2.2] 168 ∧ a' = { tmps := #[.agg #[.int .i64 n, .slice oe es.length c], .pointer (some ⟨w.heap.size, 0, none⟩), .slice none 0 0, .int .i64 0, .int .i64 0, .pointer (some ⟨w2.heap.size, 0, none⟩), undef, .pointer (some ⟨Bx, 0, none⟩), .agg #[.int .i64 n, .slice oe es.length c], .int .i64 0, .int .i64 0, .bool false, undef, .agg #[.int .i64 n, .slice oe es.length c], .func (.func 133) #[] #[.pointer (some ⟨w2.heap.size + 1, 0, none⟩)], .int .i64 x.1, .agg #[.int .i64 x.2.1, .int .i64 x.2.2], undef, undef, undef, undef, undef, undef, undef, undef, undef], defers := [] })
    (fun x a' _ X Y row hs hg hr => by obtain ⟨Bx, h1, h2⟩ := hs; exact ⟨Bx, box_own (β := Unit) Bx _ _ () X Y row h1 hg (fun r e => (hr r e).2), h2⟩)
    ?assign ?body ?done ?stop
  case assign =>
    rintro l pre x W K ⟨⟨v, hv, hrow, _⟩, hB⟩ hK
    simp only [sEnc]
    gi_wp2
    exact hK _ _ ((KeepsOthers.alloc _ _).from _) ((KpE.refl _ _ W).new hB.size _) ⟨⟨v, hv.alloc _, hrow.alloc _, trivial⟩, hB.alloc hB.size _⟩ ⟨W.heap.size, Box.new W [.int .i64 x.2.1, .int .i64 x.2.2] _, rfl⟩
  case body =>
    rintro l pre x a' W hl _ ⟨⟨v, hv, hrow, _⟩, hB⟩ ⟨Bx, bX, rfl⟩ hlt
    have hpl : pre.length < 50000 := by rw [singL_len] at hlt; omega
    have hc := hv.cell
    have x0 := bX.cell 0
    have x1 := bX.cell 1
    simp at x0 x1
    gi_wp2_with (gi_at_builtin; (refine wpListIn_append_own _ rfl _ _ 76 rfl w.heap.size 80 i0 (.agg #[.int .i64 0, .int .i64 0]) 2 16 Tryz.underlying76 HI.out.1 HI.out.2.1 HI.out.2.2.1 HI.out.2.2.2 rfl (by decide) _ _ _ rfl (hrow.alloc _) ⟨W.heap.size, 0, none⟩ 1 1 [.int .i64 x.2.1, .int .i64 x.2.2] rfl rfl (cells_new _ _ _) (by simp [Value.oneCell']) (by unfold maxLen; omega) (by omega) (by have := hB.size; simp; omega) ?_); intro v' w1 hown' hgrow _; obtain ⟨g', cap', rfl⟩ := ownsRow_succ hown'; obtain ⟨hv1, hv2, hr2, hk2, hb2⟩ := hv.appended (by decide) hrow hB.size hle2 hown' hgrow; have hc1 := hv1.cell; have hf1 := hv1.frozen)
    exact ⟨hk2.from _, KpE.appended (by decide) (by decide) hrow hv hgrow hb2, ⟨_, hv2, by simpa [List.map_append, flatP_snoc] using hr2, trivial⟩, hB.trans hb2⟩
  case done =>
    rintro D ys W hD rfl ⟨⟨v, hv, hrow, _⟩, hB⟩ hK
    have hc := hv.cell
    gi_wp2
    refine ⟨by simp, .inl ⟨_, _, rfl, run_takeDeferred hK, ?_⟩⟩
    rw [singL_snd, singL_len] at hrow
    refine ⟨_, results_tmp2 rfl _ _ _, v, rfl, OwnS.pairs (ownsRow_putObj hrow _ hK rfl) ?_, hB.trans (belowK_b (w := w) (Nat.le_refl _) W D _ _ (by omega) hK rfl rfl)⟩
    intro p hp
    obtain ⟨x, hx, rfl⟩ := endsL_mem hp
    have h2 := (gErr_zero hV.out).2.1 x hx
    have h3 := (gErr_zero hV.out).1
    unfold I64
    omega
  case stop =>
    rintro D c pre W _ _ h _
    exact h.elim

def endsRes (n : Int) (es : List Edg) : List (Int × Int) × Int := if gErr n es = 0 then (endsL es, 0) else ([], gErr n es)
def PairsPost (w : World) (r : List (Int × Int) × Int) (e : Ending) (w' : World) : Prop :=
  ∃ v, e = .returned (.tuple #[v, .int .i64 r.2]) ∧ OwnS prR 2 w.heap.size 80 Non w' v r.1 ∧ Below w.heap.size w w'

set_option maxRecDepth 100000 in
set_option maxHeartbeats 1000000 in
theorem gends_no (n : Int) (es : List Edg) (oe : Option Addr) (c : Nat) (F : Foot) (w : World) (hs : SliceR edgR 3 F w oe es) (hc : es.length ≤ c) (hc2 : es.length ≤ 9223372036854775807)
    (hV : Hid (gErr n es ≠ 0)) : Calls Tryz.prog 71 #[.agg #[.int .i64 n, .slice oe es.length c]] w (PairsPost w ([], gErr n es)) := by
  go_enter Tryz.func71, Tryz.ntmps71
  go_wp2_with fail
  refine (gcheck_any n es oe c F _ (hs.below edgR_ok (bnew (Below.refl _ _) _)) hc hc2).mono ?_
  rintro e w2 ⟨rfl, hb2⟩
  have hz := not_errI hV.out
  go_wp2_with fail
  go_ret2
  exact ⟨_, rfl, OwnS.nil _ _ _ _ _ _, (bnew (Below.refl _ _) _).trans (hb2.mono (by simp))⟩

theorem gends_any (n : Int) (es : List Edg) (oe : Option Addr) (c : Nat) (F : Foot) (w : World) (hs : SliceR edgR 3 F w oe es) (hc : es.length ≤ c) (hc2 : es.length ≤ 1000) :
    Calls Tryz.prog 71 #[.agg #[.int .i64 n, .slice oe es.length c]] w (PairsPost w (endsRes n es)) := by
  by_cases hV : gErr n es = 0
  · refine ((callsIn_wide (n := 3)).1 (gends_in 3 n es oe c F w hs hc hc2 (by omega) hV)).mono ?_
    rintro e w' ⟨v, rfl, ho, hb⟩
    exact ⟨v, by rw [endsRes, if_pos hV], by rw [endsRes, if_pos hV]; exact ho, hb⟩
  · rw [endsRes, if_neg hV]
    exact gends_no n es oe c F w hs hc (by omega) hV

end Go.Proofs.YtnigfddanoaonaaGreat

set_option linter.unusedVariables false
set_option linter.unusedSimpArgs false
set_option linter.unnecessarySimpa false
namespace Go.Proofs.YtnigfddanoaonaaGreat
open Go.RowKit

theorem cnt_uf {E : List (Nat × Nat)} {f g : List Nat} (hf : Uf f E) (hg : Uf g E) {n : Nat} (hn : n ≤ 12) : cnt f n = cnt g n := by
  unfold cnt
  congr 1
  refine List.filter_congr fun v hv => ?_
  have hv2 : v < 12 := by have := List.mem_range.1 hv; omega
  have h1 := (hf.least hv2).trans (hg.least hv2).symm
  show (rootF f v == v) = (rootF g v == v)
  by_cases h : rootF f v = v
  · rw [h, h1.1 h]
  · rw [beq_eq_false_iff_ne.2 h, beq_eq_false_iff_ne.2 (fun e => h (h1.2 e))]

/-- How many parts a right graph has; 0 of a wrong one. -/
def partsN (n : Int) (es : List Edg) (f : List Nat) : Nat := if gErr n es = 0 then cnt f n.toNat else 0
def CompPost (w : World) (n : Int) (es : List Edg) (f : List Nat) (e : Ending) (w' : World) : Prop :=
  (∃ oa c, e = .returned (.tuple #[.slice oa (partsN n es f) c, .int .i64 (gErr n es)])) ∧ Below w.heap.size w w'

set_option maxRecDepth 100000 in
set_option maxHeartbeats 2000000 in
theorem comps_any (n : Int) (es : List Edg) (oe : Option Addr) (c : Nat) (F : Foot) (w : World) (hs : SliceR edgR 3 F w oe es) (hc : es.length ≤ c) (hc2 : es.length ≤ 9223372036854775807)
    (f : List Nat) (hU : Hid (gErr n es = 0 → Uf f (eL es))) : Calls Tryz.prog 147 #[.agg #[.int .i64 n, .slice oe es.length c]] w (CompPost w n es f) := by
  go_enter Tryz.func147, Tryz.ntmps147
  go_wp2_with fail
  have hb0 := box_refl w (.cells #[.int .i64 n, .slice oe es.length c] 43)
  refine (gcheck_any n es oe c F _ (hs.below edgR_ok (below_box hb0)) hc hc2).mono ?_
  rintro e w2 ⟨rfl, hb2⟩
  have hx2 := hb2.mono (B' := w.heap.size + 1) (by simp)
  have d0 := box_cell hx2 0
  have d1 := box_cell hx2 1
  simp at d0 d1
  clear hb2 hb0
  have hs2 := hs.below edgR_ok (below_box hx2)
  by_cases hV : gErr n es = 0
  · have HV := hide hV
    have HP : Hid (partsN n es f = cnt f n.toNat) := if_pos hV
    have hn := (gErr_zero hV).1
    rw [hV]
    obtain ⟨N, rfl⟩ := Int.eq_ofNat_of_zero_le (show 0 ≤ n by omega)
    go_wp2_with fail
    refine (joinedG_any N es oe c F _ hs2 hc hc2 HV).mono ?_
    rintro e w3 ⟨g, rfl, hg, hb3⟩
    have hx3 := hx2.trans (hb3.mono (box_lt hx2))
    have d0 := box_cell hx3 0
    simp at d0
    have HG := hide hg
    have hlt3 := box_lt hx3
    clear hb3 d1 hx2 hs2
    obtain ⟨a0, a1, a2, a3, a4, a5, a6, a7, a8, a9, a10, a11, hg12⟩ := twelve hg.fst.len
    have hca : castV g = [.int .i64 (a0 : Nat), .int .i64 (a1 : Nat), .int .i64 (a2 : Nat), .int .i64 (a3 : Nat), .int .i64 (a4 : Nat), .int .i64 (a5 : Nat), .int .i64 (a6 : Nat), .int .i64 (a7 : Nat), .int .i64 (a8 : Nat), .int .i64 (a9 : Nat), .int .i64 (a10 : Nat), .int .i64 (a11 : Nat)] := by rw [hg12]; rfl
    have d0n := cell_next d0 (.cells #[.int .i64 (a0 : Nat), .int .i64 (a1 : Nat), .int .i64 (a2 : Nat), .int .i64 (a3 : Nat), .int .i64 (a4 : Nat), .int .i64 (a5 : Nat), .int .i64 (a6 : Nat), .int .i64 (a7 : Nat), .int .i64 (a8 : Nat), .int .i64 (a9 : Nat), .int .i64 (a10 : Nat), .int .i64 (a11 : Nat)] 219)
    have hbx : Box (w3.alloc (.cells #[.int .i64 (a0 : Nat), .int .i64 (a1 : Nat), .int .i64 (a2 : Nat), .int .i64 (a3 : Nat), .int .i64 (a4 : Nat), .int .i64 (a5 : Nat), .int .i64 (a6 : Nat), .int .i64 (a7 : Nat), .int .i64 (a8 : Nat), .int .i64 (a9 : Nat), .int .i64 (a10 : Nat), .int .i64 (a11 : Nat)] 219)) w3.heap.size (castV g) 219 := by rw [hca]; exact Box.new w3 _ _
    rw [hca]
    have HB3 := hide (box_new hx3 (by simp) (.cells #[.int .i64 (a0 : Nat), .int .i64 (a1 : Nat), .int .i64 (a2 : Nat), .int .i64 (a3 : Nat), .int .i64 (a4 : Nat), .int .i64 (a5 : Nat), .int .i64 (a6 : Nat), .int .i64 (a7 : Nat), .int .i64 (a8 : Nat), .int .i64 (a9 : Nat), .int .i64 (a10 : Nat), .int .i64 (a11 : Nat)] 219))
    clear hca hg12 hg hV hx3
    go_wp2_with fail
    refine (parts_any g w3.heap.size N _ hbx (hide HG.out.fst) (by omega)).mono ?_
    rintro e w4 ⟨oa, c4, rfl, hb4⟩
    have HF : Hid (cnt g N = partsN (N : Int) es f) := by
      show _ = _
      rw [HP.out]
      exact cnt_uf HG.out (hU.out HV.out) (by omega)
    have HB4 := hide (below_then (below_box HB3.out) (hb4.mono (by simp)))
    clear hb4 hbx
    go_wp2_with fail
    go_ret2
    refine ⟨⟨oa, c4, ?_⟩, ?_⟩
    · rw [← HF.out, HV.out]; rfl
    · exact HB4.out
  · have HP : Hid (partsN n es f = 0) := if_neg hV
    have hx := hide (below_box hx2)
    have hq : (gErr n es != 0) = true := by simpa using hV
    go_wp2_with fail
    go_ret2
    exact ⟨⟨none, 0, by rw [HP.out]; rfl⟩, hx.out⟩

def ConnPost (w : World) (n : Int) (es : List Edg) (f : List Nat) (e : Ending) (w' : World) : Prop :=
  e = .returned (.tuple #[.bool (partsN n es f == 1), .int .i64 (gErr n es)]) ∧ Below w.heap.size w w'

set_option maxRecDepth 100000 in
set_option maxHeartbeats 1000000 in
theorem conn_any (n : Int) (es : List Edg) (oe : Option Addr) (c : Nat) (F : Foot) (w : World) (hs : SliceR edgR 3 F w oe es) (hc : es.length ≤ c) (hc2 : es.length ≤ 9223372036854775807)
    (f : List Nat) (hU : Hid (gErr n es = 0 → Uf f (eL es))) : Calls Tryz.prog 124 #[.agg #[.int .i64 n, .slice oe es.length c]] w (ConnPost w n es f) := by
  go_enter Tryz.func124, Tryz.ntmps124
  go_wp2_with fail
  have hb0 := box_refl w (.cells #[.int .i64 n, .slice oe es.length c] 43)
  refine (comps_any n es oe c F _ (hs.below edgR_ok (below_box hb0)) hc hc2 f hU).mono ?_
  rintro e w2 ⟨⟨oa, c2, rfl⟩, hb2⟩
  have hx := hide (below_box (hb2.mono (B' := w.heap.size + 1) (by simp)))
  clear hb2
  have HQ : Hid ((partsN n es f == 1) = decide (((partsN n es f : Nat) : Int) = 1)) := by
    show _ = _
    rw [Bool.eq_iff_iff]
    simp
    omega
  go_wp2_with fail
  go_ret2
  exact ⟨by rw [HQ.out]; rfl, hx.out⟩

/-- The error of a graph that has to be connected. -/
def jErr (n : Int) (es : List Edg) (f : List Nat) : Int := if gErr n es = 0 then (if partsN n es f = 1 then 0 else 13) else gErr n es
def jEnds (n : Int) (es : List Edg) : List (Int × Int) := if gErr n es = 0 then endsL es else []
def JoinedPost (w : World) (n : Int) (es : List Edg) (f : List Nat) (e : Ending) (w' : World) : Prop :=
  ∃ v, e = .returned (.tuple #[v, .int .i64 (jErr n es f)]) ∧ OwnS prR 2 w.heap.size 80 Non w' v (jEnds n es) ∧ Below w.heap.size w w'

set_option maxRecDepth 100000 in
set_option maxHeartbeats 1000000 in
theorem joined_any (n : Int) (es : List Edg) (oe : Option Addr) (c : Nat) (F : Foot) (w : World) (hs : SliceR edgR 3 F w oe es) (hc : es.length ≤ c) (hc2 : es.length ≤ 1000)
    (f : List Nat) (hU : Hid (gErr n es = 0 → Uf f (eL es))) : Calls Tryz.prog 150 #[.agg #[.int .i64 n, .slice oe es.length c]] w (JoinedPost w n es f) := by
  go_enter Tryz.func150, Tryz.ntmps150
  go_wp2_with fail
  have hb0 := box_refl w (.cells #[.int .i64 n, .slice oe es.length c] 43)
  refine (gends_any n es oe c F _ (hs.below edgR_ok (below_box hb0)) hc hc2).mono ?_
  rintro e w2 ⟨v, rfl, ho, hb2⟩
  have hx2 := hb2.mono (B' := w.heap.size + 1) (by simp)
  have d0 := box_cell hx2 0
  have d1 := box_cell hx2 1
  simp at d0 d1
  clear hb2 hb0
  have hs2 := hs.below edgR_ok (below_box hx2)
  by_cases hV : gErr n es = 0
  · have HR : Hid (endsRes n es = (endsL es, 0)) := if_pos hV
    have HJ : Hid (jErr n es f = if partsN n es f = 1 then 0 else 13) := if_pos hV
    have HE : Hid (jEnds n es = endsL es) := if_pos hV
    rw [HR.out] at ho
    rw [HR.out]
    have HO := hide ho
    go_wp2_with fail
    refine (conn_any n es oe c F _ hs2 hc (by omega) f hU).mono ?_
    rintro e w3 ⟨rfl, hb3⟩
    have HO3 := hide (HO.out.below prR_ok hb3)
    have HX := hide (below_box (hx2.trans (hb3.mono (box_lt hx2))))
    clear hb3 ho hs2 d0 d1 hx2
    rw [hV]
    clear hV
    by_cases hp : partsN n es f = 1
    · have HJ2 : Hid (jErr n es f = 0) := by show _ = _; rw [HJ.out, if_pos hp]
      have hq : (partsN n es f == 1) = true := by simpa using hp
      clear hp
      go_wp2_with fail
      go_ret2
      exact ⟨v, by rw [HJ2.out]; rfl, by rw [HE.out]; exact HO3.out.rebase (by simp), HX.out⟩
    · have HJ2 : Hid (jErr n es f = 13) := by show _ = _; rw [HJ.out, if_neg hp]
      have hq : (partsN n es f == 1) = false := by simpa using hp
      clear hp
      go_wp2_with fail
      go_ret2
      exact ⟨v, by rw [HJ2.out]; rfl, by rw [HE.out]; exact HO3.out.rebase (by simp), HX.out⟩
  · have HR : Hid (endsRes n es = ([], gErr n es)) := if_neg hV
    have HJ : Hid (jErr n es f = gErr n es) := if_neg hV
    have HE : Hid (jEnds n es = []) := if_neg hV
    have hx := hide (below_box hx2)
    have hq : (gErr n es != 0) = true := by simpa using hV
    rw [HR.out]
    clear ho
    go_wp2_with fail
    go_ret2
    exact ⟨_, by rw [HJ.out]; rfl, by rw [HE.out]; exact OwnS.nil prR 2 _ _ _ _, hx.out⟩

end Go.Proofs.YtnigfddanoaonaaGreat

set_option linter.unusedVariables false
set_option linter.unusedSimpArgs false
set_option linter.unnecessarySimpa false
namespace Go.Proofs.YtnigfddanoaonaaGreat
open Go.RowKit

/-- The vertex of a half-edge. -/
def hv (l : List (Int × Int)) (h : Nat) : Int := if h % 2 = 0 then (l.getD (h / 2) (0, 0)).1 else (l.getD (h / 2) (0, 0)).2

theorem at_any (l : List (Int × Int)) (oa : Option Addr) (c : Nat) (F : Foot) (w : World) (hs : SliceR prR 2 F w oa l) (hc : l.length ≤ c) (h : Nat) (hh : h < 2 * l.length) (hl : l.length ≤ 1000000000) :
    Calls Tryz.prog 166 #[.slice oa l.length c, .int .i64 h] w fun e w' => e = .returned (.int .i64 (hv l h)) ∧ w = w' := by
  obtain ⟨q, hq⟩ : ∃ q, q = h / 2 := ⟨_, rfl⟩
  have hq1 : ((h : Int)).tdiv 2 = (q : Int) := by rw [Int.tdiv_eq_ediv_of_nonneg (by omega)]; omega
  have hql : q < l.length := by omega
  have hwq : wrap64 (q : Int) = (q : Int) := by unfold wrap64; omega
  obtain ⟨a, b, hd, hget, _, _, bl, off, hoa, _, c0, c1⟩ := hs.pr_at (i := q) (by omega)
  subst hoa
  have hgd : l.getD q (0, 0) = (a, b) := by rw [List.getD_eq_getElem?_getD, hget]; rfl
  by_cases hr : h % 2 = 0
  · have HR : Hid (hv l h = a) := by show _ = _; rw [hv, if_pos hr, ← hq, hgd]
    have hr1 : ((h : Int)).tmod 2 = 0 := by rw [Int.tmod_eq_emod_of_nonneg (by omega)]; omega
    clear hd hget hgd hq hr
    go_enter Tryz.func166, Tryz.ntmps166
    go_wp2_with fail
    go_ret
    exact ⟨ret_int HR.out.symm, rfl⟩
  · have HR : Hid (hv l h = b) := by show _ = _; rw [hv, if_neg hr, ← hq, hgd]
    have hr1 : ((h : Int)).tmod 2 = 1 := by rw [Int.tmod_eq_emod_of_nonneg (by omega)]; omega
    clear hd hget hgd hq hr
    go_enter Tryz.func166, Tryz.ntmps166
    go_wp2_with fail
    go_ret
    exact ⟨ret_int HR.out.symm, rfl⟩

/-- The half-edges below H at a vertex. -/
def halfU (l : List (Int × Int)) (H : Nat) (v : Nat) : List Int := ((List.range H).filter fun h : Nat => hv l h == (v : Int)).map fun h : Nat => (h : Int)
theorem halfU_yes {l : List (Int × Int)} {H v : Nat} (h : hv l H = (v : Int)) : halfU l (H + 1) v = halfU l H v ++ [(H : Int)] := by
  simp [halfU, List.range_succ, List.filter_append, h]
theorem halfU_no {l : List (Int × Int)} {H v : Nat} (h : ¬ hv l H = (v : Int)) : halfU l (H + 1) v = halfU l H v := by
  simp [halfU, List.range_succ, List.filter_append, h]
theorem halfU_len (l : List (Int × Int)) (H v : Nat) : (halfU l H v).length ≤ H := by
  have := List.length_filter_le (fun h : Nat => hv l h == (v : Int)) (List.range H)
  simp [halfU]
  simpa using this
def halvesU (n : Nat) (l : List (Int × Int)) (H : Nat) : List (List Int) := (List.range n).map (halfU l H)
theorem halvesU_get {n : Nat} {l : List (Int × Int)} {H v : Nat} (hv : v < n) : (halvesU n l H)[v]? = some (halfU l H v) := by
  simp [halvesU, hv]
theorem halvesU_step {n : Nat} {l : List (Int × Int)} {H V : Nat} (h : hv l H = (V : Int)) (hV : V < n) : halvesU n l (H + 1) = (halvesU n l H).set V (halfU l H V ++ [(H : Int)]) := by
  apply List.ext_getElem?
  intro i
  rcases Nat.lt_or_ge i n with hi | hi
  · rw [halvesU_get hi]
    by_cases e : V = i
    · subst e
      rw [List.getElem?_set_self (by simp [halvesU, hi]), halfU_yes h]
    · rw [List.getElem?_set_ne e, halvesU_get hi, halfU_no (by rw [h]; omega)]
  · rw [List.getElem?_eq_none (by simp [halvesU, hi]), List.getElem?_eq_none (by simp [halvesU, hi])]
theorem halvesU_zero (n : Nat) (l : List (Int × Int)) : halvesU n l 0 = List.replicate n [] := by
  apply List.ext_getElem?
  intro i
  rcases Nat.lt_or_ge i n with hi | hi
  · rw [halvesU_get hi]; simp [hi, halfU]
  · rw [List.getElem?_eq_none (by simp [halvesU, hi]), List.getElem?_eq_none (by simp [hi])]

theorem Lists.made {e lt : TypeId} {w : World} {g n : Nat} (h : w.ownsRow g lt 1 (.slice (some ⟨g, 0, none⟩) n n) n (List.replicate n (.slice none 0 0))) :
    Lists g e lt w (.slice (some ⟨g, 0, none⟩) n n) (List.replicate n (.slice none 0 0)) (List.replicate n []) := by
  refine ⟨by simpa using h, OwnM.nils n, fun i v k hi hk => ?_⟩
  rw [List.getElem?_replicate] at hi
  split at hi
  · injection hi with hi
    subst hi
    simp [Value.ownBlock] at hk
  · cases hi

def HalvesPost (w : World) (n : Nat) (l : List (Int × Int)) (e : Ending) (w' : World) : Prop :=
  ∃ g vs, e = .returned (.slice (some ⟨g, 0, none⟩) n n) ∧ vs.length = n ∧ Lists w.heap.size 3 23 w' (.slice (some ⟨g, 0, none⟩) n n) vs (halvesU n l (2 * l.length)) ∧ Below w.heap.size w w'

set_option maxRecDepth 100000 in
set_option maxHeartbeats 2000000 in
theorem halves_any (n : Nat) (l : List (Int × Int)) (oa : Option Addr) (c : Nat) (F : Foot) (w : World) (hs : SliceR prR 2 F w oa l) (hc : l.length ≤ c) (hl : l.length ≤ 100000) (hn : n ≤ 12)
    (hr : Hid (∀ h, h < 2 * l.length → 0 ≤ hv l h ∧ hv l h < n)) : Calls Tryz.prog 151 #[.int .i64 n, .slice oa l.length c] w (HalvesPost w n l) := by
  obtain ⟨i0, hi0, hz0, hz1, hz2⟩ := info_parts listInfo
  go_enter Tryz.func151, Tryz.ntmps151
  go_wp2_with (at_make; refine wpList_make_full _ rfl _ _ 24 rfl w.heap.size 23 i0 _ 1 Tryz.underlying24 hi0 hz0 hz1 .i64 .i64 _ _ n rfl rfl rfl rfl (by rw [hz2]; omega) (by unfold maxLen; omega) (Nat.le_refl _) (fun w1 hrow hg1 => ?_))
  have hb1 : Below w.heap.size w w1 := (Below.refl _ _).grown hg1 (Nat.le_refl _) fun k hk => by cases hk
  have HL1 : Lists w.heap.size 3 23 w1 (.slice (some ⟨w.heap.size, 0, none⟩) n n) (List.replicate n (.slice none 0 0)) (List.replicate n []) := Lists.made (by
    have e : (madeCells (Value.slice none 0 0).cells (n * 1)).toList = List.replicate n (.slice none 0 0) := by
      rw [Nat.mul_one]
      exact toList_madeCells_one _ n
    rw [← e]; exact hrow)
  clear hrow hg1
  go_loopw [12] (fun iv wr => ∃ (k : Nat) (vs : List Value), k ≤ 2 * l.length ∧ iv = .int .i64 k ∧ vs.length = n ∧ Lists w.heap.size 3 23 wr (.slice (some ⟨w.heap.size, 0, none⟩) n n) vs (halvesU n l k) ∧ Below w.heap.size w wr) (fun iv _ => 2 * l.length - (intOf iv).toNat)
  case atStart => exact ⟨0, List.replicate n (.slice none 0 0), by omega, rfl, List.length_replicate, by rw [halvesU_zero]; exact HL1, hb1⟩
  case round =>
    clear HL1 hb1
    obtain ⟨k, vs, hk, rfl, hvl, HL, hbW⟩ := hrel
    by_cases hlt : k < 2 * l.length
    · have HL : Lists w.heap.size 3 23 wr (.slice (some ⟨w.heap.size, 0, none⟩) vs.length n) vs (halvesU n l k) := by rw [hvl]; exact HL
      obtain ⟨h0, h1⟩ := hr.out k hlt
      have hs2 := hs.below prR_ok hbW
      obtain ⟨V, hV⟩ := Int.eq_ofNat_of_zero_le h0
      have hVn : V < n := by omega
      have HV : Hid (hv l k = (V : Int)) := hV
      obtain ⟨v, hv'⟩ : ∃ v, vs[V]? = some v := ⟨vs[V], List.getElem?_eq_getElem (by omega)⟩
      have hx := halvesU_get (l := l) (H := k) hVn
      have hcell := HL.row.cellAt V (by omega)
      rw [hv'] at hcell
      have hfree := HL.row.frozenAt V
      have hgl := (HL.row.lt w.heap.size rfl).2
      have hxl := halfU_len l k V
      have hown := HL.ms.own V v _ hv' hx
      have HG := hide (fun w' v' h1 h2 h3 => HL.grow (w' := w') (v' := v') (x := (k : Int)) (o := .cells #[.int .i64 (k : Nat)] 3) hv' hx h1 h2 h3)
      have hoffv : v.ownBlock ≠ some w.heap.size := fun he => HL.off V v w.heap.size hv' he rfl
      have HBW := hide hbW
      have hszW := hbW.size
      have HS := hide (halvesU_step (n := n) HV.out hVn)
      have hone := one_cell (w := wr) (t := 3) (v := .int .i64 (k : Nat)) (j := 0) rfl
      have c2 : (wr.alloc (.cells #[.int .i64 (k : Nat)] 3)).cell? ⟨w.heap.size, V, none⟩ = some v := cell_next hcell _
      generalize halfU l k V = xs at hxl hown HG HS
      clear hv' hx HL hbW h0 h1
      go_wp2_with (first
        | (go_at_call 166; refine (at_any l oa c F _ hs2 hc k hlt (by omega)).mono ?_; rintro e w' ⟨rfl, rfl⟩; rw [hV])
        | (at_builtin; refine wpList_append_n rfl (.tmp 24) (.tmp 26) 23 rfl w.heap.size 3 _ Tryz.underlying23 intInfo8 rfl v xs rfl (hown.new _) ⟨wr.heap.size, 0, none⟩ 1 (k : Int) rfl hone (by constructor <;> omega) (by omega) (by simp; omega) ?_; intro v' w3 ho3 hb3 hg3 hv3; obtain ⟨oa3, c3, rfl, _, _⟩ := ho3.slice; have hf3 : w3.frozen? ⟨w.heap.size, V, none⟩ = false := (hg3.frozen_far ⟨w.heap.size, V, none⟩ (by simp; omega) (fun he => hoffv he.symm)).trans (((World.grownBy_alloc wr _ none).frozen_far ⟨w.heap.size, V, none⟩ hgl (by simp)).trans hfree); have hc3 : w3.cell? ⟨w.heap.size, V, none⟩ = some v := (hg3.cell_far ⟨w.heap.size, V, none⟩ (by simp; omega) (fun he => hoffv he.symm)).trans (((World.grownBy_alloc wr _ none).cell_far ⟨w.heap.size, V, none⟩ hgl (by simp)).trans hcell))
        | fail)
      have hL := HG.out _ _ ho3 hg3 hv3
      rw [List.length_set] at hL
      have hBf := ((HBW.out.alloc hszW (.cells #[.int .i64 (k : Nat)] 3)).trans hb3).setCell (p := ⟨w.heap.size, V, none⟩) (by simp) (.slice oa3 (xs ++ [(k : Int)]).length c3)
      simp only [List.length_append, List.length_cons, List.length_nil, Nat.zero_add] at hL hBf
      go_roundw
      case rel => exact ⟨k + 1, vs.set V (.slice oa3 (xs.length + 1) c3), by omega, by go_num, by rw [List.length_set]; exact hvl, by rw [HS.out]; rw [hvl] at hL; exact hL, hBf⟩
      case measure => simp [intOf]; omega
    · have : k = 2 * l.length := by omega
      subst this
      go_wp2_with fail
      go_ret
      exact ⟨w.heap.size, vs, rfl, hvl, HL, hbW⟩

end Go.Proofs.YtnigfddanoaonaaGreat

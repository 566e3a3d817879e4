/-
  Many: the program.
  An abelian processor reads a word in whatever order with the same end and the same outputs up to order.
  Networks of abelian processors, in plain Lean: histories (what each processor has read), what was sent by them, and the least action.
  Results of which the first is a row of cells.
  graph.at, graph.joined, slices.BinarySearchFunc at the edges of a graph, graph.Between.
  slices.Repeat of a list of one output; copy between places of a row of elements of several cells.
  network.sink, waiting, toppler: the processors of a sandpile.
  The reference's sandpile as a network: sink, chips.
  The ends of the single edges: the program and the reference.
  slices.Contains at lists of integers.
  The reference's counts on graphs: Between, Valence, Degree, Size, Half, At, Holds.
  Which states are reachable: plain Lean. Within k steps; after S steps nothing new.
  The search for reachable states, and the fixed point: plain Lean.
  Joined vertices: the forest of the program, and what is reached: plain Lean.
  The forest of a graph: root, join, grown, joined.
  The parts of a forest: how many there are.
  The half-edges at each vertex.
  The reference's Size, Half, At, Valence, Degree.
  ref55.toppler (printed by mkRefTop.py).
  The forest of a graph: joined.
  Components, Connected, and joined of ribbon.
  slices.BinarySearch at ascending lists of integers.
  The error of the list of a vertex.
  ribbon.checked and ribbon.Check.
  The reference's error of the list of a vertex: around.
  The degree is the number of half-edges: plain Lean.
  The reference's Reached: the vertices that are connected with one.
  The reference's Parts, Connected, Joined.
  The reference's Connected and Joined.
  The reference's Check of ribbon graphs, and ribbon.Check.
  Rotor configurations: Check of the program and of the reference.
  slices.Clone of ints.
  A board: the rotors with the vertices to which the half-edges lead; a step.
  boardOf and at: a right rotor configuration's board.
  boardOf and at, where there is no board; at, where there is one.
  chips.Check, rotor.given.
  stabilize.rooted, stabilize.Check.
  Chip-firing with a sink, in plain Lean: legal firings, least action, the valence as a sum.
  Two lists of ints, two tables: SameInts of chapter 08, SameTables of chapter 55.
  A pile that is stabilized, in memory.
  Reduced divisors: the links of a vertex, an iterator.
  A range over a function whose iterator and whose body both write cells: the law.
  Right rotors: what a step does to them (plain law), and the program's Step.
  The iterator way: with a step that turns, and with one that only looks (printed by wip/mkWay.py).
-/
import Derived.Test.YtpgopmmobbemcaaGreatDr1
import Derived.Laws.ResultCell
import Derived.BigQuiet
import Derived.StillTailTactics
import Derived.Test.YtpgopmmobbemcaaGreatProg
import Derived.Deep.RegionHeld3
import Derived.Deep.AppendLies
import Derived.Outline
import Derived.RangeFuncBox
import Derived.Deep.QuietTactic
import Derived.RangeFuncNested
import Derived.RangeFuncLeaves
import Derived.Shelf.Abstract
import Derived.OwnWalkIn
import Derived.TacticsInMore
import Derived.LoopNIn
import Derived.LoopIn
import Derived.Maps.AppendAt

set_option linter.unusedVariables false
namespace Go.Proofs.YtpgopmmobbemcaaGreat
open Go.RowKit

def manyRes (p : Prc) (s : Int) (l : List Int) : Int × List Out × Int :=
  if stateErr p s = 0 then (if manyErr p.letters l = 0 then ((readSpec p.rules s (wordFrom 0 l)).1, isort (readSpec p.rules s (wordFrom 0 l)).2, 0) else (0, [], manyErr p.letters l)) else (0, [], stateErr p s)

end Go.Proofs.YtpgopmmobbemcaaGreat

set_option linter.unusedVariables false
set_option linter.unusedSimpArgs false
namespace Go.Proofs.YtpgopmmobbemcaaGreat
open Go.RowKit

/-- All letters commute in all states. -/
def AllComm (rs : List (List Rul)) (S L : Int) : Prop := ∀ s a b : Int, 0 ≤ s ∧ s < S → 0 ≤ a ∧ a < L → 0 ≤ b ∧ b < L → commB rs s a b = true

theorem read_range {S L : Int} {rs : List (List Rul)} (hV : checkErr ⟨S, L, rs⟩ 12 = 0) (l : List Int) (s : Int) (hs : 0 ≤ s ∧ s < S) (hl : ∀ a ∈ l, 0 ≤ a ∧ a < L) : 0 ≤ (readSpec rs s l).1 ∧ (readSpec rs s l).1 < S :=
  (readSpec_right (p := ⟨S, L, rs⟩) hV l s hs (letters_of hl)).1

theorem read_perm {S L : Int} {rs : List (List Rul)} (hV : checkErr ⟨S, L, rs⟩ 12 = 0) (hC : AllComm rs S L) {l m : List Int} (hp : l.Perm m) :
    (∀ a ∈ l, 0 ≤ a ∧ a < L) → ∀ s : Int, 0 ≤ s ∧ s < S → (readSpec rs s l).1 = (readSpec rs s m).1 ∧ (readSpec rs s l).2.Perm (readSpec rs s m).2 := by
  induction hp with
  | nil => intro _ s _; exact ⟨rfl, List.Perm.refl _⟩
  | cons a _ ih =>
    intro hl s hs
    have h1 := read_range hV [a] s hs (fun x hx => hl x (by simp at hx; simp [hx]))
    have h2 := ih (fun x hx => hl x (by simp [hx])) (ruleAt rs s a).next h1
    simp only [readSpec]
    exact ⟨h2.1, h2.2.append_left _⟩
  | swap a b r =>
    intro hl s hs
    have h := hC s b a hs (hl b (by simp)) (hl a (by simp))
    unfold commB at h
    simp only [Bool.and_eq_true, decide_eq_true_eq] at h
    have e1 := readSpec_app rs [b, a] r s
    have e2 := readSpec_app rs [a, b] r s
    simp only [List.cons_append, List.nil_append] at e1 e2
    rw [e1, e2]
    refine ⟨by simp only; rw [h.1], ?_⟩
    simp only
    rw [h.1]
    refine List.Perm.append_right _ ?_
    exact ((isort_perm _).symm.trans (h.2 ▸ List.Perm.refl _)).trans (isort_perm _)
  | trans h1 h2 ih1 ih2 =>
    intro hl s hs
    have a1 := ih1 hl s hs
    have a2 := ih2 (fun x hx => hl x (h1.mem_iff.2 hx)) s hs
    exact ⟨a1.1.trans a2.1, a1.2.trans a2.2⟩

/-- The counts of a word's letters. -/
def tally (L : Nat) (l : List Int) : List Int := (List.range L).map fun a : Nat => (l.count (a : Int) : Int)
theorem tally_nil (L : Nat) : tally L [] = List.replicate L 0 := by
  apply List.ext_getElem?
  intro i
  simp only [tally, List.getElem?_map, List.getElem?_replicate]
  by_cases h : i < L
  · simp [h]
  · simp [h]
end Go.Proofs.YtpgopmmobbemcaaGreat

set_option linter.unusedVariables false
set_option linter.unusedSimpArgs false
namespace Go.Proofs.YtpgopmmobbemcaaGreat
open Go.RowKit

theorem sub_rest : ∀ (h h' : List Int), (∀ a, h.count a ≤ h'.count a) → ∃ r, h'.Perm (h ++ r)
  | [], h', _ => ⟨h', List.Perm.refl _⟩
  | a :: t, h', hc => by
    have ha : a ∈ h' := by
      have := hc a
      rw [List.count_cons_self] at this
      exact List.count_pos_iff.1 (by omega)
    have hp := List.perm_cons_erase ha
    obtain ⟨r, hr⟩ := sub_rest t (h'.erase a) fun b => by
      have h1 := hc b
      rw [hp.count_eq b, List.count_cons, List.count_cons] at h1
      omega
    exact ⟨r, hp.trans (hr.cons a)⟩

def sumN (f : Nat → Nat) : Nat → Nat
  | 0 => 0
  | n + 1 => sumN f n + f n
theorem sumN_le {f g : Nat → Nat} : ∀ {n : Nat}, (∀ p, p < n → f p ≤ g p) → sumN f n ≤ sumN g n
  | 0, _ => Nat.le_refl _
  | n + 1, h => by
    have h1 := sumN_le (n := n) fun p hp => h p (by omega)
    have h2 := h n (by omega)
    simp only [sumN]
    omega
theorem sumN_eq {f g : Nat → Nat} {n : Nat} (h : ∀ p, p < n → f p = g p) : sumN f n = sumN g n :=
  Nat.le_antisymm (sumN_le fun p hp => Nat.le_of_eq (h p hp)) (sumN_le fun p hp => Nat.le_of_eq (h p hp).symm)
theorem sumN_one {f g : Nat → Nat} {k : Nat} : ∀ {n : Nat}, k < n → (∀ p, p < n → p ≠ k → f p = g p) → sumN f n + g k = sumN g n + f k
  | 0, h, _ => by omega
  | n + 1, h, he => by
    simp only [sumN]
    by_cases hk : k = n
    · subst hk
      rw [sumN_eq fun p hp => he p (by omega) (by omega)]
      omega
    · have h1 := sumN_one (n := n) (k := k) (by omega) fun p hp hne => he p (by omega) hne
      rw [he n (by omega) (by omega)]
      omega
theorem sumN_mem {f : Nat → Nat} {k : Nat} : ∀ {n : Nat}, k < n → f k ≤ sumN f n
  | 0, h => by omega
  | n + 1, h => by
    simp only [sumN]
    by_cases hk : k = n
    · subst hk; omega
    · have := sumN_mem (f := f) (n := n) (k := k) (by omega)
      omega
theorem sumN_le_eq {f g : Nat → Nat} : ∀ {n : Nat}, (∀ p, p < n → f p ≤ g p) → sumN g n ≤ sumN f n → ∀ p, p < n → f p = g p
  | 0, _, _, p, hp => by omega
  | n + 1, h, he, p, hp => by
    simp only [sumN] at he
    have h1 := sumN_le (n := n) fun p hp => h p (by omega)
    have h2 := h n (by omega)
    by_cases hk : p = n
    · subst hk; omega
    · exact sumN_le_eq (n := n) (fun p hp => h p (by omega)) (by omega) p (by omega)

/-- The letters a for q among some outputs. -/
def cntO (os : List Out) (q a : Nat) : Nat := os.countP fun o => decide (o.dst = (q : Int) ∧ o.letter = (a : Int))
theorem cntO_app (l m : List Out) (q a : Nat) : cntO (l ++ m) q a = cntO l q a + cntO m q a := by unfold cntO; rw [List.countP_append]
theorem cntO_perm {l m : List Out} (h : l.Perm m) (q a : Nat) : cntO l q a = cntO m q a := h.countP_eq _

/-- What a processor of a network comes to by a history. -/
def histR (x : Nwk) (p : Nat) (h : List Int) : Int × List Out := readSpec (x.procs.getD p prc0).rules (x.state.getD p 0) h
def sentN (x : Nwk) (hs : Nat → List Int) (q a : Nat) : Nat := sumN (fun p => cntO (histR x p (hs p)).2 q a) x.procs.length
def cellT (t : List (List Int)) (q a : Nat) : Int := (t.getD q []).getD a 0
def AbN (x : Nwk) : Prop := ∀ (i : Nat) (p : Prc), x.procs[i]? = some p → AllComm p.rules p.states p.letters
def InL (x : Nwk) (hs : Nat → List Int) : Prop := ∀ p, p < x.procs.length → ∀ a ∈ hs p, 0 ≤ a ∧ a < (lettersP x.procs p : Int)
def LeH (x : Nwk) (hs hc : Nat → List Int) : Prop := ∀ p, p < x.procs.length → ∀ a : Int, (hs p).count a ≤ (hc p).count a
def totH (x : Nwk) (hs : Nat → List Int) : Nat := sumN (fun p => (hs p).length) x.procs.length
/-- Complete histories: all letters that are there were read. -/
def Compl (x : Nwk) (hs : Nat → List Int) : Prop := ∀ q a, q < x.procs.length → a < lettersP x.procs q → cellT x.waiting q a + sentN x hs q a ≤ ((hs q).count (a : Int) : Int)

section
variable {x : Nwk} {hs hc : Nat → List Int}
theorem getD_procs {x : Nwk} {p : Nat} (hp : p < x.procs.length) : x.procs[p]? = some (x.procs.getD p prc0) := by rw [getD_some (List.getElem?_eq_getElem hp)]; exact List.getElem?_eq_getElem hp
theorem Right.st0 (hr : Right x) {p : Nat} (hp : p < x.procs.length) : 0 ≤ x.state.getD p 0 ∧ x.state.getD p 0 < (x.procs.getD p prc0).states := by
  have hs := List.getElem?_eq_getElem (show p < x.state.length by rw [hr.nst]; exact hp)
  rw [getD_some hs]
  exact hr.st p _ _ hs (getD_procs hp)
theorem Right.let0 (hr : Right x) {p : Nat} (hp : p < x.procs.length) : (x.procs.getD p prc0).letters = (lettersP x.procs p : Int) := by
  have := hr.letters p hp
  unfold lettersP at this ⊢
  omega
theorem hist_perm (hr : Right x) (hA : AbN x) {p : Nat} (hp : p < x.procs.length) {l m : List Int} (hl : ∀ a ∈ l, 0 ≤ a ∧ a < (lettersP x.procs p : Int)) (h : l.Perm m) : (histR x p l).1 = (histR x p m).1 ∧ (histR x p l).2.Perm (histR x p m).2 := by
  have hpr := getD_procs hp
  have hck : checkErr (x.procs.getD p prc0) 12 = 0 := checkErr_more (hr.proc p _ hpr)
  exact read_perm (S := (x.procs.getD p prc0).states) (L := (x.procs.getD p prc0).letters) hck (hA p _ hpr) h (by rw [hr.let0 hp]; exact hl) _ (hr.st0 hp)
theorem hist_mono (hr : Right x) (hA : AbN x) {p : Nat} (hp : p < x.procs.length) {l m : List Int} (hm : ∀ a ∈ m, 0 ≤ a ∧ a < (lettersP x.procs p : Int)) (hc : ∀ a, l.count a ≤ m.count a) (q a : Nat) : cntO (histR x p l).2 q a ≤ cntO (histR x p m).2 q a := by
  obtain ⟨r, hp'⟩ := sub_rest l m hc
  rw [cntO_perm (hist_perm hr hA hp hm hp').2]
  unfold histR
  rw [readSpec_app]
  simp only [cntO_app]
  omega
theorem sent_mono (hr : Right x) (hA : AbN x) (hI : InL x hc) (hL : LeH x hs hc) (q a : Nat) : sentN x hs q a ≤ sentN x hc q a :=
  sumN_le fun p hp => hist_mono hr hA hp (hI p hp) (hL p hp) q a
/-- The least action: where a letter may still be read, fewer have been read than by complete histories. -/
theorem least (hr : Right x) (hA : AbN x) (hI : InL x hc) (hC : Compl x hc) (hL : LeH x hs hc) {q a : Nat} (hq : q < x.procs.length) (ha : a < lettersP x.procs q) (h : ((hs q).count (a : Int) : Int) < cellT x.waiting q a + sentN x hs q a) :
    (hs q).count (a : Int) < (hc q).count (a : Int) := by
  have h1 := sent_mono hr hA hI hL q a
  have h2 := hC q a hq ha
  omega
theorem LeH.len (h : LeH x hs hc) {p : Nat} (hp : p < x.procs.length) : (hs p).length ≤ (hc p).length := by
  obtain ⟨r, hr⟩ := sub_rest _ _ (h p hp)
  rw [hr.length_eq, List.length_append]
  omega
theorem LeH.tot (h : LeH x hs hc) : totH x hs ≤ totH x hc := sumN_le fun p hp => h.len hp
/-- A history with one letter more. -/
def upH (hs : Nat → List Int) (p : Nat) (a : Int) : Nat → List Int := fun q => if q = p then hs q ++ [a] else hs q
/-- A network behind some moves, with what each processor has read. -/
structure HistI (x : Nwk) (hs : Nat → List Int) (y : Nwk) (ct : List (List Int)) : Prop where
  procs : y.procs = x.procs
  right : Right y
  inl : InL x hs
  st : ∀ p, p < x.procs.length → y.state.getD p 0 = (histR x p (hs p)).1
  ct : ct = (List.range x.procs.length).map fun p => tally (lettersP x.procs p) (hs p)
  wt : ∀ q a, q < x.procs.length → a < lettersP x.procs q → cellT y.waiting q a + ((hs q).count (a : Int) : Int) = cellT x.waiting q a + sentN x hs q a
theorem HistI.begin_ (hr : Right x) : HistI x (fun _ => []) x (x.procs.map fun p => List.replicate p.letters.toNat (0 : Int)) where
  procs := rfl
  right := hr
  inl := fun p hp a ha => by simp at ha
  st := fun p hp => rfl
  ct := by
    apply List.ext_getElem?
    intro i
    simp only [List.getElem?_map, tally_nil]
    by_cases h : i < x.procs.length
    · rw [List.getElem?_range h, getD_procs h]
      rfl
    · rw [List.getElem?_eq_none (by omega), List.getElem?_eq_none (by simp; omega)]
      rfl
  wt := fun q a hq ha => by
    have : sentN x (fun _ => []) q a = 0 := by
      have h1 := sumN_eq (f := fun p => cntO (histR x p []).2 q a) (g := fun _ => 0) (n := x.procs.length) fun p hp => rfl
      have h2 : ∀ n, sumN (fun _ => 0) n = 0 := fun n => by
        induction n with
        | zero => rfl
        | succ n ih => simp only [sumN]; omega
      unfold sentN
      rw [h1, h2]
    rw [this]
    simp

end

theorem LeH.nil (x : Nwk) (hc : Nat → List Int) : LeH x (fun _ => []) hc := fun p _ a => by simp
end Go.Proofs.YtpgopmmobbemcaaGreat

set_option linter.unusedVariables false
set_option linter.unusedSimpArgs false
namespace Go.Proofs.YtpgopmmobbemcaaGreat
open Go.RowKit

end Go.Proofs.YtpgopmmobbemcaaGreat

set_option linter.unusedVariables false
set_option linter.unusedSimpArgs false
namespace Go.Proofs.YtpgopmmobbemcaaGreat
open Go.RowKit

def atE (n : Int) (es : List Edg) (vs : List Int) : Int := if gErr n es = 0 then (if vs.all (vtxB n) then 0 else 2) else gErr n es
set_option maxRecDepth 100000 in
set_option maxHeartbeats 1000000 in
theorem gat_any (n : Int) (es : List Edg) (oe : Option Addr) (c : Nat) (vs : List Int) (ov : Option Addr) (cv : Nat) (F G : Foot) (w : World) (hs : SliceR edgR 3 F w oe es) (hc : es.length ≤ c) (hc2 : es.length ≤ 9223372036854775807)
    (hv : SliceR intR 1 G w ov vs) (hcv : vs.length ≤ 1000000) :
    Calls Tryz.prog 123 #[.agg #[.int .i64 n, .slice oe es.length c], .slice ov vs.length cv] w (ErrPost w (atE n es vs)) := by
  obtain ⟨W1, e1⟩ : ∃ W1, w.alloc (.cells #[.int .i64 n, .slice oe es.length c] 24) = W1 := ⟨_, rfl⟩
  have bx : Box W1 w.heap.size [.int .i64 n, .slice oe es.length c] 24 := by rw [← e1]; exact Box.new w [.int .i64 n, .slice oe es.length c] 24
  have bb1 := bnew (Below.refl w.heap.size w) (.cells #[.int .i64 n, .slice oe es.length c] 24)
  rw [e1] at bb1
  have HCK := hide (gcheck_any n es oe c F W1 (hs.below edgR_ok bb1) hc hc2)
  have d0 := bx.cell 0
  have d1 := bx.cell 1
  simp only [List.getElem?_cons_zero, List.getElem?_cons_succ] at d0 d1
  have HX := hide bx
  have HB1 := hide bb1
  obtain ⟨ge, hge⟩ : ∃ ge, ge = gErr n es := ⟨_, rfl⟩
  rw [← hge] at HCK
  have HGE := hide hge
  clear hge bx bb1
  by_cases hg0 : ge = 0
  · subst hg0
    have HR : Hid (atE n es vs = if vs.all (vtxB n) then 0 else 2) := by
      show _ = _
      unfold atE
      rw [if_pos HGE.out.symm]
    go_enter Tryz.func123, Tryz.ntmps123
    go_wp2_with (go_at_call 110; refine HCK.out.mono ?_; rintro e w2 ⟨rfl, hb2⟩; have HB2 := hide hb2; have x2 := HX.out.below hb2; have HX2 := hide x2; clear hb2 x2)
    go_loopw [15] (fun iv wr => ∃ k : Nat, k ≤ vs.length ∧ iv = .int .i64 k ∧ Hid (vs.all (vtxB n) = (vs.drop k).all (vtxB n)) ∧ wr = w2) (fun i _ => vs.length - (intOf i).toNat)
    case atStart => exact ⟨0, by omega, rfl, rfl, rfl⟩
    case round =>
      obtain ⟨k, hk, rfl, HE, rfl⟩ := hrel
      have hbw : Below w.heap.size w wr := HB1.out.trans (HB2.out.mono HB1.out.size)
      have HBW := hide hbw
      have y0 := HX2.out.cell 0
      simp only [List.getElem?_cons_zero] at y0
      by_cases hlt : k < vs.length
      · obtain ⟨x, hd, hget, _, b, off, rfl, _, cx⟩ := (hv.below intR_ok hbw).int_at hlt
        have HD := hide hd
        clear hd hget hbw
        cases hq : vtxB n x
        · have HQ := hide hq
          have HR2 : Hid (vs.all (vtxB n) = false) := by
            show _ = _
            rw [HE.out, HD.out]
            simp [HQ.out]
          clear hq
          go_wp2_with (go_at_call 136; refine (gvertex_any n x _).mono ?_; rintro e w' ⟨rfl, rfl⟩; rw [HQ.out])
          go_ret
          exact ⟨ret_int (by rw [HR.out, HR2.out]; rfl), HBW.out⟩
        · have HQ := hide hq
          clear hq
          go_wp2_with (go_at_call 136; refine (gvertex_any n x _).mono ?_; rintro e w' ⟨rfl, rfl⟩; rw [HQ.out])
          go_roundw
          case rel =>
            refine ⟨k + 1, by omega, by go_num, ?_, by first | rfl | trivial⟩
            show _ = _
            rw [HE.out, HD.out, List.all_cons, HQ.out, Bool.true_and]
          case measure => simp [intOf]; omega
      · have HR2 : Hid (vs.all (vtxB n) = true) := by
          show _ = _
          rw [HE.out, List.drop_eq_nil_of_le (by omega)]
          rfl
        clear hbw
        go_wp2_with fail
        go_ret
        exact ⟨ret_int (by rw [HR.out, HR2.out]; rfl), HBW.out⟩
  · have HR : Hid (atE n es vs = ge) := by
      show _ = _
      unfold atE
      rw [← HGE.out, if_neg hg0]
    go_enter Tryz.func123, Tryz.ntmps123
    go_wp2_with (go_at_call 110; refine HCK.out.mono ?_; rintro e w2 ⟨rfl, hb2⟩; have HB2 := hide hb2; clear hb2)
    go_ret
    exact ⟨ret_int HR.out.symm, HB1.out.trans (HB2.out.mono HB1.out.size)⟩

def btwRes (n : Int) (es : List Edg) (a b : Int) : Int × Int := if atE n es [a, b] = 0 then (betw es a b, 0) else (0, atE n es [a, b])
end Go.Proofs.YtpgopmmobbemcaaGreat

set_option linter.unusedVariables false
set_option linter.unusedSimpArgs false
namespace Go.Proofs.YtpgopmmobbemcaaGreat
open Go.RowKit

def pat (a b : Value) (j : Nat) : Value := if j % 2 = 0 then a else b
def pats (a b : Value) (n : Nat) : List Value := (List.range n).map (pat a b)
end Go.Proofs.YtpgopmmobbemcaaGreat

set_option linter.unusedVariables false
set_option linter.unusedSimpArgs false
namespace Go.Proofs.YtpgopmmobbemcaaGreat
open Go.RowKit

def sinkP : Prc := ⟨1, 1, [[⟨0, []⟩]]⟩
/-- The letters that vertex v sends to the first i vertices. -/
def nbrU (es : List Edg) (v : Nat) (i : Nat) : List Out := (List.range i).flatMap fun w => if w = v then [] else List.replicate (betw es v w).toNat ⟨w, 0⟩
def topRow (sent : List Out) (s : Nat) : List Rul := [⟨((s + 1) % sent.length : Nat), if s + 1 = sent.length then sent else []⟩]
def topP (sent : List Out) : Prc := ⟨sent.length, 1, (List.range sent.length).map (topRow sent)⟩
theorem intlF {F : Foot} (w : World) (x : Int) (hx : I64 x) (hF : F w.heap.size) : SliceR intR 1 F (w.alloc (.cells #[.int .i64 x] 3)) (some ⟨w.heap.size, 0, none⟩) [x] := by
  have := ints_lit (F := F) (G := F) w 3 [x] (by intro z hz; simp at hz; subst hz; exact hx) hF
  simpa using this
def waitD (d : List Int) (q : Int) (i : Nat) : List (List Int) := (List.range i).map fun v : Nat => [if (v : Int) = q then 0 else d.getD v 0]
/-- What toppler comes to. -/
def TopPost (w : World) (sent : List Out) (e : Ending) (w' : World) : Prop :=
  (if sent.length ≤ 16 then ∃ cs, e = .returned (.tuple #[.agg cs.toArray, .int .i64 0]) ∧ prcR (fun k => w.heap.size ≤ k) w' cs (topP sent)
    else e = .returned (.tuple #[.agg #[.int .i64 0, .int .i64 0, .slice none 0 0], .int .i64 12])) ∧ Below w.heap.size w w'
end Go.Proofs.YtpgopmmobbemcaaGreat

set_option linter.unusedVariables false
set_option linter.unusedSimpArgs false
namespace Go.Proofs.YtpgopmmobbemcaaGreat
open Go.RowKit

end Go.Proofs.YtpgopmmobbemcaaGreat

set_option linter.unusedVariables false
set_option linter.unusedSimpArgs false
set_option linter.unnecessarySimpa false
namespace Go.Proofs.YtpgopmmobbemcaaGreat
open Go.RowKit Go.Shelf

attribute [local go_sem] Oper.semAt_some

theorem prInfo : (Tryz.prog.info? 135).map (fun i => (i.zero, i.size, i.bytes)) = some (some (.agg #[.int .i64 0, .int .i64 0]), 2, 16) := by kernel_rfl

def flatP (l : List (Int × Int)) : List Value := l.flatMap fun p => [.int .i64 p.1, .int .i64 p.2]
def I64P (l : List (Int × Int)) : Prop := ∀ p ∈ l, I64 p.1 ∧ I64 p.2
/-- What an append to a row of type e and a store into a box of type t do to the blocks of a third type. -/
theorem KpE.appended {T t e : TypeId} {W w1 : World} {n₀ B size k : Nat} {v v' u : Value} {xs : List Value} {tmp : Obj} (hTe : T ≠ e) (hTt : T ≠ t) (hrow : W.ownsRow n₀ e size v k xs) (hv : Boxed W B t u)
    (hgrow : (W.alloc tmp).grownBy w1 v.ownBlock) (hb : Below n₀ W (w1.setCell ⟨B, 0, none⟩ v')) : KpE T n₀ W (w1.setCell ⟨B, 0, none⟩ v') := by
  refine ⟨hb, fun j cs hj => ?_⟩
  have hjl := (Array.getElem?_eq_some_iff.1 hj).1
  have h1 : j ≠ B := fun e1 => by
    subst e1
    have := (show W.heap[j]? = _ from hv).symm.trans hj
    simp at this
    exact hTt this.2.symm
  rw [Below.heap_setCell w1 ⟨B, 0, none⟩ v' j h1, hgrow.block j (by simp; omega) ?_, Below.heap_alloc W tmp j hjl]
  · exact hj
  · intro e1
    rcases hrow.2 with ⟨rfl, _⟩ | ⟨g, cap, cur, rfl, _, hgb, _⟩
    · simp [Value.ownBlock] at e1
    · obtain rfl : j = g := by simpa [Value.ownBlock] using e1
      rw [hj] at hgb
      simp at hgb
      exact hTe hgb.2

theorem pair_lit {w : World} {a b : Int} (ia : I64 a) (ib : I64 b) : SliceR prR 2 All (w.alloc (.cells #[.int .i64 a, .int .i64 b] 135)) (some ⟨w.heap.size, 0, none⟩) [(a, b)] :=
  SliceR.lit (F := fun _ => False) prR_ok w 135 [[.int .i64 a, .int .i64 b]] [(a, b)] (fun i x hx => by
    match i, hx with
    | 0, hx => simp at hx; subst hx; exact ⟨_, rfl, rfl, ia, ib⟩
    | i + 1, hx => simp at hx) rfl (fun _ h => h.elim) trivial
def EndsPost (w : World) (es : List Edg) (e : Ending) (w' : World) : Prop :=
  ∃ v, e = .returned (.tuple #[v, .int .i64 0]) ∧ OwnS prR 2 w.heap.size 135 Non w' v (endsL es) ∧ Below w.heap.size w w'

def endsRes (n : Int) (es : List Edg) : List (Int × Int) × Int := if gErr n es = 0 then (endsL es, 0) else ([], gErr n es)
def PairsPost (w : World) (r : List (Int × Int) × Int) (e : Ending) (w' : World) : Prop :=
  ∃ v, e = .returned (.tuple #[v, .int .i64 r.2]) ∧ OwnS prR 2 w.heap.size 135 Non w' v r.1 ∧ Below w.heap.size w w'

set_option maxRecDepth 100000 in
set_option maxHeartbeats 2000000 in
theorem rgends_any (n : Int) (es : List Edg) (oe : Option Addr) (c : Nat) (F : Foot) (w : World) (hs : SliceR edgR 3 F w oe es) (hc : es.length ≤ c) (hc2 : es.length ≤ 1000) (hm : Hid (∀ x ∈ es, x.m ≤ 50)) :
    Calls Tryz.prog 139 #[.agg #[.int .i64 n, .slice oe es.length c]] w fun e w' => ∃ v, e = .returned v ∧ OwnS prR 2 w.heap.size 135 Non w' v (endsL es) ∧ Below w.heap.size w w' := by
  have hcap : (endsL es).length ≤ 50000 := by have := endsL_len hm.out; omega
  go_enter Tryz.func139, Tryz.ntmps139
  go_wp2_with fail
  go_loopw [3, 4] (fun v iv wr => ∃ (k : Nat), k ≤ es.length ∧ iv = .int .i64 k ∧ OwnS prR 2 (w.heap.size + 1) 135 Non wr v (endsL (es.take k)) ∧ Below (w.heap.size + 1) (w.alloc (.cells #[.int .i64 n, .slice oe es.length c] 24)) wr) (fun _ i _ => es.length - (intOf i).toNat)
  case atStart => exact ⟨0, by omega, rfl, OwnS.nil _ _ _ _ _ _, box_refl _ _⟩
  case round =>
    obtain ⟨k, hk, rfl, hown, hb⟩ := hrel
    have d1 := box_cell hb 1
    simp at d1
    by_cases hlt : k < es.length
    · obtain ⟨a, b, m, _, hget, ia, ib, im, bl, off, rfl, _, c0, c1, c2⟩ := (hs.below edgR_ok (below_box hb)).edg_at hlt
      have HG := hide hget
      have hm50 : m ≤ 50 := hm.out _ (List.mem_of_getElem? hget)
      have HN := hide (endsL_next hget)
      have HA : Hid (endsL (es.take (k + 1)) = endsL (es.take k) ++ List.replicate m.toNat (a, b)) := by
        show _ = _
        rw [List.take_add_one, hget]
        simp [endsL, List.flatMap_append]
      have htl : (endsL (es.take k)).length ≤ 50000 := by
        have := congrArg List.length (endsL_take es k)
        simp at this
        omega
      clear hget
      go_wp2_with fail
      obtain ⟨wo, rfl⟩ : ∃ wo : World, wo = wr := ⟨_, rfl⟩
      go_loopw [3, 5] (fun v jv wr => ∃ (j : Nat) (l : List (Int × Int)), (j : Int) ≤ max m 0 ∧ jv = .int .i64 j ∧ Hid (l = endsL (es.take k) ++ List.replicate j (a, b)) ∧ OwnS prR 2 (w.heap.size + 1) 135 Non wr v l ∧ Below (w.heap.size + 1) (w.alloc (.cells #[.int .i64 n, .slice (some ⟨bl, off, none⟩) es.length c] 24)) wr) (fun _ j _ => m.toNat - (intOf j).toNat)
      case atStart => exact ⟨0, _, by omega, rfl, by show _ = _; simp, hown, hb⟩
      case round =>
        clear hown hb d1 c0 c1 c2
        obtain ⟨j, l, hj, rfl, HL, hown, hb⟩ := hrel
        have d1 := box_cell hb 1
        simp at d1
        obtain ⟨a', b', m', _, hget', _, _, _, bl', off', he, _, c0, c1, c2⟩ := (hs.below edgR_ok (below_box hb)).edg_at hlt
        injection he with he
        injection he with q1 q2
        subst q1 q2
        rw [HG.out] at hget'
        injection hget' with hget'
        injection hget' with q1 q2 q3
        subst q1 q2 q3
        have hbl := World.block_lt_of_cell? _ _ c0
        simp only at hbl
        have hsz := box_lt hb
        have hll : l.length ≤ 60000 := by rw [HL.out]; simp; omega
        by_cases hjm : (j : Int) < m
        · go_wp2_with fail
          go_region_law (refine step_append_rep rfl (.tmp 23) (.tmp 37) 179 rfl (w.heap.size + 1) 135 _ 2 16 Tryz.underlying179 prInfo rfl (by decide) prR_ok Non All u3 l (by simp [Act.eval, Act.put]) ((hown.draw prR_ok).new prR_ok _) (some ⟨wr.heap.size, 0, none⟩) 1 [(a, b)] (by simp [Act.eval, Act.put]) (pair_lit ia ib) (fun _ _ h => h) (fun _ h => h.elim) (by simp; omega) (by simp; omega) (by simp; omega) ?_; intro v' w3 ho hb1 hg)
          all_goals
            go_wp2_with fail
            go_roundw
            case rel =>
              refine ⟨j + 1, l ++ [(a, b)], by omega, by go_num, ?_, ho, (box_new hb.drew (by simp) _).trans hb1⟩
              show _ = _
              rw [HL.out, List.replicate_succ']
              simp
            case measure => simp [intOf]; omega
        · have HL2 : Hid (l = endsL (es.take (k + 1))) := by
            show _ = _
            rw [HL.out, HA.out, show j = m.toNat from by omega]
          go_wp2_with fail
          go_roundw
          case rel => exact ⟨k + 1, by omega, by go_num, by rw [← HL2.out]; exact hown, hb⟩
          case measure => simp [intOf]; omega
    · have : k = es.length := by omega
      subst this
      rw [List.take_length] at hown
      go_wp2_with fail
      go_ret
      exact ⟨u3, rfl, hown.rebase (by omega), below_box hb⟩

end Go.Proofs.YtpgopmmobbemcaaGreat

set_option linter.unusedVariables false
namespace Go.Proofs.YtpgopmmobbemcaaGreat
open Go.RowKit

end Go.Proofs.YtpgopmmobbemcaaGreat

set_option linter.unusedVariables false
set_option linter.unusedSimpArgs false
set_option linter.unnecessarySimpa false
namespace Go.Proofs.YtpgopmmobbemcaaGreat
open Go.RowKit

set_option maxRecDepth 100000 in
set_option maxHeartbeats 4000000 in
theorem betw_any (n : Int) (es : List Edg) (oe : Option Addr) (c : Nat) (F : Foot) (w : World) (hs : SliceR edgR 3 F w oe es) (hc : es.length ≤ c) (hc2 : es.length ≤ 9223372036854775807) (a b : Int) :
    Calls Tryz.prog 100 #[.agg #[.int .i64 n, .slice oe es.length c], .int .i64 a, .int .i64 b] w (ErrPost w (betw es a b)) := by
  rcases Int.lt_trichotomy a b with hab | hab | hab
  · have hmin : min a b = a := by omega
    have hmax : max a b = b := by omega
    go_enter Tryz.func100, Tryz.ntmps100
    go_wp2_with fail
    have hb0 := box_refl w (.cells #[.int .i64 n, .slice oe es.length c] 24)
    go_loopw [7] (fun iv wr => ∃ k : Nat, k ≤ es.length ∧ iv = .int .i64 k ∧ Hid (betw es a b = betw (es.drop k) a b) ∧ Below (w.heap.size + 1) (w.alloc (.cells #[.int .i64 n, .slice oe es.length c] 24)) wr) (fun iv _ => es.length - (intOf iv).toNat)
    case atStart => exact ⟨0, by omega, rfl, rfl, hb0⟩
    case round =>
      obtain ⟨k, hk, rfl, HB, hb⟩ := hrel
      have d1 := box_cell hb 1
      simp at d1
      clear hb0
      by_cases hlt : k < es.length
      · obtain ⟨x, y, m, hd, hget, _, _, _, bl, off, hoa, _, c0, c1, c2⟩ := (hs.below edgR_ok (below_box hb)).edg_at hlt
        subst hoa
        have hbl := World.block_lt_of_cell? _ _ c0
        simp only at hbl
        have hsz := box_lt hb
        have HS := HB.out
        rw [hd, betw] at HS
        simp only [hmin, hmax] at HS
        have HS := hide HS
        clear hd hget
        by_cases hx : x = a
        · by_cases hy : y = b
          · have HR : Hid (betw es a b = m) := by show _ = _; rw [HS.out, if_pos ⟨hx, hy⟩]
            have q1 : (x == a) = true := by simp [hx]
            have q2 : (y == b) = true := by simp [hy]
            have HX := hide (And.intro hx hy)
            clear hx hy
            go_wp2_with fail
            go_ret
            exact ⟨ret_int HR.out.symm, below_box (box_new hb (by simp) _)⟩
          · have HR : Hid (betw es a b = betw (es.drop (k + 1)) a b) := by show _ = _; rw [HS.out, if_neg (fun h => hy h.2)]
            have q1 : (x == a) = true := by simp [hx]
            have q2 : (y == b) = false := by simp [hy]
            have HX := hide (And.intro hx hy)
            clear hx hy
            go_wp2_with fail
            go_roundw
            case rel => exact ⟨k + 1, by omega, by go_num, HR, box_new hb (by simp) _⟩
            case measure => simp [intOf]; omega
        · have HR : Hid (betw es a b = betw (es.drop (k + 1)) a b) := by show _ = _; rw [HS.out, if_neg (fun h => hx h.1)]
          have q1 : (x == a) = false := by simp [hx]
          have HX := hide hx
          clear hx
          go_wp2_with fail
          go_roundw
          case rel => exact ⟨k + 1, by omega, by go_num, HR, box_new hb (by simp) _⟩
          case measure => simp [intOf]; omega
      · have HR : Hid (betw es a b = 0) := by
          show _ = _
          rw [HB.out, List.drop_of_length_le (by omega)]
          rfl
        go_wp2_with fail
        go_ret
        exact ⟨ret_int HR.out.symm, below_box hb⟩
  · subst hab
    have hmin : min a a = a := by omega
    have hmax : max a a = a := by omega
    go_enter Tryz.func100, Tryz.ntmps100
    go_wp2_with fail
    have hb0 := box_refl w (.cells #[.int .i64 n, .slice oe es.length c] 24)
    go_loopw [7] (fun iv wr => ∃ k : Nat, k ≤ es.length ∧ iv = .int .i64 k ∧ Hid (betw es a a = betw (es.drop k) a a) ∧ Below (w.heap.size + 1) (w.alloc (.cells #[.int .i64 n, .slice oe es.length c] 24)) wr) (fun iv _ => es.length - (intOf iv).toNat)
    case atStart => exact ⟨0, by omega, rfl, rfl, hb0⟩
    case round =>
      obtain ⟨k, hk, rfl, HB, hb⟩ := hrel
      have d1 := box_cell hb 1
      simp at d1
      clear hb0
      by_cases hlt : k < es.length
      · obtain ⟨x, y, m, hd, hget, _, _, _, bl, off, hoa, _, c0, c1, c2⟩ := (hs.below edgR_ok (below_box hb)).edg_at hlt
        subst hoa
        have hbl := World.block_lt_of_cell? _ _ c0
        simp only at hbl
        have hsz := box_lt hb
        have HS := HB.out
        rw [hd, betw] at HS
        simp only [hmin, hmax] at HS
        have HS := hide HS
        clear hd hget
        by_cases hx : x = a
        · by_cases hy : y = a
          · have HR : Hid (betw es a a = m) := by show _ = _; rw [HS.out, if_pos ⟨hx, hy⟩]
            have q1 : (x == a) = true := by simp [hx]
            have q2 : (y == a) = true := by simp [hy]
            have HX := hide (And.intro hx hy)
            clear hx hy
            go_wp2_with fail
            go_ret
            exact ⟨ret_int HR.out.symm, below_box (box_new hb (by simp) _)⟩
          · have HR : Hid (betw es a a = betw (es.drop (k + 1)) a a) := by show _ = _; rw [HS.out, if_neg (fun h => hy h.2)]
            have q1 : (x == a) = true := by simp [hx]
            have q2 : (y == a) = false := by simp [hy]
            have HX := hide (And.intro hx hy)
            clear hx hy
            go_wp2_with fail
            go_roundw
            case rel => exact ⟨k + 1, by omega, by go_num, HR, box_new hb (by simp) _⟩
            case measure => simp [intOf]; omega
        · have HR : Hid (betw es a a = betw (es.drop (k + 1)) a a) := by show _ = _; rw [HS.out, if_neg (fun h => hx h.1)]
          have q1 : (x == a) = false := by simp [hx]
          have HX := hide hx
          clear hx
          go_wp2_with fail
          go_roundw
          case rel => exact ⟨k + 1, by omega, by go_num, HR, box_new hb (by simp) _⟩
          case measure => simp [intOf]; omega
      · have HR : Hid (betw es a a = 0) := by
          show _ = _
          rw [HB.out, List.drop_of_length_le (by omega)]
          rfl
        go_wp2_with fail
        go_ret
        exact ⟨ret_int HR.out.symm, below_box hb⟩
  · have hmin : min a b = b := by omega
    have hmax : max a b = a := by omega
    go_enter Tryz.func100, Tryz.ntmps100
    go_wp2_with fail
    have hb0 := box_refl w (.cells #[.int .i64 n, .slice oe es.length c] 24)
    go_loopw [7] (fun iv wr => ∃ k : Nat, k ≤ es.length ∧ iv = .int .i64 k ∧ Hid (betw es a b = betw (es.drop k) a b) ∧ Below (w.heap.size + 1) (w.alloc (.cells #[.int .i64 n, .slice oe es.length c] 24)) wr) (fun iv _ => es.length - (intOf iv).toNat)
    case atStart => exact ⟨0, by omega, rfl, rfl, hb0⟩
    case round =>
      obtain ⟨k, hk, rfl, HB, hb⟩ := hrel
      have d1 := box_cell hb 1
      simp at d1
      clear hb0
      by_cases hlt : k < es.length
      · obtain ⟨x, y, m, hd, hget, _, _, _, bl, off, hoa, _, c0, c1, c2⟩ := (hs.below edgR_ok (below_box hb)).edg_at hlt
        subst hoa
        have hbl := World.block_lt_of_cell? _ _ c0
        simp only at hbl
        have hsz := box_lt hb
        have HS := HB.out
        rw [hd, betw] at HS
        simp only [hmin, hmax] at HS
        have HS := hide HS
        clear hd hget
        by_cases hx : x = b
        · by_cases hy : y = a
          · have HR : Hid (betw es a b = m) := by show _ = _; rw [HS.out, if_pos ⟨hx, hy⟩]
            have q1 : (x == b) = true := by simp [hx]
            have q2 : (y == a) = true := by simp [hy]
            have HX := hide (And.intro hx hy)
            clear hx hy
            go_wp2_with fail
            go_ret
            exact ⟨ret_int HR.out.symm, below_box (box_new hb (by simp) _)⟩
          · have HR : Hid (betw es a b = betw (es.drop (k + 1)) a b) := by show _ = _; rw [HS.out, if_neg (fun h => hy h.2)]
            have q1 : (x == b) = true := by simp [hx]
            have q2 : (y == a) = false := by simp [hy]
            have HX := hide (And.intro hx hy)
            clear hx hy
            go_wp2_with fail
            go_roundw
            case rel => exact ⟨k + 1, by omega, by go_num, HR, box_new hb (by simp) _⟩
            case measure => simp [intOf]; omega
        · have HR : Hid (betw es a b = betw (es.drop (k + 1)) a b) := by show _ = _; rw [HS.out, if_neg (fun h => hx h.1)]
          have q1 : (x == b) = false := by simp [hx]
          have HX := hide hx
          clear hx
          go_wp2_with fail
          go_roundw
          case rel => exact ⟨k + 1, by omega, by go_num, HR, box_new hb (by simp) _⟩
          case measure => simp [intOf]; omega
      · have HR : Hid (betw es a b = 0) := by
          show _ = _
          rw [HB.out, List.drop_of_length_le (by omega)]
          rfl
        go_wp2_with fail
        go_ret
        exact ⟨ret_int HR.out.symm, below_box hb⟩

end Go.Proofs.YtpgopmmobbemcaaGreat

set_option linter.unusedVariables false
namespace Go.Proofs.YtpgopmmobbemcaaGreat
open Go.RowKit

theorem countP_lt {p q : Nat → Bool} : ∀ {l : List Nat}, (∀ x ∈ l, p x = true → q x = true) → (∃ x ∈ l, q x = true ∧ p x = false) → l.countP p < l.countP q
  | [], _, h => by obtain ⟨x, hx, _⟩ := h; cases hx
  | y :: r, h, hx => by
    obtain ⟨x, hx, h1, h2⟩ := hx
    have hle : ∀ l : List Nat, (∀ x ∈ l, p x = true → q x = true) → l.countP p ≤ l.countP q := fun l hl => List.countP_mono_left hl
    have hr := hle r fun x hx => h x (by simp [hx])
    rw [List.countP_cons, List.countP_cons]
    rcases List.mem_cons.1 hx with rfl | hx
    · simp [h1, h2]; omega
    · have ih := countP_lt (l := r) (fun x hx => h x (by simp [hx])) ⟨x, hx, h1, h2⟩
      have hy := h y (by simp)
      by_cases h3 : p y = true
      · simp [h3, hy h3]; omega
      · have h4 : p y = false := by simpa using h3
        simp [h4]
        split <;> omega

/-- Reachable from s within k steps of nx, letters below L. -/
def within (nx : Nat → Nat → Nat) (L s : Nat) : Nat → Nat → Prop
  | 0, t => t = s
  | k + 1, t => within nx L s k t ∨ ∃ u a, within nx L s k u ∧ a < L ∧ t = nx u a
def Rch (nx : Nat → Nat → Nat) (L s t : Nat) : Prop := ∃ k, within nx L s k t

section
variable {nx : Nat → Nat → Nat} {L s S : Nat}
theorem within_lt (hs : s < S) (h : ∀ u a, u < S → a < L → nx u a < S) : ∀ k t, within nx L s k t → t < S
  | 0, t, e => by cases e; exact hs
  | k + 1, t, e => by
    rcases e with e | ⟨u, a, hu, ha, rfl⟩
    · exact within_lt hs h k t e
    · exact h u a (within_lt hs h k u hu) ha
theorem within_mono {k t : Nat} (h : within nx L s k t) : ∀ j, within nx L s (k + j) t
  | 0 => h
  | j + 1 => .inl (within_mono h j)
theorem within_closed {k : Nat} (hc : ∀ t, within nx L s (k + 1) t → within nx L s k t) : ∀ j t, within nx L s (k + j) t → within nx L s k t
  | 0, t, h => h
  | j + 1, t, h => by
    rcases h with h | ⟨u, a, hu, ha, rfl⟩
    · exact within_closed hc j t h
    · exact hc _ (.inr ⟨u, a, within_closed hc j u hu, ha, rfl⟩)
open Classical in
theorem within_more (hs : s < S) (h : ∀ u a, u < S → a < L → nx u a < S) (k : Nat) (hbase : k + 1 ≤ (List.range S).countP fun t => decide (within nx L s k t)) :
    (∀ t, within nx L s (k + 1) t → within nx L s k t) ∨ k + 2 ≤ (List.range S).countP fun t => decide (within nx L s (k + 1) t) := by
  by_cases hc : ∀ t, within nx L s (k + 1) t → within nx L s k t
  · exact .inl hc
  · refine .inr ?_
    have hx : ∃ t, within nx L s (k + 1) t ∧ ¬ within nx L s k t := by
      apply Classical.byContradiction
      intro hn
      exact hc fun t ht => Classical.byContradiction fun h2 => hn ⟨t, ht, h2⟩
    obtain ⟨t, h1, h2⟩ := hx
    have hlt := countP_lt (l := List.range S) (p := fun t => decide (within nx L s k t)) (q := fun t => decide (within nx L s (k + 1) t))
      (fun x _ hp => by simp at hp ⊢; exact .inl hp) ⟨t, by simp; exact within_lt hs h _ _ h1, by simp [h1], by simp [h2]⟩
    omega
open Classical in
theorem within_count (hs : s < S) (h : ∀ u a, u < S → a < L → nx u a < S) (k : Nat) : (∀ t, within nx L s (k + 1) t → within nx L s k t) ∨ k + 2 ≤ (List.range S).countP fun t => decide (within nx L s (k + 1) t) := by
  induction k with
  | zero =>
    refine within_more hs h 0 ?_
    have : 0 < (List.range S).countP fun t => decide (within nx L s 0 t) := List.countP_pos_iff.2 ⟨s, by simp [hs], by simp [within]⟩
    omega
  | succ k ih =>
    rcases ih with hcl | hcl
    · exact .inl fun t ht => Or.inl (within_closed hcl 2 t ht)
    · exact within_more hs h (k + 1) hcl
/-- After S steps all is reached. -/
theorem rch_within (hs : s < S) (h : ∀ u a, u < S → a < L → nx u a < S) (t : Nat) : Rch nx L s t ↔ within nx L s S t := by
  refine ⟨fun ⟨k, hk⟩ => ?_, fun h => ⟨S, h⟩⟩
  have hcl : ∀ t, within nx L s (S + 1) t → within nx L s S t := by
    rcases within_count hs h S with hc | hc
    · exact hc
    · exfalso
      have := List.countP_le_length (p := fun t => Classical.propDecidable (within nx L s (S + 1) t) |>.decide) (l := List.range S)
      simp only [List.length_range] at this
      omega
  have h1 := within_mono hk S
  rw [Nat.add_comm] at h1
  exact within_closed hcl k t h1
end

end Go.Proofs.YtpgopmmobbemcaaGreat

set_option linter.unusedVariables false
namespace Go.Proofs.YtpgopmmobbemcaaGreat
open Go.RowKit

def castL (l : List Nat) : List Int := l.map fun n : Nat => (n : Int)
theorem castL_len (l : List Nat) : (castL l).length = l.length := by simp [castL]
theorem castL_app (l m : List Nat) : castL (l ++ m) = castL l ++ castL m := by simp [castL]
theorem nodup_len {S : Nat} : ∀ {l : List Nat}, l.Nodup → (∀ x ∈ l, x < S) → l.length ≤ S := by
  induction S with
  | zero =>
    intro l _ h
    match l with
    | [] => simp
    | x :: r => exact absurd (h x (by simp)) (by omega)
  | succ S ih =>
    intro l hn h
    have h1 : (l.erase S).Nodup := hn.erase S
    have h2 : ∀ x ∈ l.erase S, x < S := fun x hx => by
      have h3 := List.mem_of_mem_erase hx
      have h4 := h x h3
      have h5 : x ≠ S := fun e => by subst e; exact (List.Nodup.not_mem_erase hn) hx
      omega
    have h3 := ih h1 h2
    have h4 : l.length ≤ (l.erase S).length + 1 := by
      rw [List.length_erase]; split <;> omega
    omega

section
variable {nx : Nat → Nat → Nat} {L S s : Nat}
theorem rch_refl : Rch nx L s s := ⟨0, rfl⟩
theorem rch_step {t a : Nat} (h : Rch nx L s t) (ha : a < L) : Rch nx L s (nx t a) := by
  obtain ⟨k, hk⟩ := h
  exact ⟨k + 1, .inr ⟨t, a, hk, ha, rfl⟩⟩
theorem rch_lt (hs : s < S) (h : ∀ u a, u < S → a < L → nx u a < S) {t : Nat} (ht : Rch nx L s t) : t < S := by
  obtain ⟨k, hk⟩ := ht
  exact within_lt hs h k t hk
theorem rch_in {P : Nat → Prop} (h0 : P s) (h : ∀ u a, P u → a < L → P (nx u a)) {t : Nat} (ht : Rch nx L s t) : P t := by
  obtain ⟨k, hk⟩ := ht
  induction k generalizing t with
  | zero => cases hk; exact h0
  | succ k ih =>
    rcases hk with hk | ⟨u, a, hu, ha, rfl⟩
    · exact ih hk
    · exact h u a (ih hu) ha
/-- The search: what waits, what was seen. -/
structure Bfs (nx : Nat → Nat → Nat) (L s : Nat) (work seen : List Nat) : Prop where
  nodup : seen.Nodup
  start : s ∈ seen
  sound : ∀ x ∈ seen, Rch nx L s x
  sub : ∀ x ∈ work, x ∈ seen
  closed : ∀ u ∈ seen, u ∉ work → ∀ a, a < L → nx u a ∈ seen
/-- .. while the letters of t from k on are still to come. -/
structure Mid (nx : Nat → Nat → Nat) (L s t k : Nat) (work seen : List Nat) : Prop where
  nodup : seen.Nodup
  start : s ∈ seen
  sound : ∀ x ∈ seen, Rch nx L s x
  sub : ∀ x ∈ work, x ∈ seen
  here : t ∈ seen
  done : ∀ a, a < k → nx t a ∈ seen
  closed : ∀ u ∈ seen, u ∉ work → u ≠ t → ∀ a, a < L → nx u a ∈ seen
theorem Bfs.begin : Bfs nx L s [s] [s] :=
  ⟨by simp, by simp, fun x hx => by simp at hx; subst hx; exact rch_refl, fun x hx => hx, fun u hu hn => absurd hu hn⟩
theorem Bfs.pop {t : Nat} {r seen : List Nat} (h : Bfs nx L s (t :: r) seen) : Mid nx L s t 0 r seen :=
  ⟨h.nodup, h.start, h.sound, fun x hx => h.sub x (by simp [hx]), h.sub t (by simp), fun a ha => by omega, fun u hu hn hne a ha => h.closed u hu (by simp [hn, hne]) a ha⟩
theorem Mid.old {t k : Nat} {work seen : List Nat} (h : Mid nx L s t k work seen) (hm : nx t k ∈ seen) : Mid nx L s t (k + 1) work seen := by
  refine ⟨h.nodup, h.start, h.sound, h.sub, h.here, fun a ha => ?_, h.closed⟩
  rcases Nat.lt_or_ge a k with h1 | h1
  · exact h.done a h1
  · have : a = k := by omega
    exact this ▸ hm
theorem Mid.more {t k : Nat} {work seen : List Nat} (h : Mid nx L s t k work seen) (hm : nx t k ∉ seen) (hk : k < L) : Mid nx L s t (k + 1) (work ++ [nx t k]) (seen ++ [nx t k]) where
  nodup := by
    rw [List.nodup_append]
    exact ⟨h.nodup, by simp, fun a ha b hb => by simp at hb; subst hb; exact fun e => hm (e ▸ ha)⟩
  start := by simp [h.start]
  sound := fun x hx => by
    rcases List.mem_append.1 hx with hx | hx
    · exact h.sound x hx
    · simp at hx; subst hx; exact rch_step (h.sound t h.here) hk
  sub := fun x hx => by
    rcases List.mem_append.1 hx with hx | hx
    · simp [h.sub x hx]
    · simp at hx; simp [hx]
  here := by simp [h.here]
  done := fun a ha => by
    rcases Nat.lt_or_ge a k with h1 | h1
    · simp [h.done a h1]
    · have : a = k := by omega
      subst this; simp
  closed := fun u hu hn hne a ha => by
    rcases List.mem_append.1 hu with hu | hu
    · simp [h.closed u hu (fun hw => hn (by simp [hw])) hne a ha]
    · exact absurd (by simp at hu; simp [hu]) hn
theorem Mid.finish {t : Nat} {work seen : List Nat} (h : Mid nx L s t L work seen) : Bfs nx L s work seen :=
  ⟨h.nodup, h.start, h.sound, h.sub, fun u hu hn a ha => by
    by_cases e : u = t
    · subst e; exact h.done a ha
    · exact h.closed u hu hn e a ha⟩
theorem Bfs.all {seen : List Nat} (h : Bfs nx L s [] seen) (t : Nat) : t ∈ seen ↔ Rch nx L s t :=
  ⟨h.sound t, fun ht => rch_in (P := fun x => x ∈ seen) h.start (fun u a hu ha => h.closed u hu (by simp) a ha) ht⟩
theorem Bfs.few {work seen : List Nat} (h : Bfs nx L s work seen) (hs : s < S) (hn : ∀ u a, u < S → a < L → nx u a < S) : seen.length ≤ S :=
  nodup_len h.nodup fun x hx => rch_lt hs hn (h.sound x hx)
theorem Mid.few {t k : Nat} {work seen : List Nat} (h : Mid nx L s t k work seen) (hs : s < S) (hn : ∀ u a, u < S → a < L → nx u a < S) : seen.length ≤ S :=
  nodup_len h.nodup fun x hx => rch_lt hs hn (h.sound x hx)
end

/-- The list of what is reachable, in order. -/
def IsReach (nx : Nat → Nat → Nat) (L s : Nat) (l : List Int) : Prop := l.Pairwise (· < ·) ∧ ∀ t : Int, t ∈ l ↔ ∃ n : Nat, t = n ∧ Rch nx L s n

/-- The fixed point, round by round: bs after k rounds; of the round after that the states below t have been taken; of t the letters below j. -/
structure Led (nx : Nat → Nat → Nat) (L S s k t : Nat) (bs : List Bool) : Prop where
  len : bs.length = S
  got : ∀ u, within nx L s k u → bs[u]? = some true
  sound : ∀ u, bs[u]? = some true → Rch nx L s u
  part : ∀ u, u < t → within nx L s k u → ∀ a, a < L → bs[nx u a]? = some true

section
variable {nx : Nat → Nat → Nat} {L S s : Nat}
theorem Led.begin (hs : s < S) : Led nx L S s 0 0 ((List.replicate S false).set s true) where
  len := by simp
  got := fun u hu => by cases hu; simp [hs]
  sound := fun u hu => by
    by_cases e : s = u
    · subst e; exact rch_refl
    · rw [List.getElem?_set_ne e, List.getElem?_replicate] at hu
      split at hu <;> simp at hu
  part := fun u hu => by omega
theorem Led.set {k t j : Nat} {bs : List Bool} (h : Led nx L S s k t bs) (ht : bs[t]? = some true) (hj : j < L) (hn : nx t j < S) (hd : ∀ a, a < j → bs[nx t a]? = some true) :
    Led nx L S s k t (bs.set (nx t j) true) ∧ (bs.set (nx t j) true)[t]? = some true ∧ ∀ a, a < j + 1 → (bs.set (nx t j) true)[nx t a]? = some true := by
  have mono : ∀ u, bs[u]? = some true → (bs.set (nx t j) true)[u]? = some true := fun u hu => by
    by_cases e : nx t j = u
    · subst e; rw [List.getElem?_set_self (by rw [h.len]; exact hn)]
    · rw [List.getElem?_set_ne e]; exact hu
  refine ⟨⟨by simp [h.len], fun u hu => mono u (h.got u hu), fun u hu => ?_, fun u hu hw a ha => mono _ (h.part u hu hw a ha)⟩, mono t ht, fun a ha => ?_⟩
  · by_cases e : nx t j = u
    · subst e; exact rch_step (h.sound t ht) hj
    · rw [List.getElem?_set_ne e] at hu; exact h.sound u hu
  · rcases Nat.lt_or_ge a j with h1 | h1
    · exact mono _ (hd a h1)
    · have : a = j := by omega
      subst this
      rw [List.getElem?_set_self (by rw [h.len]; exact hn)]
theorem Led.next {k t : Nat} {bs : List Bool} (h : Led nx L S s k t bs) (hd : bs[t]? = some true → ∀ a, a < L → bs[nx t a]? = some true) : Led nx L S s k (t + 1) bs := by
  refine ⟨h.len, h.got, h.sound, fun u hu hw a ha => ?_⟩
  rcases Nat.lt_or_ge u t with h1 | h1
  · exact h.part u h1 hw a ha
  · have : u = t := by omega
    subst this
    exact hd (h.got u hw) a ha
theorem Led.round (hs : s < S) (hn : ∀ u a, u < S → a < L → nx u a < S) {k : Nat} {bs : List Bool} (h : Led nx L S s k S bs) : Led nx L S s (k + 1) 0 bs where
  len := h.len
  got := fun u hu => by
    rcases hu with hu | ⟨v, a, hv, ha, rfl⟩
    · exact h.got u hu
    · exact h.part v (within_lt hs hn k v hv) hv a ha
  sound := h.sound
  part := fun u hu => by omega
/-- What the reference says in the end. -/
def Leads (nx : Nat → Nat → Nat) (L S s : Nat) (bs : List Bool) : Prop := bs.length = S ∧ ∀ u, bs[u]? = some true ↔ Rch nx L s u
theorem Led.all (hs : s < S) (hn : ∀ u a, u < S → a < L → nx u a < S) {bs : List Bool} (h : Led nx L S s S 0 bs) : Leads nx L S s bs :=
  ⟨h.len, fun u => ⟨h.sound u, fun hu => h.got u ((rch_within hs hn u).1 hu)⟩⟩
end

theorem true_of_getD {bs : List Bool} {n : Nat} (h : n < bs.length) : bs.getD n false = true ↔ bs[n]? = some true := by
  rw [List.getD_eq_getElem?_getD, List.getElem?_eq_getElem h]; simp

/-- The list of the states whose place in bs is true. -/
def trues (bs : List Bool) : Nat → List Int
  | 0 => []
  | k + 1 => if bs.getD k false then trues bs k ++ [(k : Int)] else trues bs k
/-- Recurrent: from all that is reachable one comes back. -/
def Back (nx : Nat → Nat → Nat) (L s : Nat) : Prop := ∀ t, Rch nx L s t → Rch nx L t s

end Go.Proofs.YtpgopmmobbemcaaGreat

set_option linter.unusedVariables false
set_option linter.unusedSimpArgs false
namespace Go.Proofs.YtpgopmmobbemcaaGreat
open Go.RowKit

/-- A forest: each vertex has one that is not greater. -/
structure Fst (f : List Nat) : Prop where
  len : f.length = 12
  le : ∀ v, v < 12 → f.getD v 0 ≤ v

def rootK (f : List Nat) : Nat → Nat → Nat
  | 0, v => v
  | k + 1, v => if f.getD v 0 = v then v else rootK f k (f.getD v 0)
def rootF (f : List Nat) (v : Nat) : Nat := rootK f v v

section
variable {f : List Nat}
theorem rootK_le (h : Fst f) : ∀ k v, v < 12 → rootK f k v ≤ v
  | 0, v, _ => Nat.le_refl v
  | k + 1, v, hv => by
    unfold rootK
    have h1 := h.le v hv
    split
    · exact Nat.le_refl v
    · exact Nat.le_trans (rootK_le h k _ (by omega)) h1
theorem rootK_fix (h : Fst f) : ∀ k v, v < 12 → v ≤ k → f.getD (rootK f k v) 0 = rootK f k v
  | 0, v, hv, hk => by
    have h0 : v = 0 := by omega
    subst h0
    have := h.le 0 (by omega)
    simp only [rootK]
    omega
  | k + 1, v, hv, hk => by
    unfold rootK
    have h1 := h.le v hv
    split
    · assumption
    · rename_i hne
      exact rootK_fix h k _ (by omega) (by omega)
theorem rootK_more (h : Fst f) : ∀ k v, v < 12 → v ≤ k → rootK f (k + 1) v = rootK f k v
  | 0, v, hv, hk => by
    have h0 : v = 0 := by omega
    subst h0
    have := h.le 0 (by omega)
    simp only [rootK]
    rw [if_pos (by omega)]
  | k + 1, v, hv, hk => by
    have h1 := h.le v hv
    show (if f.getD v 0 = v then v else rootK f (k + 1) (f.getD v 0)) = (if f.getD v 0 = v then v else rootK f k (f.getD v 0))
    by_cases hf : f.getD v 0 = v
    · rw [if_pos hf, if_pos hf]
    · rw [if_neg hf, if_neg hf]
      exact rootK_more h k _ (by omega) (by omega)
theorem rootK_eq (h : Fst f) {v : Nat} (hv : v < 12) : ∀ j, rootK f (v + j) v = rootF f v
  | 0 => rfl
  | j + 1 => by rw [← Nat.add_assoc, rootK_more h _ _ hv (by omega)]; exact rootK_eq h hv j
theorem rootF_le (h : Fst f) {v : Nat} (hv : v < 12) : rootF f v ≤ v := rootK_le h v v hv
theorem rootF_fix (h : Fst f) {v : Nat} (hv : v < 12) : f.getD (rootF f v) 0 = rootF f v := rootK_fix h v v hv (Nat.le_refl v)
theorem rootF_self (h : Fst f) {v : Nat} (hf : f.getD v 0 = v) : rootF f v = v := by
  unfold rootF
  cases v with
  | zero => rfl
  | succ k => rw [rootK, if_pos hf]
theorem rootF_step (h : Fst f) {v : Nat} (hv : v < 12) : rootF f v = rootF f (f.getD v 0) := by
  have h1 := h.le v hv
  by_cases hf : f.getD v 0 = v
  · rw [hf]
  · obtain ⟨k, rfl⟩ : ∃ k, v = k + 1 := ⟨v - 1, by omega⟩
    unfold rootF
    rw [rootK, if_neg hf]
    obtain ⟨j, hj⟩ : ∃ j, k = f.getD (k + 1) 0 + j := ⟨k - f.getD (k + 1) 0, by omega⟩
    have := rootK_eq h (show f.getD (k + 1) 0 < 12 by omega) j
    rw [← hj] at this
    exact this
end

/-- Two roots are joined; the lesser stands for both. -/
def joinF (f : List Nat) (a b : Nat) : List Nat := f.set (max (rootF f a) (rootF f b)) (min (rootF f a) (rootF f b))

section
variable {f : List Nat} {a b : Nat}
theorem getD_setN {l : List Nat} {i j x : Nat} (hi : i < l.length) : (l.set i x).getD j 0 = if i = j then x else l.getD j 0 := by
  rw [List.getD_eq_getElem?_getD, List.getD_eq_getElem?_getD]
  by_cases h : i = j
  · subst h; rw [List.getElem?_set_self hi, if_pos rfl]; rfl
  · rw [List.getElem?_set_ne h, if_neg h]
theorem joinF_get (h : Fst f) (ha : a < 12) (hb : b < 12) (j : Nat) : (joinF f a b).getD j 0 = if max (rootF f a) (rootF f b) = j then min (rootF f a) (rootF f b) else f.getD j 0 := by
  have h1 := rootF_le h ha
  have h2 := rootF_le h hb
  exact getD_setN (by rw [h.len]; omega)
theorem joinF_fst (h : Fst f) (ha : a < 12) (hb : b < 12) : Fst (joinF f a b) := by
  refine ⟨by simp [joinF, h.len], fun v hv => ?_⟩
  rw [joinF_get h ha hb]
  split
  · omega
  · exact h.le v hv
/-- What the roots are then. -/
theorem joinF_root (h : Fst f) (ha : a < 12) (hb : b < 12) : ∀ n v, v < n → v < 12 → rootF (joinF f a b) v = if rootF f v = max (rootF f a) (rootF f b) then min (rootF f a) (rootF f b) else rootF f v
  | 0, v, hn, _ => by omega
  | n + 1, v, hn, hv => by
    have hj := joinF_fst h ha hb
    have ih := joinF_root h ha hb n
    have ra := rootF_le h ha
    have rb := rootF_le h hb
    have fa := rootF_fix h ha
    have fb := rootF_fix h hb
    have h1 := h.le v hv
    have hget := joinF_get h ha hb
    generalize hA : rootF f a = A at *
    generalize hB : rootF f b = B at *
    have fM : f.getD (max A B) 0 = max A B := by
      rcases Nat.le_total A B with hab | hab
      · rw [Nat.max_eq_right hab]; exact fb
      · rw [Nat.max_eq_left hab]; exact fa
    have fm : f.getD (min A B) 0 = min A B := by
      rcases Nat.le_total A B with hab | hab
      · rw [Nat.min_eq_left hab]; exact fa
      · rw [Nat.min_eq_right hab]; exact fb
    have rM : rootF f (max A B) = max A B := rootF_self h fM
    have rm : rootF f (min A B) = min A B := rootF_self h fm
    by_cases hM : max A B = v
    · subst hM
      rw [rM, if_pos rfl]
      by_cases e : max A B = min A B
      · rw [rootF_self hj (by rw [hget, if_pos rfl]; exact e.symm), e]
      · have hlt : min A B < max A B := by omega
        rw [rootF_step hj hv, hget, if_pos rfl, ih (min A B) (by omega) (by omega), rm, if_neg (by omega)]
    · by_cases hf : f.getD v 0 = v
      · rw [rootF_self hj (by rw [hget, if_neg hM]; exact hf), rootF_self h hf, if_neg (fun e => hM e.symm)]
      · rw [rootF_step hj hv, hget, if_neg hM, ih (f.getD v 0) (by omega) (by omega), ← rootF_step h hv]
end

/-- The vertices that edges join stand in one class, whatever the classes are. -/
def Tied (es : List (Nat × Nat)) (u v : Nat) : Prop := ∀ c : Nat → Nat, (∀ x ∈ es, c x.1 = c x.2) → c u = c v

/-- The forest of the edges so far. -/
structure Uf (f : List Nat) (es : List (Nat × Nat)) : Prop where
  fst : Fst f
  tied : ∀ v, v < 12 → Tied es v (f.getD v 0)
  one : ∀ x ∈ es, rootF f x.1 = rootF f x.2

section
variable {f : List Nat} {es : List (Nat × Nat)}
theorem Uf.begin : Uf (List.range 12) [] := by
  have hg : ∀ v, v < 12 → (List.range 12).getD v 0 = v := fun v hv => by
    rw [List.getD_eq_getElem?_getD, List.getElem?_range hv]; rfl
  exact ⟨⟨by simp, fun v hv => by rw [hg v hv]; exact Nat.le_refl v⟩, fun v hv c _ => by rw [hg v hv], fun x hx => by simp at hx⟩
theorem Uf.root_tied (h : Uf f es) : ∀ n v, v < n → v < 12 → Tied es v (rootF f v)
  | 0, v, hn, _ => by omega
  | n + 1, v, hn, hv => fun c hc => by
    by_cases hf : f.getD v 0 = v
    · rw [rootF_self h.fst hf]
    · have h1 := h.fst.le v hv
      rw [rootF_step h.fst hv]
      exact (h.tied v hv c hc).trans (h.root_tied n (f.getD v 0) (by omega) (by omega) c hc)
theorem Uf.join (h : Uf f es) {a b : Nat} (ha : a < 12) (hb : b < 12) (hes : ∀ x ∈ es, x.1 < 12 ∧ x.2 < 12) : Uf (joinF f a b) (es ++ [(a, b)]) := by
  have ta := h.root_tied (a + 1) a (by omega) ha
  have tb := h.root_tied (b + 1) b (by omega) hb
  refine ⟨joinF_fst h.fst ha hb, fun v hv c hc => ?_, fun x hx => ?_⟩
  · have hc1 : ∀ x ∈ es, c x.1 = c x.2 := fun x hx => hc x (by simp [hx])
    rw [joinF_get h.fst ha hb]
    split
    · rename_i e
      have hab := hc (a, b) (by simp)
      simp only at hab
      have h1 := ta c hc1
      have h2 := tb c hc1
      rw [← e]
      rcases Nat.le_total (rootF f a) (rootF f b) with hl | hl
      · rw [Nat.max_eq_right hl, Nat.min_eq_left hl, ← h1, ← h2, hab]
      · rw [Nat.max_eq_left hl, Nat.min_eq_right hl, ← h1, ← h2, hab]
    · exact h.tied v hv c hc1
  · rcases List.mem_append.1 hx with hx | hx
    · rw [joinF_root h.fst ha hb 12 _ (hes x hx).1 (hes x hx).1, joinF_root h.fst ha hb 12 _ (hes x hx).2 (hes x hx).2, h.one x hx]
    · simp at hx
      subst hx
      rw [joinF_root h.fst ha hb 12 a ha ha, joinF_root h.fst ha hb 12 b hb hb]
      rcases Nat.le_total (rootF f a) (rootF f b) with hl | hl
      · rw [Nat.max_eq_right hl, Nat.min_eq_left hl]
        by_cases e : rootF f a = rootF f b
        · simp [e]
        · simp [e]
      · rw [Nat.max_eq_left hl, Nat.min_eq_right hl]
        by_cases e : rootF f b = rootF f a
        · simp [e]
        · simp [e]
theorem Uf.same (h : Uf f es) {u v : Nat} (hu : u < 12) (hv : v < 12) : rootF f u = rootF f v ↔ Tied es u v :=
  ⟨fun e c hc => (h.root_tied 12 u hu hu c hc).trans ((congrArg c e).trans (h.root_tied 12 v hv hv c hc).symm), fun ht => ht (rootF f) h.one⟩
/-- A root is the least of its class. -/
theorem Uf.least (h : Uf f es) {v : Nat} (hv : v < 12) : rootF f v = v ↔ ∀ u, u < v → ¬ Tied es u v := by
  constructor
  · intro e u hu ht
    have h1 := (h.same (by omega) hv).2 ht
    have h2 := rootF_le h.fst (show u < 12 by omega)
    omega
  · intro hn
    rcases Nat.lt_or_ge (rootF f v) v with h1 | h1
    · exact absurd (fun c hc => (h.root_tied 12 v hv hv c hc).symm) (hn _ h1)
    · have := rootF_le h.fst hv
      omega
end

theorem Tied.symm {es : List (Nat × Nat)} {u v : Nat} (h : Tied es u v) : Tied es v u := fun c hc => (h c hc).symm
theorem Tied.refl {es : List (Nat × Nat)} {u : Nat} : Tied es u u := fun c hc => rfl
theorem Tied.trans {es : List (Nat × Nat)} {u v x : Nat} (h : Tied es u v) (h2 : Tied es v x) : Tied es u x := fun c hc => (h c hc).trans (h2 c hc)

/-- Along the edges, step by step: adj says whether two vertices are joined. -/
def nxA (adj : Nat → Nat → Bool) (a b : Nat) : Nat := if adj a b then b else a
theorem rch_tied {adj : Nat → Nat → Bool} {N : Nat} {es : List (Nat × Nat)} (hadj : ∀ a b, adj a b = true ↔ (a, b) ∈ es ∨ (b, a) ∈ es) (hes : ∀ x ∈ es, x.1 < N ∧ x.2 < N) {u v : Nat} : Rch (nxA adj) N u v ↔ Tied es u v := by
  have step : ∀ x y : Nat, adj x y = true → Tied es x y := fun x y h c hc => by
    rcases (hadj x y).1 h with h | h
    · exact hc _ h
    · exact (hc _ h).symm
  constructor
  · intro h
    refine rch_in (P := fun t => Tied es u t) Tied.refl (fun x a hx ha => ?_) h
    unfold nxA
    split
    · exact hx.trans (step x a (by assumption))
    · exact hx
  · intro h
    have go : ∀ x y, y < N → adj x y = true → Rch (nxA adj) N u x → Rch (nxA adj) N u y := fun x y hy hxy hx => by
      have := rch_step hx hy
      simpa [nxA, hxy] using this
    have hcl : ∀ x ∈ es, (Rch (nxA adj) N u x.1 ↔ Rch (nxA adj) N u x.2) := fun x hx =>
      ⟨go _ _ (hes x hx).2 ((hadj _ _).2 (.inl hx)), go _ _ (hes x hx).1 ((hadj _ _).2 (.inr hx))⟩
    have key := h (fun t => @ite Nat (Rch (nxA adj) N u t) (Classical.propDecidable _) 0 1) (fun x hx => by
      by_cases h1 : Rch (nxA adj) N u x.1
      · rw [if_pos h1, if_pos ((hcl x hx).1 h1)]
      · rw [if_neg h1, if_neg fun h2 => h1 ((hcl x hx).2 h2)])
    rw [if_pos rch_refl] at key
    by_cases h2 : Rch (nxA adj) N u v
    · exact h2
    · rw [if_neg h2] at key; cases key

end Go.Proofs.YtpgopmmobbemcaaGreat

set_option linter.unusedVariables false
set_option linter.unusedSimpArgs false
namespace Go.Proofs.YtpgopmmobbemcaaGreat
open Go.RowKit

def castV (l : List Nat) : List Value := l.map fun n : Nat => .int .i64 n
theorem castV_get {l : List Nat} {i : Nat} (hi : i < l.length) : (castV l)[i]? = some (.int .i64 (l.getD i 0 : Nat)) := by
  simp only [castV, List.getElem?_map, List.getD_eq_getElem?_getD, List.getElem?_eq_getElem hi]
  rfl
theorem castV_set (l : List Nat) (i x : Nat) : (castV l).set i (.int .i64 x) = castV (l.set i x) := by simp [castV, List.map_set]
set_option maxHeartbeats 400000 in
theorem root_any (f : List Nat) (B v : Nat) (w : World) (hb : Box w B (castV f) 199) (hf : Hid (Fst f)) (hv : v < 12) :
    Calls Tryz.prog 168 #[.pointer (some ⟨B, 0, none⟩), .int .i64 v] w fun e w' => e = .returned (.int .i64 (rootF f v : Nat)) ∧ w = w' := by
  go_enter Tryz.func168, Tryz.ntmps168
  go_wp2_with fail
  go_loop [1] (fun uv => ∃ u : Nat, u < 12 ∧ uv = .int .i64 u ∧ Hid (rootF f v = rootF f u)) (fun uv => (intOf uv).toNat)
  case atStart => exact ⟨v, hv, rfl, rfl⟩
  case round =>
    obtain ⟨u, hu, rfl, HU⟩ := hrel
    have c0 := hb.cell u
    rw [castV_get (by rw [hf.out.len]; exact hu)] at c0
    have hle := hf.out.le u hu
    by_cases hfix : f.getD u 0 = u
    · have HR : Hid (rootF f v = u) := HU.out.trans (rootF_self hf.out hfix)
      rw [hfix] at c0
      have hq : ((u : Int) != (u : Int)) = false := by simp
      clear hfix hle
      go_wp2_with fail
      go_ret
      exact ⟨ret_int (by rw [HR.out]), rfl⟩
    · have HR : Hid (rootF f v = rootF f (f.getD u 0)) := HU.out.trans (rootF_step hf.out hu)
      generalize f.getD u 0 = x at c0 hle hfix HR
      have hq : ((x : Int) != (u : Int)) = true := by simp; omega
      have hlt : x < u := by omega
      clear hfix hle
      go_wp2_with fail
      go_round
      case rel => exact ⟨x, by omega, rfl, HR⟩
      case measure => simp [intOf]; omega

def JoinPost (w : World) (B : Nat) (f : List Nat) (a b : Nat) (e : Ending) (w' : World) : Prop :=
  e = .returned (.tuple #[]) ∧ Box w' B (castV (joinF f a b)) 199 ∧ ∀ n, n ≤ B → Below n w w'

set_option maxHeartbeats 400000 in
theorem join_any (f : List Nat) (B a b : Nat) (w : World) (hb : Box w B (castV f) 199) (hf : Hid (Fst f)) (ha : a < 12) (hbb : b < 12) :
    Calls Tryz.prog 167 #[.pointer (some ⟨B, 0, none⟩), .int .i64 a, .int .i64 b] w (JoinPost w B f a b) := by
  have h1 := rootF_le hf.out ha
  have h2 := rootF_le hf.out hbb
  go_enter Tryz.func167, Tryz.ntmps167
  go_wp2_with fail
  refine (root_any f B a _ hb hf ha).mono ?_
  rintro e w2 ⟨rfl, rfl⟩
  go_wp2_with fail
  refine (root_any f B b _ hb hf hbb).mono ?_
  rintro e w2 ⟨rfl, rfl⟩
  have HJ : Hid (joinF f a b = f.set (max (rootF f a) (rootF f b)) (min (rootF f a) (rootF f b))) := rfl
  generalize rootF f a = x at h1 HJ
  generalize rootF f b = y at h2 HJ
  have hlen : f.length = 12 := hf.out.len
  rcases Nat.lt_trichotomy x y with hxy | hxy | hxy
  · skip
    have c0 := hb.cell y
    rw [castV_get (by omega)] at c0
    have f0 := hb.free y
    have hp := hb.put y (.int .i64 x)
    rw [castV_set] at hp
    have HE : Hid (joinF f a b = f.set y x) := by show _ = _; rw [HJ.out, Nat.max_eq_right (by omega), Nat.min_eq_left (by omega)]
    go_wp2_with fail
    go_end0
    exact ⟨rfl, by rw [HE.out]; exact hp, fun n hn => (Below.refl n w).setCell hn _⟩
  · subst hxy
    have c0 := hb.cell x
    rw [castV_get (by omega)] at c0
    have f0 := hb.free x
    have hp := hb.put x (.int .i64 x)
    rw [castV_set] at hp
    have HE : Hid (joinF f a b = f.set x x) := by show _ = _; rw [HJ.out, Nat.max_self, Nat.min_self]
    go_wp2_with fail
    go_end0
    exact ⟨rfl, by rw [HE.out]; exact hp, fun n hn => (Below.refl n w).setCell hn _⟩
  · skip
    have c0 := hb.cell x
    rw [castV_get (by omega)] at c0
    have f0 := hb.free x
    have hp := hb.put x (.int .i64 y)
    rw [castV_set] at hp
    have HE : Hid (joinF f a b = f.set x y) := by show _ = _; rw [HJ.out, Nat.max_eq_left (by omega), Nat.min_eq_right (by omega)]
    go_wp2_with fail
    go_end0
    exact ⟨rfl, by rw [HE.out]; exact hp, fun n hn => (Below.refl n w).setCell hn _⟩

theorem twelve {α : Type} {l : List α} (h : l.length = 12) : ∃ a0 a1 a2 a3 a4 a5 a6 a7 a8 a9 a10 a11, l = [a0, a1, a2, a3, a4, a5, a6, a7, a8, a9, a10, a11] := by
  match l, h with
  | [a0, a1, a2, a3, a4, a5, a6, a7, a8, a9, a10, a11], _ => exact ⟨a0, a1, a2, a3, a4, a5, a6, a7, a8, a9, a10, a11, rfl⟩

set_option maxRecDepth 100000 in
set_option maxHeartbeats 1000000 in
theorem grown_any (w : World) : Calls Tryz.prog 166 #[] w fun e w' => e = .returned (.agg #[.int .i64 0, .int .i64 1, .int .i64 2, .int .i64 3, .int .i64 4, .int .i64 5, .int .i64 6, .int .i64 7, .int .i64 8, .int .i64 9, .int .i64 10, .int .i64 11]) ∧ Below w.heap.size w w' := by
  go_enter Tryz.func166, Tryz.ntmps166
  go_wp2_with fail
  have hb0 := box_refl w (.cells (castV (List.replicate 12 0)).toArray 199)
  have hb1 := Box.new (w.alloc (.cells (castV (List.replicate 12 0)).toArray 199)) (castV (List.replicate 12 0)) 199
  have hb2 := box_new hb0 (by simp) (.cells (castV (List.replicate 12 0)).toArray 199)
  rw [World.size_alloc] at hb1
  go_loopw [3] (fun iv wr => ∃ (k : Nat) (fl : List Nat), k ≤ 12 ∧ iv = .int .i64 k ∧ Hid (fl.length = 12 ∧ ∀ j, j < k → fl.getD j 0 = j) ∧ Box wr (w.heap.size + 1) (castV fl) 199 ∧
    Below (w.heap.size + 1) (w.alloc (.cells (castV (List.replicate 12 0)).toArray 199)) wr) (fun iv _ => 12 - (intOf iv).toNat)
  case atStart => exact ⟨0, _, by omega, rfl, ⟨by simp, fun j hj => by omega⟩, hb1, hb2⟩
  case round =>
    obtain ⟨k, fl, hk, rfl, HF, hbx, hbb⟩ := hrel
    by_cases hlt : k < 12
    · have c0 := hbx.cell k
      rw [castV_get (by rw [HF.out.1]; exact hlt)] at c0
      have f0 := hbx.free k
      have hp := hbx.put k (.int .i64 k)
      rw [castV_set] at hp
      have HF2 : Hid ((fl.set k k).length = 12 ∧ ∀ j, j < k + 1 → (fl.set k k).getD j 0 = j) := by
        refine ⟨by simp [HF.out.1], fun j hj => ?_⟩
        rw [getD_setN (by rw [HF.out.1]; exact hlt)]
        split
        · assumption
        · exact HF.out.2 j (by omega)
      go_wp2_with fail
      go_roundw
      case rel => exact ⟨k + 1, _, by omega, by go_num, HF2, hp, hbb.setCell (by simp) _⟩
      case measure => simp [intOf]; omega
    · have hfl : fl = List.range 12 := by
        apply List.ext_getElem
        · simp [HF.out.1]
        · intro i h1 h2
          have := HF.out.2 i (by have := HF.out.1; omega)
          rw [List.getD_eq_getElem?_getD, List.getElem?_eq_getElem h1] at this
          simpa using this
      subst hfl
      have q0 := hbx.cell 0
      have q1 := hbx.cell 1
      have q2 := hbx.cell 2
      have q3 := hbx.cell 3
      have q4 := hbx.cell 4
      have q5 := hbx.cell 5
      have q6 := hbx.cell 6
      have q7 := hbx.cell 7
      have q8 := hbx.cell 8
      have q9 := hbx.cell 9
      have q10 := hbx.cell 10
      have q11 := hbx.cell 11
      have E12 : castV (List.range 12) = [.int .i64 0, .int .i64 1, .int .i64 2, .int .i64 3, .int .i64 4, .int .i64 5, .int .i64 6, .int .i64 7, .int .i64 8, .int .i64 9, .int .i64 10, .int .i64 11] := rfl
      have Z12 : castV (List.replicate 12 0) = [.int .i64 0, .int .i64 0, .int .i64 0, .int .i64 0, .int .i64 0, .int .i64 0, .int .i64 0, .int .i64 0, .int .i64 0, .int .i64 0, .int .i64 0, .int .i64 0] := rfl
      rw [E12] at q0 q1 q2 q3 q4 q5 q6 q7 q8 q9 q10 q11
      simp only [List.getElem?_cons_zero, List.getElem?_cons_succ] at q0 q1 q2 q3 q4 q5 q6 q7 q8 q9 q10 q11
      have hr : Box wr w.heap.size (castV (List.replicate 12 0)) 199 := (hbb.block w.heap.size (by omega)).trans (heap_alloc_new w _)
      have r0 := hr.cell 0
      have r1 := hr.cell 1
      have r2 := hr.cell 2
      have r3 := hr.cell 3
      have r4 := hr.cell 4
      have r5 := hr.cell 5
      have r6 := hr.cell 6
      have r7 := hr.cell 7
      have r8 := hr.cell 8
      have r9 := hr.cell 9
      have r10 := hr.cell 10
      have r11 := hr.cell 11
      rw [Z12] at r0 r1 r2 r3 r4 r5 r6 r7 r8 r9 r10 r11
      simp only [List.getElem?_cons_zero, List.getElem?_cons_succ] at r0 r1 r2 r3 r4 r5 r6 r7 r8 r9 r10 r11
      have fr := fun i => hr.free i
      have hsz := hr.lt
      clear hb0 hb1 hb2 E12 Z12 HF hbx
      go_wp2_with fail
      have hfin := ((((((((((((hr.put 0 (.int .i64 0)).put 1 (.int .i64 1)).put 2 (.int .i64 2)).put 3 (.int .i64 3)).put 4 (.int .i64 4)).put 5 (.int .i64 5)).put 6 (.int .i64 6)).put 7 (.int .i64 7)).put 8 (.int .i64 8)).put 9 (.int .i64 9)).put 10 (.int .i64 10)).put 11 (.int .i64 11))
      rw [show castV (List.replicate 12 0) = [.int .i64 0, .int .i64 0, .int .i64 0, .int .i64 0, .int .i64 0, .int .i64 0, .int .i64 0, .int .i64 0, .int .i64 0, .int .i64 0, .int .i64 0, .int .i64 0] from rfl] at hfin
      simp only [List.set_cons_zero, List.set_cons_succ] at hfin
      have z0 := hfin.cell 0
      have z1 := hfin.cell 1
      have z2 := hfin.cell 2
      have z3 := hfin.cell 3
      have z4 := hfin.cell 4
      have z5 := hfin.cell 5
      have z6 := hfin.cell 6
      have z7 := hfin.cell 7
      have z8 := hfin.cell 8
      have z9 := hfin.cell 9
      have z10 := hfin.cell 10
      have z11 := hfin.cell 11
      simp only [List.getElem?_cons_zero, List.getElem?_cons_succ] at z0 z1 z2 z3 z4 z5 z6 z7 z8 z9 z10 z11
      have hbf := (below_box hbb)
      refine bodyPost_ret (v := .agg #[.int .i64 0, .int .i64 1, .int .i64 2, .int .i64 3, .int .i64 4, .int .i64 5, .int .i64 6, .int .i64 7, .int .i64 8, .int .i64 9, .int .i64 10, .int .i64 11]) ?_ rfl ⟨rfl, ?_⟩
      · simp [results, Tryz.results166, go_sem, z0, z1, z2, z3, z4, z5, z6, z7, z8, z9, z10, z11]
      · exact (((((((((((hbf.setCell (Nat.le_refl _) _).setCell (Nat.le_refl _) _).setCell (Nat.le_refl _) _).setCell (Nat.le_refl _) _).setCell (Nat.le_refl _) _).setCell (Nat.le_refl _) _).setCell (Nat.le_refl _) _).setCell (Nat.le_refl _) _).setCell (Nat.le_refl _) _).setCell (Nat.le_refl _) _).setCell (Nat.le_refl _) _).setCell (Nat.le_refl _) _

end Go.Proofs.YtpgopmmobbemcaaGreat

set_option linter.unusedVariables false
set_option linter.unusedSimpArgs false
namespace Go.Proofs.YtpgopmmobbemcaaGreat
open Go.RowKit Go.Maps

theorem intInfo8 : (Tryz.prog.info? 3).map (fun i => (i.zero, i.size, i.bytes)) = some (some (.int .i64 0), 1, 8) := by kernel_rfl
theorem listInfo : (Tryz.prog.info? 25).map (fun i => (i.zero, i.size, i.bytes)) = some (some (.slice none 0 0), 1, 24) := by kernel_rfl
theorem keyLaw : Keyed Tryz.prog 3 := int_keyed Tryz.underlying3
theorem zeroInt (w : World) : (zeroValue 3).run Tryz.prog w = .ok (.int .i64 0) w := by kernel_rfl
abbrev DU := DataW Unit
def kl (r : Nat) : Lit := .int .i64 r
def vl (r : Nat) : DU := .lit (.int .i64 r)
theorem nat_wf {r : Nat} (h : r < 9223372036854775808) : (Lit.int .i64 (r : Nat)).wf = true := WalkArith.wf_i64 ⟨by omega, by omega⟩

set_option maxRecDepth 100000 in
theorem look_at {w : World} {b n : Nat} {D : DU} (h : w.ownsMap Tryz.prog 3 (plainElem (H := Unit) Tryz.prog 3) b n D) {r i : Nat} (hr : r < 9223372036854775808) (hat : D.atKey (kl r) (vl 0) = vl i) :
    (Instr.lookup 210 (.map (some b)) (.int .i64 (r : Nat)) false).run Tryz.prog w = .ok (.int .i64 (i : Nat)) w := by
  obtain ⟨c, hrun, hc, _⟩ := World.ownsMap.lookup_int h keyLaw Tryz.underlying210 Tryz.underlying3 (zeroInt w) (keyOf_int_mk Tryz.underlying3 (nat_wf hr))
  have : vl i = (.lit (.int .i64 c) : DU) := hat.symm.trans hc
  simp only [vl, DataW.lit.injEq, Lit.int.injEq, true_and] at this
  rw [hrun, this]

theorem grown_setR (w : World) (p : Addr) (v : Value) : w.grownBy (w.setCell p v) (some p.block) := ⟨rfl, rfl, rfl, by simp, fun k _ hk => heap_setCell_other w p k v (fun e => hk (by simp [e]))⟩
theorem one_cell {w : World} {t : TypeId} {v : Value} {j : Nat} {u : Value} (h : [v][j]? = some u) : (w.alloc (.cells #[v] t)).cell? ((⟨w.heap.size, 0, none⟩ : Addr).add j) = some u := by
  have hj : j = 0 := by
    have := (List.getElem?_eq_some_iff.1 h).1
    simp at this
    exact this
  subst hj
  simp at h
  subst h
  exact (Box.new w [v] t).cell 0

/-- How many of the first n vertices stand for themselves. -/
def cnt (f : List Nat) (n : Nat) : Nat := ((List.range n).filter fun v => rootF f v == v).length
theorem cnt_yes {f : List Nat} {k : Nat} (h : rootF f k = k) : cnt f (k + 1) = cnt f k + 1 := by
  simp [cnt, List.range_succ, List.filter_append, h]
theorem cnt_no {f : List Nat} {k : Nat} (h : ¬ rootF f k = k) : cnt f (k + 1) = cnt f k := by
  simp [cnt, List.range_succ, List.filter_append, h]

def PartsPost (w : World) (f : List Nat) (n : Nat) (e : Ending) (w' : World) : Prop := ∃ oa c, e = .returned (.slice oa (cnt f n) c) ∧ Below w.heap.size w w'

set_option maxRecDepth 100000 in
set_option maxHeartbeats 4000000 in
theorem parts_any (f : List Nat) (B n : Nat) (w : World) (hb : Box w B (castV f) 199) (hf : Hid (Fst f)) (hn : n ≤ 12) :
    Calls Tryz.prog 159 #[.pointer (some ⟨B, 0, none⟩), .int .i64 n] w (PartsPost w f n) := by
  have hmm := @run_makeMap Tryz.prog
  have hBl := hb.lt
  obtain ⟨i0, hi0, hz0, hz1, hz2⟩ := info_parts listInfo
  go_enter Tryz.func159, Tryz.ntmps159
  go_wp2_with fail
  have hm0 := World.ownsMap_made (H := Unit) w Tryz.prog 3 (plainElem (H := Unit) Tryz.prog 3)
  have hb0 : Below w.heap.size w (w.alloc (.map #[] 0)) := (Below.refl _ _).alloc (Nat.le_refl _) _
  go_loopw [5, 11] (fun ov iv wr => ∃ (k : Nat) (vs : List Value) (xss : List (List Int)) (m : Nat) (D : DU), k ≤ n ∧ iv = .int .i64 k ∧ Hid (vs.length = cnt f k) ∧ Lists (w.heap.size + 1) 3 25 wr ov vs xss ∧
      wr.ownsMap Tryz.prog 3 (plainElem (H := Unit) Tryz.prog 3) w.heap.size m D ∧ m ≤ k ∧ vs.length ≤ k ∧ Hid (∀ r, r < k → rootF f r = r → ∃ i, i < vs.length ∧ D.atKey (kl r) (vl 0) = vl i) ∧ Hid (∀ xs ∈ xss, xs.length ≤ k) ∧ Below w.heap.size w wr) (fun _ iv _ => n - (intOf iv).toNat)
  case atStart => exact ⟨0, [], [], 0, _, by omega, rfl, rfl, Lists.nil _ _ _ _, hm0, by omega, by simp, fun r hr => by omega, fun xs hx => by simp at hx, hb0⟩
  case round =>
    clear hm0 hb0
    obtain ⟨k, vs, xss, m, D, hk, rfl, HC, HL, hmap, hmk, hvk, HI, HS, hbW⟩ := hrel
    by_cases hlt : k < n
    · have HR : Hid (rootF f k ≤ k) := rootF_le hf.out (by omega)
      have HRR : Hid (rootF f (rootF f k) = rootF f k) := rootF_self hf.out (rootF_fix hf.out (by omega))
      have hbw := hb.below hbW
      have hk12 : k < 12 := by omega
      have hszr := hbW.size
      go_wp2_with fail
      refine (root_any f B k _ hbw hf hk12).mono ?_
      rintro e w2 ⟨rfl, rfl⟩
      have hrk := HR.out
      by_cases hroot : rootF f k = k
      · have HC2 : Hid (vs.length + 1 = cnt f (k + 1)) := by show _ = _; rw [cnt_yes hroot, HC.out]
        rw [hroot]
        have hiD : IsMap D := hmap.isMap
        have HI2 : Hid (∀ r, r < k + 1 → rootF f r = r → ∃ i, i < (vs ++ [Value.slice none 0 0]).length ∧ (D.put (kl k) (vl vs.length)).atKey (kl r) (vl 0) = vl i) := by
          intro r hr hrr
          by_cases he : r = k
          · subst he
            exact ⟨vs.length, by simp, atKey_put_same hiD (show WideAt.IsKeyLit (kl r) from trivial) _ _⟩
          · obtain ⟨i, h1, h2⟩ := HI.out r (by omega) hrr
            exact ⟨i, by simp; omega, (atKey_put_other (fun h => he (by simp [kl] at h; omega)) _ _).trans h2⟩
        have HS2 : Hid (∀ xs ∈ xss ++ [[]], xs.length ≤ k) := by
          intro xs hxs
          rcases List.mem_append.1 hxs with h | h
          · exact HS.out xs h
          · simp at h; subst h; simp
        have hvs : (Lit.int .i64 (vs.length : Nat)).wf = true := nat_wf (by omega)
        have hq : ((k : Int) == (k : Int)) = true := by simp
        have hlen : ∃ oa c, u5 = .slice oa vs.length c := by
          rcases Go.Joins.ownsRow_forms HL.row with ⟨h1, h2⟩ | ⟨g, c, h1⟩
          · rw [h2]; exact ⟨_, _, h1⟩
          · exact ⟨_, _, h1⟩
        obtain ⟨oa, c0, rfl⟩ := hlen
        clear hroot HC HI HS hrk HR HRR hiD
        go_wp2_with (first
          | (at_mapUpdate; refine wpList_mapUpdate_own _ rfl _ _ _ 210 rfl 3 3 keyLaw Tryz.underlying210 (plainElem (H := Unit) Tryz.prog 3) w.heap.size m D rfl hmap (by unfold maxLen; omega) _ _ (kl k) rfl rfl (keyOf_int_mk Tryz.underlying3 (nat_wf (by omega))) (vl vs.length) [] (plainElem_int Tryz.underlying3 hvs) ?_; intro w2 hmap2 hgm)
          | (at_builtin; refine wpList_append_own_at _ rfl (.tmp 24) (.tmp 25) 129 rfl (w.heap.size + 1) 25 i0 _ 1 24 Tryz.underlying129 hi0 hz0 hz1 hz2 rfl (by decide) (.slice oa vs.length c0) vs.length vs rfl ((HL.under hgm (by omega)).row.alloc _) ⟨w2.heap.size, 0, none⟩ 1 1 [.slice none 0 0] rfl rfl (fun j u hj => one_cell hj) (by simp [Value.oneCell']) (by unfold maxLen; omega) (by omega) (by have := hgm.size; simp; omega) ?_; intro ov2 w4 hrow4 hg4 hnil4 hat4)
          | fail)
        obtain ⟨vs', xss', m', D', i, HC, HL, hmap, hmk, hvk, HI, HS, hbW, hi, hat⟩ : ∃ (vs' : List Value) (xss' : List (List Int)) (m' : Nat) (D' : DU) (i : Nat), Hid (vs'.length = cnt f (k + 1)) ∧ Lists (w.heap.size + 1) 3 25 w4 ov2 vs' xss' ∧ w4.ownsMap Tryz.prog 3 (plainElem (H := Unit) Tryz.prog 3) w.heap.size m' D' ∧ m' ≤ k + 1 ∧ vs'.length ≤ k + 1 ∧
            Hid (∀ r, r < k + 1 → rootF f r = r → ∃ i, i < vs'.length ∧ D'.atKey (kl r) (vl 0) = vl i) ∧ Hid (∀ xs ∈ xss', xs.length ≤ k) ∧ Below w.heap.size w w4 ∧ i < vs'.length ∧ Hid (D'.atKey (kl k) (vl 0) = vl i) := by
          refine ⟨_, _, m + 1, _, vs.length, by simpa using HC2, (HL.under hgm (by omega)).snoc hrow4 hg4 hat4, (hmap2.alloc _).kept hg4 (fun he => by have := (HL.row.lt _ he.symm).1; omega), by omega, by simp; omega, HI2, HS2, ?_, by simp, hide (atKey_put_same hmap.isMap (show WideAt.IsKeyLit (kl k) from trivial) _ _)⟩
          exact (((hbW.grown hgm (by omega) fun q hq => by injection hq with hq; omega).alloc (by have := hgm.size; omega) _).grown hg4 (by have := hgm.size; simp; omega) fun q hq => by have := (HL.row.lt _ hq).1; omega)
        clear HC2 HI2 HS2 hmap2 hgm hrow4 hg4 hnil4 hat4 hvs
        obtain ⟨g, cap, rfl⟩ := Go.Joins.ownsRow_form HL.row (by omega)
        obtain ⟨v, hv⟩ : ∃ v, vs'[i]? = some v := ⟨vs'[i], List.getElem?_eq_getElem hi⟩
        obtain ⟨xs, hx⟩ : ∃ xs, xss'[i]? = some xs := ⟨xss'[i]'(by rw [← HL.len]; exact hi), List.getElem?_eq_getElem _⟩
        have hcell := HL.row.cellAt i (by omega)
        rw [hv] at hcell
        have hfree := HL.row.frozenAt i
        have hgl := (HL.row.lt g rfl).2
        have hgb := (HL.row.lt g rfl).1
        have hxl := HS.out xs (List.mem_of_getElem? hx)
        have hown := (HL.ms.own i v xs hv hx)
        have hvb := fun q hq => HL.ms.block hv q hq
        have HG := hide (fun w' v' h1 h2 h3 => HL.draw.grow (w' := w') (v' := v') (x := (k : Int)) (o := .cells #[.int .i64 (k : Nat)] 3) hv hx h1 h2 h3)
        have hoffv : v.ownBlock ≠ some g := fun he => HL.off i v g hv he rfl
        have hszW := hbW.size
        have HS2 : Hid (∀ ys ∈ xss'.set i (xs ++ [(k : Int)]), ys.length ≤ k + 1) := by
          intro ys hys
          rcases List.mem_or_eq_of_mem_set hys with h | h
          · exact Nat.le_succ_of_le (HS.out ys h)
          · subst h; simp; exact hxl
        have HBW := hide hbW
        have L1 := look_at hmap.drew (show k < 9223372036854775808 by omega) hat.out
        have L2 := look_at (hmap.alloc (.cells #[.int .i64 (k : Nat)] 3)).drew (show k < 9223372036854775808 by omega) hat.out
        clear hv hx HL hbW HS
        go_wp2_with fail
        go_region_law (refine step_append_n rfl (.tmp 36) (.tmp 38) 25 rfl (w.heap.size + 1) 3 _ Tryz.underlying25 intInfo8 rfl v xs (by simp [Act.eval, Act.put]) (hown.draw.new _) ⟨w4.heap.size, 0, none⟩ 1 (k : Int) (by simp [Act.eval, Act.put]) (one_cell rfl) (by constructor <;> omega) (by omega) (by simp; omega) ?_; intro v' w3 ho3 hb3 hg3 hv3; obtain ⟨oa3, c3, rfl, _, _⟩ := ho3.slice; have hm3 := (hmap.drew.alloc (.cells #[.int .i64 (k : Nat)] 3)).kept hg3 (fun he => by have := (hvb _ he.symm).1; omega); have L3 := look_at hm3 (show k < 9223372036854775808 by omega) hat.out; have hf3 : w3.frozen? ⟨g, i, none⟩ = false := (hg3.frozen_far ⟨g, i, none⟩ (by simp; omega) (fun he => hoffv he.symm)).trans (((World.grownBy_alloc w4.drew _ none).frozen_far ⟨g, i, none⟩ hgl (by simp)).trans hfree); have hc3 : w3.cell? ⟨g, i, none⟩ = some v := (hg3.cell_far ⟨g, i, none⟩ (by simp; omega) (fun he => hoffv he.symm)).trans (((World.grownBy_alloc w4.drew _ none).cell_far ⟨g, i, none⟩ hgl (by simp)).trans hcell))
        all_goals
          have hL := HG.out _ _ ho3 hg3 hv3
          rw [List.length_set] at hL
          have hBf := ((HBW.out.drew.alloc hszW (.cells #[.int .i64 (k : Nat)] 3)).trans (hb3.mono (by omega))).setCell (p := ⟨g, i, none⟩) (by simp; omega) (.slice oa3 (xs ++ [(k : Int)]).length c3)
          have hmf := hm3.kept (grown_setR w3 ⟨g, i, none⟩ (.slice oa3 (xs ++ [(k : Int)]).length c3)) (by simp; omega)
          simp only [List.length_append, List.length_cons, List.length_nil, Nat.zero_add] at hL hBf hmf
          have HH := hide (And.intro hL (And.intro hBf hmf))
          clear hL hBf hmf L1 L2 L3 hf3 hc3 hcell hfree ho3 hg3 hv3 hb3
          go_wp2_with fail
          go_roundw
          case rel => exact ⟨k + 1, _, _, m', D', by omega, by go_num, (by show _ = _; rw [List.length_set]; exact HC.out), HH.out.1, HH.out.2.2, hmk, by simp; exact hvk, by rw [List.length_set]; exact HI, HS2, HH.out.2.1⟩
          case measure => simp [intOf]; omega
      · have HC2 : Hid (vs.length = cnt f (k + 1)) := by show _ = _; rw [cnt_no hroot, HC.out]
        have HI2 : Hid (∀ r, r < k + 1 → rootF f r = r → ∃ i, i < vs.length ∧ D.atKey (kl r) (vl 0) = vl i) := by
          intro r hr hrr
          by_cases he : r = k
          · subst he; exact (hroot hrr).elim
          · exact HI.out r (by omega) hrr
        clear HI
        generalize rootF f k = r at hroot hrk HR HRR
        have hq : ((r : Int) == (k : Int)) = false := by simp; omega
        obtain ⟨i0', h1, h2⟩ := HI2.out r (by omega) HRR.out
        obtain ⟨vs', xss', m', D', i, HC, HL, hmap, hmk, hvk, HI, HS, hbW, hi, hat⟩ : ∃ (vs' : List Value) (xss' : List (List Int)) (m' : Nat) (D' : DU) (i : Nat), Hid (vs'.length = cnt f (k + 1)) ∧ Lists (w.heap.size + 1) 3 25 wr u5 vs' xss' ∧ wr.ownsMap Tryz.prog 3 (plainElem (H := Unit) Tryz.prog 3) w.heap.size m' D' ∧ m' ≤ k + 1 ∧ vs'.length ≤ k + 1 ∧
            Hid (∀ r, r < k + 1 → rootF f r = r → ∃ i, i < vs'.length ∧ D'.atKey (kl r) (vl 0) = vl i) ∧ Hid (∀ xs ∈ xss', xs.length ≤ k) ∧ Below w.heap.size w wr ∧ i < vs'.length ∧ Hid (D'.atKey (kl r) (vl 0) = vl i) := by
          exact ⟨_, _, m, _, i0', HC2, HL, hmap, by omega, by omega, HI2, HS, hbW, h1, h2⟩
        clear HC2 HI2 hroot HR HRR
        obtain ⟨g, cap, rfl⟩ := Go.Joins.ownsRow_form HL.row (by omega)
        obtain ⟨v, hv⟩ : ∃ v, vs'[i]? = some v := ⟨vs'[i], List.getElem?_eq_getElem hi⟩
        obtain ⟨xs, hx⟩ : ∃ xs, xss'[i]? = some xs := ⟨xss'[i]'(by rw [← HL.len]; exact hi), List.getElem?_eq_getElem _⟩
        have hcell := HL.row.cellAt i (by omega)
        rw [hv] at hcell
        have hfree := HL.row.frozenAt i
        have hgl := (HL.row.lt g rfl).2
        have hgb := (HL.row.lt g rfl).1
        have hxl := HS.out xs (List.mem_of_getElem? hx)
        have hown := (HL.ms.own i v xs hv hx)
        have hvb := fun q hq => HL.ms.block hv q hq
        have HG := hide (fun w' v' h1 h2 h3 => HL.draw.grow (w' := w') (v' := v') (x := (k : Int)) (o := .cells #[.int .i64 (k : Nat)] 3) hv hx h1 h2 h3)
        have hoffv : v.ownBlock ≠ some g := fun he => HL.off i v g hv he rfl
        have hszW := hbW.size
        have HS2 : Hid (∀ ys ∈ xss'.set i (xs ++ [(k : Int)]), ys.length ≤ k + 1) := by
          intro ys hys
          rcases List.mem_or_eq_of_mem_set hys with h | h
          · exact Nat.le_succ_of_le (HS.out ys h)
          · subst h; simp; exact hxl
        have HBW := hide hbW
        have L1 := look_at hmap.drew (show r < 9223372036854775808 by omega) hat.out
        have L2 := look_at (hmap.alloc (.cells #[.int .i64 (k : Nat)] 3)).drew (show r < 9223372036854775808 by omega) hat.out
        clear hv hx HL hbW HS
        go_wp2_with fail
        go_region_law (refine step_append_n rfl (.tmp 36) (.tmp 38) 25 rfl (w.heap.size + 1) 3 _ Tryz.underlying25 intInfo8 rfl v xs (by simp [Act.eval, Act.put]) (hown.draw.new _) ⟨wr.heap.size, 0, none⟩ 1 (k : Int) (by simp [Act.eval, Act.put]) (one_cell rfl) (by constructor <;> omega) (by omega) (by simp; omega) ?_; intro v' w3 ho3 hb3 hg3 hv3; obtain ⟨oa3, c3, rfl, _, _⟩ := ho3.slice; have hm3 := (hmap.drew.alloc (.cells #[.int .i64 (k : Nat)] 3)).kept hg3 (fun he => by have := (hvb _ he.symm).1; omega); have L3 := look_at hm3 (show r < 9223372036854775808 by omega) hat.out; have hf3 : w3.frozen? ⟨g, i, none⟩ = false := (hg3.frozen_far ⟨g, i, none⟩ (by simp; omega) (fun he => hoffv he.symm)).trans (((World.grownBy_alloc wr.drew _ none).frozen_far ⟨g, i, none⟩ hgl (by simp)).trans hfree); have hc3 : w3.cell? ⟨g, i, none⟩ = some v := (hg3.cell_far ⟨g, i, none⟩ (by simp; omega) (fun he => hoffv he.symm)).trans (((World.grownBy_alloc wr.drew _ none).cell_far ⟨g, i, none⟩ hgl (by simp)).trans hcell))
        all_goals
          have hL := HG.out _ _ ho3 hg3 hv3
          rw [List.length_set] at hL
          have hBf := ((HBW.out.drew.alloc hszW (.cells #[.int .i64 (k : Nat)] 3)).trans (hb3.mono (by omega))).setCell (p := ⟨g, i, none⟩) (by simp; omega) (.slice oa3 (xs ++ [(k : Int)]).length c3)
          have hmf := hm3.kept (grown_setR w3 ⟨g, i, none⟩ (.slice oa3 (xs ++ [(k : Int)]).length c3)) (by simp; omega)
          simp only [List.length_append, List.length_cons, List.length_nil, Nat.zero_add] at hL hBf hmf
          have HH := hide (And.intro hL (And.intro hBf hmf))
          clear hL hBf hmf L1 L2 L3 hf3 hc3 hcell hfree ho3 hg3 hv3 hb3
          go_wp2_with fail
          go_roundw
          case rel => exact ⟨k + 1, _, _, m', D', by omega, by go_num, (by show _ = _; rw [List.length_set]; exact HC.out), HH.out.1, HH.out.2.2, hmk, by simp; exact hvk, by rw [List.length_set]; exact HI, HS2, HH.out.2.1⟩
          case measure => simp [intOf]; omega
    · have : k = n := by omega
      subst this
      have hlen : ∃ oa c, u5 = .slice oa vs.length c := by
        rcases Go.Joins.ownsRow_forms HL.row with ⟨h1, h2⟩ | ⟨g, c, h1⟩
        · rw [h2]; exact ⟨_, _, h1⟩
        · exact ⟨_, _, h1⟩
      obtain ⟨oa, c0, rfl⟩ := hlen
      go_wp2_with fail
      go_ret
      exact ⟨oa, c0, congrArg (fun q : Nat => Ending.returned (.slice oa q c0)) HC.out, hbW⟩

end Go.Proofs.YtpgopmmobbemcaaGreat

set_option linter.unusedVariables false
set_option linter.unusedSimpArgs false
set_option linter.unnecessarySimpa false
namespace Go.Proofs.YtpgopmmobbemcaaGreat
open Go.RowKit

/-- The vertex of a half-edge. -/
def hv (l : List (Int × Int)) (h : Nat) : Int := if h % 2 = 0 then (l.getD (h / 2) (0, 0)).1 else (l.getD (h / 2) (0, 0)).2

/-- The half-edges below H at a vertex. -/
def halfU (l : List (Int × Int)) (H : Nat) (v : Nat) : List Int := ((List.range H).filter fun h : Nat => hv l h == (v : Int)).map fun h : Nat => (h : Int)
theorem halfU_len (l : List (Int × Int)) (H v : Nat) : (halfU l H v).length ≤ H := by
  have := List.length_filter_le (fun h : Nat => hv l h == (v : Int)) (List.range H)
  simp [halfU]
  simpa using this
def halvesU (n : Nat) (l : List (Int × Int)) (H : Nat) : List (List Int) := (List.range n).map (halfU l H)
theorem halvesU_get {n : Nat} {l : List (Int × Int)} {H v : Nat} (hv : v < n) : (halvesU n l H)[v]? = some (halfU l H v) := by
  simp [halvesU, hv]
theorem Lists.made {e lt : TypeId} {w : World} {g n : Nat} (h : w.ownsRow g lt 1 (.slice (some ⟨g, 0, none⟩) n n) n (List.replicate n (.slice none 0 0))) :
    Lists g e lt w (.slice (some ⟨g, 0, none⟩) n n) (List.replicate n (.slice none 0 0)) (List.replicate n []) := by
  refine ⟨by simpa using h, OwnM.nils n, fun i v k hi hk => ?_⟩
  rw [List.getElem?_replicate] at hi
  split at hi
  · injection hi with hi
    subst hi
    simp [Value.ownBlock] at hk
  · cases hi

def HalvesPost (w : World) (n : Nat) (l : List (Int × Int)) (e : Ending) (w' : World) : Prop :=
  ∃ g vs, e = .returned (.slice (some ⟨g, 0, none⟩) n n) ∧ vs.length = n ∧ Lists w.heap.size 3 25 w' (.slice (some ⟨g, 0, none⟩) n n) vs (halvesU n l (2 * l.length)) ∧ Below w.heap.size w w'

end Go.Proofs.YtpgopmmobbemcaaGreat

set_option linter.unusedVariables false
set_option linter.unusedSimpArgs false
set_option linter.unnecessarySimpa false
namespace Go.Proofs.YtpgopmmobbemcaaGreat
open Go.RowKit

set_option maxRecDepth 100000 in
theorem rsize_any (n : Int) (es : List Edg) (oe : Option Addr) (c : Nat) (F : Foot) (w : World) (hs : SliceR edgR 3 F w oe es) (hc : es.length ≤ c) (hc2 : es.length ≤ 1000) (hm : Hid (∀ x ∈ es, x.m ≤ 50)) :
    Calls Tryz.prog 114 #[.agg #[.int .i64 n, .slice oe es.length c]] w (ErrPost w ((endsL es).length : Nat)) := by
  go_enter Tryz.func114, Tryz.ntmps114
  go_wp2_with fail
  have hb0 := box_refl w (.cells #[.int .i64 n, .slice oe es.length c] 24)
  refine (rgends_any n es oe c F _ (hs.below edgR_ok (below_box hb0)) hc hc2 hm).mono ?_
  rintro e w2 ⟨v, rfl, ho, hb2⟩
  obtain ⟨ov, cv, rfl, _, _⟩ := ho.slice prR_ok
  have hx := below_box (hb2.mono (B' := w.heap.size + 1) (by simp))
  clear ho hb2
  go_wp2_with fail
  go_ret
  exact ⟨rfl, hx⟩

/-- The edges from the vertices below u to v. -/
def valU (es : List Edg) (v : Int) : Nat → Int
  | 0 => 0
  | u + 1 => valU es v u + (if (u : Int) = v then 0 else betw es u v)
theorem betw_range {es : List Edg} (h : ∀ x ∈ es, 0 ≤ x.m ∧ x.m ≤ 50) (a b : Int) : 0 ≤ betw es a b ∧ betw es a b ≤ 50 := by
  induction es with
  | nil => simp [betw]
  | cons x r ih =>
    unfold betw
    split
    · exact h x (by simp)
    · exact ih fun y hy => h y (by simp [hy])
theorem valU_range {es : List Edg} (h : ∀ x ∈ es, 0 ≤ x.m ∧ x.m ≤ 50) (v : Int) : ∀ u, 0 ≤ valU es v u ∧ valU es v u ≤ 50 * u
  | 0 => by simp [valU]
  | u + 1 => by
    have h1 := valU_range h v u
    have h2 := betw_range h u v
    unfold valU
    split <;> omega

set_option maxRecDepth 100000 in
set_option maxHeartbeats 1000000 in
theorem val_any (n : Nat) (hn : n ≤ 12) (es : List Edg) (oe : Option Addr) (c : Nat) (F : Foot) (w : World) (hs : SliceR edgR 3 F w oe es) (hc : es.length ≤ c) (hc2 : es.length ≤ 1000) (hm : Hid (∀ x ∈ es, 0 ≤ x.m ∧ x.m ≤ 50)) (v : Int) :
    Calls Tryz.prog 122 #[.agg #[.int .i64 n, .slice oe es.length c], .int .i64 v] w (ErrPost w (valU es v n)) := by
  go_enter Tryz.func122, Tryz.ntmps122
  go_wp2_with fail
  have hb0 := box_refl w (.cells #[.int .i64 n, .slice oe es.length c] 24)
  go_loopw [5, 6] (fun sv iv wr => ∃ k : Nat, k ≤ n ∧ iv = .int .i64 k ∧ sv = .int .i64 (valU es v k) ∧ Below (w.heap.size + 1) (w.alloc (.cells #[.int .i64 n, .slice oe es.length c] 24)) wr) (fun _ iv _ => n - (intOf iv).toNat)
  case atStart => exact ⟨0, by omega, rfl, rfl, hb0⟩
  case round =>
    clear hb0
    obtain ⟨k, hk, rfl, rfl, hb⟩ := hrel
    have d0 := box_cell hb 0
    have d1 := box_cell hb 1
    simp at d0 d1
    have hvr := valU_range hm.out v k
    have hbr := betw_range hm.out k v
    by_cases hlt : k < n
    · by_cases hkv : (k : Int) = v
      · have HR : Hid (valU es v (k + 1) = valU es v k) := by show _ = _; rw [valU, if_pos hkv, Int.add_zero]
        have q1 : ((k : Int) != v) = false := by simp [hkv]
        have HK := hide hkv
        clear hkv
        generalize valU es v k = s at hvr HR
        go_wp2_with fail
        go_roundw
        case rel => exact ⟨k + 1, by omega, by go_num, by rw [HR.out], hb⟩
        case measure => simp [intOf]; omega
      · have HR : Hid (valU es v (k + 1) = valU es v k + betw es k v) := by show _ = _; rw [valU, if_neg hkv]
        have q1 : ((k : Int) != v) = true := by simp [hkv]
        have HK := hide hkv
        have hcall := betw_any n es oe c F wr (hs.below edgR_ok (below_box hb)) hc (by omega) k v
        clear hkv
        generalize valU es v k = s at hvr HR
        generalize betw es k v = t at hbr HR hcall
        go_wp2_with fail
        refine hcall.mono ?_
        rintro e w4 ⟨rfl, hb4⟩
        have HB := hide (hb.trans (hb4.mono (box_lt hb)))
        clear hb4
        go_wp2_with fail
        go_roundw
        case rel => exact ⟨k + 1, by omega, by go_num, by rw [HR.out], HB.out⟩
        case measure => simp [intOf]; omega
    · have : k = n := by omega
      subst this
      go_wp2_with fail
      go_ret
      exact ⟨rfl, below_box hb⟩

def degU (n : Nat) (es : List Edg) (v : Int) : Int := valU es v n + 2 * betw es v v
end Go.Proofs.YtpgopmmobbemcaaGreat

set_option linter.unusedVariables false
set_option linter.unusedSimpArgs false
namespace Go.Proofs.YtpgopmmobbemcaaGreat
open Go.RowKit

def AggPost (F : Foot) (w : World) (p : Prc) (e : Ending) (w' : World) : Prop := ∃ cs, e = .returned (.agg cs.toArray) ∧ prcR F w' cs p ∧ Below w.heap.size w w'

end Go.Proofs.YtpgopmmobbemcaaGreat

set_option linter.unusedVariables false
set_option linter.unusedSimpArgs false
namespace Go.Proofs.YtpgopmmobbemcaaGreat
open Go.RowKit

def eL (es : List Edg) : List (Nat × Nat) := es.map fun x => (x.a.toNat, x.b.toNat)
theorem eL_next {es : List Edg} {k : Nat} {a b : Nat} {m : Int} (h : es[k]? = some ⟨a, b, m⟩) : eL (es.take (k + 1)) = eL (es.take k) ++ [(a, b)] := by
  rw [List.take_add_one, h]
  simp [eL]
theorem eL_lt {n : Int} {es : List Edg} (hV : gErr n es = 0) (k : Nat) : ∀ x ∈ eL (es.take k), x.1 < 12 ∧ x.2 < 12 := by
  intro x hx
  simp only [eL, List.mem_map] at hx
  obtain ⟨y, hy, rfl⟩ := hx
  have h := (gErr_zero hV).2.1 y (List.mem_of_mem_take hy)
  have h2 := (gErr_zero hV).1
  constructor
  · simp only; omega
  · simp only; omega

def ForestPost (w : World) (es : List Edg) (e : Ending) (w' : World) : Prop :=
  ∃ f, e = .returned (.agg (castV f).toArray) ∧ Uf f (eL es) ∧ Below w.heap.size w w'

set_option maxRecDepth 100000 in
set_option maxHeartbeats 2000000 in
theorem joinedG_any (n : Int) (es : List Edg) (oe : Option Addr) (c : Nat) (F : Foot) (w : World) (hs : SliceR edgR 3 F w oe es) (hc : es.length ≤ c) (hc2 : es.length ≤ 9223372036854775807) (hV : Hid (gErr n es = 0)) :
    Calls Tryz.prog 158 #[.agg #[.int .i64 n, .slice oe es.length c]] w (ForestPost w es) := by
  go_enter Tryz.func158, Tryz.ntmps158
  go_wp2_with fail
  refine (grown_any _).mono ?_
  rintro e w2 ⟨rfl, hb2⟩
  have hx2 := box_then (box_new (box_refl w (.cells #[.int .i64 n, .slice oe es.length c] 24)) (by simp) (.cells #[.int .i64 0, .int .i64 0, .int .i64 0, .int .i64 0, .int .i64 0, .int .i64 0, .int .i64 0, .int .i64 0, .int .i64 0, .int .i64 0, .int .i64 0, .int .i64 0] 199)) (by simp) hb2
  have hr2 := (Box.new (w.alloc (.cells #[.int .i64 n, .slice oe es.length c] 24)) [.int .i64 0, .int .i64 0, .int .i64 0, .int .i64 0, .int .i64 0, .int .i64 0, .int .i64 0, .int .i64 0, .int .i64 0, .int .i64 0, .int .i64 0, .int .i64 0] 199).below hb2
  rw [World.size_alloc] at hr2
  have hsz2 := hr2.lt
  have d1 := box_cell hx2 1
  simp at d1
  have hszx : w.heap.size < w2.heap.size := by omega
  have d1n := cell_next d1 (.cells #[.int .i64 0, .int .i64 1, .int .i64 2, .int .i64 3, .int .i64 4, .int .i64 5, .int .i64 6, .int .i64 7, .int .i64 8, .int .i64 9, .int .i64 10, .int .i64 11] 199)
  clear hb2
  go_wp2_with fail
  have hx3 := box_new hx2 (by simp) (.cells #[.int .i64 0, .int .i64 1, .int .i64 2, .int .i64 3, .int .i64 4, .int .i64 5, .int .i64 6, .int .i64 7, .int .i64 8, .int .i64 9, .int .i64 10, .int .i64 11] 199)
  have hf3 : Box (w2.alloc (.cells #[.int .i64 0, .int .i64 1, .int .i64 2, .int .i64 3, .int .i64 4, .int .i64 5, .int .i64 6, .int .i64 7, .int .i64 8, .int .i64 9, .int .i64 10, .int .i64 11] 199)) w2.heap.size (castV (List.range 12)) 199 := Box.new w2 (castV (List.range 12)) _
  have hr3 := hr2.next (.cells #[.int .i64 0, .int .i64 1, .int .i64 2, .int .i64 3, .int .i64 4, .int .i64 5, .int .i64 6, .int .i64 7, .int .i64 8, .int .i64 9, .int .i64 10, .int .i64 11] 199)
  have hU := hide (Uf.begin)
  clear hx2 hr2 d1 d1n
  go_loopw [10] (fun iv wr => ∃ (k : Nat) (f : List Nat), k ≤ es.length ∧ iv = .int .i64 k ∧ Hid (Uf f (eL (es.take k))) ∧ Box wr w2.heap.size (castV f) 199 ∧ Box wr (w.heap.size + 1) [.int .i64 0, .int .i64 0, .int .i64 0, .int .i64 0, .int .i64 0, .int .i64 0, .int .i64 0, .int .i64 0, .int .i64 0, .int .i64 0, .int .i64 0, .int .i64 0] 199 ∧
    Below (w.heap.size + 1) (w.alloc (.cells #[.int .i64 n, .slice oe es.length c] 24)) wr) (fun iv _ => es.length - (intOf iv).toNat)
  case atStart => exact ⟨0, _, by omega, rfl, hU, hf3, hr3, hx3⟩
  case round =>
    obtain ⟨k, f, hk, rfl, HU, hf, hr, hb⟩ := hrel
    clear hx3 hf3 hr3 hU
    have hszf := hf.lt
    by_cases hlt : k < es.length
    · obtain ⟨a, b, m, _, hget, _, _, _, bl, off, rfl, _, c0, c1, c2⟩ := (hs.below edgR_ok (below_box hb)).edg_at hlt
      have hve := (gErr_zero hV.out).2.1 _ (List.mem_of_getElem? hget)
      have hvn := (gErr_zero hV.out).1
      simp only at hve
      obtain ⟨a, rfl⟩ := Int.eq_ofNat_of_zero_le hve.1.1
      obtain ⟨b, rfl⟩ := Int.eq_ofNat_of_zero_le hve.2.1.1
      have ha : a < 12 := by omega
      have hbb : b < 12 := by omega
      have hbl := World.block_lt_of_cell? _ _ c0
      simp only at hbl
      have HU2 : Hid (Uf (joinF f a b) (eL (es.take (k + 1)))) := by
        show Uf _ _
        rw [eL_next hget]
        exact HU.out.join ha hbb (eL_lt hV.out k)
      have HF := hide HU.out.fst
      have bx := Box.new wr [.int .i64 a, .int .i64 b, .int .i64 m] 123
      have x0 := bx.cell 0
      have x1 := bx.cell 1
      simp at x0 x1
      clear hget hve bx
      go_wp2_with fail
      refine (join_any f w2.heap.size a b _ (hf.next _) HF ha hbb).mono ?_
      rintro e w4 ⟨rfl, hf4, hb4⟩
      have hb4a := hb4 (w.heap.size + 2) (by omega)
      go_wp2_with fail
      go_roundw
      case rel => exact ⟨k + 1, _, by omega, by go_num, HU2, hf4, (hr.next _).under hb4a (by omega), (box_new hb (by simp) _).trans (hb4a.mono (by omega))⟩
      case measure => simp [intOf]; omega
    · have hk2 : k = es.length := by omega
      have HUF : Hid (Uf f (eL es)) := by
        have := HU.out
        rw [hk2, List.take_length] at this
        exact this
      obtain ⟨a0, a1, a2, a3, a4, a5, a6, a7, a8, a9, a10, a11, rfl⟩ := twelve HU.out.fst.len
      have q : ∀ i, wr.cell? ⟨w2.heap.size, i, none⟩ = ([.int .i64 (a0 : Nat), .int .i64 (a1 : Nat), .int .i64 (a2 : Nat), .int .i64 (a3 : Nat), .int .i64 (a4 : Nat), .int .i64 (a5 : Nat), .int .i64 (a6 : Nat), .int .i64 (a7 : Nat), .int .i64 (a8 : Nat), .int .i64 (a9 : Nat), .int .i64 (a10 : Nat), .int .i64 (a11 : Nat)] : List Value)[i]? := fun i => hf.cell i
      have q0 := q 0
      have q1 := q 1
      have q2 := q 2
      have q3 := q 3
      have q4 := q 4
      have q5 := q 5
      have q6 := q 6
      have q7 := q 7
      have q8 := q 8
      have q9 := q 9
      have q10 := q 10
      have q11 := q 11
      simp only [List.getElem?_cons_zero, List.getElem?_cons_succ] at q0 q1 q2 q3 q4 q5 q6 q7 q8 q9 q10 q11
      have r0 := hr.cell 0
      have r1 := hr.cell 1
      have r2 := hr.cell 2
      have r3 := hr.cell 3
      have r4 := hr.cell 4
      have r5 := hr.cell 5
      have r6 := hr.cell 6
      have r7 := hr.cell 7
      have r8 := hr.cell 8
      have r9 := hr.cell 9
      have r10 := hr.cell 10
      have r11 := hr.cell 11
      simp only [List.getElem?_cons_zero, List.getElem?_cons_succ] at r0 r1 r2 r3 r4 r5 r6 r7 r8 r9 r10 r11
      have fr := fun i => hr.free i
      have hszr := hr.lt
      have hbf := below_box hb
      have HHR := hide hr
      clear hk2 HU q hf hr
      go_wp2_with fail
      have hfin := ((((((((((((HHR.out.put 0 (.int .i64 (a0 : Nat))).put 1 (.int .i64 (a1 : Nat))).put 2 (.int .i64 (a2 : Nat))).put 3 (.int .i64 (a3 : Nat))).put 4 (.int .i64 (a4 : Nat))).put 5 (.int .i64 (a5 : Nat))).put 6 (.int .i64 (a6 : Nat))).put 7 (.int .i64 (a7 : Nat))).put 8 (.int .i64 (a8 : Nat))).put 9 (.int .i64 (a9 : Nat))).put 10 (.int .i64 (a10 : Nat))).put 11 (.int .i64 (a11 : Nat)))
      simp only [List.set_cons_zero, List.set_cons_succ] at hfin
      have z0 := hfin.cell 0
      have z1 := hfin.cell 1
      have z2 := hfin.cell 2
      have z3 := hfin.cell 3
      have z4 := hfin.cell 4
      have z5 := hfin.cell 5
      have z6 := hfin.cell 6
      have z7 := hfin.cell 7
      have z8 := hfin.cell 8
      have z9 := hfin.cell 9
      have z10 := hfin.cell 10
      have z11 := hfin.cell 11
      simp only [List.getElem?_cons_zero, List.getElem?_cons_succ] at z0 z1 z2 z3 z4 z5 z6 z7 z8 z9 z10 z11
      refine bodyPost_ret (v := .agg #[.int .i64 (a0 : Nat), .int .i64 (a1 : Nat), .int .i64 (a2 : Nat), .int .i64 (a3 : Nat), .int .i64 (a4 : Nat), .int .i64 (a5 : Nat), .int .i64 (a6 : Nat), .int .i64 (a7 : Nat), .int .i64 (a8 : Nat), .int .i64 (a9 : Nat), .int .i64 (a10 : Nat), .int .i64 (a11 : Nat)]) ?_ rfl ⟨[a0, a1, a2, a3, a4, a5, a6, a7, a8, a9, a10, a11], rfl, HUF.out, ?_⟩
      · simp [results, Tryz.results158, go_sem, z0, z1, z2, z3, z4, z5, z6, z7, z8, z9, z10, z11]
      · exact (((((((((((hbf.setCell (by simp) _).setCell (by simp) _).setCell (by simp) _).setCell (by simp) _).setCell (by simp) _).setCell (by simp) _).setCell (by simp) _).setCell (by simp) _).setCell (by simp) _).setCell (by simp) _).setCell (by simp) _).setCell (by simp) _

end Go.Proofs.YtpgopmmobbemcaaGreat

set_option linter.unusedVariables false
set_option linter.unusedSimpArgs false
set_option linter.unnecessarySimpa false
namespace Go.Proofs.YtpgopmmobbemcaaGreat
open Go.RowKit

theorem cnt_uf {E : List (Nat × Nat)} {f g : List Nat} (hf : Uf f E) (hg : Uf g E) {n : Nat} (hn : n ≤ 12) : cnt f n = cnt g n := by
  unfold cnt
  congr 1
  refine List.filter_congr fun v hv => ?_
  have hv2 : v < 12 := by have := List.mem_range.1 hv; omega
  have h1 := (hf.least hv2).trans (hg.least hv2).symm
  show (rootF f v == v) = (rootF g v == v)
  by_cases h : rootF f v = v
  · rw [h, h1.1 h]
  · rw [beq_eq_false_iff_ne.2 h, beq_eq_false_iff_ne.2 (fun e => h (h1.2 e))]

/-- How many parts a right graph has; 0 of a wrong one. -/
def partsN (n : Int) (es : List Edg) (f : List Nat) : Nat := if gErr n es = 0 then cnt f n.toNat else 0
def CompPost (w : World) (n : Int) (es : List Edg) (f : List Nat) (e : Ending) (w' : World) : Prop :=
  (∃ oa c, e = .returned (.tuple #[.slice oa (partsN n es f) c, .int .i64 (gErr n es)])) ∧ Below w.heap.size w w'

set_option maxRecDepth 100000 in
set_option maxHeartbeats 2000000 in
theorem comps_any (n : Int) (es : List Edg) (oe : Option Addr) (c : Nat) (F : Foot) (w : World) (hs : SliceR edgR 3 F w oe es) (hc : es.length ≤ c) (hc2 : es.length ≤ 9223372036854775807)
    (f : List Nat) (hU : Hid (gErr n es = 0 → Uf f (eL es))) : Calls Tryz.prog 140 #[.agg #[.int .i64 n, .slice oe es.length c]] w (CompPost w n es f) := by
  go_enter Tryz.func140, Tryz.ntmps140
  go_wp2_with fail
  have hb0 := box_refl w (.cells #[.int .i64 n, .slice oe es.length c] 24)
  refine (gcheck_any n es oe c F _ (hs.below edgR_ok (below_box hb0)) hc hc2).mono ?_
  rintro e w2 ⟨rfl, hb2⟩
  have hx2 := hb2.mono (B' := w.heap.size + 1) (by simp)
  have d0 := box_cell hx2 0
  have d1 := box_cell hx2 1
  simp at d0 d1
  clear hb2 hb0
  have hs2 := hs.below edgR_ok (below_box hx2)
  by_cases hV : gErr n es = 0
  · have HV := hide hV
    have HP : Hid (partsN n es f = cnt f n.toNat) := if_pos hV
    have hn := (gErr_zero hV).1
    rw [hV]
    obtain ⟨N, rfl⟩ := Int.eq_ofNat_of_zero_le (show 0 ≤ n by omega)
    go_wp2_with fail
    refine (joinedG_any N es oe c F _ hs2 hc hc2 HV).mono ?_
    rintro e w3 ⟨g, rfl, hg, hb3⟩
    have hx3 := hx2.trans (hb3.mono (box_lt hx2))
    have d0 := box_cell hx3 0
    simp at d0
    have HG := hide hg
    have hlt3 := box_lt hx3
    clear hb3 d1 hx2 hs2
    obtain ⟨a0, a1, a2, a3, a4, a5, a6, a7, a8, a9, a10, a11, hg12⟩ := twelve hg.fst.len
    have hca : castV g = [.int .i64 (a0 : Nat), .int .i64 (a1 : Nat), .int .i64 (a2 : Nat), .int .i64 (a3 : Nat), .int .i64 (a4 : Nat), .int .i64 (a5 : Nat), .int .i64 (a6 : Nat), .int .i64 (a7 : Nat), .int .i64 (a8 : Nat), .int .i64 (a9 : Nat), .int .i64 (a10 : Nat), .int .i64 (a11 : Nat)] := by rw [hg12]; rfl
    have d0n := cell_next d0 (.cells #[.int .i64 (a0 : Nat), .int .i64 (a1 : Nat), .int .i64 (a2 : Nat), .int .i64 (a3 : Nat), .int .i64 (a4 : Nat), .int .i64 (a5 : Nat), .int .i64 (a6 : Nat), .int .i64 (a7 : Nat), .int .i64 (a8 : Nat), .int .i64 (a9 : Nat), .int .i64 (a10 : Nat), .int .i64 (a11 : Nat)] 199)
    have hbx : Box (w3.alloc (.cells #[.int .i64 (a0 : Nat), .int .i64 (a1 : Nat), .int .i64 (a2 : Nat), .int .i64 (a3 : Nat), .int .i64 (a4 : Nat), .int .i64 (a5 : Nat), .int .i64 (a6 : Nat), .int .i64 (a7 : Nat), .int .i64 (a8 : Nat), .int .i64 (a9 : Nat), .int .i64 (a10 : Nat), .int .i64 (a11 : Nat)] 199)) w3.heap.size (castV g) 199 := by rw [hca]; exact Box.new w3 _ _
    rw [hca]
    have HB3 := hide (box_new hx3 (by simp) (.cells #[.int .i64 (a0 : Nat), .int .i64 (a1 : Nat), .int .i64 (a2 : Nat), .int .i64 (a3 : Nat), .int .i64 (a4 : Nat), .int .i64 (a5 : Nat), .int .i64 (a6 : Nat), .int .i64 (a7 : Nat), .int .i64 (a8 : Nat), .int .i64 (a9 : Nat), .int .i64 (a10 : Nat), .int .i64 (a11 : Nat)] 199))
    clear hca hg12 hg hV hx3
    go_wp2_with fail
    refine (parts_any g w3.heap.size N _ hbx (hide HG.out.fst) (by omega)).mono ?_
    rintro e w4 ⟨oa, c4, rfl, hb4⟩
    have HF : Hid (cnt g N = partsN (N : Int) es f) := by
      show _ = _
      rw [HP.out]
      exact cnt_uf HG.out (hU.out HV.out) (by omega)
    have HB4 := hide (below_then (below_box HB3.out) (hb4.mono (by simp)))
    clear hb4 hbx
    go_wp2_with fail
    go_ret2
    refine ⟨⟨oa, c4, ?_⟩, ?_⟩
    · rw [← HF.out, HV.out]; rfl
    · exact HB4.out
  · have HP : Hid (partsN n es f = 0) := if_neg hV
    have hx := hide (below_box hx2)
    have hq : (gErr n es != 0) = true := by simpa using hV
    go_wp2_with fail
    go_ret2
    exact ⟨⟨none, 0, by rw [HP.out]; rfl⟩, hx.out⟩

def ConnPost (w : World) (n : Int) (es : List Edg) (f : List Nat) (e : Ending) (w' : World) : Prop :=
  e = .returned (.tuple #[.bool (partsN n es f == 1), .int .i64 (gErr n es)]) ∧ Below w.heap.size w w'

set_option maxRecDepth 100000 in
set_option maxHeartbeats 1000000 in
theorem conn_any (n : Int) (es : List Edg) (oe : Option Addr) (c : Nat) (F : Foot) (w : World) (hs : SliceR edgR 3 F w oe es) (hc : es.length ≤ c) (hc2 : es.length ≤ 9223372036854775807)
    (f : List Nat) (hU : Hid (gErr n es = 0 → Uf f (eL es))) : Calls Tryz.prog 115 #[.agg #[.int .i64 n, .slice oe es.length c]] w (ConnPost w n es f) := by
  go_enter Tryz.func115, Tryz.ntmps115
  go_wp2_with fail
  have hb0 := box_refl w (.cells #[.int .i64 n, .slice oe es.length c] 24)
  refine (comps_any n es oe c F _ (hs.below edgR_ok (below_box hb0)) hc hc2 f hU).mono ?_
  rintro e w2 ⟨⟨oa, c2, rfl⟩, hb2⟩
  have hx := hide (below_box (hb2.mono (B' := w.heap.size + 1) (by simp)))
  clear hb2
  have HQ : Hid ((partsN n es f == 1) = decide (((partsN n es f : Nat) : Int) = 1)) := by
    show _ = _
    rw [Bool.eq_iff_iff]
    simp
    omega
  go_wp2_with fail
  go_ret2
  exact ⟨by rw [HQ.out]; rfl, hx.out⟩

/-- The error of a graph that has to be connected. -/
def jErr (n : Int) (es : List Edg) (f : List Nat) : Int := if gErr n es = 0 then (if partsN n es f = 1 then 0 else 13) else gErr n es
def jEnds (n : Int) (es : List Edg) : List (Int × Int) := if gErr n es = 0 then endsL es else []
def JoinedPost (w : World) (n : Int) (es : List Edg) (f : List Nat) (e : Ending) (w' : World) : Prop :=
  ∃ v, e = .returned (.tuple #[v, .int .i64 (jErr n es f)]) ∧ OwnS prR 2 w.heap.size 135 Non w' v (jEnds n es) ∧ Below w.heap.size w w'

end Go.Proofs.YtpgopmmobbemcaaGreat

set_option linter.unusedVariables false
set_option linter.unusedSimpArgs false
namespace Go.Proofs.YtpgopmmobbemcaaGreat
open Go.RowKit

end Go.Proofs.YtpgopmmobbemcaaGreat

set_option linter.unusedVariables false
set_option linter.unusedSimpArgs false
set_option linter.unnecessarySimpa false
namespace Go.Proofs.YtpgopmmobbemcaaGreat
open Go.RowKit

/-- The first thing that is wrong with the half-edges one by one. -/
def scanE (own : List Int) : List Int → List Int → Int
  | _, [] => 0
  | pre, h :: r => if h ∈ own then (if h ∈ pre then 7 else scanE own (pre ++ [h]) r) else 2
def listE (l own : List Int) : Int := if l.length = own.length then (if scanE own [] l = 0 then (if l.head? = own.head? then 0 else 9) else scanE own [] l) else 8

theorem scanE_cons (own pre r : List Int) (h : Int) : scanE own pre (h :: r) = if h ∈ own then (if h ∈ pre then 7 else scanE own (pre ++ [h]) r) else 2 := rfl
theorem SliceR.pre {α : Type} {R : Rep α} {sz : Nat} {F : Foot} {w : World} {oa : Option Addr} {xs : List α} (h : SliceR R sz F w oa xs) (k : Nat) : SliceR R sz F w oa (xs.take k) := by
  intro i x hx
  rw [List.getElem?_take] at hx
  split at hx
  · exact h i x hx
  · cases hx

end Go.Proofs.YtpgopmmobbemcaaGreat

set_option linter.unusedVariables false
set_option linter.unusedSimpArgs false
set_option linter.unnecessarySimpa false
namespace Go.Proofs.YtpgopmmobbemcaaGreat
open Go.RowKit

theorem hv_mem {l : List (Int × Int)} {h : Nat} (hh : h < 2 * l.length) : ∃ p ∈ l, hv l h = p.1 ∨ hv l h = p.2 := by
  have hq : h / 2 < l.length := by omega
  have hg : l.getD (h / 2) (0, 0) = l[h / 2] := by rw [List.getD_eq_getElem?_getD, List.getElem?_eq_getElem hq]; rfl
  refine ⟨l[h / 2], List.getElem_mem hq, ?_⟩
  unfold hv
  rw [hg]
  split
  · exact .inl rfl
  · exact .inr rfl
theorem hv_range {n : Int} {es : List Edg} (hV : gErr n es = 0) : ∀ h, h < 2 * (endsL es).length → 0 ≤ hv (endsL es) h ∧ hv (endsL es) h < n := by
  intro h hh
  obtain ⟨p, hp, hpe⟩ := hv_mem hh
  obtain ⟨x, hx, rfl⟩ := endsL_mem hp
  have h1 := (gErr_zero hV).2.1 x hx
  rcases hpe with e | e <;> (rw [e]; simp only; omega)
def rowsE : List (List Int) → List (List Int) → Int
  | a :: r, o :: q => if listE a o = 0 then rowsE r q else listE a o
  | _, _ => 0
theorem rowsE_cons (a o : List Int) (r q : List (List Int)) : rowsE (a :: r) (o :: q) = if listE a o = 0 then rowsE r q else listE a o := rfl
def halfs (n : Int) (es : List Edg) : List (List Int) := halvesU n.toNat (endsL es) (2 * (endsL es).length)
/-- The error of a ribbon graph. -/
def chkE (n : Int) (es : List Edg) (f : List Nat) (ar : List (List Int)) : Int :=
  if jErr n es f = 0 then (if (ar.length : Int) = n then rowsE ar (halfs n es) else 8) else jErr n es f
def CheckedPost (w : World) (n : Int) (es : List Edg) (f : List Nat) (ar : List (List Int)) (e : Ending) (w' : World) : Prop :=
  ∃ v, e = .returned (.tuple #[v, .int .i64 (chkE n es f ar)]) ∧ OwnS prR 2 w.heap.size 135 Non w' v (if chkE n es f ar = 0 then endsL es else []) ∧ Below w.heap.size w w'

theorem jErr_zero {n : Int} {es : List Edg} {f : List Nat} (h : jErr n es f = 0) : gErr n es = 0 := by
  unfold jErr at h
  split at h
  · assumption
  · exact h

end Go.Proofs.YtpgopmmobbemcaaGreat

set_option linter.unusedVariables false
set_option linter.unusedSimpArgs false
set_option linter.unnecessarySimpa false
namespace Go.Proofs.YtpgopmmobbemcaaGreat
open Go.RowKit

theorem halfU_mem {l : List (Int × Int)} {H v : Nat} {x : Int} : x ∈ halfU l H v ↔ ∃ h : Nat, x = h ∧ h < H ∧ hv l h = (v : Int) := by
  simp only [halfU, List.mem_map, List.mem_filter, List.mem_range, beq_iff_eq]
  constructor
  · rintro ⟨h, ⟨h1, h2⟩, rfl⟩; exact ⟨h, rfl, h1, h2⟩
  · rintro ⟨h, rfl, h1, h2⟩; exact ⟨h, ⟨h1, h2⟩, rfl⟩

theorem scanE_zero {own : List Int} : ∀ {l pre : List Int}, scanE own pre l = 0 → pre.Nodup → (∀ x ∈ pre, x ∈ own) → (pre ++ l).Nodup ∧ ∀ x ∈ l, x ∈ own
  | [], pre, _, hn, _ => by simpa using hn
  | x :: r, pre, h, hn, hp => by
    rw [scanE_cons] at h
    by_cases h1 : x ∈ own
    · rw [if_pos h1] at h
      by_cases h2 : x ∈ pre
      · rw [if_pos h2] at h; cases h
      · rw [if_neg h2] at h
        have hn2 : (pre ++ [x]).Nodup := by
          rw [List.nodup_append]
          exact ⟨hn, by simp, fun a ha b hb => by simp at hb; subst hb; exact fun e => h2 (e ▸ ha)⟩
        have := scanE_zero h hn2 (fun y hy => by
          rcases List.mem_append.1 hy with h3 | h3
          · exact hp y h3
          · simp at h3; subst h3; exact h1)
        refine ⟨by simpa using this.1, fun y hy => ?_⟩
        rcases List.mem_cons.1 hy with h3 | h3
        · subst h3; exact h1
        · exact this.2 y h3
    · rw [if_neg h1] at h; cases h

end Go.Proofs.YtpgopmmobbemcaaGreat

set_option linter.unusedVariables false
set_option linter.unusedSimpArgs false
namespace Go.Proofs.YtpgopmmobbemcaaGreat
open Go.RowKit

def ends2 (v : Int) (p : Int × Int) : Int := (if p.1 = v then 1 else 0) + (if p.2 = v then 1 else 0)
def sumE (v : Int) : List (Int × Int) → Int
  | [] => 0
  | p :: r => ends2 v p + sumE v r
def hit (x : Edg) (a b : Int) : Int := if x.a = min a b ∧ x.b = max a b then x.m else 0
theorem betw_none {r : List Edg} {p q a b : Int} (h : ∀ y ∈ r, ¬ (y.a = p ∧ y.b = q)) (hp : p = min a b) (hq : q = max a b) : betw r a b = 0 := by
  induction r with
  | nil => rfl
  | cons y r ih =>
    rw [betw, if_neg (by rw [← hp, ← hq]; exact h y (by simp)), ih fun z hz => h z (by simp [hz])]
theorem betw_cons {x : Edg} {r : List Edg} (h : ∀ y ∈ r, ¬ (y.a = x.a ∧ y.b = x.b)) (a b : Int) : betw (x :: r) a b = hit x a b + betw r a b := by
  rw [betw, hit]
  split
  · rename_i he
    rw [betw_none h he.1 he.2]
    omega
  · omega
def valH (x : Edg) (v : Int) : Nat → Int
  | 0 => 0
  | u + 1 => valH x v u + (if (u : Int) = v then 0 else hit x u v)
end Go.Proofs.YtpgopmmobbemcaaGreat

set_option linter.unusedVariables false
set_option linter.unusedSimpArgs false
namespace Go.Proofs.YtpgopmmobbemcaaGreat
open Go.RowKit

theorem boolInfoG : (Tryz.prog.info? 4).map (fun i => (i.zero, i.size, i.bytes)) = some (some (.bool false), 1, 1) := by kernel_rfl

def adjG (es : List Edg) (a b : Nat) : Bool := decide (0 < betw es a b)
def ReachedPost (w : World) (es : List Edg) (n s : Nat) (e : Ending) (w' : World) : Prop :=
  ∃ g bs, e = .returned (.slice (some ⟨g, 0, none⟩) n n) ∧ Leads (nxA (adjG es)) n n s bs ∧ Row1 Value.bool w' g 4 bs [] ∧ w.heap.size ≤ g ∧ Below w.heap.size w w'
theorem nxA_lt {adj : Nat → Nat → Bool} {n : Nat} : ∀ u a, u < n → a < n → nxA adj u a < n := by
  intro u a h1 h2
  unfold nxA
  split <;> omega
def InrG (nx : Nat → Nat → Nat) (L S s k t j : Nat) (bs : List Bool) : Prop := Led nx L S s k t bs ∧ (bs[t]? = some true → ∀ a, a < j → bs[nx t a]? = some true)

set_option maxRecDepth 100000 in
set_option maxHeartbeats 4000000 in
theorem reached_any (n : Nat) (hn : n ≤ 12) (es : List Edg) (oe : Option Addr) (c : Nat) (F : Foot) (w : World) (hs : SliceR edgR 3 F w oe es) (hc : es.length ≤ c) (hc2 : es.length ≤ 9223372036854775807) (s0 : Nat) (hS : s0 < n) :
    Calls Tryz.prog 156 #[.agg #[.int .i64 n, .slice oe es.length c], .int .i64 s0] w (ReachedPost w es n s0) := by
  have HNX := hide (nxA_lt (adj := adjG es) (n := n))
  go_enter Tryz.func156, Tryz.ntmps156
  go_wp2_with (at_make; refine wpList_make_row _ rfl _ _ 139 rfl 4 false 1 Tryz.underlying139 boolInfoG rfl .i64 .i64 _ _ n rfl rfl rfl rfl (by omega) (by unfold maxLen; omega) (fun w1 hrow hb1 hg1 => ?_); have c0 := hrow.cell (i := s0) (x := false) (by simp [hS]); have f0 := hrow.free s0; simp at c0 f0; have hp := hrow.put (i := s0) (by simp [hS]) true; simp only [World.size_alloc] at hp; have HG := hide hg1; clear hrow hg1)
  have hb0 : Below (w.heap.size + 1) (w.alloc (.cells #[.int .i64 n, .slice oe es.length c] 24)) (w1.setCell ⟨w.heap.size + 1, s0, none⟩ (.bool true)) := by
    have h := hb1
    simp only [World.size_alloc] at h
    exact h.setCell (by simp) _
  clear hb1 c0 f0
  go_loopw [6] (fun iv wr => ∃ (k : Nat) (bs : List Bool), k ≤ n ∧ iv = .int .i64 k ∧ Hid (Led (nxA (adjG es)) n n s0 k 0 bs) ∧ Row1 Value.bool wr (w.heap.size + 1) 4 bs [] ∧
      Below (w.heap.size + 1) (w.alloc (.cells #[.int .i64 n, .slice oe es.length c] 24)) wr) (fun iv _ => n - (intOf iv).toNat)
  case atStart => exact ⟨0, _, by omega, rfl, Led.begin hS, hp, hb0⟩
  case round =>
    obtain ⟨k, bs, hk, rfl, HL, hr, hb⟩ := hrel
    clear hb0 hp HG
    have d0 := box_cell hb 0
    simp at d0
    by_cases hlt : k < n
    · go_wp2_with fail
      obtain ⟨wo, rfl⟩ : ∃ wo : World, wo = wr := ⟨_, rfl⟩
      go_loopw [7] (fun iv wr => ∃ (t : Nat) (bs : List Bool), t ≤ n ∧ iv = .int .i64 t ∧ Hid (Led (nxA (adjG es)) n n s0 k t bs) ∧ Row1 Value.bool wr (w.heap.size + 1) 4 bs [] ∧
        Below (w.heap.size + 1) (w.alloc (.cells #[.int .i64 n, .slice oe es.length c] 24)) wr) (fun iv _ => n - (intOf iv).toNat)
      case atStart => exact ⟨0, _, by omega, rfl, HL, hr, hb⟩
      case round =>
        clear hb hr d0 HL
        obtain ⟨t, bs, ht, rfl, HL, hr, hb⟩ := hrel
        have d0 := box_cell hb 0
        simp at d0
        by_cases htl : t < n
        · go_wp2_with fail
          obtain ⟨wo, rfl⟩ : ∃ wo : World, wo = wr := ⟨_, rfl⟩
          go_loopw [8] (fun iv wr => ∃ (j : Nat) (bs : List Bool), j ≤ n ∧ iv = .int .i64 j ∧ Hid (InrG (nxA (adjG es)) n n s0 k t j bs) ∧ Row1 Value.bool wr (w.heap.size + 1) 4 bs [] ∧
            Below (w.heap.size + 1) (w.alloc (.cells #[.int .i64 n, .slice oe es.length c] 24)) wr) (fun iv _ => n - (intOf iv).toNat)
          case atStart => exact ⟨0, _, by omega, rfl, ⟨HL, fun _ a ha => by omega⟩, hr, hb⟩
          case round =>
            clear hb hr d0 HL
            obtain ⟨j, bs, hj, rfl, HI, hr, hb⟩ := hrel
            have d0 := box_cell hb 0
            have d1 := box_cell hb 1
            simp at d0 d1
            have hbl : bs.length = n := HI.out.1.len
            by_cases hjl : j < n
            · obtain ⟨bt, hbt⟩ : ∃ bt, bs[t]? = some bt := ⟨_, List.getElem?_eq_getElem (by omega)⟩
              have ct := hr.cell hbt
              have HBT := hide hbt
              clear hbt
              cases bt with
              | false =>
                have HI2 : Hid (InrG (nxA (adjG es)) n n s0 k t (j + 1) bs) := ⟨HI.out.1, fun h => by rw [HBT.out] at h; cases h⟩
                clear hbl
                go_wp2_with fail
                go_roundw
                case rel => exact ⟨j + 1, bs, by omega, by go_num, HI2, hr, hb⟩
                case measure => simp [intOf]; omega
              | true =>
                have hcall := betw_any n es oe c F wr (hs.below edgR_ok (below_box hb)) hc hc2 t j
                have HJL := hide hjl
                by_cases had : 0 < betw es t j
                · have hnx : nxA (adjG es) t j = j := by unfold nxA adjG; rw [if_pos (by simpa using had)]
                  have hset := HI.out.1.set HBT.out hjl (by rw [hnx]; exact hjl) (HI.out.2 HBT.out)
                  rw [hnx] at hset
                  have HI2 : Hid (InrG (nxA (adjG es)) n n s0 k t (j + 1) (bs.set j true)) := ⟨hset.1, fun _ => hset.2.2⟩
                  obtain ⟨bn, hbn⟩ : ∃ bn, bs[j]? = some bn := ⟨_, List.getElem?_eq_getElem (by omega)⟩
                  have hjb : j < bs.length := by omega
                  have HR := hide hr
                  clear hset hnx hbl
                  generalize betw es t j = x at had hcall
                  go_wp2_with fail
                  refine hcall.mono ?_
                  rintro e w4 ⟨rfl, hb4⟩
                  have hr4 := HR.out.below hb4
                  have cn := hr4.cell hbn
                  have fn := hr4.free j
                  have hp := hide (hr4.put hjb true)
                  have HB := hide ((hb.trans (hb4.mono (box_lt hb))).setCell (p := ⟨w.heap.size + 1, j, none⟩) (by simp) (.bool true))
                  clear hbn hr4 hr hb4 ct d0 d1
                  go_wp2_with fail
                  go_roundw
                  case rel => exact ⟨j + 1, _, by omega, by go_num, HI2, hp.out, HB.out⟩
                  case measure => simp [intOf]; omega
                · have hnx : nxA (adjG es) t j = t := by unfold nxA adjG; rw [if_neg (by simpa using had)]
                  have HI2 : Hid (InrG (nxA (adjG es)) n n s0 k t (j + 1) bs) := ⟨HI.out.1, fun h a ha => by
                    rcases Nat.lt_or_ge a j with h1 | h1
                    · exact HI.out.2 h a h1
                    · have : a = j := by omega
                      subst this
                      rw [hnx]
                      exact h⟩
                  have HR := hide hr
                  clear hnx hbl
                  generalize betw es t j = x at had hcall
                  go_wp2_with fail
                  refine hcall.mono ?_
                  rintro e w4 ⟨rfl, hb4⟩
                  have hr4 := hide (HR.out.below hb4)
                  have HB := hide (hb.trans (hb4.mono (box_lt hb)))
                  clear hr hb4 ct d0 d1
                  go_wp2_with fail
                  go_roundw
                  case rel => exact ⟨j + 1, bs, by omega, by go_num, HI2, hr4.out, HB.out⟩
                  case measure => simp [intOf]; omega
            · have hj2 : j = n := by omega
              subst hj2
              have HN := hide (HI.out.1.next fun h => HI.out.2 h)
              clear hbl
              go_wp2_with fail
              go_roundw
              case rel => exact ⟨t + 1, bs, by omega, by go_num, HN, hr, hb⟩
              case measure => simp [intOf]; omega
        · have h2 : t = n := by omega
          subst h2
          have HN := hide (HL.out.round hS HNX.out)
          go_wp2_with fail
          go_roundw
          case rel => exact ⟨k + 1, bs, by omega, by go_num, HN, hr, hb⟩
          case measure => simp [intOf]; omega
    · have h2 : k = n := by omega
      subst h2
      have HN := hide (HL.out.all hS HNX.out)
      go_wp2_with fail
      go_ret
      exact ⟨w.heap.size + 1, bs, rfl, HN.out, hr, by omega, below_box hb⟩

end Go.Proofs.YtpgopmmobbemcaaGreat

set_option linter.unusedVariables false
set_option linter.unusedSimpArgs false
namespace Go.Proofs.YtpgopmmobbemcaaGreat
open Go.RowKit

/-- a with b laid over its first j places. -/
def mixB (a b : List Bool) (j : Nat) : List Bool := (List.range a.length).map fun i => if i < j then a.getD i false || b.getD i false else a.getD i false
theorem mixB_len (a b : List Bool) (j : Nat) : (mixB a b j).length = a.length := by simp [mixB]
theorem mixB_get {a b : List Bool} {j i : Nat} (hi : i < a.length) : (mixB a b j)[i]? = some (if i < j then a.getD i false || b.getD i false else a.getD i false) := by
  simp [mixB, hi]
theorem mixB_zero (a b : List Bool) : mixB a b 0 = a := by
  apply List.ext_getElem?
  intro i
  rcases Nat.lt_or_ge i a.length with hi | hi
  · rw [mixB_get hi]; simp [hi]
  · rw [List.getElem?_eq_none (by rw [mixB_len]; exact hi), List.getElem?_eq_none hi]
theorem mixB_step {a b : List Bool} {j : Nat} (hj : j < a.length) : (mixB a b j).set j (a.getD j false || b.getD j false) = mixB a b (j + 1) := by
  apply List.ext_getElem?
  intro i
  rcases Nat.lt_or_ge i a.length with hi | hi
  · rw [mixB_get hi]
    by_cases e : j = i
    · subst e
      rw [List.getElem?_set_self (by rw [mixB_len]; exact hj), if_pos (by omega)]
    · rw [List.getElem?_set_ne e, mixB_get hi]
      by_cases h : i < j
      · rw [if_pos h, if_pos (by omega)]
      · rw [if_neg h, if_neg (by omega)]
  · rw [List.getElem?_eq_none (by simp [mixB_len]; exact hi), List.getElem?_eq_none (by rw [mixB_len]; exact hi)]

theorem betw_pos {es : List Edg} (h : ∀ x ∈ es, 1 ≤ x.m ∧ x.a ≤ x.b ∧ 0 ≤ x.a ∧ 0 ≤ x.b) (a b : Nat) : 0 < betw es a b ↔ (a, b) ∈ eL es ∨ (b, a) ∈ eL es := by
  induction es with
  | nil => simp [betw, eL]
  | cons x r ih =>
    have ih := ih fun y hy => h y (by simp [hy])
    have hx := h x (by simp)
    have hmem : ∀ p : Nat × Nat, p ∈ eL (x :: r) ↔ p = (x.a.toNat, x.b.toNat) ∨ p ∈ eL r := fun p => by simp [eL]
    rw [hmem, hmem, betw]
    split
    · rename_i he
      constructor
      · intro _
        rcases Nat.le_total a b with hab | hab
        · left; left
          rw [Prod.mk.injEq]
          omega
        · right; left
          rw [Prod.mk.injEq]
          omega
      · intro _; omega
    · rename_i he
      rw [ih]
      constructor
      · rintro (h1 | h1)
        · exact .inl (.inr h1)
        · exact .inr (.inr h1)
      · rintro ((h1 | h1) | (h1 | h1))
        · exfalso
          rw [Prod.mk.injEq] at h1
          apply he
          omega
        · exact .inl h1
        · exfalso
          rw [Prod.mk.injEq] at h1
          apply he
          omega
        · exact .inr h1
theorem adj_eL {n : Int} {es : List Edg} (hV : gErr n es = 0) (a b : Nat) : adjG es a b = true ↔ (a, b) ∈ eL es ∨ (b, a) ∈ eL es := by
  unfold adjG
  rw [decide_eq_true_iff]
  exact betw_pos (fun x hx => by have := (gErr_zero hV).2.1 x hx; omega) a b
theorem eL_ltN {n : Nat} {es : List Edg} (hV : gErr n es = 0) : ∀ x ∈ eL es, x.1 < n ∧ x.2 < n := by
  intro x hx
  simp only [eL, List.mem_map] at hx
  obtain ⟨y, hy, rfl⟩ := hx
  have h := (gErr_zero hV).2.1 y hy
  constructor
  · simp only; omega
  · simp only; omega
theorem leads_tied {n : Nat} {es : List Edg} (hV : gErr n es = 0) {s : Nat} {bs : List Bool} (h : Leads (nxA (adjG es)) n n s bs) (x : Nat) : bs[x]? = some true ↔ Tied (eL es) s x :=
  (h.2 x).trans (rch_tied (adj_eL hV) (eL_ltN hV))

/-- What was seen so far. -/
structure Seen (E : List (Nat × Nat)) (n k : Nat) (bs : List Bool) : Prop where
  len : bs.length = n
  iff : ∀ x, x < n → (bs[x]? = some true ↔ ∃ u, u < k ∧ Tied E u x)
theorem Seen.begin (E : List (Nat × Nat)) (n : Nat) : Seen E n 0 (List.replicate n false) :=
  ⟨by simp, fun x hx => by simp [hx]⟩
theorem Seen.old {E : List (Nat × Nat)} {n k : Nat} {bs : List Bool} (h : Seen E n k bs) (hk : k < n) (hb : bs[k]? = some true) : Seen E n (k + 1) bs := by
  refine ⟨h.len, fun x hx => ?_⟩
  rw [h.iff x hx]
  obtain ⟨u0, hu0, ht0⟩ := (h.iff k hk).1 hb
  constructor
  · rintro ⟨u, hu, ht⟩; exact ⟨u, by omega, ht⟩
  · rintro ⟨u, hu, ht⟩
    rcases Nat.lt_or_ge u k with h1 | h1
    · exact ⟨u, h1, ht⟩
    · have : u = k := by omega
      subst this
      exact ⟨u0, hu0, ht0.trans ht⟩
theorem Seen.more {E : List (Nat × Nat)} {n k : Nat} {bs cs : List Bool} (h : Seen E n k bs) (hc : cs.length = n) (hr : ∀ x, cs[x]? = some true ↔ Tied E k x) : Seen E n (k + 1) (mixB bs cs n) := by
  refine ⟨by rw [mixB_len, h.len], fun x hx => ?_⟩
  rw [mixB_get (by rw [h.len]; exact hx), if_pos hx]
  have h1 := h.iff x hx
  have h2 := hr x
  have e1 : bs.getD x false = true ↔ bs[x]? = some true := true_of_getD (by rw [h.len]; exact hx)
  have e2 : cs.getD x false = true ↔ cs[x]? = some true := true_of_getD (by rw [hc]; exact hx)
  rw [Option.some.injEq, Bool.or_eq_true, e1, e2, h1, h2]
  constructor
  · rintro (⟨u, hu, ht⟩ | ht)
    · exact ⟨u, by omega, ht⟩
    · exact ⟨k, by omega, ht⟩
  · rintro ⟨u, hu, ht⟩
    rcases Nat.lt_or_ge u k with h1 | h1
    · exact .inl ⟨u, h1, ht⟩
    · have : u = k := by omega
      subst this
      exact .inr ht
theorem Seen.root {E : List (Nat × Nat)} {f : List Nat} (hf : Uf f E) {n k : Nat} {bs : List Bool} (h : Seen E n k bs) (hk : k < n) (hn : n ≤ 12) : bs[k]? = some true ↔ ¬ rootF f k = k := by
  rw [h.iff k hk, hf.least (by omega)]
  constructor
  · rintro ⟨u, hu, ht⟩ h2; exact h2 u hu ht
  · intro h2
    exact Classical.byContradiction fun h3 => h2 fun u hu ht => h3 ⟨u, hu, ht⟩

set_option maxRecDepth 100000 in
set_option maxHeartbeats 4000000 in
theorem rparts_any (n : Nat) (es : List Edg) (oe : Option Addr) (c : Nat) (F : Foot) (w : World) (hs : SliceR edgR 3 F w oe es) (hc : es.length ≤ c) (hc2 : es.length ≤ 9223372036854775807)
    (hV : Hid (gErr n es = 0)) (f : List Nat) (hU : Hid (Uf f (eL es))) : Calls Tryz.prog 133 #[.agg #[.int .i64 n, .slice oe es.length c]] w (ErrPost w (cnt f n : Nat)) := by
  have hn : n ≤ 12 := by have := (gErr_zero hV.out).1; omega
  go_enter Tryz.func133, Tryz.ntmps133
  go_wp2_with (at_make; refine wpList_make_row _ rfl _ _ 139 rfl 4 false 1 Tryz.underlying139 boolInfoG rfl .i64 .i64 _ _ n rfl rfl rfl rfl (by omega) (by unfold maxLen; omega) (fun w1 hrow hb1 hg1 => ?_); simp only [World.size_alloc] at hrow hb1)
  clear hg1
  go_loopw [3, 5] (fun pv iv wr => ∃ (k : Nat) (bs : List Bool), k ≤ n ∧ iv = .int .i64 k ∧ pv = .int .i64 (cnt f k : Nat) ∧ Hid (Seen (eL es) n k bs) ∧ Row1 Value.bool wr (w.heap.size + 1) 4 bs [] ∧
      Below (w.heap.size + 1) (w.alloc (.cells #[.int .i64 n, .slice oe es.length c] 24)) wr) (fun _ iv _ => n - (intOf iv).toNat)
  case atStart => exact ⟨0, _, by omega, rfl, rfl, Seen.begin _ _, hrow, hb1⟩
  case round =>
    clear hrow hb1
    obtain ⟨k, bs, hk, rfl, rfl, HS, hr, hb⟩ := hrel
    have d0 := box_cell hb 0
    have d1 := box_cell hb 1
    simp at d0 d1
    have hck : cnt f k ≤ k := by
      have := List.length_filter_le (fun v => rootF f v == v) (List.range k)
      simpa [cnt] using this
    by_cases hlt : k < n
    · have HROOT := hide (HS.out.root hU.out hlt hn)
      obtain ⟨bt, hbt⟩ : ∃ bt, bs[k]? = some bt := ⟨_, List.getElem?_eq_getElem (by rw [HS.out.len]; exact hlt)⟩
      have ct := hr.cell hbt
      have HBT := hide hbt
      clear hbt
      cases bt with
      | true =>
        have HC : Hid (cnt f (k + 1) = cnt f k) := cnt_no (HROOT.out.1 HBT.out)
        have HN := hide (HS.out.old hlt HBT.out)
        generalize cnt f k = p at hck HC
        go_wp2_with fail
        go_roundw
        case rel => exact ⟨k + 1, bs, by omega, by go_num, by rw [HC.out], HN, hr, hb⟩
        case measure => simp [intOf]; omega
      | false =>
        have hroot : rootF f k = k := Classical.byContradiction fun h => by
          have := HROOT.out.2 h
          rw [HBT.out] at this
          cases this
        have HC : Hid (cnt f (k + 1) = cnt f k + 1) := cnt_yes hroot
        have hcall := reached_any n hn es oe c F wr (hs.below edgR_ok (below_box hb)) hc hc2 k hlt
        clear hroot
        generalize cnt f k = p at hck HC
        go_wp2_with fail
        refine hcall.mono ?_
        rintro e w4 ⟨g, cs, rfl, hle, hrc, hg, hb4⟩
        have HLT := hide (leads_tied hV.out hle)
        have hcl : cs.length = n := hle.1
        have hr4 := hr.below hb4
        have hx4 := hb.trans (hb4.mono (box_lt hb))
        have hgne : w.heap.size + 1 < g := by have := hr.lt; omega
        have HM : Hid (Seen (eL es) n (k + 1) (mixB bs cs n)) := HS.out.more hcl HLT.out
        have hbl : bs.length = n := HS.out.len
        clear hb4 hr hb ct d0 d1 hle
        have d0 := box_cell hx4 0
        simp at d0
        have hz := mixB_zero bs cs
        go_wp2_with fail
        obtain ⟨wo, rfl⟩ : ∃ wo : World, wo = w4 := ⟨_, rfl⟩
        go_loopw [7] (fun iv wr => ∃ (j : Nat), j ≤ n ∧ iv = .int .i64 j ∧ Row1 Value.bool wr (w.heap.size + 1) 4 (mixB bs cs j) [] ∧ Row1 Value.bool wr g 4 cs [] ∧
          Below (w.heap.size + 1) (w.alloc (.cells #[.int .i64 n, .slice oe es.length c] 24)) wr) (fun iv _ => n - (intOf iv).toNat)
        case atStart => exact ⟨0, by omega, rfl, by rw [hz]; exact hr4, hrc, hx4⟩
        case round =>
          clear hr4 hrc hx4 d0 hz
          obtain ⟨j, hj, rfl, hr, hrc, hb⟩ := hrel
          have d0 := box_cell hb 0
          simp at d0
          by_cases hjl : j < n
          · have h1 : (mixB bs cs j)[j]? = some (bs.getD j false) := by rw [mixB_get (by omega), if_neg (by omega)]
            have h2 : cs[j]? = some (cs.getD j false) := by rw [List.getD_eq_getElem?_getD, List.getElem?_eq_getElem (by omega)]; rfl
            have c1 := hr.cell h1
            have c2 := hrc.cell h2
            have f1 := hr.free j
            have hp := hide (hr.put (i := j) (by rw [mixB_len]; omega) (bs.getD j false || cs.getD j false))
            have HMS := hide (mixB_step (a := bs) (b := cs) (j := j) (by omega))
            have HRC := hide (hrc.other (p := ⟨w.heap.size + 1, j, none⟩) (by simp; omega) (.bool (bs.getD j false || cs.getD j false)))
            have HB := hide (hb.setCell (p := ⟨w.heap.size + 1, j, none⟩) (by simp) (.bool (bs.getD j false || cs.getD j false)))
            clear h1 h2
            generalize bs.getD j false = b1 at *
            generalize cs.getD j false = b2 at *
            cases b1 with
            | true =>
              go_wp2_with fail
              go_roundw
              case rel => exact ⟨j + 1, by omega, by go_num, by rw [← HMS.out]; exact hp.out, HRC.out, HB.out⟩
              case measure => simp [intOf]; omega
            | false =>
              go_wp2_with fail
              go_roundw
              case rel => exact ⟨j + 1, by omega, by go_num, by rw [← HMS.out]; exact hp.out, HRC.out, HB.out⟩
              case measure => simp [intOf]; omega
          · have : j = n := by omega
            subst this
            go_wp2_with fail
            go_roundw
            case rel => exact ⟨k + 1, _, by omega, by go_num, by rw [HC.out]; go_num, HM, hr, hb⟩
            case measure => simp [intOf]; omega
    · have : k = n := by omega
      subst this
      go_wp2_with fail
      go_ret
      exact ⟨rfl, below_box hb⟩

end Go.Proofs.YtpgopmmobbemcaaGreat

set_option linter.unusedVariables false
set_option linter.unusedSimpArgs false
namespace Go.Proofs.YtpgopmmobbemcaaGreat
open Go.RowKit

set_option maxRecDepth 100000 in
theorem rconn_any (n : Nat) (es : List Edg) (oe : Option Addr) (c : Nat) (F : Foot) (w : World) (hs : SliceR edgR 3 F w oe es) (hc : es.length ≤ c) (hc2 : es.length ≤ 9223372036854775807)
    (hV : Hid (gErr n es = 0)) (f : List Nat) (hU : Hid (Uf f (eL es))) : Calls Tryz.prog 108 #[.agg #[.int .i64 n, .slice oe es.length c]] w fun e w' => e = .returned (.bool (cnt f n == 1)) ∧ Below w.heap.size w w' := by
  go_enter Tryz.func108, Tryz.ntmps108
  go_wp2_with fail
  have hb0 := box_refl w (.cells #[.int .i64 n, .slice oe es.length c] 24)
  refine (rparts_any n es oe c F _ (hs.below edgR_ok (below_box hb0)) hc hc2 hV f hU).mono ?_
  rintro e w2 ⟨rfl, hb2⟩
  have hx := hide (below_box (hb2.mono (B' := w.heap.size + 1) (by simp)))
  clear hb2 hb0
  go_wp2_with fail
  go_ret
  refine ⟨ret_bool ?_, hx.out⟩
  rw [Bool.eq_iff_iff]
  simp
  omega

end Go.Proofs.YtpgopmmobbemcaaGreat

set_option linter.unusedVariables false
set_option linter.unusedSimpArgs false
set_option linter.unnecessarySimpa false
namespace Go.Proofs.YtpgopmmobbemcaaGreat
open Go.RowKit

end Go.Proofs.YtpgopmmobbemcaaGreat

set_option linter.unusedVariables false
set_option linter.unusedSimpArgs false
set_option linter.unnecessarySimpa false
namespace Go.Proofs.YtpgopmmobbemcaaGreat
open Go.RowKit

def badR (q : Int) (v : Nat) (k : Int) (d : Nat) : Prop := k < 0 ∨ ((v : Int) = q ∧ k ≠ 0) ∨ ((v : Int) ≠ q ∧ (d : Int) ≤ k)
instance (q : Int) (v : Nat) (k : Int) (d : Nat) : Decidable (badR q v k d) := by unfold badR; infer_instance
/-- The error of the rotors, from the vertex v on. -/
def rotE (q : Int) : Nat → List (List Int) → List Int → Int
  | v, a :: ar, k :: r => if badR q v k a.length then 2 else rotE q (v + 1) ar r
  | _, _, _ => 0
theorem rotE_cons (q : Int) (v : Nat) (a : List Int) (ar : List (List Int)) (k : Int) (r : List Int) : rotE q v (a :: ar) (k :: r) = if badR q v k a.length then 2 else rotE q (v + 1) ar r := rfl
/-- The error of a rotor configuration. -/
def rtE (n : Int) (es : List Edg) (f : List Nat) (ar : List (List Int)) (q : Int) (rot : List Int) : Int :=
  if chkE n es f ar = 0 then (if vtxB n q = true then (if (rot.length : Int) = n then rotE q 0 ar rot else 8) else 2) else chkE n es f ar
theorem chkE_zero {n : Int} {es : List Edg} {f : List Nat} {ar : List (List Int)} (h : chkE n es f ar = 0) : jErr n es f = 0 ∧ (ar.length : Int) = n ∧ rowsE ar (halfs n es) = 0 := by
  unfold chkE at h
  split at h
  · rename_i h1
    split at h
    · rename_i h2; exact ⟨h1, h2, h⟩
    · cases h
  · rename_i h1; exact absurd h h1
theorem rtE_zero {n : Int} {es : List Edg} {f : List Nat} {ar : List (List Int)} {q : Int} {rot : List Int} (h : rtE n es f ar q rot = 0) :
    chkE n es f ar = 0 ∧ (0 ≤ q ∧ q < n) ∧ (rot.length : Int) = n ∧ rotE q 0 ar rot = 0 := by
  unfold rtE at h
  split at h
  · rename_i h1
    split at h
    · rename_i h2
      split at h
      · rename_i h3; exact ⟨h1, vtxB_iff.1 h2, h3, h⟩
      · cases h
    · cases h
  · rename_i h1; exact absurd h h1

end Go.Proofs.YtpgopmmobbemcaaGreat

set_option linter.unusedVariables false
set_option linter.unusedSimpArgs false
namespace Go.Proofs.YtpgopmmobbemcaaGreat
open Go.RowKit

theorem iInfo : (Tryz.prog.info? 3).map (fun i => (i.zero, i.size, i.bytes)) = some (some (.int .i64 0), 1, 8) := by kernel_rfl


set_option maxHeartbeats 400000 in
theorem cloneD_any (l : List Int) (oa : Option Addr) (c : Nat) (F : Foot) (w : World) (hs : SliceR intR 1 F w oa l) (hc : l.length ≤ c) (hc2 : l.length ≤ 1000000000000) :
    Calls Tryz.prog 53 #[.slice oa l.length c] w fun e w' => ∃ v, e = .returned v ∧ OwnS intR 1 w.heap.size 3 Non w' v l ∧ Below w.heap.size w w' := by
  cases oa with
  | none =>
    have hl : l = [] := by
      cases l with
      | nil => rfl
      | cons x r => obtain ⟨b, off, cs, h, _⟩ := hs 0 x rfl; cases h
    subst hl
    have hq : ∀ w : World, (binOp .eql 28 (.slice none 0 c) (.slice none 0 0)).run Tryz.prog w = .ok (.bool true) w := fun w => Lib.run_eql_slice_nil w _ 3 none 0 c 0 0 Tryz.underlying28
    go_enter Tryz.func53, Tryz.ntmps53
    go_wp2_with fail
    go_ret
    exact ⟨_, rfl, OwnS.nil _ _ _ _ _ _, Below.refl _ _⟩
  | some ad =>
    have hq : ∀ w : World, (binOp .eql 28 (.slice (some ad) l.length c) (.slice none 0 0)).run Tryz.prog w = .ok (.bool false) w := fun w => Lib.run_eql_slice_nil w _ 3 (some ad) l.length c 0 0 Tryz.underlying28
    go_enter Tryz.func53, Tryz.ntmps53
    go_wp2_with (at_builtin; refine wpList_append_rep rfl (.tmp 5) (.tmp 6) 28 rfl w.heap.size 3 _ 1 8 Tryz.underlying28 iInfo rfl (by decide) intR_ok Non F (.slice (some ⟨w.heap.size, 0, none⟩) 0 0) [] rfl (OwnS.made _ _ _ _ _) (some ad) c l rfl (hs.below intR_ok (bnew (Below.refl _ _) _)) (fun _ _ h => h) (fun _ h => h.elim) (by simp; omega) (by simp; omega) (by simp) ?_; intro v' w1 ho hb1 hg)
    go_ret
    exact ⟨_, rfl, by simpa using ho, (bnew (Below.refl _ _) _).trans hb1⟩

end Go.Proofs.YtpgopmmobbemcaaGreat

set_option linter.unusedVariables false
set_option linter.unusedSimpArgs false
set_option linter.unnecessarySimpa false
namespace Go.Proofs.YtpgopmmobbemcaaGreat
open Go.RowKit

section
variable {B : Nat} {w w' : World} {p rg cap : Nat} {tv : Value} {q : Int} {av : Value} {tl rot : List Int} {rest : List Value}
end

end Go.Proofs.YtpgopmmobbemcaaGreat

set_option linter.unusedVariables false
set_option linter.unusedSimpArgs false
set_option linter.unnecessarySimpa false
namespace Go.Proofs.YtpgopmmobbemcaaGreat
open Go.RowKit

/-- The vertices to which the half-edges lead. -/
def toL (l : List (Int × Int)) : List Int := l.flatMap fun p => [p.2, p.1]
/-- The half-edge opposite. -/
def oppH (h : Nat) : Nat := if h % 2 = 0 then h + 1 else h - 1
theorem toL_get (l : List (Int × Int)) : ∀ h, h < 2 * l.length → (toL l)[h]? = some (hv l (oppH h)) := by
  induction l with
  | nil => intro h hh; simp at hh
  | cons x r ih =>
    intro h hh
    show ([x.2, x.1] ++ toL r)[h]? = _
    match h with
    | 0 => rfl
    | 1 => rfl
    | h + 2 =>
      have h1 := ih h (by simp at hh; omega)
      show (toL r)[h]? = _
      rw [h1]
      have h2 : oppH (h + 2) = oppH h + 2 := by unfold oppH; split <;> (split <;> omega)
      rw [h2]
      unfold hv
      have h3 : (oppH h + 2) % 2 = oppH h % 2 := by omega
      have h4 : (oppH h + 2) / 2 = oppH h / 2 + 1 := by omega
      rw [h3, h4]
      rfl

def BoardErr (w : World) (x : Int) (e : Ending) (w' : World) : Prop := e = .returned (.tuple #[.pointer none, .int .i64 x]) ∧ Below w.heap.size w w'

end Go.Proofs.YtpgopmmobbemcaaGreat

set_option linter.unusedVariables false
set_option linter.unusedSimpArgs false
set_option linter.unnecessarySimpa false
namespace Go.Proofs.YtpgopmmobbemcaaGreat
open Go.RowKit

section
variable (n : Int) (es : List Edg) (oe : Option Addr) (c : Nat) (ar : List (List Int)) (oa : Option Addr) (ca : Nat) (F G : Foot) (w : World) (hs : SliceR edgR 3 F w oe es) (hc : es.length ≤ c) (hc2 : es.length ≤ 1000)
    (ha : SliceR (slcR intR 1) 1 G w oa ar) (hac : ar.length ≤ ca) (hac2 : ar.length ≤ 9223372036854775807) (f : List Nat) (hU : Hid (gErr n es = 0 → Uf f (eL es)))
    (q : Int) (rot : List Int) (ot : Option Addr) (ct : Nat) (H : Foot) (hr : SliceR intR 1 H w ot rot) (hrc : rot.length ≤ ct) (hrl : rot.length ≤ 9223372036854775807)
include hs hc hc2 ha hac hac2 hU hr hrc hrl

/-- The error of rotors and a vertex. -/
def stE (n : Int) (es : List Edg) (f : List Nat) (ar : List (List Int)) (q : Int) (rot : List Int) (v : Int) : Int := if rtE n es f ar q rot = 0 then (if vtxB n v = true then 0 else 2) else rtE n es f ar q rot

end

end Go.Proofs.YtpgopmmobbemcaaGreat

set_option linter.unusedVariables false
set_option linter.unusedSimpArgs false
set_option linter.unnecessarySimpa false
namespace Go.Proofs.YtpgopmmobbemcaaGreat
open Go.RowKit

def inChips (k : Int) : Bool := decide (-1048576 ≤ k ∧ k ≤ 1048576)
def dScan : List Int → Int
  | [] => 0
  | x :: r => if inChips x = true then dScan r else 2
/-- The error of a divisor on n vertices. -/
def dErr (n : Int) (d : List Int) : Int := if 1 ≤ n ∧ n ≤ 12 then (if (d.length : Int) = n then dScan d else 8) else 2
theorem dScan_zero : ∀ {d : List Int}, dScan d = 0 → ∀ x ∈ d, -1048576 ≤ x ∧ x ≤ 1048576
  | [], _, x, hx => by cases hx
  | y :: r, h, x, hx => by
    unfold dScan at h
    split at h
    · rename_i h1
      rcases List.mem_cons.1 hx with rfl | h2
      · simpa [inChips] using h1
      · exact dScan_zero h x h2
    · cases h
theorem within_any (k : Int) (w : World) : Calls Tryz.prog 120 #[.int .i64 k] w fun e w' => e = .returned (.bool (inChips k)) ∧ Below w.heap.size w w' := by
  by_cases h1 : -1048576 ≤ k
  · by_cases h2 : k ≤ 1048576
    · have HR : Hid (inChips k = true) := by show _ = _; simp [inChips, h1, h2]
      have q1 : decide ((-1048576 : Int) ≤ k) = true := by simp [h1]
      have q2 : decide (k ≤ (1048576 : Int)) = true := by simp [h2]
      clear h1 h2
      go_enter Tryz.func120, Tryz.ntmps120
      go_wp2_with fail
      go_ret
      exact ⟨ret_bool HR.out.symm, Below.refl _ _⟩
    · have HR : Hid (inChips k = false) := by show _ = _; simp [inChips]; omega
      have q1 : decide ((-1048576 : Int) ≤ k) = true := by simp [h1]
      have q2 : decide (k ≤ (1048576 : Int)) = false := by simp; omega
      clear h1 h2
      go_enter Tryz.func120, Tryz.ntmps120
      go_wp2_with fail
      go_ret
      exact ⟨ret_bool HR.out.symm, Below.refl _ _⟩
  · have HR : Hid (inChips k = false) := by show _ = _; simp [inChips]; omega
    have q1 : decide ((-1048576 : Int) ≤ k) = false := by simp; omega
    clear h1
    go_enter Tryz.func120, Tryz.ntmps120
    go_wp2_with fail
    go_ret
    exact ⟨ret_bool HR.out.symm, Below.refl _ _⟩

def vnE (n : Int) : Int := if 1 ≤ n ∧ n ≤ 12 then 0 else 2
theorem vertices_any (n : Int) (w : World) : Calls Tryz.prog 119 #[.int .i64 n] w (ErrPost w (vnE n)) := by
  by_cases h1 : 1 ≤ n
  · by_cases h2 : n ≤ 12
    · have HR : Hid (vnE n = 0) := if_pos ⟨h1, h2⟩
      have q1 : decide (n < (1 : Int)) = false := by simp; omega
      have q2 : decide ((12 : Int) < n) = false := by simp; omega
      clear h1 h2
      go_enter Tryz.func119, Tryz.ntmps119
      go_wp2_with fail
      go_ret
      exact ⟨ret_int HR.out.symm, Below.refl _ _⟩
    · have HR : Hid (vnE n = 2) := if_neg (by omega)
      have q1 : decide (n < (1 : Int)) = false := by simp; omega
      have q2 : decide ((12 : Int) < n) = true := by simp; omega
      clear h1 h2
      go_enter Tryz.func119, Tryz.ntmps119
      go_wp2_with fail
      go_ret
      exact ⟨ret_int HR.out.symm, Below.refl _ _⟩
  · have HR : Hid (vnE n = 2) := if_neg (by omega)
    have q1 : decide (n < (1 : Int)) = true := by simp; omega
    clear h1
    go_enter Tryz.func119, Tryz.ntmps119
    go_wp2_with fail
    go_ret
    exact ⟨ret_int HR.out.symm, Below.refl _ _⟩

set_option maxRecDepth 100000 in
set_option maxHeartbeats 2000000 in
theorem dcheck_any (n : Int) (d : List Int) (od : Option Addr) (cd : Nat) (F : Foot) (w : World) (hd : SliceR intR 1 F w od d) (hc : d.length ≤ cd) (hc2 : d.length ≤ 9223372036854775807) :
    Calls Tryz.prog 89 #[.slice od d.length cd, .int .i64 n] w (ErrPost w (dErr n d)) := by
  by_cases h1 : 1 ≤ n ∧ n ≤ 12
  · have HV : Hid (vnE n = 0) := if_pos h1
    by_cases h2 : (d.length : Int) = n
    · have HR : Hid (dErr n d = dScan d) := by show _ = _; unfold dErr; rw [if_pos h1, if_pos h2]
      have q1 : ((d.length : Int) != n) = false := by simp [h2]
      replace h2 := hide h2
      clear h1
      go_enter Tryz.func89, Tryz.ntmps89
      go_wp2_with fail
      refine (vertices_any n w).mono ?_
      rintro e w2 ⟨rfl, hb2⟩
      rw [HV.out]
      go_wp2_with fail
      go_loopw [19] (fun iv wr => ∃ k : Nat, k ≤ d.length ∧ iv = .int .i64 k ∧ Hid (dErr n d = dScan (d.drop k)) ∧ Below w.heap.size w wr) (fun iv _ => d.length - (intOf iv).toNat)
      case atStart => exact ⟨0, by omega, rfl, HR, hb2⟩
      case round =>
        clear hb2
        obtain ⟨k, hk, rfl, HS, hbW⟩ := hrel
        by_cases hlt : k < d.length
        · obtain ⟨x, hdr, _, ix, b, off, hod, _, c0⟩ := (hd.below intR_ok hbW).int_at hlt
          subst hod
          have HS2 : Hid (dErr n d = if inChips x = true then dScan (d.drop (k + 1)) else 2) := by show _ = _; rw [HS.out, hdr]; rfl
          clear hdr
          go_wp2_with fail
          refine (within_any x wr).mono ?_
          rintro e w3 ⟨rfl, hb3⟩
          have hb3' := hbW.trans (hb3.mono hbW.size)
          by_cases hx : inChips x = true
          · have HS3 : Hid (dErr n d = dScan (d.drop (k + 1))) := by show _ = _; rw [HS2.out, if_pos hx]
            rw [hx]
            clear hx
            go_wp2_with fail
            go_roundw
            case rel => exact ⟨k + 1, by omega, by go_num, HS3, hb3'⟩
            case measure => simp [intOf]; omega
          · have HS3 : Hid (dErr n d = 2) := by show _ = _; rw [HS2.out, if_neg hx]
            have hx2 : inChips x = false := by simpa using hx
            rw [hx2]
            clear hx hx2
            go_wp2_with fail
            go_ret
            exact ⟨ret_int HS3.out.symm, hb3'⟩
        · have hke : k = d.length := by omega
          have HS3 : Hid (dErr n d = 0) := by show _ = _; rw [HS.out, hke, List.drop_length]; rfl
          clear hke
          go_wp2_with fail
          go_ret
          exact ⟨ret_int HS3.out.symm, hbW⟩
    · have HR : Hid (dErr n d = 8) := by show _ = _; unfold dErr; rw [if_pos h1, if_neg h2]
      have q1 : ((d.length : Int) != n) = true := by simp [h2]
      clear h1 h2
      go_enter Tryz.func89, Tryz.ntmps89
      go_wp2_with fail
      refine (vertices_any n w).mono ?_
      rintro e w2 ⟨rfl, hb2⟩
      rw [HV.out]
      go_wp2_with fail
      go_ret
      exact ⟨ret_int HR.out.symm, hb2⟩
  · have HV : Hid (vnE n = 2) := if_neg h1
    have HR : Hid (dErr n d = 2) := if_neg h1
    clear h1
    go_enter Tryz.func89, Tryz.ntmps89
    go_wp2_with fail
    refine (vertices_any n w).mono ?_
    rintro e w2 ⟨rfl, hb2⟩
    rw [HV.out]
    go_wp2_with fail
    go_ret
    exact ⟨ret_int HR.out.symm, hb2⟩

/-- Chips that a vertex other than the sink lacks. -/
def gScan (q : Int) : Nat → List Int → Int
  | _, [] => 0
  | v, x :: r => if (v : Int) ≠ q ∧ x < 0 then 2 else gScan q (v + 1) r
/-- The error of rotors with chips. -/
def gvE (n : Int) (es : List Edg) (f : List Nat) (ar : List (List Int)) (q : Int) (rot d : List Int) : Int :=
  if rtE n es f ar q rot = 0 then (if dErr n d = 0 then gScan q 0 d else dErr n d) else rtE n es f ar q rot

section
variable (n : Int) (es : List Edg) (oe : Option Addr) (c : Nat) (ar : List (List Int)) (oa : Option Addr) (ca : Nat) (F G : Foot) (w : World) (hs : SliceR edgR 3 F w oe es) (hc : es.length ≤ c) (hc2 : es.length ≤ 1000)
    (ha : SliceR (slcR intR 1) 1 G w oa ar) (hac : ar.length ≤ ca) (hac2 : ar.length ≤ 9223372036854775807) (f : List Nat) (hU : Hid (gErr n es = 0 → Uf f (eL es)))
    (q : Int) (rot : List Int) (ot : Option Addr) (ct : Nat) (H : Foot) (hr : SliceR intR 1 H w ot rot) (hrc : rot.length ≤ ct) (hrl : rot.length ≤ 9223372036854775807)
    (d : List Int) (od : Option Addr) (cd : Nat) (D : Foot) (hd : SliceR intR 1 D w od d) (hdc : d.length ≤ cd) (hdl : d.length ≤ 9223372036854775807)
include hs hc hc2 ha hac hac2 hU hr hrc hrl hd hdc hdl

end

end Go.Proofs.YtpgopmmobbemcaaGreat

set_option linter.unusedVariables false
set_option linter.unusedSimpArgs false
namespace Go.Proofs.YtpgopmmobbemcaaGreat
open Go.RowKit

/-- The error of a connected graph with a sink; of a configuration. -/
def rootE (n : Int) (es : List Edg) (f : List Nat) (q : Int) : Int := if jErr n es f = 0 then (if vtxB n q = true then 0 else 2) else jErr n es f
def cfgE (n : Int) (es : List Edg) (f : List Nat) (q : Int) (d : List Int) : Int := if rootE n es f q = 0 then (if dErr n d = 0 then gScan q 0 d else dErr n d) else rootE n es f q

end Go.Proofs.YtpgopmmobbemcaaGreat

set_option linter.unusedVariables false
set_option linter.unusedSimpArgs false
namespace Go.Proofs.YtpgopmmobbemcaaGreat
open Go.RowKit

def sumI (f : Nat → Int) : Nat → Int
  | 0 => 0
  | n + 1 => sumI f n + f n
theorem sumI_le {f g : Nat → Int} : ∀ {n : Nat}, (∀ p, p < n → f p ≤ g p) → sumI f n ≤ sumI g n
  | 0, _ => Int.le_refl _
  | n + 1, h => by
    have h1 := sumI_le (n := n) fun p hp => h p (by omega)
    have h2 := h n (by omega)
    simp only [sumI]
    omega
theorem sumI_eq {f g : Nat → Int} {n : Nat} (h : ∀ p, p < n → f p = g p) : sumI f n = sumI g n :=
  Int.le_antisymm (sumI_le fun p hp => by rw [h p hp]; exact Int.le_refl _) (sumI_le fun p hp => by rw [h p hp]; exact Int.le_refl _)
theorem sumI_one {f g : Nat → Int} {k : Nat} : ∀ {n : Nat}, k < n → (∀ p, p < n → p ≠ k → f p = g p) → sumI f n = sumI g n + (f k - g k)
  | 0, h, _ => by omega
  | n + 1, h, he => by
    simp only [sumI]
    by_cases hk : k = n
    · subst hk
      rw [sumI_eq fun p hp => he p (by omega) (by omega)]
      omega
    · have h1 := sumI_one (n := n) (k := k) (by omega) fun p hp hne => he p (by omega) hne
      rw [he n (by omega) (by omega), h1]
      omega
theorem sumI_nn {f : Nat → Int} {n : Nat} (h : ∀ p, p < n → 0 ≤ f p) : 0 ≤ sumI f n := by
  have h1 := sumI_le (f := fun _ => 0) (g := f) (n := n) h
  have h2 : ∀ n, sumI (fun _ => 0) n = 0 := fun n => by
    induction n with
    | zero => rfl
    | succ n ih => simp only [sumI]; omega
  rw [h2] at h1
  exact h1
theorem sumI_mem {f : Nat → Int} : ∀ {n k : Nat}, (∀ p, p < n → 0 ≤ f p) → k < n → f k ≤ sumI f n
  | 0, k, _, hk => by omega
  | n + 1, k, h, hk => by
    simp only [sumI]
    by_cases e : k = n
    · subst e
      have := sumI_nn (n := k) (f := f) fun p hp => h p (by omega)
      omega
    · have := sumI_mem (n := n) (k := k) (fun p hp => h p (by omega)) (by omega)
      have := h n (by omega)
      omega
section
variable {n q : Nat} {R : Nat → Nat → Int} {D : Nat → Int}
def vlR (n : Nat) (R : Nat → Nat → Int) (v : Nat) : Int := sumI (R v) n
/-- The chips when each vertex w has fired u w times. -/
def cfg (n : Nat) (R : Nat → Nat → Int) (D : Nat → Int) (u : Nat → Nat) (v : Nat) : Int := D v - vlR n R v * (u v : Int) + sumI (fun w => R w v * (u w : Int)) n
def upU (u : Nat → Nat) (x t : Nat) : Nat → Nat := fun v => if v = x then u v + t else u v
theorem upU_at (u : Nat → Nat) (x t : Nat) : upU u x t x = u x + t := if_pos rfl
theorem upU_ne (u : Nat → Nat) {x v : Nat} (t : Nat) (h : v ≠ x) : upU u x t v = u v := if_neg h
theorem cfg_up (u : Nat → Nat) {x : Nat} (hx : x < n) (t v : Nat) : cfg n R D (upU u x t) v = cfg n R D u v - (if v = x then vlR n R x * (t : Int) else 0) + R x v * (t : Int) := by
  have h1 := sumI_one (f := fun w => R w v * ((upU u x t w : Nat) : Int)) (g := fun w => R w v * (u w : Int)) hx fun p hp hne => by rw [upU_ne u t hne]
  simp only [upU_at] at h1
  unfold cfg
  rw [h1]
  have h2 : R x v * ((u x + t : Nat) : Int) = R x v * (u x : Int) + R x v * (t : Int) := by push_cast; rw [Int.mul_add]
  rw [h2]
  by_cases e : v = x
  · subst e
    rw [upU_at, if_pos rfl]
    have h3 : vlR n R v * ((u v + t : Nat) : Int) = vlR n R v * (u v : Int) + vlR n R v * (t : Int) := by push_cast; rw [Int.mul_add]
    rw [h3]
    omega
  · rw [upU_ne u t e, if_neg e]
    omega
/-- What legal firings come to. -/
inductive Leg (n q : Nat) (R : Nat → Nat → Int) (D : Nat → Int) : (Nat → Nat) → Prop
  | zero : Leg n q R D fun _ => 0
  | fire {u : Nat → Nat} {v : Nat} : Leg n q R D u → v < n → v ≠ q → vlR n R v ≤ cfg n R D u v → Leg n q R D (upU u v 1)
def Stab (n q : Nat) (R : Nat → Nat → Int) (D : Nat → Int) (u : Nat → Nat) : Prop := ∀ v, v < n → v ≠ q → cfg n R D u v < vlR n R v
theorem cfg_mono (hR : ∀ v w, v < n → w < n → 0 ≤ R v w) {u g : Nat → Nat} (h : ∀ v, v < n → u v ≤ g v) {v : Nat} (hv : v < n) (he : u v = g v) : cfg n R D u v ≤ cfg n R D g v := by
  have h1 := sumI_le (f := fun w => R w v * (u w : Int)) (g := fun w => R w v * (g w : Int)) (n := n) fun p hp => Int.mul_le_mul_of_nonneg_left (by have := h p hp; omega) (hR p v hp hv)
  unfold cfg
  rw [he]
  omega
theorem Leg.least (hR : ∀ v w, v < n → w < n → 0 ≤ R v w) {g : Nat → Nat} (hs : Stab n q R D g) {u : Nat → Nat} (h : Leg n q R D u) : ∀ v, v < n → u v ≤ g v := by
  induction h with
  | zero => exact fun v _ => Nat.zero_le _
  | @fire u x hu hx hq hc ih =>
    intro v hv
    by_cases e : v = x
    · subst e
      rw [upU_at]
      have h1 := ih v hv
      by_cases h2 : u v = g v
      · have h3 := cfg_mono hR ih hv h2 (D := D)
        have h4 := hs v hv hq
        omega
      · omega
    · rw [upU_ne u 1 e]
      exact ih v hv
theorem Leg.same (hR : ∀ v w, v < n → w < n → 0 ≤ R v w) {u g : Nat → Nat} (hu : Leg n q R D u) (su : Stab n q R D u) (hg : Leg n q R D g) (sg : Stab n q R D g) : ∀ v, v < n → u v = g v := fun v hv =>
  Nat.le_antisymm (hu.least hR sg v hv) (hg.least hR su v hv)
/-- All chips stay there that are not at the sink. -/
theorem Leg.nn (hR : ∀ v w, v < n → w < n → 0 ≤ R v w) (hD : ∀ v, v < n → v ≠ q → 0 ≤ D v) {u : Nat → Nat} (h : Leg n q R D u) : ∀ v, v < n → v ≠ q → 0 ≤ cfg n R D u v := by
  induction h with
  | zero =>
    intro v hv hq
    unfold cfg
    have : sumI (fun w => R w v * ((0 : Nat) : Int)) n = 0 := by
      rw [sumI_eq (g := fun _ => 0) fun w _ => by simp]
      have h2 : ∀ n, sumI (fun _ => 0) n = 0 := fun n => by
        induction n with
        | zero => rfl
        | succ n ih => simp only [sumI]; omega
      exact h2 n
    rw [this]
    have := hD v hv hq
    simp
    exact this
  | @fire u x hu hx hq hc ih =>
    intro v hv hvq
    rw [cfg_up u hx]
    have h1 := ih v hv hvq
    have h2 := hR x v hx hv
    by_cases e : v = x
    · subst e
      rw [if_pos rfl]
      simp
      omega
    · rw [if_neg e]
      simp
      omega
end

/-- How often two different vertices are joined. -/
def rowR' (es : List Edg) (v w : Nat) : Int := if v = w then 0 else betw es v w
end Go.Proofs.YtpgopmmobbemcaaGreat

set_option linter.unusedVariables false
namespace Go.Proofs.YtpgopmmobbemcaaGreat
open Go.RowKit

def QuietB (b : Bool) (w : World) (e : Ending) (w' : World) : Prop := e = .returned (.bool b) ∧ ∃ m, w' = w.drewN m
theorem QuietB.below {b : Bool} {w : World} {e : Ending} {w' : World} (h : QuietB b w e w') : e = .returned (.bool b) ∧ Below w.heap.size w w' := by
  obtain ⟨rfl, m, rfl⟩ := h
  exact ⟨rfl, below_drewN (Below.refl _ _) _⟩
end Go.Proofs.YtpgopmmobbemcaaGreat

set_option linter.unusedVariables false
set_option linter.unusedSimpArgs false
namespace Go.Proofs.YtpgopmmobbemcaaGreat
open Go.RowKit

def lst (n : Nat) (f : Nat → Int) : List Int := (List.range n).map f
theorem lst_len (n : Nat) (f : Nat → Int) : (lst n f).length = n := by simp [lst]
theorem lst_get {n i : Nat} (f : Nat → Int) (h : i < n) : (lst n f)[i]? = some (f i) := by unfold lst; rw [List.getElem?_map, List.getElem?_range h]; rfl
def updF (f : Nat → Int) (i : Nat) (x : Int) : Nat → Int := fun u => if u = i then x else f u
def updW (f : Nat → Bool) (i : Nat) (x : Bool) : Nat → Bool := fun u => if u = i then x else f u
theorem map_set {α : Type} {n i : Nat} (f : Nat → α) (x : α) : ((List.range n).map f).set i x = (List.range n).map fun u => if u = i then x else f u := by
  apply List.ext_getElem?
  intro j
  rw [List.getElem?_set]
  by_cases e : i = j
  · subst e
    rw [if_pos rfl]
    by_cases hi : i < n
    · rw [if_pos (by simp [hi]), List.getElem?_map, List.getElem?_range hi]
      simp
    · rw [if_neg (by simp; omega), List.getElem?_eq_none (by simp; omega)]
  · rw [if_neg e, List.getElem?_map, List.getElem?_map]
    by_cases hj : j < n
    · rw [List.getElem?_range hj]
      show some (f j) = some (if j = i then x else f j)
      rw [if_neg fun e2 : j = i => e e2.symm]
    · rw [List.getElem?_eq_none (by simp; omega)]
      rfl
theorem lst_set {n i : Nat} (f : Nat → Int) (x : Int) : (lst n f).set i x = lst n (updF f i x) := map_set f x
theorem lst_congr {n : Nat} {f g : Nat → Int} (h : ∀ i, i < n → f i = g i) : lst n f = lst n g := List.map_congr_left fun i hi => h i (List.mem_range.1 hi)

structure PLay where
  p : Nat
  gd : Nat
  cd : Nat
  gv : Nat
  gf : Nat
  tv : Value
  rs : List Rw
  rest : List Value
structure PSt where
  d : Nat → Int
  f : Nat → Int
  tot : Int
  w : Nat → Bool
def pCells (N q : Nat) (L : PLay) (s : PSt) : List Value :=
  [.slice (some ⟨L.gd, 0, none⟩) N L.cd, .int .i64 q, L.tv, .slice (some ⟨L.gv, 0, none⟩) N N, .slice (some ⟨L.gf, 0, none⟩) N N, .int .i64 s.tot] ++ (List.range 12).map fun v => Value.bool (s.w v)
section
variable {B N q : Nat} {R : Nat → Nat → Int} {vl : Nat → Int} {L : PLay} {s : PSt} {W W' : World}
/-- Whether a vertex is unstable. -/
def unst (q : Nat) (vl d : Nat → Int) (v : Nat) : Bool := decide (v ≠ q ∧ vl v ≤ d v)
end

end Go.Proofs.YtpgopmmobbemcaaGreat

set_option linter.unusedVariables false
set_option linter.unusedSimpArgs false
namespace Go.Proofs.YtpgopmmobbemcaaGreat
open Go.RowKit Go.Shelf

attribute [local go_sem] Oper.semAt_some

/-- The other ends of the edges at a vertex, and how many single edges these are. -/
def lnkX (y : Edg) (v : Int) : Option (Int × Int) := if y.a ≠ y.b ∧ (y.a = v ∨ y.b = v) then some (y.a + y.b - v, y.m) else none
def lnkL (es : List Edg) (v : Int) : List (Int × Int) := es.filterMap fun y => lnkX y v
theorem lnkL_next {es : List Edg} {k : Nat} {x : Edg} (h : es[k]? = some x) (v : Int) : lnkL (es.take (k + 1)) v = lnkL (es.take k) v ++ (lnkX x v).toList := by
  unfold lnkL
  rw [List.take_add_one, h, List.filterMap_append]
  congr 1
theorem lnkL_pre (es : List Edg) (k : Nat) (v : Int) : lnkL (es.take k) v <+: lnkL es v := by
  refine ⟨lnkL (es.drop k) v, ?_⟩
  unfold lnkL
  rw [← List.filterMap_append, List.take_append_drop]
theorem lnkL_lt {es : List Edg} {k : Nat} {x : Edg} (h : es[k]? = some x) {v : Int} {p : Int × Int} (hp : lnkX x v = some p) : (lnkL (es.take k) v).length < (lnkL es v).length := by
  have h1 := (lnkL_pre es (k + 1) v).length_le
  rw [lnkL_next h, hp] at h1
  simp at h1
  omega

/-- The graph: vertices below N. -/
structure EOk (N : Nat) (es : List Edg) : Prop where
  len : es.length ≤ 1000
  at_ : ∀ y ∈ es, ((0 ≤ y.a ∧ y.a < N) ∧ 0 ≤ y.b ∧ y.b < N) ∧ 1 ≤ y.m ∧ y.m ≤ 50
theorem EOk.of {N : Nat} {es : List Edg} (h : gErr N es = 0) (hl : es.length ≤ 1000) : EOk N es := ⟨hl, fun y hy => by have := (gErr_zero h).2.1 y hy; omega⟩
theorem lnk_in {N : Nat} {es : List Edg} (h : EOk N es) {v : Nat} {p : Int × Int} (hp : p ∈ lnkL es v) : ∃ u : Nat, p.1 = u ∧ u < N ∧ u ≠ v ∧ 1 ≤ p.2 ∧ p.2 ≤ 50 := by
  unfold lnkL at hp
  obtain ⟨y, hy, e⟩ := List.mem_filterMap.1 hp
  obtain ⟨ha, hm⟩ := h.at_ y hy
  unfold lnkX at e
  split at e
  · rename_i hc
    injection e with e
    subst e
    refine ⟨(y.a + y.b - v).toNat, ?_, ?_, ?_, hm⟩
    · show y.a + y.b - v = _
      omega
    · omega
    · omega
  · cases e
/-- A link: a vertex below N, other than v, and how many single edges. -/
abbrev LnkT (N v : Nat) : Type := { p : Int × Int // ∃ u : Nat, p.1 = u ∧ u < N ∧ u ≠ v ∧ 1 ≤ p.2 ∧ p.2 ≤ 50 }
def lnkV {N v : Nat} (l : List (LnkT N v)) : List (Int × Int) := l.map fun p => p.1
theorem lnkV_snoc {N v : Nat} (l : List (LnkT N v)) (x : LnkT N v) : lnkV (l ++ [x]) = lnkV l ++ [x.1] := by simp [lnkV]
/-- What lay below n₀ lies as it lay, and so do some blocks. -/
def KpL (bs : List Nat) (n₀ : Nat) (W W' : World) : Prop := Below n₀ W W' ∧ ∀ g ∈ bs, W'.heap[g]? = W.heap[g]?
theorem KpL.refl (bs : List Nat) (n₀ : Nat) (W : World) : KpL bs n₀ W W := ⟨Below.refl _ _, fun _ _ => rfl⟩
theorem KpL.t {bs : List Nat} {n₀ : Nat} {A B C : World} (h : KpL bs n₀ A B) (k : KpL bs n₀ B C) : KpL bs n₀ A C := ⟨h.1.trans k.1, fun g hg => (k.2 g hg).trans (h.2 g hg)⟩
theorem KpL.b {bs : List Nat} {n₀ : Nat} {w : World} (hn : n₀ ≤ w.heap.size) (hbs : ∀ g ∈ bs, g < w.heap.size) (W : World) (l : Nat) (o o' : Obj) (hl : w.heap.size ≤ l) (ho : W.heap[l]? = some o) (hc : o.isCells = false) (hw : o.isWalk = false) : KpL bs n₀ W (W.putObj l o') := by
  refine ⟨belowK_b hn W l o o' hl ho hc hw, fun g hg => ?_⟩
  have := hbs g hg
  exact World.putObj_heap_other (by omega)
theorem KpL.below {bs : List Nat} {n₀ : Nat} {A B : World} (h : Below A.heap.size A B) (hn : n₀ ≤ A.heap.size) (hbs : ∀ g ∈ bs, g < A.heap.size) : KpL bs n₀ A B := ⟨h.mono hn, fun g hg => h.block g (hbs g hg)⟩

def lEnc {N v : Nat} (x : LnkT N v) : Array Value := #[.int .i64 x.1.1, .int .i64 x.1.2]

set_option maxRecDepth 100000 in
set_option maxHeartbeats 4000000 in
theorem links1_in (F : Fence) (n : Nat) (h7 : F.fn 165) (hro : F.round = none) (hn : 1 ≤ n) (l Bx Bv p n₀ bl off N v : Nat) (c : Nat) (oe : Option Addr) (es : List Edg) (hoe : oe = some ⟨bl, off, none⟩)
    (hok : Hid (EOk N es)) (hv : v < N) (hN : N ≤ 12) (hb : bl < n₀) (J Jx : List (LnkT N v) → World → Prop)
    (hY : ∀ pre x W, J pre W → pre.length < (lnkL es v).length → YieldAt F (n - 1) Tryz.prog l (lEnc x) W fun e W' =>
      (e = .returned (.bool true) ∧ J (pre ++ [x]) W' ∧ KpL [Bv] n₀ W W') ∨ (e = .returned (.bool false) ∧ Jx (pre ++ [x]) W'))
    (W : World) (hn₀ : n₀ ≤ W.heap.size) (hJ : AbidesFrom W.heap.size J) (hBx : W.cell? ⟨Bx, 0, none⟩ = some (.pointer (some ⟨p, 0, none⟩))) (hBv : W.cell? ⟨Bv, 0, none⟩ = some (.int .i64 v)) (hE : W.cell? ⟨p, 1, none⟩ = some (.slice oe es.length c))
    (hc : Hid (∀ i (x : Edg), es[i]? = some x → W.cell? ⟨bl, off + i * 3, none⟩ = some (.int .i64 x.a) ∧ W.cell? ⟨bl, off + i * 3 + 1, none⟩ = some (.int .i64 x.b) ∧ W.cell? ⟨bl, off + i * 3 + 2, none⟩ = some (.int .i64 x.m))) (h0 : J [] W) :
    CallsIn F n Tryz.prog 165 #[.func (.yield l) #[] #[], .pointer (some ⟨Bx, 0, none⟩), .pointer (some ⟨Bv, 0, none⟩)] W fun e W' => (∃ v, e = .returned v) ∧
      ((∃ ys, lnkV ys = lnkL es v ∧ J ys W') ∨ (∃ pre, lnkV pre <+: lnkL es v ∧ Jx pre W')) := by
  subst hoe
  have hes := hok.out.len
  have hBvl : Bv < W.heap.size := World.block_lt_of_cell? _ _ hBv
  refine callsIn_of_wp Tryz.func165 rfl h7 ?_ hro
  simp only [Tryz.ntmps165, List.size_toArray, List.length_cons, List.length_nil, Nat.reduceAdd, Nat.reduceSub, Array.replicate_succ, Array.replicate_zero, List.push_toArray, List.append_toArray, List.nil_append, List.cons_append]
  gi_wp2
  have HBV := hide hBv
  clear hBv hBx hE
  gi_loopw [13] (fun iv wr => ∃ (k : Nat) (ys : List (LnkT N v)), k ≤ es.length ∧ iv = .int .i64 k ∧ Hid (lnkV ys = lnkL (es.take k) v) ∧ J ys wr ∧ Hid (KpL [Bv] n₀ W wr) ∧ W.heap.size ≤ wr.heap.size)
    (fun i _ => es.length - (intOf i).toNat)
  case atStart => exact ⟨0, [], Nat.zero_le _, rfl, rfl, h0, KpL.refl _ _ _, Nat.le_refl _⟩
  case round =>
    obtain ⟨k, ys, hk, rfl, HYS, hJs, HK, hsz⟩ := hrel
    by_cases hlt : k < es.length
    · obtain ⟨⟨xa, xb, xm⟩, hx⟩ : ∃ x, es[k]? = some x := ⟨_, List.getElem?_eq_getElem hlt⟩
      obtain ⟨c0, c1, c2⟩ := hc.out k _ hx
      have c0 := (HK.out.1.cell (p := ⟨bl, off + k * 3, none⟩) hb).trans c0
      have c1 := (HK.out.1.cell (p := ⟨bl, off + k * 3 + 1, none⟩) hb).trans c1
      have c2 := (HK.out.1.cell (p := ⟨bl, off + k * 3 + 2, none⟩) hb).trans c2
      obtain ⟨hrx, hmx⟩ := hok.out.at_ _ (List.mem_of_getElem? hx)
      simp only at hrx hmx c0 c1 c2
      have hJ2 : J ys (wr.alloc (.cells #[.int .i64 xa, .int .i64 xb, .int .i64 xm] 123)) := hJ _ _ _ none hJs (World.grownBy_alloc wr _ none) (fun r e => by cases e)
      obtain ⟨W4, hW4⟩ : ∃ W4, wr.alloc (.cells #[.int .i64 xa, .int .i64 xb, .int .i64 xm] 123) = W4 := ⟨_, rfl⟩
      have bx : Box W4 wr.heap.size [.int .i64 xa, .int .i64 xb, .int .i64 xm] 123 := by rw [← hW4]; exact Box.new wr [.int .i64 xa, .int .i64 xb, .int .i64 xm] 123
      rw [hW4] at hJ2
      have x0 := bx.cell 0
      have x1 := bx.cell 1
      have x2 := bx.cell 2
      simp only [List.getElem?_cons_zero, List.getElem?_cons_succ] at x0 x1 x2
      have HK2 : Hid (KpL [Bv] n₀ W W4) := by
        rw [← hW4]
        exact HK.out.t (KpL.below (bnew (Below.refl _ _) _) (by omega) (by intro g hg; simp at hg; omega))
      have hs4 : W.heap.size ≤ W4.heap.size := by rw [← hW4]; simp; omega
      have bv : W4.cell? ⟨Bv, 0, none⟩ = some (.int .i64 v) := by
        have h1 := HK2.out.2 Bv (by simp)
        have h2 := HBV.out
        unfold World.cell? at h2 ⊢
        simp only [h1] 
        exact h2
      have HN := hide (lnkL_next hx v)
      have HX := hide hx
      clear hx bx hJs HK
      by_cases h1 : xa = xb
      · have q1 : (xa != xb) = false := by simpa using h1
        have HS : Hid (lnkL (es.take (k + 1)) v = lnkL (es.take k) v) := by show _ = _; rw [HN.out]; unfold lnkX; rw [if_neg (fun hh => hh.1 h1)]; simp
        clear h1
        gi_wp2
        refine ⟨fun _ h => (by cases h), ?_⟩
        gi_wp2
        go_roundw
        case rel => exact ⟨k + 1, ys, by omega, by go_num, by rw [HS.out]; exact HYS, hJ2, HK2, hs4⟩
        case measure => simp [intOf]; omega
      · have q1 : (xa != xb) = true := by simpa using h1
        by_cases h2 : xa = v ∨ xb = v
        · have HP : Hid (lnkX ⟨xa, xb, xm⟩ v = some (xa + xb - v, xm)) := if_pos ⟨h1, h2⟩
          have HS : Hid (lnkL (es.take (k + 1)) v = lnkL (es.take k) v ++ [(xa + xb - v, xm)]) := by show _ = _; rw [HN.out, HP.out]; rfl
          have hin : ∃ u : Nat, (xa + xb - v, xm).1 = (u : Int) ∧ u < N ∧ u ≠ v ∧ 1 ≤ (xa + xb - v, xm).2 ∧ (xa + xb - v, xm).2 ≤ 50 := lnk_in hok.out (v := v) (List.mem_filterMap.2 ⟨_, List.mem_of_getElem? HX.out, HP.out⟩)
          obtain ⟨fn, tmps, assign, body, hy, hR⟩ := hY _ ⟨(xa + xb - v, xm), hin⟩ W4 hJ2 (by
            have h5 := congrArg List.length HYS.out
            have h6 := lnkL_lt HX.out HP.out
            unfold lnkV at h5
            rw [List.length_map] at h5
            omega)
          simp only [lEnc] at hy
          have HS5 : Hid (lnkV (ys ++ [⟨(xa + xb - v, xm), hin⟩]) = lnkL (es.take (k + 1)) v) := by show _ = _; rw [lnkV_snoc, HYS.out, HS.out]
          have HPRE := hide (lnkL_pre es (k + 1) v)
          by_cases h3 : xa = v
          · have q2 : (xa == v) = true := by simpa using h3
            clear h1 h2 h3
            gi_wp2
            refine hR.mono ?_
            rintro e' W5 (⟨rfl, hJ5, hk5⟩ | ⟨rfl, hJx5⟩)
            · have HK5 := hide (HK2.out.t hk5)
              gi_wp2
              go_roundw
              case rel => exact ⟨k + 1, _, by omega, by go_num, HS5, hJ5, HK5, Nat.le_trans hs4 hk5.1.size⟩
              case measure => simp [intOf]; omega
            · gi_wp2
              refine bodyPost_ret (results_none rfl _ _ _) rfl ?_
              exact ⟨⟨_, rfl⟩, .inr ⟨_, by rw [HS5.out]; exact HPRE.out, hJx5⟩⟩
          · have q2 : (xa == v) = false := by simpa using h3
            have q3 : (xb == v) = true := by
              have : xb = v := by
                rcases h2 with h | h
                · exact absurd h h3
                · exact h
              simpa using this
            clear h1 h2 h3
            gi_wp2
            refine hR.mono ?_
            rintro e' W5 (⟨rfl, hJ5, hk5⟩ | ⟨rfl, hJx5⟩)
            · have HK5 := hide (HK2.out.t hk5)
              gi_wp2
              go_roundw
              case rel => exact ⟨k + 1, _, by omega, by go_num, HS5, hJ5, HK5, Nat.le_trans hs4 hk5.1.size⟩
              case measure => simp [intOf]; omega
            · gi_wp2
              refine bodyPost_ret (results_none rfl _ _ _) rfl ?_
              exact ⟨⟨_, rfl⟩, .inr ⟨_, by rw [HS5.out]; exact HPRE.out, hJx5⟩⟩
        · have q2 : (xa == v) = false := by simp; exact fun h => h2 (.inl h)
          have q3 : (xb == v) = false := by simp; exact fun h => h2 (.inr h)
          have HS : Hid (lnkL (es.take (k + 1)) v = lnkL (es.take k) v) := by show _ = _; rw [HN.out]; unfold lnkX; rw [if_neg (fun hh => h2 hh.2)]; simp
          clear h1 h2
          gi_wp2
          refine ⟨fun _ h => (by cases h), ?_⟩
          gi_wp2
          go_roundw
          case rel => exact ⟨k + 1, ys, by omega, by go_num, by rw [HS.out]; exact HYS, hJ2, HK2, hs4⟩
          case measure => simp [intOf]; omega
    · have HJ : Hid (lnkV ys = lnkL es v) := by
        have h1 := HYS.out
        rw [List.take_of_length_le (by omega)] at h1
        exact h1
      gi_wp2
      go_end0
      exact ⟨⟨_, rfl⟩, .inl ⟨_, HJ.out, hJs⟩⟩
theorem links1_nil_in (F : Fence) (n : Nat) (h7 : F.fn 165) (hro : F.round = none) (l Bx Bv p N v : Nat) (c : Nat) (a : Option Addr) (J : List (LnkT N v) → World → Prop) (W : World)
    (hBx : W.cell? ⟨Bx, 0, none⟩ = some (.pointer (some ⟨p, 0, none⟩))) (hE : W.cell? ⟨p, 1, none⟩ = some (.slice a 0 c)) (h0 : J [] W) :
    CallsIn F n Tryz.prog 165 #[.func (.yield l) #[] #[], .pointer (some ⟨Bx, 0, none⟩), .pointer (some ⟨Bv, 0, none⟩)] W fun e W' => (∃ v, e = .returned v) ∧ J [] W' := by
  refine callsIn_of_wp Tryz.func165 rfl h7 ?_ hro
  simp only [Tryz.ntmps165, List.size_toArray, List.length_cons, List.length_nil, Nat.reduceAdd, Nat.reduceSub, Array.replicate_succ, Array.replicate_zero, List.push_toArray, List.append_toArray, List.nil_append, List.cons_append]
  gi_wp2
  gi_loopw [13] (fun i wr => i = .int .i64 0 ∧ J [] wr) (fun _ _ => 0)
  case atStart => exact ⟨rfl, h0⟩
  case round =>
    obtain ⟨rfl, hJs⟩ := hrel
    gi_wp2
    go_end0
    exact ⟨⟨_, rfl⟩, hJs⟩
theorem links_stops (F : Fence) (n : Nat) (h7 : F.fn 165) (hro : F.round = none) (hn : 1 ≤ n) (Bx Bv p n₀ N v : Nat) (c : Nat) (oe : Option Addr) (es : List Edg)
    (hok : Hid (EOk N es)) (hv : v < N) (hN : N ≤ 12) (w : World) (hn₀ : n₀ ≤ w.heap.size)
    (hBx : w.cell? ⟨Bx, 0, none⟩ = some (.pointer (some ⟨p, 0, none⟩))) (hBv : w.cell? ⟨Bv, 0, none⟩ = some (.int .i64 v)) (hE : w.cell? ⟨p, 1, none⟩ = some (.slice oe es.length c)) (hI : EdgesBelow n₀ w oe es) :
    SeqStopsK F n Tryz.prog 165 #[.pointer (some ⟨Bx, 0, none⟩), .pointer (some ⟨Bv, 0, none⟩)] (lEnc (N := N) (v := v)) (KpL [Bv] n₀) (fun ys => lnkV ys = lnkL es v) (fun pre => lnkV pre <+: lnkL es v) (lnkL es v).length w := fun l J Jx W hW hJ _ hY h0 => by
  have c1 := (hW.cell (p := ⟨Bx, 0, none⟩) (World.block_lt_of_cell? _ _ hBx)).trans hBx
  have c2 := (hW.cell (p := ⟨Bv, 0, none⟩) (World.block_lt_of_cell? _ _ hBv)).trans hBv
  have c3 := (hW.cell (p := ⟨p, 1, none⟩) (World.block_lt_of_cell? _ _ hE)).trans hE
  rcases hI.below (hW.mono hn₀) with rfl | ⟨bl, off, hoe, hb, hcs⟩
  · exact (links1_nil_in F n h7 hro l Bx Bv p N v c oe J W c1 c3 h0).mono fun e W' ⟨he, hj⟩ => ⟨he, .inl ⟨_, rfl, hj⟩⟩
  · exact links1_in F n h7 hro hn l Bx Bv p n₀ bl off N v c oe es hoe hok hv hN hb J Jx hY W (Nat.le_trans hn₀ hW.size) hJ c1 c2 c3 hcs h0
theorem links_any (p : Nat) (v : Int) (w : World) :
    Calls Tryz.prog 154 #[.pointer (some ⟨p, 0, none⟩), .int .i64 v] w fun e w' => e = .returned (.func (.func 165) #[] #[.pointer (some ⟨w.heap.size, 0, none⟩), .pointer (some ⟨w.heap.size + 1, 0, none⟩)]) ∧ w' = (w.alloc (.cells #[.pointer (some ⟨p, 0, none⟩)] 143)).alloc (.cells #[.int .i64 v] 3) := by
  go_enter Tryz.func154, Tryz.ntmps154
  go_wp2_with fail
  go_ret
  exact ⟨rfl, rfl⟩
end Go.Proofs.YtpgopmmobbemcaaGreat

set_option linter.unusedVariables false
set_option linter.unusedSimpArgs false
namespace Go.Proofs.YtpgopmmobbemcaaGreat
open Go.RowKit

/-- How a round may be left. -/
def jointPost (Jy : World → Prop) (Jx : Code → World → Prop) (W : World) : Exit → Act → World → Prop
  | .normal, _, W' => KeepsOthers W W' ∧ Jy W'
  | .ret, _, W' => KeepsOthers W W' ∧ Jx .ret W'
  | .exit id, _, W' => KeepsOthers W W' ∧ Jx (.exit id) W'
  | .goto t, _, W' => KeepsOthers W W' ∧ Jx (.goto t) W'
  | .panic _, _, _ => False
  | .outgrown, _, _ => False

/-- The iterator's word: J i before the i-th yield, Jy i behind it, Jd at the end. -/
def SeqJoint (F : Fence) (n : Nat) (P : Program) (g : Nat) (lb : Array Value) (encs : Nat → Array Value) (J Jy : Nat → World → Prop) (Jd : World → Prop) : Prop :=
  ∀ (l : Nat) (R X : World → Prop) (W : World), (∀ A B, R A → KeepsOthers A B → R B) →
    (∀ i W1, J i W1 → R W1 → YieldAt F (n - 1) P l (encs i) W1 fun e W' => (e = .returned (.bool true) ∧ Jy i W' ∧ R W') ∨ (e = .returned (.bool false) ∧ X W')) →
    J 0 W → R W → CallsIn F n P g (#[.func (.yield l) #[] #[]] ++ lb) W fun e W' => (∃ v, e = .returned v) ∧ ((Jd W' ∧ R W') ∨ X W')

end Go.Proofs.YtpgopmmobbemcaaGreat

set_option linter.unusedVariables false
set_option linter.unusedSimpArgs false
set_option linter.unnecessarySimpa false
namespace Go.Proofs.YtpgopmmobbemcaaGreat
open Go.RowKit

/-- Right rotors of a right ribbon graph. -/
structure RtOk (n : Int) (es : List Edg) (ar : List (List Int)) (q : Nat) (rot : List Int) : Prop where
  nar : (ar.length : Int) = n
  nrot : rot.length = ar.length
  hq : q < ar.length
  n12 : ar.length ≤ 12
  cap : (endsL es).length ≤ 50000
  rng : ∀ h, h < 2 * (endsL es).length → 0 ≤ hv (endsL es) h ∧ hv (endsL es) h < n
  rows : ∀ (v : Nat) (l : List Int), ar[v]? = some l → l.length ≤ 2 * (endsL es).length ∧ ∀ x ∈ l, ∃ h : Nat, x = h ∧ h < 2 * (endsL es).length ∧ hv (endsL es) h = (v : Int)
  rots : ∀ (v : Nat) (k : Int) (l : List Int), rot[v]? = some k → ar[v]? = some l → 0 ≤ k ∧ (v = q → k = 0) ∧ (v ≠ q → k < l.length)

theorem rowsE_zero : ∀ {ar os : List (List Int)}, rowsE ar os = 0 → ∀ (v : Nat) (a o : List Int), ar[v]? = some a → os[v]? = some o → listE a o = 0
  | [], _, _, v, a, o, h, _ => by simp at h
  | _ :: _, [], _, v, a, o, _, h => by simp at h
  | x :: r, y :: s, hz, v, a, o, h1, h2 => by
    rw [rowsE_cons] at hz
    split at hz
    · rename_i h0
      cases v with
      | zero => simp at h1 h2; subst h1 h2; exact h0
      | succ v => exact rowsE_zero hz v a o (by simpa using h1) (by simpa using h2)
    · rename_i h0; exact absurd hz h0
theorem listE_zero {l own : List Int} (h : listE l own = 0) : l.length = own.length ∧ ∀ x ∈ l, x ∈ own := by
  unfold listE at h
  split at h
  · rename_i h1
    split at h
    · rename_i h2
      exact ⟨h1, (scanE_zero h2 (by simp) (by simp)).2⟩
    · rename_i h2; exact absurd h h2
  · cases h
theorem rotE_zero {q : Int} : ∀ {v0 : Nat} {ar : List (List Int)} {rot : List Int}, rotE q v0 ar rot = 0 → ∀ (v : Nat) (k : Int) (l : List Int), rot[v]? = some k → ar[v]? = some l → ¬ badR q (v0 + v) k l.length
  | v0, [], rot, _, v, k, l, _, h => by simp at h
  | v0, _ :: _, [], _, v, k, l, h, _ => by simp at h
  | v0, a :: ar, x :: rot, hz, v, k, l, h1, h2 => by
    rw [rotE_cons] at hz
    split at hz
    · cases hz
    · rename_i h0
      cases v with
      | zero => simp at h1 h2; subst h1 h2; exact h0
      | succ v =>
        have := rotE_zero hz v k l (by simpa using h1) (by simpa using h2)
        rw [show v0 + (v + 1) = v0 + 1 + v from by omega]
        exact this

theorem RtOk.of {n : Int} {es : List Edg} {f : List Nat} {ar : List (List Int)} {q : Int} {rot : List Int} (h : rtE n es f ar q rot = 0) (hc2 : es.length ≤ 1000) : ∃ q' : Nat, q = q' ∧ RtOk n es ar q' rot := by
  obtain ⟨h1, h2, h3, h4⟩ := rtE_zero h
  obtain ⟨j1, j2, j3⟩ := chkE_zero h1
  have hV := jErr_zero j1
  have hn12 := (gErr_zero hV).1
  obtain ⟨q', rfl⟩ := Int.eq_ofNat_of_zero_le h2.1
  refine ⟨q', rfl, ⟨j2, by omega, by omega, by omega, ?_, hv_range hV, ?_, ?_⟩⟩
  · have := endsL_len (es := es) fun x hx => ((gErr_zero hV).2.1 x hx).2.2.2.1
    omega
  · intro v l hl
    have hvl : v < ar.length := (List.getElem?_eq_some_iff.1 hl).1
    have ho : (halfs n es)[v]? = some (halfU (endsL es) (2 * (endsL es).length) v) := halvesU_get (by omega)
    obtain ⟨e1, e2⟩ := listE_zero (rowsE_zero j3 v l _ hl ho)
    refine ⟨by rw [e1]; exact halfU_len _ _ _, fun x hx => halfU_mem.1 (e2 x hx)⟩
  · intro v k l hk hl
    have := rotE_zero h4 v k l hk hl
    rw [Nat.zero_add] at this
    unfold badR at this
    refine ⟨by omega, fun e => ?_, fun e => ?_⟩
    · subst e; omega
    · omega

/-- The rotor behind a step at v, and where the chip goes. -/
def stpK (ar : List (List Int)) (rot : List Int) (v : Nat) : Nat := ((rot.getD v 0).toNat + 1) % (ar.getD v []).length
def stpR (ar : List (List Int)) (rot : List Int) (v : Nat) : List Int := rot.set v (stpK ar rot v : Nat)
def stpV (ar : List (List Int)) (E : List (Int × Int)) (rot : List Int) (v : Nat) : Nat := (hv E (oppH ((ar.getD v []).getD (stpK ar rot v) 0).toNat)).toNat

theorem oppH_lt {h m : Nat} (hh : h < 2 * m) : oppH h < 2 * m := by unfold oppH; split <;> omega
theorem getD_of {α : Type} {l : List α} {i : Nat} {x d : α} (h : l[i]? = some x) : l.getD i d = x := by rw [List.getD_eq_getElem?_getD, h]; rfl

theorem RtOk.step {n : Int} {es : List Edg} {ar : List (List Int)} {q : Nat} {rot : List Int} (h : RtOk n es ar q rot) {v : Nat} (hv' : v < ar.length) (hvq : v ≠ q) :
    (∃ (l : List Int) (k g : Nat), ar[v]? = some l ∧ rot[v]? = some (k : Int) ∧ k < l.length ∧ l.length ≤ 1000000 ∧ stpK ar rot v = (k + 1) % l.length ∧ l[(k + 1) % l.length]? = some (g : Int) ∧ (toL (endsL es))[g]? = some ((stpV ar (endsL es) rot v : Nat) : Int)) ∧
    RtOk n es ar q (stpR ar rot v) ∧ stpV ar (endsL es) rot v < ar.length := by
  have hl : ar[v]? = some ar[v] := List.getElem?_eq_getElem hv'
  have hk0 : rot[v]? = some (rot[v]'(by rw [h.nrot]; exact hv')) := List.getElem?_eq_getElem (by rw [h.nrot]; exact hv')
  obtain ⟨r1, _, r3⟩ := h.rots v _ _ hk0 hl
  generalize rot[v]'(by rw [h.nrot]; exact hv') = k at hk0 r1 r3
  generalize ar[v] = l at *
  obtain ⟨k, rfl⟩ := Int.eq_ofNat_of_zero_le r1
  have hkl : k < l.length := by have := r3 hvq; omega
  obtain ⟨w1, w2⟩ := h.rows v l hl
  have hK : stpK ar rot v = (k + 1) % l.length := by
    unfold stpK
    rw [getD_of hk0, getD_of hl]
    simp
  have hKl : (k + 1) % l.length < l.length := Nat.mod_lt _ (by omega)
  have hx : l[(k + 1) % l.length]? = some l[(k + 1) % l.length] := List.getElem?_eq_getElem hKl
  obtain ⟨g, hg, hg2, _⟩ := w2 _ (List.getElem_mem hKl)
  rw [hg] at hx
  have hV : stpV ar (endsL es) rot v = (hv (endsL es) (oppH g)).toNat := by
    unfold stpV
    rw [hK, getD_of hl, getD_of hx]
    simp
  have hr := h.rng _ (oppH_lt hg2)
  have hr2 := h.nar
  refine ⟨⟨l, k, g, hl, hk0, hkl, by have := h.cap; omega, hK, hx, ?_⟩, ⟨h.nar, ?_, h.hq, h.n12, h.cap, h.rng, h.rows, ?_⟩, by rw [hV]; omega⟩
  · rw [toL_get _ g hg2, hV]
    congr 1
    omega
  · unfold stpR; rw [List.length_set]; exact h.nrot
  · intro u y m hy hm
    unfold stpR at hy
    by_cases hu : v = u
    · subst hu
      rw [List.getElem?_set_self (by rw [h.nrot]; exact hv')] at hy
      injection hy with hy
      subst hy
      rw [hl] at hm
      injection hm with hm
      subst hm
      exact ⟨by omega, fun e => absurd e hvq, fun _ => by rw [hK]; omega⟩
    · rw [List.getElem?_set_ne hu] at hy
      exact h.rots u y m hy hm

/-- The way of a chip: the rotors behind it and the vertices, at most m steps. -/
def wlk (ar : List (List Int)) (E : List (Int × Int)) (q : Nat) : Nat → List Int → Nat → List Nat → Option (List Int × List Nat)
  | 0, rot, v, acc => if v = q then some (rot, acc ++ [v]) else none
  | m + 1, rot, v, acc => if v = q then some (rot, acc ++ [v]) else wlk ar E q m (stpR ar rot v) (stpV ar E rot v) (acc ++ [v])
end Go.Proofs.YtpgopmmobbemcaaGreat

set_option linter.unusedVariables false
set_option linter.unusedSimpArgs false
namespace Go.Proofs.YtpgopmmobbemcaaGreat
open Go.RowKit Go.Shelf

attribute [local go_sem] Oper.semAt_some

/-- A measure for a relation with a hidden number. -/
theorem greatest (p : Nat → Prop) : ∀ (M i : Nat), i ≤ M → p i → ∃ j, j ≤ M ∧ p j ∧ ∀ k, k ≤ M → p k → k ≤ j
  | 0, i, hi, h => ⟨i, hi, h, fun k hk _ => by omega⟩
  | M + 1, i, hi, h => by
    by_cases hM : p (M + 1)
    · exact ⟨M + 1, Nat.le_refl _, hM, fun k hk _ => hk⟩
    · have hne : i ≠ M + 1 := fun e => hM (e ▸ h)
      obtain ⟨j, h1, h2, h3⟩ := greatest p M i (by omega) h
      refine ⟨j, by omega, h2, fun k hk hp => h3 k ?_ hp⟩
      have : k ≠ M + 1 := fun e => hM (e ▸ hp)
      omega
/-- The boxes of a way: where the chip is, the sink, the step. -/
structure WayBox (W : World) (h : Nat) (v q : Nat) (fv : Value) : Prop where
  bv : Boxed W h 3 (.int .i64 v)
  bq : Boxed W (h + 1) 3 (.int .i64 q)
  bs : Boxed W (h + 2) 114 fv
theorem boxed_same {W W' : World} {B : Nat} {t : TypeId} {v : Value} (h : Boxed W B t v) (e : W'.heap[B]? = W.heap[B]?) : Boxed W' B t v := e.trans h
theorem WayBox.keep {W W' : World} {h v q : Nat} {fv : Value} (hb : WayBox W h v q fv) (hk : ∀ k, h ≤ k → k ≤ h + 2 → k < W.heap.size → W'.heap[k]? = W.heap[k]?) : WayBox W' h v q fv :=
  ⟨boxed_same hb.bv (hk _ (by omega) (by omega) hb.bv.lt), boxed_same hb.bq (hk _ (by omega) (by omega) hb.bq.lt), boxed_same hb.bs (hk _ (by omega) (by omega) hb.bs.lt)⟩
theorem WayBox.put {W : World} {h v q : Nat} {fv : Value} (hb : WayBox W h v q fv) (u : Nat) : WayBox (W.setCell ⟨h, 0, none⟩ (.int .i64 u)) h u q fv :=
  ⟨hb.bv.set _, hb.bq.other (by omega) _, hb.bs.other (by omega) _⟩
theorem WayBox.own {β : Type} {h q : Nat} {fv : Value} (v : β → Nat) : Own (fun (s : β) W => WayBox W h (v s) q fv) := fun s X Y row hs hg hr =>
  ⟨boxed_own h _ (fun s : β => Value.int .i64 (v s : Nat)) s X Y row hs.bv hg hr, boxed_own (h + 1) _ (fun _ : Unit => _) () X Y row hs.bq hg hr, boxed_own (h + 2) _ (fun _ : Unit => _) () X Y row hs.bs hg hr⟩
end Go.Proofs.YtpgopmmobbemcaaGreat

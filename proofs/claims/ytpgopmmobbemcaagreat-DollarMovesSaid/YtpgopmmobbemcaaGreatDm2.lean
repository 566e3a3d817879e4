/-
  The reference's Size, Half, At, Valence, Degree.
  The reference's error of the list of a vertex: around.
  The degree is the number of half-edges: plain Lean.
  The reference's Reached: the vertices that are connected with one.
  The reference's Parts, Connected, Joined.
  The reference's Connected and Joined.
  The reference's Check of ribbon graphs, and ribbon.Check.
  Rotor configurations: Check of the program and of the reference.
  A slice that the call has just made, and that holds nothing yet.
  slices.Clone of ints.
  A board: the rotors with the vertices to which the half-edges lead; a step.
  boardOf and at: a right rotor configuration's board.
  boardOf and at, where there is no board; at, where there is one.
  chips.Check, rotor.given.
  Right rotors: what a step does to them (plain law), and the program's Step.
  ref44.Opposite, ref45.Targets.
  rotor.Step.
  ref45.Turned, ref45.Step.
  The sizes that the statements take in: ref08.Few, ref44.Few, ref45.Few.
  ref17.In, ref17.Check, ref45.chips, ref45.Given; ref17.Few, ref17.Small, ref45.FewChips.
  There is a forest for every right graph.
  A game in memory; ref17.Few, ref17.Small; sandpilelaw45.small.
  The dollar game: debts and costs.
  The moves of the dollar game, in memory; no function of the program is named here.
  From the reading of an argument to the representations: a divisor with a script and moves, and how long the list of moves is.
  The wire machine in plain Lean: packets over lines that lose, repeat and delay them; what is quiet remains so.
  The wire machine in memory: what lies where, and what a store of each kind does.
  The wire machine in memory: what a call of one of its functions leaves alone; wait.
  The wire machine while it is laid: what lies where, row by row.
  A table of rows of ints that the code makes row by row, and whose numbers it changes.
  make([]T, n) and copy(d, s) at elements of several cells: the copy is the call's own.
  append of one element to a list of the call's own whose elements hold data in other rows: these lie in P, and not in the list's own row.
  Plain facts on right processors, and what reading a word comes to.
  Networks of processors: the error of a network, in plain Lean; what a right one holds.
  The walks of package processor: below, sent, rule, Check.
  network.Check.
  The reference of networks: understood, waits.
  The walks of the reference of layer 54: rule, Check.
  The walk of the reference of layer 54: Check.
  The reference of networks: Check.
  The order of outputs, and sorting: plain Lean.
  The closures that compare outputs.
  A row of outputs that is sorted in place: the insertion sort.
  Reading a word: the program and the reference.
  slices.Clone of outputs; sorting a small list.
  sorted: a copy of a list of outputs, in order; here for lists of fewer than 20 elements, whose sort is one insertion sort.
  What the reference's Order comes to is the list in order.
  The reference's Order.
  Two lists of outputs, two lists of ints: SameOutputs, SameInts.
  slices.Equal of ints.
  slices.Equal of outputs and of ints.
  Unary, state: the program and the reference.
  Unary, state: the reference.
  letters: the program and the reference; Few.
  Run: the program and the reference.
  Step: the program and the reference.
  commute, Commuting.
  Abelian: the program and the reference.
  The wire machine in plain Lean: what stays true of it while it goes on, and how great its numbers become.
  The wire machine over a right network: its rules are within bounds.
  The reference of networks: Few, Small, Commutes.
  slices.Clone at the lists of a network (printed by wip/mkClone.py).
  A slice of the call's own of which one element is open: a store into an element of a list of lists. No program is named here.
  The wire machine: processors with lists of their own.
  append of one element to a slice of the call's own, as one step of a region that draws its order: and where the new slice lies. No program is named here.
  network.copied: a network that shares no memory with the given one.
  A network that runs, in memory: start, network, moves.
  The wire machine: letters that were acknowledged are removed.
  The wire machine: packets are sent.
  The wire machine in memory: the letters of a line grow.
  slices.IndexFunc and slices.ContainsFunc at the closures of the wire machine (printed by wip/mkIdx.py).
  The wire machine: a packet that arrives is handled.
  The wire machine: the packets of a tick arrive: what is needed of the lists.
  The wire machine: a processor reads a letter.
  A network that runs, in memory: make, a move.
  Networks that run, in plain Lean: a move keeps a network right; a run by picks.
  Rows of outputs: swapping two parts of the same length, and rotating two parts.
  Merging two sorted lists: plain Lean.
  The merge of two sorted parts of a row: one part has one element.
  The merge of two sorted parts of a row: the second part has one element.
  The merge of two sorted parts of a row: both parts have at least two elements.
  The stable sort of a row of outputs: blocks of 20, then merges.
  The examples of chapter 54: Vertex, Rotor, Setter.
  awake: the examples of chapter 54 hold.
  The walk of ProcessorRuns.
  The walk of ProcessorCommutes.
  right: whether a processor, a state and a word are right and small.
  slices.Grow of the nil slice, and slices.Concat, at lists of outputs.
  The walk of ProcessorSplits.
  slices.Min of ints: whether it is negative.
  slices.Repeat of a list of one integer.
  Counts of letters: the least count, the error of counts, the word of counts.
  The word of counts and the error of counts: the reference.
  The error of counts: the reference.
  Many: the program.
  An abelian processor reads a word in whatever order with the same end and the same outputs up to order.
  Networks of abelian processors, in plain Lean: histories (what each processor has read), what was sent by them, and the least action.
  Results of which the first is a row of cells.
  graph.at, graph.joined, slices.BinarySearchFunc at the edges of a graph, graph.Between.
  slices.Repeat of a list of one output; copy between places of a row of elements of several cells.
  network.sink, waiting, toppler: the processors of a sandpile.
  The reference's sandpile as a network: sink, chips.
  ref55.toppler (printed by mkRefTop.py).
  stabilize.rooted, stabilize.Check.
  Chip-firing with a sink, in plain Lean: legal firings, least action, the valence as a sum.
  Two lists of ints, two tables: SameInts of chapter 08, SameTables of chapter 55.
-/
import Derived.Test.YtpgopmmobbemcaaGreatDm1
import Derived.Deep.RegionHeld3
import Derived.BigQuiet
import Derived.RangeFuncBox
import Derived.StillTailTactics
import Derived.SizedLaws
import Derived.Test.YtpgopmmobbemcaaGreatProg
import Derived.WalkKit
import Derived.Laws.CopyOwn
import Derived.Deep.AppendLies
import Derived.Deep.QuietTactic
import Derived.Deep.LoopGhost
import Derived.Deep.DeepCutAuto
import Derived.Laws.ResultCell
import Derived.BigRegion
import Derived.Lib.AppendZeros
import Derived.OwnWalk
import Derived.Laws.Bits64b
import Derived.Deep.RegionLaw

set_option linter.unusedVariables false
set_option linter.unusedSimpArgs false
set_option linter.unnecessarySimpa false
namespace Go.Proofs.YtpgopmmobbemcaaGreat
open Go.RowKit

set_option maxRecDepth 100000 in
theorem rsize_any (n : Int) (es : List Edg) (oe : Option Addr) (c : Nat) (F : Foot) (w : World) (hs : SliceR edgR 3 F w oe es) (hc : es.length ≤ c) (hc2 : es.length ≤ 1000) (hm : Hid (∀ x ∈ es, x.m ≤ 50)) :
    Calls Tryz.prog 114 #[.agg #[.int .i64 n, .slice oe es.length c]] w (ErrPost w ((endsL es).length : Nat)) := by
  go_enter Tryz.func114, Tryz.ntmps114
  go_wp2_with fail
  have hb0 := box_refl w (.cells #[.int .i64 n, .slice oe es.length c] 24)
  refine (rgends_any n es oe c F _ (hs.below edgR_ok (below_box hb0)) hc hc2 hm).mono ?_
  rintro e w2 ⟨v, rfl, ho, hb2⟩
  obtain ⟨ov, cv, rfl, _, _⟩ := ho.slice prR_ok
  have hx := below_box (hb2.mono (B' := w.heap.size + 1) (by simp))
  clear ho hb2
  go_wp2_with fail
  go_ret
  exact ⟨rfl, hx⟩

/-- The edges from the vertices below u to v. -/
def valU (es : List Edg) (v : Int) : Nat → Int
  | 0 => 0
  | u + 1 => valU es v u + (if (u : Int) = v then 0 else betw es u v)
theorem betw_range {es : List Edg} (h : ∀ x ∈ es, 0 ≤ x.m ∧ x.m ≤ 50) (a b : Int) : 0 ≤ betw es a b ∧ betw es a b ≤ 50 := by
  induction es with
  | nil => simp [betw]
  | cons x r ih =>
    unfold betw
    split
    · exact h x (by simp)
    · exact ih fun y hy => h y (by simp [hy])
def degU (n : Nat) (es : List Edg) (v : Int) : Int := valU es v n + 2 * betw es v v
end Go.Proofs.YtpgopmmobbemcaaGreat

set_option linter.unusedVariables false
set_option linter.unusedSimpArgs false
set_option linter.unnecessarySimpa false
namespace Go.Proofs.YtpgopmmobbemcaaGreat
open Go.RowKit

theorem halfU_mem {l : List (Int × Int)} {H v : Nat} {x : Int} : x ∈ halfU l H v ↔ ∃ h : Nat, x = h ∧ h < H ∧ hv l h = (v : Int) := by
  simp only [halfU, List.mem_map, List.mem_filter, List.mem_range, beq_iff_eq]
  constructor
  · rintro ⟨h, ⟨h1, h2⟩, rfl⟩; exact ⟨h, rfl, h1, h2⟩
  · rintro ⟨h, rfl, h1, h2⟩; exact ⟨h, ⟨h1, h2⟩, rfl⟩

theorem scanE_zero {own : List Int} : ∀ {l pre : List Int}, scanE own pre l = 0 → pre.Nodup → (∀ x ∈ pre, x ∈ own) → (pre ++ l).Nodup ∧ ∀ x ∈ l, x ∈ own
  | [], pre, _, hn, _ => by simpa using hn
  | x :: r, pre, h, hn, hp => by
    rw [scanE_cons] at h
    by_cases h1 : x ∈ own
    · rw [if_pos h1] at h
      by_cases h2 : x ∈ pre
      · rw [if_pos h2] at h; cases h
      · rw [if_neg h2] at h
        have hn2 : (pre ++ [x]).Nodup := by
          rw [List.nodup_append]
          exact ⟨hn, by simp, fun a ha b hb => by simp at hb; subst hb; exact fun e => h2 (e ▸ ha)⟩
        have := scanE_zero h hn2 (fun y hy => by
          rcases List.mem_append.1 hy with h3 | h3
          · exact hp y h3
          · simp at h3; subst h3; exact h1)
        refine ⟨by simpa using this.1, fun y hy => ?_⟩
        rcases List.mem_cons.1 hy with h3 | h3
        · subst h3; exact h1
        · exact this.2 y h3
    · rw [if_neg h1] at h; cases h

end Go.Proofs.YtpgopmmobbemcaaGreat

set_option linter.unusedVariables false
set_option linter.unusedSimpArgs false
namespace Go.Proofs.YtpgopmmobbemcaaGreat
open Go.RowKit

def ends2 (v : Int) (p : Int × Int) : Int := (if p.1 = v then 1 else 0) + (if p.2 = v then 1 else 0)
def sumE (v : Int) : List (Int × Int) → Int
  | [] => 0
  | p :: r => ends2 v p + sumE v r
def hit (x : Edg) (a b : Int) : Int := if x.a = min a b ∧ x.b = max a b then x.m else 0
theorem betw_none {r : List Edg} {p q a b : Int} (h : ∀ y ∈ r, ¬ (y.a = p ∧ y.b = q)) (hp : p = min a b) (hq : q = max a b) : betw r a b = 0 := by
  induction r with
  | nil => rfl
  | cons y r ih =>
    rw [betw, if_neg (by rw [← hp, ← hq]; exact h y (by simp)), ih fun z hz => h z (by simp [hz])]
theorem betw_cons {x : Edg} {r : List Edg} (h : ∀ y ∈ r, ¬ (y.a = x.a ∧ y.b = x.b)) (a b : Int) : betw (x :: r) a b = hit x a b + betw r a b := by
  rw [betw, hit]
  split
  · rename_i he
    rw [betw_none h he.1 he.2]
    omega
  · omega
def valH (x : Edg) (v : Int) : Nat → Int
  | 0 => 0
  | u + 1 => valH x v u + (if (u : Int) = v then 0 else hit x u v)
end Go.Proofs.YtpgopmmobbemcaaGreat

set_option linter.unusedVariables false
set_option linter.unusedSimpArgs false
namespace Go.Proofs.YtpgopmmobbemcaaGreat
open Go.RowKit

theorem boolInfoG : (Tryz.prog.info? 4).map (fun i => (i.zero, i.size, i.bytes)) = some (some (.bool false), 1, 1) := by kernel_rfl

def adjG (es : List Edg) (a b : Nat) : Bool := decide (0 < betw es a b)
def ReachedPost (w : World) (es : List Edg) (n s : Nat) (e : Ending) (w' : World) : Prop :=
  ∃ g bs, e = .returned (.slice (some ⟨g, 0, none⟩) n n) ∧ Leads (nxA (adjG es)) n n s bs ∧ Row1 Value.bool w' g 4 bs [] ∧ w.heap.size ≤ g ∧ Below w.heap.size w w'
theorem nxA_lt {adj : Nat → Nat → Bool} {n : Nat} : ∀ u a, u < n → a < n → nxA adj u a < n := by
  intro u a h1 h2
  unfold nxA
  split <;> omega
def InrG (nx : Nat → Nat → Nat) (L S s k t j : Nat) (bs : List Bool) : Prop := Led nx L S s k t bs ∧ (bs[t]? = some true → ∀ a, a < j → bs[nx t a]? = some true)

set_option maxRecDepth 100000 in
set_option maxHeartbeats 4000000 in
theorem reached_any (n : Nat) (hn : n ≤ 12) (es : List Edg) (oe : Option Addr) (c : Nat) (F : Foot) (w : World) (hs : SliceR edgR 3 F w oe es) (hc : es.length ≤ c) (hc2 : es.length ≤ 9223372036854775807) (s0 : Nat) (hS : s0 < n) :
    Calls Tryz.prog 156 #[.agg #[.int .i64 n, .slice oe es.length c], .int .i64 s0] w (ReachedPost w es n s0) := by
  have HNX := hide (nxA_lt (adj := adjG es) (n := n))
  go_enter Tryz.func156, Tryz.ntmps156
  go_wp2_with (at_make; refine wpList_make_row _ rfl _ _ 139 rfl 4 false 1 Tryz.underlying139 boolInfoG rfl .i64 .i64 _ _ n rfl rfl rfl rfl (by omega) (by unfold maxLen; omega) (fun w1 hrow hb1 hg1 => ?_); have c0 := hrow.cell (i := s0) (x := false) (by simp [hS]); have f0 := hrow.free s0; simp at c0 f0; have hp := hrow.put (i := s0) (by simp [hS]) true; simp only [World.size_alloc] at hp; have HG := hide hg1; clear hrow hg1)
  have hb0 : Below (w.heap.size + 1) (w.alloc (.cells #[.int .i64 n, .slice oe es.length c] 24)) (w1.setCell ⟨w.heap.size + 1, s0, none⟩ (.bool true)) := by
    have h := hb1
    simp only [World.size_alloc] at h
    exact h.setCell (by simp) _
  clear hb1 c0 f0
  go_loopw [6] (fun iv wr => ∃ (k : Nat) (bs : List Bool), k ≤ n ∧ iv = .int .i64 k ∧ Hid (Led (nxA (adjG es)) n n s0 k 0 bs) ∧ Row1 Value.bool wr (w.heap.size + 1) 4 bs [] ∧
      Below (w.heap.size + 1) (w.alloc (.cells #[.int .i64 n, .slice oe es.length c] 24)) wr) (fun iv _ => n - (intOf iv).toNat)
  case atStart => exact ⟨0, _, by omega, rfl, Led.begin hS, hp, hb0⟩
  case round =>
    obtain ⟨k, bs, hk, rfl, HL, hr, hb⟩ := hrel
    clear hb0 hp HG
    have d0 := box_cell hb 0
    simp at d0
    by_cases hlt : k < n
    · go_wp2_with fail
      obtain ⟨wo, rfl⟩ : ∃ wo : World, wo = wr := ⟨_, rfl⟩
      go_loopw [7] (fun iv wr => ∃ (t : Nat) (bs : List Bool), t ≤ n ∧ iv = .int .i64 t ∧ Hid (Led (nxA (adjG es)) n n s0 k t bs) ∧ Row1 Value.bool wr (w.heap.size + 1) 4 bs [] ∧
        Below (w.heap.size + 1) (w.alloc (.cells #[.int .i64 n, .slice oe es.length c] 24)) wr) (fun iv _ => n - (intOf iv).toNat)
      case atStart => exact ⟨0, _, by omega, rfl, HL, hr, hb⟩
      case round =>
        clear hb hr d0 HL
        obtain ⟨t, bs, ht, rfl, HL, hr, hb⟩ := hrel
        have d0 := box_cell hb 0
        simp at d0
        by_cases htl : t < n
        · go_wp2_with fail
          obtain ⟨wo, rfl⟩ : ∃ wo : World, wo = wr := ⟨_, rfl⟩
          go_loopw [8] (fun iv wr => ∃ (j : Nat) (bs : List Bool), j ≤ n ∧ iv = .int .i64 j ∧ Hid (InrG (nxA (adjG es)) n n s0 k t j bs) ∧ Row1 Value.bool wr (w.heap.size + 1) 4 bs [] ∧
            Below (w.heap.size + 1) (w.alloc (.cells #[.int .i64 n, .slice oe es.length c] 24)) wr) (fun iv _ => n - (intOf iv).toNat)
          case atStart => exact ⟨0, _, by omega, rfl, ⟨HL, fun _ a ha => by omega⟩, hr, hb⟩
          case round =>
            clear hb hr d0 HL
            obtain ⟨j, bs, hj, rfl, HI, hr, hb⟩ := hrel
            have d0 := box_cell hb 0
            have d1 := box_cell hb 1
            simp at d0 d1
            have hbl : bs.length = n := HI.out.1.len
            by_cases hjl : j < n
            · obtain ⟨bt, hbt⟩ : ∃ bt, bs[t]? = some bt := ⟨_, List.getElem?_eq_getElem (by omega)⟩
              have ct := hr.cell hbt
              have HBT := hide hbt
              clear hbt
              cases bt with
              | false =>
                have HI2 : Hid (InrG (nxA (adjG es)) n n s0 k t (j + 1) bs) := ⟨HI.out.1, fun h => by rw [HBT.out] at h; cases h⟩
                clear hbl
                go_wp2_with fail
                go_roundw
                case rel => exact ⟨j + 1, bs, by omega, by go_num, HI2, hr, hb⟩
                case measure => simp [intOf]; omega
              | true =>
                have hcall := betw_any n es oe c F wr (hs.below edgR_ok (below_box hb)) hc hc2 t j
                have HJL := hide hjl
                by_cases had : 0 < betw es t j
                · have hnx : nxA (adjG es) t j = j := by unfold nxA adjG; rw [if_pos (by simpa using had)]
                  have hset := HI.out.1.set HBT.out hjl (by rw [hnx]; exact hjl) (HI.out.2 HBT.out)
                  rw [hnx] at hset
                  have HI2 : Hid (InrG (nxA (adjG es)) n n s0 k t (j + 1) (bs.set j true)) := ⟨hset.1, fun _ => hset.2.2⟩
                  obtain ⟨bn, hbn⟩ : ∃ bn, bs[j]? = some bn := ⟨_, List.getElem?_eq_getElem (by omega)⟩
                  have hjb : j < bs.length := by omega
                  have HR := hide hr
                  clear hset hnx hbl
                  generalize betw es t j = x at had hcall
                  go_wp2_with fail
                  refine hcall.mono ?_
                  rintro e w4 ⟨rfl, hb4⟩
                  have hr4 := HR.out.below hb4
                  have cn := hr4.cell hbn
                  have fn := hr4.free j
                  have hp := hide (hr4.put hjb true)
                  have HB := hide ((hb.trans (hb4.mono (box_lt hb))).setCell (p := ⟨w.heap.size + 1, j, none⟩) (by simp) (.bool true))
                  clear hbn hr4 hr hb4 ct d0 d1
                  go_wp2_with fail
                  go_roundw
                  case rel => exact ⟨j + 1, _, by omega, by go_num, HI2, hp.out, HB.out⟩
                  case measure => simp [intOf]; omega
                · have hnx : nxA (adjG es) t j = t := by unfold nxA adjG; rw [if_neg (by simpa using had)]
                  have HI2 : Hid (InrG (nxA (adjG es)) n n s0 k t (j + 1) bs) := ⟨HI.out.1, fun h a ha => by
                    rcases Nat.lt_or_ge a j with h1 | h1
                    · exact HI.out.2 h a h1
                    · have : a = j := by omega
                      subst this
                      rw [hnx]
                      exact h⟩
                  have HR := hide hr
                  clear hnx hbl
                  generalize betw es t j = x at had hcall
                  go_wp2_with fail
                  refine hcall.mono ?_
                  rintro e w4 ⟨rfl, hb4⟩
                  have hr4 := hide (HR.out.below hb4)
                  have HB := hide (hb.trans (hb4.mono (box_lt hb)))
                  clear hr hb4 ct d0 d1
                  go_wp2_with fail
                  go_roundw
                  case rel => exact ⟨j + 1, bs, by omega, by go_num, HI2, hr4.out, HB.out⟩
                  case measure => simp [intOf]; omega
            · have hj2 : j = n := by omega
              subst hj2
              have HN := hide (HI.out.1.next fun h => HI.out.2 h)
              clear hbl
              go_wp2_with fail
              go_roundw
              case rel => exact ⟨t + 1, bs, by omega, by go_num, HN, hr, hb⟩
              case measure => simp [intOf]; omega
        · have h2 : t = n := by omega
          subst h2
          have HN := hide (HL.out.round hS HNX.out)
          go_wp2_with fail
          go_roundw
          case rel => exact ⟨k + 1, bs, by omega, by go_num, HN, hr, hb⟩
          case measure => simp [intOf]; omega
    · have h2 : k = n := by omega
      subst h2
      have HN := hide (HL.out.all hS HNX.out)
      go_wp2_with fail
      go_ret
      exact ⟨w.heap.size + 1, bs, rfl, HN.out, hr, by omega, below_box hb⟩

end Go.Proofs.YtpgopmmobbemcaaGreat

set_option linter.unusedVariables false
set_option linter.unusedSimpArgs false
namespace Go.Proofs.YtpgopmmobbemcaaGreat
open Go.RowKit

/-- a with b laid over its first j places. -/
def mixB (a b : List Bool) (j : Nat) : List Bool := (List.range a.length).map fun i => if i < j then a.getD i false || b.getD i false else a.getD i false
theorem mixB_len (a b : List Bool) (j : Nat) : (mixB a b j).length = a.length := by simp [mixB]
theorem mixB_get {a b : List Bool} {j i : Nat} (hi : i < a.length) : (mixB a b j)[i]? = some (if i < j then a.getD i false || b.getD i false else a.getD i false) := by
  simp [mixB, hi]
theorem mixB_zero (a b : List Bool) : mixB a b 0 = a := by
  apply List.ext_getElem?
  intro i
  rcases Nat.lt_or_ge i a.length with hi | hi
  · rw [mixB_get hi]; simp [hi]
  · rw [List.getElem?_eq_none (by rw [mixB_len]; exact hi), List.getElem?_eq_none hi]
theorem mixB_step {a b : List Bool} {j : Nat} (hj : j < a.length) : (mixB a b j).set j (a.getD j false || b.getD j false) = mixB a b (j + 1) := by
  apply List.ext_getElem?
  intro i
  rcases Nat.lt_or_ge i a.length with hi | hi
  · rw [mixB_get hi]
    by_cases e : j = i
    · subst e
      rw [List.getElem?_set_self (by rw [mixB_len]; exact hj), if_pos (by omega)]
    · rw [List.getElem?_set_ne e, mixB_get hi]
      by_cases h : i < j
      · rw [if_pos h, if_pos (by omega)]
      · rw [if_neg h, if_neg (by omega)]
  · rw [List.getElem?_eq_none (by simp [mixB_len]; exact hi), List.getElem?_eq_none (by rw [mixB_len]; exact hi)]

theorem betw_pos {es : List Edg} (h : ∀ x ∈ es, 1 ≤ x.m ∧ x.a ≤ x.b ∧ 0 ≤ x.a ∧ 0 ≤ x.b) (a b : Nat) : 0 < betw es a b ↔ (a, b) ∈ eL es ∨ (b, a) ∈ eL es := by
  induction es with
  | nil => simp [betw, eL]
  | cons x r ih =>
    have ih := ih fun y hy => h y (by simp [hy])
    have hx := h x (by simp)
    have hmem : ∀ p : Nat × Nat, p ∈ eL (x :: r) ↔ p = (x.a.toNat, x.b.toNat) ∨ p ∈ eL r := fun p => by simp [eL]
    rw [hmem, hmem, betw]
    split
    · rename_i he
      constructor
      · intro _
        rcases Nat.le_total a b with hab | hab
        · left; left
          rw [Prod.mk.injEq]
          omega
        · right; left
          rw [Prod.mk.injEq]
          omega
      · intro _; omega
    · rename_i he
      rw [ih]
      constructor
      · rintro (h1 | h1)
        · exact .inl (.inr h1)
        · exact .inr (.inr h1)
      · rintro ((h1 | h1) | (h1 | h1))
        · exfalso
          rw [Prod.mk.injEq] at h1
          apply he
          omega
        · exact .inl h1
        · exfalso
          rw [Prod.mk.injEq] at h1
          apply he
          omega
        · exact .inr h1
theorem adj_eL {n : Int} {es : List Edg} (hV : gErr n es = 0) (a b : Nat) : adjG es a b = true ↔ (a, b) ∈ eL es ∨ (b, a) ∈ eL es := by
  unfold adjG
  rw [decide_eq_true_iff]
  exact betw_pos (fun x hx => by have := (gErr_zero hV).2.1 x hx; omega) a b
theorem eL_ltN {n : Nat} {es : List Edg} (hV : gErr n es = 0) : ∀ x ∈ eL es, x.1 < n ∧ x.2 < n := by
  intro x hx
  simp only [eL, List.mem_map] at hx
  obtain ⟨y, hy, rfl⟩ := hx
  have h := (gErr_zero hV).2.1 y hy
  constructor
  · simp only; omega
  · simp only; omega
theorem leads_tied {n : Nat} {es : List Edg} (hV : gErr n es = 0) {s : Nat} {bs : List Bool} (h : Leads (nxA (adjG es)) n n s bs) (x : Nat) : bs[x]? = some true ↔ Tied (eL es) s x :=
  (h.2 x).trans (rch_tied (adj_eL hV) (eL_ltN hV))

/-- What was seen so far. -/
structure Seen (E : List (Nat × Nat)) (n k : Nat) (bs : List Bool) : Prop where
  len : bs.length = n
  iff : ∀ x, x < n → (bs[x]? = some true ↔ ∃ u, u < k ∧ Tied E u x)
theorem Seen.begin (E : List (Nat × Nat)) (n : Nat) : Seen E n 0 (List.replicate n false) :=
  ⟨by simp, fun x hx => by simp [hx]⟩
theorem Seen.old {E : List (Nat × Nat)} {n k : Nat} {bs : List Bool} (h : Seen E n k bs) (hk : k < n) (hb : bs[k]? = some true) : Seen E n (k + 1) bs := by
  refine ⟨h.len, fun x hx => ?_⟩
  rw [h.iff x hx]
  obtain ⟨u0, hu0, ht0⟩ := (h.iff k hk).1 hb
  constructor
  · rintro ⟨u, hu, ht⟩; exact ⟨u, by omega, ht⟩
  · rintro ⟨u, hu, ht⟩
    rcases Nat.lt_or_ge u k with h1 | h1
    · exact ⟨u, h1, ht⟩
    · have : u = k := by omega
      subst this
      exact ⟨u0, hu0, ht0.trans ht⟩
theorem Seen.more {E : List (Nat × Nat)} {n k : Nat} {bs cs : List Bool} (h : Seen E n k bs) (hc : cs.length = n) (hr : ∀ x, cs[x]? = some true ↔ Tied E k x) : Seen E n (k + 1) (mixB bs cs n) := by
  refine ⟨by rw [mixB_len, h.len], fun x hx => ?_⟩
  rw [mixB_get (by rw [h.len]; exact hx), if_pos hx]
  have h1 := h.iff x hx
  have h2 := hr x
  have e1 : bs.getD x false = true ↔ bs[x]? = some true := true_of_getD (by rw [h.len]; exact hx)
  have e2 : cs.getD x false = true ↔ cs[x]? = some true := true_of_getD (by rw [hc]; exact hx)
  rw [Option.some.injEq, Bool.or_eq_true, e1, e2, h1, h2]
  constructor
  · rintro (⟨u, hu, ht⟩ | ht)
    · exact ⟨u, by omega, ht⟩
    · exact ⟨k, by omega, ht⟩
  · rintro ⟨u, hu, ht⟩
    rcases Nat.lt_or_ge u k with h1 | h1
    · exact .inl ⟨u, h1, ht⟩
    · have : u = k := by omega
      subst this
      exact .inr ht
theorem Seen.root {E : List (Nat × Nat)} {f : List Nat} (hf : Uf f E) {n k : Nat} {bs : List Bool} (h : Seen E n k bs) (hk : k < n) (hn : n ≤ 12) : bs[k]? = some true ↔ ¬ rootF f k = k := by
  rw [h.iff k hk, hf.least (by omega)]
  constructor
  · rintro ⟨u, hu, ht⟩ h2; exact h2 u hu ht
  · intro h2
    exact Classical.byContradiction fun h3 => h2 fun u hu ht => h3 ⟨u, hu, ht⟩

set_option maxRecDepth 100000 in
set_option maxHeartbeats 4000000 in
theorem rparts_any (n : Nat) (es : List Edg) (oe : Option Addr) (c : Nat) (F : Foot) (w : World) (hs : SliceR edgR 3 F w oe es) (hc : es.length ≤ c) (hc2 : es.length ≤ 9223372036854775807)
    (hV : Hid (gErr n es = 0)) (f : List Nat) (hU : Hid (Uf f (eL es))) : Calls Tryz.prog 133 #[.agg #[.int .i64 n, .slice oe es.length c]] w (ErrPost w (cnt f n : Nat)) := by
  have hn : n ≤ 12 := by have := (gErr_zero hV.out).1; omega
  go_enter Tryz.func133, Tryz.ntmps133
  go_wp2_with (at_make; refine wpList_make_row _ rfl _ _ 139 rfl 4 false 1 Tryz.underlying139 boolInfoG rfl .i64 .i64 _ _ n rfl rfl rfl rfl (by omega) (by unfold maxLen; omega) (fun w1 hrow hb1 hg1 => ?_); simp only [World.size_alloc] at hrow hb1)
  clear hg1
  go_loopw [3, 5] (fun pv iv wr => ∃ (k : Nat) (bs : List Bool), k ≤ n ∧ iv = .int .i64 k ∧ pv = .int .i64 (cnt f k : Nat) ∧ Hid (Seen (eL es) n k bs) ∧ Row1 Value.bool wr (w.heap.size + 1) 4 bs [] ∧
      Below (w.heap.size + 1) (w.alloc (.cells #[.int .i64 n, .slice oe es.length c] 24)) wr) (fun _ iv _ => n - (intOf iv).toNat)
  case atStart => exact ⟨0, _, by omega, rfl, rfl, Seen.begin _ _, hrow, hb1⟩
  case round =>
    clear hrow hb1
    obtain ⟨k, bs, hk, rfl, rfl, HS, hr, hb⟩ := hrel
    have d0 := box_cell hb 0
    have d1 := box_cell hb 1
    simp at d0 d1
    have hck : cnt f k ≤ k := by
      have := List.length_filter_le (fun v => rootF f v == v) (List.range k)
      simpa [cnt] using this
    by_cases hlt : k < n
    · have HROOT := hide (HS.out.root hU.out hlt hn)
      obtain ⟨bt, hbt⟩ : ∃ bt, bs[k]? = some bt := ⟨_, List.getElem?_eq_getElem (by rw [HS.out.len]; exact hlt)⟩
      have ct := hr.cell hbt
      have HBT := hide hbt
      clear hbt
      cases bt with
      | true =>
        have HC : Hid (cnt f (k + 1) = cnt f k) := cnt_no (HROOT.out.1 HBT.out)
        have HN := hide (HS.out.old hlt HBT.out)
        generalize cnt f k = p at hck HC
        go_wp2_with fail
        go_roundw
        case rel => exact ⟨k + 1, bs, by omega, by go_num, by rw [HC.out], HN, hr, hb⟩
        case measure => simp [intOf]; omega
      | false =>
        have hroot : rootF f k = k := Classical.byContradiction fun h => by
          have := HROOT.out.2 h
          rw [HBT.out] at this
          cases this
        have HC : Hid (cnt f (k + 1) = cnt f k + 1) := cnt_yes hroot
        have hcall := reached_any n hn es oe c F wr (hs.below edgR_ok (below_box hb)) hc hc2 k hlt
        clear hroot
        generalize cnt f k = p at hck HC
        go_wp2_with fail
        refine hcall.mono ?_
        rintro e w4 ⟨g, cs, rfl, hle, hrc, hg, hb4⟩
        have HLT := hide (leads_tied hV.out hle)
        have hcl : cs.length = n := hle.1
        have hr4 := hr.below hb4
        have hx4 := hb.trans (hb4.mono (box_lt hb))
        have hgne : w.heap.size + 1 < g := by have := hr.lt; omega
        have HM : Hid (Seen (eL es) n (k + 1) (mixB bs cs n)) := HS.out.more hcl HLT.out
        have hbl : bs.length = n := HS.out.len
        clear hb4 hr hb ct d0 d1 hle
        have d0 := box_cell hx4 0
        simp at d0
        have hz := mixB_zero bs cs
        go_wp2_with fail
        obtain ⟨wo, rfl⟩ : ∃ wo : World, wo = w4 := ⟨_, rfl⟩
        go_loopw [7] (fun iv wr => ∃ (j : Nat), j ≤ n ∧ iv = .int .i64 j ∧ Row1 Value.bool wr (w.heap.size + 1) 4 (mixB bs cs j) [] ∧ Row1 Value.bool wr g 4 cs [] ∧
          Below (w.heap.size + 1) (w.alloc (.cells #[.int .i64 n, .slice oe es.length c] 24)) wr) (fun iv _ => n - (intOf iv).toNat)
        case atStart => exact ⟨0, by omega, rfl, by rw [hz]; exact hr4, hrc, hx4⟩
        case round =>
          clear hr4 hrc hx4 d0 hz
          obtain ⟨j, hj, rfl, hr, hrc, hb⟩ := hrel
          have d0 := box_cell hb 0
          simp at d0
          by_cases hjl : j < n
          · have h1 : (mixB bs cs j)[j]? = some (bs.getD j false) := by rw [mixB_get (by omega), if_neg (by omega)]
            have h2 : cs[j]? = some (cs.getD j false) := by rw [List.getD_eq_getElem?_getD, List.getElem?_eq_getElem (by omega)]; rfl
            have c1 := hr.cell h1
            have c2 := hrc.cell h2
            have f1 := hr.free j
            have hp := hide (hr.put (i := j) (by rw [mixB_len]; omega) (bs.getD j false || cs.getD j false))
            have HMS := hide (mixB_step (a := bs) (b := cs) (j := j) (by omega))
            have HRC := hide (hrc.other (p := ⟨w.heap.size + 1, j, none⟩) (by simp; omega) (.bool (bs.getD j false || cs.getD j false)))
            have HB := hide (hb.setCell (p := ⟨w.heap.size + 1, j, none⟩) (by simp) (.bool (bs.getD j false || cs.getD j false)))
            clear h1 h2
            generalize bs.getD j false = b1 at *
            generalize cs.getD j false = b2 at *
            cases b1 with
            | true =>
              go_wp2_with fail
              go_roundw
              case rel => exact ⟨j + 1, by omega, by go_num, by rw [← HMS.out]; exact hp.out, HRC.out, HB.out⟩
              case measure => simp [intOf]; omega
            | false =>
              go_wp2_with fail
              go_roundw
              case rel => exact ⟨j + 1, by omega, by go_num, by rw [← HMS.out]; exact hp.out, HRC.out, HB.out⟩
              case measure => simp [intOf]; omega
          · have : j = n := by omega
            subst this
            go_wp2_with fail
            go_roundw
            case rel => exact ⟨k + 1, _, by omega, by go_num, by rw [HC.out]; go_num, HM, hr, hb⟩
            case measure => simp [intOf]; omega
    · have : k = n := by omega
      subst this
      go_wp2_with fail
      go_ret
      exact ⟨rfl, below_box hb⟩

end Go.Proofs.YtpgopmmobbemcaaGreat

set_option linter.unusedVariables false
set_option linter.unusedSimpArgs false
namespace Go.Proofs.YtpgopmmobbemcaaGreat
open Go.RowKit

set_option maxRecDepth 100000 in
theorem rconn_any (n : Nat) (es : List Edg) (oe : Option Addr) (c : Nat) (F : Foot) (w : World) (hs : SliceR edgR 3 F w oe es) (hc : es.length ≤ c) (hc2 : es.length ≤ 9223372036854775807)
    (hV : Hid (gErr n es = 0)) (f : List Nat) (hU : Hid (Uf f (eL es))) : Calls Tryz.prog 108 #[.agg #[.int .i64 n, .slice oe es.length c]] w fun e w' => e = .returned (.bool (cnt f n == 1)) ∧ Below w.heap.size w w' := by
  go_enter Tryz.func108, Tryz.ntmps108
  go_wp2_with fail
  have hb0 := box_refl w (.cells #[.int .i64 n, .slice oe es.length c] 24)
  refine (rparts_any n es oe c F _ (hs.below edgR_ok (below_box hb0)) hc hc2 hV f hU).mono ?_
  rintro e w2 ⟨rfl, hb2⟩
  have hx := hide (below_box (hb2.mono (B' := w.heap.size + 1) (by simp)))
  clear hb2 hb0
  go_wp2_with fail
  go_ret
  refine ⟨ret_bool ?_, hx.out⟩
  rw [Bool.eq_iff_iff]
  simp
  omega

end Go.Proofs.YtpgopmmobbemcaaGreat

set_option linter.unusedVariables false
set_option linter.unusedSimpArgs false
set_option linter.unnecessarySimpa false
namespace Go.Proofs.YtpgopmmobbemcaaGreat
open Go.RowKit

end Go.Proofs.YtpgopmmobbemcaaGreat

set_option linter.unusedVariables false
set_option linter.unusedSimpArgs false
set_option linter.unnecessarySimpa false
namespace Go.Proofs.YtpgopmmobbemcaaGreat
open Go.RowKit

def badR (q : Int) (v : Nat) (k : Int) (d : Nat) : Prop := k < 0 ∨ ((v : Int) = q ∧ k ≠ 0) ∨ ((v : Int) ≠ q ∧ (d : Int) ≤ k)
instance (q : Int) (v : Nat) (k : Int) (d : Nat) : Decidable (badR q v k d) := by unfold badR; infer_instance
/-- The error of the rotors, from the vertex v on. -/
def rotE (q : Int) : Nat → List (List Int) → List Int → Int
  | v, a :: ar, k :: r => if badR q v k a.length then 2 else rotE q (v + 1) ar r
  | _, _, _ => 0
theorem rotE_cons (q : Int) (v : Nat) (a : List Int) (ar : List (List Int)) (k : Int) (r : List Int) : rotE q v (a :: ar) (k :: r) = if badR q v k a.length then 2 else rotE q (v + 1) ar r := rfl
/-- The error of a rotor configuration. -/
def rtE (n : Int) (es : List Edg) (f : List Nat) (ar : List (List Int)) (q : Int) (rot : List Int) : Int :=
  if chkE n es f ar = 0 then (if vtxB n q = true then (if (rot.length : Int) = n then rotE q 0 ar rot else 8) else 2) else chkE n es f ar
theorem chkE_zero {n : Int} {es : List Edg} {f : List Nat} {ar : List (List Int)} (h : chkE n es f ar = 0) : jErr n es f = 0 ∧ (ar.length : Int) = n ∧ rowsE ar (halfs n es) = 0 := by
  unfold chkE at h
  split at h
  · rename_i h1
    split at h
    · rename_i h2; exact ⟨h1, h2, h⟩
    · cases h
  · rename_i h1; exact absurd h h1
theorem rtE_zero {n : Int} {es : List Edg} {f : List Nat} {ar : List (List Int)} {q : Int} {rot : List Int} (h : rtE n es f ar q rot = 0) :
    chkE n es f ar = 0 ∧ (0 ≤ q ∧ q < n) ∧ (rot.length : Int) = n ∧ rotE q 0 ar rot = 0 := by
  unfold rtE at h
  split at h
  · rename_i h1
    split at h
    · rename_i h2
      split at h
      · rename_i h3; exact ⟨h1, vtxB_iff.1 h2, h3, h⟩
      · cases h
    · cases h
  · rename_i h1; exact absurd h h1

end Go.Proofs.YtpgopmmobbemcaaGreat

namespace Go.Proofs.YtpgopmmobbemcaaGreat
open Go.RowKit

/-- An empty slice that the call has just made owns nothing. -/
theorem OwnS.made {α : Type} (R : Rep α) (sz : Nat) (e : TypeId) (F : Foot) (w : World) : OwnS R sz w.heap.size e F (w.alloc (.cells #[] e)) (.slice (some ⟨w.heap.size, 0, none⟩) 0 0) [] :=
  ⟨[], World.ownsRow_made w #[] 0 (Nat.le_refl _) (by unfold maxLen; omega) (by simp), by simp, by simp⟩

end Go.Proofs.YtpgopmmobbemcaaGreat

set_option linter.unusedVariables false
set_option linter.unusedSimpArgs false
namespace Go.Proofs.YtpgopmmobbemcaaGreat
open Go.RowKit

theorem iInfo : (Tryz.prog.info? 3).map (fun i => (i.zero, i.size, i.bytes)) = some (some (.int .i64 0), 1, 8) := by kernel_rfl


set_option maxHeartbeats 400000 in
theorem cloneD_any (l : List Int) (oa : Option Addr) (c : Nat) (F : Foot) (w : World) (hs : SliceR intR 1 F w oa l) (hc : l.length ≤ c) (hc2 : l.length ≤ 1000000000000) :
    Calls Tryz.prog 53 #[.slice oa l.length c] w fun e w' => ∃ v, e = .returned v ∧ OwnS intR 1 w.heap.size 3 Non w' v l ∧ Below w.heap.size w w' := by
  cases oa with
  | none =>
    have hl : l = [] := by
      cases l with
      | nil => rfl
      | cons x r => obtain ⟨b, off, cs, h, _⟩ := hs 0 x rfl; cases h
    subst hl
    have hq : ∀ w : World, (binOp .eql 28 (.slice none 0 c) (.slice none 0 0)).run Tryz.prog w = .ok (.bool true) w := fun w => Lib.run_eql_slice_nil w _ 3 none 0 c 0 0 Tryz.underlying28
    go_enter Tryz.func53, Tryz.ntmps53
    go_wp2_with fail
    go_ret
    exact ⟨_, rfl, OwnS.nil _ _ _ _ _ _, Below.refl _ _⟩
  | some ad =>
    have hq : ∀ w : World, (binOp .eql 28 (.slice (some ad) l.length c) (.slice none 0 0)).run Tryz.prog w = .ok (.bool false) w := fun w => Lib.run_eql_slice_nil w _ 3 (some ad) l.length c 0 0 Tryz.underlying28
    go_enter Tryz.func53, Tryz.ntmps53
    go_wp2_with (at_builtin; refine wpList_append_rep rfl (.tmp 5) (.tmp 6) 28 rfl w.heap.size 3 _ 1 8 Tryz.underlying28 iInfo rfl (by decide) intR_ok Non F (.slice (some ⟨w.heap.size, 0, none⟩) 0 0) [] rfl (OwnS.made _ _ _ _ _) (some ad) c l rfl (hs.below intR_ok (bnew (Below.refl _ _) _)) (fun _ _ h => h) (fun _ h => h.elim) (by simp; omega) (by simp; omega) (by simp) ?_; intro v' w1 ho hb1 hg)
    go_ret
    exact ⟨_, rfl, by simpa using ho, (bnew (Below.refl _ _) _).trans hb1⟩

end Go.Proofs.YtpgopmmobbemcaaGreat

set_option linter.unusedVariables false
set_option linter.unusedSimpArgs false
set_option linter.unnecessarySimpa false
namespace Go.Proofs.YtpgopmmobbemcaaGreat
open Go.RowKit

section
variable {B : Nat} {w w' : World} {p rg cap : Nat} {tv : Value} {q : Int} {av : Value} {tl rot : List Int} {rest : List Value}
end

theorem grown_drewNR {w w' : World} {o : Option Nat} (h : w.grownBy w' o) (n : Nat) : w.grownBy (w'.drewN n) o := ⟨h.os, h.tape, h.output, h.size, h.block⟩

theorem grown_cell (W : World) (b i : Nat) (v : Value) : W.grownBy (W.setCell ⟨b, i, none⟩ v) (some b) :=
  ⟨rfl, rfl, rfl, (KeepsWalks.setCell W _ v).size, fun k _ hk => Below.heap_setCell _ _ _ k (fun e => hk (by rw [e]))⟩

end Go.Proofs.YtpgopmmobbemcaaGreat

set_option linter.unusedVariables false
set_option linter.unusedSimpArgs false
set_option linter.unnecessarySimpa false
namespace Go.Proofs.YtpgopmmobbemcaaGreat
open Go.RowKit

/-- The vertices to which the half-edges lead. -/
def toL (l : List (Int × Int)) : List Int := l.flatMap fun p => [p.2, p.1]
/-- The half-edge opposite. -/
def oppH (h : Nat) : Nat := if h % 2 = 0 then h + 1 else h - 1
theorem toL_get (l : List (Int × Int)) : ∀ h, h < 2 * l.length → (toL l)[h]? = some (hv l (oppH h)) := by
  induction l with
  | nil => intro h hh; simp at hh
  | cons x r ih =>
    intro h hh
    show ([x.2, x.1] ++ toL r)[h]? = _
    match h with
    | 0 => rfl
    | 1 => rfl
    | h + 2 =>
      have h1 := ih h (by simp at hh; omega)
      show (toL r)[h]? = _
      rw [h1]
      have h2 : oppH (h + 2) = oppH h + 2 := by unfold oppH; split <;> (split <;> omega)
      rw [h2]
      unfold hv
      have h3 : (oppH h + 2) % 2 = oppH h % 2 := by omega
      have h4 : (oppH h + 2) / 2 = oppH h / 2 + 1 := by omega
      rw [h3, h4]
      rfl

def BoardErr (w : World) (x : Int) (e : Ending) (w' : World) : Prop := e = .returned (.tuple #[.pointer none, .int .i64 x]) ∧ Below w.heap.size w w'

end Go.Proofs.YtpgopmmobbemcaaGreat

set_option linter.unusedVariables false
set_option linter.unusedSimpArgs false
set_option linter.unnecessarySimpa false
namespace Go.Proofs.YtpgopmmobbemcaaGreat
open Go.RowKit

section
variable (n : Int) (es : List Edg) (oe : Option Addr) (c : Nat) (ar : List (List Int)) (oa : Option Addr) (ca : Nat) (F G : Foot) (w : World) (hs : SliceR edgR 3 F w oe es) (hc : es.length ≤ c) (hc2 : es.length ≤ 1000)
    (ha : SliceR (slcR intR 1) 1 G w oa ar) (hac : ar.length ≤ ca) (hac2 : ar.length ≤ 9223372036854775807) (f : List Nat) (hU : Hid (gErr n es = 0 → Uf f (eL es)))
    (q : Int) (rot : List Int) (ot : Option Addr) (ct : Nat) (H : Foot) (hr : SliceR intR 1 H w ot rot) (hrc : rot.length ≤ ct) (hrl : rot.length ≤ 9223372036854775807)
include hs hc hc2 ha hac hac2 hU hr hrc hrl

/-- The error of rotors and a vertex. -/
def stE (n : Int) (es : List Edg) (f : List Nat) (ar : List (List Int)) (q : Int) (rot : List Int) (v : Int) : Int := if rtE n es f ar q rot = 0 then (if vtxB n v = true then 0 else 2) else rtE n es f ar q rot

end

end Go.Proofs.YtpgopmmobbemcaaGreat

set_option linter.unusedVariables false
set_option linter.unusedSimpArgs false
set_option linter.unnecessarySimpa false
namespace Go.Proofs.YtpgopmmobbemcaaGreat
open Go.RowKit

def inChips (k : Int) : Bool := decide (-1048576 ≤ k ∧ k ≤ 1048576)
def dScan : List Int → Int
  | [] => 0
  | x :: r => if inChips x = true then dScan r else 2
/-- The error of a divisor on n vertices. -/
def dErr (n : Int) (d : List Int) : Int := if 1 ≤ n ∧ n ≤ 12 then (if (d.length : Int) = n then dScan d else 8) else 2
theorem dScan_zero : ∀ {d : List Int}, dScan d = 0 → ∀ x ∈ d, -1048576 ≤ x ∧ x ≤ 1048576
  | [], _, x, hx => by cases hx
  | y :: r, h, x, hx => by
    unfold dScan at h
    split at h
    · rename_i h1
      rcases List.mem_cons.1 hx with rfl | h2
      · simpa [inChips] using h1
      · exact dScan_zero h x h2
    · cases h
theorem within_any (k : Int) (w : World) : Calls Tryz.prog 120 #[.int .i64 k] w fun e w' => e = .returned (.bool (inChips k)) ∧ Below w.heap.size w w' := by
  by_cases h1 : -1048576 ≤ k
  · by_cases h2 : k ≤ 1048576
    · have HR : Hid (inChips k = true) := by show _ = _; simp [inChips, h1, h2]
      have q1 : decide ((-1048576 : Int) ≤ k) = true := by simp [h1]
      have q2 : decide (k ≤ (1048576 : Int)) = true := by simp [h2]
      clear h1 h2
      go_enter Tryz.func120, Tryz.ntmps120
      go_wp2_with fail
      go_ret
      exact ⟨ret_bool HR.out.symm, Below.refl _ _⟩
    · have HR : Hid (inChips k = false) := by show _ = _; simp [inChips]; omega
      have q1 : decide ((-1048576 : Int) ≤ k) = true := by simp [h1]
      have q2 : decide (k ≤ (1048576 : Int)) = false := by simp; omega
      clear h1 h2
      go_enter Tryz.func120, Tryz.ntmps120
      go_wp2_with fail
      go_ret
      exact ⟨ret_bool HR.out.symm, Below.refl _ _⟩
  · have HR : Hid (inChips k = false) := by show _ = _; simp [inChips]; omega
    have q1 : decide ((-1048576 : Int) ≤ k) = false := by simp; omega
    clear h1
    go_enter Tryz.func120, Tryz.ntmps120
    go_wp2_with fail
    go_ret
    exact ⟨ret_bool HR.out.symm, Below.refl _ _⟩

def vnE (n : Int) : Int := if 1 ≤ n ∧ n ≤ 12 then 0 else 2
theorem vertices_any (n : Int) (w : World) : Calls Tryz.prog 119 #[.int .i64 n] w (ErrPost w (vnE n)) := by
  by_cases h1 : 1 ≤ n
  · by_cases h2 : n ≤ 12
    · have HR : Hid (vnE n = 0) := if_pos ⟨h1, h2⟩
      have q1 : decide (n < (1 : Int)) = false := by simp; omega
      have q2 : decide ((12 : Int) < n) = false := by simp; omega
      clear h1 h2
      go_enter Tryz.func119, Tryz.ntmps119
      go_wp2_with fail
      go_ret
      exact ⟨ret_int HR.out.symm, Below.refl _ _⟩
    · have HR : Hid (vnE n = 2) := if_neg (by omega)
      have q1 : decide (n < (1 : Int)) = false := by simp; omega
      have q2 : decide ((12 : Int) < n) = true := by simp; omega
      clear h1 h2
      go_enter Tryz.func119, Tryz.ntmps119
      go_wp2_with fail
      go_ret
      exact ⟨ret_int HR.out.symm, Below.refl _ _⟩
  · have HR : Hid (vnE n = 2) := if_neg (by omega)
    have q1 : decide (n < (1 : Int)) = true := by simp; omega
    clear h1
    go_enter Tryz.func119, Tryz.ntmps119
    go_wp2_with fail
    go_ret
    exact ⟨ret_int HR.out.symm, Below.refl _ _⟩

set_option maxRecDepth 100000 in
set_option maxHeartbeats 2000000 in
theorem dcheck_any (n : Int) (d : List Int) (od : Option Addr) (cd : Nat) (F : Foot) (w : World) (hd : SliceR intR 1 F w od d) (hc : d.length ≤ cd) (hc2 : d.length ≤ 9223372036854775807) :
    Calls Tryz.prog 89 #[.slice od d.length cd, .int .i64 n] w (ErrPost w (dErr n d)) := by
  by_cases h1 : 1 ≤ n ∧ n ≤ 12
  · have HV : Hid (vnE n = 0) := if_pos h1
    by_cases h2 : (d.length : Int) = n
    · have HR : Hid (dErr n d = dScan d) := by show _ = _; unfold dErr; rw [if_pos h1, if_pos h2]
      have q1 : ((d.length : Int) != n) = false := by simp [h2]
      replace h2 := hide h2
      clear h1
      go_enter Tryz.func89, Tryz.ntmps89
      go_wp2_with fail
      refine (vertices_any n w).mono ?_
      rintro e w2 ⟨rfl, hb2⟩
      rw [HV.out]
      go_wp2_with fail
      go_loopw [19] (fun iv wr => ∃ k : Nat, k ≤ d.length ∧ iv = .int .i64 k ∧ Hid (dErr n d = dScan (d.drop k)) ∧ Below w.heap.size w wr) (fun iv _ => d.length - (intOf iv).toNat)
      case atStart => exact ⟨0, by omega, rfl, HR, hb2⟩
      case round =>
        clear hb2
        obtain ⟨k, hk, rfl, HS, hbW⟩ := hrel
        by_cases hlt : k < d.length
        · obtain ⟨x, hdr, _, ix, b, off, hod, _, c0⟩ := (hd.below intR_ok hbW).int_at hlt
          subst hod
          have HS2 : Hid (dErr n d = if inChips x = true then dScan (d.drop (k + 1)) else 2) := by show _ = _; rw [HS.out, hdr]; rfl
          clear hdr
          go_wp2_with fail
          refine (within_any x wr).mono ?_
          rintro e w3 ⟨rfl, hb3⟩
          have hb3' := hbW.trans (hb3.mono hbW.size)
          by_cases hx : inChips x = true
          · have HS3 : Hid (dErr n d = dScan (d.drop (k + 1))) := by show _ = _; rw [HS2.out, if_pos hx]
            rw [hx]
            clear hx
            go_wp2_with fail
            go_roundw
            case rel => exact ⟨k + 1, by omega, by go_num, HS3, hb3'⟩
            case measure => simp [intOf]; omega
          · have HS3 : Hid (dErr n d = 2) := by show _ = _; rw [HS2.out, if_neg hx]
            have hx2 : inChips x = false := by simpa using hx
            rw [hx2]
            clear hx hx2
            go_wp2_with fail
            go_ret
            exact ⟨ret_int HS3.out.symm, hb3'⟩
        · have hke : k = d.length := by omega
          have HS3 : Hid (dErr n d = 0) := by show _ = _; rw [HS.out, hke, List.drop_length]; rfl
          clear hke
          go_wp2_with fail
          go_ret
          exact ⟨ret_int HS3.out.symm, hbW⟩
    · have HR : Hid (dErr n d = 8) := by show _ = _; unfold dErr; rw [if_pos h1, if_neg h2]
      have q1 : ((d.length : Int) != n) = true := by simp [h2]
      clear h1 h2
      go_enter Tryz.func89, Tryz.ntmps89
      go_wp2_with fail
      refine (vertices_any n w).mono ?_
      rintro e w2 ⟨rfl, hb2⟩
      rw [HV.out]
      go_wp2_with fail
      go_ret
      exact ⟨ret_int HR.out.symm, hb2⟩
  · have HV : Hid (vnE n = 2) := if_neg h1
    have HR : Hid (dErr n d = 2) := if_neg h1
    clear h1
    go_enter Tryz.func89, Tryz.ntmps89
    go_wp2_with fail
    refine (vertices_any n w).mono ?_
    rintro e w2 ⟨rfl, hb2⟩
    rw [HV.out]
    go_wp2_with fail
    go_ret
    exact ⟨ret_int HR.out.symm, hb2⟩

/-- Chips that a vertex other than the sink lacks. -/
def gScan (q : Int) : Nat → List Int → Int
  | _, [] => 0
  | v, x :: r => if (v : Int) ≠ q ∧ x < 0 then 2 else gScan q (v + 1) r
/-- The error of rotors with chips. -/
def gvE (n : Int) (es : List Edg) (f : List Nat) (ar : List (List Int)) (q : Int) (rot d : List Int) : Int :=
  if rtE n es f ar q rot = 0 then (if dErr n d = 0 then gScan q 0 d else dErr n d) else rtE n es f ar q rot

section
variable (n : Int) (es : List Edg) (oe : Option Addr) (c : Nat) (ar : List (List Int)) (oa : Option Addr) (ca : Nat) (F G : Foot) (w : World) (hs : SliceR edgR 3 F w oe es) (hc : es.length ≤ c) (hc2 : es.length ≤ 1000)
    (ha : SliceR (slcR intR 1) 1 G w oa ar) (hac : ar.length ≤ ca) (hac2 : ar.length ≤ 9223372036854775807) (f : List Nat) (hU : Hid (gErr n es = 0 → Uf f (eL es)))
    (q : Int) (rot : List Int) (ot : Option Addr) (ct : Nat) (H : Foot) (hr : SliceR intR 1 H w ot rot) (hrc : rot.length ≤ ct) (hrl : rot.length ≤ 9223372036854775807)
    (d : List Int) (od : Option Addr) (cd : Nat) (D : Foot) (hd : SliceR intR 1 D w od d) (hdc : d.length ≤ cd) (hdl : d.length ≤ 9223372036854775807)
include hs hc hc2 ha hac hac2 hU hr hrc hrl hd hdc hdl

end

end Go.Proofs.YtpgopmmobbemcaaGreat

set_option linter.unusedVariables false
set_option linter.unusedSimpArgs false
set_option linter.unnecessarySimpa false
namespace Go.Proofs.YtpgopmmobbemcaaGreat
open Go.RowKit

/-- Right rotors of a right ribbon graph. -/
structure RtOk (n : Int) (es : List Edg) (ar : List (List Int)) (q : Nat) (rot : List Int) : Prop where
  nar : (ar.length : Int) = n
  nrot : rot.length = ar.length
  hq : q < ar.length
  n12 : ar.length ≤ 12
  cap : (endsL es).length ≤ 50000
  rng : ∀ h, h < 2 * (endsL es).length → 0 ≤ hv (endsL es) h ∧ hv (endsL es) h < n
  rows : ∀ (v : Nat) (l : List Int), ar[v]? = some l → l.length ≤ 2 * (endsL es).length ∧ ∀ x ∈ l, ∃ h : Nat, x = h ∧ h < 2 * (endsL es).length ∧ hv (endsL es) h = (v : Int)
  rots : ∀ (v : Nat) (k : Int) (l : List Int), rot[v]? = some k → ar[v]? = some l → 0 ≤ k ∧ (v = q → k = 0) ∧ (v ≠ q → k < l.length)

theorem rowsE_zero : ∀ {ar os : List (List Int)}, rowsE ar os = 0 → ∀ (v : Nat) (a o : List Int), ar[v]? = some a → os[v]? = some o → listE a o = 0
  | [], _, _, v, a, o, h, _ => by simp at h
  | _ :: _, [], _, v, a, o, _, h => by simp at h
  | x :: r, y :: s, hz, v, a, o, h1, h2 => by
    rw [rowsE_cons] at hz
    split at hz
    · rename_i h0
      cases v with
      | zero => simp at h1 h2; subst h1 h2; exact h0
      | succ v => exact rowsE_zero hz v a o (by simpa using h1) (by simpa using h2)
    · rename_i h0; exact absurd hz h0
theorem listE_zero {l own : List Int} (h : listE l own = 0) : l.length = own.length ∧ ∀ x ∈ l, x ∈ own := by
  unfold listE at h
  split at h
  · rename_i h1
    split at h
    · rename_i h2
      exact ⟨h1, (scanE_zero h2 (by simp) (by simp)).2⟩
    · rename_i h2; exact absurd h h2
  · cases h
theorem rotE_zero {q : Int} : ∀ {v0 : Nat} {ar : List (List Int)} {rot : List Int}, rotE q v0 ar rot = 0 → ∀ (v : Nat) (k : Int) (l : List Int), rot[v]? = some k → ar[v]? = some l → ¬ badR q (v0 + v) k l.length
  | v0, [], rot, _, v, k, l, _, h => by simp at h
  | v0, _ :: _, [], _, v, k, l, h, _ => by simp at h
  | v0, a :: ar, x :: rot, hz, v, k, l, h1, h2 => by
    rw [rotE_cons] at hz
    split at hz
    · cases hz
    · rename_i h0
      cases v with
      | zero => simp at h1 h2; subst h1 h2; exact h0
      | succ v =>
        have := rotE_zero hz v k l (by simpa using h1) (by simpa using h2)
        rw [show v0 + (v + 1) = v0 + 1 + v from by omega]
        exact this

theorem RtOk.of {n : Int} {es : List Edg} {f : List Nat} {ar : List (List Int)} {q : Int} {rot : List Int} (h : rtE n es f ar q rot = 0) (hc2 : es.length ≤ 1000) : ∃ q' : Nat, q = q' ∧ RtOk n es ar q' rot := by
  obtain ⟨h1, h2, h3, h4⟩ := rtE_zero h
  obtain ⟨j1, j2, j3⟩ := chkE_zero h1
  have hV := jErr_zero j1
  have hn12 := (gErr_zero hV).1
  obtain ⟨q', rfl⟩ := Int.eq_ofNat_of_zero_le h2.1
  refine ⟨q', rfl, ⟨j2, by omega, by omega, by omega, ?_, hv_range hV, ?_, ?_⟩⟩
  · have := endsL_len (es := es) fun x hx => ((gErr_zero hV).2.1 x hx).2.2.2.1
    omega
  · intro v l hl
    have hvl : v < ar.length := (List.getElem?_eq_some_iff.1 hl).1
    have ho : (halfs n es)[v]? = some (halfU (endsL es) (2 * (endsL es).length) v) := halvesU_get (by omega)
    obtain ⟨e1, e2⟩ := listE_zero (rowsE_zero j3 v l _ hl ho)
    refine ⟨by rw [e1]; exact halfU_len _ _ _, fun x hx => halfU_mem.1 (e2 x hx)⟩
  · intro v k l hk hl
    have := rotE_zero h4 v k l hk hl
    rw [Nat.zero_add] at this
    unfold badR at this
    refine ⟨by omega, fun e => ?_, fun e => ?_⟩
    · subst e; omega
    · omega

/-- The rotor behind a step at v, and where the chip goes. -/
def stpK (ar : List (List Int)) (rot : List Int) (v : Nat) : Nat := ((rot.getD v 0).toNat + 1) % (ar.getD v []).length
def stpR (ar : List (List Int)) (rot : List Int) (v : Nat) : List Int := rot.set v (stpK ar rot v : Nat)
def stpV (ar : List (List Int)) (E : List (Int × Int)) (rot : List Int) (v : Nat) : Nat := (hv E (oppH ((ar.getD v []).getD (stpK ar rot v) 0).toNat)).toNat

theorem oppH_lt {h m : Nat} (hh : h < 2 * m) : oppH h < 2 * m := by unfold oppH; split <;> omega
theorem getD_of {α : Type} {l : List α} {i : Nat} {x d : α} (h : l[i]? = some x) : l.getD i d = x := by rw [List.getD_eq_getElem?_getD, h]; rfl

theorem RtOk.step {n : Int} {es : List Edg} {ar : List (List Int)} {q : Nat} {rot : List Int} (h : RtOk n es ar q rot) {v : Nat} (hv' : v < ar.length) (hvq : v ≠ q) :
    (∃ (l : List Int) (k g : Nat), ar[v]? = some l ∧ rot[v]? = some (k : Int) ∧ k < l.length ∧ l.length ≤ 1000000 ∧ stpK ar rot v = (k + 1) % l.length ∧ l[(k + 1) % l.length]? = some (g : Int) ∧ (toL (endsL es))[g]? = some ((stpV ar (endsL es) rot v : Nat) : Int)) ∧
    RtOk n es ar q (stpR ar rot v) ∧ stpV ar (endsL es) rot v < ar.length := by
  have hl : ar[v]? = some ar[v] := List.getElem?_eq_getElem hv'
  have hk0 : rot[v]? = some (rot[v]'(by rw [h.nrot]; exact hv')) := List.getElem?_eq_getElem (by rw [h.nrot]; exact hv')
  obtain ⟨r1, _, r3⟩ := h.rots v _ _ hk0 hl
  generalize rot[v]'(by rw [h.nrot]; exact hv') = k at hk0 r1 r3
  generalize ar[v] = l at *
  obtain ⟨k, rfl⟩ := Int.eq_ofNat_of_zero_le r1
  have hkl : k < l.length := by have := r3 hvq; omega
  obtain ⟨w1, w2⟩ := h.rows v l hl
  have hK : stpK ar rot v = (k + 1) % l.length := by
    unfold stpK
    rw [getD_of hk0, getD_of hl]
    simp
  have hKl : (k + 1) % l.length < l.length := Nat.mod_lt _ (by omega)
  have hx : l[(k + 1) % l.length]? = some l[(k + 1) % l.length] := List.getElem?_eq_getElem hKl
  obtain ⟨g, hg, hg2, _⟩ := w2 _ (List.getElem_mem hKl)
  rw [hg] at hx
  have hV : stpV ar (endsL es) rot v = (hv (endsL es) (oppH g)).toNat := by
    unfold stpV
    rw [hK, getD_of hl, getD_of hx]
    simp
  have hr := h.rng _ (oppH_lt hg2)
  have hr2 := h.nar
  refine ⟨⟨l, k, g, hl, hk0, hkl, by have := h.cap; omega, hK, hx, ?_⟩, ⟨h.nar, ?_, h.hq, h.n12, h.cap, h.rng, h.rows, ?_⟩, by rw [hV]; omega⟩
  · rw [toL_get _ g hg2, hV]
    congr 1
    omega
  · unfold stpR; rw [List.length_set]; exact h.nrot
  · intro u y m hy hm
    unfold stpR at hy
    by_cases hu : v = u
    · subst hu
      rw [List.getElem?_set_self (by rw [h.nrot]; exact hv')] at hy
      injection hy with hy
      subst hy
      rw [hl] at hm
      injection hm with hm
      subst hm
      exact ⟨by omega, fun e => absurd e hvq, fun _ => by rw [hK]; omega⟩
    · rw [List.getElem?_set_ne hu] at hy
      exact h.rots u y m hy hm

/-- The way of a chip: the rotors behind it and the vertices, at most m steps. -/
def wlk (ar : List (List Int)) (E : List (Int × Int)) (q : Nat) : Nat → List Int → Nat → List Nat → Option (List Int × List Nat)
  | 0, rot, v, acc => if v = q then some (rot, acc ++ [v]) else none
  | m + 1, rot, v, acc => if v = q then some (rot, acc ++ [v]) else wlk ar E q m (stpR ar rot v) (stpV ar E rot v) (acc ++ [v])
end Go.Proofs.YtpgopmmobbemcaaGreat

set_option linter.unusedVariables false
set_option linter.unusedSimpArgs false
set_option linter.unnecessarySimpa false
namespace Go.Proofs.YtpgopmmobbemcaaGreat
open Go.RowKit

/-- A list of the call's own is put behind: 'out = append(out, row)'. -/
theorem Lists.push {base s0 : Nat} {e lt : TypeId} {w w1 w' : World} {ov ov' v : Value} {vs : List Value} {xss : List (List Int)} {xs : List Int} (h : Lists base e lt w ov vs xss) (hs : w.heap.size = s0) (hb : base ≤ s0) (hb1 : Below s0 w w1) (hv : OwnN s0 e w1 v xs) {o : Obj}
    (hr : w'.ownsRow base lt 1 ov' (vs.length + 1) (vs ++ [v])) (hg : (w1.alloc o).grownBy w' ov.ownBlock)
    (hat : ov'.ownBlock = ov.ownBlock ∨ ov'.ownBlock = some (w1.alloc o).heap.size) : Lists base e lt w' ov' (vs ++ [v]) (xss ++ [xs]) := by
  have hsz := hb1.size
  have key : ∀ (i : Nat) (u : Value), (vs ++ [v])[i]? = some u → (i < vs.length ∧ vs[i]? = some u) ∨ (i = vs.length ∧ u = v) := fun i u hi => by
    rcases Nat.lt_or_ge i vs.length with hj | hj
    · rw [List.getElem?_append_left hj] at hi; exact .inl ⟨hj, hi⟩
    · rw [List.getElem?_append_right hj] at hi
      have h1 := (List.getElem?_eq_some_iff.1 hi).1
      simp at h1
      have : i = vs.length := by omega
      subst this
      simp at hi
      exact .inr ⟨rfl, hi.symm⟩
  have hold : ∀ (i : Nat) (u : Value) (k : Nat), vs[i]? = some u → u.ownBlock = some k → base ≤ k ∧ k < s0 := fun i u k hi hk => by have := h.ms.block hi k hk; omega
  have hovl : ∀ k, ov.ownBlock = some k → k < s0 := fun k hk => by have := (h.row.lt k hk).2; omega
  refine ⟨by rw [List.length_append]; exact hr, ⟨by simp [h.len], fun i u ys hu hy => ?_, fun i j u t k hu ht hku hkt => ?_⟩, fun i u k hi hk he => ?_⟩
  · rcases key i u hu with ⟨a1, a2⟩ | ⟨a1, a2⟩
    · rw [List.getElem?_append_left (by rw [← h.len]; exact a1)] at hy
      refine (h.ms.own i u ys a2 hy).keep fun g hgu => ?_
      have hgl := hold i u g a2 hgu
      rw [hg.block g (by simp; omega) (fun he => h.off i u g a2 hgu he.symm), Below.heap_alloc w1 o g (by omega)]
      exact hb1.block g hgl.2
    · subst a1 a2
      rw [List.getElem?_append_right (by rw [← h.len]; exact Nat.le_refl _), h.len, Nat.sub_self] at hy
      simp at hy
      subst hy
      refine (hv.rebase hb).keep fun g hgu => ?_
      have hgl := hv.block g hgu
      rw [hg.block g (by simp; omega) (fun he => by have := hovl g he.symm; omega), Below.heap_alloc w1 o g (by omega)]
  · rcases key i u hu with ⟨a1, a2⟩ | ⟨a1, a2⟩ <;> rcases key j t ht with ⟨b1, b2⟩ | ⟨b1, b2⟩
    · exact h.ms.apart i j u t k a2 b2 hku hkt
    · subst b2
      have := hold i u k a2 hku
      have := hv.block k hkt
      omega
    · subst a2
      have := hold j t k b2 hkt
      have := hv.block k hku
      omega
    · rw [a1, b1]
  · rcases key i u hi with ⟨a1, a2⟩ | ⟨a1, a2⟩
    · rcases hat with ha | ha
      · exact h.off i u k a2 hk (ha ▸ he)
      · rw [ha] at he
        injection he with he
        have := hold i u k a2 hk
        simp at he
        omega
    · subst a2
      have hkl := hv.block k hk
      rcases hat with ha | ha
      · rw [ha] at he
        have := hovl k he
        omega
      · rw [ha] at he
        injection he with he
        simp at he
        omega

/-- To which vertex each half-edge in the lists leads. -/
def tgL (ar : List (List Int)) (E : List (Int × Int)) : List (List Int) := ar.map fun l => l.map fun x => hv E (oppH x.toNat)

def TgPost (w : World) (t : List (List Int)) (e : Ending) (w' : World) : Prop := ∃ ot c, e = .returned (.slice ot t.length c) ∧ t.length ≤ c ∧ SliceR (slcR intR 1) 1 All w' ot t ∧ Below w.heap.size w w'

end Go.Proofs.YtpgopmmobbemcaaGreat

set_option linter.unusedVariables false
set_option linter.unusedSimpArgs false
set_option linter.unnecessarySimpa false
namespace Go.Proofs.YtpgopmmobbemcaaGreat
open Go.RowKit

/-- The results of Step. -/
def stepResR (n : Int) (es : List Edg) (f : List Nat) (ar : List (List Int)) (q : Int) (rot : List Int) (v : Int) : List Int × Int × Int :=
  if stE n es f ar q rot v = 0 then (if v = q then ([], 0, 15) else (stpR ar rot v.toNat, ((stpV ar (endsL es) rot v.toNat : Nat) : Int), 0)) else ([], 0, stE n es f ar q rot v)
def StepRes (w : World) (x : List Int × Int × Int) (e : Ending) (w' : World) : Prop := ∃ rv, e = .returned (.tuple #[rv, .int .i64 x.2.1, .int .i64 x.2.2]) ∧ OwnS intR 1 w.heap.size 3 Non w' rv x.1 ∧ Below w.heap.size w w'

theorem RtOk.i64 {n : Int} {es : List Edg} {ar : List (List Int)} {q : Nat} {rot : List Int} (h : RtOk n es ar q rot) : ∀ x ∈ rot, I64 x := by
  intro x hx
  obtain ⟨i, hi, rfl⟩ := List.getElem_of_mem hx
  have hia : i < ar.length := by rw [← h.nrot]; exact hi
  have h1 := h.rots i _ _ (List.getElem?_eq_getElem hi) (List.getElem?_eq_getElem hia)
  have h2 := (h.rows i _ (List.getElem?_eq_getElem hia)).1
  have h3 := h.cap
  unfold I64
  by_cases e : i = q
  · have := h1.2.1 e; omega
  · have := h1.2.2 e; omega

end Go.Proofs.YtpgopmmobbemcaaGreat

set_option linter.unusedVariables false
set_option linter.unusedSimpArgs false
set_option linter.unnecessarySimpa false
namespace Go.Proofs.YtpgopmmobbemcaaGreat
open Go.RowKit

section
variable (n : Int) (es : List Edg) (oe : Option Addr) (c : Nat) (ar : List (List Int)) (oa : Option Addr) (ca : Nat) (F G : Foot) (w : World) (hs : SliceR edgR 3 F w oe es) (hc : es.length ≤ c) (hc2 : es.length ≤ 1000)
    (ha : SliceR (slcR intR 1) 1 G w oa ar) (hac : ar.length ≤ ca) (hac2 : ar.length ≤ 9223372036854775807) (f : List Nat) (hU : Hid (gErr n es = 0 → Uf f (eL es)))
    (q : Int) (rot : List Int) (ot : Option Addr) (ct : Nat) (H : Foot) (hr : SliceR intR 1 H w ot rot) (hrc : rot.length ≤ ct) (hrl : rot.length ≤ 9223372036854775807)
include hs hc hc2 ha hac hac2 hU hr hrc hrl

end

end Go.Proofs.YtpgopmmobbemcaaGreat

set_option linter.unusedVariables false
set_option linter.unusedSimpArgs false
set_option linter.unnecessarySimpa false
namespace Go.Proofs.YtpgopmmobbemcaaGreat
open Go.RowKit

def smB (n : Int) (es : List Edg) (N M : Int) : Bool := if es.length ≤ 40 then (if gErr n es = 0 then decide (n ≤ N ∧ ((endsL es).length : Int) ≤ M) else true) else false

set_option maxRecDepth 100000 in
set_option maxHeartbeats 2000000 in
theorem small_any (n : Int) (es : List Edg) (oe : Option Addr) (c : Nat) (F : Foot) (w : World) (hs : SliceR edgR 3 F w oe es) (hc : es.length ≤ c) (hc2 : es.length ≤ 9223372036854775807) (N M : Int) :
    Calls Tryz.prog 82 #[.agg #[.int .i64 n, .slice oe es.length c], .int .i64 N, .int .i64 M] w fun e w' => e = .returned (.bool (smB n es N M)) ∧ Below w.heap.size w w' := by
  have hb0 := box_refl w (.cells #[.int .i64 n, .slice oe es.length c] 24)
  by_cases h40 : es.length ≤ 40
  · have q1 : decide ((40 : Int) < (es.length : Int)) = false := by simp; omega
    have hc3 : es.length ≤ 1000 := by omega
    have HS : Hid (smB n es N M = if gErr n es = 0 then decide (n ≤ N ∧ ((endsL es).length : Int) ≤ M) else true) := if_pos h40
    have HK := hide (rgcheck_any n es oe c F _ (hs.below edgR_ok (below_box hb0)) hc hc2)
    clear h40
    go_enter Tryz.func82, Tryz.ntmps82
    go_wp2_with fail
    refine HK.out.mono ?_
    rintro e w2 ⟨rfl, hb2⟩
    have hx2 := hb2.mono (B' := w.heap.size + 1) (by simp)
    have d0 := box_cell hx2 0
    have d1 := box_cell hx2 1
    simp at d0 d1
    have HX := hide hx2
    clear hb0 hb2 hx2
    by_cases hE : gErr n es = 0
    · have HS2 : Hid (smB n es N M = decide (n ≤ N ∧ ((endsL es).length : Int) ≤ M)) := by show _ = _; rw [HS.out, if_pos hE]
      have HM : Hid (∀ x ∈ es, x.m ≤ 50) := fun x hx => ((gErr_zero hE).2.1 x hx).2.2.2.1
      rw [hE]
      clear hE
      by_cases hN : n ≤ N
      · have q2 : decide (n ≤ N) = true := by simp [hN]
        by_cases hM : ((endsL es).length : Int) ≤ M
        · have q3 : decide (((endsL es).length : Int) ≤ M) = true := by simp [hM]
          have HS3 : Hid (smB n es N M = true) := by show _ = _; rw [HS2.out]; exact decide_eq_true ⟨hN, hM⟩
          clear hN hM
          go_wp2_with fail
          refine (rsize_any n es oe c F w2 (hs.below edgR_ok (below_box HX.out)) hc hc3 HM).mono ?_
          rintro e w3 ⟨rfl, hb3⟩
          go_wp2_with fail
          go_ret
          exact ⟨ret_bool HS3.out.symm, (below_box HX.out).trans (hb3.mono (below_box HX.out).size)⟩
        · have q3 : decide (((endsL es).length : Int) ≤ M) = false := by simp; omega
          have HS3 : Hid (smB n es N M = false) := by show _ = _; rw [HS2.out]; exact decide_eq_false (fun h => hM h.2)
          clear hN hM
          go_wp2_with fail
          refine (rsize_any n es oe c F w2 (hs.below edgR_ok (below_box HX.out)) hc hc3 HM).mono ?_
          rintro e w3 ⟨rfl, hb3⟩
          go_wp2_with fail
          go_ret
          exact ⟨ret_bool HS3.out.symm, (below_box HX.out).trans (hb3.mono (below_box HX.out).size)⟩
      · have q2 : decide (n ≤ N) = false := by simp; omega
        have HS3 : Hid (smB n es N M = false) := by show _ = _; rw [HS2.out]; exact decide_eq_false (fun h => hN h.1)
        clear hN
        go_wp2_with fail
        go_ret
        exact ⟨ret_bool HS3.out.symm, below_box HX.out⟩
    · have HS2 : Hid (smB n es N M = true) := by show _ = _; rw [HS.out, if_neg hE]
      have q2 : (gErr n es != 0) = true := by simpa using hE
      clear hE
      go_wp2_with fail
      go_ret
      exact ⟨ret_bool HS2.out.symm, below_box HX.out⟩
  · have q1 : decide ((40 : Int) < (es.length : Int)) = true := by simp; omega
    have HS : Hid (smB n es N M = false) := if_neg h40
    clear h40
    go_enter Tryz.func82, Tryz.ntmps82
    go_wp2_with fail
    go_ret
    exact ⟨ret_bool HS.out.symm, below_box hb0⟩

theorem rfew_any (n : Int) (es : List Edg) (oe : Option Addr) (c : Nat) (F : Foot) (w : World) (hs : SliceR edgR 3 F w oe es) (hc : es.length ≤ c) (hc2 : es.length ≤ 9223372036854775807) :
    Calls Tryz.prog 41 #[.agg #[.int .i64 n, .slice oe es.length c]] w fun e w' => e = .returned (.bool (smB n es 6 9)) ∧ Below w.heap.size w w' := by
  have hb0 := box_refl w (.cells #[.int .i64 n, .slice oe es.length c] 24)
  have HK := hide (small_any n es oe c F _ (hs.below edgR_ok (below_box hb0)) hc hc2 6 9)
  go_enter Tryz.func41, Tryz.ntmps41
  go_wp2_with fail
  refine HK.out.mono ?_
  rintro e w2 ⟨rfl, hb2⟩
  go_wp2_with fail
  go_ret
  exact ⟨rfl, below_box (hb2.mono (B' := w.heap.size + 1) (by simp))⟩

/-- No list is longer than 40. -/
def longB : List (List Int) → Bool
  | [] => true
  | l :: r => if l.length ≤ 40 then longB r else false
def few44 (n : Int) (es : List Edg) (ar : List (List Int)) : Bool := if smB n es 6 9 = true then (if ar.length ≤ 20 then longB ar else false) else false
def few45 (n : Int) (es : List Edg) (ar : List (List Int)) (rot : List Int) : Bool := if few44 n es ar = true then decide (rot.length ≤ 30) else false

end Go.Proofs.YtpgopmmobbemcaaGreat

set_option linter.unusedVariables false
set_option linter.unusedSimpArgs false
set_option linter.unnecessarySimpa false
namespace Go.Proofs.YtpgopmmobbemcaaGreat
open Go.RowKit

theorem rIn_any (k : Int) (w : World) : Calls Tryz.prog 88 #[.int .i64 k] w fun e w' => e = .returned (.bool (inChips k)) ∧ w = w' := by
  by_cases h1 : -1048576 ≤ k
  · by_cases h2 : k ≤ 1048576
    · have HR : Hid (inChips k = true) := by show _ = _; simp [inChips, h1, h2]
      have q1 : decide ((-1048576 : Int) ≤ k) = true := by simp [h1]
      have q2 : decide (k ≤ (1048576 : Int)) = true := by simp [h2]
      clear h1 h2
      go_enter Tryz.func88, Tryz.ntmps88
      go_wp2_with fail
      go_ret
      exact ⟨ret_bool HR.out.symm, rfl⟩
    · have HR : Hid (inChips k = false) := by show _ = _; simp [inChips]; omega
      have q1 : decide ((-1048576 : Int) ≤ k) = true := by simp [h1]
      have q2 : decide (k ≤ (1048576 : Int)) = false := by simp; omega
      clear h1 h2
      go_enter Tryz.func88, Tryz.ntmps88
      go_wp2_with fail
      go_ret
      exact ⟨ret_bool HR.out.symm, rfl⟩
  · have HR : Hid (inChips k = false) := by show _ = _; simp [inChips]; omega
    have q1 : decide ((-1048576 : Int) ≤ k) = false := by simp; omega
    clear h1
    go_enter Tryz.func88, Tryz.ntmps88
    go_wp2_with fail
    go_ret
    exact ⟨ret_bool HR.out.symm, rfl⟩

set_option maxRecDepth 100000 in
set_option maxHeartbeats 2000000 in
theorem rdcheck_any (n : Int) (d : List Int) (od : Option Addr) (cd : Nat) (F : Foot) (w : World) (hd : SliceR intR 1 F w od d) (hc : d.length ≤ cd) (hc2 : d.length ≤ 9223372036854775807) :
    Calls Tryz.prog 50 #[.slice od d.length cd, .int .i64 n] w fun e w' => e = .returned (.int .i64 (dErr n d)) ∧ w = w' := by
  by_cases h1 : 1 ≤ n
  · have q1 : decide (n < (1 : Int)) = false := by simp; omega
    by_cases h3 : n ≤ 12
    · have q2 : decide ((12 : Int) < n) = false := by simp; omega
      by_cases h2 : (d.length : Int) = n
      · have HR : Hid (dErr n d = dScan d) := by show _ = _; unfold dErr; rw [if_pos ⟨h1, h3⟩, if_pos h2]
        have q3 : ((d.length : Int) != n) = false := by simp [h2]
        have hn := hide h2
        clear h1 h3 h2
        go_enter Tryz.func50, Tryz.ntmps50
        go_wp2_with fail
        go_loopw [5] (fun iv wr => ∃ k : Nat, k ≤ d.length ∧ iv = .int .i64 k ∧ Hid (dErr n d = dScan (d.drop k)) ∧ wr = w) (fun iv _ => d.length - (intOf iv).toNat)
        case atStart => exact ⟨0, by omega, rfl, HR, rfl⟩
        case round =>
          obtain ⟨k, hk, rfl, HS, rfl⟩ := hrel
          by_cases hlt : k < d.length
          · have q4 : decide ((k : Int) < n) = true := by have := hn.out; simp; omega
            obtain ⟨x, hdr, _, ix, b, off, hod, _, c0⟩ := hd.int_at hlt
            subst hod
            have HS2 : Hid (dErr n d = if inChips x = true then dScan (d.drop (k + 1)) else 2) := by show _ = _; rw [HS.out, hdr]; rfl
            clear hdr
            by_cases hx : inChips x = true
            · have HS3 : Hid (dErr n d = dScan (d.drop (k + 1))) := by show _ = _; rw [HS2.out, if_pos hx]
              have hI := rIn_any x wr
              rw [hx] at hI
              clear hx
              go_wp2_with fail
              refine hI.mono ?_
              rintro e w3 ⟨rfl, rfl⟩
              go_wp2_with fail
              go_roundw
              case rel => exact ⟨k + 1, by omega, by go_num, HS3, by first | rfl | trivial⟩
              case measure => simp [intOf]; omega
            · have HS3 : Hid (dErr n d = 2) := by show _ = _; rw [HS2.out, if_neg hx]
              have hx2 : inChips x = false := by simpa using hx
              have hI := rIn_any x wr
              rw [hx2] at hI
              clear hx hx2
              go_wp2_with fail
              refine hI.mono ?_
              rintro e w3 ⟨rfl, rfl⟩
              go_wp2_with fail
              go_ret
              exact ⟨ret_int HS3.out.symm, rfl⟩
          · have q4 : decide ((k : Int) < n) = false := by have := hn.out; simp; omega
            have hke : k = d.length := by omega
            have HS3 : Hid (dErr n d = 0) := by show _ = _; rw [HS.out, hke, List.drop_length]; rfl
            clear hke
            go_wp2_with fail
            go_ret
            exact ⟨ret_int HS3.out.symm, rfl⟩
      · have HR : Hid (dErr n d = 8) := by show _ = _; unfold dErr; rw [if_pos ⟨h1, h3⟩, if_neg h2]
        have q3 : ((d.length : Int) != n) = true := by simp [h2]
        clear h1 h3 h2
        go_enter Tryz.func50, Tryz.ntmps50
        go_wp2_with fail
        go_ret
        exact ⟨ret_int HR.out.symm, rfl⟩
    · have HR : Hid (dErr n d = 2) := if_neg (by omega)
      have q2 : decide ((12 : Int) < n) = true := by simp; omega
      clear h1 h3
      go_enter Tryz.func50, Tryz.ntmps50
      go_wp2_with fail
      go_ret
      exact ⟨ret_int HR.out.symm, rfl⟩
  · have HR : Hid (dErr n d = 2) := if_neg (by omega)
    have q1 : decide (n < (1 : Int)) = true := by simp; omega
    clear h1
    go_enter Tryz.func50, Tryz.ntmps50
    go_wp2_with fail
    go_ret
    exact ⟨ret_int HR.out.symm, rfl⟩

/-- The error of the chips alone. -/
def chE (n q : Int) (d : List Int) : Int := if dErr n d = 0 then gScan q 0 d else dErr n d

end Go.Proofs.YtpgopmmobbemcaaGreat

set_option linter.unusedVariables false
set_option linter.unusedSimpArgs false
namespace Go.Proofs.YtpgopmmobbemcaaGreat
open Go.RowKit

def forest (es : List Edg) : List Nat := (eL es).foldl (fun f x => joinF f x.1 x.2) (List.range 12)
theorem forest_go : ∀ (l m : List (Nat × Nat)) (f : List Nat), Uf f m → (∀ x ∈ m, x.1 < 12 ∧ x.2 < 12) → (∀ x ∈ l, x.1 < 12 ∧ x.2 < 12) → Uf (l.foldl (fun f x => joinF f x.1 x.2) f) (m ++ l)
  | [], m, f, h, _, _ => by simpa using h
  | x :: l, m, f, h, hm, hl => by
    obtain ⟨h1, h2⟩ := hl x (List.mem_cons_self ..)
    have := forest_go l (m ++ [x]) (joinF f x.1 x.2) (h.join h1 h2 hm) (fun y hy => by
      rcases List.mem_append.1 hy with h3 | h3
      · exact hm y h3
      · simp at h3; subst h3; exact ⟨h1, h2⟩) (fun y hy => hl y (List.mem_cons_of_mem _ hy))
    rw [List.append_assoc] at this
    exact this
theorem forest_ok (n : Int) (es : List Edg) : gErr n es = 0 → Uf (forest es) (eL es) := fun h => by
  have := forest_go (eL es) [] (List.range 12) Uf.begin (by simp) (fun x hx => ?_)
  · unfold forest; simpa using this
  · have h1 := eL_lt h es.length x
    rw [List.take_length] at h1
    exact h1 hx

end Go.Proofs.YtpgopmmobbemcaaGreat

set_option linter.unusedVariables false
set_option linter.unusedSimpArgs false
set_option linter.unnecessarySimpa false
namespace Go.Proofs.YtpgopmmobbemcaaGreat
open Go.RowKit

theorem few17_any (d : List Int) (od : Option Addr) (cd : Nat) (w : World) : Calls Tryz.prog 22 #[.slice od d.length cd] w fun e w' => e = .returned (.bool (decide (d.length ≤ 24))) ∧ Below w.heap.size w w' := by
  have HR : Hid (decide (d.length ≤ 24) = decide ((d.length : Int) ≤ 24)) := by show _ = _; simp; omega
  go_enter Tryz.func22, Tryz.ntmps22
  go_wp2_with fail
  go_ret
  exact ⟨ret_bool HR.out.symm, Below.refl _ _⟩

/-- All chips are from -60 to 60. -/
def smD : List Int → Bool
  | [] => true
  | x :: r => if x < -60 ∨ 60 < x then false else smD r
section
variable {w : World} {n : Int} {es : List Edg} {oe : Option Addr} {c : Nat} {ar : List (List Int)} {oa : Option Addr} {ca : Nat} {q : Int} {rot : List Int} {ot : Option Addr} {ct : Nat} {d : List Int} {od : Option Addr} {cd : Nat} {pk : List Int} {op : Option Addr} {cp : Nat}
end

/-- A right and small game. -/
def smallB (n : Int) (es : List Edg) (ar : List (List Int)) (q : Int) (rot d : List Int) : Bool :=
  if few45 n es ar rot = true then (if d.length ≤ 24 then (if gvE n es (forest es) ar q rot d = 0 then smD d else false) else false) else false
end Go.Proofs.YtpgopmmobbemcaaGreat

set_option linter.unusedVariables false
set_option linter.unusedSimpArgs false
namespace Go.Proofs.YtpgopmmobbemcaaGreat
open Go.RowKit

/-- The debt of a divisor. -/
def owedL : List Int → Int
  | [] => 0
  | k :: r => max 0 (-k) + owedL r
theorem owedL_nn : ∀ d, 0 ≤ owedL d
  | [] => Int.le_refl _
  | k :: r => by have := owedL_nn r; unfold owedL; omega
theorem owedL_le {c : Int} (hc : 0 ≤ c) : ∀ d : List Int, (∀ k ∈ d, -c ≤ k ∧ k ≤ c) → owedL d ≤ d.length * c
  | [], _ => by simp [owedL]
  | k :: r, h => by
    have h1 := owedL_le hc r fun x hx => h x (by simp [hx])
    have h2 := h k (by simp)
    have h3 : (((k :: r).length : Nat) : Int) * c = (r.length : Int) * c + c := by rw [List.length_cons]; push_cast; rw [Int.add_mul, Int.one_mul]
    unfold owedL
    omega
theorem owedL_app (l m : List Int) : owedL (l ++ m) = owedL l + owedL m := by
  induction l with
  | nil => simp [owedL]
  | cons k r ih => simp only [List.cons_append, owedL, ih]; omega
theorem magnitude_any (k : Int) (hk : -1000000000000 ≤ k ∧ k ≤ 1000000000000) (w : World) : Calls Tryz.prog 73 #[.int .i64 k] w fun e w' => e = .returned (.int .i64 (magI k)) ∧ w = w' := by
  go_enter Tryz.func73, Tryz.ntmps73
  go_wp2_with fail
  all_goals (go_ret; refine ⟨?_, rfl⟩; unfold magI; go_num)
theorem owedL_take {d : List Int} {k : Nat} {x : Int} (h : d.drop k = x :: d.drop (k + 1)) : owedL (d.take (k + 1)) = owedL (d.take k) + max 0 (-x) := by
  have hx : d[k]? = some x := by
    have := congrArg (fun l => l[0]?) h
    simpa using this
  rw [List.take_add_one, hx, owedL_app]
  simp [owedL]
theorem owed_any (d : List Int) (od : Option Addr) (cd : Nat) (F : Foot) (w : World) (hd : SliceR intR 1 F w od d) (hc : d.length ≤ cd) (hc2 : d.length ≤ 1000) (hb : Hid (∀ k ∈ d, -1000000000000 ≤ k ∧ k ≤ 1000000000000)) :
    Calls Tryz.prog 64 #[.slice od d.length cd] w fun e w' => e = .returned (.int .i64 (owedL d)) ∧ w = w' := by
  have HB : Hid (∀ k, 0 ≤ owedL (d.take k) ∧ owedL (d.take k) ≤ 1000000000000000) := fun k => by
    refine ⟨owedL_nn _, ?_⟩
    have h1 := owedL_le (c := 1000000000000) (by omega) (d.take k) fun x hx => hb.out x (List.mem_of_mem_take hx)
    have h2 : (d.take k).length ≤ 1000 := by rw [List.length_take]; omega
    omega
  go_enter Tryz.func64, Tryz.ntmps64
  go_wp2_with fail
  go_loopw [3, 8] (fun sv iv wr => ∃ k : Nat, k ≤ d.length ∧ iv = .int .i64 k ∧ sv = .int .i64 (owedL (d.take k)) ∧ wr = w) (fun _ iv _ => d.length - (intOf iv).toNat)
  case atStart => exact ⟨0, by omega, rfl, rfl, rfl⟩
  case round =>
    obtain ⟨k, hk, rfl, rfl, rfl⟩ := hrel
    obtain ⟨S, hS⟩ : ∃ S, S = owedL (d.take k) := ⟨_, rfl⟩
    have hS1 := HB.out k
    rw [← hS] at hS1 ⊢
    by_cases hlt : k < d.length
    · obtain ⟨x, hdr, hm, ix, b, off, hod, _, c0⟩ := hd.int_at hlt
      have hx := hb.out x (by rw [← List.take_append_drop k d, hdr]; simp)
      have HS2 : Hid (owedL (d.take (k + 1)) = S + max 0 (-x)) := by show _ = _; rw [hS]; exact owedL_take hdr
      subst hod
      clear hdr
      by_cases h1 : x ≤ 0
      · have HS3 : Hid (owedL (d.take (k + 1)) = S - x) := by show _ = _; rw [HS2.out]; omega
        go_wp2_with fail
        all_goals (try omega)
        all_goals
          go_roundw
          case rel => exact ⟨k + 1, by omega, by go_num, by rw [HS3.out]; go_num, by first | rfl | trivial⟩
          case measure => simp [intOf]; omega
      · have HS3 : Hid (owedL (d.take (k + 1)) = S) := by show _ = _; rw [HS2.out]; omega
        go_wp2_with fail
        all_goals (try omega)
        all_goals
          go_roundw
          case rel => exact ⟨k + 1, by omega, by go_num, by rw [HS3.out]; go_num, by first | rfl | trivial⟩
          case measure => simp [intOf]; omega
    · have hke : k = d.length := by omega
      have HS3 : Hid (S = owedL d) := by show _ = _; rw [hS, hke, List.take_length]
      clear hke hS
      go_wp2_with fail
      go_ret
      exact ⟨by rw [HS3.out]; rfl, rfl⟩
theorem costS_le {c : Int} (hc : 0 ≤ c) : ∀ d : List Int, (∀ k ∈ d, -c ≤ k ∧ k ≤ c) → 0 ≤ costS d ∧ costS d ≤ d.length * c
  | [], _ => by simp [costS]
  | k :: r, h => by
    have h1 := costS_le hc r fun x hx => h x (by simp [hx])
    have h2 := h k (by simp)
    have h3 : (((k :: r).length : Nat) : Int) * c = (r.length : Int) * c + c := by rw [List.length_cons]; push_cast; rw [Int.add_mul, Int.one_mul]
    unfold costS magI
    omega
theorem costS_app (l m : List Int) : costS (l ++ m) = costS l + costS m := by
  induction l with
  | nil => simp [costS]
  | cons k r ih => simp only [List.cons_append, costS, ih]; omega
theorem costS_take {d : List Int} {k : Nat} {x : Int} (h : d.drop k = x :: d.drop (k + 1)) : costS (d.take (k + 1)) = costS (d.take k) + magI x := by
  have hx : d[k]? = some x := by
    have := congrArg (fun l => l[0]?) h
    simpa using this
  rw [List.take_add_one, hx, costS_app]
  simp [costS]
theorem cost_any (d : List Int) (od : Option Addr) (cd : Nat) (F : Foot) (w : World) (hd : SliceR intR 1 F w od d) (hc : d.length ≤ cd) (hc2 : d.length ≤ 1000) (hb : Hid (∀ k ∈ d, -1000000000000 ≤ k ∧ k ≤ 1000000000000)) :
    Calls Tryz.prog 47 #[.slice od d.length cd] w fun e w' => e = .returned (.int .i64 (costS d)) ∧ w = w' := by
  have HB : Hid (∀ k, 0 ≤ costS (d.take k) ∧ costS (d.take k) ≤ 1000000000000000) := fun k => by
    have h1 := costS_le (c := 1000000000000) (by omega) (d.take k) fun x hx => hb.out x (List.mem_of_mem_take hx)
    have h2 : (d.take k).length ≤ 1000 := by rw [List.length_take]; omega
    omega
  go_enter Tryz.func47, Tryz.ntmps47
  go_wp2_with fail
  go_loopw [3, 8] (fun sv iv wr => ∃ k : Nat, k ≤ d.length ∧ iv = .int .i64 k ∧ sv = .int .i64 (costS (d.take k)) ∧ wr = w) (fun _ iv _ => d.length - (intOf iv).toNat)
  case atStart => exact ⟨0, by omega, rfl, rfl, rfl⟩
  case round =>
    obtain ⟨k, hk, rfl, rfl, rfl⟩ := hrel
    obtain ⟨S, hS⟩ : ∃ S, S = costS (d.take k) := ⟨_, rfl⟩
    have hS1 := HB.out k
    rw [← hS] at hS1 ⊢
    by_cases hlt : k < d.length
    · obtain ⟨x, hdr, hm, ix, b, off, hod, _, c0⟩ := hd.int_at hlt
      have hx := hb.out x (by rw [← List.take_append_drop k d, hdr]; simp)
      have HS3 : Hid (costS (d.take (k + 1)) = S + magI x) := by show _ = _; rw [hS]; exact costS_take hdr
      have hmx : 0 ≤ magI x ∧ magI x ≤ 1000000000000 := by unfold magI; omega
      subst hod
      clear hdr
      go_wp2_with fail
      refine (magnitude_any x hx _).mono ?_
      rintro e w2 ⟨rfl, rfl⟩
      obtain ⟨M, hM⟩ : ∃ M, M = magI x := ⟨_, rfl⟩
      rw [← hM] at HS3 hmx ⊢
      clear hM
      go_wp2_with fail
      go_roundw
      case rel => exact ⟨k + 1, by omega, by go_num, by rw [HS3.out]; go_num, by first | rfl | trivial⟩
      case measure => simp [intOf]; omega
    · have hke : k = d.length := by omega
      have HS3 : Hid (S = costS d) := by show _ = _; rw [hS, hke, List.take_length]
      clear hke hS
      go_wp2_with fail
      go_ret
      exact ⟨by rw [HS3.out]; rfl, rfl⟩
theorem rcost_any (d : List Int) (od : Option Addr) (cd : Nat) (F : Foot) (w : World) (hd : SliceR intR 1 F w od d) (hc : d.length ≤ cd) (hc2 : d.length ≤ 1000) (hb : Hid (∀ k ∈ d, -1000000000000 ≤ k ∧ k ≤ 1000000000000)) :
    Calls Tryz.prog 40 #[.slice od d.length cd] w fun e w' => e = .returned (.int .i64 (costS d)) ∧ Below w.heap.size w w' := by
  have HB : Hid (∀ k, 0 ≤ costS (d.take k) ∧ costS (d.take k) ≤ 1000000000000000) := fun k => by
    have h1 := costS_le (c := 1000000000000) (by omega) (d.take k) fun x hx => hb.out x (List.mem_of_mem_take hx)
    have h2 : (d.take k).length ≤ 1000 := by rw [List.length_take]; omega
    omega
  have HD := hide hd
  clear hd
  go_enter Tryz.func40, Tryz.ntmps40
  go_wp2_with fail
  go_loopw [3, 4] (fun sv iv wr => ∃ k : Nat, k ≤ d.length ∧ iv = .int .i64 k ∧ sv = .int .i64 (costS (d.take k)) ∧ Hid (Below w.heap.size w wr)) (fun _ iv _ => d.length - (intOf iv).toNat)
  case atStart => exact ⟨0, by omega, rfl, rfl, Below.refl _ _⟩
  case round =>
    obtain ⟨k, hk, rfl, rfl, HW⟩ := hrel
    obtain ⟨S, hS⟩ : ∃ S, S = costS (d.take k) := ⟨_, rfl⟩
    have hS1 := HB.out k
    rw [← hS] at hS1 ⊢
    by_cases hlt : k < d.length
    · obtain ⟨x, hdr, hm, ix, b, off, hod, _, c0⟩ := (HD.out.below intR_ok HW.out).int_at hlt
      have hx := hb.out x (by rw [← List.take_append_drop k d, hdr]; simp)
      have HS2 : Hid (costS (d.take (k + 1)) = S + magI x) := by show _ = _; rw [hS]; exact costS_take hdr
      subst hod
      clear hdr hS
      by_cases h1 : x ≤ 0
      · have HS3 : Hid (costS (d.take (k + 1)) = S - x) := by show _ = _; rw [HS2.out]; unfold magI; omega
        go_wp2_with fail
        go_quiet (fail)
        go_wp2_with fail
        all_goals (try omega)
        all_goals
          go_roundw
          case rel => exact ⟨k + 1, by omega, by go_num, by rw [HS3.out] <;> go_num, below_drewN HW.out _⟩
          case measure => simp [intOf]; omega
      · have HS3 : Hid (costS (d.take (k + 1)) = S + x) := by show _ = _; rw [HS2.out]; unfold magI; omega
        go_wp2_with fail
        go_quiet (fail)
        go_wp2_with fail
        all_goals (try omega)
        all_goals
          go_roundw
          case rel => exact ⟨k + 1, by omega, by go_num, by rw [HS3.out] <;> go_num, below_drewN HW.out _⟩
          case measure => simp [intOf]; omega
    · have hke : k = d.length := by omega
      have HS3 : Hid (S = costS d) := by show _ = _; rw [hS, hke, List.take_length]
      clear hke hS
      go_wp2_with fail
      go_ret
      exact ⟨by rw [HS3.out]; rfl, HW.out⟩
/-- How many moves are necessary at least. -/
def boundB (o most : Int) : Int := if most = 0 then 0 else (o + most - 1) / most
theorem bound_any (d : List Int) (od : Option Addr) (cd : Nat) (F : Foot) (w : World) (hd : SliceR intR 1 F w od d) (hc : d.length ≤ cd) (hc2 : d.length ≤ 1000) (hb : Hid (∀ k ∈ d, -1000000000000 ≤ k ∧ k ≤ 1000000000000)) (m : Int) (hm : 0 ≤ m ∧ m ≤ 1000000) :
    Calls Tryz.prog 65 #[.slice od d.length cd, .int .i64 m] w fun e w' => e = .returned (.int .i64 (boundB (owedL d) m)) ∧ w = w' := by
  have HB : Hid (0 ≤ owedL d ∧ owedL d ≤ 1000000000000000) := by
    refine ⟨owedL_nn _, ?_⟩
    have h1 := owedL_le (c := 1000000000000) (by omega) d hb.out
    omega
  go_enter Tryz.func65, Tryz.ntmps65
  by_cases h0 : m = 0
  · subst h0
    go_wp2_with fail
    go_ret
    exact ⟨rfl, rfl⟩
  · have q0 : (m == 0) = false := by simpa using h0
    have HC := hide (owed_any d od cd F w hd hc hc2 hb)
    have HQ : Hid (boundB (owedL d) m = (owedL d + m - 1) / m) := by show _ = _; unfold boundB; rw [if_neg h0]
    go_wp2_with fail
    refine HC.out.mono ?_
    rintro e w2 ⟨rfl, rfl⟩
    have hB := HB.out
    obtain ⟨o, ho⟩ : ∃ o, o = owedL d := ⟨_, rfl⟩
    rw [← ho] at hB HQ ⊢
    have HO := hide ho
    clear ho HB HC
    go_wp2_with fail
    go_ret
    refine ⟨?_, rfl⟩
    rw [← HO.out, HQ.out]
    rfl
end Go.Proofs.YtpgopmmobbemcaaGreat

set_option linter.unusedVariables false
set_option linter.unusedSimpArgs false
namespace Go.Proofs.YtpgopmmobbemcaaGreat
open Go.RowKit

structure Mv where
  v : Int
  b : Bool
  deriving DecidableEq
def dmvR : Rep Mv := fun _ _ cs x => cs = [.int .i64 x.v, .bool x.b] ∧ I64 x.v
theorem dmvR_ok : RepOk dmvR 2 where
  len := by rintro F w cs x ⟨rfl, _⟩; rfl
  one := by rintro F w cs x ⟨rfl, _⟩ u hu; simp at hu; rcases hu with rfl | rfl <;> rfl
  keep := by rintro F w w' cs x h _; exact h
  wide := by rintro F F' w cs x h _; exact h
theorem SliceR.dmv_at {F : Foot} {w : World} {oa : Option Addr} {xs : List Mv} (h : SliceR dmvR 2 F w oa xs) {i : Nat} (hi : i < xs.length) :
    ∃ t l, xs.drop i = ⟨t, l⟩ :: xs.drop (i + 1) ∧ xs[i]? = some ⟨t, l⟩ ∧ I64 t ∧ ∃ b off, oa = some ⟨b, off, none⟩ ∧ F b ∧ w.cell? ⟨b, off + i * 2, none⟩ = some (.int .i64 t) ∧ w.cell? ⟨b, off + i * 2 + 1, none⟩ = some (.bool l) := by
  obtain ⟨⟨t, l⟩, h1, h2, b, off, cs, h3, h4, ⟨rfl, h5⟩, h6⟩ := h.at hi
  exact ⟨t, l, h1, h2, h5, b, off, h3, h4, by simpa using h6 0 _ rfl, by simpa using h6 1 _ rfl⟩
/-- The moves of a script whose first vertex is i. -/
def mvFrom : Nat → List Int → List Mv
  | _, [] => []
  | i, k :: r => List.replicate (magI k).toNat ⟨i, decide (k < 0)⟩ ++ mvFrom (i + 1) r
theorem mvFrom_app : ∀ (l m : List Int) (i : Nat), mvFrom i (l ++ m) = mvFrom i l ++ mvFrom (i + l.length) m
  | [], m, i => by simp [mvFrom]
  | k :: r, m, i => by
    rw [List.cons_append, mvFrom, mvFrom_app r m (i + 1), mvFrom, List.append_assoc, List.length_cons]
    rw [show i + 1 + r.length = i + (r.length + 1) by omega]
theorem mvFrom_len : ∀ (s : List Int) (i : Nat), ((mvFrom i s).length : Int) = costS s
  | [], _ => rfl
  | k :: r, i => by
    have h1 := mvFrom_len r (i + 1)
    have h2 : 0 ≤ magI k := by unfold magI; omega
    rw [mvFrom, List.length_append, List.length_replicate]
    show _ = magI k + costS r
    push_cast
    omega
theorem mvFrom_take {s : List Int} {k : Nat} {x : Int} (h : s[k]? = some x) : mvFrom 0 (s.take (k + 1)) = mvFrom 0 (s.take k) ++ List.replicate (magI x).toNat ⟨k, decide (x < 0)⟩ := by
  have hk : k < s.length := (List.getElem?_eq_some_iff.1 h).1
  rw [List.take_add_one, h, mvFrom_app]
  simp only [Option.toList_some, List.length_take, mvFrom, List.append_nil]
  congr 3
  omega
/-- What each vertex does in some moves. -/
def sumM : List Mv → Nat → Int
  | [], _ => 0
  | x :: r, u => (if x.v = (u : Int) then (if x.b = true then -1 else 1) else 0) + sumM r u
theorem sumM_app : ∀ (l m : List Mv) (u : Nat), sumM (l ++ m) u = sumM l u + sumM m u
  | [], m, u => by simp [sumM]
  | x :: r, m, u => by
    rw [List.cons_append, sumM, sumM_app r m u, sumM]
    omega
theorem sumM_bnd : ∀ (l : List Mv) (u : Nat), -(l.length : Int) ≤ sumM l u ∧ sumM l u ≤ l.length
  | [], u => by simp [sumM]
  | x :: r, u => by
    have := sumM_bnd r u
    rw [sumM, List.length_cons]
    push_cast
    split
    · split <;> omega
    · omega
theorem sumM_take {l : List Mv} {k : Nat} {x : Mv} (h : l[k]? = some x) (u : Nat) : sumM (l.take (k + 1)) u = sumM (l.take k) u + (if x.v = (u : Int) then (if x.b = true then -1 else 1) else 0) := by
  rw [List.take_add_one, h, sumM_app]
  simp [sumM]
end Go.Proofs.YtpgopmmobbemcaaGreat

set_option linter.unusedVariables false
namespace Go.Proofs.YtpgopmmobbemcaaGreat
open Go.RowKit Go.ChangeShapes Go.WideShapes Go.ChangeAt Go.Deep

section
variable {H : Type} {enc : TypeId × Value → H} {P : Program} {w : World} {base : Nat} {spare : Nat → Bool} {held : Bool}
theorem part3d {f0 f1 f2 : Field} {t : TypeId} {fuel : Nat} {cs : List Value} {x : DataW H × List MemPlace} (hs : P.underlying t = some (.struct #[f0, f1, f2])) (o0 : f0.offset = 0) (o1 : f1.offset = 1) (o2 : f2.offset = 2) (k0 : P.cellsOf f0.type = 1) (k1 : P.cellsOf f1.type = 1) (k2 : P.cellsOf f2.type = 1) (kt : P.cellsOf t = 3)
    (h : DataW.trod enc P w base spare held fuel t cs = some x) : ∃ c0 c1 c2 n y0 y1 y2, cs = [c0, c1, c2] ∧ x.1 = .agg [y0.1, y1.1, y2.1] ∧ DataW.trod enc P w base spare held n f0.type [c0] = some y0 ∧ DataW.trod enc P w base spare held n f1.type [c1] = some y1 ∧ DataW.trod enc P w base spare held n f2.type [c2] = some y2 := by
  obtain ⟨xs, n, _, hx, hcl, hxl, hg⟩ := DataW.trod_struct hs h
  rw [kt] at hcl
  match cs, hcl, xs, hxl, hx with
  | [c0, c1, c2], _, [y0, y1, y2], _, hx =>
    exact ⟨c0, c1, c2, n, y0, y1, y2, rfl, by rw [hx]; rfl, by simpa [o0, k0] using hg 0 f0 rfl, by simpa [o1, k1] using hg 1 f1 rfl, by simpa [o2, k2] using hg 2 f2 rfl⟩
end
section
variable {H : Type} {enc : TypeId × Value → H} {w : World} {base : Nat} {spare : Nat → Bool} {held : Bool}
theorem reads_mv : ReadsAs enc Tryz.prog w base spare held 81 dmvR := by
  intro fuel cs x h
  obtain ⟨c0, c1, n, y0, y1, rfl, h0, h1⟩ := part2 Tryz.underlying81 rfl rfl (by kernel_rfl) (by kernel_rfl) (by kernel_rfl) h
  obtain ⟨a, h2, h3⟩ := reads_int _ _ _ h0
  obtain ⟨b, hb, _⟩ := DataW.trod_bool Tryz.underlying4 h1
  simp at h2 hb
  subst h2 hb
  exact ⟨⟨a, b⟩, rfl, h3⟩
theorem reads_mvs : ReadsAs enc Tryz.prog w base spare held 61 (slcR dmvR 2) := ReadsAs.slice dmvR_ok (by omega) Tryz.underlying61 (by kernel_rfl) reads_mv
set_option maxRecDepth 100000 in
theorem open_tab43 {r : Reach} {b0 : Nat} {v : Value} {d : DataW H} {p : List MemPlace} (hv : Value.okWide Tryz.prog w r b0 63 v) (h : DataW.Trod enc Tryz.prog w base spare held 63 v d p) :
    ∃ dd od cd s os cs l ol cl d0 d1 d2, v = .agg #[.slice od (List.length dd) cd, .slice os (List.length s) cs, .slice ol (List.length l) cl] ∧ dd.length ≤ cd ∧ dd.length ≤ 9223372036854775807 ∧ SliceR intR 1 All w od dd ∧ s.length ≤ cs ∧ s.length ≤ 9223372036854775807 ∧ SliceR intR 1 All w os s ∧
      l.length ≤ cl ∧ l.length ≤ 9223372036854775807 ∧ SliceR dmvR 2 All w ol l ∧ d = .agg [d0, d1, d2] ∧ (l.length = 0 ∨ ∃ e sp, d2 = .slice e sp ∧ e.length = l.length) := by
  obtain ⟨l0, fuel, rfl, hf⟩ := agg_cells Tryz.underlying63 hv h
  obtain ⟨c0, c1, c2, n, y0, y1, y2, rfl, hx, h0, h1, h2⟩ := part3d Tryz.underlying63 rfl rfl rfl (by kernel_rfl) (by kernel_rfl) (by kernel_rfl) (by kernel_rfl) hf
  obtain ⟨dd, od, cd, hdd, q1, q2, q3⟩ := reads_div5 _ _ _ h0
  obtain ⟨s, os, cs, hss, q4, q5, q6⟩ := reads_scr _ _ _ h1
  obtain ⟨l, ol, cl, hll, q7, q8, q9⟩ := reads_mvs _ _ _ h2
  simp at hdd hss hll
  subst hdd hss hll
  refine ⟨dd, od, cd, s, os, cs, l, ol, cl, y0.1, y1.1, y2.1, rfl, q1, q2, q3, q4, q5, q6, q7, q8, q9, hx, ?_⟩
  rcases DataW.trod_slice Tryz.underlying61 h2 with ⟨hc, _⟩ | ⟨a, len, cap, elems, rest, n2, _, hc, hx2, _, _, _, hel, _⟩
  · left
    simp at hc
    exact List.length_eq_zero_iff.2 hc.2.1
  · right
    simp at hc
    refine ⟨elems.map (·.1), rest.map (·.1), by rw [hx2], ?_⟩
    rw [List.length_map, hel]
    exact hc.2.1.symm
theorem tab_few {d0 d1 d2 : DataW H} {dg : DataW H} {l : List Mv} {n : Nat} (hl : l.length = n) (hd : l.length = 0 ∨ ∃ e sp, d2 = DataW.slice e sp ∧ e.length = l.length)
    (h : (DataW.weightsEach Tryz.prog [24, 63] [dg, .agg [d0, d1, d2]]).all (· ≤ reachBytes) = true) : n ≤ 8796093022207 := by
  rcases hd with h0 | ⟨e, sp, rfl, he⟩
  · omega
  · have hu := Tryz.underlying63
    have hm : (e.length + sp.length) * Tryz.prog.bytesOf 81 ∈ DataW.weightsEach Tryz.prog [24, 63] [dg, .agg [d0, d1, .slice e sp]] := by
      simp [DataW.weightsEach, DataW.weights, hu, Tryz.underlying61]
    have h2 := List.all_eq_true.1 h _ hm
    have hb : Tryz.prog.bytesOf 81 = 16 := by kernel_rfl
    rw [hb] at h2
    have h3 : (e.length + sp.length) * 16 ≤ reachBytes := of_decide_eq_true h2
    have h4 : reachBytes = 140737488351232 := by decide
    rw [h4] at h3
    omega
end
end Go.Proofs.YtpgopmmobbemcaaGreat

set_option linter.unusedVariables false
set_option linter.unusedSimpArgs false
set_option linter.unnecessarySimpa false
namespace Go.Proofs.YtpgopmmobbemcaaGreat
open Go.RowKit

/-- A line: the letters queued, how many were removed, when the first was sent last (0: never), how many were accepted. -/
structure Ln where
  q : List Int
  rm : Nat
  sn : Nat
  ac : Nat
/-- A packet on a line: a letter with its number, or an acknowledgement. -/
inductive Pk where
  | lett (l num : Nat) (kind : Int)
  | ack (l num : Nat)
/-- All that goes on. -/
structure Wr where
  st : List Int
  wt : List (List Int)
  ct : List (List Int)
  ls : List Ln
  fl : List (Pk × Nat)
  tk : Nat
  se : Nat
  lg : Bool
def Ln.none : Ln := ⟨[], 0, 0, 0⟩
def fateS (fates : List Int) (se : Nat) : Int := fates.getD se 0
def delayS (f : Int) : List Nat := if f = 0 then [1] else if f = 2 then [1, 2] else if f = 3 then [6] else []
def sendS (fates : List Int) (p : Pk) (w : Wr) : Wr := { w with se := w.se + 1, fl := w.fl ++ (delayS (fateS fates w.se)).map fun n => (p, w.tk + n) }
def bump (wt : List (List Int)) (p k : Nat) (x : Int) : List (List Int) := wt.set p ((wt.getD p []).set k ((wt.getD p []).getD k 0 + x))
def waitS (p k : Nat) (w : Wr) : Wr := { w with wt := bump w.wt p k 1, lg := w.lg || decide (1048576 < (w.wt.getD p []).getD k 0 + 1) }
def dropL : List Int → Nat → Nat → Nat → List Int × Nat × Nat
  | [], rm, sn, _ => ([], rm, sn)
  | x :: r, rm, sn, num => if rm < num then dropL r (rm + 1) 0 num else (x :: r, rm, sn)
def Ln.drop (l : Ln) (num : Nat) : Ln := ⟨(dropL l.q l.rm l.sn num).1, (dropL l.q l.rm l.sn num).2.1, (dropL l.q l.rm l.sn num).2.2, l.ac⟩
/-- N processors; line p * N + q leads from p to q. -/
def handleS (N : Nat) (fates : List Int) (p : Pk) (w : Wr) : Wr :=
  match p with
  | .lett l num kind =>
    if num = (w.ls.getD l Ln.none).ac + 1 then
      sendS fates (.ack l ((w.ls.getD l Ln.none).ac + 1)) (waitS (l % N) kind.toNat { w with ls := w.ls.set l { w.ls.getD l Ln.none with ac := (w.ls.getD l Ln.none).ac + 1 } })
    else sendS fates (.ack l (w.ls.getD l Ln.none).ac) w
  | .ack l num => { w with ls := w.ls.set l ((w.ls.getD l Ln.none).drop num) }
def arriveS (N : Nat) (fates : List Int) (w : Wr) : Wr :=
  (w.fl.filter fun a => a.2 == w.tk).foldl (fun w a => handleS N fates a.1 w) { w with fl := w.fl.filter fun a => !(a.2 == w.tk) }
/-- The least letter that waits. -/
def leastS (row : List Int) : Option Nat := row.findIdx? fun n => decide (0 < n)
/-- What a processor sends. -/
def putS (N p : Nat) (x : Int × Int) (w : Wr) : Wr :=
  if x.1 = (p : Int) then waitS p x.2.toNat w
  else { w with ls := w.ls.set (p * N + x.1.toNat) { w.ls.getD (p * N + x.1.toNat) Ln.none with q := (w.ls.getD (p * N + x.1.toNat) Ln.none).q ++ [x.2] } }
/-- next and sent: the rules (processor, state, letter). -/
def readS (N : Nat) (next : Nat → Int → Nat → Int) (sent : Nat → Int → Nat → List (Int × Int)) (p : Nat) (w : Wr) : Wr :=
  match leastS (w.wt.getD p []) with
  | none => w
  | some k => (sent p (w.st.getD p 0) k).foldl (fun w x => putS N p x w) { w with wt := bump w.wt p k (-1), ct := bump w.ct p k 1, st := w.st.set p (next p (w.st.getD p 0) k) }
def lineS (fates : List Int) (j : Nat) (w : Wr) : Wr :=
  match (w.ls.getD j Ln.none).q with
  | [] => w
  | a :: _ =>
    if (w.ls.getD j Ln.none).sn = 0 ∨ (w.ls.getD j Ln.none).sn + 4 ≤ w.tk then
      { sendS fates (.lett j ((w.ls.getD j Ln.none).rm + 1) a) w with ls := w.ls.set j { w.ls.getD j Ln.none with sn := w.tk } }
    else w
def tickS (N : Nat) (next : Nat → Int → Nat → Int) (sent : Nat → Int → Nat → List (Int × Int)) (fates : List Int) (w : Wr) : Wr :=
  (List.range (N * N)).foldl (fun w j => lineS fates j w) ((List.range N).foldl (fun w p => readS N next sent p w) (arriveS N fates { w with tk := w.tk + 1 }))
/-- Something waits, flies or is queued. -/
def busyS (w : Wr) : Bool := (!w.fl.isEmpty) || w.ls.any (fun l => !l.q.isEmpty) || w.wt.any (fun row => row.any fun n => n != 0)
def beginS (st : List Int) (wt : List (List Int)) (N : Nat) : Wr := ⟨st, wt, wt.map fun l => List.replicate l.length 0, List.replicate (N * N) Ln.none, [], 0, 0, false⟩

def ticksS (N : Nat) (next : Nat → Int → Nat → Int) (sent : Nat → Int → Nat → List (Int × Int)) (fates : List Int) (w : Wr) : Nat → Wr
  | 0 => w
  | i + 1 => tickS N next sent fates (ticksS N next sent fates w i)
end Go.Proofs.YtpgopmmobbemcaaGreat

set_option linter.unusedVariables false
set_option linter.unusedSimpArgs false
set_option linter.unnecessarySimpa false
namespace Go.Proofs.YtpgopmmobbemcaaGreat
open Go.RowKit

/-- The rows of ints of the machine: the states, the rows of what waits and of the counts, the letters of the lines. -/
inductive IR where
  | s
  | w (i : Nat)
  | c (i : Nat)
  | q (j : Nat)
/-- Where all lies: blocks, capacities, what is spare behind the rows. -/
structure WLay where
  p : Nat
  gs : Nat
  gw : Nat
  gc : Nat
  gl : Nat
  cs : Nat
  cw : Nat
  cc : Nat
  cl : Nat
  rs : List Value
  rw : List Value
  rc : List Value
  rl : List Value
  bw : Nat → Nat
  kw : Nat → Nat
  sw : Nat → List Value
  bc : Nat → Nat
  kc : Nat → Nat
  sc : Nat → List Value
  bl : Nat → Nat
  lv : Nat → Value
  fv : Value
def IR.blk (L : WLay) : IR → Option Nat
  | .s => some L.gs
  | .w i => some (L.bw i)
  | .c i => some (L.bc i)
  | .q j => (L.lv j).ownBlock
def IR.ok (N : Nat) : IR → Prop
  | .s => True
  | .w i => i < N
  | .c i => i < N
  | .q j => j < N * N
def slV (b len cap : Nat) : Value := .slice (some ⟨b, 0, none⟩) len cap
def lnC (L : WLay) (N j : Nat) (l : Ln) : List Value := [L.lv j, .int .i64 l.rm, .int .i64 l.sn, .int .i64 (j / N : Nat), .int .i64 (j % N : Nat), .int .i64 l.ac]
def mainC (L : WLay) (N : Nat) (oP : Option Addr) (cP : Nat) (oF : Option Addr) (nF cF : Nat) (S : Wr) : List Value :=
  [.slice oP N cP, slV L.gs N L.cs, slV L.gw N L.cw, slV L.gc N L.cc, slV L.gl (N * N) L.cl, .slice oF nF cF, L.fv, .int .i64 S.tk, .int .i64 S.se, .bool S.lg]

theorem ne_type {W : World} {a b : Nat} {x y : Array Value} {t u : TypeId} (ha : W.heap[a]? = some (.cells x t (0, 0))) (hb : W.heap[b]? = some (.cells y u (0, 0))) (h : t ≠ u) : a ≠ b := by
  intro e
  rw [e, hb] at ha
  injection ha with ha
  injection ha with _ h2
  exact h h2.symm
section
variable {B N : Nat} {L : WLay} {oP : Option Addr} {cP : Nat} {oF : Option Addr} {nF cF : Nat} {S : Wr} {W W' : World}

end

end Go.Proofs.YtpgopmmobbemcaaGreat

set_option linter.unusedVariables false
set_option linter.unusedSimpArgs false
set_option linter.unnecessarySimpa false
namespace Go.Proofs.YtpgopmmobbemcaaGreat
open Go.RowKit

/-- The machine's own blocks. -/
def Mine (L : WLay) (N k : Nat) : Prop :=
  k = L.p ∨ k = L.gs ∨ k = L.gw ∨ k = L.gc ∨ k = L.gl ∨ (∃ i, i < N ∧ k = L.bw i) ∨ (∃ i, i < N ∧ k = L.bc i) ∨ (∃ j, j < N * N ∧ k = L.bl j) ∨ (∃ j, j < N * N ∧ (L.lv j).ownBlock = some k) ∨ L.fv.ownBlock = some k
/-- A call has changed the machine's own blocks alone; it may have laid new ones. -/
structure Went (N : Nat) (L : WLay) (W : World) (L' : WLay) (W' : World) : Prop where
  os : W'.os = W.os
  tape : W'.tape = W.tape
  output : W'.output = W.output
  size : W.heap.size ≤ W'.heap.size
  block : ∀ k, k < W.heap.size → ¬ Mine L N k → W'.heap[k]? = W.heap[k]?
  mine : ∀ k, k < W.heap.size → Mine L' N k → Mine L N k
  fix : ∃ lv fv, L' = { L with lv := lv, fv := fv }
theorem Went.p {N : Nat} {L L' : WLay} {W W' : World} (h : Went N L W L' W') : L'.p = L.p := by obtain ⟨a, b, e⟩ := h.fix; rw [e]
theorem Went.bl {N : Nat} {L L' : WLay} {W W' : World} (h : Went N L W L' W') : L'.bl = L.bl := by obtain ⟨a, b, e⟩ := h.fix; rw [e]
theorem Went.gl {N : Nat} {L L' : WLay} {W W' : World} (h : Went N L W L' W') : L'.gl = L.gl := by obtain ⟨a, b, e⟩ := h.fix; rw [e]
theorem Went.refl (N : Nat) (L : WLay) (W : World) : Went N L W L W := ⟨rfl, rfl, rfl, Nat.le_refl _, fun _ _ _ => rfl, fun _ _ h => h, ⟨_, _, rfl⟩⟩
theorem Went.trans {N : Nat} {L L1 L2 : WLay} {W W1 W2 : World} (h : Went N L W L1 W1) (g : Went N L1 W1 L2 W2) : Went N L W L2 W2 :=
  ⟨g.os.trans h.os, g.tape.trans h.tape, g.output.trans h.output, Nat.le_trans h.size g.size,
   fun k hk hm => (g.block k (Nat.lt_of_lt_of_le hk h.size) fun hm1 => hm (h.mine k hk hm1)).trans (h.block k hk hm),
   fun k hk hm => h.mine k hk (g.mine k (Nat.lt_of_lt_of_le hk h.size) hm), by obtain ⟨a, b, e⟩ := h.fix; obtain ⟨c, d, e2⟩ := g.fix; exact ⟨c, d, by rw [e2, e]⟩⟩
theorem Went.put {N : Nat} {L : WLay} {W : World} {b i : Nat} {v : Value} (hb : Mine L N b) : Went N L W L (W.setCell ⟨b, i, none⟩ v) :=
  ⟨rfl, rfl, rfl, by show W.heap.size ≤ (W.heap.modify _ _).size; rw [Array.size_modify]; exact Nat.le_refl _,
   fun k _ hm => Below.heap_setCell W ⟨b, i, none⟩ v k fun e => hm (by rw [show k = b from e]; exact hb), fun _ _ h => h, ⟨_, _, rfl⟩⟩
theorem Went.drew {N : Nat} {L : WLay} {W : World} (n : Nat) : Went N L W L (W.drewN n) := ⟨rfl, rfl, rfl, Nat.le_refl _, fun _ _ _ => rfl, fun _ _ h => h, ⟨_, _, rfl⟩⟩
theorem Went.new {N : Nat} {L : WLay} {W : World} (o : Obj) : Went N L W L (W.alloc o) :=
  ⟨rfl, rfl, rfl, by simp, fun k hk _ => Below.heap_alloc W o k hk, fun _ _ h => h, ⟨_, _, rfl⟩⟩

section
variable {B N : Nat} {L : WLay} {oP : Option Addr} {cP : Nat} {oF : Option Addr} {nF cF : Nat} {S : Wr} {W W' : World}
end

end Go.Proofs.YtpgopmmobbemcaaGreat

set_option linter.unusedVariables false
set_option linter.unusedSimpArgs false
set_option linter.unnecessarySimpa false
namespace Go.Proofs.YtpgopmmobbemcaaGreat
open Go.RowKit

structure Rw where
  g : Nat
  c : Nat
  l : List Int
  rest : List Value
def Rw.val (r : Rw) : Value := slV r.g r.l.length r.c
def ptV (b : Nat) : Value := .pointer (some ⟨b, 0, none⟩)
def valR : Rep Value := fun _ _ cs x => cs = [x] ∧ x.oneCell' = true
theorem valR_ok : RepOk valR 1 where
  len := by rintro F w cs x ⟨rfl, _⟩; rfl
  one := by rintro F w cs x ⟨rfl, h⟩ u hu; simp at hu; subst hu; exact h
  keep := by rintro F w w' cs x h _; exact h
  wide := by rintro F F' w cs x h _; exact h
theorem own_heap {α : Type} {R : Rep α} {sz B : Nat} {e : TypeId} {F : Foot} {W : World} {v : Value} {xs : List α} (h : OwnS R sz B e F W v xs) {g : Nat} (hg : v.ownBlock = some g) : ∃ cur, W.heap[g]? = some (.cells cur e (0, 0)) := by
  obtain ⟨cells, ho, _⟩ := h
  rcases ho.2 with ⟨rfl, _⟩ | ⟨g', cap, cur, rfl, _, h4, _⟩
  · simp [Value.ownBlock] at hg
  · simp [Value.ownBlock] at hg; subst hg; exact ⟨cur, h4⟩
theorem OwnS.vrow {base : Nat} {e : TypeId} {F : Foot} {w : World} {v : Value} {xs : List Value} (h : OwnS valR 1 base e F w v xs) (hne : xs ≠ []) :
    ∃ g cap rest, v = .slice (some ⟨g, 0, none⟩) xs.length cap ∧ base ≤ g ∧ xs.length ≤ cap ∧ Row1 id w g e xs rest := by
  obtain ⟨cells, ho, h1, hc⟩ := h
  have hcells : cells = xs := by
    have hl := ho.1
    apply List.ext_getElem?
    intro i
    rcases Nat.lt_or_ge i xs.length with hi | hi
    · have h2 := (hc i _ (List.getElem?_eq_getElem hi)).1
      rw [List.getElem?_eq_getElem hi]
      have h3 := congrArg (fun l => l[0]?) h2
      simp only [chunk, Nat.mul_one] at h3
      rw [List.getElem?_take_of_lt (by omega), List.getElem?_drop] at h3
      simpa using h3
    · rw [List.getElem?_eq_none (by omega), List.getElem?_eq_none (by omega)]
  rcases ho.2 with ⟨_, hn⟩ | ⟨g, cap, cur, rfl, hg, hh, hle, hcm, hcs, htake⟩
  · exact absurd (List.eq_nil_of_length_eq_zero hn) hne
  · refine ⟨g, cap, cur.toList.drop xs.length, rfl, hg, hle, Row1.of cur.toList hh ?_⟩
    rw [← hcells, Nat.mul_one] at *
    simp
    rw [htake]
theorem snoc_get {α : Type} {l : List α} {x y : α} {i : Nat} (h : (l ++ [x])[i]? = some y) : (i = l.length ∧ y = x) ∨ l[i]? = some y := by
  rcases Nat.lt_or_ge i l.length with hi | hi
  · rw [List.getElem?_append_left hi] at h
    exact .inr h
  · rw [List.getElem?_append_right hi] at h
    have : i - l.length = 0 := by
      have := (List.getElem?_eq_some_iff.1 h).1
      simp at this
      omega
    rw [this] at h
    simp at h
    exact .inl ⟨by omega, h.symm⟩

section
variable {B n p : Nat} {oP : Option Addr} {cP : Nat} {oF : Option Addr} {nF cF : Nat} {gs cs : Nat} {st : List Int} {rs : List Value} {tw tc tl : Value} {rw_ rc : List Rw} {rl : List Nat} {W W' : World}
theorem OwnS.ext {R : Rep Value} {sz B : Nat} {e : TypeId} {w w' : World} {v : Value} {xs : List Value} (ok : RepOk R sz) (h : OwnS R sz B e Non w v xs) (hk : ∀ g, v.ownBlock = some g → w'.heap[g]? = w.heap[g]?) : OwnS R sz B e Non w' v xs := h.keep ok hk (fun _ hk _ => hk.elim)
/-- Capacities are as great as lengths. -/
structure Caps (N : Nat) (wt ct : List (List Int)) (L : WLay) : Prop where
  cs : N ≤ L.cs
  cw : N ≤ L.cw
  cc : N ≤ L.cc
  kw : ∀ (i : Nat) (l : List Int), wt[i]? = some l → l.length ≤ L.kw i
  kc : ∀ (i : Nat) (l : List Int), ct[i]? = some l → l.length ≤ L.kc i

end

end Go.Proofs.YtpgopmmobbemcaaGreat

set_option linter.unusedVariables false
set_option linter.unusedSimpArgs false
namespace Go.Proofs.YtpgopmmobbemcaaGreat
open Go.RowKit

structure RTab (B : Nat) (tw : Value) (rs : List Rw) (W : World) : Prop where
  tab : OwnS valR 1 B 25 Non W tw (rs.map Rw.val)
  row : ∀ r ∈ rs, Row1 (Value.int .i64) W r.g 3 r.l r.rest ∧ B ≤ r.g ∧ r.l.length ≤ r.c
  inj : ∀ (i j : Nat) (r r' : Rw), rs[i]? = some r → rs[j]? = some r' → r.g = r'.g → i = j
def tabL (rs : List Rw) : List (List Int) := rs.map (·.l)
/-- The row with number i holds l instead. -/
def rwSet (rs : List Rw) (i : Nat) (l : List Int) : List Rw := rs.modify i fun r => { r with l := l }

section
variable {B : Nat} {tw : Value} {rs : List Rw} {W W' : World}
theorem RTab.nil (B : Nat) (W : World) : RTab B (.slice none 0 0) [] W := ⟨OwnS.nil _ _ _ _ _ _, (fun r hr => by simp at hr), (fun i j r r' h => by simp at h)⟩
theorem RTab.keep (h : RTab B tw rs W) (h1 : ∀ g, tw.ownBlock = some g → W'.heap[g]? = W.heap[g]?) (h2 : ∀ r ∈ rs, W'.heap[r.g]? = W.heap[r.g]?) : RTab B tw rs W' :=
  ⟨OwnS.ext valR_ok h.tab h1, fun r hr => ⟨(h.row r hr).1.keep (h2 r hr), (h.row r hr).2⟩, h.inj⟩
theorem RTab.above (h : RTab B tw rs W) (hk : ∀ k, k < W.heap.size → B ≤ k → W'.heap[k]? = W.heap[k]?) : RTab B tw rs W' :=
  h.keep (fun g hg => hk g (h.tab.block g hg).2 (h.tab.block g hg).1) fun r hr => hk r.g (h.row r hr).1.lt (h.row r hr).2.1
theorem RTab.below (h : RTab B tw rs W) (hb : Below W.heap.size W W') : RTab B tw rs W' := h.above fun k hk _ => hb.block k hk
theorem RTab.draw (h : RTab B tw rs W) : RTab B tw rs W.drew := h.above fun _ _ _ => rfl
theorem RTab.push (h : RTab B tw rs W) {tw' : Value} {r : Rw} (hown : OwnS valR 1 B 25 Non W' tw' (rs.map Rw.val ++ [r.val])) (hk : ∀ k, k < W.heap.size → some k ≠ tw.ownBlock → W'.heap[k]? = W.heap[k]?)
    (hrow : Row1 (Value.int .i64) W' r.g 3 r.l r.rest) (hrg : W.heap.size ≤ r.g) (hB : B ≤ W.heap.size) (hlen : r.l.length ≤ r.c) : RTab B tw' (rs ++ [r]) W' where
  tab := by rw [List.map_append]; exact hown
  row := fun r' hr' => by
    rcases List.mem_append.1 hr' with hr' | hr'
    · have h1 := (h.row r' hr').1
      refine ⟨h1.keep (hk _ h1.lt fun e => ?_), (h.row r' hr').2⟩
      obtain ⟨cur, hcur⟩ := own_heap h.tab e.symm
      exact ne_type h1 hcur (by decide) rfl
    · rw [List.mem_singleton] at hr'
      subst hr'
      exact ⟨hrow, by omega, hlen⟩
  inj := fun i j a b ha hb e => by
    rcases snoc_get ha with ⟨ha1, ha2⟩ | ha <;> rcases snoc_get hb with ⟨hb1, hb2⟩ | hb
    · omega
    · have := (h.row b (List.mem_of_getElem? hb)).1.lt; subst ha2; omega
    · have := (h.row a (List.mem_of_getElem? ha)).1.lt; subst hb2; omega
    · exact h.inj i j a b ha hb e
/-- The row with number i, in memory. -/
theorem RTab.get (h : RTab B tw rs W) {i : Nat} {r : Rw} (hr : rs[i]? = some r) :
    ∃ g cap, tw = .slice (some ⟨g, 0, none⟩) rs.length cap ∧ rs.length ≤ cap ∧ B ≤ g ∧ W.cell? ⟨g, i, none⟩ = some (slV r.g r.l.length r.c) ∧ Row1 (Value.int .i64) W r.g 3 r.l r.rest ∧ B ≤ r.g ∧ r.l.length ≤ r.c ∧ r.g ≠ g := by
  have hne : rs.map Rw.val ≠ [] := fun e => by
    have := (List.getElem?_eq_some_iff.1 hr).1
    have h2 := congrArg List.length e
    simp at h2
    rw [h2] at this
    simp at this
  obtain ⟨g, cap, rest, ht, hg, hc, hrow⟩ := h.tab.vrow hne
  obtain ⟨h1, h2, h3⟩ := h.row r (List.mem_of_getElem? hr)
  rw [List.length_map] at ht hc
  have hcell := hrow.cell (i := i) (x := r.val) (by simp [hr])
  exact ⟨g, cap, ht, hc, hg, hcell, h1, h2, h3, ne_type h1 hrow (by decide)⟩
theorem RTab.len (h : RTab B tw rs W) : ∃ oa cap, tw = .slice oa rs.length cap ∧ rs.length ≤ cap := by
  obtain ⟨oa, c, ht, hc, _⟩ := h.tab.slice valR_ok
  rw [List.length_map] at ht hc
  exact ⟨oa, c, ht, hc⟩
theorem rwSet_at (rs : List Rw) (i j : Nat) (l : List Int) : (rwSet rs i l)[j]? = if i = j then rs[j]?.map (fun r => { r with l := l }) else rs[j]? := by
  unfold rwSet
  rw [List.getElem?_modify]
  by_cases h : i = j
  · subst h
    simp
  · rw [if_neg h]
    simp [h]
theorem rwSet_get {rs : List Rw} {i j : Nat} {l : List Int} {r : Rw} (h : (rwSet rs i l)[j]? = some r) : (j = i ∧ ∃ r0, rs[i]? = some r0 ∧ r = { r0 with l := l }) ∨ (j ≠ i ∧ rs[j]? = some r) := by
  rw [rwSet_at] at h
  split at h
  · rename_i e
    subst e
    left
    rw [Option.map_eq_some_iff] at h
    obtain ⟨r0, h1, h2⟩ := h
    exact ⟨rfl, r0, h1, h2.symm⟩
  · right
    rename_i e
    exact ⟨fun e2 => e e2.symm, h⟩
/-- A number changes. -/
theorem RTab.put (h : RTab B tw rs W) {i k : Nat} {r : Rw} (hr : rs[i]? = some r) (hk : k < r.l.length) (x : Int) : RTab B tw (rwSet rs i (r.l.set k x)) (W.setCell ⟨r.g, k, none⟩ (.int .i64 x)) := by
  have hrow := (h.row r (List.mem_of_getElem? hr)).1
  have hval : (rwSet rs i (r.l.set k x)).map Rw.val = rs.map Rw.val := by
    apply List.ext_getElem?
    intro j
    rw [List.getElem?_map, List.getElem?_map, rwSet_at]
    by_cases hij : i = j
    · subst hij
      rw [if_pos rfl, hr]
      simp [Rw.val]
    · rw [if_neg hij]
  refine ⟨?_, fun r' hr' => ?_, fun a b ra rb ha hb e => ?_⟩
  · rw [hval]
    refine OwnS.ext valR_ok h.tab fun g hg => Below.heap_setCell _ _ _ g ?_
    obtain ⟨cur, hcur⟩ := own_heap h.tab hg
    exact fun e => ne_type hrow hcur (by decide) e.symm
  · obtain ⟨j, hj⟩ := List.mem_iff_getElem?.1 hr'
    rcases rwSet_get hj with ⟨_, r0, h0, rfl⟩ | ⟨hji, hj⟩
    · rw [hr] at h0
      injection h0 with h0
      subst h0
      refine ⟨hrow.put hk x, (h.row r (List.mem_of_getElem? hr)).2.1, ?_⟩
      simp only [List.length_set]
      exact (h.row r (List.mem_of_getElem? hr)).2.2
    · have h1 := h.row r' (List.mem_of_getElem? hj)
      exact ⟨h1.1.other (fun e => hji (h.inj j i r' r hj hr e)) _, h1.2⟩
  · have key : ∀ {a : Nat} {ra : Rw}, (rwSet rs i (r.l.set k x))[a]? = some ra → ∃ r0, rs[a]? = some r0 ∧ r0.g = ra.g := fun {a ra} ha => by
      rcases rwSet_get ha with ⟨rfl, r0, h0, rfl⟩ | ⟨_, ha⟩
      · exact ⟨r0, h0, rfl⟩
      · exact ⟨ra, ha, rfl⟩
    obtain ⟨r1, h1, e1⟩ := key ha
    obtain ⟨r2, h2, e2⟩ := key hb
    exact h.inj a b r1 r2 h1 h2 (by rw [e1, e2, e])
end

end Go.Proofs.YtpgopmmobbemcaaGreat

set_option linter.unusedVariables false
namespace Go.Proofs.YtpgopmmobbemcaaGreat
open Go.RowKit

section
variable {α : Type} {R : Rep α} {sz base : Nat} {e : TypeId} {F : Foot}
end

end Go.Proofs.YtpgopmmobbemcaaGreat

set_option linter.unusedVariables false
namespace Go.Proofs.YtpgopmmobbemcaaGreat
open Go.RowKit

def InF (P : Foot) (v : Value) : Foot := fun k => P k ∧ some k ≠ v.ownBlock
section
variable {α : Type} {R : Rep α} {sz base : Nat} {e : TypeId} {P : Foot} {w w' : World} {v v' : Value} {xs : List α}
theorem own_snoc (ok : RepOk R sz) {y : α} {cells news : List Value} (hown0 : w.ownsRow base e sz v xs.length cells) (h1 : ∀ u ∈ cells, u.oneCell' = true) (hc : ∀ i x, xs[i]? = some x → R (InF P v) w (chunk sz i cells) x) (hR : R (InF P v) w news y)
    (h2 : w'.ownsRow base e sz v' (xs.length + 1) (cells ++ news)) (h3 : w.grownBy w' v.ownBlock) (h4 : ∀ k, v'.ownBlock = some k → v.ownBlock = some k ∨ k = w.heap.size) : OwnS R sz base e (InF P v') w' v' (xs ++ [y]) := by
  have key : ∀ {cs : List Value} {x : α}, R (InF P v) w cs x → R (InF P v') w' cs x := fun {cs x} hx => by
    have a1 : R (fun k => InF P v k ∧ k < w.heap.size) w cs x := ok.wide hx fun k hk hl => ⟨hk, hl⟩
    have a2 : R (fun k => InF P v k ∧ k < w.heap.size) w' cs x := ok.keep a1 fun k hk hl => h3.block k hl hk.1.2
    refine ok.wide a2 fun k hk _ => ⟨hk.1.1, fun he => ?_⟩
    rcases h4 k he.symm with h | h
    · exact hk.1.2 h.symm
    · have := hk.2; omega
  have hnl := ok.len hR
  have hl : (xs ++ [y]).length = xs.length + 1 := by simp
  refine ⟨cells ++ news, by rw [hl]; exact h2, fun u hu => ?_, fun i q hq => ?_⟩
  · rcases List.mem_append.1 hu with hu | hu
    · exact h1 u hu
    · exact ok.one hR u hu
  · have hcl : cells.length = xs.length * sz := hown0.1
    by_cases hlt : i < xs.length
    · rw [chunk_app_left hcl hlt]
      rw [List.getElem?_append_left hlt] at hq
      exact key (hc i q hq)
    · have hie : i = xs.length := by
        have := (List.getElem?_eq_some_iff.1 hq).1
        simp at this
        omega
      subst hie
      have hqy : q = y := by simpa using hq.symm
      subst hqy
      have : chunk sz xs.length (cells ++ news) = news := by
        unfold chunk
        rw [← hcl, List.drop_left, List.take_of_length_le (by omega)]
      rw [this]
      exact key hR
end

theorem wpList_append_in {α : Type} {R : Rep α} {P : Program} {w : World} {ops : Array Oper} {rest : List Oper} {o : Oper} {a : Act} {Q : Exit → Act → World → Prop} (hgd : o.guard = none) (s x : Operand) (t : TypeId)
    (ho : o.op = .call { callee := .builtin .append, args := #[s, x], argTypes := #[t, t] })
    (base : Nat) (e : TypeId) (z : Value) (size bytes : Nat) (ht : P.underlying t = some (.slice e)) (hinfo : (P.info? e).map (fun i => (i.zero, i.size, i.bytes)) = some (some z, size, bytes))
    (hzs : z.cells.size = size) (hsz : 0 < size) (ok : RepOk R size)
    (F : Foot) (v : Value) (xs : List α) (hs : a.eval s = v) (hown : OwnS R size base e (InF F v) w v xs)
    (ad : Addr) (c : Nat) (news : List Value) (y : α) (hx : a.eval x = .slice (some ad) 1 c) (hnews : ∀ j u, news[j]? = some u → w.cell? (ad.add j) = some u) (hR : R (InF F v) w news y)
    (hbytes : (xs.length + 1) * bytes ≤ 140737488355328) (hm : xs.length + 1 ≤ maxLen) (hbase : base ≤ w.heap.size)
    (hK : ∀ v' w', OwnS R size base e (InF F v') w' v' (xs ++ [y]) → Below base w w' → w.grownBy w' v.ownBlock → (∀ k, v'.ownBlock = some k → v.ownBlock = some k ∨ k = w.heap.size) → wpList P ops Q rest (a.put o.dst v') w') :
    wpList P ops Q (o :: rest) a w := by
  obtain ⟨i0, hi, hz0, hz1, hz2⟩ := info_parts hinfo
  obtain ⟨cells, hown0, h1, hc⟩ := hown
  have hnl := ok.len hR
  refine wpList_append_lies (w := w) hgd s x t ho base e i0 z size bytes ht hi hz0 hz1 hz2 hzs hsz v xs.length cells hs hown0 ad 1 c news hx (by rw [hnl, Nat.one_mul]) hnews (ok.one hR) (by omega) hm hbytes hbase w.heap.size rfl fun g cap w' h2 h3 h4 h5 => ?_
  have hb : Below base w w' := (Below.refl base w).grown h3 hbase fun k hk => (hown0.lt k hk).1
  have hat : ∀ k, (Value.slice (some ⟨g, 0, none⟩) (xs.length + 1) cap).ownBlock = some k → v.ownBlock = some k ∨ k = w.heap.size := fun k hk => by
    simp [Value.ownBlock] at hk
    subst hk
    exact h4
  exact hK _ w' (own_snoc ok hown0 h1 hc hR h2 h3 hat) hb h3 hat

end Go.Proofs.YtpgopmmobbemcaaGreat

namespace Go.Proofs.YtpgopmmobbemcaaGreat
open Go.RowKit

def ruleAt (rs : List (List Rul)) (s a : Int) : Rul := (rs.getD s.toNat []).getD a.toNat ⟨0, []⟩
def readSpec (rs : List (List Rul)) : Int → List Int → Int × List Out
  | s, [] => (s, [])
  | s, a :: r => ((readSpec rs (ruleAt rs s a).next r).1, (ruleAt rs s a).sent ++ (readSpec rs (ruleAt rs s a).next r).2)

theorem sentErr_zero {N : Int} : ∀ {l : List Out}, sentErr N l = 0 → ∀ o ∈ l, (0 ≤ o.dst ∧ o.dst < N) ∧ 0 ≤ o.letter ∧ o.letter < 8
  | [], _, o, ho => by cases ho
  | x :: r, h, o, ho => by
    unfold sentErr at h
    split at h
    · rename_i hx
      simp [belowB] at hx
      rcases List.mem_cons.1 ho with rfl | ho
      · exact ⟨hx.1, hx.2⟩
      · exact sentErr_zero h o ho
    · cases h
theorem ruleErr_zero {S N : Int} {r : Rul} (h : ruleErr S N r = 0) : (0 ≤ r.next ∧ r.next < S) ∧ r.sent.length ≤ 16 ∧ ∀ o ∈ r.sent, (0 ≤ o.dst ∧ o.dst < N) ∧ 0 ≤ o.letter ∧ o.letter < 8 := by
  unfold ruleErr at h
  split at h
  · rename_i hx
    split at h
    · simp [belowB] at hx
      exact ⟨hx, by assumption, sentErr_zero h⟩
    · cases h
  · cases h
theorem rowErr_zero {S N : Int} : ∀ {l : List Rul}, rowErr S N l = 0 → ∀ r ∈ l, ruleErr S N r = 0
  | [], _, o, ho => by cases ho
  | x :: r, h, o, ho => by
    unfold rowErr at h
    split at h
    · rcases List.mem_cons.1 ho with rfl | ho
      · assumption
      · exact rowErr_zero h o ho
    · rename_i hx; exact absurd h hx
theorem rowsErr_zero {S L N : Int} : ∀ {l : List (List Rul)}, rowsErr S L N l = 0 → ∀ r ∈ l, (r.length : Int) = L ∧ rowErr S N r = 0
  | [], _, o, ho => by cases ho
  | x :: r, h, o, ho => by
    unfold rowsErr at h
    split at h
    · split at h
      · rcases List.mem_cons.1 ho with rfl | ho
        · exact ⟨by assumption, by assumption⟩
        · exact rowsErr_zero h o ho
      · rename_i hx; exact absurd h hx
    · cases h
theorem check_zero {p : Prc} {N : Int} (h : checkErr p N = 0) : (1 ≤ N ∧ N ≤ 12) ∧ (1 ≤ p.states ∧ p.states ≤ 16) ∧ (1 ≤ p.letters ∧ p.letters ≤ 8) ∧ (p.rules.length : Int) = p.states ∧ rowsErr p.states p.letters N p.rules = 0 := by
  unfold checkErr at h
  split at h
  · cases h
  split at h
  · cases h
  split at h
  · cases h
  · exact ⟨by omega, by omega, by omega, by omega, h⟩
theorem valid_row {p : Prc} {N : Int} (h : checkErr p N = 0) {i : Nat} {row : List Rul} (hi : p.rules[i]? = some row) : (row.length : Int) = p.letters :=
  (rowsErr_zero (check_zero h).2.2.2.2 row (List.mem_of_getElem? hi)).1
theorem valid_rule {p : Prc} {N : Int} (h : checkErr p N = 0) {i j : Nat} {row : List Rul} {r : Rul} (hi : p.rules[i]? = some row) (hj : row[j]? = some r) :
    (0 ≤ r.next ∧ r.next < p.states) ∧ r.sent.length ≤ 16 ∧ ∀ o ∈ r.sent, (0 ≤ o.dst ∧ o.dst < N) ∧ 0 ≤ o.letter ∧ o.letter < 8 :=
  ruleErr_zero (rowErr_zero (rowsErr_zero (check_zero h).2.2.2.2 row (List.mem_of_getElem? hi)).2 r (List.mem_of_getElem? hj))
theorem letters_zero {L : Int} : ∀ {l : List Int}, lettersErr L l = 0 → ∀ a ∈ l, 0 ≤ a ∧ a < L
  | [], _, o, ho => by cases ho
  | x :: r, h, o, ho => by
    unfold lettersErr at h
    split at h
    · rename_i hx
      simp [belowB] at hx
      rcases List.mem_cons.1 ho with rfl | ho
      · exact hx
      · exact letters_zero h o ho
    · cases h
theorem ruleAt_eq {rs : List (List Rul)} {s a : Nat} {row : List Rul} {r : Rul} (hi : rs[s]? = some row) (hj : row[a]? = some r) : ruleAt rs (s : Int) (a : Int) = r := by
  simp [ruleAt, hi, hj]
end Go.Proofs.YtpgopmmobbemcaaGreat

set_option linter.unusedVariables false
set_option linter.unusedSimpArgs false
set_option linter.unnecessarySimpa false
namespace Go.Proofs.YtpgopmmobbemcaaGreat
open Go.RowKit

def prc0 : Prc := ⟨0, 0, []⟩
/-- All letters are read by those to which they are sent. -/
def outsOk (procs : List Prc) : List Out → Bool
  | [] => true
  | o :: r => if o.letter < (procs.getD o.dst.toNat prc0).letters then outsOk procs r else false
def rulesOk (procs : List Prc) : List Rul → Bool
  | [] => true
  | x :: r => if outsOk procs x.sent = true then rulesOk procs r else false
def rowsOk (procs : List Prc) : List (List Rul) → Bool
  | [] => true
  | x :: r => if rulesOk procs x = true then rowsOk procs r else false
def procsErr (N : Int) : List Prc → Int
  | [] => 0
  | p :: r => if checkErr p N = 0 then procsErr N r else checkErr p N
def procsOk (procs : List Prc) : List Prc → Bool
  | [] => true
  | p :: r => if rowsOk procs p.rules = true then procsOk procs r else false
def statesErr : List Int → List Prc → Int
  | s :: r, p :: l => if belowB s p.states then statesErr r l else 2
  | _, _ => 0
def shapesErr : List (List Int) → List Prc → Int
  | t :: r, p :: l => if (t.length : Int) = p.letters then shapesErr r l else 8
  | _, _ => 0
def numsErr : List Int → Int
  | [] => 0
  | k :: r => if 0 ≤ k ∧ k ≤ 1048576 then numsErr r else 2
def tableErr : List (List Int) → Int
  | [] => 0
  | l :: r => if numsErr l = 0 then tableErr r else numsErr l
def shapedErr (procs : List Prc) (t : List (List Int)) : Int := if t.length = procs.length then shapesErr t procs else 8
def waitsErr (x : Nwk) : Int := if shapedErr x.procs x.waiting = 0 then tableErr x.waiting else shapedErr x.procs x.waiting
def netErr (x : Nwk) : Int :=
  if x.procs.length < 1 ∨ 12 < x.procs.length then 2
  else if procsErr x.procs.length x.procs = 0 then
    if procsOk x.procs x.procs = true then
      if x.state.length = x.procs.length then
        if statesErr x.state x.procs = 0 then waitsErr x else statesErr x.state x.procs
      else 8
    else 6
  else procsErr x.procs.length x.procs

theorem outsOk_all {procs : List Prc} : ∀ {l : List Out}, outsOk procs l = true → ∀ o ∈ l, o.letter < (procs.getD o.dst.toNat prc0).letters
  | [], _, o, ho => by cases ho
  | x :: r, h, o, ho => by
    unfold outsOk at h
    split at h
    · rcases List.mem_cons.1 ho with rfl | ho
      · assumption
      · exact outsOk_all h o ho
    · cases h
theorem rulesOk_all {procs : List Prc} : ∀ {l : List Rul}, rulesOk procs l = true → ∀ o ∈ l, outsOk procs o.sent = true
  | [], _, o, ho => by cases ho
  | x :: r, h, o, ho => by
    unfold rulesOk at h
    split at h
    · rcases List.mem_cons.1 ho with rfl | ho
      · assumption
      · exact rulesOk_all h o ho
    · cases h
theorem rowsOk_all {procs : List Prc} : ∀ {l : List (List Rul)}, rowsOk procs l = true → ∀ o ∈ l, rulesOk procs o = true
  | [], _, o, ho => by cases ho
  | x :: r, h, o, ho => by
    unfold rowsOk at h
    split at h
    · rcases List.mem_cons.1 ho with rfl | ho
      · assumption
      · exact rowsOk_all h o ho
    · cases h
/-- What a right network holds. -/
structure Right (x : Nwk) : Prop where
  n : 1 ≤ x.procs.length ∧ x.procs.length ≤ 12
  proc : ∀ (i : Nat) (p : Prc), x.procs[i]? = some p → checkErr p x.procs.length = 0
  und : ∀ (i : Nat) (p : Prc), x.procs[i]? = some p → rowsOk x.procs p.rules = true
  nst : x.state.length = x.procs.length
  st : ∀ (i : Nat) (s : Int) (p : Prc), x.state[i]? = some s → x.procs[i]? = some p → 0 ≤ s ∧ s < p.states
  nwt : x.waiting.length = x.procs.length
  wl : ∀ (i : Nat) (t : List Int) (p : Prc), x.waiting[i]? = some t → x.procs[i]? = some p → (t.length : Int) = p.letters
  wb : ∀ t ∈ x.waiting, ∀ k ∈ t, 0 ≤ k ∧ k ≤ 1048576
end Go.Proofs.YtpgopmmobbemcaaGreat

set_option linter.unusedVariables false
namespace Go.Proofs.YtpgopmmobbemcaaGreat
open Go.RowKit

end Go.Proofs.YtpgopmmobbemcaaGreat

set_option linter.unusedVariables false
set_option linter.unusedSimpArgs false
set_option linter.unnecessarySimpa false
namespace Go.Proofs.YtpgopmmobbemcaaGreat
open Go.RowKit

end Go.Proofs.YtpgopmmobbemcaaGreat

set_option linter.unusedVariables false
set_option linter.unusedSimpArgs false
namespace Go.Proofs.YtpgopmmobbemcaaGreat
open Go.RowKit

end Go.Proofs.YtpgopmmobbemcaaGreat

set_option linter.unusedVariables false
namespace Go.Proofs.YtpgopmmobbemcaaGreat
open Go.RowKit

end Go.Proofs.YtpgopmmobbemcaaGreat

set_option linter.unusedVariables false
namespace Go.Proofs.YtpgopmmobbemcaaGreat
open Go.RowKit

end Go.Proofs.YtpgopmmobbemcaaGreat

set_option linter.unusedVariables false
set_option linter.unusedSimpArgs false
namespace Go.Proofs.YtpgopmmobbemcaaGreat
open Go.RowKit

end Go.Proofs.YtpgopmmobbemcaaGreat

namespace Go.Proofs.YtpgopmmobbemcaaGreat
open Go.RowKit

def cmpIo (x y : Int) : Int := if x < y then -1 else if y < x then 1 else 0
def cmpO (a b : Out) : Int := if cmpIo a.dst b.dst = 0 then cmpIo a.letter b.letter else cmpIo a.dst b.dst
def leO (a b : Out) : Prop := a.dst < b.dst ∨ (a.dst = b.dst ∧ a.letter ≤ b.letter)
instance (a b : Out) : Decidable (leO a b) := by unfold leO; infer_instance

def ins (x : Out) : List Out → List Out
  | [] => [x]
  | y :: r => if leO x y then x :: y :: r else y :: ins x r
def isort : List Out → List Out
  | [] => []
  | x :: r => ins x (isort r)
abbrev Srt (l : List Out) : Prop := l.Pairwise leO

theorem ins_perm (x : Out) : ∀ l, (ins x l).Perm (x :: l)
  | [] => List.Perm.refl _
  | y :: r => by
    unfold ins
    split
    · exact List.Perm.refl _
    · exact (List.Perm.cons y (ins_perm x r)).trans (List.Perm.swap x y r)
theorem isort_perm : ∀ l, (isort l).Perm l
  | [] => List.Perm.refl _
  | x :: r => (ins_perm x _).trans (List.Perm.cons x (isort_perm r))
end Go.Proofs.YtpgopmmobbemcaaGreat

set_option linter.unusedVariables false
namespace Go.Proofs.YtpgopmmobbemcaaGreat
open Go.RowKit

def keyF (n : Nat) : Value := .func (.func n) #[] #[]
end Go.Proofs.YtpgopmmobbemcaaGreat

set_option linter.unusedVariables false
namespace Go.Proofs.YtpgopmmobbemcaaGreat
open Go.RowKit

def flatO (d : List Out) : List Value := d.flatMap fun o => [.int .i64 o.dst, .int .i64 o.letter]
section
variable {w w' : World} {g : Nat} {d : List Out} {rest : List Value}
end

end Go.Proofs.YtpgopmmobbemcaaGreat

set_option linter.unusedVariables false
namespace Go.Proofs.YtpgopmmobbemcaaGreat
open Go.RowKit

end Go.Proofs.YtpgopmmobbemcaaGreat

set_option linter.unusedVariables false
namespace Go.Proofs.YtpgopmmobbemcaaGreat
open Go.RowKit


end Go.Proofs.YtpgopmmobbemcaaGreat

set_option linter.unusedVariables false
namespace Go.Proofs.YtpgopmmobbemcaaGreat
open Go.RowKit

end Go.Proofs.YtpgopmmobbemcaaGreat

namespace Go.Proofs.YtpgopmmobbemcaaGreat
open Go.RowKit

def pick (l : List Out) (t a : Nat) : List Out := l.filter fun o => decide (o.dst = t) && decide (o.letter = a)
def pickRow (l : List Out) (t : Nat) (A : Nat) : List Out := (List.range A).flatMap (pick l t)
def picks (l : List Out) (T : Nat) : List Out := (List.range T).flatMap fun t => pickRow l t 8

end Go.Proofs.YtpgopmmobbemcaaGreat

set_option linter.unusedVariables false
namespace Go.Proofs.YtpgopmmobbemcaaGreat
open Go.RowKit

end Go.Proofs.YtpgopmmobbemcaaGreat

set_option linter.unusedVariables false
namespace Go.Proofs.YtpgopmmobbemcaaGreat
open Go.RowKit

end Go.Proofs.YtpgopmmobbemcaaGreat

set_option linter.unusedVariables false
set_option linter.unusedSimpArgs false
set_option linter.unnecessarySimpa false
namespace Go.Proofs.YtpgopmmobbemcaaGreat
open Go.RowKit

end Go.Proofs.YtpgopmmobbemcaaGreat

set_option linter.unusedVariables false
namespace Go.Proofs.YtpgopmmobbemcaaGreat
open Go.RowKit

end Go.Proofs.YtpgopmmobbemcaaGreat

set_option linter.unusedVariables false
namespace Go.Proofs.YtpgopmmobbemcaaGreat
open Go.RowKit

end Go.Proofs.YtpgopmmobbemcaaGreat

set_option linter.unusedVariables false
namespace Go.Proofs.YtpgopmmobbemcaaGreat
open Go.RowKit

end Go.Proofs.YtpgopmmobbemcaaGreat

set_option linter.unusedVariables false
namespace Go.Proofs.YtpgopmmobbemcaaGreat
open Go.RowKit

def rlettersErr (L : Int) (l : List Int) : Int := if 256 < l.length then 5 else lettersErr L l

end Go.Proofs.YtpgopmmobbemcaaGreat

set_option linter.unusedVariables false
namespace Go.Proofs.YtpgopmmobbemcaaGreat
open Go.RowKit

def runRes (p : Prc) (s : Int) (word : List Int) : Int × List Out × Int :=
  if stateErr p s = 0 then (if rlettersErr p.letters word = 0 then ((readSpec p.rules s word).1, (readSpec p.rules s word).2, 0) else (0, [], rlettersErr p.letters word)) else (0, [], stateErr p s)
def stepRes (p : Prc) (s a : Int) : Int × List Out × Int :=
  if stateErr p s = 0 then (if belowB a p.letters then ((readSpec p.rules s [a]).1, (readSpec p.rules s [a]).2, 0) else (0, [], 2)) else (0, [], stateErr p s)

end Go.Proofs.YtpgopmmobbemcaaGreat

set_option linter.unusedVariables false
namespace Go.Proofs.YtpgopmmobbemcaaGreat
open Go.RowKit

end Go.Proofs.YtpgopmmobbemcaaGreat

set_option linter.unusedVariables false
namespace Go.Proofs.YtpgopmmobbemcaaGreat
open Go.RowKit

def commB (rs : List (List Rul)) (s a b : Int) : Bool :=
  decide ((readSpec rs s [a, b]).1 = (readSpec rs s [b, a]).1) && decide (isort (readSpec rs s [a, b]).2 = isort (readSpec rs s [b, a]).2)

theorem ruleAt_mem {p : Prc} {N : Int} (h : checkErr p N = 0) {s a : Int} (hs : 0 ≤ s ∧ s < p.states) (ha : 0 ≤ a ∧ a < p.letters) :
    (0 ≤ (ruleAt p.rules s a).next ∧ (ruleAt p.rules s a).next < p.states) ∧ (ruleAt p.rules s a).sent.length ≤ 16 ∧ ∀ o ∈ (ruleAt p.rules s a).sent, (0 ≤ o.dst ∧ o.dst < N) ∧ 0 ≤ o.letter ∧ o.letter < 8 := by
  obtain ⟨n, rfl⟩ := Int.eq_ofNat_of_zero_le hs.1
  obtain ⟨m, rfl⟩ := Int.eq_ofNat_of_zero_le ha.1
  have h1 := (check_zero h).2.2.2.1
  have hn : n < p.rules.length := by omega
  have hrow := List.getElem?_eq_getElem hn
  have hl := valid_row h hrow
  have hm : m < (p.rules[n]).length := by omega
  have hr := List.getElem?_eq_getElem hm
  rw [ruleAt_eq hrow hr]
  exact valid_rule h hrow hr
theorem readSpec_right {p : Prc} {N : Int} (h : checkErr p N = 0) : ∀ (word : List Int) (s : Int), 0 ≤ s ∧ s < p.states → lettersErr p.letters word = 0 →
    (0 ≤ (readSpec p.rules s word).1 ∧ (readSpec p.rules s word).1 < p.states) ∧ (readSpec p.rules s word).2.length ≤ 16 * word.length ∧ ∀ o ∈ (readSpec p.rules s word).2, (0 ≤ o.dst ∧ o.dst < N) ∧ 0 ≤ o.letter ∧ o.letter < 8
  | [], s, hs, _ => ⟨hs, by simp [readSpec], by simp [readSpec]⟩
  | a :: r, s, hs, hw => by
    have ha := letters_zero hw a (by simp)
    have hr : lettersErr p.letters r = 0 := by
      unfold lettersErr at hw
      split at hw
      · exact hw
      · cases hw
    obtain ⟨h1, h2, h3⟩ := ruleAt_mem h hs ha
    obtain ⟨h4, h5, h6⟩ := readSpec_right h r _ h1 hr
    refine ⟨h4, ?_, ?_⟩
    · simp only [readSpec, List.length_append, List.length_cons]; omega
    · intro o ho
      simp only [readSpec, List.mem_append] at ho
      rcases ho with ho | ho
      · exact h3 o ho
      · exact h6 o ho

end Go.Proofs.YtpgopmmobbemcaaGreat

set_option linter.unusedVariables false
namespace Go.Proofs.YtpgopmmobbemcaaGreat
open Go.RowKit

/-- The first state and letters that do not commute. -/
def witB (f : Nat → Nat → Nat → Bool) (s a : Nat) : Nat → Nat → Option (Nat × Nat × Nat)
  | 0, _ => none
  | n + 1, b => if f s a b then witB f s a n (b + 1) else some (s, a, b)
def witA (f : Nat → Nat → Nat → Bool) (s L : Nat) : Nat → Nat → Option (Nat × Nat × Nat)
  | 0, _ => none
  | n + 1, a => (witB f s a L 0).or (witA f s L n (a + 1))
def witS (f : Nat → Nat → Nat → Bool) (L : Nat) : Nat → Nat → Option (Nat × Nat × Nat)
  | 0, _ => none
  | n + 1, s => (witA f s L L 0).or (witS f L n (s + 1))
def witL : Option (Nat × Nat × Nat) → List Int
  | none => []
  | some (s, a, b) => [(s : Int), (a : Int), (b : Int)]
def commN (rs : List (List Rul)) (s a b : Nat) : Bool := commB rs s a b
def abelRes (p : Prc) : Bool × List Int × Int :=
  if checkErr p 12 = 0 then ((witS (commN p.rules) p.letters.toNat p.states.toNat 0).isNone, witL (witS (commN p.rules) p.letters.toNat p.states.toNat 0), 0) else (false, [], checkErr p 12)
def AbelPost (w : World) (r : Bool × List Int × Int) (e : Ending) (w' : World) : Prop :=
  ∃ v, e = .returned (.tuple #[.bool r.1, v, .int .i64 r.2.2]) ∧ OwnS intR 1 w.heap.size 3 Non w' v r.2.1 ∧ Below w.heap.size w w'
def IntsPost (w : World) (r : List Int) (e : Ending) (w' : World) : Prop :=
  ∃ v, e = .returned v ∧ OwnS intR 1 w.heap.size 3 Non w' v r ∧ Below w.heap.size w w'
end Go.Proofs.YtpgopmmobbemcaaGreat

set_option linter.unusedVariables false
set_option linter.unusedSimpArgs false
set_option linter.unnecessarySimpa false
namespace Go.Proofs.YtpgopmmobbemcaaGreat
open Go.RowKit

def Ln.tot (l : Ln) : Nat := l.rm + l.q.length
def Pk.L : Pk → Int
  | .lett _ _ _ => 1
  | .ack _ _ => 0
def Pk.W : Pk → Int
  | .lett _ _ _ => 3
  | .ack _ _ => 1
def Lc : List (Pk × Nat) → Int
  | [] => 0
  | a :: r => a.1.L + Lc r
def Wc : List (Pk × Nat) → Int
  | [] => 0
  | a :: r => a.1.W + Wc r
theorem Pk.L_nonneg (p : Pk) : 0 ≤ p.L := by cases p <;> simp [Pk.L]
theorem Pk.W_pos (p : Pk) : 1 ≤ p.W := by cases p <;> simp [Pk.W]
theorem Lc_nonneg : ∀ l, 0 ≤ Lc l
  | [] => by simp [Lc]
  | a :: r => by have := Lc_nonneg r; have := a.1.L_nonneg; simp only [Lc]; omega
theorem Lc_append : ∀ l k, Lc (l ++ k) = Lc l + Lc k
  | [], k => by simp [Lc]
  | a :: r, k => by simp only [List.cons_append, Lc, Lc_append r k]; omega
theorem Wc_append : ∀ l k, Wc (l ++ k) = Wc l + Wc k
  | [], k => by simp [Wc]
  | a :: r, k => by simp only [List.cons_append, Wc, Wc_append r k]; omega
theorem Lc_split (f : Pk × Nat → Bool) : ∀ l, Lc (l.filter f) + Lc (l.filter fun a => !f a) = Lc l
  | [] => by simp [Lc]
  | a :: r => by
    have ih := Lc_split f r
    cases h : f a <;> simp [List.filter_cons, h, Lc] at ih ⊢ <;> omega
theorem Wc_split (f : Pk × Nat → Bool) : ∀ l, Wc (l.filter f) + Wc (l.filter fun a => !f a) = Wc l
  | [] => by simp [Wc]
  | a :: r => by
    have ih := Wc_split f r
    cases h : f a <;> simp [List.filter_cons, h, Wc] at ih ⊢ <;> omega

def PkOk (N : Nat) (m : Nat → Nat) (ls : List Ln) : Pk → Prop
  | .lett l num kind => l < N * N ∧ num ≤ (ls.getD l Ln.none).tot ∧ 0 ≤ kind ∧ kind < (m (l % N) : Nat)
  | .ack l num => l < N * N ∧ num ≤ (ls.getD l Ln.none).tot

/-- m: letters of a processor, ns: its states; pend: packets that arrived and were not handled yet. -/
structure WInv (N : Nat) (m : Nat → Nat) (ns : Nat → Int) (X M K A T : Int) (pend : List (Pk × Nat)) (S : Wr) : Prop where
  nst : S.st.length = N
  nwt : S.wt.length = N
  nct : S.ct.length = N
  nls : S.ls.length = N * N
  st : ∀ (p : Nat) (s : Int), S.st[p]? = some s → 0 ≤ s ∧ s < ns p
  wl : ∀ (p : Nat) (row : List Int), S.wt[p]? = some row → row.length = m p
  cl : ∀ (p : Nat) (row : List Int), S.ct[p]? = some row → row.length = m p
  wb : ∀ (p : Nat) (row : List Int), S.wt[p]? = some row → ∀ (k : Nat) (x : Int), row[k]? = some x → 0 ≤ x ∧ x + Lc (pend ++ S.fl) ≤ M
  cb : ∀ (p : Nat) (row : List Int), S.ct[p]? = some row → ∀ (k : Nat) (x : Int), row[k]? = some x → 0 ≤ x ∧ x ≤ T
  lb : ∀ (j : Nat) (l : Ln), S.ls[j]? = some l → (l.tot : Int) ≤ T ∧ l.ac ≤ l.tot ∧ l.sn ≤ S.tk ∧ ∀ a ∈ l.q, 0 ≤ a ∧ a < (m (j % N) : Nat)
  pk : ∀ a ∈ pend ++ S.fl, PkOk N m S.ls a.1
  wgt : Wc (pend ++ S.fl) ≤ K
  seb : S.se + Lc (pend ++ S.fl) ≤ A
  lg : X ≤ 1048576 → S.lg = false
  mx : M ≤ X

structure NetOk (N σ : Nat) (m : Nat → Nat) (ns : Nat → Int) (next : Nat → Int → Nat → Int) (sent : Nat → Int → Nat → List (Int × Int)) : Prop where
  next : ∀ p s k, p < N → 0 ≤ s → s < ns p → k < m p → 0 ≤ next p s k ∧ next p s k < ns p
  few : ∀ p s k, p < N → 0 ≤ s → s < ns p → k < m p → (sent p s k).length ≤ σ
  out : ∀ p s k, p < N → 0 ≤ s → s < ns p → k < m p → ∀ x ∈ sent p s k, 0 ≤ x.1 ∧ x.1 < N ∧ 0 ≤ x.2 ∧ x.2 < (m x.1.toNat : Nat)

theorem set_get {α : Type} {l : List α} {i j : Nat} {y x : α} (h : (l.set i y)[j]? = some x) : (j = i ∧ x = y) ∨ (j ≠ i ∧ l[j]? = some x) := by
  rw [List.getElem?_set] at h
  split at h
  · rename_i e
    split at h
    · injection h with h; exact .inl ⟨e.symm, h.symm⟩
    · cases h
  · rename_i e
    exact .inr ⟨fun h => e h.symm, h⟩
theorem getD_some {α : Type} {l : List α} {i : Nat} {d x : α} (h : l[i]? = some x) : l.getD i d = x := by
  rw [List.getD_eq_getElem?_getD, h]; rfl
theorem getD_set {α : Type} {l : List α} {i j : Nat} {d y : α} : (l.set i y).getD j d = if j = i ∧ i < l.length then y else l.getD j d := by
  rw [List.getD_eq_getElem?_getD, List.getD_eq_getElem?_getD, List.getElem?_set]
  by_cases e : i = j
  · subst e
    by_cases h : i < l.length
    · simp [h]
    · simp [h, List.getElem?_eq_none (Nat.le_of_not_lt h)]
  · have : ¬ j = i := fun h => e h.symm
    simp [e, this]

section
variable {N : Nat} {m : Nat → Nat} {ns : Nat → Int} {X M K A T : Int} {pend : List (Pk × Nat)} {S : Wr}

theorem PkOk.grow {ls ls' : List Ln} (h : ∀ j, (ls.getD j Ln.none).tot ≤ (ls'.getD j Ln.none).tot) {p : Pk} (hp : PkOk N m ls p) : PkOk N m ls' p := by
  cases p with
  | lett l num kind => obtain ⟨h1, h2, h3⟩ := hp; exact ⟨h1, Nat.le_trans h2 (h l), h3⟩
  | ack l num => obtain ⟨h1, h2⟩ := hp; exact ⟨h1, Nat.le_trans h2 (h l)⟩
theorem tot_set {ls : List Ln} {j : Nat} {l : Ln} (h : (ls.getD j Ln.none).tot ≤ l.tot) (i : Nat) : (ls.getD i Ln.none).tot ≤ ((ls.set j l).getD i Ln.none).tot := by
  rw [getD_set]
  split
  · rename_i e; rw [e.1]; exact h
  · exact Nat.le_refl _

theorem WInv.mono (h : WInv N m ns X M K A T pend S) {X' M' K' A' T' : Int} (h1 : M ≤ M') (h2 : K ≤ K') (h3 : A ≤ A') (h4 : T ≤ T') (h5 : X ≤ X') (h6 : M' ≤ X') : WInv N m ns X' M' K' A' T' pend S :=
  { h with
    wb := fun p row hp k x hx => by have := h.wb p row hp k x hx; omega
    cb := fun p row hp k x hx => by have := h.cb p row hp k x hx; omega
    lb := fun j l hl => by obtain ⟨a, b⟩ := h.lb j l hl; exact ⟨by omega, b⟩
    wgt := by have := h.wgt; omega
    seb := by have := h.seb; omega
    lg := fun hM => h.lg (by omega)
    mx := h6 }
theorem WInv.line (h : WInv N m ns X M K A T pend S) {j : Nat} (hj : j < N * N) : ∃ l, S.ls[j]? = some l ∧ S.ls.getD j Ln.none = l := by
  have : j < S.ls.length := by rw [h.nls]; exact hj
  exact ⟨_, List.getElem?_eq_getElem this, getD_some (List.getElem?_eq_getElem this)⟩
theorem WInv.wrow (h : WInv N m ns X M K A T pend S) {p : Nat} (hp : p < N) : ∃ row, S.wt[p]? = some row ∧ S.wt.getD p [] = row ∧ row.length = m p := by
  have : p < S.wt.length := by rw [h.nwt]; exact hp
  exact ⟨_, List.getElem?_eq_getElem this, getD_some (List.getElem?_eq_getElem this), h.wl _ _ (List.getElem?_eq_getElem this)⟩
theorem WInv.state (h : WInv N m ns X M K A T pend S) {p : Nat} (hp : p < N) : ∃ s, S.st[p]? = some s ∧ S.st.getD p 0 = s ∧ 0 ≤ s ∧ s < ns p := by
  have : p < S.st.length := by rw [h.nst]; exact hp
  exact ⟨_, List.getElem?_eq_getElem this, getD_some (List.getElem?_eq_getElem this), h.st _ _ (List.getElem?_eq_getElem this)⟩

/-- A packet is taken. -/
theorem WInv.pop {a : Pk × Nat} (h : WInv N m ns X M K A T (a :: pend) S) : WInv N m ns X (M - a.1.L) (K - a.1.W) (A - a.1.L) T pend S ∧ PkOk N m S.ls a.1 := by
  refine ⟨{ h with
    wb := fun p row hp k x hx => by have := h.wb p row hp k x hx; simp only [List.cons_append, Lc] at this; omega
    pk := fun b hb => h.pk b (by simp only [List.cons_append]; exact List.mem_cons_of_mem _ hb)
    wgt := by have := h.wgt; simp only [List.cons_append, Wc] at this; omega
    seb := by have := h.seb; simp only [List.cons_append, Lc] at this; omega
    mx := by have := h.mx; have := a.1.L_nonneg; omega }, h.pk a (by simp)⟩
/-- A packet is sent. -/
theorem WInv.send (h : WInv N m ns X M K A T pend S) (fates : List Int) {p : Pk} (hp : PkOk N m S.ls p) (hX : M + 2 * p.L ≤ X) : WInv N m ns X (M + 2 * p.L) (K + 2 * p.W) (A + 1 + 2 * p.L) T pend (sendS fates p S) := by
  have hL : Lc (pend ++ (sendS fates p S).fl) ≤ Lc (pend ++ S.fl) + 2 * p.L := by
    have := p.L_nonneg
    unfold sendS delayS
    simp only [Lc_append]
    split
    · simp [Lc]; omega
    · split
      · simp [Lc]; omega
      · split
        · simp [Lc]; omega
        · simp [Lc]; omega
  have hW : Wc (pend ++ (sendS fates p S).fl) ≤ Wc (pend ++ S.fl) + 2 * p.W := by
    have := p.W_pos
    unfold sendS delayS
    simp only [Wc_append]
    split
    · simp [Wc]; omega
    · split
      · simp [Wc]; omega
      · split
        · simp [Wc]; omega
        · simp [Wc]; omega
  exact { h with
    wb := fun q row hq k x hx => by have := h.wb q row hq k x hx; omega
    pk := fun b hb => by
      rcases List.mem_append.1 hb with hb | hb
      · exact h.pk b (List.mem_append_left _ hb)
      · rcases List.mem_append.1 hb with hb | hb
        · exact h.pk b (List.mem_append_right _ hb)
        · obtain ⟨n, _, rfl⟩ := List.mem_map.1 hb
          exact hp
    wgt := by have := h.wgt; omega
    seb := by
      have := h.seb
      have e : (sendS fates p S).se = S.se + 1 := rfl
      rw [e]
      omega
    mx := hX }
/-- A letter waits. -/
theorem WInv.wait (h : WInv N m ns X M K A T pend S) {p k : Nat} (hp : p < N) (hk : k < m p) (hX : M + 1 ≤ X) : WInv N m ns X (M + 1) K A T pend (waitS p k S) := by
  obtain ⟨row, hr, hg, hl⟩ := h.wrow hp
  have hk' : k < row.length := by omega
  have hx := List.getElem?_eq_getElem hk'
  have e : waitS p k S = { S with wt := S.wt.set p (row.set k (row[k] + 1)), lg := S.lg || decide (1048576 < row[k] + 1) } := by
    unfold waitS bump
    rw [hg, getD_some hx]
  rw [e]
  have hb := h.wb p row hr k _ hx
  have hn := Lc_nonneg (pend ++ S.fl)
  exact { h with
    nwt := by show (S.wt.set p _).length = N; rw [List.length_set]; exact h.nwt
    wl := fun q r hq => by
      rcases set_get hq with ⟨rfl, rfl⟩ | ⟨_, hq⟩
      · rw [List.length_set]; exact hl
      · exact h.wl q r hq
    wb := fun q r hq i x hi => by
      show 0 ≤ x ∧ x + Lc (pend ++ S.fl) ≤ M + 1
      rcases set_get hq with ⟨rfl, rfl⟩ | ⟨_, hq⟩
      · rcases set_get hi with ⟨rfl, rfl⟩ | ⟨_, hi⟩
        · omega
        · have := h.wb q row hr i x hi; omega
      · have := h.wb q r hq i x hi; omega
    lg := fun hM => by
      show (S.lg || decide (1048576 < row[k] + 1)) = false
      rw [h.lg hM]
      simp
      omega
    mx := hX }
/-- A line's numbers change, what it holds in all does not become less. -/
theorem WInv.setLn (h : WInv N m ns X M K A T pend S) {j : Nat} {l l' : Ln} (hl : S.ls[j]? = some l) (hj : j < N * N) {T' : Int} (hT : T ≤ T') (ht : l.tot ≤ l'.tot) (htT : (l'.tot : Int) ≤ T') (hac : l'.ac ≤ l'.tot) (hsn : l'.sn ≤ S.tk) (hq : ∀ a ∈ l'.q, 0 ≤ a ∧ a < (m (j % N) : Nat)) :
    WInv N m ns X M K A T' pend { S with ls := S.ls.set j l' } :=
  { h with
    nls := by show (S.ls.set j l').length = N * N; rw [List.length_set]; exact h.nls
    cb := fun p row hp k x hx => by have := h.cb p row hp k x hx; omega
    lb := fun i y hi => by
      rcases set_get hi with ⟨rfl, rfl⟩ | ⟨_, hi⟩
      · exact ⟨htT, hac, hsn, hq⟩
      · obtain ⟨a, b⟩ := h.lb i y hi; exact ⟨by omega, b⟩
    pk := fun b hb => PkOk.grow (tot_set (by rw [getD_some hl]; exact ht)) (h.pk b hb) }

/-- A tick begins: the packets of this tick are taken out. -/
theorem WInv.begin_ (h : WInv N m ns X M K A T [] S) : WInv N m ns X M K A T ((S.fl.filter fun a => a.2 == S.tk + 1)) { S with tk := S.tk + 1, fl := S.fl.filter fun a => !(a.2 == S.tk + 1) } := by
  have hL : Lc ((S.fl.filter fun a => a.2 == S.tk + 1) ++ S.fl.filter fun a => !(a.2 == S.tk + 1)) = Lc S.fl := by rw [Lc_append]; exact Lc_split (fun a => a.2 == S.tk + 1) S.fl
  have hW : Wc ((S.fl.filter fun a => a.2 == S.tk + 1) ++ S.fl.filter fun a => !(a.2 == S.tk + 1)) = Wc S.fl := by rw [Wc_append]; exact Wc_split (fun a => a.2 == S.tk + 1) S.fl
  exact { h with
    wb := fun p row hp k x hx => by have := h.wb p row hp k x hx; simp only [List.nil_append] at this; rw [hL]; exact this
    lb := fun j l hl => by obtain ⟨a, b, c, d⟩ := h.lb j l hl; exact ⟨a, b, by show l.sn ≤ S.tk + 1; omega, d⟩
    pk := fun b hb => h.pk b (by
      simp only [List.nil_append]
      rcases List.mem_append.1 hb with hb | hb
      · exact (List.mem_filter.1 hb).1
      · exact (List.mem_filter.1 hb).1)
    wgt := by have := h.wgt; simp only [List.nil_append] at this; rw [hW]; exact this
    seb := by have := h.seb; simp only [List.nil_append] at this; rw [hL]; exact this }

/-- One output. -/
theorem WInv.put (h : WInv N m ns X M K A T pend S) {p : Nat} (hp : p < N) {x : Int × Int} (h1 : 0 ≤ x.1 ∧ x.1 < N) (h2 : 0 ≤ x.2 ∧ x.2 < (m x.1.toNat : Nat)) (hX : M + 1 ≤ X) : WInv N m ns X (M + 1) K A (T + 1) pend (putS N p x S) := by
  unfold putS
  split
  · rename_i e
    have e2 : x.1.toNat = p := by omega
    rw [e2] at h2
    exact (h.wait hp (k := x.2.toNat) (by omega) hX).mono (Int.le_refl _) (Int.le_refl _) (Int.le_refl _) (by omega) (Int.le_refl _) hX
  · have hq : x.1.toNat < N := by omega
    have hj : p * N + x.1.toNat < N * N := by
      have : (p + 1) * N ≤ N * N := Nat.mul_le_mul_right N hp
      rw [Nat.succ_mul] at this
      omega
    obtain ⟨l, hl, hgl⟩ := h.line hj
    obtain ⟨a1, a2, a3, a4⟩ := h.lb _ l hl
    rw [hgl]
    have hm : (p * N + x.1.toNat) % N = x.1.toNat := by rw [Nat.add_comm, Nat.add_mul_mod_self_right, Nat.mod_eq_of_lt hq]
    have e : ({ l with q := l.q ++ [x.2] } : Ln).tot = l.tot + 1 := by unfold Ln.tot; simp; omega
    exact (h.setLn (l' := { l with q := l.q ++ [x.2] }) (T' := T + 1) hl hj (by omega) (by rw [e]; omega) (by rw [e]; push_cast; omega) (by rw [e]; show l.ac ≤ _; omega) a3 (fun a ha => by
      rcases List.mem_append.1 ha with ha | ha
      · exact a4 a ha
      · rw [List.mem_singleton] at ha; rw [ha, hm]; exact h2)).mono (by omega) (Int.le_refl _) (Int.le_refl _) (Int.le_refl _) (Int.le_refl _) hX
/-- A line sends. -/
theorem WInv.lineS (h : WInv N m ns X M K A T [] S) (fates : List Int) {j : Nat} (hj : j < N * N) (hX : M + 2 ≤ X) : WInv N m ns X (M + 2) (K + 6) (A + 3) T [] (lineS fates j S) := by
  obtain ⟨l, hl, hgl⟩ := h.line hj
  obtain ⟨a1, a2, a3, a4⟩ := h.lb _ l hl
  unfold Go.Proofs.YtpgopmmobbemcaaGreat.lineS
  rw [hgl]
  rcases hq : l.q with _ | ⟨a, r⟩
  · exact h.mono (by omega) (by omega) (by omega) (Int.le_refl _) (Int.le_refl _) hX
  · simp only
    split
    · have ht : l.rm + 1 ≤ l.tot := by unfold Ln.tot; rw [hq]; simp
      have hp : PkOk N m S.ls (.lett j (l.rm + 1) a) := ⟨hj, by rw [hgl]; exact ht, (a4 a (by rw [hq]; simp)).1, (a4 a (by rw [hq]; simp)).2⟩
      have h1 := h.send fates hp (by simp only [Pk.L]; omega)
      simp only [Pk.L, Pk.W] at h1
      have h2 := h1.setLn (l' := { l with sn := S.tk }) hl hj (Int.le_refl T) (Nat.le_refl _) a1 a2 (Nat.le_refl _) a4
      exact (h2.mono (by omega) (by omega) (by omega) (Int.le_refl _) (Int.le_refl _) hX)
    · exact h.mono (by omega) (by omega) (by omega) (Int.le_refl _) (Int.le_refl _) hX

end

end Go.Proofs.YtpgopmmobbemcaaGreat

set_option linter.unusedVariables false
set_option linter.unusedSimpArgs false
set_option linter.unnecessarySimpa false
namespace Go.Proofs.YtpgopmmobbemcaaGreat
open Go.RowKit

def ruleP (procs : List Prc) (p : Nat) (s : Int) (k : Nat) : Rul := ruleAt (procs.getD p prc0).rules s k
def nextP (procs : List Prc) (p : Nat) (s : Int) (k : Nat) : Int := (ruleP procs p s k).next
def pairO (o : Out) : Int × Int := (o.dst, o.letter)
def sentP (procs : List Prc) (p : Nat) (s : Int) (k : Nat) : List (Int × Int) := (ruleP procs p s k).sent.map pairO
def lettersP (procs : List Prc) (p : Nat) : Nat := (procs.getD p prc0).letters.toNat
def statesP (procs : List Prc) (p : Nat) : Int := (procs.getD p prc0).states

theorem Right.rule {x : Nwk} (h : Right x) {p k : Nat} {s : Int} (hp : p < x.procs.length) (h0 : 0 ≤ s) (h1 : s < statesP x.procs p) (hk : k < lettersP x.procs p) :
    ∃ pr row r, x.procs[p]? = some pr ∧ x.procs.getD p prc0 = pr ∧ pr.rules[s.toNat]? = some row ∧ row[k]? = some r ∧ ruleP x.procs p s k = r ∧ (0 ≤ r.next ∧ r.next < pr.states) ∧ r.sent.length ≤ 16 ∧
      ∀ o ∈ r.sent, (0 ≤ o.dst ∧ o.dst < x.procs.length) ∧ 0 ≤ o.letter ∧ o.letter < lettersP x.procs o.dst.toNat := by
  have hpr := List.getElem?_eq_getElem hp
  have hg : x.procs.getD p prc0 = x.procs[p] := getD_some hpr
  have hc := h.proc p _ hpr
  unfold statesP at h1
  unfold lettersP at hk
  rw [hg] at h1 hk
  have hz := check_zero hc
  have hs : s.toNat < (x.procs[p]).rules.length := by have := hz.2.2.2.1; omega
  have hrow := List.getElem?_eq_getElem hs
  have hl := valid_row hc hrow
  have hk2 : k < ((x.procs[p]).rules[s.toNat]).length := by omega
  have hr := List.getElem?_eq_getElem hk2
  obtain ⟨v1, v2, v3⟩ := valid_rule hc hrow hr
  refine ⟨_, _, _, hpr, hg, hrow, hr, ?_, v1, v2, fun o ho => ?_⟩
  · unfold ruleP ruleAt
    rw [hg, getD_some hrow, show ((k : Nat) : Int).toNat = k from Int.toNat_natCast k, getD_some hr]
  · obtain ⟨a, b, c⟩ := v3 o ho
    have ha : o.dst < x.procs.length := a.2
    refine ⟨⟨a.1, ha⟩, b, ?_⟩
    have := outsOk_all (rulesOk_all (rowsOk_all (h.und p _ hpr) _ (List.mem_of_getElem? hrow)) _ (List.mem_of_getElem? hr)) o ho
    unfold lettersP
    omega
theorem Right.ok {x : Nwk} (h : Right x) : NetOk x.procs.length 16 (lettersP x.procs) (statesP x.procs) (nextP x.procs) (sentP x.procs) where
  next := fun p s k hp h0 h1 hk => by
    obtain ⟨pr, row, r, e1, e2, e3, e4, e5, e6, _⟩ := h.rule hp h0 h1 hk
    unfold nextP statesP
    rw [e5, e2]
    exact e6
  few := fun p s k hp h0 h1 hk => by
    obtain ⟨pr, row, r, e1, e2, e3, e4, e5, e6, e7, _⟩ := h.rule hp h0 h1 hk
    unfold sentP
    rw [e5, List.length_map]
    exact e7
  out := fun p s k hp h0 h1 hk y hy => by
    obtain ⟨pr, row, r, e1, e2, e3, e4, e5, e6, e7, e8⟩ := h.rule hp h0 h1 hk
    unfold sentP at hy
    rw [e5] at hy
    obtain ⟨o, ho, rfl⟩ := List.mem_map.1 hy
    obtain ⟨a, b, c⟩ := e8 o ho
    exact ⟨a.1, a.2, b, c⟩
theorem Right.letters {x : Nwk} (h : Right x) (p : Nat) (hp : p < x.procs.length) : 1 ≤ lettersP x.procs p ∧ lettersP x.procs p ≤ 8 := by
  have hpr := List.getElem?_eq_getElem hp
  have hz := check_zero (h.proc p _ hpr)
  unfold lettersP
  rw [getD_some hpr]
  omega
/-- The machine at its beginning. -/
theorem Right.begin_ {x : Nwk} (h : Right x) {M X : Int} (hM : ∀ t ∈ x.waiting, ∀ k ∈ t, k ≤ M) (hX : M ≤ X) : WInv x.procs.length (lettersP x.procs) (statesP x.procs) X M 0 0 0 [] (beginS x.state x.waiting x.procs.length) where
  nst := h.nst
  nwt := h.nwt
  nct := by show (x.waiting.map _).length = _; rw [List.length_map]; exact h.nwt
  nls := by simp [beginS]
  st := fun p s hs => by
    have hp : p < x.procs.length := by have := (List.getElem?_eq_some_iff.1 hs).1; have := h.nst; simp only [beginS] at *; omega
    have hpr := List.getElem?_eq_getElem hp
    unfold statesP
    rw [getD_some hpr]
    exact h.st p s _ hs hpr
  wl := fun p row hr => by
    have hp : p < x.procs.length := by have := (List.getElem?_eq_some_iff.1 hr).1; have := h.nwt; simp only [beginS] at *; omega
    have hpr := List.getElem?_eq_getElem hp
    unfold lettersP
    rw [getD_some hpr]
    have := h.wl p row _ hr hpr
    omega
  cl := fun p row hr => by
    simp only [beginS, List.getElem?_map, Option.map_eq_some_iff] at hr
    obtain ⟨t, ht, rfl⟩ := hr
    have hp : p < x.procs.length := by have := (List.getElem?_eq_some_iff.1 ht).1; have := h.nwt; omega
    have hpr := List.getElem?_eq_getElem hp
    unfold lettersP
    rw [getD_some hpr, List.length_replicate]
    have := h.wl p t _ ht hpr
    omega
  wb := fun p row hr k y hy => by
    have h1 := h.wb row (List.mem_of_getElem? hr) y (List.mem_of_getElem? hy)
    have h2 := hM row (List.mem_of_getElem? hr) y (List.mem_of_getElem? hy)
    refine ⟨h1.1, ?_⟩
    show y + Lc ([] ++ []) ≤ M
    simp [Lc]
    exact h2
  cb := fun p row hr k y hy => by
    simp only [beginS, List.getElem?_map, Option.map_eq_some_iff] at hr
    obtain ⟨t, ht, rfl⟩ := hr
    rw [List.getElem?_replicate] at hy
    split at hy
    · injection hy with hy; omega
    · cases hy
  lb := fun j l hl => by
    simp only [beginS, List.getElem?_replicate] at hl
    split at hl
    · injection hl with hl
      subst hl
      exact ⟨by simp [Ln.tot, Ln.none], by simp [Ln.tot, Ln.none], by simp [Ln.none], fun a ha => by simp [Ln.none] at ha⟩
    · cases hl
  pk := fun a ha => by simp [beginS] at ha
  wgt := by simp [beginS, Wc]
  seb := by simp [beginS, Lc]
  lg := fun _ => rfl
  mx := hX
end Go.Proofs.YtpgopmmobbemcaaGreat

set_option linter.unusedVariables false
set_option linter.unusedSimpArgs false
namespace Go.Proofs.YtpgopmmobbemcaaGreat
open Go.RowKit

theorem checkErr_more {p : Prc} {N : Int} (h : checkErr p N = 0) : checkErr p 12 = 0 := by
  obtain ⟨h1, h2, h3, h4, h5⟩ := check_zero h
  have hs : ∀ l : List Out, sentErr N l = 0 → sentErr 12 l = 0 := fun l => by
    induction l with
    | nil => intro _; rfl
    | cons x r ih =>
      intro hl
      unfold sentErr at hl ⊢
      split at hl
      · rename_i hx
        simp [belowB] at hx
        rw [if_pos (by simp [belowB]; omega)]
        exact ih hl
      · cases hl
  have hr : ∀ r : Rul, ruleErr p.states N r = 0 → ruleErr p.states 12 r = 0 := fun r hr => by
    unfold ruleErr at hr ⊢
    split at hr
    · rename_i hx
      rw [if_pos hx]
      split at hr
      · rename_i hy
        rw [if_pos hy]
        exact hs _ hr
      · cases hr
    · cases hr
  have ho : ∀ l : List Rul, rowErr p.states N l = 0 → rowErr p.states 12 l = 0 := fun l => by
    induction l with
    | nil => intro _; rfl
    | cons x r ih =>
      intro hl
      unfold rowErr at hl ⊢
      split at hl
      · rename_i hx
        rw [if_pos (hr x hx)]
        exact ih hl
      · rename_i hx; exact absurd hl hx
  have hw : ∀ l : List (List Rul), rowsErr p.states p.letters N l = 0 → rowsErr p.states p.letters 12 l = 0 := fun l => by
    induction l with
    | nil => intro _; rfl
    | cons x r ih =>
      intro hl
      unfold rowsErr at hl ⊢
      split at hl
      · rename_i hx
        rw [if_pos hx]
        split at hl
        · rename_i hy
          rw [if_pos (ho x hy)]
          exact ih hl
        · rename_i hy; exact absurd hl hy
      · cases hl
  unfold checkErr
  rw [if_neg (by omega), if_neg (by omega), if_neg (by omega)]
  exact hw _ h5

/-- All processors are abelian. -/
def commP (procs : List Prc) : Bool := procs.all fun p => (witS (commN p.rules) p.letters.toNat p.states.toNat 0).isNone

end Go.Proofs.YtpgopmmobbemcaaGreat

set_option linter.unusedVariables false
set_option linter.unusedSimpArgs false
set_option linter.unnecessarySimpa false
namespace Go.Proofs.YtpgopmmobbemcaaGreat
open Go.RowKit

end Go.Proofs.YtpgopmmobbemcaaGreat

set_option linter.unusedVariables false
set_option linter.unusedSimpArgs false
set_option linter.unnecessarySimpa false
namespace Go.Proofs.YtpgopmmobbemcaaGreat
open Go.RowKit

theorem chunk_cell {sz i j : Nat} {l : List Value} (hj : j < sz) : (chunk sz i l)[j]? = l[i * sz + j]? := by
  unfold chunk
  rw [List.getElem?_take, if_pos hj, List.getElem?_drop]
theorem chunk_set_same {sz i j : Nat} {l : List Value} {u : Value} (hj : j < sz) : chunk sz i (l.set (i * sz + j) u) = (chunk sz i l).set j u := by
  unfold chunk
  rw [List.drop_set, if_neg (by omega), show i * sz + j - i * sz = j from by omega, List.take_set]
theorem chunk_set_other {sz i j k : Nat} {l : List Value} {u : Value} (hj : j < sz) (hk : k ≠ i) : chunk sz k (l.set (i * sz + j) u) = chunk sz k l := by
  unfold chunk
  apply List.ext_getElem?
  intro n
  rw [List.getElem?_take, List.getElem?_take]
  split
  · rename_i hn
    rw [List.getElem?_drop, List.getElem?_drop, List.getElem?_set]
    rw [if_neg]
    intro e
    rcases Nat.lt_or_ge k i with h | h
    · have := Nat.mul_le_mul_right sz (Nat.succ_le_of_lt h)
      rw [Nat.succ_mul] at this
      omega
    · have h2 : i + 1 ≤ k := by omega
      have := Nat.mul_le_mul_right sz h2
      rw [Nat.succ_mul] at this
      omega
  · rfl

/-- The slice v at block g holds xs, but for element i, of which the cells hc are known. -/
def RowH {α : Type} (R : Rep α) (sz base : Nat) (e : TypeId) (F : Foot) (w : World) (v : Value) (g : Nat) (xs : List α) (i : Nat) (hc : List Value) : Prop :=
  ∃ cap cur, v = .slice (some ⟨g, 0, none⟩) xs.length cap ∧ base ≤ g ∧ w.heap[g]? = some (.cells cur e (0, 0)) ∧ xs.length ≤ cap ∧ cap ≤ maxLen ∧ cur.size = cap * sz ∧
    (∀ u ∈ cur.toList.take (xs.length * sz), u.oneCell' = true) ∧ i < xs.length ∧ hc = chunk sz i cur.toList ∧ ∀ k x, k ≠ i → xs[k]? = some x → R F w (chunk sz k cur.toList) x
section
variable {α : Type} {R : Rep α} {sz base : Nat} {e : TypeId} {F F' : Foot} {w w' : World} {v : Value} {xs : List α} {g i : Nat} {hc : List Value}

theorem RowH.free (h : RowH R sz base e F w v g xs i hc) (k : Nat) : w.frozen? ⟨g, k, none⟩ = false := by
  obtain ⟨cap, cur, _, _, hh, _⟩ := h
  exact frozen_of_row w g k _ _ hh
theorem RowH.cell (h : RowH R sz base e F w v g xs i hc) {j : Nat} (hj : j < sz) : w.cell? ⟨g, i * sz + j, none⟩ = hc[j]? := by
  obtain ⟨cap, cur, _, _, hh, _, _, _, _, hi, rfl, _⟩ := h
  rw [chunk_cell hj, cell_of_row w g _ cur e (0, 0) hh]
  simp
theorem RowH.keep (ok : RepOk R sz) (h : RowH R sz base e F w v g xs i hc) (hb : w'.heap[g]? = w.heap[g]?) (hs : SameOn F w w') : RowH R sz base e F w' v g xs i hc := by
  obtain ⟨cap, cur, h1, h2, hh, h3, h4, h5, h6, hi, h7, h8⟩ := h
  exact ⟨cap, cur, h1, h2, by rw [hb]; exact hh, h3, h4, h5, h6, hi, h7, fun k x hk hx => ok.keep (h8 k x hk hx) hs⟩
theorem RowH.wide (ok : RepOk R sz) (h : RowH R sz base e F w v g xs i hc) (hs : ∀ k, F k → k < w.heap.size → F' k) : RowH R sz base e F' w v g xs i hc := by
  obtain ⟨cap, cur, h1, h2, hh, h3, h4, h5, h6, hi, h7, h8⟩ := h
  exact ⟨cap, cur, h1, h2, hh, h3, h4, h5, h6, hi, h7, fun k x hk hx => ok.wide (h8 k x hk hx) hs⟩
theorem RowH.put (ok : RepOk R sz) (h : RowH R sz base e F w v g xs i hc) (hF : ¬ F g) {j : Nat} (hj : j < sz) {u : Value} (hu : u.oneCell' = true) : RowH R sz base e F (w.setCell ⟨g, i * sz + j, none⟩ u) v g xs i (hc.set j u) := by
  obtain ⟨cap, cur, h1, h2, hh, h3, h4, h5, h6, hi, h7, h8⟩ := h
  have hle : i * sz + sz ≤ xs.length * sz := by
    have := Nat.mul_le_mul_right sz (Nat.succ_le_of_lt hi)
    rw [Nat.succ_mul] at this
    exact this
  have hle2 := Nat.mul_le_mul_right sz h3
  have hheap := heap_set1 w g (i * sz + j) cur.toList e u (by simpa using hh)
  refine ⟨cap, (cur.toList.set (i * sz + j) u).toArray, h1, h2, hheap, h3, h4, by simp [h5], ?_, hi, ?_, ?_⟩
  · intro x hx
    simp only [List.take_set] at hx
    rcases List.mem_or_eq_of_mem_set hx with hx | rfl
    · exact h6 x hx
    · exact hu
  · rw [h7]
    exact (chunk_set_same hj).symm
  · intro k x hk hx
    have := h8 k x hk hx
    simp only
    rw [chunk_set_other hj hk]
    exact ok.keep this fun m hm hml => Below.heap_setCell w ⟨g, i * sz + j, none⟩ u m fun e => hF (by rw [show g = m from e.symm]; exact hm)
theorem OwnS.wide (ok : RepOk R sz) (h : OwnS R sz base e F w v xs) (hs : ∀ k, F k → k < w.heap.size → F' k) : OwnS R sz base e F' w v xs := by
  obtain ⟨cells, ho, h1, hcs⟩ := h
  exact ⟨cells, ho, h1, fun i x hx => ok.wide (hcs i x hx) hs⟩
end

end Go.Proofs.YtpgopmmobbemcaaGreat

set_option linter.unusedVariables false
set_option linter.unusedSimpArgs false
set_option linter.unnecessarySimpa false
namespace Go.Proofs.YtpgopmmobbemcaaGreat
open Go.RowKit

end Go.Proofs.YtpgopmmobbemcaaGreat

set_option linter.unusedVariables false
set_option linter.unusedSimpArgs false
namespace Go.Proofs.YtpgopmmobbemcaaGreat
open Go.RowKit

end Go.Proofs.YtpgopmmobbemcaaGreat

set_option linter.unusedVariables false
set_option linter.unusedSimpArgs false
namespace Go.Proofs.YtpgopmmobbemcaaGreat
open Go.RowKit

theorem alloc_size' (w : World) (o : Obj) : (w.alloc o).heap.size = w.heap.size + 1 := by simp
theorem results_cell_row {P : Program} {fn : Func} {p : Tmp} {ty : TypeId} (h : fn.results = #[.cell p ty]) (tmps : Array Value) (w : World) (g : Nat) (t : TypeId) (cs : Array Value) (fr : Nat × Nat) (d : TypeDesc)
    (hp : tmps.getD p undef = .pointer (some ⟨g, 0, none⟩)) (hg : w.heap[g]? = some (.cells cs t fr))
    (hu : P.underlying ty = some d) (hd : (match d with | .struct _ | .array _ _ => true | _ => false) = true) (hi : (P.info? ty).map (·.size) = some cs.size) :
    (results fn tmps).run P w = .ok (.agg cs) w := by
  have hp' : tmps[p]?.getD undef = .pointer (some ⟨g, 0, none⟩) := by simpa using hp
  simp only [results, h]
  simp [hp', asAddr, Result.andThen, Sem.run_bind, run_loadVar_row w g t ty cs fr d hg hu hd hi]
/-- In the memory that was there, or in blocks from K on. -/
def OldNew (F : Foot) (B K : Nat) : Foot := fun k => (F k ∧ k < B) ∨ K ≤ k

end Go.Proofs.YtpgopmmobbemcaaGreat

set_option linter.unusedVariables false
set_option linter.unusedSimpArgs false
namespace Go.Proofs.YtpgopmmobbemcaaGreat
open Go.RowKit

def machV (p : Nat) : Value := .pointer (some ⟨p, 0, none⟩)
section
variable {O : Foot} {B0 K H p gs : Nat} {vp tw : Value} {rs : List Rw} {x : Nwk} {W W' : World}
end

section
variable {O : Foot} {B0 K H p gs : Nat} {vp tw : Value} {rs : List Rw} {x : Nwk} {W : World}
def mvR : Rep (Nat × Nat) := fun _ _ cs x => cs = [.int .i64 (x.1 : Nat), .int .i64 (x.2 : Nat)]
/-- The letters of one processor that may be read. -/
def rowMv (p : Nat) (l : List Int) (k : Nat) : List (Nat × Nat) := ((List.range k).filter fun a => decide (0 < l.getD a 0)).map fun a => (p, a)
/-- The moves: the letters that wait, in order. -/
def movesS (wt : List (List Int)) : List (Nat × Nat) := (List.range wt.length).flatMap fun p => rowMv p (wt.getD p []) (wt.getD p []).length
def movesUpto (wt : List (List Int)) (i : Nat) : List (Nat × Nat) := (List.range i).flatMap fun p => rowMv p (wt.getD p []) (wt.getD p []).length
end

end Go.Proofs.YtpgopmmobbemcaaGreat

set_option linter.unusedVariables false
set_option linter.unusedSimpArgs false
set_option linter.unnecessarySimpa false
namespace Go.Proofs.YtpgopmmobbemcaaGreat
open Go.RowKit

def WLay.setQ (L : WLay) (j : Nat) (v : Value) : WLay := { L with lv := fun m => if m = j then v else L.lv m }
theorem setQ_blk {L : WLay} {j : Nat} {v : Value} (hv : v.ownBlock = (L.lv j).ownBlock) (r : IR) : r.blk (L.setQ j v) = r.blk L := by
  cases r with
  | s => rfl
  | w i => rfl
  | c i => rfl
  | q m =>
    show (if m = j then v else L.lv m).ownBlock = (L.lv m).ownBlock
    split
    · rename_i e; rw [hv, e]
    · rfl
theorem setQ_mine {L : WLay} {N j : Nat} {v : Value} (hv : v.ownBlock = (L.lv j).ownBlock) (k : Nat) : Mine (L.setQ j v) N k ↔ Mine L N k := by
  have h : ∀ m, ((L.setQ j v).lv m).ownBlock = (L.lv m).ownBlock := fun m => setQ_blk hv (.q m)
  unfold Mine
  simp only [h]
  exact Iff.rfl
section
variable {B N : Nat} {L : WLay} {oP : Option Addr} {cP : Nat} {oF : Option Addr} {nF cF : Nat} {S : Wr} {W W' : World}

theorem Went.setQ {j : Nat} {v : Value} (hv : v.ownBlock = (L.lv j).ownBlock) (hj : j < N * N) (i : Nat) (u : Value) : Went N L W (L.setQ j v) (W.setCell ⟨L.bl j, i, none⟩ u) :=
  { Went.put (W := W) (i := i) (v := u) (show Mine L N (L.bl j) from .inr (.inr (.inr (.inr (.inr (.inr (.inr (.inl ⟨j, hj, rfl⟩)))))))) with
    mine := fun k _ hm => (setQ_mine hv k).1 hm, fix := ⟨_, _, rfl⟩ }
end

theorem OwnN.cons {base : Nat} {e : TypeId} {w : World} {v : Value} {x : Int} {r : List Int} (h : OwnN base e w v (x :: r)) : OwnQ base e w v (x :: r) := by
  rcases h with ⟨_, h⟩ | h
  · cases h
  · exact h

end Go.Proofs.YtpgopmmobbemcaaGreat

set_option linter.unusedVariables false
set_option linter.unusedSimpArgs false
set_option linter.unnecessarySimpa false
namespace Go.Proofs.YtpgopmmobbemcaaGreat
open Go.RowKit

section
variable {B N : Nat} {L : WLay} {oP : Option Addr} {cP : Nat} {oF : Option Addr} {nF cF : Nat} {S : Wr} {W W' : World}
end

end Go.Proofs.YtpgopmmobbemcaaGreat

set_option linter.unusedVariables false
set_option linter.unusedSimpArgs false
set_option linter.unnecessarySimpa false
namespace Go.Proofs.YtpgopmmobbemcaaGreat
open Go.RowKit

section
variable {B N : Nat} {L : WLay} {oP : Option Addr} {cP : Nat} {oF : Option Addr} {nF cF : Nat} {S : Wr} {W W' : World}
end

end Go.Proofs.YtpgopmmobbemcaaGreat

set_option linter.unusedVariables false
set_option linter.unusedSimpArgs false
set_option linter.unnecessarySimpa false
namespace Go.Proofs.YtpgopmmobbemcaaGreat
open Go.RowKit

def idxI : Option Nat → Int
  | some k => k
  | none => -1
end Go.Proofs.YtpgopmmobbemcaaGreat

set_option linter.unusedVariables false
set_option linter.unusedSimpArgs false
set_option linter.unnecessarySimpa false
namespace Go.Proofs.YtpgopmmobbemcaaGreat
open Go.RowKit

theorem Went.of_below {N : Nat} {L : WLay} {W W' : World} (hb : Below W.heap.size W W') : Went N L W L W' := ⟨hb.os, hb.tape, hb.output, hb.size, fun k hk _ => hb.block k hk, fun _ _ h => h, ⟨_, _, rfl⟩⟩
section
variable {B N : Nat} {L : WLay} {oP : Option Addr} {cP : Nat} {oF : Option Addr} {nF cF : Nat} {S : Wr} {W W' : World}

end

end Go.Proofs.YtpgopmmobbemcaaGreat

set_option linter.unusedVariables false
set_option linter.unusedSimpArgs false
set_option linter.unnecessarySimpa false
namespace Go.Proofs.YtpgopmmobbemcaaGreat
open Go.RowKit

section
variable {B N : Nat} {L : WLay} {oP : Option Addr} {cP : Nat} {oF : Option Addr} {nF cF : Nat} {S : Wr} {W W' : World}
variable {m : Nat → Nat} {ns : Nat → Int} {X M K A T : Int} {pend : List (Pk × Nat)}

end

end Go.Proofs.YtpgopmmobbemcaaGreat

set_option linter.unusedVariables false
set_option linter.unusedSimpArgs false
set_option linter.unnecessarySimpa false
namespace Go.Proofs.YtpgopmmobbemcaaGreat
open Go.RowKit

section
variable {B N : Nat} {L : WLay} {oP : Option Addr} {cP : Nat} {oF : Option Addr} {nF cF : Nat} {S : Wr} {W W' : World}
variable {X M K A T : Int}

end

end Go.Proofs.YtpgopmmobbemcaaGreat

set_option linter.unusedVariables false
set_option linter.unusedSimpArgs false
namespace Go.Proofs.YtpgopmmobbemcaaGreat
open Go.RowKit

def addO (wt : List (List Int)) (o : Int × Int) : List (List Int) := bump wt o.1.toNat o.2.toNat 1
/-- The network behind the move that lets processor p read the letter a. -/
def moveX (x : Nwk) (p a : Nat) : Nwk :=
  { x with state := x.state.set p (nextP x.procs p (x.state.getD p 0) a), waiting := (sentP x.procs p (x.state.getD p 0) a).foldl addO (bump x.waiting p a (-1)) }
/-- What a move leaves alone. -/
structure Kept (B0 gs : Nat) (rs : List Rw) (W W' : World) : Prop where
  low : Below B0 W W'
  size : W.heap.size ≤ W'.heap.size
  fix : ∀ k, k < W.heap.size → k ≠ gs → (∀ r ∈ rs, k ≠ r.g) → W'.heap[k]? = W.heap[k]?
theorem Kept.refl (B0 gs : Nat) (rs : List Rw) (W : World) : Kept B0 gs rs W W := ⟨Below.refl _ _, Nat.le_refl _, fun _ _ _ _ => rfl⟩
theorem Kept.trans {B0 gs : Nat} {rs : List Rw} {W W1 W2 : World} (h : Kept B0 gs rs W W1) (g : Kept B0 gs rs W1 W2) : Kept B0 gs rs W W2 :=
  ⟨h.low.trans g.low, Nat.le_trans h.size g.size, fun k hk h1 h2 => (g.fix k (Nat.lt_of_lt_of_le hk h.size) h1 h2).trans (h.fix k hk h1 h2)⟩
theorem Kept.of_below {B0 gs : Nat} {rs : List Rw} {W W1 : World} (h : Below W.heap.size W W1) (hB : B0 ≤ W.heap.size) : Kept B0 gs rs W W1 := ⟨h.mono hB, h.size, fun k hk _ _ => h.block k hk⟩
section
variable {O : Foot} {B0 K H p gs : Nat} {vp tw : Value} {rs : List Rw} {x : Nwk} {W W' : World}
theorem Kept.put (hB : B0 ≤ gs ∧ B0 ≤ H) (ht : ∀ r ∈ rs, H ≤ r.g) {b k : Nat} (hb : b = gs ∨ ∃ r ∈ rs, b = r.g) (v : Value) : Kept B0 gs rs W (W.setCell ⟨b, k, none⟩ v) := by
  have hB0 : B0 ≤ b := by
    rcases hb with rfl | ⟨r, hr, rfl⟩
    · exact hB.1
    · have := ht r hr; omega
  refine ⟨(Below.refl _ _).setCell hB0 _, by simp [World.setCell], fun q hq h1 h2 => Below.heap_setCell _ _ _ q ?_⟩
  rcases hb with rfl | ⟨r, hr, rfl⟩
  · exact h1
  · exact h2 r hr
end

/-- Tables of one shape, with numbers from 0 to c. -/
structure Shape (wt wt' : List (List Int)) (c : Int) : Prop where
  len : wt'.length = wt.length
  row : ∀ (j : Nat) (l' : List Int), wt'[j]? = some l' → ∃ l, wt[j]? = some l ∧ l'.length = l.length
  num : ∀ l ∈ wt', ∀ z ∈ l, 0 ≤ z ∧ z ≤ c
theorem bump_eq {wt : List (List Int)} {p k : Nat} {l : List Int} {z : Int} (hl : wt[p]? = some l) (hz : l[k]? = some z) (y : Int) : bump wt p k y = wt.set p (l.set k (z + y)) := by
  unfold bump
  rw [getD_some hl, getD_some hz]
theorem Shape.put {wt wt' : List (List Int)} {c c' : Int} (h : Shape wt wt' c) (hc : c ≤ c') {p k : Nat} {l : List Int} (hl : wt'[p]? = some l) (hk : k < l.length) {y : Int} (hy : 0 ≤ y ∧ y ≤ c') : Shape wt (wt'.set p (l.set k y)) c' where
  len := by rw [List.length_set]; exact h.len
  row := fun j l' hj => by
    rw [List.getElem?_set] at hj
    split at hj
    · rename_i e
      subst e
      split at hj
      · injection hj with hj
        subst hj
        obtain ⟨l0, h1, h2⟩ := h.row p l hl
        exact ⟨l0, h1, by rw [List.length_set]; exact h2⟩
      · cases hj
    · exact h.row j l' hj
  num := fun l' hl' z hz => by
    rcases List.mem_or_eq_of_mem_set hl' with hm | rfl
    · have := h.num l' hm z hz; omega
    · rcases List.mem_or_eq_of_mem_set hz with hm | rfl
      · have := h.num l (List.mem_of_getElem? hl) z hm; omega
      · exact hy

section
variable {O : Foot} {B0 K H p gs : Nat} {vp tw : Value} {rs : List Rw} {x : Nwk} {W : World}
end

end Go.Proofs.YtpgopmmobbemcaaGreat

set_option linter.unusedVariables false
set_option linter.unusedSimpArgs false
namespace Go.Proofs.YtpgopmmobbemcaaGreat
open Go.RowKit

theorem Shape.add {wt wt' : List (List Int)} {c : Int} (h : Shape wt wt' c) {o : Int × Int} (ho : ∃ l, wt[o.1.toNat]? = some l ∧ o.2.toNat < l.length) : Shape wt (addO wt' o) (c + 1) := by
  obtain ⟨l, h1, h2⟩ := ho
  have hi : o.1.toNat < wt'.length := by rw [h.len]; exact (List.getElem?_eq_some_iff.1 h1).1
  have hl' := List.getElem?_eq_getElem hi
  obtain ⟨l0, h3, h4⟩ := h.row _ _ hl'
  rw [h1] at h3
  injection h3 with h3
  subst h3
  have hk : o.2.toNat < (wt'[o.1.toNat]).length := by omega
  have hz := List.getElem?_eq_getElem hk
  have hb := h.num _ (List.mem_of_getElem? hl') _ (List.mem_of_getElem? hz)
  unfold addO
  rw [bump_eq hl' hz]
  exact h.put (by omega) hl' hk (by omega)
theorem Right.row {x : Nwk} (h : Right x) {p : Nat} (hp : p < x.procs.length) : ∃ l, x.waiting[p]? = some l ∧ l.length = lettersP x.procs p := by
  have hw := List.getElem?_eq_getElem (show p < x.waiting.length by rw [h.nwt]; exact hp)
  have hpr := List.getElem?_eq_getElem hp
  have h1 := h.wl p _ _ hw hpr
  refine ⟨_, hw, ?_⟩
  unfold lettersP
  rw [getD_some hpr]
  omega
/-- The pick with number i among some moves. -/
def pickS (picks : List Int) (l : List (Nat × Nat)) (i : Nat) : Nat × Nat := l.getD ((picks.getD (i % picks.length) 0).toNat % l.length) (0, 0)
/-- A run by picks: the network and the counts when it has halted; none where the moves are used up. -/
def runX (picks : List Int) : Nat → Nat → Nwk → List (List Int) → Option (Nwk × List (List Int))
  | 0, i, x, ct => if (movesS x.waiting).isEmpty then some (x, ct) else none
  | n + 1, i, x, ct => if (movesS x.waiting).isEmpty then some (x, ct) else runX picks n (i + 1) (moveX x (pickS picks (movesS x.waiting) i).1 (pickS picks (movesS x.waiting) i).2) (bump ct (pickS picks (movesS x.waiting) i).1 (pickS picks (movesS x.waiting) i).2 1)
end Go.Proofs.YtpgopmmobbemcaaGreat

set_option linter.unusedVariables false
namespace Go.Proofs.YtpgopmmobbemcaaGreat
open Go.RowKit

end Go.Proofs.YtpgopmmobbemcaaGreat

set_option linter.unusedVariables false
namespace Go.Proofs.YtpgopmmobbemcaaGreat
open Go.RowKit

end Go.Proofs.YtpgopmmobbemcaaGreat

set_option linter.unusedVariables false
namespace Go.Proofs.YtpgopmmobbemcaaGreat
open Go.RowKit

end Go.Proofs.YtpgopmmobbemcaaGreat

set_option linter.unusedVariables false
namespace Go.Proofs.YtpgopmmobbemcaaGreat
open Go.RowKit

end Go.Proofs.YtpgopmmobbemcaaGreat

set_option linter.unusedVariables false
namespace Go.Proofs.YtpgopmmobbemcaaGreat
open Go.RowKit

end Go.Proofs.YtpgopmmobbemcaaGreat

set_option linter.unusedVariables false
namespace Go.Proofs.YtpgopmmobbemcaaGreat
open Go.RowKit

inductive Bk (s : Nat) : List Out → Prop
  | last (l : List Out) : Srt l → l.length ≤ s → Bk s l
  | cons (l r : List Out) : Srt l → l.length = s → Bk s r → Bk s (l ++ r)
inductive Full (s : Nat) : List Out → Prop
  | nil : Full s []
  | snoc (D l : List Out) : Full s D → Srt l → l.length = s → Full s (D ++ l)
theorem Bk.split {s : Nat} {R : List Out} (h : Bk s R) (hs : s ≤ R.length) : ∃ l r, R = l ++ r ∧ Srt l ∧ l.length = s ∧ Bk s r := by
  cases h with
  | last _ h1 h2 => exact ⟨R, [], by simp, h1, by omega, Bk.last [] List.Pairwise.nil (by simp)⟩
  | cons l r h1 h2 h3 => exact ⟨l, r, rfl, h1, h2, h3⟩
end Go.Proofs.YtpgopmmobbemcaaGreat

set_option linter.unusedVariables false
namespace Go.Proofs.YtpgopmmobbemcaaGreat
open Go.RowKit

def vertexRs : List (List Rul) := [[⟨1, []⟩], [⟨0, [⟨1, 0⟩, ⟨2, 0⟩]⟩]]
def rotorRs : List (List Rul) := [[⟨1, [⟨1, 0⟩]⟩], [⟨0, [⟨2, 0⟩]⟩]]
def setterRs : List (List Rul) := [[⟨0, []⟩, ⟨1, []⟩], [⟨0, []⟩, ⟨1, []⟩]]
def PrcPost (w : World) (S L : Int) (rs : List (List Rul)) (e : Ending) (w' : World) : Prop :=
  ∃ oa c, e = .returned (.agg #[.int .i64 S, .int .i64 L, .slice oa rs.length c]) ∧ rs.length ≤ c ∧ SliceR (slcR ruleR 2) 1 All w' oa rs ∧ Below w.heap.size w w'

theorem lit1 {α : Type} {R : Rep α} {sz : Nat} {F G : Foot} (ok : RepOk R sz) (w : World) (e : TypeId) (cs : List Value) (x : α) (h : R F w cs x) (hFG : ∀ k, F k → G k) (hG : G w.heap.size) :
    SliceR R sz G (w.alloc (.cells [cs].flatten.toArray e)) (some ⟨w.heap.size, 0, none⟩) [x] :=
  SliceR.lit ok w e [cs] [x] (fun i y hy => by match i, hy with | 0, hy => simp at hy; subst hy; exact ⟨cs, rfl, h⟩) rfl hFG hG
end Go.Proofs.YtpgopmmobbemcaaGreat

set_option linter.unusedVariables false
namespace Go.Proofs.YtpgopmmobbemcaaGreat
open Go.RowKit

end Go.Proofs.YtpgopmmobbemcaaGreat

set_option linter.unusedVariables false
namespace Go.Proofs.YtpgopmmobbemcaaGreat
open Go.RowKit

theorem OwnS.bound {α : Type} {R : Rep α} {sz base : Nat} {e : TypeId} {F : Foot} {w : World} {v : Value} {xs : List α} (h : OwnS R sz base e F w v xs) : xs.length ≤ 9223372036854775807 := by
  obtain ⟨cells, ho, _⟩ := h
  rcases ho.2 with ⟨_, hn⟩ | ⟨g, cap, cur, _, _, _, hle, hm, _⟩
  · omega
  · unfold maxLen at hm; omega

end Go.Proofs.YtpgopmmobbemcaaGreat

set_option linter.unusedVariables false
namespace Go.Proofs.YtpgopmmobbemcaaGreat
open Go.RowKit

def commRes (p : Prc) (s a b : Int) : Bool × Int :=
  if stateErr p s = 0 then (if belowB a p.letters && belowB b p.letters then (commB p.rules s a b, 0) else (false, 2)) else (false, stateErr p s)
def BoolPost (w : World) (r : Bool × Int) (e : Ending) (w' : World) : Prop :=
  e = .returned (.tuple #[.bool r.1, .int .i64 r.2]) ∧ Below w.heap.size w w'
end Go.Proofs.YtpgopmmobbemcaaGreat

set_option linter.unusedVariables false
namespace Go.Proofs.YtpgopmmobbemcaaGreat
open Go.RowKit

def RightP (S L s : Int) (rs : List (List Rul)) (word : List Int) : Prop := checkErr ⟨S, L, rs⟩ 12 = 0 ∧ (0 ≤ s ∧ s < S) ∧ word.length ≤ 40 ∧ lettersErr L word = 0

end Go.Proofs.YtpgopmmobbemcaaGreat

set_option linter.unusedVariables false
namespace Go.Proofs.YtpgopmmobbemcaaGreat
open Go.RowKit

def sumLen (l : List (List Out)) : Nat := (l.map List.length).sum

end Go.Proofs.YtpgopmmobbemcaaGreat

set_option linter.unusedVariables false
namespace Go.Proofs.YtpgopmmobbemcaaGreat
open Go.RowKit

theorem readSpec_app (rs : List (List Rul)) : ∀ (a b : List Int) (s : Int), readSpec rs s (a ++ b) = ((readSpec rs (readSpec rs s a).1 b).1, (readSpec rs s a).2 ++ (readSpec rs (readSpec rs s a).1 b).2)
  | [], b, s => by simp [readSpec]
  | x :: a, b, s => by
    have h := readSpec_app rs a b (ruleAt rs s x).next
    simp only [List.cons_append, readSpec]
    rw [h]
    simp
theorem letters_of {L : Int} : ∀ {l : List Int}, (∀ a ∈ l, 0 ≤ a ∧ a < L) → lettersErr L l = 0
  | [], _ => rfl
  | a :: r, h => by
    have h1 := h a (by simp)
    have h2 : belowB a L = true := by simp [belowB]; omega
    simp only [lettersErr, h2]
    exact letters_of fun x hx => h x (by simp [hx])
theorem SliceR.take {α : Type} {R : Rep α} {sz : Nat} {F : Foot} {w : World} {oa : Option Addr} {xs : List α} (h : SliceR R sz F w oa xs) (k : Nat) : SliceR R sz F w oa (xs.take k) := by
  intro i x hx
  rw [List.getElem?_take] at hx
  split at hx
  · exact h i x hx
  · cases hx
end Go.Proofs.YtpgopmmobbemcaaGreat

set_option linter.unusedVariables false
set_option linter.unusedSimpArgs false
set_option linter.unnecessarySimpa false
namespace Go.Proofs.YtpgopmmobbemcaaGreat
open Go.RowKit

def negB (l : List Int) : Bool := l.any fun x => decide (x < 0)

set_option maxHeartbeats 400000 in
theorem min_any (l : List Int) (oa : Option Addr) (c : Nat) (F : Foot) (w : World) (hs : SliceR intR 1 F w oa l) (hc : l.length ≤ c) (hc2 : l.length ≤ 9223372036854775807) (hne : 0 < l.length) :
    Calls Tryz.prog 90 #[.slice oa l.length c] w fun e w' => ∃ m : Int, e = .returned (.int .i64 m) ∧ decide (m < 0) = negB l ∧ w = w' := by
  obtain ⟨x0, hd0, _, i0, b, off, hoa, _, c0⟩ := hs.int_at hne
  have hoa' := hoa
  subst hoa'
  have HD0 := hide hd0
  have H0 : Hid (decide (x0 < 0) = negB (l.take 1)) := by
    rw [List.drop_zero] at hd0
    show _ = _
    rw [hd0]
    simp [negB]
  have I0 := hide i0
  clear hd0 hoa i0
  rw [Nat.add_zero] at c0
  have hl1 : decide ((l.length : Int) < 1) = false := by simp; omega
  go_enter Tryz.func90, Tryz.ntmps90
  go_wp2_with fail
  go_loop [3, 4] (fun mv i => ∃ (k : Nat) (m : Int), 0 < k ∧ k ≤ l.length ∧ mv = .int .i64 m ∧ i = .int .i64 k ∧ Hid (decide (m < 0) = negB (l.take k))) (fun _ i => l.length - (intOf i).toNat)
  case atStart => exact ⟨1, x0, by omega, by omega, rfl, rfl, H0⟩
  case round =>
    obtain ⟨k, m, hk0, hk, rfl, rfl, HM⟩ := hrel
    by_cases hlt : k < l.length
    · obtain ⟨x, hd, hget, _, b', off', hoa, _, cx⟩ := hs.int_at hlt
      injection hoa with hoa
      injection hoa with e1 e2
      subst e1 e2
      have HN : Hid (negB (l.take (k + 1)) = (negB (l.take k) || decide (x < 0))) := by
        show _ = _
        rw [List.take_add_one, hget]
        simp [negB]
      clear hd hget
      by_cases hmx : x < m
      · go_wp2_with fail
        go_round
        case rel =>
          refine ⟨k + 1, _, by omega, by omega, rfl, by go_num, ?_⟩
          show _ = _
          rw [HN.out, ← HM.out]
          by_cases h1 : m < 0 <;> by_cases h2 : x < 0 <;> simp [h1, h2] <;> omega
        case measure => simp [intOf]; omega
      · go_wp2_with fail
        go_round
        case rel =>
          refine ⟨k + 1, _, by omega, by omega, rfl, by go_num, ?_⟩
          show _ = _
          rw [HN.out, ← HM.out]
          by_cases h1 : m < 0 <;> by_cases h2 : x < 0 <;> simp [h1, h2] <;> omega
        case measure => simp [intOf]; omega
    · go_wp2_with fail
      go_ret
      refine ⟨m, rfl, ?_, rfl⟩
      rw [HM.out, List.take_of_length_le (by omega)]

end Go.Proofs.YtpgopmmobbemcaaGreat

set_option linter.unusedVariables false
namespace Go.Proofs.YtpgopmmobbemcaaGreat
open Go.RowKit

theorem mul64_one (n : Nat) (hn : n ≤ 1000000) (w : World) : Calls Tryz.prog 135 #[.int .u64 1, .int .u64 n] w fun e w' => e = .returned (.tuple #[.int .u64 0, .int .u64 n]) ∧ w = w' := by
  have h1 : bits .and .u64 (1 : Int) 4294967295 = 1 := by decide
  have h2 : bits .and .u64 (n : Int) 4294967295 = n := by
    have h := bits_and_u64_nat n 4294967295 (by omega) (by omega)
    have e : n &&& 4294967295 = n % 4294967296 := Nat.and_two_pow_sub_one_eq_mod n 32
    rw [e, Nat.mod_eq_of_lt (by omega)] at h
    exact h
  have h3 : bits .and .u64 (0 : Int) 4294967295 = 0 := by decide
  have h4 : (n : Int) / 4294967296 = 0 := by omega
  have h5 : IntKind.u64.wrap (n : Int) = n := by rw [IntKind.wrap_u64]; omega
  go_enter Tryz.func135, Tryz.ntmps135
  go_wp2_with fail
  go_ret2
  simp
theorem mul_one (n : Nat) (hn : n ≤ 1000000) (w : World) : Calls Tryz.prog 109 #[.int .u64 1, .int .u64 n] w fun e w' => e = .returned (.tuple #[.int .u64 0, .int .u64 n]) ∧ w = w' := by
  go_enter Tryz.func109, Tryz.ntmps109
  go_wp2_with (go_at_call 135; refine (mul64_one n hn _).mono ?_; rintro e w' ⟨rfl, rfl⟩)
  go_ret2
  exact ⟨rfl, rfl⟩

theorem intInfo : (Tryz.prog.info? 3).map (fun i => (i.zero, i.size, i.bytes)) = some (some (.int .i64 0), 1, 8) := by kernel_rfl
theorem intSize : (Tryz.prog.info? 3).map (·.size) = some 1 := by kernel_rfl

def IntsMade (w : World) (r : List Int) (e : Ending) (w' : World) : Prop :=
  ∃ v, e = .returned v ∧ OwnS intR 1 w.heap.size 3 Non w' v r ∧ Below w.heap.size w w'

/-- A row of n cells, of which the first m hold x. -/
def RowI (w : World) (g n : Nat) (x : Int) (m : Nat) : Prop := ∃ cur : List Value, w.heap[g]? = some (.cells cur.toArray 3 (0, 0)) ∧ cur.length = n ∧ ∀ j, j < m → cur[j]? = some (.int .i64 x)

theorem copy_first {w w1 : World} {n c b off : Nat} {x : Int} {zs : List Value} (hown : w1.ownsRow w.heap.size 3 1 (.slice (some ⟨w.heap.size, 0, none⟩) n n) n zs) (hg : w.grownBy w1 none) (cx : w.cell? ⟨b, off, none⟩ = some (.int .i64 x)) :
    ∃ (m : Nat) (w2 : World), Hid (m = min n 1) ∧ (Builtin.copy_ #[25, 25] 3 #[.slice (some ⟨w.heap.size, 0, none⟩) n n, .slice (some ⟨b, off, none⟩) 1 c]).run Tryz.prog w1 = .ok (.int .i64 m) w2 ∧ RowI w2 w.heap.size n x m ∧ Below w.heap.size w w2 := by
  obtain ⟨hl, hv⟩ := hown
  have hb1 : Below w.heap.size w w1 := (Below.refl w.heap.size w).grown hg (Nat.le_refl _) fun k hk => by cases hk
  rcases hv with ⟨he, _⟩ | ⟨g, cap, cur, he, _, hh, _, _, hcs, _⟩
  · cases he
  · injection he with h1 h2 h3
    injection h1 with h1
    injection h1 with h1
    subst h1 h3
    rcases Nat.eq_zero_or_pos n with h0 | h0
    · subst h0
      refine ⟨0, w1, rfl, run_copy_none w1 _ _ _ 3 _ _ _ _ _ _ Tryz.underlying25 intSize (by simp), ⟨cur.toList, by simpa using hh, by simpa using hcs, fun j hj => by omega⟩, hb1⟩
    · have hcell : w1.cell? ⟨b, off, none⟩ = some (.int .i64 x) := (hb1.cell (World.block_lt_of_cell? _ _ cx)).trans cx
      have hrun := run_copy_row (P := Tryz.prog) w1 25 25 3 3 w.heap.size 0 n n ⟨b, off, none⟩ 1 c cur 3 [.int .i64 x] Tryz.underlying25 intSize hh (by show 1 = min 1 n; omega) (fun j v hj => by
        match j, hj with
        | 0, hj => simp at hj; subst hj; simpa [Addr.add] using hcell) (by rw [hcs]; simp; omega) (by simp [Value.oneCell'])
      refine ⟨1, _, by show _ = _; omega, hrun, ⟨_, setRow_heap w1 _ _ _ _ _ hh, ?_, ?_⟩, below_setRow hb1 (Nat.le_refl _) _⟩
      · simp [hcs]; omega
      · intro j hj
        have : j = 0 := by omega
        subst this
        simp

set_option maxRecDepth 100000 in
set_option maxHeartbeats 2000000 in
theorem repeat_any (x : Int) (n c : Nat) (oa : Option Addr) (F : Foot) (w : World) (ix : I64 x) (hn : n ≤ 256) (hs : SliceR intR 1 F w oa [x]) :
    Calls Tryz.prog 153 #[.slice oa 1 c, .int .i64 n] w (IntsMade w (List.replicate n x)) := by
  obtain ⟨x', _, hx', _, b, off, rfl, _, cx⟩ := hs.int_at (i := 0) (by simp)
  simp at hx'
  subst hx'
  rw [Nat.add_zero] at cx
  obtain ⟨i, hi, hz, hsz, hby⟩ := info_parts intInfo
  have IX := hide ix
  have HI := hide (And.intro hi (And.intro hz (And.intro hsz hby)))
  clear hi hz hsz hby ix
  have hd1 : decide ((n : Int) < 0) = false := by simp
  have hd2 : decide (9223372036854775807 < (n : Int)) = false := by simp; omega
  go_enter Tryz.func153, Tryz.ntmps153
  go_wp2_with (first
    | (go_at_call 109; refine (mul_one n (by omega) _).mono ?_; rintro e w' ⟨rfl, rfl⟩)
    | (at_make; refine wpList_make_full _ rfl _ _ 25 rfl w.heap.size 3 i _ 1 Tryz.underlying25 HI.out.1 HI.out.2.1 HI.out.2.2.1 .i64 .i64 _ _ n rfl rfl rfl rfl (by rw [HI.out.2.2.2]; omega) (by unfold maxLen; omega) (Nat.le_refl _) (fun w1 hown hgrow => ?_)
       obtain ⟨m0, w2, HM0, hcp, hrow, hbw⟩ := copy_first (c := c) hown hgrow cx
       clear hown hgrow))
  clear hcp cx
  go_loopw [8] (fun v wr => ∃ m : Nat, v = .int .i64 m ∧ m ≤ n ∧ (n = 0 ∨ 0 < m) ∧ RowI wr w.heap.size n x m ∧ Below w.heap.size w wr) (fun v _ => n - (intOf v).toNat)
  case atStart => exact ⟨m0, rfl, by have := HM0.out; omega, by have := HM0.out; omega, hrow, hbw⟩
  case round =>
    obtain ⟨m, rfl, hmn, hm0, ⟨cur, hcur, hcl, hcx⟩, hb⟩ := hrel
    by_cases hlt : m < n
    · have hm1 : 0 < m := by omega
      have hnm : ¬ n = m := by omega
      obtain ⟨q, hq⟩ : ∃ q, q = min m (n - m) := ⟨_, rfl⟩
      have hq1 : 0 < q := by omega
      have hq2 : m + q ≤ n := by omega
      have hqm : q ≤ m := by omega
      have hwr : IntKind.i64.wrap ((m : Int) + (q : Int)) = (m : Int) + q := IntWalk.i64_in _ (by omega)
      have HQ := hide hq
      have HCUR := hide hcur
      have HCX := hide hcx
      have HCL := hide hcl
      clear hq hcur hcx hcl hrow hbw
      go_wp2_with fail
      go_region_law (refine step_copy_splice rfl (.tmp 41) (.tmp 44) 25 25 rfl 3 Tryz.underlying25 intSize (some ⟨w.heap.size, m, none⟩) (some ⟨w.heap.size, 0, none⟩) (n - m) (n - m) m n (by simp [Act.eval, Act.put]) (by simp [Act.eval, Act.put]) w.heap.size m cur 3 HCUR.out (List.replicate q (.int .i64 x)) (by have := HQ.out; simp; omega) (fun _ => ⟨rfl, _, rfl, fun j v hj => by
        have hjq : j < q := by have := (List.getElem?_eq_some_iff.1 hj).1; simpa using this
        rw [List.getElem?_replicate] at hj
        simp [hjq] at hj
        subst hj
        rw [show (Addr.mk w.heap.size 0 none).add j = ⟨w.heap.size, j, none⟩ from by unfold Addr.add; split <;> simp_all]
        change wr.cell? ⟨w.heap.size, j, none⟩ = _
        rw [cell_of_row wr w.heap.size j _ _ _ HCUR.out]
        simpa using HCX.out j (by omega)⟩) (by simp; have := HCL.out; omega) (by simp [Value.oneCell']) w.heap.size w hb.drew (Nat.le_refl _) ?_; intro w4 hg4 hb4)
      all_goals
        simp [Act.put]
        go_roundw
        case rel =>
          refine ⟨_, _, _, _, _, _, _, _, _, _, _, _, _, _, ⟨m + q, by go_num, by omega, .inr (by omega), ⟨_, hg4.out, by rw [length_splice _ _ _ (by simp; have := HCL.out; omega)]; exact HCL.out, ?_⟩, hb4⟩, rfl⟩
          intro j hj
          unfold splice
          have hcl := HCL.out
          by_cases h : j < m
          · rw [List.getElem?_append_left (by simp; omega), List.getElem?_take_of_lt h]
            exact HCX.out j h
          · rw [List.getElem?_append_right (by simp; omega), List.getElem?_append_left (by simp; omega), List.getElem?_replicate]
            rw [if_pos (by simp; omega)]
        case measure => simp [intOf]; omega
    · have hmn2 : m = n := by omega
      subst hmn2
      have HCUR := hide hcur
      have HCX := hide hcx
      have HCL := hide hcl
      clear hcur hcx hcl
      go_wp2_with fail
      go_ret
      have hcl := HCL.out
      have hrep : cur = List.replicate m (.int .i64 x) := by
        apply List.ext_getElem?
        intro j
        by_cases h : j < m
        · rw [HCX.out j h, List.getElem?_replicate, if_pos h]
        · rw [List.getElem?_eq_none (by omega), List.getElem?_eq_none (by simp; omega)]
      subst hrep
      refine ⟨_, rfl, ⟨List.replicate m (.int .i64 x), ⟨by simp, .inr ⟨w.heap.size, m, _, by simp, Nat.le_refl _, HCUR.out, by simp, by unfold maxLen; omega, by simp, by simp⟩⟩, ?_, ?_⟩, hb⟩
      · intro u hu
        rw [List.eq_of_mem_replicate hu]
        rfl
      · intro j y hy
        have hj : j < m := by have := (List.getElem?_eq_some_iff.1 hy).1; simpa using this
        rw [List.getElem?_replicate, if_pos hj] at hy
        injection hy with hy
        subst hy
        refine ⟨?_, IX.out⟩
        unfold chunk
        apply List.ext_getElem?
        intro k
        rw [List.getElem?_take]
        split
        · have : k = 0 := by omega
          subst this
          rw [List.getElem?_drop, List.getElem?_replicate, if_pos (by omega)]
          rfl
        · rw [List.getElem?_eq_none (by simp; omega)]

end Go.Proofs.YtpgopmmobbemcaaGreat

set_option linter.unusedVariables false
namespace Go.Proofs.YtpgopmmobbemcaaGreat
open Go.RowKit

def wordFrom : Nat → List Int → List Int
  | _, [] => []
  | a, n :: r => List.replicate n.toNat (a : Int) ++ wordFrom (a + 1) r
def manyErr (L : Int) (l : List Int) : Int := if (l.length : Int) = L then (if negB l then 2 else if 256 < (wordFrom 0 l).length then 5 else 0) else 8

end Go.Proofs.YtpgopmmobbemcaaGreat

set_option linter.unusedVariables false
namespace Go.Proofs.YtpgopmmobbemcaaGreat
open Go.RowKit

end Go.Proofs.YtpgopmmobbemcaaGreat

set_option linter.unusedVariables false
namespace Go.Proofs.YtpgopmmobbemcaaGreat
open Go.RowKit

def capS : List Int → Int
  | [] => 0
  | n :: r => min n 257 + capS r
end Go.Proofs.YtpgopmmobbemcaaGreat

set_option linter.unusedVariables false
namespace Go.Proofs.YtpgopmmobbemcaaGreat
open Go.RowKit

def manyRes (p : Prc) (s : Int) (l : List Int) : Int × List Out × Int :=
  if stateErr p s = 0 then (if manyErr p.letters l = 0 then ((readSpec p.rules s (wordFrom 0 l)).1, isort (readSpec p.rules s (wordFrom 0 l)).2, 0) else (0, [], manyErr p.letters l)) else (0, [], stateErr p s)

end Go.Proofs.YtpgopmmobbemcaaGreat

set_option linter.unusedVariables false
set_option linter.unusedSimpArgs false
namespace Go.Proofs.YtpgopmmobbemcaaGreat
open Go.RowKit

/-- All letters commute in all states. -/
def AllComm (rs : List (List Rul)) (S L : Int) : Prop := ∀ s a b : Int, 0 ≤ s ∧ s < S → 0 ≤ a ∧ a < L → 0 ≤ b ∧ b < L → commB rs s a b = true

theorem read_range {S L : Int} {rs : List (List Rul)} (hV : checkErr ⟨S, L, rs⟩ 12 = 0) (l : List Int) (s : Int) (hs : 0 ≤ s ∧ s < S) (hl : ∀ a ∈ l, 0 ≤ a ∧ a < L) : 0 ≤ (readSpec rs s l).1 ∧ (readSpec rs s l).1 < S :=
  (readSpec_right (p := ⟨S, L, rs⟩) hV l s hs (letters_of hl)).1

theorem read_perm {S L : Int} {rs : List (List Rul)} (hV : checkErr ⟨S, L, rs⟩ 12 = 0) (hC : AllComm rs S L) {l m : List Int} (hp : l.Perm m) :
    (∀ a ∈ l, 0 ≤ a ∧ a < L) → ∀ s : Int, 0 ≤ s ∧ s < S → (readSpec rs s l).1 = (readSpec rs s m).1 ∧ (readSpec rs s l).2.Perm (readSpec rs s m).2 := by
  induction hp with
  | nil => intro _ s _; exact ⟨rfl, List.Perm.refl _⟩
  | cons a _ ih =>
    intro hl s hs
    have h1 := read_range hV [a] s hs (fun x hx => hl x (by simp at hx; simp [hx]))
    have h2 := ih (fun x hx => hl x (by simp [hx])) (ruleAt rs s a).next h1
    simp only [readSpec]
    exact ⟨h2.1, h2.2.append_left _⟩
  | swap a b r =>
    intro hl s hs
    have h := hC s b a hs (hl b (by simp)) (hl a (by simp))
    unfold commB at h
    simp only [Bool.and_eq_true, decide_eq_true_eq] at h
    have e1 := readSpec_app rs [b, a] r s
    have e2 := readSpec_app rs [a, b] r s
    simp only [List.cons_append, List.nil_append] at e1 e2
    rw [e1, e2]
    refine ⟨by simp only; rw [h.1], ?_⟩
    simp only
    rw [h.1]
    refine List.Perm.append_right _ ?_
    exact ((isort_perm _).symm.trans (h.2 ▸ List.Perm.refl _)).trans (isort_perm _)
  | trans h1 h2 ih1 ih2 =>
    intro hl s hs
    have a1 := ih1 hl s hs
    have a2 := ih2 (fun x hx => hl x (h1.mem_iff.2 hx)) s hs
    exact ⟨a1.1.trans a2.1, a1.2.trans a2.2⟩

/-- The counts of a word's letters. -/
def tally (L : Nat) (l : List Int) : List Int := (List.range L).map fun a : Nat => (l.count (a : Int) : Int)
theorem tally_nil (L : Nat) : tally L [] = List.replicate L 0 := by
  apply List.ext_getElem?
  intro i
  simp only [tally, List.getElem?_map, List.getElem?_replicate]
  by_cases h : i < L
  · simp [h]
  · simp [h]
end Go.Proofs.YtpgopmmobbemcaaGreat

set_option linter.unusedVariables false
set_option linter.unusedSimpArgs false
namespace Go.Proofs.YtpgopmmobbemcaaGreat
open Go.RowKit

theorem sub_rest : ∀ (h h' : List Int), (∀ a, h.count a ≤ h'.count a) → ∃ r, h'.Perm (h ++ r)
  | [], h', _ => ⟨h', List.Perm.refl _⟩
  | a :: t, h', hc => by
    have ha : a ∈ h' := by
      have := hc a
      rw [List.count_cons_self] at this
      exact List.count_pos_iff.1 (by omega)
    have hp := List.perm_cons_erase ha
    obtain ⟨r, hr⟩ := sub_rest t (h'.erase a) fun b => by
      have h1 := hc b
      rw [hp.count_eq b, List.count_cons, List.count_cons] at h1
      omega
    exact ⟨r, hp.trans (hr.cons a)⟩

def sumN (f : Nat → Nat) : Nat → Nat
  | 0 => 0
  | n + 1 => sumN f n + f n
theorem sumN_le {f g : Nat → Nat} : ∀ {n : Nat}, (∀ p, p < n → f p ≤ g p) → sumN f n ≤ sumN g n
  | 0, _ => Nat.le_refl _
  | n + 1, h => by
    have h1 := sumN_le (n := n) fun p hp => h p (by omega)
    have h2 := h n (by omega)
    simp only [sumN]
    omega
theorem sumN_eq {f g : Nat → Nat} {n : Nat} (h : ∀ p, p < n → f p = g p) : sumN f n = sumN g n :=
  Nat.le_antisymm (sumN_le fun p hp => Nat.le_of_eq (h p hp)) (sumN_le fun p hp => Nat.le_of_eq (h p hp).symm)
theorem sumN_one {f g : Nat → Nat} {k : Nat} : ∀ {n : Nat}, k < n → (∀ p, p < n → p ≠ k → f p = g p) → sumN f n + g k = sumN g n + f k
  | 0, h, _ => by omega
  | n + 1, h, he => by
    simp only [sumN]
    by_cases hk : k = n
    · subst hk
      rw [sumN_eq fun p hp => he p (by omega) (by omega)]
      omega
    · have h1 := sumN_one (n := n) (k := k) (by omega) fun p hp hne => he p (by omega) hne
      rw [he n (by omega) (by omega)]
      omega
theorem sumN_mem {f : Nat → Nat} {k : Nat} : ∀ {n : Nat}, k < n → f k ≤ sumN f n
  | 0, h => by omega
  | n + 1, h => by
    simp only [sumN]
    by_cases hk : k = n
    · subst hk; omega
    · have := sumN_mem (f := f) (n := n) (k := k) (by omega)
      omega
theorem sumN_le_eq {f g : Nat → Nat} : ∀ {n : Nat}, (∀ p, p < n → f p ≤ g p) → sumN g n ≤ sumN f n → ∀ p, p < n → f p = g p
  | 0, _, _, p, hp => by omega
  | n + 1, h, he, p, hp => by
    simp only [sumN] at he
    have h1 := sumN_le (n := n) fun p hp => h p (by omega)
    have h2 := h n (by omega)
    by_cases hk : p = n
    · subst hk; omega
    · exact sumN_le_eq (n := n) (fun p hp => h p (by omega)) (by omega) p (by omega)

/-- The letters a for q among some outputs. -/
def cntO (os : List Out) (q a : Nat) : Nat := os.countP fun o => decide (o.dst = (q : Int) ∧ o.letter = (a : Int))
theorem cntO_app (l m : List Out) (q a : Nat) : cntO (l ++ m) q a = cntO l q a + cntO m q a := by unfold cntO; rw [List.countP_append]
theorem cntO_perm {l m : List Out} (h : l.Perm m) (q a : Nat) : cntO l q a = cntO m q a := h.countP_eq _

/-- What a processor of a network comes to by a history. -/
def histR (x : Nwk) (p : Nat) (h : List Int) : Int × List Out := readSpec (x.procs.getD p prc0).rules (x.state.getD p 0) h
def sentN (x : Nwk) (hs : Nat → List Int) (q a : Nat) : Nat := sumN (fun p => cntO (histR x p (hs p)).2 q a) x.procs.length
def cellT (t : List (List Int)) (q a : Nat) : Int := (t.getD q []).getD a 0
def AbN (x : Nwk) : Prop := ∀ (i : Nat) (p : Prc), x.procs[i]? = some p → AllComm p.rules p.states p.letters
def InL (x : Nwk) (hs : Nat → List Int) : Prop := ∀ p, p < x.procs.length → ∀ a ∈ hs p, 0 ≤ a ∧ a < (lettersP x.procs p : Int)
def LeH (x : Nwk) (hs hc : Nat → List Int) : Prop := ∀ p, p < x.procs.length → ∀ a : Int, (hs p).count a ≤ (hc p).count a
def totH (x : Nwk) (hs : Nat → List Int) : Nat := sumN (fun p => (hs p).length) x.procs.length
/-- Complete histories: all letters that are there were read. -/
def Compl (x : Nwk) (hs : Nat → List Int) : Prop := ∀ q a, q < x.procs.length → a < lettersP x.procs q → cellT x.waiting q a + sentN x hs q a ≤ ((hs q).count (a : Int) : Int)

section
variable {x : Nwk} {hs hc : Nat → List Int}
theorem getD_procs {x : Nwk} {p : Nat} (hp : p < x.procs.length) : x.procs[p]? = some (x.procs.getD p prc0) := by rw [getD_some (List.getElem?_eq_getElem hp)]; exact List.getElem?_eq_getElem hp
theorem Right.st0 (hr : Right x) {p : Nat} (hp : p < x.procs.length) : 0 ≤ x.state.getD p 0 ∧ x.state.getD p 0 < (x.procs.getD p prc0).states := by
  have hs := List.getElem?_eq_getElem (show p < x.state.length by rw [hr.nst]; exact hp)
  rw [getD_some hs]
  exact hr.st p _ _ hs (getD_procs hp)
theorem Right.let0 (hr : Right x) {p : Nat} (hp : p < x.procs.length) : (x.procs.getD p prc0).letters = (lettersP x.procs p : Int) := by
  have := hr.letters p hp
  unfold lettersP at this ⊢
  omega
theorem hist_perm (hr : Right x) (hA : AbN x) {p : Nat} (hp : p < x.procs.length) {l m : List Int} (hl : ∀ a ∈ l, 0 ≤ a ∧ a < (lettersP x.procs p : Int)) (h : l.Perm m) : (histR x p l).1 = (histR x p m).1 ∧ (histR x p l).2.Perm (histR x p m).2 := by
  have hpr := getD_procs hp
  have hck : checkErr (x.procs.getD p prc0) 12 = 0 := checkErr_more (hr.proc p _ hpr)
  exact read_perm (S := (x.procs.getD p prc0).states) (L := (x.procs.getD p prc0).letters) hck (hA p _ hpr) h (by rw [hr.let0 hp]; exact hl) _ (hr.st0 hp)
theorem hist_mono (hr : Right x) (hA : AbN x) {p : Nat} (hp : p < x.procs.length) {l m : List Int} (hm : ∀ a ∈ m, 0 ≤ a ∧ a < (lettersP x.procs p : Int)) (hc : ∀ a, l.count a ≤ m.count a) (q a : Nat) : cntO (histR x p l).2 q a ≤ cntO (histR x p m).2 q a := by
  obtain ⟨r, hp'⟩ := sub_rest l m hc
  rw [cntO_perm (hist_perm hr hA hp hm hp').2]
  unfold histR
  rw [readSpec_app]
  simp only [cntO_app]
  omega
theorem sent_mono (hr : Right x) (hA : AbN x) (hI : InL x hc) (hL : LeH x hs hc) (q a : Nat) : sentN x hs q a ≤ sentN x hc q a :=
  sumN_le fun p hp => hist_mono hr hA hp (hI p hp) (hL p hp) q a
/-- The least action: where a letter may still be read, fewer have been read than by complete histories. -/
theorem least (hr : Right x) (hA : AbN x) (hI : InL x hc) (hC : Compl x hc) (hL : LeH x hs hc) {q a : Nat} (hq : q < x.procs.length) (ha : a < lettersP x.procs q) (h : ((hs q).count (a : Int) : Int) < cellT x.waiting q a + sentN x hs q a) :
    (hs q).count (a : Int) < (hc q).count (a : Int) := by
  have h1 := sent_mono hr hA hI hL q a
  have h2 := hC q a hq ha
  omega
theorem LeH.len (h : LeH x hs hc) {p : Nat} (hp : p < x.procs.length) : (hs p).length ≤ (hc p).length := by
  obtain ⟨r, hr⟩ := sub_rest _ _ (h p hp)
  rw [hr.length_eq, List.length_append]
  omega
theorem LeH.tot (h : LeH x hs hc) : totH x hs ≤ totH x hc := sumN_le fun p hp => h.len hp
/-- A history with one letter more. -/
def upH (hs : Nat → List Int) (p : Nat) (a : Int) : Nat → List Int := fun q => if q = p then hs q ++ [a] else hs q
/-- A network behind some moves, with what each processor has read. -/
structure HistI (x : Nwk) (hs : Nat → List Int) (y : Nwk) (ct : List (List Int)) : Prop where
  procs : y.procs = x.procs
  right : Right y
  inl : InL x hs
  st : ∀ p, p < x.procs.length → y.state.getD p 0 = (histR x p (hs p)).1
  ct : ct = (List.range x.procs.length).map fun p => tally (lettersP x.procs p) (hs p)
  wt : ∀ q a, q < x.procs.length → a < lettersP x.procs q → cellT y.waiting q a + ((hs q).count (a : Int) : Int) = cellT x.waiting q a + sentN x hs q a
theorem HistI.begin_ (hr : Right x) : HistI x (fun _ => []) x (x.procs.map fun p => List.replicate p.letters.toNat (0 : Int)) where
  procs := rfl
  right := hr
  inl := fun p hp a ha => by simp at ha
  st := fun p hp => rfl
  ct := by
    apply List.ext_getElem?
    intro i
    simp only [List.getElem?_map, tally_nil]
    by_cases h : i < x.procs.length
    · rw [List.getElem?_range h, getD_procs h]
      rfl
    · rw [List.getElem?_eq_none (by omega), List.getElem?_eq_none (by simp; omega)]
      rfl
  wt := fun q a hq ha => by
    have : sentN x (fun _ => []) q a = 0 := by
      have h1 := sumN_eq (f := fun p => cntO (histR x p []).2 q a) (g := fun _ => 0) (n := x.procs.length) fun p hp => rfl
      have h2 : ∀ n, sumN (fun _ => 0) n = 0 := fun n => by
        induction n with
        | zero => rfl
        | succ n ih => simp only [sumN]; omega
      unfold sentN
      rw [h1, h2]
    rw [this]
    simp

end

theorem LeH.nil (x : Nwk) (hc : Nat → List Int) : LeH x (fun _ => []) hc := fun p _ a => by simp
end Go.Proofs.YtpgopmmobbemcaaGreat

set_option linter.unusedVariables false
set_option linter.unusedSimpArgs false
namespace Go.Proofs.YtpgopmmobbemcaaGreat
open Go.RowKit

end Go.Proofs.YtpgopmmobbemcaaGreat

set_option linter.unusedVariables false
set_option linter.unusedSimpArgs false
namespace Go.Proofs.YtpgopmmobbemcaaGreat
open Go.RowKit

def atE (n : Int) (es : List Edg) (vs : List Int) : Int := if gErr n es = 0 then (if vs.all (vtxB n) then 0 else 2) else gErr n es
set_option maxRecDepth 100000 in
set_option maxHeartbeats 1000000 in
theorem gat_any (n : Int) (es : List Edg) (oe : Option Addr) (c : Nat) (vs : List Int) (ov : Option Addr) (cv : Nat) (F G : Foot) (w : World) (hs : SliceR edgR 3 F w oe es) (hc : es.length ≤ c) (hc2 : es.length ≤ 9223372036854775807)
    (hv : SliceR intR 1 G w ov vs) (hcv : vs.length ≤ 1000000) :
    Calls Tryz.prog 123 #[.agg #[.int .i64 n, .slice oe es.length c], .slice ov vs.length cv] w (ErrPost w (atE n es vs)) := by
  obtain ⟨W1, e1⟩ : ∃ W1, w.alloc (.cells #[.int .i64 n, .slice oe es.length c] 24) = W1 := ⟨_, rfl⟩
  have bx : Box W1 w.heap.size [.int .i64 n, .slice oe es.length c] 24 := by rw [← e1]; exact Box.new w [.int .i64 n, .slice oe es.length c] 24
  have bb1 := bnew (Below.refl w.heap.size w) (.cells #[.int .i64 n, .slice oe es.length c] 24)
  rw [e1] at bb1
  have HCK := hide (gcheck_any n es oe c F W1 (hs.below edgR_ok bb1) hc hc2)
  have d0 := bx.cell 0
  have d1 := bx.cell 1
  simp only [List.getElem?_cons_zero, List.getElem?_cons_succ] at d0 d1
  have HX := hide bx
  have HB1 := hide bb1
  obtain ⟨ge, hge⟩ : ∃ ge, ge = gErr n es := ⟨_, rfl⟩
  rw [← hge] at HCK
  have HGE := hide hge
  clear hge bx bb1
  by_cases hg0 : ge = 0
  · subst hg0
    have HR : Hid (atE n es vs = if vs.all (vtxB n) then 0 else 2) := by
      show _ = _
      unfold atE
      rw [if_pos HGE.out.symm]
    go_enter Tryz.func123, Tryz.ntmps123
    go_wp2_with (go_at_call 110; refine HCK.out.mono ?_; rintro e w2 ⟨rfl, hb2⟩; have HB2 := hide hb2; have x2 := HX.out.below hb2; have HX2 := hide x2; clear hb2 x2)
    go_loopw [15] (fun iv wr => ∃ k : Nat, k ≤ vs.length ∧ iv = .int .i64 k ∧ Hid (vs.all (vtxB n) = (vs.drop k).all (vtxB n)) ∧ wr = w2) (fun i _ => vs.length - (intOf i).toNat)
    case atStart => exact ⟨0, by omega, rfl, rfl, rfl⟩
    case round =>
      obtain ⟨k, hk, rfl, HE, rfl⟩ := hrel
      have hbw : Below w.heap.size w wr := HB1.out.trans (HB2.out.mono HB1.out.size)
      have HBW := hide hbw
      have y0 := HX2.out.cell 0
      simp only [List.getElem?_cons_zero] at y0
      by_cases hlt : k < vs.length
      · obtain ⟨x, hd, hget, _, b, off, rfl, _, cx⟩ := (hv.below intR_ok hbw).int_at hlt
        have HD := hide hd
        clear hd hget hbw
        cases hq : vtxB n x
        · have HQ := hide hq
          have HR2 : Hid (vs.all (vtxB n) = false) := by
            show _ = _
            rw [HE.out, HD.out]
            simp [HQ.out]
          clear hq
          go_wp2_with (go_at_call 136; refine (gvertex_any n x _).mono ?_; rintro e w' ⟨rfl, rfl⟩; rw [HQ.out])
          go_ret
          exact ⟨ret_int (by rw [HR.out, HR2.out]; rfl), HBW.out⟩
        · have HQ := hide hq
          clear hq
          go_wp2_with (go_at_call 136; refine (gvertex_any n x _).mono ?_; rintro e w' ⟨rfl, rfl⟩; rw [HQ.out])
          go_roundw
          case rel =>
            refine ⟨k + 1, by omega, by go_num, ?_, by first | rfl | trivial⟩
            show _ = _
            rw [HE.out, HD.out, List.all_cons, HQ.out, Bool.true_and]
          case measure => simp [intOf]; omega
      · have HR2 : Hid (vs.all (vtxB n) = true) := by
          show _ = _
          rw [HE.out, List.drop_eq_nil_of_le (by omega)]
          rfl
        clear hbw
        go_wp2_with fail
        go_ret
        exact ⟨ret_int (by rw [HR.out, HR2.out]; rfl), HBW.out⟩
  · have HR : Hid (atE n es vs = ge) := by
      show _ = _
      unfold atE
      rw [← HGE.out, if_neg hg0]
    go_enter Tryz.func123, Tryz.ntmps123
    go_wp2_with (go_at_call 110; refine HCK.out.mono ?_; rintro e w2 ⟨rfl, hb2⟩; have HB2 := hide hb2; clear hb2)
    go_ret
    exact ⟨ret_int HR.out.symm, HB1.out.trans (HB2.out.mono HB1.out.size)⟩

def btwRes (n : Int) (es : List Edg) (a b : Int) : Int × Int := if atE n es [a, b] = 0 then (betw es a b, 0) else (0, atE n es [a, b])
end Go.Proofs.YtpgopmmobbemcaaGreat

set_option linter.unusedVariables false
set_option linter.unusedSimpArgs false
namespace Go.Proofs.YtpgopmmobbemcaaGreat
open Go.RowKit

theorem run_copy_at {P : Program} (w : World) (dT sT ty elem : TypeId) (g off dLen dCap sz n : Nat) (ad : Addr) (sLen sCap : Nat) (cur : Array Value) (t : TypeId) (cs : List Value)
    (hu : P.underlying dT = some (.slice elem)) (hs : (P.info? elem).map (·.size) = some sz) (hg : w.heap[g]? = some (.cells cur t (0, 0))) (hn : n = Nat.min sLen dLen) (hc : cs.length = n * sz)
    (hsrc : ∀ j v, cs[j]? = some v → w.cell? (ad.add j) = some v) (hfit : off + cs.length ≤ cur.size) (h1 : ∀ v ∈ cs, v.oneCell' = true) :
    (Builtin.copy_ #[dT, sT] ty #[.slice (some ⟨g, off, none⟩) dLen dCap, .slice (some ad) sLen sCap]).run P w = .ok (goInt n) (w.setRow g (splice cur.toList off cs).toArray) := by
  have hl := run_loadCells_list (P := P) w ad cs hsrc
  have hst := run_storeCells_at P g off t cs 0 cur w hg (by simpa using hfit) h1
  cases hq : P.info? elem with
  | none => simp [hq] at hs
  | some i =>
    have hi : i.size = sz := by simpa [hq] using hs
    rw [hc] at hl
    rw [Nat.add_zero, List.append_assoc] at hst
    unfold splice
    simp [Builtin.copy_, run_underlying hu, Builtin.lenOf, Builtin.firstCells, sizeOf, typeInfo, hq, hi, ← hn, hl, hst]
/-- A copy within a drawn region, of n elements of sz cells. -/
theorem step_copy_at {P : Program} {ops : Array Oper} {o : Oper} {a : Act} {w : World} {K : Act → World → Prop} {Q : Exit → Act → World → Prop} {E : Prop} (hgd : o.guard = none) (d s : Operand) (dT sT : TypeId)
    (ho : o.op = .call { callee := .builtin .copy, args := #[d, s], argTypes := #[dT, sT] }) (elem : TypeId) (sz : Nat) (hu : P.underlying dT = some (.slice elem)) (hsz : (P.info? elem).map (·.size) = some sz)
    (g off dLen dCap : Nat) (ad : Addr) (sLen sCap : Nat) (hd : a.eval d = .slice (some ⟨g, off, none⟩) dLen dCap) (hs : a.eval s = .slice (some ad) sLen sCap)
    (cur : List Value) (t : TypeId) (hg : w.heap[g]? = some (.cells cur.toArray t (0, 0))) (n : Nat) (hn : n = Nat.min sLen dLen) (cs : List Value) (hc : cs.length = n * sz)
    (hsrc : ∀ j v, cs[j]? = some v → w.cell? (ad.add j) = some v) (hfit : off + cs.length ≤ cur.length) (h1 : ∀ v ∈ cs, v.oneCell' = true) (B : Nat) (w0 : World) (hb : RowKit.Below B w0 w) (hBg : B ≤ g)
    (h : ∀ w', RowKit.Hid (w'.heap[g]? = some (.cells (splice cur off cs).toArray t (0, 0))) → RowKit.Below B w0 w' → K (a.put o.dst (goInt n)) w') :
    if Region.wanted o (yielded ops a.tmps) = true then Oper.wp P o a w K Q else E := by
  have hw : Region.wanted o (yielded ops a.tmps) = true := by simp [Region.wanted, hgd]
  rw [if_pos hw]
  have hrun := run_copy_at (P := P) w dT sT o.type elem g off dLen dCap sz n ad sLen sCap cur.toArray t cs hu hsz hg hn hc hsrc (by simpa using hfit) h1
  unfold Oper.wp
  simp [execOp, ho, resolve, invoke, builtin, hd, hs, hrun, Result.andThen]
  exact h _ (show _ = _ by simpa using setRow_heap w g _ _ t _ hg) (below_setRow hb hBg _)

def pat (a b : Value) (j : Nat) : Value := if j % 2 = 0 then a else b
def pats (a b : Value) (n : Nat) : List Value := (List.range n).map (pat a b)
theorem pats_len (a b : Value) (n : Nat) : (pats a b n).length = n := by simp [pats]
theorem pats_get {a b : Value} {n j : Nat} (h : j < n) : (pats a b n)[j]? = some (pat a b j) := by simp [pats, h]
theorem pats_at {a b : Value} {n j : Nat} {v : Value} (h : (pats a b n)[j]? = some v) : j < n ∧ v = pat a b j := by
  have hj : j < n := by have := (List.getElem?_eq_some_iff.1 h).1; rwa [pats_len] at this
  rw [pats_get hj] at h
  injection h with h
  exact ⟨hj, h.symm⟩
end Go.Proofs.YtpgopmmobbemcaaGreat

set_option linter.unusedVariables false
set_option linter.unusedSimpArgs false
namespace Go.Proofs.YtpgopmmobbemcaaGreat
open Go.RowKit

def sinkP : Prc := ⟨1, 1, [[⟨0, []⟩]]⟩
/-- The letters that vertex v sends to the first i vertices. -/
def nbrU (es : List Edg) (v : Nat) (i : Nat) : List Out := (List.range i).flatMap fun w => if w = v then [] else List.replicate (betw es v w).toNat ⟨w, 0⟩
def topRow (sent : List Out) (s : Nat) : List Rul := [⟨((s + 1) % sent.length : Nat), if s + 1 = sent.length then sent else []⟩]
def topP (sent : List Out) : Prc := ⟨sent.length, 1, (List.range sent.length).map (topRow sent)⟩
theorem intlF {F : Foot} (w : World) (x : Int) (hx : I64 x) (hF : F w.heap.size) : SliceR intR 1 F (w.alloc (.cells #[.int .i64 x] 3)) (some ⟨w.heap.size, 0, none⟩) [x] := by
  have := ints_lit (F := F) (G := F) w 3 [x] (by intro z hz; simp at hz; subst hz; exact hx) hF
  simpa using this
def waitD (d : List Int) (q : Int) (i : Nat) : List (List Int) := (List.range i).map fun v : Nat => [if (v : Int) = q then 0 else d.getD v 0]
/-- What toppler comes to. -/
def TopPost (w : World) (sent : List Out) (e : Ending) (w' : World) : Prop :=
  (if sent.length ≤ 16 then ∃ cs, e = .returned (.tuple #[.agg cs.toArray, .int .i64 0]) ∧ prcR (fun k => w.heap.size ≤ k) w' cs (topP sent)
    else e = .returned (.tuple #[.agg #[.int .i64 0, .int .i64 0, .slice none 0 0], .int .i64 12])) ∧ Below w.heap.size w w'
end Go.Proofs.YtpgopmmobbemcaaGreat

set_option linter.unusedVariables false
set_option linter.unusedSimpArgs false
namespace Go.Proofs.YtpgopmmobbemcaaGreat
open Go.RowKit

end Go.Proofs.YtpgopmmobbemcaaGreat

set_option linter.unusedVariables false
set_option linter.unusedSimpArgs false
namespace Go.Proofs.YtpgopmmobbemcaaGreat
open Go.RowKit

def AggPost (F : Foot) (w : World) (p : Prc) (e : Ending) (w' : World) : Prop := ∃ cs, e = .returned (.agg cs.toArray) ∧ prcR F w' cs p ∧ Below w.heap.size w w'

end Go.Proofs.YtpgopmmobbemcaaGreat

set_option linter.unusedVariables false
set_option linter.unusedSimpArgs false
namespace Go.Proofs.YtpgopmmobbemcaaGreat
open Go.RowKit

/-- The error of a connected graph with a sink; of a configuration. -/
def rootE (n : Int) (es : List Edg) (f : List Nat) (q : Int) : Int := if jErr n es f = 0 then (if vtxB n q = true then 0 else 2) else jErr n es f
def cfgE (n : Int) (es : List Edg) (f : List Nat) (q : Int) (d : List Int) : Int := if rootE n es f q = 0 then (if dErr n d = 0 then gScan q 0 d else dErr n d) else rootE n es f q

end Go.Proofs.YtpgopmmobbemcaaGreat

set_option linter.unusedVariables false
set_option linter.unusedSimpArgs false
namespace Go.Proofs.YtpgopmmobbemcaaGreat
open Go.RowKit

def sumI (f : Nat → Int) : Nat → Int
  | 0 => 0
  | n + 1 => sumI f n + f n
theorem sumI_le {f g : Nat → Int} : ∀ {n : Nat}, (∀ p, p < n → f p ≤ g p) → sumI f n ≤ sumI g n
  | 0, _ => Int.le_refl _
  | n + 1, h => by
    have h1 := sumI_le (n := n) fun p hp => h p (by omega)
    have h2 := h n (by omega)
    simp only [sumI]
    omega
theorem sumI_eq {f g : Nat → Int} {n : Nat} (h : ∀ p, p < n → f p = g p) : sumI f n = sumI g n :=
  Int.le_antisymm (sumI_le fun p hp => by rw [h p hp]; exact Int.le_refl _) (sumI_le fun p hp => by rw [h p hp]; exact Int.le_refl _)
theorem sumI_one {f g : Nat → Int} {k : Nat} : ∀ {n : Nat}, k < n → (∀ p, p < n → p ≠ k → f p = g p) → sumI f n = sumI g n + (f k - g k)
  | 0, h, _ => by omega
  | n + 1, h, he => by
    simp only [sumI]
    by_cases hk : k = n
    · subst hk
      rw [sumI_eq fun p hp => he p (by omega) (by omega)]
      omega
    · have h1 := sumI_one (n := n) (k := k) (by omega) fun p hp hne => he p (by omega) hne
      rw [he n (by omega) (by omega), h1]
      omega
theorem sumI_nn {f : Nat → Int} {n : Nat} (h : ∀ p, p < n → 0 ≤ f p) : 0 ≤ sumI f n := by
  have h1 := sumI_le (f := fun _ => 0) (g := f) (n := n) h
  have h2 : ∀ n, sumI (fun _ => 0) n = 0 := fun n => by
    induction n with
    | zero => rfl
    | succ n ih => simp only [sumI]; omega
  rw [h2] at h1
  exact h1
theorem sumI_mem {f : Nat → Int} : ∀ {n k : Nat}, (∀ p, p < n → 0 ≤ f p) → k < n → f k ≤ sumI f n
  | 0, k, _, hk => by omega
  | n + 1, k, h, hk => by
    simp only [sumI]
    by_cases e : k = n
    · subst e
      have := sumI_nn (n := k) (f := f) fun p hp => h p (by omega)
      omega
    · have := sumI_mem (n := n) (k := k) (fun p hp => h p (by omega)) (by omega)
      have := h n (by omega)
      omega
section
variable {n q : Nat} {R : Nat → Nat → Int} {D : Nat → Int}
def vlR (n : Nat) (R : Nat → Nat → Int) (v : Nat) : Int := sumI (R v) n
/-- The chips when each vertex w has fired u w times. -/
def cfg (n : Nat) (R : Nat → Nat → Int) (D : Nat → Int) (u : Nat → Nat) (v : Nat) : Int := D v - vlR n R v * (u v : Int) + sumI (fun w => R w v * (u w : Int)) n
def upU (u : Nat → Nat) (x t : Nat) : Nat → Nat := fun v => if v = x then u v + t else u v
theorem upU_at (u : Nat → Nat) (x t : Nat) : upU u x t x = u x + t := if_pos rfl
theorem upU_ne (u : Nat → Nat) {x v : Nat} (t : Nat) (h : v ≠ x) : upU u x t v = u v := if_neg h
theorem cfg_up (u : Nat → Nat) {x : Nat} (hx : x < n) (t v : Nat) : cfg n R D (upU u x t) v = cfg n R D u v - (if v = x then vlR n R x * (t : Int) else 0) + R x v * (t : Int) := by
  have h1 := sumI_one (f := fun w => R w v * ((upU u x t w : Nat) : Int)) (g := fun w => R w v * (u w : Int)) hx fun p hp hne => by rw [upU_ne u t hne]
  simp only [upU_at] at h1
  unfold cfg
  rw [h1]
  have h2 : R x v * ((u x + t : Nat) : Int) = R x v * (u x : Int) + R x v * (t : Int) := by push_cast; rw [Int.mul_add]
  rw [h2]
  by_cases e : v = x
  · subst e
    rw [upU_at, if_pos rfl]
    have h3 : vlR n R v * ((u v + t : Nat) : Int) = vlR n R v * (u v : Int) + vlR n R v * (t : Int) := by push_cast; rw [Int.mul_add]
    rw [h3]
    omega
  · rw [upU_ne u t e, if_neg e]
    omega
/-- What legal firings come to. -/
inductive Leg (n q : Nat) (R : Nat → Nat → Int) (D : Nat → Int) : (Nat → Nat) → Prop
  | zero : Leg n q R D fun _ => 0
  | fire {u : Nat → Nat} {v : Nat} : Leg n q R D u → v < n → v ≠ q → vlR n R v ≤ cfg n R D u v → Leg n q R D (upU u v 1)
def Stab (n q : Nat) (R : Nat → Nat → Int) (D : Nat → Int) (u : Nat → Nat) : Prop := ∀ v, v < n → v ≠ q → cfg n R D u v < vlR n R v
theorem cfg_mono (hR : ∀ v w, v < n → w < n → 0 ≤ R v w) {u g : Nat → Nat} (h : ∀ v, v < n → u v ≤ g v) {v : Nat} (hv : v < n) (he : u v = g v) : cfg n R D u v ≤ cfg n R D g v := by
  have h1 := sumI_le (f := fun w => R w v * (u w : Int)) (g := fun w => R w v * (g w : Int)) (n := n) fun p hp => Int.mul_le_mul_of_nonneg_left (by have := h p hp; omega) (hR p v hp hv)
  unfold cfg
  rw [he]
  omega
theorem Leg.least (hR : ∀ v w, v < n → w < n → 0 ≤ R v w) {g : Nat → Nat} (hs : Stab n q R D g) {u : Nat → Nat} (h : Leg n q R D u) : ∀ v, v < n → u v ≤ g v := by
  induction h with
  | zero => exact fun v _ => Nat.zero_le _
  | @fire u x hu hx hq hc ih =>
    intro v hv
    by_cases e : v = x
    · subst e
      rw [upU_at]
      have h1 := ih v hv
      by_cases h2 : u v = g v
      · have h3 := cfg_mono hR ih hv h2 (D := D)
        have h4 := hs v hv hq
        omega
      · omega
    · rw [upU_ne u 1 e]
      exact ih v hv
theorem Leg.same (hR : ∀ v w, v < n → w < n → 0 ≤ R v w) {u g : Nat → Nat} (hu : Leg n q R D u) (su : Stab n q R D u) (hg : Leg n q R D g) (sg : Stab n q R D g) : ∀ v, v < n → u v = g v := fun v hv =>
  Nat.le_antisymm (hu.least hR sg v hv) (hg.least hR su v hv)
/-- All chips stay there that are not at the sink. -/
theorem Leg.nn (hR : ∀ v w, v < n → w < n → 0 ≤ R v w) (hD : ∀ v, v < n → v ≠ q → 0 ≤ D v) {u : Nat → Nat} (h : Leg n q R D u) : ∀ v, v < n → v ≠ q → 0 ≤ cfg n R D u v := by
  induction h with
  | zero =>
    intro v hv hq
    unfold cfg
    have : sumI (fun w => R w v * ((0 : Nat) : Int)) n = 0 := by
      rw [sumI_eq (g := fun _ => 0) fun w _ => by simp]
      have h2 : ∀ n, sumI (fun _ => 0) n = 0 := fun n => by
        induction n with
        | zero => rfl
        | succ n ih => simp only [sumI]; omega
      exact h2 n
    rw [this]
    have := hD v hv hq
    simp
    exact this
  | @fire u x hu hx hq hc ih =>
    intro v hv hvq
    rw [cfg_up u hx]
    have h1 := ih v hv hvq
    have h2 := hR x v hx hv
    by_cases e : v = x
    · subst e
      rw [if_pos rfl]
      simp
      omega
    · rw [if_neg e]
      simp
      omega
end

/-- How often two different vertices are joined. -/
def rowR' (es : List Edg) (v w : Nat) : Int := if v = w then 0 else betw es v w
end Go.Proofs.YtpgopmmobbemcaaGreat

set_option linter.unusedVariables false
namespace Go.Proofs.YtpgopmmobbemcaaGreat
open Go.RowKit

def QuietB (b : Bool) (w : World) (e : Ending) (w' : World) : Prop := e = .returned (.bool b) ∧ ∃ m, w' = w.drewN m
theorem QuietB.below {b : Bool} {w : World} {e : Ending} {w' : World} (h : QuietB b w e w') : e = .returned (.bool b) ∧ Below w.heap.size w w' := by
  obtain ⟨rfl, m, rfl⟩ := h
  exact ⟨rfl, below_drewN (Below.refl _ _) _⟩
end Go.Proofs.YtpgopmmobbemcaaGreat

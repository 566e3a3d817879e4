/-
  WireAgrees returns true for every network and list of fates: over any fates an abelian network that halts becomes quiet, with the end of its run. No condition.
  The walk of WireAgrees.
  Processors that commute make an abelian network.
  The wire machine, in plain Lean: over any fates an abelian network that halts becomes quiet, with the end of the network's run.
  The wire machine, in plain Lean: where complete histories are short, it is quiet soon.
  The wire machine, in plain Lean: a tick in which nothing is read and nothing is removed.
  The wire machine, in plain Lean: what only grows (removals, packets sent), and how far.
  The wire machine with histories, in plain Lean: a processor reads; a tick; the beginning.
  The wire machine with histories, in plain Lean: a tick keeps what is known; only letters are read that complete histories have, too.
  The wire machine with histories, in plain Lean: what each processor has read, what each line has carried.
  Networks of abelian processors, in plain Lean: histories (what each processor has read), what was sent by them, and the least action.
  An abelian processor reads a word in whatever order with the same end and the same outputs up to order.
  Many: the program.
  The error of counts: the reference.
  The word of counts and the error of counts: the reference.
  The walk of ProcessorSplits.
  slices.Grow of the nil slice, and slices.Concat, at lists of outputs.
  right: whether a processor, a state and a word are right and small.
  The walk of ProcessorCommutes.
  The stable sort of a row of outputs: blocks of 20, then merges.
  The merge of two sorted parts of a row: both parts have at least two elements.
  The merge of two sorted parts of a row: the second part has one element.
  The merge of two sorted parts of a row: one part has one element.
  Merging two sorted lists: plain Lean.
  Rows of outputs: swapping two parts of the same length, and rotating two parts.
  network.Run: a right network runs by picks.
  Networks: the check of picks.
  Counts of letters: the least count, the error of counts, the word of counts.
  slices.Repeat of a list of one integer.
  The walk of ProcessorRuns.
  awake: the examples of chapter 54 hold.
  slices.Min of ints: whether it is negative.
  Networks that run, in plain Lean: a move keeps a network right; a run by picks.
  A network that runs, in memory: make, a move.
-/
import Derived.Test.YtnigfddanoaonaaWa5
import Derived.Test.YtnigfddanoaonaaProg
import Derived.Deep.QuietTactic
import Derived.BigQuiet
import Derived.StillTailTactics
import Derived.Laws.CopyOwn
import Derived.OwnWalk
import Derived.Laws.Bits64b
import Derived.Deep.RegionLaw
import Derived.Deep.DeepCutAuto
import Derived.Lib.AppendZeros
import Derived.Test.YtnigfddanoaonaaRows

set_option linter.unusedVariables false
set_option linter.unusedSimpArgs false
namespace Go.Proofs.Ytnigfddanoaonaa
open Go.RowKit

def addO (wt : List (List Int)) (o : Int × Int) : List (List Int) := bump wt o.1.toNat o.2.toNat 1
/-- The network behind the move that lets processor p read the letter a. -/
def moveX (x : Nwk) (p a : Nat) : Nwk :=
  { x with state := x.state.set p (nextP x.procs p (x.state.getD p 0) a), waiting := (sentP x.procs p (x.state.getD p 0) a).foldl addO (bump x.waiting p a (-1)) }
/-- What a move leaves alone. -/
structure Kept (B0 gs : Nat) (rs : List Rw) (W W' : World) : Prop where
  low : Below B0 W W'
  size : W.heap.size ≤ W'.heap.size
  fix : ∀ k, k < W.heap.size → k ≠ gs → (∀ r ∈ rs, k ≠ r.g) → W'.heap[k]? = W.heap[k]?
theorem Kept.refl (B0 gs : Nat) (rs : List Rw) (W : World) : Kept B0 gs rs W W := ⟨Below.refl _ _, Nat.le_refl _, fun _ _ _ _ => rfl⟩
theorem Kept.trans {B0 gs : Nat} {rs : List Rw} {W W1 W2 : World} (h : Kept B0 gs rs W W1) (g : Kept B0 gs rs W1 W2) : Kept B0 gs rs W W2 :=
  ⟨h.low.trans g.low, Nat.le_trans h.size g.size, fun k hk h1 h2 => (g.fix k (Nat.lt_of_lt_of_le hk h.size) h1 h2).trans (h.fix k hk h1 h2)⟩
theorem Kept.of_below {B0 gs : Nat} {rs : List Rw} {W W1 : World} (h : Below W.heap.size W W1) (hB : B0 ≤ W.heap.size) : Kept B0 gs rs W W1 := ⟨h.mono hB, h.size, fun k hk _ _ => h.block k hk⟩
theorem rwSet_g (rs : List Rw) (i : Nat) (l : List Int) : (rwSet rs i l).map (·.g) = rs.map (·.g) := by
  apply List.ext_getElem?
  intro j
  rw [List.getElem?_map, List.getElem?_map, rwSet_at]
  split
  · rename_i h; subst h
    rcases rs[i]? with _ | r <;> rfl
  · rfl

section
variable {O : Foot} {B0 K H p gs : Nat} {vp tw : Value} {rs : List Rw} {x : Nwk} {W W' : World}
theorem Mach.putWait (h : Mach O B0 K H p gs vp tw rs x W) {i k : Nat} {r : Rw} {l : List Int} (hr : rs[i]? = some r) (hl : r.l = l) (hk : k < l.length) (y : Int) :
    Mach O B0 K H p gs vp tw (rwSet rs i (l.set k y)) { x with waiting := x.waiting.set i (l.set k y) } (W.setCell ⟨r.g, k, none⟩ (.int .i64 y)) := by
  subst hl
  obtain ⟨h1, h2, h3⟩ := h.tab.row r (List.mem_of_getElem? hr)
  obtain ⟨l1, l2, l3, l4⟩ := h.low
  exact {
    main := h.main.other (fun e => ne_type h1 h.main (by decide) e.symm) _
    procs := h.procs.keep prcR_ok (fun g hg => Below.heap_setCell _ _ _ g (by have := h.vlt g hg; simp only; omega)) (fun k hk _ => Below.heap_setCell _ _ _ k (by have := hk.2; simp only; omega))
    vlt := h.vlt
    sts := h.sts.other (by simp only; omega) _
    tab := h.tab.put hr hk y
    tabs := by rw [tabL_set, h.tabs]
    low := h.low }
theorem Mach.putState (h : Mach O B0 K H p gs vp tw rs x W) {i : Nat} (hi : i < x.state.length) (y : Int) : Mach O B0 K H p gs vp tw rs { x with state := x.state.set i y } (W.setCell ⟨gs, i, none⟩ (.int .i64 y)) := by
  obtain ⟨l1, l2, l3, l4⟩ := h.low
  exact {
    main := h.main.other (fun e => ne_type h.sts h.main (by decide) e.symm) _
    procs := h.procs.keep prcR_ok (fun g hg => Below.heap_setCell _ _ _ g (by have := (h.procs.block g hg).1; simp only; omega)) (fun k hk _ => Below.heap_setCell _ _ _ k (by have := hk.1.1; unfold OldNew at this; simp only; omega))
    vlt := h.vlt
    sts := h.sts.put hi y
    tab := h.tab.above fun k _ hk => Below.heap_setCell _ _ _ k (by simp only; omega)
    tabs := h.tabs
    low := h.low }
theorem Kept.put (hB : B0 ≤ gs ∧ B0 ≤ H) (ht : ∀ r ∈ rs, H ≤ r.g) {b k : Nat} (hb : b = gs ∨ ∃ r ∈ rs, b = r.g) (v : Value) : Kept B0 gs rs W (W.setCell ⟨b, k, none⟩ v) := by
  have hB0 : B0 ≤ b := by
    rcases hb with rfl | ⟨r, hr, rfl⟩
    · exact hB.1
    · have := ht r hr; omega
  refine ⟨(Below.refl _ _).setCell hB0 _, by simp [World.setCell], fun q hq h1 h2 => Below.heap_setCell _ _ _ q ?_⟩
  rcases hb with rfl | ⟨r, hr, rfl⟩
  · exact h1
  · exact h2 r hr
/-- A letter that waits, in memory. -/
theorem Mach.wait (h : Mach O B0 K H p gs vp tw rs x W) {i k : Nat} {l : List Int} {y : Int} (hl : x.waiting[i]? = some l) (hk : l[k]? = some y) :
    ∃ r g cap, rs[i]? = some r ∧ r.l = l ∧ tw = .slice (some ⟨g, 0, none⟩) x.waiting.length cap ∧ W.cell? ⟨g, i, none⟩ = some (.slice (some ⟨r.g, 0, none⟩) l.length r.c) ∧ W.cell? ⟨r.g, k, none⟩ = some (.int .i64 y) ∧ W.frozen? ⟨r.g, k, none⟩ = false ∧ H ≤ r.g := by
  obtain ⟨r, hr, hrl⟩ := h.row hl
  obtain ⟨g, cap, htw, _, _, hcell, hrow, hH, _, _⟩ := h.tab.get hr
  rw [hrl] at hcell hrow
  rw [h.rlen] at htw
  exact ⟨r, g, cap, hr, hrl, htw, hcell, hrow.cell hk, hrow.free k, hH⟩
end

theorem wrap_small {q sl : Nat} (h : sl ≤ 16) (h2 : q < sl) : wrap64 ((q : Int) + 1) = (q : Int) + 1 := by unfold wrap64; omega
/-- Tables of one shape, with numbers from 0 to c. -/
structure Shape (wt wt' : List (List Int)) (c : Int) : Prop where
  len : wt'.length = wt.length
  row : ∀ (j : Nat) (l' : List Int), wt'[j]? = some l' → ∃ l, wt[j]? = some l ∧ l'.length = l.length
  num : ∀ l ∈ wt', ∀ z ∈ l, 0 ≤ z ∧ z ≤ c
theorem bump_eq {wt : List (List Int)} {p k : Nat} {l : List Int} {z : Int} (hl : wt[p]? = some l) (hz : l[k]? = some z) (y : Int) : bump wt p k y = wt.set p (l.set k (z + y)) := by
  unfold bump
  rw [getD_some hl, getD_some hz]
theorem Shape.put {wt wt' : List (List Int)} {c c' : Int} (h : Shape wt wt' c) (hc : c ≤ c') {p k : Nat} {l : List Int} (hl : wt'[p]? = some l) (hk : k < l.length) {y : Int} (hy : 0 ≤ y ∧ y ≤ c') : Shape wt (wt'.set p (l.set k y)) c' where
  len := by rw [List.length_set]; exact h.len
  row := fun j l' hj => by
    rw [List.getElem?_set] at hj
    split at hj
    · rename_i e
      subst e
      split at hj
      · injection hj with hj
        subst hj
        obtain ⟨l0, h1, h2⟩ := h.row p l hl
        exact ⟨l0, h1, by rw [List.length_set]; exact h2⟩
      · cases hj
    · exact h.row j l' hj
  num := fun l' hl' z hz => by
    rcases List.mem_or_eq_of_mem_set hl' with hm | rfl
    · have := h.num l' hm z hz; omega
    · rcases List.mem_or_eq_of_mem_set hz with hm | rfl
      · have := h.num l (List.mem_of_getElem? hl) z hm; omega
      · exact hy

section
variable {O : Foot} {B0 K H p gs : Nat} {vp tw : Value} {rs : List Rw} {x : Nwk} {W : World}
set_option maxRecDepth 100000 in
set_option maxHeartbeats 4000000 in
theorem nmake_any (h : Mach O B0 K H p gs vp tw rs x W) (hr : Right x) {i k : Nat} {l : List Int} {y : Int} (hl : x.waiting[i]? = some l) (hk : l[k]? = some y) (hy : 0 < y) (hbig : ∀ t ∈ x.waiting, ∀ z ∈ t, z ≤ 1000000) :
    Calls Try.prog 90 #[machV p, .agg #[.int .i64 (i : Nat), .int .i64 (k : Nat)]] W fun e w' => e = .returned (.int .i64 0) ∧ ∃ rs', Mach O B0 K H p gs vp tw rs' (moveX x i k) w' ∧ rs'.map (·.g) = rs.map (·.g) ∧ Kept B0 gs rs W w' := by
  obtain ⟨n, hn⟩ : ∃ n, n = x.procs.length := ⟨_, rfl⟩
  have hwn : x.waiting.length = n := by rw [hn]; exact hr.nwt
  have hsn : x.state.length = n := by rw [hn]; exact hr.nst
  have hin : i < n := by have := (List.getElem?_eq_some_iff.1 hl).1; omega
  have h12 : n ≤ 12 := by rw [hn]; exact hr.n.2
  have hpr0 := List.getElem?_eq_getElem (show i < x.procs.length by omega)
  have hle := hr.wl i l _ hl hpr0
  have hzc := (check_zero (hr.proc i _ hpr0)).2.2.1
  have hll : l.length = lettersP x.procs i := by unfold lettersP; rw [getD_some hpr0]; omega
  have hl8 : l.length ≤ 8 := by omega
  have hkl : k < l.length := (List.getElem?_eq_some_iff.1 hk).1
  obtain ⟨s, hs⟩ : ∃ s, x.state[i]? = some s := ⟨_, List.getElem?_eq_getElem (by omega)⟩
  obtain ⟨s0, s1⟩ := hr.st i s _ hs hpr0
  obtain ⟨pr, row, r, q1, q2, q3, q4, q5, q6, q7, q8⟩ := hr.rule (p := i) (k := k) (s := s) (by omega) s0 (by unfold statesP; rw [getD_some hpr0]; exact s1) (by omega)
  obtain ⟨sn, rfl⟩ := Int.eq_ofNat_of_zero_le s0
  simp only [Int.toNat_natCast] at q3
  have HMV : Hid (moveX x i k = { x with state := x.state.set i r.next, waiting := (r.sent.map pairO).foldl addO (x.waiting.set i (l.set k (y - 1))) }) := by
    show _ = _
    unfold moveX
    rw [getD_some hs, show nextP x.procs i (sn : Int) k = r.next from by unfold nextP; rw [q5], show sentP x.procs i (sn : Int) k = r.sent.map pairO from by unfold sentP; rw [q5], bump_eq hl hk]
    rfl
  obtain ⟨oV, cV, hvp, _, hps⟩ := h.procs.slice prcR_ok
  subst hvp
  -- the machine behind the box of the move
  obtain ⟨W1, e1⟩ : ∃ W1, W.alloc (.cells #[.int .i64 (i : Nat), .int .i64 (k : Nat)] 57) = W1 := ⟨_, rfl⟩
  have bx1 : Box W1 W.heap.size [.int .i64 (i : Nat), .int .i64 (k : Nat)] 57 := by rw [← e1]; exact Box.new W [.int .i64 (i : Nat), .int .i64 (k : Nat)] 57
  have bb1 := bnew (Below.refl W.heap.size W) (.cells #[.int .i64 (i : Nat), .int .i64 (k : Nat)] 57)
  rw [e1] at bb1
  have d0 := bx1.cell 0
  have d1 := bx1.cell 1
  simp only [List.getElem?_cons_zero, List.getElem?_cons_succ] at d0 d1
  have HM1 := hide (h.below bb1)
  have hBW : B0 ≤ W.heap.size := by have h1 := h.low; have h2 := h.sts.lt; omega
  have HK1 := hide (Kept.of_below (rs := rs) (gs := gs) bb1 hBW)
  have HR := hide hr
  have HN := hide hn
  have HWN := hide hwn
  have HSN := hide hsn
  have HL := hide hl
  have HKY := hide hk
  have HS := hide hs
  have HBIG := hide hbig
  have HQ3 := hide q3
  have HQ4 := hide q4
  have HQ1 := hide q1
  have HQ8 := hide q8
  have HQ6 := hide q6
  have HLL := hide hll
  unfold machV
  clear h hr hn hwn hsn hl hk hs hbig q1 q2 q3 q4 q5 q6 q8 hpr0 hle hzc s1 hll bx1 bb1 hps
  go_enter Try.func90, Try.ntmps90
  go_wp2_with fail
  go_quiet (fail)
  obtain ⟨W2, e2⟩ : ∃ W2, W1.drewN nq = W2 := ⟨_, rfl⟩
  have HM2 : Hid (Mach O B0 K H p gs (.slice oV x.procs.length cV) tw rs x W2) := by
    show Mach _ _ _ _ _ _ _ _ _ _ _
    rw [← e2]
    exact HM1.out.below (below_drewN (Below.refl _ _) _)
  have HK2 : Hid (Kept B0 gs rs W W2) := by
    show Kept _ _ _ _ _
    rw [← e2]
    exact HK1.out.trans (Kept.of_below (below_drewN (Below.refl _ _) _) (by have := HM1.out.low; have := HM1.out.sts.lt; omega))
  rw [e2]
  clear e2 d0 d1
  obtain ⟨rw0, g0, cap0, hr0, hrl0, htw, c0, c1, f1, hH0⟩ := HM2.out.wait HL.out HKY.out
  rw [HWN.out] at htw
  subst htw
  have m2 := HM2.out.main.cell 2
  simp only [List.getElem?_cons_zero, List.getElem?_cons_succ] at m2
  obtain ⟨ll, hll⟩ : ∃ ll, ll = l.length := ⟨_, rfl⟩
  rw [← hll] at c0 hl8 hkl
  have HLN := hide hll
  have hput := HM2.out.putWait hr0 hrl0 (by rw [← hll]; exact hkl) (y - 1)
  have HM3 := hide hput
  have HK3 : Hid (Kept B0 gs rs W (W2.setCell ⟨rw0.g, k, none⟩ (.int .i64 (y - 1)))) := HK2.out.trans (Kept.put (H := H) ⟨HM2.out.low.1, by have := HM2.out.low; omega⟩ (fun r hr => (HM2.out.tab.row r hr).2.1) (.inr ⟨rw0, List.mem_of_getElem? hr0, rfl⟩) _)
  have hyb : y ≤ 1000000 := HBIG.out l (List.mem_of_getElem? HL.out) y (List.mem_of_getElem? HKY.out)
  clear hput hr0 hrl0 hll
  go_wp2_with fail
  obtain ⟨W3, e3⟩ : ∃ W3, W2.setCell ⟨rw0.g, k, none⟩ (.int .i64 (y - 1)) = W3 := ⟨_, rfl⟩
  rw [e3] at HM3 HK3
  rw [e3]
  clear e3 c0 c1 f1 m2
  obtain ⟨b1, hcP, hoV, hb1, hb2, hrowP, ⟨oa1, cc1, rfl, z6, z7, z8, z9, z10⟩⟩ := HM3.out.procs.hole HQ1.out
  subst hoV
  have z5 := hrowP.cell (j := 2) (by omega)
  simp only [List.getElem?_cons_zero, List.getElem?_cons_succ] at z5
  have hsl2 : sn < pr.rules.length := (List.getElem?_eq_some_iff.1 HQ3.out).1
  obtain ⟨row2, _, y1, b2, off2, oa2, cc2, rfl, y2, y3, y4, y5, y6⟩ := z10.slc_at hsl2
  rw [HQ3.out] at y1
  injection y1 with y1
  subst y1
  have hkl2 : k < row.length := (List.getElem?_eq_some_iff.1 HQ4.out).1
  obtain ⟨nx, st, _, x1, x2, b3, off3, oa3, cc3, rfl, x3, x4, x5, x6, x7, x8⟩ := y6.rule_at hkl2
  rw [HQ4.out] at x1
  injection x1 with x1
  subst x1
  simp only at q7
  have hip : i < x.procs.length := by have := HN.out; omega
  have m0 := HM3.out.main.cell 0
  have m1 := HM3.out.main.cell 1
  have g2 := HM3.out.sts.cell (i := i) (x := (sn : Int)) HS.out
  have g3 := HM3.out.sts.free i
  simp only [List.getElem?_cons_zero, List.getElem?_cons_succ] at m0 m1
  rw [← HN.out] at m0 m1 hip
  have l0 := World.block_lt_of_cell? _ _ m0
  have l2 := World.block_lt_of_cell? _ _ g2
  have l3 := World.block_lt_of_cell? _ _ z5
  have l4 := World.block_lt_of_cell? _ _ y3
  have l5 := World.block_lt_of_cell? _ _ x4
  simp only at l0 l2 l3 l4 l5
  have HST := hide x8
  have hcl : pr.rules.length ≤ 16 := by
    have := check_zero (HR.out.proc i pr HQ1.out)
    omega
  clear x8 z10 y6 hrowP
  go_region
  obtain ⟨W4, e4⟩ : ∃ W4, (W3.alloc (.cells #[.int .i64 nx, .slice oa3 st.length cc3] 78)).drew = W4 := ⟨_, rfl⟩
  have bb4 : Below W3.heap.size W3 W4 := by rw [← e4]; exact (bnew (Below.refl _ _) _).drew
  have bx4 : Box W4 W3.heap.size [.int .i64 nx, .slice oa3 st.length cc3] 78 := by rw [← e4]; exact (Box.new W3 [.int .i64 nx, .slice oa3 st.length cc3] 78).draw
  have HM4 := hide (HM3.out.below bb4)
  have HK4 : Hid (Kept B0 gs rs W W4) := HK3.out.trans (Kept.of_below bb4 (by have := HM3.out.low; have := HM3.out.sts.lt; omega))
  have i0 := bx4.cell 0
  have i1 := HM4.out.main.cell 1
  have i4 := HM4.out.sts.cell (i := i) (x := (sn : Int)) HS.out
  have i5 := HM4.out.sts.free i
  simp only [List.getElem?_cons_zero, List.getElem?_cons_succ] at i0 i1
  rw [← HN.out] at i1
  have HX4 := hide bx4
  have HST4 := hide (HST.out.below outR_ok bb4)
  rw [e4]
  clear e4 bb4 bx4 m0 m1 g2 g3 l0 l2 l3 l4 l5 z5 z6 z7 z8 z9 y2 y3 y4 y5 x2 x3 x4
  go_wp2_with fail
  go_region
  obtain ⟨W5, e5⟩ : ∃ W5, (W4.setCell ⟨gs, i, none⟩ (.int .i64 nx)).drew = W5 := ⟨_, rfl⟩
  have HM5 : Hid (Mach O B0 K H p gs (.slice (some ⟨b1, 0, none⟩) x.procs.length cV) (.slice (some ⟨g0, 0, none⟩) n cap0) (rwSet rs i (l.set k (y - 1))) { x with state := x.state.set i nx, waiting := x.waiting.set i (l.set k (y - 1)) } W5) := by
    show Mach _ _ _ _ _ _ _ _ _ _ _
    rw [← e5]
    have := HM4.out.putState (i := i) (by simp only; have := HSN.out; omega) nx
    exact this.below (Below.refl _ _).drew
  have HK5 : Hid (Kept B0 gs rs W W5) := by
    show Kept _ _ _ _ _
    rw [← e5]
    have h1 : Kept B0 gs rs W4 (W4.setCell ⟨gs, i, none⟩ (.int .i64 nx)) := Kept.put (H := H) ⟨HM2.out.low.1, by have := HM2.out.low; omega⟩ (fun r hr => (HM2.out.tab.row r hr).2.1) (.inl rfl) _
    exact (HK4.out.trans h1).trans ⟨(Below.refl _ _).drew, Nat.le_refl _, fun _ _ _ _ => rfl⟩
  have HX5 : Hid (Box W5 W3.heap.size [.int .i64 nx, .slice oa3 st.length cc3] 78) := by
    show Box _ _ _ _
    rw [← e5]
    exact (HX4.out.other (p := ⟨gs, i, none⟩) (fun e => ne_type HM4.out.sts HX4.out (by decide) e.symm) _).draw
  obtain ⟨FF, hFF⟩ : ∃ FF : Foot, FF = fun k => InF (OldNew O B0 K) (.slice (some ⟨b1, 0, none⟩) x.procs.length cV) k ∧ k < H := ⟨_, rfl⟩
  have HFG : Hid (∀ k, FF k → k ≠ gs ∧ k < H) := fun k hk => by
    rw [hFF] at hk
    have h1 := hk.1.1
    unfold OldNew at h1
    have := HM2.out.low
    exact ⟨by omega, hk.2⟩
  have HST5 : Hid (SliceR outR 2 FF W5 oa3 st) := by
    show SliceR _ _ _ _ _ _
    rw [← e5]
    have h4 := HST4.out
    rw [← hFF] at h4
    exact (h4.keep (w' := W4.setCell ⟨gs, i, none⟩ (.int .i64 nx)) outR_ok fun k hk _ => Below.heap_setCell _ _ _ k (HFG.out k hk).1).keep outR_ok fun _ _ _ => rfl
  clear hFF HST4 HST
  rw [e5]
  have c5 := HX5.out.cell 1
  simp only [List.getElem?_cons_zero, List.getElem?_cons_succ] at c5
  clear e5 i0 i1 i4 i5
  go_wp2_with fail
  have HSH0 : Hid (Shape x.waiting (x.waiting.set i (l.set k (y - 1))) 1000000) := Shape.put (c := 1000000) ⟨rfl, fun j l' hj => ⟨l', hj, rfl⟩, fun l' hl' z hz => ⟨(HR.out.wb l' hl' z hz).1, HBIG.out l' hl' z hz⟩⟩ (Int.le_refl _) HL.out (by rw [← HLN.out]; exact hkl) (by omega)
  have HSZ : Hid (st.length ≤ 16) := q7
  obtain ⟨sl, hsl⟩ : ∃ sl, sl = st.length := ⟨_, rfl⟩
  have HSLN := hide hsl
  rw [← hsl] at HX5 HSZ c5 ⊢
  clear hsl
  go_loopg [63] sl (fun gm iv wr => ∃ (q : Nat) (rs' : List Rw) (wt' : List (List Int)), q ≤ sl ∧ gm = sl - q ∧ iv = .int .i64 q ∧ Hid (wt' = ((st.take q).map pairO).foldl addO (x.waiting.set i (l.set k (y - 1)))) ∧ Hid (Shape x.waiting wt' (1000000 + q)) ∧ Hid (Mach O B0 K H p gs (.slice (some ⟨b1, 0, none⟩) x.procs.length cV) (.slice (some ⟨g0, 0, none⟩) n cap0) rs' { x with state := x.state.set i nx, waiting := wt' } wr) ∧ Hid (rs'.map (·.g) = rs.map (·.g)) ∧ Hid (Kept B0 gs rs W wr) ∧ Hid (Box wr W3.heap.size [.int .i64 nx, .slice oa3 sl cc3] 78) ∧ Hid (SliceR outR 2 FF wr oa3 st))
  case atStart => exact ⟨0, _, _, by omega, by omega, rfl, rfl, by show Shape _ _ _; simpa using HSH0.out, HM5.out, rwSet_g _ _ _, HK5.out, HX5.out, HST5.out⟩
  case round =>
    obtain ⟨q, rs', wt', hq, hgm, rfl, HWT, HSH, HMq, HRG, HKq, HXq, HSq⟩ := hrel
    have HGM := hide hgm
    clear hgm
    by_cases hlt : q < sl
    · obtain ⟨tt, le, hd, hxo, it, il, b6, off6, rfl, _, oc0, oc1⟩ := HSq.out.out_at (i := q) (by have := HSLN.out; omega)
      obtain ⟨⟨m1, m2⟩, m3, m4⟩ := HQ8.out _ (List.mem_of_getElem? hxo)
      simp only at m1 m2 m3 m4
      obtain ⟨tn, rfl⟩ := Int.eq_ofNat_of_zero_le m1
      obtain ⟨ln, rfl⟩ := Int.eq_ofNat_of_zero_le m3
      simp only [Int.toNat_natCast] at m4
      have htn : tn < n := by have := HN.out; omega
      obtain ⟨l0, hl0⟩ : ∃ l0, wt'[tn]? = some l0 := ⟨_, List.getElem?_eq_getElem (by have := HSH.out.len; have := HWN.out; omega)⟩
      obtain ⟨lx, hlx, hll0⟩ := HSH.out.row tn l0 hl0
      have hlen : l0.length = lettersP x.procs tn := by
        have hprt := List.getElem?_eq_getElem (show tn < x.procs.length by have := HN.out; omega)
        have h1 := HR.out.wl tn lx _ hlx hprt
        rw [hll0]
        unfold lettersP
        rw [getD_some hprt]
        omega
      have hln : ln < l0.length := by omega
      obtain ⟨z, hz⟩ : ∃ z, l0[ln]? = some z := ⟨_, List.getElem?_eq_getElem hln⟩
      obtain ⟨hz0, hz1⟩ := HSH.out.num l0 (List.mem_of_getElem? hl0) z (List.mem_of_getElem? hz)
      obtain ⟨W6, e6⟩ : ∃ W6, wr.alloc (.cells #[.int .i64 tn, .int .i64 ln] 75) = W6 := ⟨_, rfl⟩
      have bx6 : Box W6 wr.heap.size [.int .i64 tn, .int .i64 ln] 75 := by rw [← e6]; exact Box.new wr [.int .i64 tn, .int .i64 ln] 75
      have bb6 := bnew (Below.refl wr.heap.size wr) (.cells #[.int .i64 tn, .int .i64 ln] 75)
      rw [e6] at bb6
      have HM6 := hide (HMq.out.below bb6)
      have HK6 : Hid (Kept B0 gs rs W W6) := HKq.out.trans (Kept.of_below bb6 (by have := HMq.out.low; have := HMq.out.sts.lt; omega))
      have HX6 := hide (HXq.out.below bb6)
      have HS6 := hide (HSq.out.below outR_ok bb6)
      have k0 := bx6.cell 0
      have k1 := bx6.cell 1
      obtain ⟨r6, g6, cap6, hr6, hrl6, htw6, c0, c1, f1, hH6⟩ := HM6.out.wait hl0 hz
      simp only at htw6
      injection htw6 with v1 v2 v3
      injection v1 with v1
      injection v1 with v1
      subst v1 v3
      have m2c := HM6.out.main.cell 2
      simp only [List.getElem?_cons_zero, List.getElem?_cons_succ] at k0 k1 m2c
      have HWS : Hid (((st.take (q + 1)).map pairO).foldl addO (x.waiting.set i (l.set k (y - 1))) = wt'.set tn (l0.set ln (z + 1))) := by
        show _ = _
        rw [List.take_add_one, hxo]
        simp only [Option.toList_some, List.map_append, List.map_cons, List.map_nil, List.foldl_append, List.foldl_cons, List.foldl_nil]
        rw [← HWT.out]
        unfold addO pairO
        simp only [Int.toNat_natCast]
        exact bump_eq hl0 hz 1
      have HSH2 : Hid (Shape x.waiting (wt'.set tn (l0.set ln (z + 1))) (1000000 + (q + 1 : Nat))) := HSH.out.put (by omega) hl0 hln (by omega)
      have HRL := hide (And.intro hr6 (And.intro hrl6 hl0))
      obtain ⟨l0n, hl0n⟩ : ∃ m, m = l0.length := ⟨_, rfl⟩
      rw [← hl0n] at c0 hln
      have HL0 := hide hl0n
      have hb8 : l0n ≤ 8 := by
        have := (HR.out.letters tn (by have := HN.out; omega)).2
        omega
      clear hd hxo hl0 hlx hll0 hlen hz hr6 hrl6 hl0n bx6 bb6 m4 v2
      go_wp2_with fail
      go_region
      rw [show wrap64 (z + 1) = z + 1 from by have h16 := HSZ.out; unfold wrap64; omega]
      obtain ⟨W7, e7⟩ : ∃ W7, (W6.setCell ⟨r6.g, ln, none⟩ (.int .i64 (z + 1))).drew = W7 := ⟨_, rfl⟩
      have hput := HM6.out.putWait HRL.out.1 HRL.out.2.1 (by rw [← HL0.out]; exact hln) (z + 1)
      have hkp : Kept B0 gs rs W6 (W6.setCell ⟨r6.g, ln, none⟩ (.int .i64 (z + 1))) := Kept.put (H := H) ⟨HM2.out.low.1, by have := HM2.out.low; omega⟩ (fun r hr => (HM2.out.tab.row r hr).2.1) (.inr (by
        have h1 : r6.g ∈ rs'.map (·.g) := List.mem_map.2 ⟨r6, List.mem_of_getElem? HRL.out.1, rfl⟩
        rw [HRG.out] at h1
        obtain ⟨r, h2, h3⟩ := List.mem_map.1 h1
        exact ⟨r, h2, h3.symm⟩)) _
      have HM7 : Hid (Mach O B0 K H p gs (.slice (some ⟨b1, 0, none⟩) x.procs.length cV) (.slice (some ⟨g0, 0, none⟩) n cap0) (rwSet rs' tn (l0.set ln (z + 1))) { x with state := x.state.set i nx, waiting := wt'.set tn (l0.set ln (z + 1)) } W7) := by
        show Mach _ _ _ _ _ _ _ _ _ _ _
        rw [← e7]
        exact hput.below (Below.refl _ _).drew
      have HK7 : Hid (Kept B0 gs rs W W7) := by
        show Kept _ _ _ _ _
        rw [← e7]
        exact (HK6.out.trans hkp).trans ⟨(Below.refl _ _).drew, Nat.le_refl _, fun _ _ _ _ => rfl⟩
      have hrow6 := HM6.out.tab.row r6 (List.mem_of_getElem? HRL.out.1)
      have HX7 : Hid (Box W7 W3.heap.size [.int .i64 nx, .slice (some ⟨b6, off6, none⟩) sl cc3] 78) := by
        show Box _ _ _ _
        rw [← e7]
        exact (HX6.out.other (p := ⟨r6.g, ln, none⟩) (fun e => ne_type hrow6.1 HX6.out (by decide) e.symm) _).draw
      have HS7 : Hid (SliceR outR 2 FF W7 (some ⟨b6, off6, none⟩) st) := by
        show SliceR _ _ _ _ _ _
        rw [← e7]
        exact (HS6.out.keep (w' := W6.setCell ⟨r6.g, ln, none⟩ (.int .i64 (z + 1))) outR_ok fun k hk _ => Below.heap_setCell _ _ _ k (by have := (HFG.out k hk).2; simp only; omega)).keep outR_ok fun _ _ _ => rfl
      rw [e7]
      clear e7 hput hkp hrow6 c0 c1 f1 k0 k1 m2c
      go_wp2_with fail
      go_roundg (sl - (q + 1))
      case measure =>
        rw [HGM.out]
        exact Nat.sub_lt_sub_left hlt (Nat.lt_succ_self q)
      case rel =>
        have h16 := HSZ.out
        exact ⟨q + 1, _, _, by omega, rfl, by (have hw : wrap64 ((q : Int) + 1) = (q : Int) + 1 := wrap_small h16 hlt; simp [hw]), HWS.out.symm, HSH2, HM7, by show _ = _; rw [rwSet_g]; exact HRG.out, HK7, HX7, HS7⟩
    · have hqe : q = sl := by omega
      subst hqe
      have c6 := HXq.out.cell 1
      simp only [List.getElem?_cons_zero, List.getElem?_cons_succ] at c6
      have HWF : Hid (wt' = (st.map pairO).foldl addO (x.waiting.set i (l.set k (y - 1)))) := by
        show _ = _
        have := HWT.out
        rw [List.take_of_length_le (by have := HSLN.out; omega)] at this
        exact this
      go_wp2_with fail
      go_loopg [86] q (fun gm iv wx => ∃ (t : Nat), t ≤ q ∧ gm = q - t ∧ iv = .int .i64 t ∧ Hid (Below wr.heap.size wr wx))
      case atStart => exact ⟨0, by omega, by omega, rfl, Below.refl _ _⟩
      case round =>
        obtain ⟨t, ht, hgm2, rfl, HBt⟩ := hrel
        have HGM2 := hide hgm2
        clear hgm2
        by_cases hlt2 : t < q
        · obtain ⟨tt, le, hd, hxo, it, il, b6, off6, rfl, _, oc0, oc1⟩ := (HSq.out.below outR_ok HBt.out).out_at (i := t) (by have := HSLN.out; omega)
          obtain ⟨⟨m1, m2⟩, m3, m4⟩ := HQ8.out _ (List.mem_of_getElem? hxo)
          simp only at m1 m2 m3 m4
          obtain ⟨tn, rfl⟩ := Int.eq_ofNat_of_zero_le m1
          obtain ⟨ln, rfl⟩ := Int.eq_ofNat_of_zero_le m3
          simp only [Int.toNat_natCast] at m4
          have htn : tn < n := by have := HN.out; omega
          obtain ⟨l0, hl0⟩ : ∃ l0, wt'[tn]? = some l0 := ⟨_, List.getElem?_eq_getElem (by have := HSH.out.len; have := HWN.out; omega)⟩
          obtain ⟨lx, hlx, hll0⟩ := HSH.out.row tn l0 hl0
          have hlen : l0.length = lettersP x.procs tn := by
            have hprt := List.getElem?_eq_getElem (show tn < x.procs.length by have := HN.out; omega)
            have h1 := HR.out.wl tn lx _ hlx hprt
            rw [hll0]
            unfold lettersP
            rw [getD_some hprt]
            omega
          have hln : ln < l0.length := by omega
          obtain ⟨z, hz⟩ : ∃ z, l0[ln]? = some z := ⟨_, List.getElem?_eq_getElem hln⟩
          obtain ⟨hz0, hz1⟩ := HSH.out.num l0 (List.mem_of_getElem? hl0) z (List.mem_of_getElem? hz)
          have h16 := HSZ.out
          have hzz : ¬ 1048576 < z := by omega
          obtain ⟨W6, e6⟩ : ∃ W6, wr.alloc (.cells #[.int .i64 tn, .int .i64 ln] 75) = W6 := ⟨_, rfl⟩
          have bx6 : Box W6 wr.heap.size [.int .i64 tn, .int .i64 ln] 75 := by rw [← e6]; exact Box.new wr [.int .i64 tn, .int .i64 ln] 75
          have bb6 := bnew (Below.refl wr.heap.size wr) (.cells #[.int .i64 tn, .int .i64 ln] 75)
          rw [e6] at bb6
          have HM6 := hide ((HMq.out.below HBt.out).below bb6)
          have HB6 := hide (HBt.out.trans (bb6.mono HBt.out.size))
          have k0 := bx6.cell 0
          have k1 := bx6.cell 1
          obtain ⟨r6, g6, cap6, hr6, hrl6, htw6, c0, c1, f1, hH6⟩ := HM6.out.wait hl0 hz
          simp only at htw6
          injection htw6 with v1 v2 v3
          injection v1 with v1
          injection v1 with v1
          subst v1 v3
          have m2c := HM6.out.main.cell 2
          simp only [List.getElem?_cons_zero, List.getElem?_cons_succ] at k0 k1 m2c
          obtain ⟨l0n, hl0n⟩ : ∃ m, m = l0.length := ⟨_, rfl⟩
          rw [← hl0n] at c0 hln
          have hb8 : l0n ≤ 8 := by
            have := (HR.out.letters tn (by have := HN.out; omega)).2
            omega
          clear hd hxo hl0 hlx hll0 hlen hz hr6 hrl6 hl0n bx6 bb6 m4 v2
          go_wp2_with fail
          go_quiet (fail)
          go_wp2_with fail
          go_roundg (q - (t + 1))
          case measure => have := HGM2.out; omega
          case rel => exact ⟨t + 1, by omega, rfl, by go_num, below_drewN HB6.out _⟩
        · go_wp2_with fail
          go_ret
          refine ⟨rfl, rs', ?_, HRG.out, HKq.out.trans (Kept.of_below HBt.out (by have := HMq.out.low; have := HMq.out.sts.lt; omega))⟩
          rw [HMV.out, ← HWF.out]
          exact HMq.out.below HBt.out
end

end Go.Proofs.Ytnigfddanoaonaa

set_option linter.unusedVariables false
set_option linter.unusedSimpArgs false
namespace Go.Proofs.Ytnigfddanoaonaa
open Go.RowKit

theorem Shape.add {wt wt' : List (List Int)} {c : Int} (h : Shape wt wt' c) {o : Int × Int} (ho : ∃ l, wt[o.1.toNat]? = some l ∧ o.2.toNat < l.length) : Shape wt (addO wt' o) (c + 1) := by
  obtain ⟨l, h1, h2⟩ := ho
  have hi : o.1.toNat < wt'.length := by rw [h.len]; exact (List.getElem?_eq_some_iff.1 h1).1
  have hl' := List.getElem?_eq_getElem hi
  obtain ⟨l0, h3, h4⟩ := h.row _ _ hl'
  rw [h1] at h3
  injection h3 with h3
  subst h3
  have hk : o.2.toNat < (wt'[o.1.toNat]).length := by omega
  have hz := List.getElem?_eq_getElem hk
  have hb := h.num _ (List.mem_of_getElem? hl') _ (List.mem_of_getElem? hz)
  unfold addO
  rw [bump_eq hl' hz]
  exact h.put (by omega) hl' hk (by omega)
theorem Shape.adds {wt : List (List Int)} : ∀ (os : List (Int × Int)) {wt' : List (List Int)} {c : Int}, Shape wt wt' c → (∀ o ∈ os, ∃ l, wt[o.1.toNat]? = some l ∧ o.2.toNat < l.length) → Shape wt (os.foldl addO wt') (c + os.length)
  | [], wt', c, h, _ => by simpa using h
  | o :: r, wt', c, h, ho => by
    have h1 := Shape.adds r (h.add (ho o (by simp))) fun q hq => ho q (by simp [hq])
    rw [List.foldl_cons, List.length_cons]
    have e : c + 1 + (r.length : Int) = c + ((r.length + 1 : Nat) : Int) := by push_cast; omega
    rw [← e]
    exact h1
theorem Right.shape {x : Nwk} (h : Right x) {c : Int} (hc : ∀ t ∈ x.waiting, ∀ z ∈ t, z ≤ c) : Shape x.waiting x.waiting c := ⟨rfl, fun j l hj => ⟨l, hj, rfl⟩, fun l hl z hz => ⟨(h.wb l hl z hz).1, hc l hl z hz⟩⟩
theorem Right.row {x : Nwk} (h : Right x) {p : Nat} (hp : p < x.procs.length) : ∃ l, x.waiting[p]? = some l ∧ l.length = lettersP x.procs p := by
  have hw := List.getElem?_eq_getElem (show p < x.waiting.length by rw [h.nwt]; exact hp)
  have hpr := List.getElem?_eq_getElem hp
  have h1 := h.wl p _ _ hw hpr
  refine ⟨_, hw, ?_⟩
  unfold lettersP
  rw [getD_some hpr]
  omega
/-- A legal move. -/
theorem moveX_shape {x : Nwk} (h : Right x) {i k : Nat} {l : List Int} {y : Int} (hl : x.waiting[i]? = some l) (hk : l[k]? = some y) (hy : 0 < y) {c : Int} (hc : ∀ t ∈ x.waiting, ∀ z ∈ t, z ≤ c) : Shape x.waiting (moveX x i k).waiting (c + 16) ∧ Right { moveX x i k with waiting := x.waiting } := by
  have hin : i < x.procs.length := by rw [← h.nwt]; exact (List.getElem?_eq_some_iff.1 hl).1
  obtain ⟨l', h1, h2⟩ := h.row hin
  rw [hl] at h1
  injection h1 with h1
  subst h1
  have hkl : k < l.length := (List.getElem?_eq_some_iff.1 hk).1
  have hpr := List.getElem?_eq_getElem hin
  obtain ⟨s, hs⟩ : ∃ s, x.state[i]? = some s := ⟨_, List.getElem?_eq_getElem (by rw [h.nst]; exact hin)⟩
  obtain ⟨s0, s1⟩ := h.st i s _ hs hpr
  have hok := h.ok
  have hs1 : s < statesP x.procs i := by unfold statesP; rw [getD_some hpr]; exact s1
  have hnx := hok.next i s k hin s0 hs1 (by omega)
  have hfew := hok.few i s k hin s0 hs1 (by omega)
  have hout := hok.out i s k hin s0 hs1 (by omega)
  have hy2 := hc l (List.mem_of_getElem? hl) y (List.mem_of_getElem? hk)
  constructor
  · have h1 := (h.shape hc).put (Int.le_refl c) hl hkl (y := y - 1) (by omega)
    have h3 := Shape.adds (sentP x.procs i (x.state.getD i 0) k) h1 fun o ho => by
      rw [getD_some hs] at ho
      obtain ⟨a, b, cc, d⟩ := hout o ho
      obtain ⟨l2, e1, e2⟩ := h.row (p := o.1.toNat) (by omega)
      exact ⟨l2, e1, by omega⟩
    unfold moveX
    simp only
    rw [bump_eq hl hk]
    rw [getD_some hs] at h3 ⊢
    refine ⟨h3.len, h3.row, fun l' hl' z hz => ?_⟩
    have := h3.num l' hl' z hz
    omega
  · refine ⟨h.n, h.proc, h.und, ?_, ?_, h.nwt, h.wl, h.wb⟩
    · show (x.state.set i _).length = _
      rw [List.length_set]; exact h.nst
    · intro j t pj hj hpj
      have hj' : (x.state.set i (nextP x.procs i (x.state.getD i 0) k))[j]? = some t := hj
      rw [List.getElem?_set] at hj'
      split at hj'
      · rename_i e
        subst e
        split at hj'
        · injection hj' with hj'
          subst hj'
          rw [getD_some hs]
          unfold statesP at hnx
          have e2 : x.procs[i]? = some pj := hpj
          rw [getD_some e2] at hnx
          exact hnx
        · cases hj'
      · exact h.st j t pj hj' hpj
theorem moveX_right {x : Nwk} (h : Right x) {i k : Nat} {l : List Int} {y : Int} (hl : x.waiting[i]? = some l) (hk : l[k]? = some y) (hy : 0 < y) {c : Int} (hc : ∀ t ∈ x.waiting, ∀ z ∈ t, z ≤ c) (hm : c + 16 ≤ 1048576) :
    Right (moveX x i k) ∧ (∀ t ∈ (moveX x i k).waiting, ∀ z ∈ t, z ≤ c + 16) ∧ (moveX x i k).procs = x.procs := by
  obtain ⟨h1, h2⟩ := moveX_shape h hl hk hy hc
  refine ⟨⟨h2.n, h2.proc, h2.und, h2.nst, h2.st, ?_, ?_, ?_⟩, fun t ht z hz => (h1.num t ht z hz).2, rfl⟩
  · rw [h1.len]; exact h.nwt
  · intro j t pj hj hpj
    obtain ⟨l0, e1, e2⟩ := h1.row j t hj
    rw [e2]
    exact h.wl j l0 pj e1 hpj
  · intro t ht z hz
    have := h1.num t ht z hz
    omega
theorem mem_rowMv {p : Nat} {l : List Int} {k : Nat} {m : Nat × Nat} (h : m ∈ rowMv p l k) : m.1 = p ∧ m.2 < k ∧ 0 < l.getD m.2 0 := by
  unfold rowMv at h
  obtain ⟨a, ha, rfl⟩ := List.mem_map.1 h
  obtain ⟨h1, h2⟩ := List.mem_filter.1 ha
  exact ⟨rfl, List.mem_range.1 h1, by simpa using h2⟩
/-- A move that is listed is legal. -/
theorem mem_moves {wt : List (List Int)} {m : Nat × Nat} (h : m ∈ movesS wt) : ∃ l y, wt[m.1]? = some l ∧ l[m.2]? = some y ∧ 0 < y := by
  unfold movesS at h
  obtain ⟨p, hp, hm⟩ := List.mem_flatMap.1 h
  obtain ⟨e, h1, h2⟩ := mem_rowMv hm
  have hpl := List.mem_range.1 hp
  have hl := List.getElem?_eq_getElem hpl
  rw [getD_some hl] at h1 h2
  have hy := List.getElem?_eq_getElem h1
  rw [getD_some hy] at h2
  exact ⟨_, _, by rw [e]; exact hl, hy, h2⟩

/-- The pick with number i among some moves. -/
def pickS (picks : List Int) (l : List (Nat × Nat)) (i : Nat) : Nat × Nat := l.getD ((picks.getD (i % picks.length) 0).toNat % l.length) (0, 0)
/-- A run by picks: the network and the counts when it has halted; none where the moves are used up. -/
def runX (picks : List Int) : Nat → Nat → Nwk → List (List Int) → Option (Nwk × List (List Int))
  | 0, i, x, ct => if (movesS x.waiting).isEmpty then some (x, ct) else none
  | n + 1, i, x, ct => if (movesS x.waiting).isEmpty then some (x, ct) else runX picks n (i + 1) (moveX x (pickS picks (movesS x.waiting) i).1 (pickS picks (movesS x.waiting) i).2) (bump ct (pickS picks (movesS x.waiting) i).1 (pickS picks (movesS x.waiting) i).2 1)
theorem pickS_mem {picks : List Int} {l : List (Nat × Nat)} {i : Nat} (h : l ≠ []) : pickS picks l i ∈ l := by
  unfold pickS
  have hl : 0 < l.length := List.length_pos_iff.2 h
  have hi : (picks.getD (i % picks.length) 0).toNat % l.length < l.length := Nat.mod_lt _ hl
  rw [getD_some (List.getElem?_eq_getElem hi)]
  exact List.getElem_mem hi

end Go.Proofs.Ytnigfddanoaonaa

set_option linter.unusedVariables false
set_option linter.unusedSimpArgs false
set_option linter.unnecessarySimpa false
namespace Go.Proofs.Ytnigfddanoaonaa
open Go.RowKit

def negB (l : List Int) : Bool := l.any fun x => decide (x < 0)

set_option maxHeartbeats 400000 in
theorem min_any (l : List Int) (oa : Option Addr) (c : Nat) (F : Foot) (w : World) (hs : SliceR intR 1 F w oa l) (hc : l.length ≤ c) (hc2 : l.length ≤ 9223372036854775807) (hne : 0 < l.length) :
    Calls Try.prog 38 #[.slice oa l.length c] w fun e w' => ∃ m : Int, e = .returned (.int .i64 m) ∧ decide (m < 0) = negB l ∧ w = w' := by
  obtain ⟨x0, hd0, _, i0, b, off, hoa, _, c0⟩ := hs.int_at hne
  have hoa' := hoa
  subst hoa'
  have HD0 := hide hd0
  have H0 : Hid (decide (x0 < 0) = negB (l.take 1)) := by
    rw [List.drop_zero] at hd0
    show _ = _
    rw [hd0]
    simp [negB]
  have I0 := hide i0
  clear hd0 hoa i0
  rw [Nat.add_zero] at c0
  have hl1 : decide ((l.length : Int) < 1) = false := by simp; omega
  go_enter Try.func38, Try.ntmps38
  go_wp2_with fail
  go_loop [3, 4] (fun mv i => ∃ (k : Nat) (m : Int), 0 < k ∧ k ≤ l.length ∧ mv = .int .i64 m ∧ i = .int .i64 k ∧ Hid (decide (m < 0) = negB (l.take k))) (fun _ i => l.length - (intOf i).toNat)
  case atStart => exact ⟨1, x0, by omega, by omega, rfl, rfl, H0⟩
  case round =>
    obtain ⟨k, m, hk0, hk, rfl, rfl, HM⟩ := hrel
    by_cases hlt : k < l.length
    · obtain ⟨x, hd, hget, _, b', off', hoa, _, cx⟩ := hs.int_at hlt
      injection hoa with hoa
      injection hoa with e1 e2
      subst e1 e2
      have HN : Hid (negB (l.take (k + 1)) = (negB (l.take k) || decide (x < 0))) := by
        show _ = _
        rw [List.take_add_one, hget]
        simp [negB]
      clear hd hget
      by_cases hmx : x < m
      · go_wp2_with fail
        go_round
        case rel =>
          refine ⟨k + 1, _, by omega, by omega, rfl, by go_num, ?_⟩
          show _ = _
          rw [HN.out, ← HM.out]
          by_cases h1 : m < 0 <;> by_cases h2 : x < 0 <;> simp [h1, h2] <;> omega
        case measure => simp [intOf]; omega
      · go_wp2_with fail
        go_round
        case rel =>
          refine ⟨k + 1, _, by omega, by omega, rfl, by go_num, ?_⟩
          show _ = _
          rw [HN.out, ← HM.out]
          by_cases h1 : m < 0 <;> by_cases h2 : x < 0 <;> simp [h1, h2] <;> omega
        case measure => simp [intOf]; omega
    · go_wp2_with fail
      go_ret
      refine ⟨m, rfl, ?_, rfl⟩
      rw [HM.out, List.take_of_length_le (by omega)]

end Go.Proofs.Ytnigfddanoaonaa

set_option linter.unusedVariables false
namespace Go.Proofs.Ytnigfddanoaonaa
open Go.RowKit

end Go.Proofs.Ytnigfddanoaonaa

set_option linter.unusedVariables false
namespace Go.Proofs.Ytnigfddanoaonaa
open Go.RowKit

end Go.Proofs.Ytnigfddanoaonaa

set_option linter.unusedVariables false
namespace Go.Proofs.Ytnigfddanoaonaa
open Go.RowKit

theorem mul64_one (n : Nat) (hn : n ≤ 1000000) (w : World) : Calls Try.prog 59 #[.int .u64 1, .int .u64 n] w fun e w' => e = .returned (.tuple #[.int .u64 0, .int .u64 n]) ∧ w = w' := by
  have h1 : bits .and .u64 (1 : Int) 4294967295 = 1 := by decide
  have h2 : bits .and .u64 (n : Int) 4294967295 = n := by
    have h := bits_and_u64_nat n 4294967295 (by omega) (by omega)
    have e : n &&& 4294967295 = n % 4294967296 := Nat.and_two_pow_sub_one_eq_mod n 32
    rw [e, Nat.mod_eq_of_lt (by omega)] at h
    exact h
  have h3 : bits .and .u64 (0 : Int) 4294967295 = 0 := by decide
  have h4 : (n : Int) / 4294967296 = 0 := by omega
  have h5 : IntKind.u64.wrap (n : Int) = n := by rw [IntKind.wrap_u64]; omega
  go_enter Try.func59, Try.ntmps59
  go_wp2_with fail
  go_ret2
  simp
theorem mul_one (n : Nat) (hn : n ≤ 1000000) (w : World) : Calls Try.prog 40 #[.int .u64 1, .int .u64 n] w fun e w' => e = .returned (.tuple #[.int .u64 0, .int .u64 n]) ∧ w = w' := by
  go_enter Try.func40, Try.ntmps40
  go_wp2_with (go_at_call 59; refine (mul64_one n hn _).mono ?_; rintro e w' ⟨rfl, rfl⟩)
  go_ret2
  exact ⟨rfl, rfl⟩

theorem intInfo : (Try.prog.info? 3).map (fun i => (i.zero, i.size, i.bytes)) = some (some (.int .i64 0), 1, 8) := by kernel_rfl
theorem intSize : (Try.prog.info? 3).map (·.size) = some 1 := by kernel_rfl

def IntsMade (w : World) (r : List Int) (e : Ending) (w' : World) : Prop :=
  ∃ v, e = .returned v ∧ OwnS intR 1 w.heap.size 3 Non w' v r ∧ Below w.heap.size w w'

/-- A row of n cells, of which the first m hold x. -/
def RowI (w : World) (g n : Nat) (x : Int) (m : Nat) : Prop := ∃ cur : List Value, w.heap[g]? = some (.cells cur.toArray 3 (0, 0)) ∧ cur.length = n ∧ ∀ j, j < m → cur[j]? = some (.int .i64 x)

theorem copy_first {w w1 : World} {n c b off : Nat} {x : Int} {zs : List Value} (hown : w1.ownsRow w.heap.size 3 1 (.slice (some ⟨w.heap.size, 0, none⟩) n n) n zs) (hg : w.grownBy w1 none) (cx : w.cell? ⟨b, off, none⟩ = some (.int .i64 x)) :
    ∃ (m : Nat) (w2 : World), Hid (m = min n 1) ∧ (Builtin.copy_ #[23, 23] 3 #[.slice (some ⟨w.heap.size, 0, none⟩) n n, .slice (some ⟨b, off, none⟩) 1 c]).run Try.prog w1 = .ok (.int .i64 m) w2 ∧ RowI w2 w.heap.size n x m ∧ Below w.heap.size w w2 := by
  obtain ⟨hl, hv⟩ := hown
  have hb1 : Below w.heap.size w w1 := (Below.refl w.heap.size w).grown hg (Nat.le_refl _) fun k hk => by cases hk
  rcases hv with ⟨he, _⟩ | ⟨g, cap, cur, he, _, hh, _, _, hcs, _⟩
  · cases he
  · injection he with h1 h2 h3
    injection h1 with h1
    injection h1 with h1
    subst h1 h3
    rcases Nat.eq_zero_or_pos n with h0 | h0
    · subst h0
      refine ⟨0, w1, rfl, run_copy_none w1 _ _ _ 3 _ _ _ _ _ _ Try.underlying23 intSize (by simp), ⟨cur.toList, by simpa using hh, by simpa using hcs, fun j hj => by omega⟩, hb1⟩
    · have hcell : w1.cell? ⟨b, off, none⟩ = some (.int .i64 x) := (hb1.cell (World.block_lt_of_cell? _ _ cx)).trans cx
      have hrun := run_copy_row (P := Try.prog) w1 23 23 3 3 w.heap.size 0 n n ⟨b, off, none⟩ 1 c cur 3 [.int .i64 x] Try.underlying23 intSize hh (by show 1 = min 1 n; omega) (fun j v hj => by
        match j, hj with
        | 0, hj => simp at hj; subst hj; simpa [Addr.add] using hcell) (by rw [hcs]; simp; omega) (by simp [Value.oneCell'])
      refine ⟨1, _, by show _ = _; omega, hrun, ⟨_, setRow_heap w1 _ _ _ _ _ hh, ?_, ?_⟩, below_setRow hb1 (Nat.le_refl _) _⟩
      · simp [hcs]; omega
      · intro j hj
        have : j = 0 := by omega
        subst this
        simp

set_option maxRecDepth 100000 in
set_option maxHeartbeats 2000000 in
theorem repeat_any (x : Int) (n c : Nat) (oa : Option Addr) (F : Foot) (w : World) (ix : I64 x) (hn : n ≤ 256) (hs : SliceR intR 1 F w oa [x]) :
    Calls Try.prog 22 #[.slice oa 1 c, .int .i64 n] w (IntsMade w (List.replicate n x)) := by
  obtain ⟨x', _, hx', _, b, off, rfl, _, cx⟩ := hs.int_at (i := 0) (by simp)
  simp at hx'
  subst hx'
  rw [Nat.add_zero] at cx
  obtain ⟨i, hi, hz, hsz, hby⟩ := info_parts intInfo
  have IX := hide ix
  have HI := hide (And.intro hi (And.intro hz (And.intro hsz hby)))
  clear hi hz hsz hby ix
  have hd1 : decide ((n : Int) < 0) = false := by simp
  have hd2 : decide (9223372036854775807 < (n : Int)) = false := by simp; omega
  go_enter Try.func22, Try.ntmps22
  go_wp2_with (first
    | (go_at_call 40; refine (mul_one n (by omega) _).mono ?_; rintro e w' ⟨rfl, rfl⟩)
    | (at_make; refine wpList_make_full _ rfl _ _ 23 rfl w.heap.size 3 i _ 1 Try.underlying23 HI.out.1 HI.out.2.1 HI.out.2.2.1 .i64 .i64 _ _ n rfl rfl rfl rfl (by rw [HI.out.2.2.2]; omega) (by unfold maxLen; omega) (Nat.le_refl _) (fun w1 hown hgrow => ?_)
       obtain ⟨m0, w2, HM0, hcp, hrow, hbw⟩ := copy_first (c := c) hown hgrow cx
       clear hown hgrow))
  clear hcp cx
  go_loopw [8] (fun v wr => ∃ m : Nat, v = .int .i64 m ∧ m ≤ n ∧ (n = 0 ∨ 0 < m) ∧ RowI wr w.heap.size n x m ∧ Below w.heap.size w wr) (fun v _ => n - (intOf v).toNat)
  case atStart => exact ⟨m0, rfl, by have := HM0.out; omega, by have := HM0.out; omega, hrow, hbw⟩
  case round =>
    obtain ⟨m, rfl, hmn, hm0, ⟨cur, hcur, hcl, hcx⟩, hb⟩ := hrel
    by_cases hlt : m < n
    · have hm1 : 0 < m := by omega
      have hnm : ¬ n = m := by omega
      obtain ⟨q, hq⟩ : ∃ q, q = min m (n - m) := ⟨_, rfl⟩
      have hq1 : 0 < q := by omega
      have hq2 : m + q ≤ n := by omega
      have hqm : q ≤ m := by omega
      have hwr : IntKind.i64.wrap ((m : Int) + (q : Int)) = (m : Int) + q := IntWalk.i64_in _ (by omega)
      have HQ := hide hq
      have HCUR := hide hcur
      have HCX := hide hcx
      have HCL := hide hcl
      clear hq hcur hcx hcl hrow hbw
      go_wp2_with fail
      go_region_law (refine step_copy_splice rfl (.tmp 41) (.tmp 44) 23 23 rfl 3 Try.underlying23 intSize (some ⟨w.heap.size, m, none⟩) (some ⟨w.heap.size, 0, none⟩) (n - m) (n - m) m n (by simp [Act.eval, Act.put]) (by simp [Act.eval, Act.put]) w.heap.size m cur 3 HCUR.out (List.replicate q (.int .i64 x)) (by have := HQ.out; simp; omega) (fun _ => ⟨rfl, _, rfl, fun j v hj => by
        have hjq : j < q := by have := (List.getElem?_eq_some_iff.1 hj).1; simpa using this
        rw [List.getElem?_replicate] at hj
        simp [hjq] at hj
        subst hj
        rw [show (Addr.mk w.heap.size 0 none).add j = ⟨w.heap.size, j, none⟩ from by unfold Addr.add; split <;> simp_all]
        change wr.cell? ⟨w.heap.size, j, none⟩ = _
        rw [cell_of_row wr w.heap.size j _ _ _ HCUR.out]
        simpa using HCX.out j (by omega)⟩) (by simp; have := HCL.out; omega) (by simp [Value.oneCell']) w.heap.size w hb.drew (Nat.le_refl _) ?_; intro w4 hg4 hb4)
      all_goals
        simp [Act.put]
        go_roundw
        case rel =>
          refine ⟨_, _, _, _, _, _, _, _, _, _, _, _, _, _, ⟨m + q, by go_num, by omega, .inr (by omega), ⟨_, hg4.out, by rw [length_splice _ _ _ (by simp; have := HCL.out; omega)]; exact HCL.out, ?_⟩, hb4⟩, rfl⟩
          intro j hj
          unfold splice
          have hcl := HCL.out
          by_cases h : j < m
          · rw [List.getElem?_append_left (by simp; omega), List.getElem?_take_of_lt h]
            exact HCX.out j h
          · rw [List.getElem?_append_right (by simp; omega), List.getElem?_append_left (by simp; omega), List.getElem?_replicate]
            rw [if_pos (by simp; omega)]
        case measure => simp [intOf]; omega
    · have hmn2 : m = n := by omega
      subst hmn2
      have HCUR := hide hcur
      have HCX := hide hcx
      have HCL := hide hcl
      clear hcur hcx hcl
      go_wp2_with fail
      go_ret
      have hcl := HCL.out
      have hrep : cur = List.replicate m (.int .i64 x) := by
        apply List.ext_getElem?
        intro j
        by_cases h : j < m
        · rw [HCX.out j h, List.getElem?_replicate, if_pos h]
        · rw [List.getElem?_eq_none (by omega), List.getElem?_eq_none (by simp; omega)]
      subst hrep
      refine ⟨_, rfl, ⟨List.replicate m (.int .i64 x), ⟨by simp, .inr ⟨w.heap.size, m, _, by simp, Nat.le_refl _, HCUR.out, by simp, by unfold maxLen; omega, by simp, by simp⟩⟩, ?_, ?_⟩, hb⟩
      · intro u hu
        rw [List.eq_of_mem_replicate hu]
        rfl
      · intro j y hy
        have hj : j < m := by have := (List.getElem?_eq_some_iff.1 hy).1; simpa using this
        rw [List.getElem?_replicate, if_pos hj] at hy
        injection hy with hy
        subst hy
        refine ⟨?_, IX.out⟩
        unfold chunk
        apply List.ext_getElem?
        intro k
        rw [List.getElem?_take]
        split
        · have : k = 0 := by omega
          subst this
          rw [List.getElem?_drop, List.getElem?_replicate, if_pos (by omega)]
          rfl
        · rw [List.getElem?_eq_none (by simp; omega)]

end Go.Proofs.Ytnigfddanoaonaa

set_option linter.unusedVariables false
namespace Go.Proofs.Ytnigfddanoaonaa
open Go.RowKit

def wordFrom : Nat → List Int → List Int
  | _, [] => []
  | a, n :: r => List.replicate n.toNat (a : Int) ++ wordFrom (a + 1) r
def manyErr (L : Int) (l : List Int) : Int := if (l.length : Int) = L then (if negB l then 2 else if 256 < (wordFrom 0 l).length then 5 else 0) else 8

end Go.Proofs.Ytnigfddanoaonaa

set_option linter.unusedVariables false
set_option linter.unusedSimpArgs false
namespace Go.Proofs.Ytnigfddanoaonaa
open Go.RowKit

def picksErr (l : List Int) : Int := if 4096 < l.length then 5 else if l.length = 0 then 14 else if negB l then 2 else 0

set_option maxHeartbeats 1000000 in
theorem picked_any (l : List Int) (oa : Option Addr) (c : Nat) (F : Foot) (w : World) (hs : SliceR intR 1 F w oa l) (hc : l.length ≤ c) (hc2 : l.length ≤ 9223372036854775807) :
    Calls Try.prog 20 #[.slice oa l.length c] w fun e w' => e = .returned (.int .i64 (picksErr l)) ∧ w = w' := by
  by_cases h1 : 4096 < l.length
  · have HR : Hid (picksErr l = 5) := if_pos h1
    have k1 : (4096 : Int) < l.length := by omega
    clear hs h1
    go_enter Try.func20, Try.ntmps20
    go_wp2_with fail
    go_ret
    exact ⟨ret_int (by rw [HR.out]), rfl⟩
  have k1 : ¬ (4096 : Int) < l.length := by omega
  by_cases h2 : l.length = 0
  · have HR : Hid (picksErr l = 14) := by show _ = _; unfold picksErr; rw [if_neg h1, if_pos h2]
    have k2 : ((l.length : Int) == 0) = true := by simp; exact List.eq_nil_of_length_eq_zero h2
    clear hs h1 h2
    go_enter Try.func20, Try.ntmps20
    go_wp2_with fail
    go_ret
    exact ⟨ret_int (by rw [HR.out]), rfl⟩
  have k2 : ((l.length : Int) == 0) = false := by simp; intro e; rw [e] at h2; simp at h2
  have HM := hide (min_any l oa c F w hs hc hc2 (by omega))
  have HR : Hid (picksErr l = if negB l then 2 else 0) := by show _ = _; unfold picksErr; rw [if_neg h1, if_neg h2]
  obtain ⟨n, hn⟩ : ∃ n, n = l.length := ⟨_, rfl⟩
  rw [← hn] at k1 k2 HM hc2 ⊢
  clear hs h1 h2 hn hc
  go_enter Try.func20, Try.ntmps20
  go_wp2_with fail
  refine HM.out.mono ?_
  rintro e w' ⟨m, rfl, hm, rfl⟩
  by_cases hneg : m < 0
  · have HB : Hid (negB l = true) := by show _ = _; rw [← hm]; simp [hneg]
    clear hm
    go_wp2_with fail
    go_ret
    exact ⟨ret_int (by rw [HR.out, HB.out]; rfl), rfl⟩
  · have HB : Hid (negB l = false) := by show _ = _; rw [← hm]; simp; omega
    clear hm
    go_wp2_with fail
    go_ret
    exact ⟨ret_int (by rw [HR.out, HB.out]; rfl), rfl⟩

end Go.Proofs.Ytnigfddanoaonaa

set_option linter.unusedVariables false
set_option linter.unusedSimpArgs false
namespace Go.Proofs.Ytnigfddanoaonaa
open Go.RowKit

theorem wpList_append_one {α : Type} {R : Rep α} {P : Program} {w : World} {ops : Array Oper} {rest : List Oper} {o : Oper} {a : Act} {Q : Exit → Act → World → Prop} (hgd : o.guard = none) (s x : Operand) (t : TypeId)
    (ho : o.op = .call { callee := .builtin .append, args := #[s, x], argTypes := #[t, t] })
    (base : Nat) (e : TypeId) (z : Value) (size bytes : Nat) (ht : P.underlying t = some (.slice e)) (hinfo : (P.info? e).map (fun i => (i.zero, i.size, i.bytes)) = some (some z, size, bytes))
    (hzs : z.cells.size = size) (hsz : 0 < size) (ok : RepOk R size) (v : Value) (xs : List α) (hs : a.eval s = v) (hown : OwnS R size base e Non w v xs)
    (ad : Addr) (c : Nat) (news : List Value) (y : α) (hx : a.eval x = .slice (some ad) 1 c) (hnews : ∀ j u, news[j]? = some u → w.cell? (ad.add j) = some u) (hR : R Non w news y)
    (hbytes : (xs.length + 1) * bytes ≤ 140737488355328) (hm : xs.length + 1 ≤ maxLen) (hbase : base ≤ w.heap.size)
    (hK : ∀ v' w', OwnS R size base e Non w' v' (xs ++ [y]) → Below base w w' → w.grownBy w' v.ownBlock → wpList P ops Q rest (a.put o.dst v') w') : wpList P ops Q (o :: rest) a w :=
  wpList_append_in hgd s x t ho base e z size bytes ht hinfo hzs hsz ok Non v xs hs (hown.wide ok fun k hk _ => hk.elim) ad c news y hx hnews (ok.wide hR fun k hk _ => hk.elim) hbytes hm hbase fun v' w' h1 h2 h3 _ => hK v' w' (h1.wide ok fun k hk _ => hk.1.elim) h2 h3
theorem zero_lit (w : World) : SliceR intR 1 All (w.alloc (.cells #[.int .i64 0] 3)) (some ⟨w.heap.size, 0, none⟩) [0] := by
  simpa using ints_lit (F := All) (G := All) w 3 [0] (by intro x hx; simp at hx; subst hx; unfold I64; omega) trivial
theorem methMv (x : Value) (w : World) : Sem.run Try.prog (method 250 82 x "sandpile/network.moves") w = .ok ((91 : Nat), x) w := by kernel_rfl
theorem methMk (x : Value) (w : World) : Sem.run Try.prog (method 250 82 x "sandpile/network.make") w = .ok ((90 : Nat), x) w := by kernel_rfl
theorem methNw (x : Value) (w : World) : Sem.run Try.prog (method 250 82 x "sandpile/network.network") w = .ok ((92 : Nat), x) w := by kernel_rfl
/-- A network in memory. -/
def NetAt (F : Foot) (w : World) (v : Value) (y : Nwk) : Prop := ∃ oq cq os cs ow cw, v = .agg #[.slice oq y.procs.length cq, .slice os y.state.length cs, .slice ow y.waiting.length cw] ∧ y.procs.length ≤ cq ∧ y.state.length ≤ cs ∧ y.waiting.length ≤ cw ∧ SliceR prcR 3 F w oq y.procs ∧ SliceR intR 1 F w os y.state ∧ SliceR (slcR intR 1) 1 F w ow y.waiting
/-- What a run comes to. -/
def RunNet (F : Foot) (w : World) (e : Ending) (w' : World) : Option (Nwk × List (List Int)) → Prop
  | some (y, ct) => ∃ v oc cc, e = .returned (.tuple #[v, .slice oc ct.length cc, .int .i64 0]) ∧ NetAt F w' v y ∧ ct.length ≤ cc ∧ SliceR (slcR intR 1) 1 F w' oc ct ∧ Below w.heap.size w w'
  | none => e = .returned (.tuple #[.agg #[.slice none 0 0, .slice none 0 0, .slice none 0 0], .slice none 0 0, .int .i64 12]) ∧ Below w.heap.size w w'

section
variable {O : Foot} {B0 K H p gs : Nat} {vp tw : Value} {rs : List Rw} {x : Nwk} {W W' : World}
/-- A store into a block that is none of the machine's. -/
theorem Mach.away (h : Mach O B0 K H p gs vp tw rs x W) {q : Addr} (hq : q.block < B0) (hO : ¬ O q.block) (v : Value) : Mach O B0 K H p gs vp tw rs x (W.setCell q v) := by
  obtain ⟨l1, l2, l3, l4⟩ := h.low
  exact {
    main := h.main.other (by omega) _
    procs := h.procs.keep prcR_ok (fun g hg => Below.heap_setCell _ _ _ g (by have := (h.procs.block g hg).1; omega)) (fun k hk _ => Below.heap_setCell _ _ _ k (fun e => by
      have h1 := hk.1.1
      unfold OldNew at h1
      rcases h1 with h1 | h1
      · exact hO (e ▸ h1.1)
      · omega))
    vlt := h.vlt
    sts := h.sts.other (by omega) _
    tab := h.tab.above fun k _ hk => Below.heap_setCell _ _ _ k (by omega)
    tabs := h.tabs
    low := h.low }
/-- What is laid or changed from block C on does not concern a machine that lies below. -/
theorem Mach.keepC (h : Mach O B0 K H p gs vp tw rs x W) {C : Nat} (hp : p < C) (ht : ∀ g, tw.ownBlock = some g → g < C) (hr : ∀ r ∈ rs, r.g < C) (hk : ∀ k, k < C → W'.heap[k]? = W.heap[k]?) : Mach O B0 K H p gs vp tw rs x W' := by
  obtain ⟨l1, l2, l3, l4⟩ := h.low
  exact {
    main := h.main.keep (hk _ hp)
    procs := h.procs.keep prcR_ok (fun g hg => hk g (by have := h.vlt g hg; omega)) (fun k hkk _ => hk k (by have := hkk.2; omega))
    vlt := h.vlt
    sts := h.sts.keep (hk _ (by omega))
    tab := h.tab.keep (fun g hg => hk g (ht g hg)) fun r hr' => hk _ (hr r hr')
    tabs := h.tabs
    low := h.low }
theorem Mach.netAt (h : Mach O B0 K H p gs vp tw rs x W) (hr : Right x) : NetAt All W (.agg #[vp, .slice (some ⟨gs, 0, none⟩) x.procs.length x.procs.length, tw]) x := by
  obtain ⟨oV, cV, hvp, hcV, hsV⟩ := h.procs.slice prcR_ok
  have hI : ∀ l ∈ x.waiting, l.length ≤ 9223372036854775807 ∧ ∀ k ∈ l, I64 k := fun l hl => by
    refine ⟨?_, fun k hk => by have := hr.wb l hl k hk; unfold I64; omega⟩
    obtain ⟨j, hj, rfl⟩ := List.mem_iff_getElem.1 hl
    obtain ⟨l', h1, h2⟩ := hr.row (p := j) (by rw [← hr.nwt]; exact hj)
    rw [List.getElem?_eq_getElem hj] at h1
    injection h1 with h1
    rw [h1, h2]
    have := (hr.letters j (by rw [← hr.nwt]; exact hj)).2
    omega
  obtain ⟨oT, cT, htw, hcT, hsT⟩ := h.tab.slices fun r hr' => hI r.l (by rw [← h.tabs]; exact List.mem_map.2 ⟨r, hr', rfl⟩)
  rw [h.tabs] at htw hcT hsT
  have hst : ∀ k ∈ x.state, I64 k := fun k hk => by
    obtain ⟨j, hj, rfl⟩ := List.mem_iff_getElem.1 hk
    have hj' : j < x.procs.length := by rw [← hr.nst]; exact hj
    have h1 := hr.st j _ _ (List.getElem?_eq_getElem hj) (List.getElem?_eq_getElem hj')
    have h2 := (check_zero (hr.proc j _ (List.getElem?_eq_getElem hj'))).2.1
    unfold I64
    omega
  have hs := h.sts.ints (F := All) hst trivial
  refine ⟨oV, cV, some ⟨gs, 0, none⟩, x.procs.length, oT, cT, ?_, hcV, by rw [hr.nst]; exact Nat.le_refl _, hcT, hsV.all prcR_ok (by decide), hs, hsT.all (slcR_ok intR_ok (by decide)) (by decide)⟩
  rw [hvp, htw, hr.nst]
end
theorem SliceR.mv_at {F : Foot} {w : World} {oa : Option Addr} {xs : List (Nat × Nat)} (h : SliceR mvR 2 F w oa xs) {i : Nat} (hi : i < xs.length) :
    ∃ a b : Nat, xs[i]? = some (a, b) ∧ ∃ bl off, oa = some ⟨bl, off, none⟩ ∧ F bl ∧ w.cell? ⟨bl, off + i * 2, none⟩ = some (.int .i64 a) ∧ w.cell? ⟨bl, off + i * 2 + 1, none⟩ = some (.int .i64 b) := by
  obtain ⟨⟨a, b⟩, h1, h2, bl, off, cs, h3, h4, rfl, h8⟩ := h.at hi
  exact ⟨a, b, h2, bl, off, h3, h4, by simpa using h8 0 _ rfl, by simpa using h8 1 _ rfl⟩
theorem RTab.away {B : Nat} {tw : Value} {rs : List Rw} {W : World} (h : RTab B tw rs W) {q : Addr} (hq : q.block < B) (v : Value) : RTab B tw rs (W.setCell q v) := h.above fun k _ hk => Below.heap_setCell _ _ _ k (by omega)
theorem tab_bound {x : Nwk} {ct0 ct : List (List Int)} {j : Int} (h0 : ct0 = x.procs.map fun p => List.replicate p.letters.toNat (0 : Int)) (h : Shape ct0 ct j) (hr : Right x) (hj : j ≤ 1000000) : ∀ l ∈ ct, l.length ≤ 9223372036854775807 ∧ ∀ k ∈ l, I64 k := fun l hl => by
  refine ⟨?_, fun k hk => by have := h.num l hl k hk; unfold I64; omega⟩
  obtain ⟨i, hi, rfl⟩ := List.mem_iff_getElem.1 hl
  obtain ⟨l0, h1, h2⟩ := h.row i _ (List.getElem?_eq_getElem hi)
  rw [h0, List.getElem?_map, Option.map_eq_some_iff] at h1
  obtain ⟨p, h3, h4⟩ := h1
  have h5 := (check_zero (hr.proc i p h3)).2.2.1
  rw [h2, ← h4, List.length_replicate]
  omega
theorem tabL_app (rs : List Rw) (r : Rw) : tabL (rs ++ [r]) = tabL rs ++ [r.l] := by unfold tabL; rw [List.map_append]; rfl

set_option maxRecDepth 100000 in
set_option maxHeartbeats 4000000 in
theorem nrun_big (x : Nwk) (op : Option Addr) (cp : Nat) (os : Option Addr) (cs : Nat) (ow : Option Addr) (cw : Nat) (picks : List Int) (oP : Option Addr) (cP : Nat) (limit : Nat) (F : Foot) (w : World)
    (hp : SliceR prcR 3 F w op x.procs) (hs : SliceR intR 1 F w os x.state) (ht : SliceR (slcR intR 1) 1 F w ow x.waiting) (hz : netErr x = 0) (hpk : SliceR intR 1 F w oP picks) (hcP : picks.length ≤ cP) (hpz : picksErr picks = 0) (hl : limit ≤ 4000)
    (hfew : ∀ t ∈ x.waiting, ∀ k ∈ t, k ≤ 1000) :
    Calls Try.prog 6 #[.agg #[.slice op x.procs.length cp, .slice os x.state.length cs, .slice ow x.waiting.length cw], .slice oP picks.length cP, .int .i64 limit] w fun e w' => RunNet All w e w' (runX picks limit 0 x (x.procs.map fun p => List.replicate p.letters.toNat (0 : Int))) := by
  have hr := netErr_zero hz
  have hst := hr.nst
  have hwt := hr.nwt
  have hpl : 1 ≤ picks.length ∧ picks.length ≤ 4096 := by
    unfold picksErr at hpz
    split at hpz
    · cases hpz
    · split at hpz
      · cases hpz
      · omega
  have HNEG : Hid (∀ k ∈ picks, 0 ≤ k) := fun k hk => by
    unfold picksErr at hpz
    split at hpz
    · cases hpz
    · split at hpz
      · cases hpz
      · split at hpz
        · cases hpz
        · rename_i h3
          unfold negB at h3
          simp at h3
          exact h3 k hk
  obtain ⟨n, hn⟩ : ∃ n, n = x.procs.length := ⟨_, rfl⟩
  have h12 : 1 ≤ n ∧ n ≤ 12 := by rw [hn]; exact hr.n
  obtain ⟨W1, e1⟩ : ∃ W1, w.alloc (.cells #[.slice op n cp, .slice os n cs, .slice ow n cw] 26) = W1 := ⟨_, rfl⟩
  have bx1 : Box W1 w.heap.size [.slice op n cp, .slice os n cs, .slice ow n cw] 26 := by rw [← e1]; exact Box.new w [.slice op n cp, .slice os n cs, .slice ow n cw] 26
  have bb1 := bnew (Below.refl w.heap.size w) (.cells #[.slice op n cp, .slice os n cs, .slice ow n cw] 26)
  rw [e1] at bb1
  obtain ⟨W2, e2⟩ : ∃ W2, W1.alloc (.cells #[.slice none 0 0, .slice none 0 0, .slice none 0 0] 26) = W2 := ⟨_, rfl⟩
  have bx2 : Box W2 W1.heap.size [.slice none 0 0, .slice none 0 0, .slice none 0 0] 26 := by rw [← e2]; exact Box.new W1 [.slice none 0 0, .slice none 0 0, .slice none 0 0] 26
  have bb2 := bnew (Below.refl W1.heap.size W1) (.cells #[.slice none 0 0, .slice none 0 0, .slice none 0 0] 26)
  rw [e2] at bb2
  have bx1 := bx1.below bb2
  have hb2 := bb1.trans (bb2.mono bb1.size)
  have HC1 : Hid (∀ u, Below w.heap.size w u → Calls Try.prog 19 #[.agg #[.slice op n cp, .slice os n cs, .slice ow n cw]] u fun e w' => e = .returned (.int .i64 0) ∧ Below u.heap.size u w') := fun u h => by
    have := netCheck_any x.procs op cp x.state os cs x.waiting ow cw F u (hp.below prcR_ok h) (by have := hr.n.2; omega) (hs.below intR_ok h) (by have := hr.n.2; omega) (ht.below (slcR_ok intR_ok (by decide)) h) (by have := hr.n.2; omega)
    rw [hst, hwt, ← hn] at this
    rw [show netErr ⟨x.procs, x.state, x.waiting⟩ = 0 from hz] at this
    exact this
  have HC2 : Hid (∀ u, Below w.heap.size w u → Calls Try.prog 20 #[.slice oP picks.length cP] u fun e w' => e = .returned (.int .i64 0) ∧ u = w') := fun u h => by
    have := picked_any picks oP cP F u (hpk.below intR_ok h) hcP (by omega)
    rw [hpz] at this
    exact this
  have HPP := hide (hp.loc prcR_ok (by omega))
  have HSS := hide (hs.loc intR_ok (by omega))
  have HTT := hide (ht.loc (slcR_ok intR_ok (by decide)) (by omega))
  have HPK := hide (hpk.loc intR_ok (by omega))
  have HC3 : Hid (∀ u, Below w.heap.size w u → Calls Try.prog 21 #[.agg #[.slice op n cp, .slice os n cs, .slice ow n cw]] u fun e w' => ∃ (B0 K H p gs : Nat) (vp tw : Value) (rs : List Rw), e = .returned (.iface 82 (machV p)) ∧ u.heap.size ≤ B0 ∧ Mach (Lt w.heap.size) B0 K H p gs vp tw rs x w' ∧ Below u.heap.size u w') := fun u h => by
    rw [hn]
    exact nstart_any x op cp os cs ow cw (Lt w.heap.size) u (HPP.out.below prcR_ok h) (HSS.out.below intR_ok h) (HTT.out.below (slcR_ok intR_ok (by decide)) h) hr
  rw [hst, hwt, ← hn]
  have d0 := bx1.cell 0
  have d1 := bx1.cell 1
  have d2 := bx1.cell 2
  simp only [List.getElem?_cons_zero, List.getElem?_cons_succ] at d0 d1 d2
  have HX1 := hide bx1
  have HX2 := hide bx2
  have HB2 := hide hb2
  have HZ1 := hide bb1.size
  have HR := hide hr
  have HN := hide hn
  have HPL := hide hpl
  obtain ⟨np, hnp⟩ : ∃ m, m = picks.length := ⟨_, rfl⟩
  rw [← hnp] at HC2 hpl ⊢
  have HNP := hide hnp
  have hl0 : ¬ (limit : Int) < 0 := by omega
  have hl1 : ¬ (1048576 : Int) < limit := by omega
  clear hr hst hwt hn bx1 bx2 bb1 bb2 hb2 hp hs ht hz hpk hcP hpz hnp
  go_enter Try.func6, Try.ntmps6
  go_wp2_with (first
    | (go_at_call 19; refine (HC1.out _ HB2.out).mono ?_; rintro e w3 ⟨rfl, h3⟩; have HB3 := hide (HB2.out.trans (h3.mono HB2.out.size)); have x1 := HX1.out.below h3; have y1 := x1.cell 0; have y2 := x1.cell 1; have y3 := x1.cell 2; simp only [List.getElem?_cons_zero, List.getElem?_cons_succ] at y1 y2 y3; have HX3 := hide x1; have HX23 := hide (HX2.out.below h3); clear h3 x1)
    | (go_at_call 20; refine (HC2.out _ HB3.out).mono ?_; rintro e w4 ⟨rfl, rfl⟩)
    | (go_at_call 21; refine (HC3.out _ HB3.out).mono ?_; rintro e w4 ⟨B0, K, H, p, gs, vp, tw, rs, rfl, hB0, hM, h4⟩; have HM := hide hM; have HX2w := hide (HX23.out.below h4); have HW23 := hide (show w3.heap.size ≤ B0 from hB0); have x4 := HX3.out.below h4; have z0 := x4.cell 0; simp only [List.getElem?_cons_zero, List.getElem?_cons_succ] at z0; have HX4 := hide x4; have HB4 := hide (HB3.out.trans (h4.mono HB3.out.size)); clear hM x4))
  obtain ⟨Bc, hBc⟩ : ∃ Bc, Bc = w4.heap.size := ⟨_, rfl⟩
  have HBC := hide hBc
  clear hBc z0
  go_loopg [12, 43] n (fun gm tc iv wx => ∃ (i : Nat) (rcs : List Rw), i ≤ n ∧ gm = n - i ∧ iv = .int .i64 i ∧ Hid (RTab Bc tc rcs wx) ∧ Hid (tabL rcs = ((x.procs.take i).map fun p => List.replicate p.letters.toNat (0 : Int))) ∧ Hid (Below Bc w4 wx))
  case atStart => exact ⟨0, [], by omega, by omega, rfl, RTab.nil _ _, rfl, Below.refl _ _⟩
  case round =>
    obtain ⟨i, rcs, hi, hgm, rfl, HT, HTL, HB⟩ := hrel
    have HGM := hide hgm
    clear hgm
    have hbw : ∀ k, k < w.heap.size → wr.heap[k]? = w.heap[k]? := fun k hk => by
      have h1 := HB4.out.size
      rw [HB.out.block k (by have := HBC.out; omega)]
      exact HB4.out.block k hk
    have hBw : Bc ≤ wr.heap.size := by have := HB.out.size; have := HBC.out; omega
    by_cases hlt : i < n
    · obtain ⟨S, Le, rls, b7, off7, oR, cR, hd7, hpr, hoP, _, y0, y1, y2, iS, iL, hrc, _, _⟩ := (HPP.out.keep (w' := wr) prcR_ok (fun k hk _ => hbw k hk)).prc_at (i := i) (by have := HN.out; omega)
      subst hoP
      have hck := check_zero (HR.out.proc i _ hpr)
      simp only at hck
      obtain ⟨Ln, rfl⟩ := Int.eq_ofNat_of_zero_le (show (0 : Int) ≤ Le by omega)
      have hLn : 1 ≤ Ln ∧ Ln ≤ 8 := by omega
      obtain ⟨ot, ct_, htc, _⟩ := HT.out.len
      have hrl : rcs.length = i := by
        have := congrArg List.length HTL.out
        unfold tabL at this
        rw [List.length_map, List.length_map, List.length_take, Nat.min_eq_left (by have := HN.out; omega)] at this
        exact this
      rw [hrl] at htc
      subst htc
      have HLEN : Hid ((rcs.map Rw.val).length = i) := by show _ = _; rw [List.length_map]; exact hrl
      have HPR := hide hpr
      clear hd7 hpr hck hrc hrl iS
      have hrep := repeat_any 0 Ln 1 (some ⟨wr.heap.size + 1, 0, none⟩) All ((wr.alloc (.cells #[.int .i64 S, .int .i64 Ln, .slice oR rls.length cR] 53)).alloc (.cells #[.int .i64 0] 3)) (by unfold I64; omega) (by omega) (by have := zero_lit (wr.alloc (.cells #[.int .i64 S, .int .i64 Ln, .slice oR rls.length cR] 53)); rw [alloc_size'] at this; exact this)
      have HREP := hide hrep
      clear hrep
      go_wp2_with (first
        | (go_at_call 22; refine HREP.out.mono ?_
           rintro e w6 ⟨v6, rfl, h6, hb6⟩
           obtain ⟨gr, capr, rr, hv6, hgr, hcapr, _, hrow6, _⟩ := h6.row (by intro e; have := congrArg List.length e; simp at this; omega)
           rw [List.length_replicate] at hv6 hcapr
           subst hv6
           rw [alloc_size', alloc_size'] at hgr
           have hbw6 : Below wr.heap.size wr w6 := (bnew (bnew (Below.refl _ _) _) _).trans (hb6.mono (by rw [alloc_size', alloc_size']; omega))
           have HT6 := hide (HT.out.below hbw6)
           have HR6 := hide hrow6
           have HB6 := hide hbw6
           have hcr : Ln ≤ capr := by { omega }
           clear h6 hb6 hrow6 hcapr hbw6)
        | (at_builtin
           refine wpList_append_one rfl (.tmp 47) (.tmp 52) 24 rfl Bc 23 _ 1 24 Try.underlying24 tabInfoN rfl (by decide) valR_ok (.slice ot i ct_) (rcs.map Rw.val) (by simp [Act.eval, Act.put]) (OwnS.new valR_ok HT6.out.tab _) ⟨_, 0, none⟩ 1 [.slice (some ⟨gr, 0, none⟩) Ln capr] (.slice (some ⟨gr, 0, none⟩) Ln capr) (by simp [Act.eval, Act.put]) (World.news_of_block (heap_alloc_new _ _)) ⟨rfl, rfl⟩ (by rw [HLEN.out]; omega) (by rw [HLEN.out]; unfold maxLen; omega) (by rw [alloc_size']; have := HB6.out.size; omega) (fun v' w8 ho hb8 hg8 => ?_)
           have HO8 := hide ho
           have HB8 := hide hb8
           have HG8 := hide hg8
           clear ho hb8 hg8))
      go_roundg (n - (i + 1))
      case measure => have := HGM.out; omega
      case rel =>
        have hs6 := HB6.out.size
        have hlt6 := HR6.out.lt
        have hpush := HT.out.push (r := ⟨gr, capr, List.replicate Ln 0, rr⟩) (W' := w8) (by unfold Rw.val slV; rw [List.length_replicate]; exact HO8.out)
          (fun k hk hne => (HG8.out.block k (by rw [alloc_size']; omega) hne).trans ((Below.heap_alloc w6 _ k (by omega)).trans (HB6.out.block k hk)))
          (HR6.out.keep ((HG8.out.block gr (by rw [alloc_size']; omega) (fun e => by obtain ⟨cur, hcur⟩ := own_heap HT6.out.tab e.symm; exact ne_type HR6.out hcur (by decide) rfl)).trans (Below.heap_alloc w6 _ gr hlt6))) (by simp only; omega) hBw (by simp only [List.length_replicate]; exact hcr)
        refine ⟨i + 1, _, by omega, rfl, by go_num, hpush, ?_, ?_⟩
        · show _ = _
          rw [tabL_app, HTL.out, List.take_add_one, HPR.out]
          simp
        · exact ((HB.out.trans (HB6.out.mono hBw)).alloc (by omega) _).trans HB8.out
    · have hie : i = n := by omega
      subst hie
      have hM0 : Mach (Lt w.heap.size) B0 K H p gs vp tw rs x wr := HM.out.below (by rw [← HBC.out]; exact HB.out)
      have HM0 := hide hM0
      clear hM0
      have hmv := methMv
      have hmk := methMk
      have hnw := methNw
      have hl8 : ∀ y : Nwk, Right y → y.procs = x.procs → y.waiting.length ≤ 12 ∧ ∀ l ∈ y.waiting, l.length ≤ 8 := fun y hy he => by
        refine ⟨by rw [hy.nwt]; exact hy.n.2, fun l hl => ?_⟩
        obtain ⟨j, hj, rfl⟩ := List.mem_iff_getElem.1 hl
        obtain ⟨l', h1, h2⟩ := hy.row (p := j) (by rw [← hy.nwt]; exact hj)
        rw [List.getElem?_eq_getElem hj] at h1
        injection h1 with h1
        rw [h1, h2]
        exact (hy.letters j (by rw [← hy.nwt]; exact hj)).2
      have HL8 := hide hl8
      have HMV := hide (nmoves_any HM0.out (hl8 x HR.out rfl).1 (hl8 x HR.out rfl).2)
      clear hl8
      go_wp2_with (go_at_call 91; refine HMV.out.mono ?_; rintro e w5 ⟨v5, rfl, h5, hb5⟩; obtain ⟨o5, c5, hv5, _, _⟩ := h5.slice mvR_ok; subst hv5; have HO5 := hide h5; have HB5 := hide hb5; clear h5 hb5)
      obtain ⟨oc, cc, htc, _⟩ := HT.out.len
      subst htc
      have hct0 : tabL rcs = x.procs.map fun p => List.replicate p.letters.toNat (0 : Int) := by
        have := HTL.out
        rw [List.take_of_length_le (by have := HN.out; omega)] at this
        exact this
      obtain ⟨ct0, hc0⟩ : ∃ ct0, ct0 = x.procs.map fun p => List.replicate p.letters.toNat (0 : Int) := ⟨_, rfl⟩
      rw [← hc0] at hct0
      have HCT0 := hide hct0
      have HC0 := hide hc0
      have hsh0 : Shape ct0 ct0 0 := ⟨rfl, fun j l hj => ⟨l, hj, rfl⟩, fun l hl z hz => by
        rw [hc0] at hl
        obtain ⟨p, _, rfl⟩ := List.mem_map.1 hl
        have := List.eq_of_mem_replicate hz
        omega⟩
      have HSH0 := hide hsh0
      have hB0c : B0 ≤ Bc := by have h1 := HM.out.low; have h2 := HM.out.sts.lt; have := HBC.out; omega
      have hwr : Bc ≤ wr.heap.size := hBw
      have HT5 : Hid (RTab Bc (.slice oc rcs.length cc) rcs w5) := HT.out.below HB5.out
      have HM5 : Hid (Mach (Lt w.heap.size) B0 K H p gs vp tw rs x w5) := HM0.out.below HB5.out
      have HBB5 : Hid (Below B0 w4 w5) := (HB.out.mono hB0c).trans (HB5.out.mono (by omega))
      have HO6 : Hid (OwnS mvR 2 Bc 57 Non w5 (.slice o5 (movesS x.waiting).length c5) (movesS x.waiting)) := HO5.out.rebase hwr
      obtain ⟨nc, hnc⟩ : ∃ m, m = rcs.length := ⟨_, rfl⟩
      have HNC := hide hnc
      rw [← hnc] at HT5 ⊢
      clear hct0 hc0 hsh0 hnc
      go_loopg [15, 16] limit (fun gm jv lv wx => ∃ (j : Nat) (y : Nwk) (ct : List (List Int)) (rs' rcs' : List Rw) (o6 : Option Addr) (c6 : Nat), j ≤ limit ∧ gm = limit - j ∧ jv = .int .i64 j ∧ lv = .slice o6 (movesS y.waiting).length c6 ∧
        Hid (runX picks (limit - j) j y ct = runX picks limit 0 x ct0) ∧ Hid (Right y ∧ y.procs = x.procs ∧ ∀ t ∈ y.waiting, ∀ z ∈ t, z ≤ 1000 + 16 * j) ∧ Hid (Mach (Lt w.heap.size) B0 K H p gs vp tw rs' y wx) ∧ Hid (rs'.map (·.g) = rs.map (·.g)) ∧ Hid (RTab Bc (.slice oc nc cc) rcs' wx) ∧ Hid (tabL rcs' = ct) ∧ Hid (Shape ct0 ct j) ∧
        Hid (OwnS mvR 2 Bc 57 Non wx (.slice o6 (movesS y.waiting).length c6) (movesS y.waiting)) ∧ Hid (Below B0 w4 wx))
      case atStart => exact ⟨0, x, ct0, rs, rcs, o5, c5, by omega, by omega, rfl, rfl, rfl, ⟨HR.out, rfl, fun t ht z hz => by have := hfew t ht z hz; omega⟩, HM5.out, rfl, HT5.out, HCT0.out, HSH0.out, HO6.out, HBB5.out⟩
      case round =>
        obtain ⟨j, y, ct, rs', rcs', o6, c6, hj, hgm, rfl, rfl, HRX, HRY, HMy, HRG, HTy, HTLy, HSHy, HOy, HBy⟩ := hrel
        have HGM := hide hgm
        clear hgm
        obtain ⟨ml, hml⟩ : ∃ m, m = (movesS y.waiting).length := ⟨_, rfl⟩
        have HML := hide hml
        rw [← hml]
        clear hml
        have hpo : W1.heap.size < B0 := by have h2 := HX23.out.lt; have h3 := HW23.out; omega
        have hres : Box wr W1.heap.size [.slice none 0 0, .slice none 0 0, .slice none 0 0] 26 := HX2w.out.keep (HBy.out.block _ hpo)
        have r0 := hres.cell 0
        have r1 := hres.cell 1
        have r2 := hres.cell 2
        have rf := hres.free
        simp only [List.getElem?_cons_zero, List.getElem?_cons_succ] at r0 r1 r2
        have HRES := hide hres
        clear hres
        by_cases hme : 0 < ml
        · by_cases hjl : j = limit
          · have HNO : Hid (runX picks limit 0 x ct0 = none) := by
              show _ = _
              rw [← HRX.out, hjl, Nat.sub_self]
              unfold runX
              rw [if_neg]
              intro e
              have e2 := List.isEmpty_iff.1 e
              have h9 := HML.out
              rw [e2, List.length_nil] at h9
              omega
            have q1 : (((j : Nat) : Int) == ((limit : Nat) : Int)) = true := by simp [hjl]
            have q0 : (0 : Int) < ml := by omega
            clear hjl
            have hp1 : w.heap.size ≤ W1.heap.size := HZ1.out
            have hbw4 : Below w.heap.size w wr := HB4.out.trans (HBy.out.mono (by omega))
            go_wp2_with fail
            have hfin := ((HRES.out.put 0 (.slice none 0 0)).put 1 (.slice none 0 0)).put 2 (.slice none 0 0)
            simp only [List.set_cons_zero, List.set_cons_succ] at hfin
            refine bodyPost_ret (results_cell_tmp2_row rfl _ _ W1.heap.size 26 _ (0, 0) _ rfl hfin Try.underlying26 rfl (by kernel_rfl)) rfl ?_
            rw [← HC0.out, HNO.out]
            exact ⟨rfl, ((hbw4.setCell hp1 _).setCell hp1 _).setCell hp1 _⟩
          · obtain ⟨hRy, hpy, hby⟩ := HRY.out
            have q1 : (((j : Nat) : Int) == ((limit : Nat) : Int)) = false := by simp; omega
            have q0 : (0 : Int) < ml := by omega
            have hbw4 : Below w.heap.size w wr := HB4.out.trans (HBy.out.mono (by have := HZ1.out; omega))
            obtain ⟨A, hA⟩ : ∃ A, A = j % np := ⟨_, rfl⟩
            have hAl : A < np := by rw [hA]; exact Nat.mod_lt _ (by omega)
            have rem1 : ((j : Int)).tmod (np : Int) = (A : Int) := by rw [hA, Int.tmod_eq_emod_of_nonneg (by omega)]; rfl
            obtain ⟨Yi, _, hYg, _, bP, offP, hoP, _, cY⟩ := (HPK.out.below intR_ok hbw4).int_at (i := A) (by rw [← HNP.out]; exact hAl)
            subst hoP
            obtain ⟨Y, rfl⟩ := Int.eq_ofNat_of_zero_le (HNEG.out Yi (List.mem_of_getElem? hYg))
            obtain ⟨J, hJ⟩ : ∃ J, J = Y % ml := ⟨_, rfl⟩
            have hJl : J < ml := by rw [hJ]; exact Nat.mod_lt _ hme
            have rem2 : ((Y : Int)).tmod (ml : Int) = (J : Int) := by rw [hJ, Int.tmod_eq_emod_of_nonneg (by omega)]; rfl
            obtain ⟨oz, cz, hz1, hz2, hz3⟩ := HOy.out.slice mvR_ok
            injection hz1 with hz1 hz4 hz5
            subst hz1 hz5
            rw [← HML.out] at hz2
            obtain ⟨mp, ma, hmg, bl, offm, hom, _, cm0, cm1⟩ := hz3.mv_at (i := J) (by rw [← HML.out]; exact hJl)
            subst hom
            have HPS : Hid (pickS picks (movesS y.waiting) j = (mp, ma)) := by
              show _ = _
              unfold pickS
              rw [← HNP.out, ← HML.out, ← hA, getD_some hYg, Int.toNat_natCast, ← hJ, getD_some hmg]
            obtain ⟨l, z, hl, hz, hz0⟩ := mem_moves (List.mem_of_getElem? hmg)
            have hmk0 := moveX_right hRy hl hz hz0 hby (by omega)
            have HMK0 := hide hmk0
            obtain ⟨W6, e6⟩ : ∃ W6, wr.alloc (.cells #[.int .i64 mp, .int .i64 ma] 57) = W6 := ⟨_, rfl⟩
            have bx6 : Box W6 wr.heap.size [.int .i64 mp, .int .i64 ma] 57 := by rw [← e6]; exact Box.new wr [.int .i64 mp, .int .i64 ma] 57
            have bb6 := bnew (Below.refl wr.heap.size wr) (.cells #[.int .i64 mp, .int .i64 ma] 57)
            rw [e6] at bb6
            have HMK := hide (nmake_any (HMy.out.below bb6) hRy hl hz hz0 (fun t ht k hk => by have := hby t ht k hk; omega))
            have HBX6 := hide bx6
            have HBB6 := hide bb6
            have k60 := bx6.cell 0
            have k61 := bx6.cell 1
            simp only [List.getElem?_cons_zero, List.getElem?_cons_succ] at k60 k61
            have HLZ := hide (And.intro hl (And.intro hz hz0))
            clear hYg hA hJ hz3 hz4 hmg hmk0 bx6 bb6 hl hz hRy hpy hby
            go_wp2_with (go_at_call 90; refine HMK.out.mono ?_; rintro e w7 ⟨rfl, rs2, hM7, hg7, hk7⟩; have HM7 := hide hM7; have HG7 := hide hg7; have HK7 := hide hk7; clear hM7 hg7 hk7)
            obtain ⟨hl, hz, hz0⟩ := HLZ.out
            obtain ⟨hRn, hbn, hpn⟩ := HMK0.out
            have hB4 : Bc = w4.heap.size := HBC.out
            have hpB : p < Bc := by rw [hB4]; exact HM.out.main.lt
            have hgs : gs < Bc := by have := HM.out.low; omega
            have htB : ∀ g, tw.ownBlock = some g → g < Bc := fun g hg => by rw [hB4]; exact (HM.out.tab.tab.block g hg).2
            have hrs0 : ∀ r ∈ rs, r.g < Bc := fun r hr => by rw [hB4]; exact (HM.out.tab.row r hr).1.lt
            have hgB : ∀ {rz : List Rw}, rz.map (·.g) = rs.map (·.g) → ∀ r ∈ rz, r.g < Bc := fun {rz} he r hr => by
              have h1 : r.g ∈ rz.map (·.g) := List.mem_map.2 ⟨r, hr, rfl⟩
              rw [he] at h1
              obtain ⟨r0, h2, h3⟩ := List.mem_map.1 h1
              rw [← h3]
              exact hrs0 r0 h2
            have hw6 : wr.heap.size ≤ W6.heap.size := HBB6.out.size
            have hBcr : Bc ≤ wr.heap.size := by rw [hB4]; exact HBy.out.size
            have fix7 : ∀ k, k < W6.heap.size → Bc ≤ k → w7.heap[k]? = W6.heap[k]? := fun k hk hk2 => HK7.out.fix k hk (by omega) fun r hr => by have := hgB HRG.out r hr; omega
            have hT7 : RTab Bc (.slice oc nc cc) rcs' w7 := (HTy.out.below HBB6.out).above fix7
            have hX7 : Box w7 wr.heap.size [.int .i64 mp, .int .i64 ma] 57 := HBX6.out.keep (fix7 _ HBX6.out.lt hBcr)
            have hO7 : Hid (Below B0 w4 w7) := HBy.out.trans ((HBB6.out.mono (by omega)).trans HK7.out.low)
            -- the count
            have hmpn : mp < y.waiting.length := (List.getElem?_eq_some_iff.1 hl).1
            have hmpl : mp < ct.length := by
              rw [HSHy.out.len, HC0.out, List.length_map, ← HRY.out.2.1, ← HRY.out.1.nwt]
              exact hmpn
            obtain ⟨cl, hcl⟩ : ∃ cl, ct[mp]? = some cl := ⟨_, List.getElem?_eq_getElem hmpl⟩
            have hcll : cl.length = l.length := by
              obtain ⟨l0, h1, h2⟩ := HSHy.out.row mp cl hcl
              rw [HC0.out, List.getElem?_map, Option.map_eq_some_iff] at h1
              obtain ⟨pr, h3, h4⟩ := h1
              have h5 := HRY.out.1.wl mp l pr hl (by rw [HRY.out.2.1]; exact h3)
              rw [h2, ← h4, List.length_replicate]
              omega
            have hmal : ma < cl.length := by rw [hcll]; exact (List.getElem?_eq_some_iff.1 hz).1
            obtain ⟨zc, hzc⟩ : ∃ zc, cl[ma]? = some zc := ⟨_, List.getElem?_eq_getElem hmal⟩
            have hzcb := HSHy.out.num cl (List.mem_of_getElem? hcl) zc (List.mem_of_getElem? hzc)
            obtain ⟨r, hr, hrl⟩ : ∃ r, rcs'[mp]? = some r ∧ r.l = cl := by
              have h1 := hcl
              rw [← HTLy.out] at h1
              unfold tabL at h1
              rw [List.getElem?_map, Option.map_eq_some_iff] at h1
              exact h1
            obtain ⟨gc, capc, htc, hcc, hBg, c0, hrow7, hBr, hrc, hrne⟩ := hT7.get hr
            injection htc with htc htn htcap
            subst htc htcap
            rw [hrl] at c0 hrow7 hrc
            have c1 := hrow7.cell (i := ma) (x := zc) hzc
            have f1 := hrow7.free ma
            have k70 := hX7.cell 0
            have k71 := hX7.cell 1
            simp only [List.getElem?_cons_zero, List.getElem?_cons_succ] at k70 k71
            have hmpc : mp < nc := by
              have h1 := (List.getElem?_eq_some_iff.1 hr).1
              omega
            have HT7 := hide hT7
            have HCT := hide (And.intro hcl (And.intro hzc (And.intro hr hrl)))
            have HROW7 := hide hrow7
            obtain ⟨cn, hcn⟩ : ∃ cn, cn = cl.length := ⟨_, rfl⟩
            rw [← hcn] at hmal
            unfold slV at c0
            rw [← hcn] at c0 hrc
            have l0 := World.block_lt_of_cell? _ _ c0
            have l1 := World.block_lt_of_cell? _ _ c1
            have l2 := World.block_lt_of_cell? _ _ k70
            simp only at l0 l1 l2
            have HCN := hide hcn
            have HCLL := hide hcll
            have HMAL := hide hmal
            have HMMM := hide (And.intro hRn (And.intro hbn hpn))
            have HGS := hide (And.intro hpB (And.intro htB (And.intro (@hgB) (And.intro hBr hBcr))))
            have hcn8 : cn ≤ 8 := by
              rw [hcn, hcll]
              have h1 := (HL8.out y HRY.out.1 HRY.out.2.1).2 l (List.mem_of_getElem? hl)
              exact h1
            clear hl hz hz0 hRn hbn hpn hgB hrs0 htB hT7 hX7 fix7 hcl hcll hzc hr hrl hrow7 hcn hmpl hmpn htn hcc hBg hBr hrne hB4 hpB hgs hw6 hBcr
            go_wp2_with fail
            go_region
            obtain ⟨W8, e8⟩ : ∃ W8, (w7.setCell ⟨r.g, ma, none⟩ (.int .i64 (zc + 1))).drew = W8 := ⟨_, rfl⟩
            obtain ⟨hcl, hzc, hr, hrl⟩ := HCT.out
            obtain ⟨hpB, htB, hgB, hBr, hBcr⟩ := HGS.out
            obtain ⟨hRn, hbn, hpn⟩ := HMMM.out
            have hrg2 : rs2.map (·.g) = rs.map (·.g) := HG7.out.trans HRG.out
            have HM8 : Hid (Mach (Lt w.heap.size) B0 K H p gs vp tw rs2 (moveX y mp ma) W8) := by
              show Mach _ _ _ _ _ _ _ _ _ _ _
              refine HM7.out.keepC hpB htB (hgB hrg2) fun k hk => ?_
              rw [← e8]
              exact Below.heap_setCell _ _ _ k (by simp only; omega)
            have HT8 : Hid (RTab Bc (.slice (some ⟨gc, 0, none⟩) nc cc) (rwSet rcs' mp (cl.set ma (zc + 1))) W8) := by
              show RTab _ _ _ _
              rw [← e8]
              have := HT7.out.put hr (k := ma) (by rw [hrl, ← HCN.out]; exact HMAL.out) (zc + 1)
              rw [hrl] at this
              exact this.draw
            have hb78 : Below Bc w7 W8 := by rw [← e8]; exact ((Below.refl _ _).setCell hBr _).drew
            have h78 : w7.heap.size = W8.heap.size := by rw [← e8]; simp
            have HO8 : Hid (Below B0 w4 W8) := hO7.out.trans (hb78.mono hB0c)
            have HMV2 := hide (nmoves_any HM8.out (HL8.out _ hRn (hpn.trans HRY.out.2.1)).1 (HL8.out _ hRn (hpn.trans HRY.out.2.1)).2)
            have HS78 : Hid (Bc ≤ W8.heap.size) := by
              show _ ≤ _
              have h1 := HK7.out.size
              have h2 := HBB6.out.size
              omega
            rw [e8]
            clear e8 c0 c1 f1 k70 k71 l0 l1 l2 hcl hzc hr hrl hpB htB hgB hBr hBcr hRn hbn hpn hrg2 hb78 h78
            go_wp2_with (go_at_call 91; refine HMV2.out.mono ?_; rintro e w9 ⟨v9, rfl, h9, hb9⟩; obtain ⟨o9, c9, hv9, _, _⟩ := h9.slice mvR_ok; subst hv9; have HO9 := hide h9; have HB9 := hide hb9; clear h9 hb9)
            go_roundg (limit - (j + 1))
            case measure => have := HGM.out; omega
            case rel =>
              obtain ⟨hcl, hzc, hr, hrl⟩ := HCT.out
              obtain ⟨hRn, hbn, hpn⟩ := HMMM.out
              have hne : ¬ (movesS y.waiting).isEmpty = true := fun e => by
                have e2 := List.isEmpty_iff.1 e
                have h9 := HML.out
                rw [e2, List.length_nil] at h9
                omega
              refine ⟨j + 1, moveX y mp ma, bump ct mp ma 1, rs2, _, o9, c9, by omega, rfl, by go_num, rfl, ?_, ⟨hRn, hpn.trans HRY.out.2.1, fun t ht k hk => by have := hbn t ht k hk; push_cast; omega⟩, HM8.out.below HB9.out, HG7.out.trans HRG.out, HT8.out.below HB9.out, ?_, ?_, HO9.out.rebase HS78.out, HO8.out.trans (HB9.out.mono (by have := HS78.out; omega))⟩
              · show _ = _
                rw [← HRX.out, show limit - j = (limit - (j + 1)) + 1 from by omega, runX, if_neg hne, HPS.out]
              · show _ = _
                rw [tabL_set, HTLy.out, bump_eq hcl hzc]
              · show Shape _ _ _
                rw [bump_eq hcl hzc]
                have hz9 := HSHy.out.num cl (List.mem_of_getElem? hcl) zc (List.mem_of_getElem? hzc)
                exact HSHy.out.put (by push_cast; omega) hcl (by rw [← HCN.out]; exact HMAL.out) (by push_cast; omega)
        · have hme0 : movesS y.waiting = [] := List.length_eq_zero_iff.1 (by have := HML.out; omega)
          have HYE : Hid (runX picks limit 0 x ct0 = some (y, ct)) := by
            show _ = _
            rw [← HRX.out]
            cases (limit - j) <;> (unfold runX; rw [if_pos (by simp [hme0])])
          have q0 : ¬ (0 : Int) < ml := by omega
          have HNN := hide (nnet_any HMy.out)
          obtain ⟨oV, cV, hvp, _, _⟩ := HMy.out.procs.slice prcR_ok
          obtain ⟨oT, cT, htw, _⟩ := HMy.out.tab.len
          subst hvp htw
          have hp1 : w.heap.size ≤ W1.heap.size := HZ1.out
          have hbw4 : Below w.heap.size w wr := HB4.out.trans (HBy.out.mono (by omega))
          obtain ⟨nv, hnv⟩ : ∃ m, m = y.procs.length := ⟨_, rfl⟩
          obtain ⟨nt, hnt⟩ : ∃ m, m = rs'.length := ⟨_, rfl⟩
          have HNV := hide hnv
          have HNT := hide hnt
          rw [← hnv, ← hnt] at HNN
          clear hme hme0 hnv hnt
          go_wp2_with (go_at_call 92; refine HNN.out.mono ?_; rintro e w7 ⟨rfl, hb7⟩; have HB7 := hide hb7; have hr7 := HRES.out.below hb7; have HRES7 := hide hr7; have t0 := hr7.cell 0; have t1 := hr7.cell 1; have t2 := hr7.cell 2; have tf := hr7.free; simp only [List.getElem?_cons_zero, List.getElem?_cons_succ] at t0 t1 t2; clear hb7 hr7 r0 r1 r2 rf)
          have hO : ¬ Lt w.heap.size W1.heap.size := by unfold Lt; omega
          have hfin := ((HRES7.out.put 0 (.slice oV nv cV)).put 1 (.slice (some ⟨gs, 0, none⟩) nv nv)).put 2 (.slice oT nt cT)
          simp only [List.set_cons_zero, List.set_cons_succ] at hfin
          have hM8 := (((HMy.out.below HB7.out).away (q := ⟨W1.heap.size, 0, none⟩) hpo hO (.slice oV nv cV)).away (q := ⟨W1.heap.size, 1, none⟩) hpo hO (.slice (some ⟨gs, 0, none⟩) nv nv)).away (q := ⟨W1.heap.size, 2, none⟩) hpo hO (.slice oT nt cT)
          have hpc : W1.heap.size < Bc := by omega
          have hT8 := (((HTy.out.below HB7.out).away (q := ⟨W1.heap.size, 0, none⟩) hpc (.slice oV nv cV)).away (q := ⟨W1.heap.size, 1, none⟩) hpc (.slice (some ⟨gs, 0, none⟩) nv nv)).away (q := ⟨W1.heap.size, 2, none⟩) hpc (.slice oT nt cT)
          have hb8 : Below w.heap.size w w7 := hbw4.trans (HB7.out.mono hbw4.size)
          refine bodyPost_ret (results_cell_tmp2_row rfl _ _ W1.heap.size 26 _ (0, 0) _ rfl hfin Try.underlying26 rfl (by kernel_rfl)) rfl ?_
          rw [← HC0.out, HYE.out]
          have hbd := tab_bound HC0.out HSHy.out HR.out (by omega)
          obtain ⟨oa, cap, e1, e2, e3⟩ := hT8.slices fun r hr => hbd r.l (by rw [← HTLy.out]; exact List.mem_map.2 ⟨r, hr, rfl⟩)
          injection e1 with e1 e4 e5
          subst e1 e5
          rw [HTLy.out] at e2 e3 e4
          refine ⟨_, oc, cc, ?_, hM8.netAt HRY.out.1, e2, e3.all (slcR_ok intR_ok (by decide)) (by decide), ((hb8.setCell hp1 _).setCell hp1 _).setCell hp1 _⟩
          rw [HNV.out, HNT.out, ← e4]
          rfl

theorem nrun_any (x : Nwk) (op : Option Addr) (cp : Nat) (os : Option Addr) (cs : Nat) (ow : Option Addr) (cw : Nat) (picks : List Int) (oP : Option Addr) (cP : Nat) (limit : Nat) (F : Foot) (w : World)
    (hp : SliceR prcR 3 F w op x.procs) (hs : SliceR intR 1 F w os x.state) (ht : SliceR (slcR intR 1) 1 F w ow x.waiting) (hz : netErr x = 0) (hpk : SliceR intR 1 F w oP picks) (hcP : picks.length ≤ cP) (hpz : picksErr picks = 0) (hl : limit ≤ 4000)
    (hfew : ∀ t ∈ x.waiting, ∀ k ∈ t, k ≤ 40) :
    Calls Try.prog 6 #[.agg #[.slice op x.procs.length cp, .slice os x.state.length cs, .slice ow x.waiting.length cw], .slice oP picks.length cP, .int .i64 limit] w fun e w' => RunNet All w e w' (runX picks limit 0 x (x.procs.map fun p => List.replicate p.letters.toNat (0 : Int))) :=
  nrun_big x op cp os cs ow cw picks oP cP limit F w hp hs ht hz hpk hcP hpz hl fun t ht k hk => by
    have := hfew t ht k hk
    omega

end Go.Proofs.Ytnigfddanoaonaa

set_option linter.unusedVariables false
namespace Go.Proofs.Ytnigfddanoaonaa
open Go.RowKit

theorem RowO.draw {w : World} {g : Nat} {d : List Out} {rest : List Value} (h : RowO w g d rest) : RowO w.drew g d rest := h

end Go.Proofs.Ytnigfddanoaonaa

set_option linter.unusedVariables false
namespace Go.Proofs.Ytnigfddanoaonaa
open Go.RowKit

end Go.Proofs.Ytnigfddanoaonaa

set_option linter.unusedVariables false
namespace Go.Proofs.Ytnigfddanoaonaa
open Go.RowKit

end Go.Proofs.Ytnigfddanoaonaa

set_option linter.unusedVariables false
namespace Go.Proofs.Ytnigfddanoaonaa
open Go.RowKit

end Go.Proofs.Ytnigfddanoaonaa

set_option linter.unusedVariables false
namespace Go.Proofs.Ytnigfddanoaonaa
open Go.RowKit

def R1 (w : World) (g : Nat) (X A1 A2 B1 B2 Y : List Out) (rest : List Value) (wx : World) : Prop := RowO wx g (X ++ (A1 ++ (B1 ++ (A2 ++ (B2 ++ Y))))) rest ∧ w.grownBy wx (some g)
def R2 (w : World) (g : Nat) (X A1 A2 B1 B2 Y : List Out) (rest : List Value) (wx : World) : Prop := RowO wx g (X ++ (isort (A1 ++ B1) ++ (A2 ++ (B2 ++ Y)))) rest ∧ w.grownBy wx (some g)
def R3 (w : World) (g : Nat) (X A1 A2 B1 B2 Y : List Out) (rest : List Value) (wx : World) : Prop := RowO wx g (X ++ (isort (A1 ++ B1) ++ (isort (A2 ++ B2) ++ Y))) rest ∧ w.grownBy wx (some g)

end Go.Proofs.Ytnigfddanoaonaa

set_option linter.unusedVariables false
namespace Go.Proofs.Ytnigfddanoaonaa
open Go.RowKit

inductive Bk (s : Nat) : List Out → Prop
  | last (l : List Out) : Srt l → l.length ≤ s → Bk s l
  | cons (l r : List Out) : Srt l → l.length = s → Bk s r → Bk s (l ++ r)
inductive Full (s : Nat) : List Out → Prop
  | nil : Full s []
  | snoc (D l : List Out) : Full s D → Srt l → l.length = s → Full s (D ++ l)
theorem Bk.split {s : Nat} {R : List Out} (h : Bk s R) (hs : s ≤ R.length) : ∃ l r, R = l ++ r ∧ Srt l ∧ l.length = s ∧ Bk s r := by
  cases h with
  | last _ h1 h2 => exact ⟨R, [], by simp, h1, by omega, Bk.last [] List.Pairwise.nil (by simp)⟩
  | cons l r h1 h2 h3 => exact ⟨l, r, rfl, h1, h2, h3⟩
end Go.Proofs.Ytnigfddanoaonaa

set_option linter.unusedVariables false
namespace Go.Proofs.Ytnigfddanoaonaa
open Go.RowKit

def commRes (p : Prc) (s a b : Int) : Bool × Int :=
  if stateErr p s = 0 then (if belowB a p.letters && belowB b p.letters then (commB p.rules s a b, 0) else (false, 2)) else (false, stateErr p s)
def BoolPost (w : World) (r : Bool × Int) (e : Ending) (w' : World) : Prop :=
  e = .returned (.tuple #[.bool r.1, .int .i64 r.2]) ∧ Below w.heap.size w w'
end Go.Proofs.Ytnigfddanoaonaa

set_option linter.unusedVariables false
namespace Go.Proofs.Ytnigfddanoaonaa
open Go.RowKit

def RightP (S L s : Int) (rs : List (List Rul)) (word : List Int) : Prop := checkErr ⟨S, L, rs⟩ 12 = 0 ∧ (0 ≤ s ∧ s < S) ∧ word.length ≤ 40 ∧ lettersErr L word = 0

end Go.Proofs.Ytnigfddanoaonaa

set_option linter.unusedVariables false
namespace Go.Proofs.Ytnigfddanoaonaa
open Go.RowKit

def OutsMade (w : World) (r : List Out) (e : Ending) (w' : World) : Prop :=
  ∃ v, e = .returned v ∧ OwnS outR 2 w.heap.size 75 Non w' v r ∧ Below w.heap.size w w'

def sumLen (l : List (List Out)) : Nat := (l.map List.length).sum

end Go.Proofs.Ytnigfddanoaonaa

set_option linter.unusedVariables false
namespace Go.Proofs.Ytnigfddanoaonaa
open Go.RowKit

theorem readSpec_app (rs : List (List Rul)) : ∀ (a b : List Int) (s : Int), readSpec rs s (a ++ b) = ((readSpec rs (readSpec rs s a).1 b).1, (readSpec rs s a).2 ++ (readSpec rs (readSpec rs s a).1 b).2)
  | [], b, s => by simp [readSpec]
  | x :: a, b, s => by
    have h := readSpec_app rs a b (ruleAt rs s x).next
    simp only [List.cons_append, readSpec]
    rw [h]
    simp
theorem letters_of {L : Int} : ∀ {l : List Int}, (∀ a ∈ l, 0 ≤ a ∧ a < L) → lettersErr L l = 0
  | [], _ => rfl
  | a :: r, h => by
    have h1 := h a (by simp)
    have h2 : belowB a L = true := by simp [belowB]; omega
    simp only [lettersErr, h2]
    exact letters_of fun x hx => h x (by simp [hx])
theorem SliceR.take {α : Type} {R : Rep α} {sz : Nat} {F : Foot} {w : World} {oa : Option Addr} {xs : List α} (h : SliceR R sz F w oa xs) (k : Nat) : SliceR R sz F w oa (xs.take k) := by
  intro i x hx
  rw [List.getElem?_take] at hx
  split at hx
  · exact h i x hx
  · cases hx
end Go.Proofs.Ytnigfddanoaonaa

set_option linter.unusedVariables false
namespace Go.Proofs.Ytnigfddanoaonaa
open Go.RowKit

end Go.Proofs.Ytnigfddanoaonaa

set_option linter.unusedVariables false
namespace Go.Proofs.Ytnigfddanoaonaa
open Go.RowKit

def capS : List Int → Int
  | [] => 0
  | n :: r => min n 257 + capS r
end Go.Proofs.Ytnigfddanoaonaa

set_option linter.unusedVariables false
namespace Go.Proofs.Ytnigfddanoaonaa
open Go.RowKit

def manyRes (p : Prc) (s : Int) (l : List Int) : Int × List Out × Int :=
  if stateErr p s = 0 then (if manyErr p.letters l = 0 then ((readSpec p.rules s (wordFrom 0 l)).1, isort (readSpec p.rules s (wordFrom 0 l)).2, 0) else (0, [], manyErr p.letters l)) else (0, [], stateErr p s)

end Go.Proofs.Ytnigfddanoaonaa

set_option linter.unusedVariables false
set_option linter.unusedSimpArgs false
namespace Go.Proofs.Ytnigfddanoaonaa
open Go.RowKit

/-- All letters commute in all states. -/
def AllComm (rs : List (List Rul)) (S L : Int) : Prop := ∀ s a b : Int, 0 ≤ s ∧ s < S → 0 ≤ a ∧ a < L → 0 ≤ b ∧ b < L → commB rs s a b = true

theorem read_range {S L : Int} {rs : List (List Rul)} (hV : checkErr ⟨S, L, rs⟩ 12 = 0) (l : List Int) (s : Int) (hs : 0 ≤ s ∧ s < S) (hl : ∀ a ∈ l, 0 ≤ a ∧ a < L) : 0 ≤ (readSpec rs s l).1 ∧ (readSpec rs s l).1 < S :=
  (readSpec_right (p := ⟨S, L, rs⟩) hV l s hs (letters_of hl)).1

theorem read_perm {S L : Int} {rs : List (List Rul)} (hV : checkErr ⟨S, L, rs⟩ 12 = 0) (hC : AllComm rs S L) {l m : List Int} (hp : l.Perm m) :
    (∀ a ∈ l, 0 ≤ a ∧ a < L) → ∀ s : Int, 0 ≤ s ∧ s < S → (readSpec rs s l).1 = (readSpec rs s m).1 ∧ (readSpec rs s l).2.Perm (readSpec rs s m).2 := by
  induction hp with
  | nil => intro _ s _; exact ⟨rfl, List.Perm.refl _⟩
  | cons a _ ih =>
    intro hl s hs
    have h1 := read_range hV [a] s hs (fun x hx => hl x (by simp at hx; simp [hx]))
    have h2 := ih (fun x hx => hl x (by simp [hx])) (ruleAt rs s a).next h1
    simp only [readSpec]
    exact ⟨h2.1, h2.2.append_left _⟩
  | swap a b r =>
    intro hl s hs
    have h := hC s b a hs (hl b (by simp)) (hl a (by simp))
    unfold commB at h
    simp only [Bool.and_eq_true, decide_eq_true_eq] at h
    have e1 := readSpec_app rs [b, a] r s
    have e2 := readSpec_app rs [a, b] r s
    simp only [List.cons_append, List.nil_append] at e1 e2
    rw [e1, e2]
    refine ⟨by simp only; rw [h.1], ?_⟩
    simp only
    rw [h.1]
    refine List.Perm.append_right _ ?_
    exact ((isort_perm _).symm.trans (h.2 ▸ List.Perm.refl _)).trans (isort_perm _)
  | trans h1 h2 ih1 ih2 =>
    intro hl s hs
    have a1 := ih1 hl s hs
    have a2 := ih2 (fun x hx => hl x (h1.mem_iff.2 hx)) s hs
    exact ⟨a1.1.trans a2.1, a1.2.trans a2.2⟩

theorem witB_none {f : Nat → Nat → Nat → Bool} {s a : Nat} : ∀ {n b : Nat}, witB f s a n b = none → ∀ d, b ≤ d → d < b + n → f s a d = true
  | 0, b, _, d, h1, h2 => by omega
  | n + 1, b, h, d, h1, h2 => by
    unfold witB at h
    split at h
    · rcases Nat.eq_or_lt_of_le h1 with e | e
      · subst e; assumption
      · exact witB_none h d (by omega) (by omega)
    · cases h
theorem witA_none {f : Nat → Nat → Nat → Bool} {s L : Nat} : ∀ {n a : Nat}, witA f s L n a = none → ∀ c d, a ≤ c → c < a + n → d < L → f s c d = true
  | 0, b, _, c, d, h1, h2, _ => by omega
  | n + 1, a, h, c, d, h1, h2, h3 => by
    unfold witA at h
    rw [Option.or_eq_none_iff] at h
    rcases Nat.eq_or_lt_of_le h1 with e | e
    · subst e; exact witB_none h.1 d (by omega) (by omega)
    · exact witA_none h.2 c d (by omega) (by omega) h3
theorem witS_none {f : Nat → Nat → Nat → Bool} {L : Nat} : ∀ {n s : Nat}, witS f L n s = none → ∀ t c d, s ≤ t → t < s + n → c < L → d < L → f t c d = true
  | 0, b, _, t, c, d, h1, h2, _, _ => by omega
  | n + 1, s, h, t, c, d, h1, h2, h3, h4 => by
    unfold witS at h
    rw [Option.or_eq_none_iff] at h
    rcases Nat.eq_or_lt_of_le h1 with e | e
    · subst e; exact witA_none h.1 c d (by omega) (by omega) h4
    · exact witS_none h.2 t c d (by omega) (by omega) h3 h4
/-- What Abelian says. -/
theorem abel_yes {S L : Int} {rs : List (List Rul)} (hV : checkErr ⟨S, L, rs⟩ 12 = 0) (h : (abelRes ⟨S, L, rs⟩).1 = true) : AllComm rs S L := by
  intro s a b hs ha hb
  simp only [abelRes, hV, if_true] at h
  obtain ⟨s', rfl⟩ := Int.eq_ofNat_of_zero_le hs.1
  obtain ⟨a', rfl⟩ := Int.eq_ofNat_of_zero_le ha.1
  obtain ⟨b', rfl⟩ := Int.eq_ofNat_of_zero_le hb.1
  exact witS_none (f := commN rs) (Option.isNone_iff_eq_none.1 h) s' a' b' (by omega) (by omega) (by omega) (by omega)
/-- The counts of a word's letters. -/
def tally (L : Nat) (l : List Int) : List Int := (List.range L).map fun a : Nat => (l.count (a : Int) : Int)
theorem tally_len (L : Nat) (l : List Int) : (tally L l).length = L := by simp [tally]
theorem tally_nil (L : Nat) : tally L [] = List.replicate L 0 := by
  apply List.ext_getElem?
  intro i
  simp only [tally, List.getElem?_map, List.getElem?_replicate]
  by_cases h : i < L
  · simp [h]
  · simp [h]
theorem tally_get {L : Nat} {l : List Int} {a : Nat} (h : a < L) : (tally L l)[a]? = some (l.count (a : Int) : Int) := by simp [tally, h]
theorem tally_snoc {L : Nat} (l : List Int) {a : Nat} (h : a < L) : tally L (l ++ [(a : Int)]) = (tally L l).set a ((l.count (a : Int) : Int) + 1) := by
  apply List.ext_getElem?
  intro i
  by_cases hi : i < L
  · by_cases e : a = i
    · subst e
      rw [List.getElem?_set_self (by rw [tally_len]; exact h), tally_get h]
      simp
    · rw [List.getElem?_set_ne e, tally_get hi, tally_get hi]
      have : ¬ ((a : Int) = (i : Int)) := by omega
      simp [List.count_append, List.count_cons, this]
  · rw [List.getElem?_eq_none (by simp [tally_len]; omega), List.getElem?_eq_none (by simp [tally_len]; omega)]
end Go.Proofs.Ytnigfddanoaonaa

set_option linter.unusedVariables false
set_option linter.unusedSimpArgs false
namespace Go.Proofs.Ytnigfddanoaonaa
open Go.RowKit

theorem sub_rest : ∀ (h h' : List Int), (∀ a, h.count a ≤ h'.count a) → ∃ r, h'.Perm (h ++ r)
  | [], h', _ => ⟨h', List.Perm.refl _⟩
  | a :: t, h', hc => by
    have ha : a ∈ h' := by
      have := hc a
      rw [List.count_cons_self] at this
      exact List.count_pos_iff.1 (by omega)
    have hp := List.perm_cons_erase ha
    obtain ⟨r, hr⟩ := sub_rest t (h'.erase a) fun b => by
      have h1 := hc b
      rw [hp.count_eq b, List.count_cons, List.count_cons] at h1
      omega
    exact ⟨r, hp.trans (hr.cons a)⟩

def sumN (f : Nat → Nat) : Nat → Nat
  | 0 => 0
  | n + 1 => sumN f n + f n
theorem sumN_le {f g : Nat → Nat} : ∀ {n : Nat}, (∀ p, p < n → f p ≤ g p) → sumN f n ≤ sumN g n
  | 0, _ => Nat.le_refl _
  | n + 1, h => by
    have h1 := sumN_le (n := n) fun p hp => h p (by omega)
    have h2 := h n (by omega)
    simp only [sumN]
    omega
theorem sumN_eq {f g : Nat → Nat} {n : Nat} (h : ∀ p, p < n → f p = g p) : sumN f n = sumN g n :=
  Nat.le_antisymm (sumN_le fun p hp => Nat.le_of_eq (h p hp)) (sumN_le fun p hp => Nat.le_of_eq (h p hp).symm)
theorem sumN_one {f g : Nat → Nat} {k : Nat} : ∀ {n : Nat}, k < n → (∀ p, p < n → p ≠ k → f p = g p) → sumN f n + g k = sumN g n + f k
  | 0, h, _ => by omega
  | n + 1, h, he => by
    simp only [sumN]
    by_cases hk : k = n
    · subst hk
      rw [sumN_eq fun p hp => he p (by omega) (by omega)]
      omega
    · have h1 := sumN_one (n := n) (k := k) (by omega) fun p hp hne => he p (by omega) hne
      rw [he n (by omega) (by omega)]
      omega
theorem sumN_mem {f : Nat → Nat} {k : Nat} : ∀ {n : Nat}, k < n → f k ≤ sumN f n
  | 0, h => by omega
  | n + 1, h => by
    simp only [sumN]
    by_cases hk : k = n
    · subst hk; omega
    · have := sumN_mem (f := f) (n := n) (k := k) (by omega)
      omega
theorem sumN_le_eq {f g : Nat → Nat} : ∀ {n : Nat}, (∀ p, p < n → f p ≤ g p) → sumN g n ≤ sumN f n → ∀ p, p < n → f p = g p
  | 0, _, _, p, hp => by omega
  | n + 1, h, he, p, hp => by
    simp only [sumN] at he
    have h1 := sumN_le (n := n) fun p hp => h p (by omega)
    have h2 := h n (by omega)
    by_cases hk : p = n
    · subst hk; omega
    · exact sumN_le_eq (n := n) (fun p hp => h p (by omega)) (by omega) p (by omega)

/-- The letters a for q among some outputs. -/
def cntO (os : List Out) (q a : Nat) : Nat := os.countP fun o => decide (o.dst = (q : Int) ∧ o.letter = (a : Int))
theorem cntO_nil (q a : Nat) : cntO [] q a = 0 := rfl
theorem cntO_app (l m : List Out) (q a : Nat) : cntO (l ++ m) q a = cntO l q a + cntO m q a := by unfold cntO; rw [List.countP_append]
theorem cntO_perm {l m : List Out} (h : l.Perm m) (q a : Nat) : cntO l q a = cntO m q a := h.countP_eq _

/-- What a processor of a network comes to by a history. -/
def histR (x : Nwk) (p : Nat) (h : List Int) : Int × List Out := readSpec (x.procs.getD p prc0).rules (x.state.getD p 0) h
def sentN (x : Nwk) (hs : Nat → List Int) (q a : Nat) : Nat := sumN (fun p => cntO (histR x p (hs p)).2 q a) x.procs.length
def cellT (t : List (List Int)) (q a : Nat) : Int := (t.getD q []).getD a 0
def AbN (x : Nwk) : Prop := ∀ (i : Nat) (p : Prc), x.procs[i]? = some p → AllComm p.rules p.states p.letters
def InL (x : Nwk) (hs : Nat → List Int) : Prop := ∀ p, p < x.procs.length → ∀ a ∈ hs p, 0 ≤ a ∧ a < (lettersP x.procs p : Int)
def LeH (x : Nwk) (hs hc : Nat → List Int) : Prop := ∀ p, p < x.procs.length → ∀ a : Int, (hs p).count a ≤ (hc p).count a
def totH (x : Nwk) (hs : Nat → List Int) : Nat := sumN (fun p => (hs p).length) x.procs.length
/-- Complete histories: all letters that are there were read. -/
def Compl (x : Nwk) (hs : Nat → List Int) : Prop := ∀ q a, q < x.procs.length → a < lettersP x.procs q → cellT x.waiting q a + sentN x hs q a ≤ ((hs q).count (a : Int) : Int)

section
variable {x : Nwk} {hs hc : Nat → List Int}
theorem getD_procs {x : Nwk} {p : Nat} (hp : p < x.procs.length) : x.procs[p]? = some (x.procs.getD p prc0) := by rw [getD_some (List.getElem?_eq_getElem hp)]; exact List.getElem?_eq_getElem hp
theorem Right.st0 (hr : Right x) {p : Nat} (hp : p < x.procs.length) : 0 ≤ x.state.getD p 0 ∧ x.state.getD p 0 < (x.procs.getD p prc0).states := by
  have hs := List.getElem?_eq_getElem (show p < x.state.length by rw [hr.nst]; exact hp)
  rw [getD_some hs]
  exact hr.st p _ _ hs (getD_procs hp)
theorem Right.let0 (hr : Right x) {p : Nat} (hp : p < x.procs.length) : (x.procs.getD p prc0).letters = (lettersP x.procs p : Int) := by
  have := hr.letters p hp
  unfold lettersP at this ⊢
  omega
theorem hist_perm (hr : Right x) (hA : AbN x) {p : Nat} (hp : p < x.procs.length) {l m : List Int} (hl : ∀ a ∈ l, 0 ≤ a ∧ a < (lettersP x.procs p : Int)) (h : l.Perm m) : (histR x p l).1 = (histR x p m).1 ∧ (histR x p l).2.Perm (histR x p m).2 := by
  have hpr := getD_procs hp
  have hck : checkErr (x.procs.getD p prc0) 12 = 0 := checkErr_more (hr.proc p _ hpr)
  exact read_perm (S := (x.procs.getD p prc0).states) (L := (x.procs.getD p prc0).letters) hck (hA p _ hpr) h (by rw [hr.let0 hp]; exact hl) _ (hr.st0 hp)
theorem hist_mono (hr : Right x) (hA : AbN x) {p : Nat} (hp : p < x.procs.length) {l m : List Int} (hm : ∀ a ∈ m, 0 ≤ a ∧ a < (lettersP x.procs p : Int)) (hc : ∀ a, l.count a ≤ m.count a) (q a : Nat) : cntO (histR x p l).2 q a ≤ cntO (histR x p m).2 q a := by
  obtain ⟨r, hp'⟩ := sub_rest l m hc
  rw [cntO_perm (hist_perm hr hA hp hm hp').2]
  unfold histR
  rw [readSpec_app]
  simp only [cntO_app]
  omega
theorem sent_mono (hr : Right x) (hA : AbN x) (hI : InL x hc) (hL : LeH x hs hc) (q a : Nat) : sentN x hs q a ≤ sentN x hc q a :=
  sumN_le fun p hp => hist_mono hr hA hp (hI p hp) (hL p hp) q a
/-- The least action: where a letter may still be read, fewer have been read than by complete histories. -/
theorem least (hr : Right x) (hA : AbN x) (hI : InL x hc) (hC : Compl x hc) (hL : LeH x hs hc) {q a : Nat} (hq : q < x.procs.length) (ha : a < lettersP x.procs q) (h : ((hs q).count (a : Int) : Int) < cellT x.waiting q a + sentN x hs q a) :
    (hs q).count (a : Int) < (hc q).count (a : Int) := by
  have h1 := sent_mono hr hA hI hL q a
  have h2 := hC q a hq ha
  omega
theorem LeH.len (h : LeH x hs hc) {p : Nat} (hp : p < x.procs.length) : (hs p).length ≤ (hc p).length := by
  obtain ⟨r, hr⟩ := sub_rest _ _ (h p hp)
  rw [hr.length_eq, List.length_append]
  omega
theorem LeH.tot (h : LeH x hs hc) : totH x hs ≤ totH x hc := sumN_le fun p hp => h.len hp
theorem LeH.perm (h : LeH x hs hc) (ht : totH x hc ≤ totH x hs) {p : Nat} (hp : p < x.procs.length) : (hs p).Perm (hc p) := by
  have he := sumN_le_eq (fun p hp => h.len hp) ht p hp
  obtain ⟨r, hr⟩ := sub_rest _ _ (h p hp)
  have hl := hr.length_eq
  rw [List.length_append] at hl
  have : r = [] := List.length_eq_zero_iff.1 (by omega)
  subst this
  rw [List.append_nil] at hr
  exact hr.symm
/-- A history with one letter more. -/
def upH (hs : Nat → List Int) (p : Nat) (a : Int) : Nat → List Int := fun q => if q = p then hs q ++ [a] else hs q
theorem upH_at (hs : Nat → List Int) (p : Nat) (a : Int) : upH hs p a p = hs p ++ [a] := by simp [upH]
theorem upH_ne (hs : Nat → List Int) {p q : Nat} (a : Int) (h : q ≠ p) : upH hs p a q = hs q := by simp [upH, h]
theorem upH_le {p : Nat} {a : Int} (h : LeH x hs hc) (ha : (hs p).count a < (hc p).count a) : LeH x (upH hs p a) hc := by
  intro q hq b
  by_cases hqp : q = p
  · subst hqp
    rw [upH_at, List.count_append, List.count_singleton]
    have := h q hq b
    by_cases hb : a = b
    · subst hb; simp; omega
    · simp [hb]; omega
  · rw [upH_ne hs a hqp]
    exact h q hq b
theorem upH_in {p a : Nat} (h : InL x hs) (ha : a < lettersP x.procs p) : InL x (upH hs p a) := by
  intro q hq b hb
  by_cases hqp : q = p
  · subst hqp
    rw [upH_at] at hb
    rcases List.mem_append.1 hb with hb | hb
    · exact h q hq b hb
    · rw [List.mem_singleton] at hb
      subst hb
      omega
  · rw [upH_ne hs _ hqp] at hb
    exact h q hq b hb
theorem upH_tot {p : Nat} (hp : p < x.procs.length) (a : Int) : totH x (upH hs p a) = totH x hs + 1 := by
  unfold totH
  have h1 := sumN_one (f := fun q => (upH hs p a q).length) (g := fun q => (hs q).length) hp fun q hq hne => by rw [upH_ne hs a hne]
  rw [upH_at, List.length_append, List.length_singleton] at h1
  omega
/-- What a processor sends that reads a letter more. -/
theorem hist_snoc (x : Nwk) (p : Nat) (h : List Int) (a : Int) : histR x p (h ++ [a]) = ((ruleAt (x.procs.getD p prc0).rules (histR x p h).1 a).next, (histR x p h).2 ++ (ruleAt (x.procs.getD p prc0).rules (histR x p h).1 a).sent) := by
  unfold histR
  rw [readSpec_app]
  simp [readSpec]
theorem sent_up {p : Nat} (hp : p < x.procs.length) (a : Int) (q b : Nat) : sentN x (upH hs p a) q b = sentN x hs q b + cntO (ruleAt (x.procs.getD p prc0).rules (histR x p (hs p)).1 a).sent q b := by
  unfold sentN
  have h1 := sumN_one (f := fun r => cntO (histR x r (upH hs p a r)).2 q b) (g := fun r => cntO (histR x r (hs r)).2 q b) hp fun r hr hne => by rw [upH_ne hs a hne]
  rw [upH_at, hist_snoc, cntO_app] at h1
  omega

/-- A network behind some moves, with what each processor has read. -/
structure HistI (x : Nwk) (hs : Nat → List Int) (y : Nwk) (ct : List (List Int)) : Prop where
  procs : y.procs = x.procs
  right : Right y
  inl : InL x hs
  st : ∀ p, p < x.procs.length → y.state.getD p 0 = (histR x p (hs p)).1
  ct : ct = (List.range x.procs.length).map fun p => tally (lettersP x.procs p) (hs p)
  wt : ∀ q a, q < x.procs.length → a < lettersP x.procs q → cellT y.waiting q a + ((hs q).count (a : Int) : Int) = cellT x.waiting q a + sentN x hs q a
theorem HistI.begin_ (hr : Right x) : HistI x (fun _ => []) x (x.procs.map fun p => List.replicate p.letters.toNat (0 : Int)) where
  procs := rfl
  right := hr
  inl := fun p hp a ha => by simp at ha
  st := fun p hp => rfl
  ct := by
    apply List.ext_getElem?
    intro i
    simp only [List.getElem?_map, tally_nil]
    by_cases h : i < x.procs.length
    · rw [List.getElem?_range h, getD_procs h]
      rfl
    · rw [List.getElem?_eq_none (by omega), List.getElem?_eq_none (by simp; omega)]
      rfl
  wt := fun q a hq ha => by
    have : sentN x (fun _ => []) q a = 0 := by
      have h1 := sumN_eq (f := fun p => cntO (histR x p []).2 q a) (g := fun _ => 0) (n := x.procs.length) fun p hp => rfl
      have h2 : ∀ n, sumN (fun _ => 0) n = 0 := fun n => by
        induction n with
        | zero => rfl
        | succ n ih => simp only [sumN]; omega
      unfold sentN
      rw [h1, h2]
    rw [this]
    simp

theorem cellT_bump {t : List (List Int)} {p k : Nat} {l : List Int} {z : Int} (hl : t[p]? = some l) (hz : l[k]? = some z) (y : Int) (q a : Nat) : cellT (bump t p k y) q a = cellT t q a + if q = p ∧ a = k then y else 0 := by
  have hp := (List.getElem?_eq_some_iff.1 hl).1
  have hk := (List.getElem?_eq_some_iff.1 hz).1
  rw [bump_eq hl hz]
  unfold cellT
  by_cases hq : q = p
  · subst hq
    rw [getD_some (show (t.set q (l.set k (z + y)))[q]? = some (l.set k (z + y)) from by rw [List.getElem?_set_self hp]), getD_some hl]
    by_cases ha : a = k
    · subst ha
      rw [getD_some (show (l.set a (z + y))[a]? = some (z + y) from by rw [List.getElem?_set_self hk]), getD_some hz]
      simp
    · rw [if_neg (fun h => ha h.2), List.getD_eq_getElem?_getD, List.getElem?_set_ne (fun e => ha e.symm), ← List.getD_eq_getElem?_getD]
      omega
  · have e : (t.set p (l.set k (z + y))).getD q [] = t.getD q [] := by rw [List.getD_eq_getElem?_getD, List.getElem?_set_ne (fun e => hq e.symm), ← List.getD_eq_getElem?_getD]
    rw [if_neg (fun h => hq h.1), e]
    omega
theorem cellT_adds {wt : List (List Int)} : ∀ (os : List Out) {wt' : List (List Int)} {c : Int}, Shape wt wt' c → (∀ o ∈ os, 0 ≤ o.dst ∧ 0 ≤ o.letter ∧ ∃ l, wt[o.dst.toNat]? = some l ∧ o.letter.toNat < l.length) → ∀ q a : Nat, cellT ((os.map pairO).foldl addO wt') q a = cellT wt' q a + cntO os q a
  | [], wt', c, _, _, q, a => by simp [cntO_nil]
  | o :: r, wt', c, h, ho, q, a => by
    obtain ⟨h0, h0', l, h1, h2⟩ := ho o (by simp)
    have hsh := h.add (o := pairO o) ⟨l, h1, h2⟩
    rw [List.map_cons, List.foldl_cons, cellT_adds r hsh (fun y hy => ho y (by simp [hy])) q a]
    have hi : (pairO o).1.toNat < wt'.length := by rw [h.len]; exact (List.getElem?_eq_some_iff.1 h1).1
    have hl' := List.getElem?_eq_getElem hi
    obtain ⟨l0, h3, h4⟩ := h.row _ _ hl'
    have h3' : wt[o.dst.toNat]? = some l0 := h3
    rw [h1] at h3'
    injection h3' with h3'
    subst h3'
    have hk : (pairO o).2.toNat < (wt'[(pairO o).1.toNat]).length := by rw [h4]; exact h2
    unfold addO
    rw [cellT_bump hl' (List.getElem?_eq_getElem hk)]
    unfold cntO
    rw [List.countP_cons]
    have e : (q = (pairO o).1.toNat ∧ a = (pairO o).2.toNat) ↔ (o.dst = (q : Int) ∧ o.letter = (a : Int)) := by
      unfold pairO
      simp only
      omega
    by_cases hq : o.dst = (q : Int) ∧ o.letter = (a : Int)
    · rw [if_pos (e.2 hq), if_pos (by simpa using hq)]
      push_cast
      omega
    · rw [if_neg (fun h => hq (e.1 h)), if_neg (by simpa using hq)]
      push_cast
      omega
/-- A legal move, with the histories. -/
theorem HistI.move {y : Nwk} {ct : List (List Int)} (h : HistI x hs y ct) {p a : Nat} {l : List Int} {z : Int} (hl : y.waiting[p]? = some l) (ha : l[a]? = some z) (hz : 0 < z) {c : Int} (hc : ∀ t ∈ y.waiting, ∀ z ∈ t, z ≤ c) (hm : c + 16 ≤ 1048576) :
    p < x.procs.length ∧ a < lettersP x.procs p ∧ ((hs p).count (a : Int) : Int) < cellT x.waiting p a + sentN x hs p a ∧ HistI x (upH hs p a) (moveX y p a) (bump ct p a 1) := by
  have hr := h.right
  have hpy : p < y.procs.length := by rw [← hr.nwt]; exact (List.getElem?_eq_some_iff.1 hl).1
  have hp : p < x.procs.length := by rw [← h.procs]; exact hpy
  obtain ⟨l', e1, e2⟩ := hr.row hpy
  rw [hl] at e1
  injection e1 with e1
  subst e1
  have hal := (List.getElem?_eq_some_iff.1 ha).1
  have hL : a < lettersP x.procs p := by rw [← h.procs]; omega
  have hcell : cellT y.waiting p a = z := by unfold cellT; rw [getD_some hl, getD_some ha]
  have hw := h.wt p a hp hL
  obtain ⟨hR, _, _⟩ := moveX_right hr hl ha hz hc hm
  have hst := h.st p hp
  have hstl : p < y.state.length := by rw [hr.nst]; exact hpy
  have hsp : 0 ≤ y.state.getD p 0 ∧ y.state.getD p 0 < statesP y.procs p := hr.st0 hpy
  refine ⟨hp, hL, by omega, rfl.trans h.procs, hR, upH_in h.inl hL, fun q hq => ?_, ?_, fun q b hq hb => ?_⟩
  · show (y.state.set p (nextP y.procs p (y.state.getD p 0) a)).getD q 0 = _
    by_cases hqp : q = p
    · subst hqp
      rw [List.getD_eq_getElem?_getD, List.getElem?_set_self hstl, upH_at, hist_snoc]
      simp only [Option.getD_some, nextP, ruleP, h.procs, hst]
    · rw [List.getD_eq_getElem?_getD, List.getElem?_set_ne (fun e => hqp e.symm), ← List.getD_eq_getElem?_getD, upH_ne hs _ hqp]
      exact h.st q hq
  · rw [h.ct]
    have hg : ((List.range x.procs.length).map fun p => tally (lettersP x.procs p) (hs p))[p]? = some (tally (lettersP x.procs p) (hs p)) := by simp [hp]
    rw [bump_eq hg (tally_get hL)]
    apply List.ext_getElem?
    intro q
    rw [List.getElem?_set]
    by_cases hqp : p = q
    · subst hqp
      rw [if_pos rfl, if_pos (by simp [hp])]
      simp only [List.getElem?_map, List.getElem?_range hp, Option.map_some, upH_at, tally_snoc _ hL]
    · rw [if_neg hqp]
      simp only [List.getElem?_map]
      by_cases hq : q < x.procs.length
      · rw [List.getElem?_range hq]
        simp only [Option.map_some]
        rw [upH_ne hs _ (fun e => hqp e.symm)]
      · rw [List.getElem?_eq_none (by simp; omega)]
        rfl
  · have hrule := hr.rule (p := p) (k := a) (s := y.state.getD p 0) hpy hsp.1 hsp.2 (by rw [h.procs]; exact hL)
    obtain ⟨pr, row, r, _, hgd, _, _, hrr, _, _, hout⟩ := hrule
    have hsent : sentP y.procs p (y.state.getD p 0) a = r.sent.map pairO := by unfold sentP; rw [hrr]
    have hrat : (ruleAt (x.procs.getD p prc0).rules (histR x p (hs p)).1 (a : Int)) = r := by rw [← hrr, ← hst, ← h.procs]; rfl
    have h1 : Shape y.waiting (bump y.waiting p a (-1)) (max c 0) := by
      rw [bump_eq hl ha]
      have hsh := (hr.shape hc).put (c' := max c 0) (by omega) hl hal (y := z + -1) (by have := hc l (List.mem_of_getElem? hl) z (List.mem_of_getElem? ha); omega)
      exact hsh
    show cellT ((sentP y.procs p (y.state.getD p 0) a).foldl addO (bump y.waiting p a (-1))) q b + _ = _
    rw [hsent, cellT_adds r.sent h1 (fun o ho => by
      obtain ⟨o1, o2, o3⟩ := hout o ho
      have hd : o.dst.toNat < y.procs.length := by omega
      obtain ⟨l2, m1, m2⟩ := hr.row hd
      exact ⟨o1.1, o2, l2, m1, by omega⟩), cellT_bump hl ha, sent_up hp, hrat]
    have hwq := h.wt q b hq hb
    by_cases hqp : q = p
    · subst hqp
      rw [upH_at, List.count_append, List.count_singleton]
      by_cases hab : b = a
      · subst hab
        simp
        omega
      · have : ¬ ((a : Int) = (b : Int)) := by omega
        simp [hab, this]
        omega
    · rw [upH_ne hs _ hqp, if_neg (fun e => hqp e.1)]
      push_cast
      omega
/-- Where no move is left, the histories are complete. -/
theorem moves_nil {wt : List (List Int)} (h : movesS wt = []) {q a : Nat} : cellT wt q a ≤ 0 := by
  unfold cellT
  by_cases hq : q < wt.length
  · by_cases ha : a < (wt.getD q []).length
    · by_cases h0 : (wt.getD q []).getD a 0 ≤ 0
      · exact h0
      · exfalso
        have hm : (q, a) ∈ movesS wt := by
          unfold movesS rowMv
          refine List.mem_flatMap.2 ⟨q, List.mem_range.2 hq, List.mem_map.2 ⟨a, List.mem_filter.2 ⟨List.mem_range.2 ha, ?_⟩, rfl⟩⟩
          simpa using h0
        rw [h] at hm
        cases hm
    · rw [List.getD_eq_getElem?_getD, List.getElem?_eq_none (by omega)]
      simp
  · rw [show wt.getD q [] = [] from by rw [List.getD_eq_getElem?_getD, List.getElem?_eq_none (by omega)]; rfl]
    simp
theorem HistI.compl {y : Nwk} {ct : List (List Int)} (h : HistI x hs y ct) (hm : movesS y.waiting = []) : Compl x hs := fun q a hq ha => by
  have h1 := h.wt q a hq ha
  have h2 := moves_nil hm (q := q) (a := a)
  omega
/-- A run by picks, with the histories. -/
theorem runX_hist (hx : Right x) (hA : AbN x) (picks : List Int) : ∀ (n i : Nat) (hs : Nat → List Int) (y : Nwk) (ct : List (List Int)) (c : Int), HistI x hs y ct → (∀ t ∈ y.waiting, ∀ z ∈ t, z ≤ c) → c + 16 * n ≤ 1048576 →
    ∃ hs' z cz, HistI x hs' z cz ∧ (∀ t ∈ z.waiting, ∀ k ∈ t, k ≤ c + 16 * n) ∧ (∀ hc, InL x hc → Compl x hc → LeH x hs hc → LeH x hs' hc) ∧
      ((runX picks n i y ct = some (z, cz) ∧ movesS z.waiting = [] ∧ totH x hs' ≤ totH x hs + n) ∨ (runX picks n i y ct = none ∧ movesS z.waiting ≠ [] ∧ totH x hs' = totH x hs + n))
  | 0, i, hs, y, ct, c, h, hc, hn => by
    refine ⟨hs, y, ct, h, fun t ht k hk => by have := hc t ht k hk; omega, fun hc _ _ hl => hl, ?_⟩
    unfold runX
    by_cases hm : movesS y.waiting = []
    · left; simp [hm]
    · right
      rw [if_neg (by simpa using hm)]
      exact ⟨rfl, hm, rfl⟩
  | n + 1, i, hs, y, ct, c, h, hc, hn => by
    unfold runX
    by_cases hm : movesS y.waiting = []
    · exact ⟨hs, y, ct, h, fun t ht k hk => by { have := hc t ht k hk; omega }, fun hc _ _ hl => hl, Or.inl ⟨by simp [hm], hm, by omega⟩⟩
    · rw [if_neg (by simpa using hm)]
      obtain ⟨l, z, m1, m2, m3⟩ := mem_moves (pickS_mem (picks := picks) (i := i) hm)
      obtain ⟨hp, ha, hlt, hmv⟩ := h.move m1 m2 m3 hc (by push_cast at hn; omega)
      obtain ⟨_, hc', _⟩ := moveX_right h.right m1 m2 m3 hc (by push_cast at hn; omega)
      obtain ⟨hs', z', cz, g1, gb, g2, g3⟩ := runX_hist hx hA picks n (i + 1) _ _ _ (c + 16) hmv hc' (by push_cast at hn; omega)
      rw [upH_tot hp] at g3
      refine ⟨hs', z', cz, g1, fun t ht k hk => by { have := gb t ht k hk; push_cast; omega }, fun hc hI hC hl => g2 hc hI hC (upH_le hl (least hx hA hI hC hl hp ha hlt)), ?_⟩
      rcases g3 with ⟨a1, a2, a3⟩ | ⟨a1, a2, a3⟩
      · exact Or.inl ⟨a1, a2, by omega⟩
      · exact Or.inr ⟨a1, a2, by omega⟩
end

theorem tally_perm {L : Nat} {l m : List Int} (h : l.Perm m) : tally L l = tally L m := by
  unfold tally
  refine List.map_congr_left fun a _ => ?_
  rw [h.count_eq]
theorem LeH.nil (x : Nwk) (hc : Nat → List Int) : LeH x (fun _ => []) hc := fun p _ a => by simp
theorem totH_nil (x : Nwk) : totH x (fun _ => []) = 0 := by
  unfold totH
  have h2 : ∀ n, sumN (fun _ => ([] : List Int).length) n = 0 := fun n => by
    induction n with
    | zero => rfl
    | succ n ih => simp only [sumN, List.length_nil]; omega
  exact h2 _
/-- Two ends of runs: the same histories up to order, nothing waits. -/
theorem ends_same {x : Nwk} (hx : Right x) (hA : AbN x) {hs ht : Nat → List Int} {y z : Nwk} {ct dt : List (List Int)} (h : HistI x hs y ct) (g : HistI x ht z dt) (hm : movesS y.waiting = []) (gm : movesS z.waiting = [])
    (hl : LeH x hs ht) (gl : LeH x ht hs) : y = z ∧ ct = dt := by
  have hp : ∀ p, p < x.procs.length → (hs p).Perm (ht p) := fun p hp => hl.perm gl.tot hp
  have hyn : y.procs.length = x.procs.length := by rw [h.procs]
  have hzn : z.procs.length = x.procs.length := by rw [g.procs]
  refine ⟨?_, ?_⟩
  · have e1 : y.procs = z.procs := h.procs.trans g.procs.symm
    have e2 : y.state = z.state := by
      apply List.ext_getElem?
      intro i
      by_cases hi : i < x.procs.length
      · have h1 := h.st i hi
        have h2 := g.st i hi
        rw [(hist_perm hx hA hi (h.inl i hi) (hp i hi)).1, ← h2] at h1
        have a1 := List.getElem?_eq_getElem (show i < y.state.length by rw [h.right.nst]; omega)
        have a2 := List.getElem?_eq_getElem (show i < z.state.length by rw [g.right.nst]; omega)
        rw [getD_some a1, getD_some a2] at h1
        rw [a1, a2, h1]
      · rw [List.getElem?_eq_none (by rw [h.right.nst]; omega), List.getElem?_eq_none (by rw [g.right.nst]; omega)]
    have zero : ∀ {u : Nwk}, Right u → movesS u.waiting = [] → ∀ i, u.waiting[i]? = if i < u.procs.length then some (List.replicate (lettersP u.procs i) 0) else none := fun {u} hu hm i => by
      by_cases hi : i < u.procs.length
      · rw [if_pos hi]
        obtain ⟨l, h1, h2⟩ := hu.row hi
        rw [h1]
        congr 1
        refine List.eq_replicate_iff.2 ⟨h2, fun b hb => ?_⟩
        obtain ⟨a, ha, rfl⟩ := List.mem_iff_getElem.1 hb
        have h3 := moves_nil hm (q := i) (a := a)
        unfold cellT at h3
        rw [getD_some h1, getD_some (List.getElem?_eq_getElem ha)] at h3
        have := (hu.wb l (List.mem_of_getElem? h1) _ hb).1
        omega
      · rw [if_neg hi, List.getElem?_eq_none (by rw [hu.nwt]; omega)]
    have e3 : y.waiting = z.waiting := by
      apply List.ext_getElem?
      intro i
      rw [zero h.right hm i, zero g.right gm i, e1]
    cases y
    cases z
    simp only at e1 e2 e3
    subst e1 e2 e3
    rfl
  · rw [h.ct, g.ct]
    refine List.map_congr_left fun p hpm => ?_
    exact tally_perm (hp p (List.mem_range.1 hpm))
end Go.Proofs.Ytnigfddanoaonaa

set_option linter.unusedVariables false
set_option linter.unusedSimpArgs false
namespace Go.Proofs.Ytnigfddanoaonaa
open Go.RowKit

/-- The letters that p has sent to q, in order. -/
def slist (x : Nwk) (hs : Nat → List Int) (p q : Nat) : List Int := ((histR x p (hs p)).2.filter fun o => decide (o.dst = (q : Int))).map (·.letter)
def lnO (N : Nat) (w : Wr) (p q : Nat) : Ln := w.ls.getD (p * N + q) Ln.none
/-- The letters a that q was given: its own, and those it accepted. -/
def accN (x : Nwk) (hs : Nat → List Int) (w : Wr) (q a : Nat) : Nat :=
  sumN (fun p => if p = q then cntO (histR x q (hs q)).2 q a else ((slist x hs p q).take (lnO x.procs.length w p q).ac).count (a : Int)) x.procs.length
def PkH (x : Nwk) (hs : Nat → List Int) (w : Wr) : Pk → Prop
  | .lett j num kind => ∃ p q, p < x.procs.length ∧ q < x.procs.length ∧ p ≠ q ∧ j = p * x.procs.length + q ∧ 1 ≤ num ∧ num ≤ (lnO x.procs.length w p q).ac + 1 ∧ (slist x hs p q)[num - 1]? = some kind
  | .ack j num => ∃ p q, p < x.procs.length ∧ q < x.procs.length ∧ p ≠ q ∧ j = p * x.procs.length + q ∧ num ≤ (lnO x.procs.length w p q).ac
structure HInv (x : Nwk) (hs : Nat → List Int) (pend : List (Pk × Nat)) (w : Wr) : Prop where
  nst : w.st.length = x.procs.length
  nwt : w.wt.length = x.procs.length
  nls : w.ls.length = x.procs.length * x.procs.length
  inl : InL x hs
  st : ∀ p, p < x.procs.length → w.st.getD p 0 = (histR x p (hs p)).1
  ct : w.ct = (List.range x.procs.length).map fun p => tally (lettersP x.procs p) (hs p)
  wl : ∀ (p : Nat) (row : List Int), w.wt[p]? = some row → row.length = lettersP x.procs p
  w0 : ∀ q a, 0 ≤ cellT w.wt q a
  ln : ∀ p q, p < x.procs.length → q < x.procs.length → p ≠ q → (lnO x.procs.length w p q).q = (slist x hs p q).drop (lnO x.procs.length w p q).rm ∧ (lnO x.procs.length w p q).rm ≤ (lnO x.procs.length w p q).ac ∧ (lnO x.procs.length w p q).ac ≤ (slist x hs p q).length
  dg : ∀ p, p < x.procs.length → lnO x.procs.length w p p = Ln.none
  sn : ∀ p q, (lnO x.procs.length w p q).sn ≤ w.tk
  pk : ∀ a ∈ pend ++ w.fl, PkH x hs w a.1
  tm : ∀ a ∈ w.fl, w.tk < a.2 ∧ a.2 ≤ w.tk + 6
  wt : ∀ q a, q < x.procs.length → a < lettersP x.procs q → cellT w.wt q a + ((hs q).count (a : Int) : Int) = cellT x.waiting q a + accN x hs w q a

theorem idx_mod {N p q : Nat} (hq : q < N) : (p * N + q) % N = q := by rw [Nat.add_comm, Nat.add_mul_mod_self_right, Nat.mod_eq_of_lt hq]
theorem idx_inj {N p q p' q' : Nat} (hq : q < N) (hq' : q' < N) : p * N + q = p' * N + q' ↔ p = p' ∧ q = q' := by
  constructor
  · intro h
    have h1 : (p * N + q) % N = (p' * N + q') % N := by rw [h]
    rw [idx_mod hq, idx_mod hq'] at h1
    subst h1
    have h2 : p * N = p' * N := by omega
    exact ⟨Nat.eq_of_mul_eq_mul_right (by omega) h2, rfl⟩
  · rintro ⟨rfl, rfl⟩; rfl
theorem idx_lt {N p q : Nat} (hp : p < N) (hq : q < N) : p * N + q < N * N := by
  have : (p + 1) * N ≤ N * N := Nat.mul_le_mul_right N hp
  rw [Nat.succ_mul] at this
  omega
section
variable {x : Nwk} {hs : Nat → List Int} {pend : List (Pk × Nat)} {w : Wr}
theorem lnO_set {N : Nat} {w : Wr} {p q : Nat} {l : Ln} (hp : p < N) (hq : q < N) (hn : w.ls.length = N * N) {w' : Wr} (hw : w'.ls = w.ls.set (p * N + q) l) {p' q' : Nat} (hq' : q' < N) : lnO N w' p' q' = if p' = p ∧ q' = q then l else lnO N w p' q' := by
  unfold lnO
  rw [hw, getD_set]
  by_cases h : p' = p ∧ q' = q
  · obtain ⟨rfl, rfl⟩ := h
    rw [if_pos ⟨rfl, by rw [hn]; exact idx_lt hp hq⟩, if_pos ⟨rfl, rfl⟩]
  · rw [if_neg (fun hh => h ((idx_inj hq' hq).1 hh.1)), if_neg h]
theorem accN_congr {w' : Wr} {q a : Nat} (h : ∀ p, p < x.procs.length → p ≠ q → (lnO x.procs.length w' p q).ac = (lnO x.procs.length w p q).ac) : accN x hs w' q a = accN x hs w q a :=
  sumN_eq fun p hp => by
    by_cases e : p = q
    · rw [if_pos e, if_pos e]
    · rw [if_neg e, if_neg e, h p hp e]
theorem PkH.mono {w' : Wr} (h : ∀ p q, p < x.procs.length → q < x.procs.length → (lnO x.procs.length w p q).ac ≤ (lnO x.procs.length w' p q).ac) {k : Pk} (hk : PkH x hs w k) : PkH x hs w' k := by
  cases k with
  | lett j num kind =>
    obtain ⟨p, q, hp, hq, hne, hj, h1, h2, h3⟩ := hk
    exact ⟨p, q, hp, hq, hne, hj, h1, by have := h p q hp hq; omega, h3⟩
  | ack j num =>
    obtain ⟨p, q, hp, hq, hne, hj, h1⟩ := hk
    exact ⟨p, q, hp, hq, hne, hj, by have := h p q hp hq; omega⟩
theorem delay_le {f : Int} {n : Nat} (h : n ∈ delayS f) : 1 ≤ n ∧ n ≤ 6 := by
  unfold delayS at h
  split at h
  · simp at h; omega
  · split at h
    · simp at h; omega
    · split at h
      · simp at h; omega
      · cases h
/-- A packet is sent. -/
theorem HInv.send (h : HInv x hs pend w) (fates : List Int) {k : Pk} (hk : PkH x hs w k) : HInv x hs pend (sendS fates k w) where
  nst := h.nst
  nwt := h.nwt
  nls := h.nls
  inl := h.inl
  st := h.st
  ct := h.ct
  wl := h.wl
  w0 := h.w0
  ln := h.ln
  dg := h.dg
  sn := h.sn
  pk := fun a ha => by
    rcases List.mem_append.1 ha with ha | ha
    · exact h.pk a (List.mem_append_left _ ha)
    · rcases List.mem_append.1 ha with ha | ha
      · exact h.pk a (List.mem_append_right _ ha)
      · obtain ⟨n, _, rfl⟩ := List.mem_map.1 ha
        exact hk
  tm := fun a ha => by
    rcases List.mem_append.1 ha with ha | ha
    · exact h.tm a ha
    · obtain ⟨n, hn, rfl⟩ := List.mem_map.1 ha
      have := delay_le hn
      show w.tk < w.tk + n ∧ w.tk + n ≤ w.tk + 6
      omega
  wt := h.wt
theorem drop_spec : ∀ (s : List Int) (q : List Int) (rm sn num : Nat), q = s.drop rm → rm ≤ s.length → num ≤ s.length →
    (dropL q rm sn num).1 = s.drop (dropL q rm sn num).2.1 ∧ rm ≤ (dropL q rm sn num).2.1 ∧ (dropL q rm sn num).2.1 ≤ max rm num ∧ ((dropL q rm sn num).2.2 = sn ∨ (dropL q rm sn num).2.2 = 0) ∧ ((dropL q rm sn num).2.1 = rm → dropL q rm sn num = (q, rm, sn)) ∧ (rm < num → q ≠ [] → rm < (dropL q rm sn num).2.1)
  | s, [], rm, sn, num, hq, _, _ => by
    unfold dropL
    exact ⟨hq, Nat.le_refl _, by show rm ≤ max rm num; omega, .inl rfl, fun _ => rfl, fun _ h => absurd rfl h⟩
  | s, y :: r, rm, sn, num, hq, hr, hn => by
    unfold dropL
    have hlt : rm < s.length := by
      rcases Nat.lt_or_ge rm s.length with h | h
      · exact h
      · rw [List.drop_eq_nil_of_le h] at hq; cases hq
    have hd := List.drop_eq_getElem_cons hlt
    rw [hd] at hq
    injection hq with hq1 hq2
    by_cases h : rm < num
    · rw [if_pos h]
      obtain ⟨a1, a2, a3, a4, a5, a6⟩ := drop_spec s r (rm + 1) 0 num hq2 (by omega) hn
      exact ⟨a1, by omega, by omega, by rcases a4 with e | e <;> exact .inr e, fun e => by omega, fun _ _ => by omega⟩
    · rw [if_neg h]
      exact ⟨by rw [hd, hq1, hq2], Nat.le_refl _, by show rm ≤ max rm num; omega, .inl rfl, fun _ => rfl, fun e _ => absurd e h⟩
/-- A line drops what was acknowledged. -/
theorem HInv.dropped (h : HInv x hs pend w) {p q num : Nat} (hp : p < x.procs.length) (hq : q < x.procs.length) (hne : p ≠ q) (hnum : num ≤ (lnO x.procs.length w p q).ac) :
    HInv x hs pend { w with ls := w.ls.set (p * x.procs.length + q) ((lnO x.procs.length w p q).drop num) } := by
  have hl := fun (p' q' : Nat) (hq' : q' < x.procs.length) => lnO_set (w := w) (l := (lnO x.procs.length w p q).drop num) hp hq h.nls (w' := { w with ls := w.ls.set (p * x.procs.length + q) ((lnO x.procs.length w p q).drop num) }) rfl (p' := p') hq'
  obtain ⟨e1, e2, e3⟩ := h.ln p q hp hq hne
  obtain ⟨a1, a2, a3, a4, a5, a6⟩ := drop_spec (slist x hs p q) _ (lnO x.procs.length w p q).rm (lnO x.procs.length w p q).sn num e1 (by omega) (by omega)
  have hac : ∀ p' q', q' < x.procs.length → (lnO x.procs.length { w with ls := w.ls.set (p * x.procs.length + q) ((lnO x.procs.length w p q).drop num) } p' q').ac = (lnO x.procs.length w p' q').ac := fun p' q' hq' => by
    rw [hl p' q' hq']
    split
    · rename_i e; rw [e.1, e.2]; rfl
    · rfl
  exact {
    nst := h.nst
    nwt := h.nwt
    nls := by show (w.ls.set _ _).length = _; rw [List.length_set]; exact h.nls
    inl := h.inl
    st := h.st
    ct := h.ct
    wl := h.wl
    w0 := h.w0
    ln := fun p' q' hp' hq' hne' => by
      rw [hl p' q' hq']
      split
      · rename_i e
        obtain ⟨rfl, rfl⟩ := e
        refine ⟨a1, ?_, e3⟩
        show (dropL _ _ _ _).2.1 ≤ (lnO x.procs.length w p' q').ac
        omega
      · exact h.ln p' q' hp' hq' hne'
    dg := fun p' hp' => by
      rw [hl p' p' hp', if_neg (fun e => hne (e.1.symm.trans e.2))]
      exact h.dg p' hp'
    sn := fun p' q' => by
      show ((w.ls.set (p * x.procs.length + q) ((lnO x.procs.length w p q).drop num)).getD (p' * x.procs.length + q') Ln.none).sn ≤ w.tk
      rw [getD_set]
      split
      · rcases a4 with e | e
        · show (dropL _ _ _ _).2.2 ≤ _; rw [e]; exact h.sn p q
        · show (dropL _ _ _ _).2.2 ≤ _; rw [e]; exact Nat.zero_le _
      · exact h.sn p' q'
    pk := fun a ha => (h.pk a ha).mono fun p' q' _ hq' => by rw [hac p' q' hq']; exact Nat.le_refl _
    tm := h.tm
    wt := fun q' a hq' ha => by
      rw [accN_congr (w := w) fun p' _ _ => hac p' q' hq']
      exact h.wt q' a hq' ha }
theorem take_count {s : List Int} {n : Nat} {k : Int} (h : s[n]? = some k) (a : Int) : (s.take (n + 1)).count a = (s.take n).count a + if k = a then 1 else 0 := by
  rw [List.take_add_one, h]
  simp only [Option.toList_some, List.count_append, List.count_singleton]
  by_cases e : k = a
  · subst e; simp
  · simp [e]
/-- A letter is accepted. -/
theorem HInv.accept (h : HInv x hs pend w) (hr : Right x) {p q : Nat} {kind : Int} (hp : p < x.procs.length) (hq : q < x.procs.length) (hne : p ≠ q) (hk : (slist x hs p q)[(lnO x.procs.length w p q).ac]? = some kind) (hk2 : 0 ≤ kind ∧ kind < (lettersP x.procs q : Int)) :
    HInv x hs pend (waitS q kind.toNat { w with ls := w.ls.set (p * x.procs.length + q) { lnO x.procs.length w p q with ac := (lnO x.procs.length w p q).ac + 1 } }) := by
  obtain ⟨W, hW⟩ : ∃ W, W = waitS q kind.toNat { w with ls := w.ls.set (p * x.procs.length + q) { lnO x.procs.length w p q with ac := (lnO x.procs.length w p q).ac + 1 } } := ⟨_, rfl⟩
  have hls : W.ls = w.ls.set (p * x.procs.length + q) { lnO x.procs.length w p q with ac := (lnO x.procs.length w p q).ac + 1 } := by rw [hW]; rfl
  have hwt : W.wt = bump w.wt q kind.toNat 1 := by rw [hW]; rfl
  have hl := fun (p' q' : Nat) (hq' : q' < x.procs.length) => lnO_set (w := w) hp hq h.nls (w' := W) hls (p' := p') hq'
  obtain ⟨e1, e2, e3⟩ := h.ln p q hp hq hne
  have hlen := (List.getElem?_eq_some_iff.1 hk).1
  have hrow : ∃ row, w.wt[q]? = some row := ⟨_, List.getElem?_eq_getElem (by rw [h.nwt]; exact hq)⟩
  obtain ⟨row, hrow⟩ := hrow
  have hrl := h.wl q row hrow
  have hz := List.getElem?_eq_getElem (show kind.toNat < row.length by omega)
  have hcell : ∀ q' a, cellT W.wt q' a = cellT w.wt q' a + if q' = q ∧ a = kind.toNat then 1 else 0 := fun q' a => by rw [hwt]; exact cellT_bump hrow hz 1 q' a
  have hac : ∀ p' q', q' < x.procs.length → (lnO x.procs.length w p' q').ac ≤ (lnO x.procs.length W p' q').ac := fun p' q' hq' => by
    rw [hl p' q' hq']
    split
    · rename_i e; rw [e.1, e.2]; exact Nat.le_succ _
    · exact Nat.le_refl _
  rw [← hW]
  exact {
    nst := by rw [hW]; exact h.nst
    nwt := by rw [hwt]; unfold bump; rw [List.length_set]; exact h.nwt
    nls := by rw [hls, List.length_set]; exact h.nls
    inl := h.inl
    st := by rw [hW]; exact h.st
    ct := by rw [hW]; exact h.ct
    wl := fun p' r' hr' => by
      rw [hwt, bump_eq hrow hz] at hr'
      rcases set_get hr' with ⟨rfl, rfl⟩ | ⟨_, hr'⟩
      · rw [List.length_set]; exact hrl
      · exact h.wl p' r' hr'
    w0 := fun q' a => by rw [hcell]; have := h.w0 q' a; split <;> omega
    ln := fun p' q' hp' hq' hne' => by
      rw [hl p' q' hq']
      split
      · rename_i e
        obtain ⟨rfl, rfl⟩ := e
        exact ⟨e1, by simp only; omega, by simp only; omega⟩
      · exact h.ln p' q' hp' hq' hne'
    dg := fun p' hp' => by
      rw [hl p' p' hp', if_neg (fun e => hne (e.1.symm.trans e.2))]
      exact h.dg p' hp'
    sn := fun p' q' => by
      have : W.tk = w.tk := by rw [hW]; rfl
      rw [this]
      unfold lnO
      rw [hls, getD_set]
      split
      · exact h.sn p q
      · exact h.sn p' q'
    pk := fun a ha => by
      have : W.fl = w.fl := by rw [hW]; rfl
      rw [this] at ha
      exact (h.pk a ha).mono fun p' q' _ hq' => hac p' q' hq'
    tm := by
      have e1 : W.fl = w.fl := by rw [hW]; rfl
      have e2 : W.tk = w.tk := by rw [hW]; rfl
      rw [e1, e2]
      exact h.tm
    wt := fun q' a hq' ha => by
      rw [hcell]
      have h1 := h.wt q' a hq' ha
      by_cases e : q' = q
      · subst e
        have h2 := sumN_one (n := x.procs.length) (k := p) (f := fun p' => if p' = q' then cntO (histR x q' (hs q')).2 q' a else ((slist x hs p' q').take (lnO x.procs.length W p' q').ac).count (a : Int)) (g := fun p' => if p' = q' then cntO (histR x q' (hs q')).2 q' a else ((slist x hs p' q').take (lnO x.procs.length w p' q').ac).count (a : Int)) hp (fun p' hp' hpp => by
          have e' := hl p' q' hq'
          rw [if_neg (show ¬ (p' = p ∧ q' = q') from fun e => hpp e.1)] at e'
          rw [e'])
        simp only [if_neg hne] at h2
        rw [hl p q' hq', if_pos ⟨rfl, rfl⟩] at h2
        rw [take_count hk] at h2
        have h3 : accN x hs W q' a = accN x hs w q' a + if kind = (a : Int) then 1 else 0 := by
          unfold accN
          omega
        rw [h3]
        by_cases ek : kind = (a : Int)
        · rw [if_pos ⟨rfl, by omega⟩, if_pos ek]
          push_cast
          omega
        · rw [if_neg (fun hh => ek (by omega)), if_neg ek]
          omega
      · rw [if_neg (fun hh => e hh.1), accN_congr (w := w) fun p' _ _ => by rw [hl p' q' hq', if_neg (fun hh => e hh.2)]]
        omega }
end

end Go.Proofs.Ytnigfddanoaonaa

set_option linter.unusedVariables false
set_option linter.unusedSimpArgs false
namespace Go.Proofs.Ytnigfddanoaonaa
open Go.RowKit

section
variable {x : Nwk} {hs hc : Nat → List Int} {pend : List (Pk × Nat)} {w : Wr}
theorem out_range (hr : Right x) {p : Nat} (hp : p < x.procs.length) : ∀ (l : List Int) (s : Int), 0 ≤ s → s < statesP x.procs p → (∀ a ∈ l, 0 ≤ a ∧ a < (lettersP x.procs p : Int)) → ∀ o ∈ (readSpec (x.procs.getD p prc0).rules s l).2, (0 ≤ o.dst ∧ o.dst < x.procs.length) ∧ 0 ≤ o.letter ∧ o.letter < lettersP x.procs o.dst.toNat
  | [], s, _, _, _, o, ho => by simp [readSpec] at ho
  | b :: r, s, h0, h1, hl, o, ho => by
    obtain ⟨hb0, hb1⟩ := hl b (by simp)
    obtain ⟨k, rfl⟩ := Int.eq_ofNat_of_zero_le hb0
    obtain ⟨pr, row, rr, e1, e2, e3, e4, e5, e6, e7, e8⟩ := hr.rule hp h0 h1 (k := k) (by omega)
    have e9 : ruleAt (x.procs.getD p prc0).rules s (k : Int) = rr := e5
    simp only [readSpec, e9] at ho
    rcases List.mem_append.1 ho with ho | ho
    · exact e8 o ho
    · exact out_range hr hp r rr.next e6.1 (by unfold statesP; rw [e2]; exact e6.2) (fun a ha => hl a (by simp [ha])) o ho
theorem slist_mem (hr : Right x) (hI : InL x hs) {p q : Nat} (hp : p < x.procs.length) {k : Int} (h : k ∈ slist x hs p q) : 0 ≤ k ∧ k < (lettersP x.procs q : Int) := by
  unfold slist at h
  obtain ⟨o, ho, rfl⟩ := List.mem_map.1 h
  obtain ⟨ho, hd⟩ := List.mem_filter.1 ho
  have hs0 := hr.st0 hp
  have := out_range hr hp (hs p) _ hs0.1 hs0.2 (hI p hp) o ho
  have hd2 : o.dst = (q : Int) := by simpa using hd
  rw [hd2, Int.toNat_natCast] at this
  exact ⟨this.2.1, this.2.2⟩
theorem HInv.pop {a : Pk × Nat} (h : HInv x hs (a :: pend) w) : HInv x hs pend w ∧ PkH x hs w a.1 :=
  ⟨{ h with pk := fun b hb => h.pk b (by simp only [List.cons_append]; exact List.mem_cons_of_mem _ hb) }, h.pk a (by simp)⟩
theorem HInv.handle (hr : Right x) (fates : List Int) {a : Pk × Nat} (h : HInv x hs (a :: pend) w) : HInv x hs pend (handleS x.procs.length fates a.1 w) := by
  obtain ⟨h1, hk⟩ := h.pop
  obtain ⟨k, t⟩ := a
  cases k with
  | ack j num =>
    obtain ⟨p, q, hp, hq, hne, rfl, hnum⟩ := hk
    exact h1.dropped hp hq hne hnum
  | lett j num kind =>
    obtain ⟨p, q, hp, hq, hne, rfl, n1, n2, hget⟩ := hk
    simp only [handleS]
    show HInv x hs pend (if num = (lnO x.procs.length w p q).ac + 1 then _ else _)
    by_cases e : num = (lnO x.procs.length w p q).ac + 1
    · rw [if_pos e, idx_mod hq]
      have hg : (slist x hs p q)[(lnO x.procs.length w p q).ac]? = some kind := by rw [← hget, e]; rfl
      have h2 := h1.accept hr hp hq hne hg (slist_mem hr h.inl hp (List.mem_of_getElem? hg))
      refine h2.send fates ⟨p, q, hp, hq, hne, rfl, ?_⟩
      have hl := lnO_set (w := w) hp hq h.nls (l := { lnO x.procs.length w p q with ac := (lnO x.procs.length w p q).ac + 1 }) (w' := waitS q kind.toNat { w with ls := w.ls.set (p * x.procs.length + q) { lnO x.procs.length w p q with ac := (lnO x.procs.length w p q).ac + 1 } }) rfl (p' := p) hq
      rw [hl, if_pos ⟨rfl, rfl⟩]
      exact Nat.le_refl _
    · rw [if_neg e]
      exact h1.send fates ⟨p, q, hp, hq, hne, rfl, Nat.le_refl _⟩
theorem HInv.handles (hr : Right x) (fates : List Int) : ∀ (l : List (Pk × Nat)) {w : Wr}, HInv x hs l w → HInv x hs [] (l.foldl (fun w a => handleS x.procs.length fates a.1 w) w)
  | [], w, h => h
  | a :: r, w, h => by rw [List.foldl_cons]; exact HInv.handles hr fates r (h.handle hr fates)
theorem HInv.tick0 (h : HInv x hs [] w) : HInv x hs (w.fl.filter fun a => a.2 == w.tk + 1) { w with tk := w.tk + 1, fl := w.fl.filter fun a => !(a.2 == w.tk + 1) } where
  nst := h.nst
  nwt := h.nwt
  nls := h.nls
  inl := h.inl
  st := h.st
  ct := h.ct
  wl := h.wl
  w0 := h.w0
  ln := h.ln
  dg := h.dg
  sn := fun p q => Nat.le_trans (h.sn p q) (Nat.le_succ _)
  pk := fun a ha => by
    rcases List.mem_append.1 ha with ha | ha
    · exact h.pk a (List.mem_filter.1 ha).1
    · exact h.pk a (List.mem_filter.1 ha).1
  tm := fun a ha => by
    have h1 := h.tm a (List.mem_filter.1 ha).1
    have h2 := (List.mem_filter.1 ha).2
    have h3 : a.2 ≠ w.tk + 1 := by simpa using h2
    show w.tk + 1 < a.2 ∧ a.2 ≤ w.tk + 1 + 6
    omega
  wt := h.wt
theorem HInv.arrive (hr : Right x) (fates : List Int) (h : HInv x hs [] w) : HInv x hs [] (arriveS x.procs.length fates { w with tk := w.tk + 1 }) := HInv.handles hr fates _ h.tick0
/-- A line notes when it sent. -/
theorem HInv.noted (h : HInv x hs [] w) {p q : Nat} (hp : p < x.procs.length) (hq : q < x.procs.length) (hne : p ≠ q) : HInv x hs [] { w with ls := w.ls.set (p * x.procs.length + q) { lnO x.procs.length w p q with sn := w.tk } } := by
  have hl := fun (p' q' : Nat) (hq' : q' < x.procs.length) => lnO_set (w := w) (l := { lnO x.procs.length w p q with sn := w.tk }) hp hq h.nls (w' := { w with ls := w.ls.set (p * x.procs.length + q) { lnO x.procs.length w p q with sn := w.tk } }) rfl (p' := p') hq'
  have hac : ∀ p' q', q' < x.procs.length → (lnO x.procs.length { w with ls := w.ls.set (p * x.procs.length + q) { lnO x.procs.length w p q with sn := w.tk } } p' q').ac = (lnO x.procs.length w p' q').ac := fun p' q' hq' => by
    rw [hl p' q' hq']
    split
    · rename_i e; rw [e.1, e.2]
    · rfl
  exact {
    nst := h.nst
    nwt := h.nwt
    nls := by show (w.ls.set _ _).length = _; rw [List.length_set]; exact h.nls
    inl := h.inl
    st := h.st
    ct := h.ct
    wl := h.wl
    w0 := h.w0
    ln := fun p' q' hp' hq' hne' => by
      rw [hl p' q' hq']
      split
      · rename_i e
        obtain ⟨rfl, rfl⟩ := e
        exact h.ln p' q' hp hq hne
      · exact h.ln p' q' hp' hq' hne'
    dg := fun p' hp' => by
      rw [hl p' p' hp', if_neg (fun e => hne (e.1.symm.trans e.2))]
      exact h.dg p' hp'
    sn := fun p' q' => by
      show ((w.ls.set (p * x.procs.length + q) { lnO x.procs.length w p q with sn := w.tk }).getD (p' * x.procs.length + q') Ln.none).sn ≤ w.tk
      rw [getD_set]
      split
      · exact Nat.le_refl _
      · exact h.sn p' q'
    pk := fun a ha => (h.pk a ha).mono fun p' q' _ hq' => by rw [hac p' q' hq']; exact Nat.le_refl _
    tm := h.tm
    wt := fun q' a hq' ha => by
      rw [accN_congr (w := w) fun p' _ _ => hac p' q' hq']
      exact h.wt q' a hq' ha }
theorem HInv.line (fates : List Int) (h : HInv x hs [] w) {j : Nat} (hj : j < x.procs.length * x.procs.length) : HInv x hs [] (lineS fates j w) := by
  obtain ⟨N, hN⟩ : ∃ N, N = x.procs.length := ⟨_, rfl⟩
  rw [← hN] at hj
  have hN0 : 0 < N := by
    rcases Nat.eq_zero_or_pos N with e | e
    · subst e; simp at hj
    · exact e
  have hq : j % N < N := Nat.mod_lt _ hN0
  have hp : j / N < N := Nat.div_lt_of_lt_mul hj
  have hje : j = (j / N) * N + j % N := by have := Nat.div_add_mod j N; rw [Nat.mul_comm] at this; omega
  generalize j / N = p at *
  generalize j % N = q at *
  subst hje
  rw [hN] at hp hq ⊢
  unfold Go.Proofs.Ytnigfddanoaonaa.lineS
  show HInv x hs [] (match (lnO x.procs.length w p q).q with | [] => w | a :: _ => if (lnO x.procs.length w p q).sn = 0 ∨ (lnO x.procs.length w p q).sn + 4 ≤ w.tk then { sendS fates (.lett (p * x.procs.length + q) ((lnO x.procs.length w p q).rm + 1) a) w with ls := w.ls.set (p * x.procs.length + q) { lnO x.procs.length w p q with sn := w.tk } } else w)
  rcases hQ : (lnO x.procs.length w p q).q with _ | ⟨a, r⟩
  · exact h
  · simp only
    by_cases hne : p = q
    · subst hne
      rw [h.dg p hp] at hQ
      cases hQ
    · split
      · obtain ⟨e1, e2, e3⟩ := h.ln p q hp hq hne
        have hget : (slist x hs p q)[(lnO x.procs.length w p q).rm]? = some a := by
          rw [hQ] at e1
          have := congrArg (fun l => l[0]?) e1
          simp only [List.getElem?_cons_zero, List.getElem?_drop, Nat.add_zero] at this
          exact this.symm
        have h1 := h.send fates (k := .lett (p * x.procs.length + q) ((lnO x.procs.length w p q).rm + 1) a) ⟨p, q, hp, hq, hne, rfl, by omega, by omega, by simpa using hget⟩
        exact h1.noted hp hq hne
      · exact h
theorem HInv.lines (fates : List Int) (h : HInv x hs [] w) : ∀ i, i ≤ x.procs.length * x.procs.length → HInv x hs [] ((List.range i).foldl (fun w j => Go.Proofs.Ytnigfddanoaonaa.lineS fates j w) w)
  | 0, _ => h
  | i + 1, hi => by
    rw [List.range_succ, List.foldl_append]
    exact (HInv.lines fates h i (by omega)).line fates (by omega)

/-- What a processor's outputs do. -/
structure PutsP (N p : Nat) (os : List Out) (w w' : Wr) : Prop where
  st : w'.st = w.st
  ct : w'.ct = w.ct
  fl : w'.fl = w.fl
  tk : w'.tk = w.tk
  se : w'.se = w.se
  nwt : w'.wt.length = w.wt.length
  wl : ∀ (q : Nat) (row : List Int), w'.wt[q]? = some row → ∃ row0, w.wt[q]? = some row0 ∧ row.length = row0.length
  wt : ∀ q a, cellT w'.wt q a = cellT w.wt q a + if q = p then (cntO os p a : Int) else 0
  nls : w'.ls.length = w.ls.length
  ls : ∀ p' q', p' < N → q' < N → lnO N w' p' q' = if p' = p ∧ q' ≠ p then { lnO N w p' q' with q := (lnO N w p' q').q ++ (os.filter fun o => decide (o.dst = (q' : Int))).map (·.letter) } else lnO N w p' q'
  sn : ∀ p' q', (lnO N w' p' q').sn = (lnO N w p' q').sn
theorem PutsP.of {N p : Nat} (hp : p < N) : ∀ (os : List Out) (w : Wr), w.ls.length = N * N → (∀ o ∈ os, (0 ≤ o.dst ∧ o.dst < N) ∧ 0 ≤ o.letter ∧ ∃ l, w.wt[o.dst.toNat]? = some l ∧ o.letter.toNat < l.length) → PutsP N p os w ((os.map pairO).foldl (fun w y => putS N p y w) w)
  | [], w, hn, _ => ⟨rfl, rfl, rfl, rfl, rfl, rfl, fun q row h => ⟨row, h, rfl⟩, fun q a => by simp [cntO_nil], rfl, fun p' q' _ _ => by
      split
      · simp
      · rfl, fun p' q' => rfl⟩
  | o :: r, w, hn, ho => by
    obtain ⟨⟨d0, d1⟩, l0, row, hrow, hlt⟩ := ho o (by simp)
    rw [List.map_cons, List.foldl_cons]
    have hcnt : ∀ q a, (cntO (o :: r) q a : Int) = (if o.dst = (q : Int) ∧ o.letter = (a : Int) then 1 else 0) + (cntO r q a : Int) := fun q a => by
      unfold cntO
      rw [List.countP_cons]
      by_cases h : o.dst = (q : Int) ∧ o.letter = (a : Int)
      · rw [if_pos (by simpa using h), if_pos h]; push_cast; omega
      · rw [if_neg (by simpa using h), if_neg h]; push_cast; omega
    by_cases e : o.dst = (p : Int)
    · have hW : putS N p (pairO o) w = waitS p o.letter.toNat w := by unfold putS pairO; simp only; rw [if_pos e]
      have hpr : w.wt[p]? = some row := by rw [← hrow, e, Int.toNat_natCast]
      have hz := List.getElem?_eq_getElem hlt
      have ih := PutsP.of hp r (waitS p o.letter.toNat w) hn (fun o' ho' => by
        obtain ⟨a1, a2, l, a3, a4⟩ := ho o' (by simp [ho'])
        refine ⟨a1, a2, ?_⟩
        show ∃ l, (bump w.wt p o.letter.toNat 1)[o'.dst.toNat]? = some l ∧ _
        rw [bump_eq hpr hz, List.getElem?_set]
        by_cases e2 : p = o'.dst.toNat
        · rw [if_pos e2, if_pos (List.getElem?_eq_some_iff.1 hpr).1]
          rw [← e2, hpr] at a3
          injection a3 with a3
          subst a3
          exact ⟨_, rfl, by rw [List.length_set]; exact a4⟩
        · rw [if_neg e2]
          exact ⟨l, a3, a4⟩)
      rw [hW]
      refine ⟨ih.st, ih.ct, ih.fl, ih.tk, ih.se, ?_, fun q row' h => ?_, fun q a => ?_, ih.nls, fun p' q' h1 h2 => ?_, ih.sn⟩
      · rw [ih.nwt]; show (bump w.wt p o.letter.toNat 1).length = _; unfold bump; rw [List.length_set]
      · obtain ⟨row0, b1, b2⟩ := ih.wl q row' h
        have b1' : (bump w.wt p o.letter.toNat 1)[q]? = some row0 := b1
        rw [bump_eq hpr hz] at b1'
        rcases set_get b1' with ⟨rfl, rfl⟩ | ⟨_, b3⟩
        · exact ⟨row, hpr, by rw [b2, List.length_set]⟩
        · exact ⟨row0, b3, b2⟩
      · rw [ih.wt]
        show cellT (bump w.wt p o.letter.toNat 1) q a + _ = _
        rw [cellT_bump hpr hz, hcnt]
        by_cases e2 : q = p
        · subst e2
          rw [if_pos rfl, if_pos rfl]
          by_cases e3 : o.letter = (a : Int)
          · rw [if_pos ⟨rfl, by omega⟩, if_pos ⟨e, e3⟩]; omega
          · rw [if_neg (fun hh => e3 (by omega)), if_neg (fun hh => e3 hh.2)]; omega
        · rw [if_neg e2, if_neg e2, if_neg (fun hh => e2 hh.1)]; omega
      · rw [ih.ls p' q' h1 h2, show lnO N (waitS p o.letter.toNat w) p' q' = lnO N w p' q' from rfl]
        by_cases e2 : p' = p ∧ q' ≠ p
        · rw [if_pos e2, if_pos e2, List.filter_cons, if_neg (by rw [e]; simp; have := e2.2; omega)]
        · rw [if_neg e2, if_neg e2]
    · have hdp : o.dst.toNat ≠ p := fun hh => e (by omega)
      have hdN : o.dst.toNat < N := by omega
      have hW : putS N p (pairO o) w = { w with ls := w.ls.set (p * N + o.dst.toNat) { lnO N w p o.dst.toNat with q := (lnO N w p o.dst.toNat).q ++ [o.letter] } } := by unfold putS pairO; simp only; rw [if_neg e]; rfl
      have ih := PutsP.of hp r { w with ls := w.ls.set (p * N + o.dst.toNat) { lnO N w p o.dst.toNat with q := (lnO N w p o.dst.toNat).q ++ [o.letter] } } (by show (w.ls.set _ _).length = _; rw [List.length_set]; exact hn) (fun o' ho' => ho o' (by simp [ho']))
      have hl := fun (p' q' : Nat) (hq' : q' < N) => lnO_set (w := w) (l := { lnO N w p o.dst.toNat with q := (lnO N w p o.dst.toNat).q ++ [o.letter] }) hp hdN hn (w' := { w with ls := w.ls.set (p * N + o.dst.toNat) { lnO N w p o.dst.toNat with q := (lnO N w p o.dst.toNat).q ++ [o.letter] } }) rfl (p' := p') hq'
      rw [hW]
      refine ⟨ih.st, ih.ct, ih.fl, ih.tk, ih.se, ih.nwt, ih.wl, fun q a => ?_, by rw [ih.nls]; show (w.ls.set _ _).length = _; rw [List.length_set], fun p' q' h1 h2 => ?_, fun p' q' => ?_⟩
      · rw [ih.wt, hcnt]
        show cellT w.wt q a + _ = _
        by_cases e2 : q = p
        · rw [if_pos e2, if_pos e2, if_neg (fun hh => e hh.1)]; omega
        · rw [if_neg e2, if_neg e2]
      · rw [ih.ls p' q' h1 h2, hl p' q' h2]
        by_cases e2 : p' = p ∧ q' ≠ p
        · rw [if_pos e2, if_pos e2]
          by_cases e3 : q' = o.dst.toNat
          · rw [if_pos ⟨e2.1, e3⟩, List.filter_cons, if_pos (by simp; omega), e2.1, ← e3]
            simp
          · rw [if_neg (fun hh => e3 hh.2), List.filter_cons, if_neg (by simp; omega)]
        · rw [if_neg e2, if_neg e2, if_neg (fun hh => e2 ⟨hh.1, by rw [hh.2]; exact hdp⟩)]
      · rw [ih.sn p' q']
        show ((w.ls.set (p * N + o.dst.toNat) _).getD (p' * N + q') Ln.none).sn = _
        rw [getD_set]
        split
        · rename_i e2
          show (lnO N w p o.dst.toNat).sn = (w.ls.getD (p' * N + q') Ln.none).sn
          rw [e2.1]
          rfl
        · rfl
end

end Go.Proofs.Ytnigfddanoaonaa

set_option linter.unusedVariables false
set_option linter.unusedSimpArgs false
namespace Go.Proofs.Ytnigfddanoaonaa
open Go.RowKit

section
variable {x : Nwk} {hs hc : Nat → List Int} {pend : List (Pk × Nat)} {w : Wr}
theorem rdst_range (hr : Right x) {p : Nat} (hp : p < x.procs.length) : ∀ (l : List Int) (s : Int), 0 ≤ s → s < statesP x.procs p → (∀ a ∈ l, 0 ≤ a ∧ a < (lettersP x.procs p : Int)) → 0 ≤ (readSpec (x.procs.getD p prc0).rules s l).1 ∧ (readSpec (x.procs.getD p prc0).rules s l).1 < statesP x.procs p
  | [], s, h0, h1, _ => ⟨h0, h1⟩
  | b :: r, s, h0, h1, hl => by
    obtain ⟨hb0, hb1⟩ := hl b (by simp)
    obtain ⟨k, rfl⟩ := Int.eq_ofNat_of_zero_le hb0
    obtain ⟨pr, row, rr, e1, e2, e3, e4, e5, e6, e7, e8⟩ := hr.rule hp h0 h1 (k := k) (by omega)
    have e9 : ruleAt (x.procs.getD p prc0).rules s (k : Int) = rr := e5
    simp only [readSpec, e9]
    exact rdst_range hr hp r rr.next e6.1 (by unfold statesP; rw [e2]; exact e6.2) (fun a ha => hl a (by simp [ha]))
theorem slist_count (p q a : Nat) : (slist x hs p q).count (a : Int) = cntO (histR x p (hs p)).2 q a := by
  unfold slist cntO
  rw [List.count, List.countP_map, List.countP_filter]
  refine List.countP_congr fun o _ => ?_
  simp
  exact And.comm
theorem slist_up (p q : Nat) (a : Int) : slist x (upH hs p a) p q = slist x hs p q ++ ((ruleAt (x.procs.getD p prc0).rules (histR x p (hs p)).1 a).sent.filter fun o => decide (o.dst = (q : Int))).map (·.letter) := by
  unfold slist
  rw [upH_at, hist_snoc]
  simp
theorem slist_ne {p p' : Nat} (h : p' ≠ p) (q : Nat) (a : Int) : slist x (upH hs p a) p' q = slist x hs p' q := by
  unfold slist
  rw [upH_ne hs a h]
theorem acc_sent (q a : Nat) : accN x hs w q a ≤ sentN x hs q a := by
  unfold accN sentN
  refine sumN_le fun p hp => ?_
  split
  · rename_i e; subst e; exact Nat.le_refl _
  · rw [← slist_count]
    exact (List.take_sublist _ _).count_le _
theorem least_spec {row : List Int} {k : Nat} (h : leastS row = some k) : ∃ z, row[k]? = some z ∧ 0 < z := by
  unfold leastS at h
  obtain ⟨h1, h2, _⟩ := List.findIdx?_eq_some_iff_getElem.1 h
  exact ⟨_, List.getElem?_eq_getElem h1, by simpa using h2⟩
/-- A processor reads its least letter. -/
theorem HInv.read (hr : Right x) (h : HInv x hs [] w) {p : Nat} (hp : p < x.procs.length) :
    (leastS (w.wt.getD p []) = none ∧ readS x.procs.length (nextP x.procs) (sentP x.procs) p w = w) ∨
    ∃ k, k < lettersP x.procs p ∧ 0 < cellT w.wt p k ∧ HInv x (upH hs p (k : Int)) [] (readS x.procs.length (nextP x.procs) (sentP x.procs) p w) := by
  rcases hk : leastS (w.wt.getD p []) with _ | k
  · left
    refine ⟨rfl, ?_⟩
    unfold readS
    rw [hk]
  · right
    obtain ⟨row, hrow⟩ : ∃ row, w.wt[p]? = some row := ⟨_, List.getElem?_eq_getElem (by rw [h.nwt]; exact hp)⟩
    have hk' := hk
    rw [getD_some hrow] at hk'
    obtain ⟨z, hz, hz0⟩ := least_spec hk'
    have hkl := (List.getElem?_eq_some_iff.1 hz).1
    have hrl := h.wl p row hrow
    have hL : k < lettersP x.procs p := by omega
    have hcell : cellT w.wt p k = z := by unfold cellT; rw [getD_some hrow, getD_some hz]
    refine ⟨k, hL, by omega, ?_⟩
    have hst := h.st p hp
    have hs0 := hr.st0 hp
    have hsr := rdst_range hr hp (hs p) _ hs0.1 hs0.2 (h.inl p hp)
    obtain ⟨pr, rw0, r, _, hgd, _, _, hrr, hnx, _, hout⟩ := hr.rule hp hsr.1 hsr.2 (k := k) hL
    have hrr' : ruleP x.procs p (w.st.getD p 0) k = r := by rw [hst]; exact hrr
    have hrat : ruleAt (x.procs.getD p prc0).rules (histR x p (hs p)).1 (k : Int) = r := hrr
    obtain ⟨W, hW⟩ : ∃ W, W = readS x.procs.length (nextP x.procs) (sentP x.procs) p w := ⟨_, rfl⟩
    have hW' := hW
    unfold readS at hW'
    rw [hk] at hW'
    simp only at hW'
    rw [show sentP x.procs p (w.st.getD p 0) k = r.sent.map pairO from by unfold sentP; rw [hrr'], show nextP x.procs p (w.st.getD p 0) k = r.next from by unfold nextP; rw [hrr']] at hW'
    have hwl : ∀ (q : Nat) (row' : List Int), (bump w.wt p k (-1))[q]? = some row' → ∃ row0 : List Int, w.wt[q]? = some row0 ∧ row'.length = row0.length := fun q row' hq => by
      rw [bump_eq hrow hz] at hq
      rcases set_get hq with ⟨rfl, rfl⟩ | ⟨_, hq⟩
      · exact ⟨row, hrow, by rw [List.length_set]⟩
      · exact ⟨row', hq, rfl⟩
    have hwl2 : ∀ (q : Nat) (row0 : List Int), w.wt[q]? = some row0 → ∃ row' : List Int, (bump w.wt p k (-1))[q]? = some row' ∧ row'.length = row0.length := fun q row0 hq => by
      rw [bump_eq hrow hz, List.getElem?_set]
      by_cases e : p = q
      · subst e
        rw [if_pos rfl, if_pos (List.getElem?_eq_some_iff.1 hrow).1]
        rw [hrow] at hq
        injection hq with hq
        subst hq
        exact ⟨_, rfl, by rw [List.length_set]⟩
      · rw [if_neg e]
        exact ⟨row0, hq, rfl⟩
    have P := PutsP.of hp r.sent { w with wt := bump w.wt p k (-1), ct := bump w.ct p k 1, st := w.st.set p r.next } h.nls (fun o ho => by
      obtain ⟨o1, o2, o3⟩ := hout o ho
      have hd : o.dst.toNat < w.wt.length := by rw [h.nwt]; omega
      have e0 := List.getElem?_eq_getElem hd
      obtain ⟨row', e1, e2⟩ := hwl2 _ _ e0
      have e3 := h.wl _ _ e0
      exact ⟨o1, o2, row', e1, by omega⟩)
    rw [← hW'] at P
    rw [← hW]
    have hlno : ∀ p' q', lnO x.procs.length { w with wt := bump w.wt p k (-1), ct := bump w.ct p k 1, st := w.st.set p r.next } p' q' = lnO x.procs.length w p' q' := fun _ _ => rfl
    have hls := fun p' q' h1 h2 => (P.ls p' q' h1 h2).trans (by rw [hlno])
    have hrm : ∀ p' q', p' < x.procs.length → q' < x.procs.length → (lnO x.procs.length W p' q').rm = (lnO x.procs.length w p' q').rm ∧ (lnO x.procs.length W p' q').ac = (lnO x.procs.length w p' q').ac := fun p' q' h1 h2 => by
      rw [hls p' q' h1 h2]
      split <;> exact ⟨rfl, rfl⟩
    have hcw : ∀ q a, cellT W.wt q a = cellT w.wt q a + (if q = p ∧ a = k then -1 else 0) + if q = p then (cntO r.sent p a : Int) else 0 := fun q a => by
      rw [P.wt q a]
      show cellT (bump w.wt p k (-1)) q a + _ = _
      rw [cellT_bump hrow hz]
    exact {
      nst := by rw [P.st]; show (w.st.set p r.next).length = _; rw [List.length_set]; exact h.nst
      nwt := by rw [P.nwt]; show (bump w.wt p k (-1)).length = _; unfold bump; rw [List.length_set]; exact h.nwt
      nls := by rw [P.nls]; exact h.nls
      inl := upH_in h.inl hL
      st := fun q hq => by
        rw [P.st]
        show (w.st.set p r.next).getD q 0 = _
        by_cases hqp : q = p
        · subst hqp
          rw [List.getD_eq_getElem?_getD, List.getElem?_set_self (by rw [h.nst]; exact hq), upH_at, hist_snoc, hrat]
          rfl
        · rw [List.getD_eq_getElem?_getD, List.getElem?_set_ne (fun e => hqp e.symm), ← List.getD_eq_getElem?_getD, upH_ne hs _ hqp]
          exact h.st q hq
      ct := by
        rw [P.ct]
        show bump w.ct p k 1 = _
        rw [h.ct]
        have hg : ((List.range x.procs.length).map fun p => tally (lettersP x.procs p) (hs p))[p]? = some (tally (lettersP x.procs p) (hs p)) := by simp [hp]
        rw [bump_eq hg (tally_get hL)]
        apply List.ext_getElem?
        intro q
        rw [List.getElem?_set]
        by_cases hqp : p = q
        · subst hqp
          rw [if_pos rfl, if_pos (by simp [hp])]
          simp only [List.getElem?_map, List.getElem?_range hp, Option.map_some, upH_at, tally_snoc _ hL]
        · rw [if_neg hqp]
          simp only [List.getElem?_map]
          by_cases hq : q < x.procs.length
          · rw [List.getElem?_range hq]
            simp only [Option.map_some]
            rw [upH_ne hs _ (fun e => hqp e.symm)]
          · rw [List.getElem?_eq_none (by simp; omega)]
            rfl
      wl := fun q row' hq => by
        obtain ⟨row1, a1, a2⟩ := P.wl q row' hq
        obtain ⟨row0, b1, b2⟩ := hwl q row1 a1
        rw [a2, b2]
        exact h.wl q row0 b1
      w0 := fun q a => by
        rw [hcw]
        have := h.w0 q a
        by_cases e : q = p ∧ a = k
        · rw [if_pos e]
          obtain ⟨rfl, rfl⟩ := e
          split <;> omega
        · rw [if_neg e]
          split <;> omega
      ln := fun p' q' hp' hq' hne => by
        obtain ⟨e1, e2, e3⟩ := h.ln p' q' hp' hq' hne
        rw [hls p' q' hp' hq']
        by_cases e : p' = p
        · subst e
          rw [if_pos ⟨rfl, fun hh => hne hh.symm⟩, slist_up, hrat]
          refine ⟨?_, e2, by rw [List.length_append]; simp only; omega⟩
          simp only
          rw [e1, List.drop_append_of_le_length (by omega)]
        · rw [if_neg (fun hh => e hh.1), slist_ne e]
          exact ⟨e1, e2, e3⟩
      dg := fun p' hp' => by
        rw [hls p' p' hp' hp', if_neg (fun hh => hh.2 hh.1)]
        exact h.dg p' hp'
      sn := fun p' q' => by
        rw [P.sn, P.tk]
        exact h.sn p' q'
      pk := fun a ha => by
        rw [P.fl] at ha
        have h1 := h.pk a ha
        obtain ⟨a, t⟩ := a
        cases a with
        | lett j num kind =>
          obtain ⟨p', q', hp', hq', hne, hj, n1, n2, hget⟩ := h1
          refine ⟨p', q', hp', hq', hne, hj, n1, by rw [(hrm p' q' hp' hq').2]; exact n2, ?_⟩
          by_cases e : p' = p
          · subst e
            rw [slist_up, List.getElem?_append_left (List.getElem?_eq_some_iff.1 hget).1]
            exact hget
          · rw [slist_ne e]
            exact hget
        | ack j num =>
          obtain ⟨p', q', hp', hq', hne, hj, n2⟩ := h1
          exact ⟨p', q', hp', hq', hne, hj, by rw [(hrm p' q' hp' hq').2]; exact n2⟩
      tm := by
        rw [P.fl, P.tk]
        exact h.tm
      wt := fun q a hq ha => by
        have h1 := h.wt q a hq ha
        rw [hcw]
        by_cases e : q = p
        · subst e
          have h2 := sumN_one (n := x.procs.length) (k := q) (f := fun p' => if p' = q then cntO (histR x q (upH hs q (k : Int) q)).2 q a else ((slist x (upH hs q (k : Int)) p' q).take (lnO x.procs.length W p' q).ac).count (a : Int)) (g := fun p' => if p' = q then cntO (histR x q (hs q)).2 q a else ((slist x hs p' q).take (lnO x.procs.length w p' q).ac).count (a : Int)) hq (fun p' hp' hne => by
            simp only [if_neg hne]
            rw [slist_ne hne, (hrm p' q hp' hq).2])
          simp only [if_true] at h2
          rw [upH_at, hist_snoc, hrat, cntO_app] at h2
          have h3 : accN x (upH hs q (k : Int)) W q a = accN x hs w q a + cntO r.sent q a := by
            unfold accN
            rw [upH_at, hist_snoc, hrat, cntO_app]
            omega
          rw [h3, if_pos rfl, upH_at, List.count_append, List.count_singleton]
          by_cases e2 : a = k
          · subst e2
            rw [if_pos ⟨rfl, rfl⟩]
            simp
            omega
          · rw [if_neg (fun hh => e2 hh.2)]
            have : ¬ ((k : Int) = (a : Int)) := by omega
            simp [this]
            omega
        · have h3 : accN x (upH hs p (k : Int)) W q a = accN x hs w q a := by
            unfold accN
            refine sumN_eq fun p' hp' => ?_
            by_cases e2 : p' = q
            · rw [if_pos e2, if_pos e2, upH_ne hs _ e]
            · rw [if_neg e2, if_neg e2, (hrm p' q hp' hq).2]
              by_cases e3 : p' = p
              · subst e3
                obtain ⟨_, a2, a3⟩ := h.ln p' q hp' hq e2
                rw [slist_up, List.take_append_of_le_length a3]
              · rw [slist_ne e3]
          rw [h3, upH_ne hs _ e, if_neg (fun hh => e hh.1), if_neg e]
          omega }
/-- All processors read, one after the other. -/
theorem HInv.reads (hr : Right x) (hA : AbN x) (h : HInv x hs [] w) : ∀ i, i ≤ x.procs.length → ∃ hs', HInv x hs' [] ((List.range i).foldl (fun w p => readS x.procs.length (nextP x.procs) (sentP x.procs) p w) w) ∧
    (∀ hc, InL x hc → Compl x hc → LeH x hs hc → LeH x hs' hc) ∧ totH x hs ≤ totH x hs' ∧ (totH x hs' = totH x hs → hs' = hs ∧ (List.range i).foldl (fun w p => readS x.procs.length (nextP x.procs) (sentP x.procs) p w) w = w ∧ ∀ p, p < i → leastS (w.wt.getD p []) = none)
  | 0, _ => ⟨hs, h, fun _ _ _ hl => hl, Nat.le_refl _, fun _ => ⟨rfl, rfl, fun p hp => by omega⟩⟩
  | i + 1, hi => by
    obtain ⟨h1, a1, a2, a3, a4⟩ := HInv.reads hr hA h i (by omega)
    rw [List.range_succ, List.foldl_append]
    simp only [List.foldl_cons, List.foldl_nil]
    rcases a1.read hr (p := i) (by omega) with ⟨b1, b2⟩ | ⟨k, b1, b2, b3⟩
    · rw [b2]
      refine ⟨h1, a1, a2, a3, fun e => ?_⟩
      obtain ⟨c1, c2, c3⟩ := a4 e
      refine ⟨c1, c2, fun p hp => ?_⟩
      rcases Nat.lt_or_ge p i with hpi | hpi
      · exact c3 p hpi
      · obtain rfl : p = i := by omega
        rw [c2] at b1
        exact b1
    · have ht := upH_tot (x := x) (hs := h1) (p := i) (by omega) (k : Int)
      refine ⟨_, b3, fun hc hI hC hl => ?_, by omega, fun e => by omega⟩
      have hle := a2 hc hI hC hl
      refine upH_le hle (least hr hA hI hC hle (by omega) b1 ?_)
      have e1 := a1.wt i k (by omega) b1
      have e2 := acc_sent (x := x) (hs := h1) (w := (List.range i).foldl (fun w p => readS x.procs.length (nextP x.procs) (sentP x.procs) p w) w) i k
      omega
/-- A tick. -/
theorem HInv.tick (hr : Right x) (hA : AbN x) (fates : List Int) (h : HInv x hs [] w) : ∃ hs', HInv x hs' [] (tickS x.procs.length (nextP x.procs) (sentP x.procs) fates w) ∧
    (∀ hc, InL x hc → Compl x hc → LeH x hs hc → LeH x hs' hc) ∧ totH x hs ≤ totH x hs' ∧ (totH x hs' = totH x hs → hs' = hs ∧ tickS x.procs.length (nextP x.procs) (sentP x.procs) fates w = (List.range (x.procs.length * x.procs.length)).foldl (fun w j => Go.Proofs.Ytnigfddanoaonaa.lineS fates j w) (arriveS x.procs.length fates { w with tk := w.tk + 1 }) ∧ ∀ p, p < x.procs.length → leastS ((arriveS x.procs.length fates { w with tk := w.tk + 1 }).wt.getD p []) = none) := by
  obtain ⟨h1, a1, a2, a3, a4⟩ := (h.arrive hr fates).reads hr hA x.procs.length (Nat.le_refl _)
  refine ⟨h1, a1.lines fates _ (Nat.le_refl _), a2, a3, fun e => ?_⟩
  obtain ⟨b1, b2, b3⟩ := a4 e
  refine ⟨b1, ?_, b3⟩
  unfold tickS
  rw [b2]
theorem lnO_begin {N : Nat} {st : List Int} {wt : List (List Int)} (p q : Nat) : lnO N (beginS st wt N) p q = Ln.none := by
  unfold lnO beginS
  simp only [List.getD_eq_getElem?_getD, List.getElem?_replicate]
  split <;> rfl
/-- The beginning. -/
theorem HInv.begin_ (hr : Right x) : HInv x (fun _ => []) [] (beginS x.state x.waiting x.procs.length) where
  nst := hr.nst
  nwt := hr.nwt
  nls := by simp [beginS]
  inl := fun p hp a ha => by simp at ha
  st := fun p hp => rfl
  ct := by
    show x.waiting.map _ = _
    apply List.ext_getElem?
    intro i
    simp only [List.getElem?_map, tally_nil]
    by_cases h : i < x.procs.length
    · obtain ⟨l, e1, e2⟩ := hr.row h
      rw [List.getElem?_range h, e1]
      simp [e2]
    · rw [List.getElem?_eq_none (by rw [hr.nwt]; omega), List.getElem?_eq_none (by simp; omega)]
      rfl
  wl := fun p row hp => by
    have hlt := (List.getElem?_eq_some_iff.1 hp).1
    obtain ⟨l, e1, e2⟩ := hr.row (x := x) (p := p) (by rw [← hr.nwt]; exact hlt)
    have hp' : x.waiting[p]? = some row := hp
    rw [hp'] at e1
    injection e1 with e1
    rw [e1, e2]
  w0 := fun q a => by
    show 0 ≤ cellT x.waiting q a
    unfold cellT
    rcases hq : x.waiting[q]? with _ | l
    · simp [hq]
    · rw [getD_some hq]
      rcases ha : l[a]? with _ | z
      · simp [ha]
      · rw [getD_some ha]
        exact (hr.wb l (List.mem_of_getElem? hq) z (List.mem_of_getElem? ha)).1
  ln := fun p q _ _ _ => by
    rw [lnO_begin]
    exact ⟨rfl, Nat.le_refl _, Nat.zero_le _⟩
  dg := fun p hp => lnO_begin p p
  sn := fun p q => by rw [lnO_begin]; exact Nat.zero_le _
  pk := fun a ha => by simp [beginS] at ha
  tm := fun a ha => by simp [beginS] at ha
  wt := fun q a hq ha => by
    have : accN x (fun _ => []) (beginS x.state x.waiting x.procs.length) q a = 0 := by
      have h1 := sumN_eq (f := fun p => if p = q then cntO (histR x q []).2 q a else ((slist x (fun _ => []) p q).take (lnO x.procs.length (beginS x.state x.waiting x.procs.length) p q).ac).count (a : Int)) (g := fun _ => 0) (n := x.procs.length) fun p hp => by
        show (if p = q then cntO (histR x q []).2 q a else ((slist x (fun _ => []) p q).take _).count (a : Int)) = 0
        split
        · rfl
        · simp [slist, histR, readSpec]
      have h2 : ∀ n, sumN (fun _ => 0) n = 0 := fun n => by
        induction n with
        | zero => rfl
        | succ n ih => simp only [sumN]; omega
      unfold accN
      rw [h1, h2]
    rw [this]
    show cellT x.waiting q a + ((List.count (a : Int) ([] : List Int) : Nat) : Int) = cellT x.waiting q a + ((0 : Nat) : Int)
    rfl
end

end Go.Proofs.Ytnigfddanoaonaa

set_option linter.unusedVariables false
set_option linter.unusedSimpArgs false
namespace Go.Proofs.Ytnigfddanoaonaa
open Go.RowKit

theorem sumN_zero (n : Nat) : sumN (fun _ => 0) n = 0 := by
  induction n with
  | zero => rfl
  | succ n ih => simp only [sumN]; omega
theorem sumN_two (f g : Nat → Nat) (n : Nat) : sumN (fun p => f p + g p) n = sumN f n + sumN g n := by
  induction n with
  | zero => rfl
  | succ n ih => simp only [sumN]; omega
theorem sumN_cat (f : Nat → Nat) (a : Nat) : ∀ b, sumN f (a + b) = sumN f a + sumN (fun i => f (a + i)) b
  | 0 => rfl
  | b + 1 => by
    show sumN f (a + b) + f (a + b) = _
    rw [sumN_cat f a b]
    simp only [sumN]
    omega
theorem sumN_mul (f : Nat → Nat) (N : Nat) : ∀ m, sumN f (m * N) = sumN (fun p => sumN (fun q => f (p * N + q)) N) m
  | 0 => by rw [Nat.zero_mul]; rfl
  | m + 1 => by
    rw [Nat.succ_mul, sumN_cat, sumN_mul f N m]
    rfl
theorem sumN_comm (f : Nat → Nat → Nat) (n : Nat) : ∀ m, sumN (fun p => sumN (fun q => f p q) n) m = sumN (fun q => sumN (fun p => f p q) m) n
  | 0 => (sumN_zero n).symm
  | m + 1 => by
    show sumN (fun p => sumN (fun q => f p q) n) m + sumN (fun q => f m q) n = sumN (fun q => sumN (fun p => f p q) m + f m q) n
    rw [sumN_comm f n m, sumN_two]
theorem sumN_ind {b : Nat} : ∀ {n : Nat}, b < n → sumN (fun a => if b = a then 1 else 0) n = 1
  | 0, h => by omega
  | n + 1, h => by
    simp only [sumN]
    by_cases e : b = n
    · subst e
      rw [sumN_eq (g := fun _ => 0) fun a ha => if_neg (by omega), sumN_zero, if_pos rfl]
    · rw [sumN_ind (n := n) (by omega), if_neg e]
theorem len_count {L : Nat} : ∀ (l : List Int), (∀ a ∈ l, 0 ≤ a ∧ a < (L : Int)) → sumN (fun a => l.count (a : Int)) L = l.length
  | [], _ => sumN_zero L
  | b :: r, h => by
    obtain ⟨k, hk⟩ := Int.eq_ofNat_of_zero_le (h b (by simp)).1
    have h1 := (h b (by simp)).2
    have e : sumN (fun a => (b :: r).count (a : Int)) L = sumN (fun a => r.count (a : Int) + if k = a then 1 else 0) L := sumN_eq fun a ha => by
      rw [List.count_cons, hk]
      by_cases e : k = a
      · subst e; simp
      · have : ¬ ((k : Int) = (a : Int)) := by omega
        simp [e, this]
    rw [e, sumN_two, len_count r fun a ha => h a (by simp [ha]), sumN_ind (by omega), List.length_cons]

def rmS (w : Wr) (j : Nat) : Nat := (w.ls.getD j Ln.none).rm
def sumR (N : Nat) (w : Wr) : Nat := sumN (rmS w) (N * N)
section
variable {N : Nat} {next : Nat → Int → Nat → Int} {sent : Nat → Int → Nat → List (Int × Int)} {fates : List Int}
theorem rm_set {w w' : Wr} {i : Nat} {l : Ln} (h : w'.ls = w.ls.set i l) (hl : l.rm = rmS w i) (j : Nat) : rmS w' j = rmS w j := by
  unfold rmS at *
  rw [h, getD_set]
  split
  · rename_i e; rw [hl, e.1]
  · rfl
theorem putS_rm (p : Nat) (y : Int × Int) (w : Wr) (j : Nat) : rmS (putS N p y w) j = rmS w j := by
  unfold putS
  split
  · rfl
  · exact rm_set (w := w) (i := p * N + y.1.toNat) (l := { w.ls.getD (p * N + y.1.toNat) Ln.none with q := (w.ls.getD (p * N + y.1.toNat) Ln.none).q ++ [y.2] }) rfl rfl j
theorem putS_se (p : Nat) (y : Int × Int) (w : Wr) : (putS N p y w).se = w.se := by unfold putS; split <;> rfl
theorem foldl_rel {α β : Type} {R : α → α → Prop} (hr : ∀ a, R a a) (ht : ∀ a b c, R a b → R b c → R a c) {f : α → β → α} (h : ∀ a b, R a (f a b)) : ∀ (l : List β) (a : α), R a (l.foldl f a)
  | [], a => hr a
  | b :: r, a => by
    rw [List.foldl_cons]
    exact ht _ _ _ (h a b) (foldl_rel hr ht h r (f a b))
/-- Removals and sendings only grow. -/
def LeW (w w' : Wr) : Prop := (∀ j, rmS w j ≤ rmS w' j) ∧ w.se ≤ w'.se
theorem LeW.refl (w : Wr) : LeW w w := ⟨fun _ => Nat.le_refl _, Nat.le_refl _⟩
theorem LeW.trans {a b c : Wr} (h : LeW a b) (g : LeW b c) : LeW a c := ⟨fun j => Nat.le_trans (h.1 j) (g.1 j), Nat.le_trans h.2 g.2⟩
theorem readS_le (p : Nat) (w : Wr) : LeW w (readS N next sent p w) := by
  unfold readS
  split
  · exact LeW.refl w
  · refine LeW.trans (b := _) ?_ (foldl_rel LeW.refl (fun _ _ _ => LeW.trans) (fun a y => ⟨fun j => Nat.le_of_eq (putS_rm p y a j).symm, Nat.le_of_eq (putS_se p y a).symm⟩) _ _)
    exact ⟨fun j => Nat.le_refl _, Nat.le_refl _⟩
theorem lineS_le (j : Nat) (w : Wr) : LeW w (Go.Proofs.Ytnigfddanoaonaa.lineS fates j w) := by
  unfold Go.Proofs.Ytnigfddanoaonaa.lineS
  split
  · exact LeW.refl w
  · split
    · exact ⟨fun i => Nat.le_of_eq (rm_set (w := w) (i := j) (l := { w.ls.getD j Ln.none with sn := w.tk }) rfl rfl i).symm, Nat.le_succ _⟩
    · exact LeW.refl w
theorem dropL_mono : ∀ (q : List Int) (rm sn num : Nat), rm ≤ (dropL q rm sn num).2.1 ∧ ((dropL q rm sn num).2.1 ≤ rm → dropL q rm sn num = (q, rm, sn) ∧ ¬ (rm < num ∧ q ≠ []))
  | [], rm, sn, num => by
    unfold dropL
    exact ⟨Nat.le_refl _, fun _ => ⟨rfl, fun h => h.2 rfl⟩⟩
  | y :: r, rm, sn, num => by
    unfold dropL
    by_cases h : rm < num
    · rw [if_pos h]
      obtain ⟨a1, a2⟩ := dropL_mono r (rm + 1) 0 num
      exact ⟨by omega, fun e => by omega⟩
    · rw [if_neg h]
      exact ⟨Nat.le_refl _, fun _ => ⟨rfl, fun hh => h hh.1⟩⟩
theorem handleS_le (k : Pk) (w : Wr) : LeW w (handleS N fates k w) := by
  cases k with
  | ack l num =>
    simp only [handleS]
    refine ⟨fun j => ?_, Nat.le_refl _⟩
    unfold rmS
    simp only
    rw [getD_set]
    split
    · rename_i e
      rw [e.1]
      exact (dropL_mono _ _ _ _).1
    · exact Nat.le_refl _
  | lett l num kind =>
    simp only [handleS]
    split
    · refine ⟨fun i => Nat.le_of_eq (rm_set (w := w) (i := l) (l := { w.ls.getD l Ln.none with ac := (w.ls.getD l Ln.none).ac + 1 }) rfl rfl i).symm, Nat.le_succ _⟩
    · exact ⟨fun i => Nat.le_refl _, Nat.le_succ _⟩
theorem arriveS_le (w : Wr) : LeW w (arriveS N fates w) := by
  unfold arriveS
  exact LeW.trans (b := { w with fl := w.fl.filter fun a => !(a.2 == w.tk) }) ⟨fun _ => Nat.le_refl _, Nat.le_refl _⟩ (foldl_rel (β := Pk × Nat) LeW.refl (fun _ _ _ => LeW.trans) (fun a y => handleS_le y.1 a) _ _)
theorem tickS_le (w : Wr) : LeW w (tickS N next sent fates w) := by
  unfold tickS
  refine LeW.trans (b := { w with tk := w.tk + 1 }) ⟨fun _ => Nat.le_refl _, Nat.le_refl _⟩ (LeW.trans (arriveS_le _) (LeW.trans (foldl_rel LeW.refl (fun _ _ _ => LeW.trans) (fun a y => readS_le y a) _ _) (foldl_rel LeW.refl (fun _ _ _ => LeW.trans) (fun a y => lineS_le y a) _ _)))
theorem LeW.sumR {w w' : Wr} (h : LeW w w') : Go.Proofs.Ytnigfddanoaonaa.sumR N w ≤ Go.Proofs.Ytnigfddanoaonaa.sumR N w' := sumN_le fun j _ => h.1 j
theorem LeW.rm_eq {w w' : Wr} (h : LeW w w') (he : Go.Proofs.Ytnigfddanoaonaa.sumR N w' ≤ Go.Proofs.Ytnigfddanoaonaa.sumR N w) {j : Nat} (hj : j < N * N) : rmS w j = rmS w' j := sumN_le_eq (fun j _ => h.1 j) he j hj
end

section
variable {x : Nwk} {hs hc : Nat → List Int} {pend : List (Pk × Nat)} {w : Wr}
/-- No more is removed than complete histories read. -/
theorem HInv.rm_le (hr : Right x) (hA : AbN x) (h : HInv x hs pend w) (h0 : ∀ q a, 0 ≤ cellT x.waiting q a) (hI : InL x hc) (hC : Compl x hc) (hL : LeH x hs hc) : sumR x.procs.length w ≤ totH x hc := by
  unfold sumR totH
  rw [sumN_mul, sumN_comm (fun p q => rmS w (p * x.procs.length + q))]
  refine sumN_le fun q hq => ?_
  have e1 : sumN (fun p => rmS w (p * x.procs.length + q)) x.procs.length ≤ sumN (fun p => (slist x hs p q).length) x.procs.length := sumN_le fun p hp => by
    show (lnO x.procs.length w p q).rm ≤ _
    by_cases e : p = q
    · subst e
      rw [h.dg p hp]
      exact Nat.zero_le _
    · obtain ⟨_, a2, a3⟩ := h.ln p q hp hq e
      omega
  have e2 : sumN (fun p => (slist x hs p q).length) x.procs.length = sumN (fun a => sentN x hs q a) (lettersP x.procs q) := by
    rw [sumN_eq (g := fun p => sumN (fun a => (slist x hs p q).count (a : Int)) (lettersP x.procs q)) fun p hp => (len_count _ fun a ha => slist_mem hr h.inl hp ha).symm]
    rw [sumN_comm (fun p a => (slist x hs p q).count (a : Int))]
    refine sumN_eq fun a ha => ?_
    unfold sentN
    exact sumN_eq fun p hp => slist_count p q a
  have e3 : sumN (fun a => sentN x hs q a) (lettersP x.procs q) ≤ sumN (fun a => (hc q).count (a : Int)) (lettersP x.procs q) := sumN_le fun a ha => by
    have b1 := sent_mono hr hA hI hL q a
    have b2 := hC q a hq ha
    have b3 := h0 q a
    show sentN x hs q a ≤ (hc q).count (a : Int)
    omega
  rw [len_count _ (hI q hq)] at e3
  omega
/-- No more waits than complete histories read. -/
theorem HInv.wt_le (hr : Right x) (hA : AbN x) (h : HInv x hs pend w) (hI : InL x hc) (hC : Compl x hc) (hL : LeH x hs hc) {q a : Nat} (hq : q < x.procs.length) (ha : a < lettersP x.procs q) : cellT w.wt q a ≤ totH x hc := by
  have h1 := h.wt q a hq ha
  have h2 := acc_sent (x := x) (hs := hs) (w := w) q a
  have h3 := sent_mono hr hA hI hL q a
  have h4 := hC q a hq ha
  have h5 : (hc q).count (a : Int) ≤ (hc q).length := List.count_le_length
  have h6 : (hc q).length ≤ totH x hc := sumN_mem (f := fun p => (hc p).length) hq
  omega
end

end Go.Proofs.Ytnigfddanoaonaa

set_option linter.unusedVariables false
set_option linter.unusedSimpArgs false
namespace Go.Proofs.Ytnigfddanoaonaa
open Go.RowKit

section
variable {x : Nwk} {hs hc : Nat → List Int} {pend : List (Pk × Nat)} {w : Wr} {fates : List Int}
theorem send_late (h : fates.length ≤ w.se) (k : Pk) : (sendS fates k w).fl = w.fl ++ [(k, w.tk + 1)] := by
  unfold sendS fateS
  rw [List.getD_eq_getElem?_getD, List.getElem?_eq_none h]
  rfl
/-- A packet is handled. -/
theorem HInv.step (hr : Right x) {a : Pk × Nat} (h : HInv x hs (a :: pend) w) :
    (∀ q b, cellT w.wt q b ≤ cellT (handleS x.procs.length fates a.1 w).wt q b) ∧
    ((∀ q b, cellT (handleS x.procs.length fates a.1 w).wt q b ≤ 0) → (∀ j, rmS (handleS x.procs.length fates a.1 w) j ≤ rmS w j) →
      (∃ j num kind, a.1 = .lett j num kind ∧ num ≠ (w.ls.getD j Ln.none).ac + 1 ∧ handleS x.procs.length fates a.1 w = sendS fates (.ack j (w.ls.getD j Ln.none).ac) w) ∨
      (∃ j num, a.1 = .ack j num ∧ ¬ ((w.ls.getD j Ln.none).rm < num ∧ (w.ls.getD j Ln.none).q ≠ []) ∧ (∀ i, (handleS x.procs.length fates a.1 w).ls.getD i Ln.none = w.ls.getD i Ln.none) ∧
        (handleS x.procs.length fates a.1 w).wt = w.wt ∧ (handleS x.procs.length fates a.1 w).fl = w.fl ∧ (handleS x.procs.length fates a.1 w).se = w.se ∧ (handleS x.procs.length fates a.1 w).tk = w.tk)) := by
  obtain ⟨h1, hk⟩ := h.pop
  obtain ⟨k, t⟩ := a
  cases k with
  | ack j num =>
    obtain ⟨p, q, hp, hq, hne, rfl, hnum⟩ := hk
    refine ⟨fun q b => Int.le_refl _, fun _ hrm => .inr ⟨_, _, rfl, ?_⟩⟩
    have h2 := hrm (p * x.procs.length + q)
    unfold rmS at h2
    simp only [handleS] at h2
    rw [getD_set, if_pos ⟨rfl, by rw [h.nls]; exact idx_lt hp hq⟩] at h2
    obtain ⟨e1, e2⟩ := (dropL_mono _ _ _ _).2 h2
    refine ⟨e2, fun i => ?_, rfl, rfl, rfl, rfl⟩
    simp only [handleS]
    rw [getD_set]
    split
    · rename_i e
      rw [e.1]
      unfold Ln.drop
      rw [e1]
    · rfl
  | lett j num kind =>
    obtain ⟨p, q, hp, hq, hne, rfl, n1, n2, hget⟩ := hk
    obtain ⟨row, hrow⟩ : ∃ row, w.wt[q]? = some row := ⟨_, List.getElem?_eq_getElem (by rw [h.nwt]; exact hq)⟩
    have hrl := h.wl q row hrow
    have hkd := slist_mem hr h.inl hp (List.mem_of_getElem? hget)
    have hz := List.getElem?_eq_getElem (show kind.toNat < row.length by omega)
    by_cases e : num = (w.ls.getD (p * x.procs.length + q) Ln.none).ac + 1
    · have hc : ∀ q' b, cellT (handleS x.procs.length fates (Pk.lett (p * x.procs.length + q) num kind, t).1 w).wt q' b = cellT w.wt q' b + if q' = q ∧ b = kind.toNat then 1 else 0 := fun q' b => by
        simp only [handleS]
        rw [if_pos e, idx_mod hq]
        exact cellT_bump hrow hz 1 q' b
      refine ⟨fun q' b => by rw [hc]; split <;> omega, fun hz0 _ => ?_⟩
      have h3 := hz0 q kind.toNat
      rw [hc, if_pos ⟨rfl, rfl⟩] at h3
      have := h.w0 q kind.toNat
      omega
    · have hc : handleS x.procs.length fates (Pk.lett (p * x.procs.length + q) num kind, t).1 w = sendS fates (.ack (p * x.procs.length + q) (w.ls.getD (p * x.procs.length + q) Ln.none).ac) w := by
        simp only [handleS]
        rw [if_neg e]
      refine ⟨fun q' b => by rw [hc]; exact Int.le_refl _, fun _ _ => .inl ⟨_, _, _, rfl, e, hc⟩⟩
/-- Packets handled, with nothing accepted and nothing removed. -/
structure StallA (fates : List Int) (l : List (Pk × Nat)) (w w' : Wr) : Prop where
  ls : ∀ j, w'.ls.getD j Ln.none = w.ls.getD j Ln.none
  wt : w'.wt = w.wt
  tk : w'.tk = w.tk
  se : w.se ≤ w'.se
  lett : ∀ b ∈ l, ∀ j num kind, b.1 = .lett j num kind → num ≠ (w.ls.getD j Ln.none).ac + 1
  ack : ∀ b ∈ l, ∀ j num, b.1 = .ack j num → ¬ ((w.ls.getD j Ln.none).rm < num ∧ (w.ls.getD j Ln.none).q ≠ [])
  sub : ∀ b ∈ w.fl, b ∈ w'.fl
  new : fates.length ≤ w.se → ∀ b ∈ w'.fl, b ∈ w.fl ∨ (b.2 = w.tk + 1 ∧ (∃ j num, b.1 = .ack j num) ∧ ∃ c ∈ l, ∃ j num kind, c.1 = .lett j num kind)
  sent : fates.length ≤ w.se → ∀ b ∈ l, ∀ j num kind, b.1 = .lett j num kind → (Pk.ack j (w.ls.getD j Ln.none).ac, w.tk + 1) ∈ w'.fl
  none : w'.se = w.se → w'.fl = w.fl ∧ ∀ b ∈ l, ∀ j num kind, b.1 ≠ .lett j num kind
theorem HInv.wt_mono (hr : Right x) : ∀ (l : List (Pk × Nat)) {w : Wr}, HInv x hs l w → ∀ q b, cellT w.wt q b ≤ cellT (l.foldl (fun w a => handleS x.procs.length fates a.1 w) w).wt q b
  | [], w, _, q, b => Int.le_refl _
  | a :: r, w, h, q, b => by
    rw [List.foldl_cons]
    exact Int.le_trans ((h.step hr).1 q b) (HInv.wt_mono hr r (h.handle hr fates) q b)
theorem HInv.stallA (hr : Right x) : ∀ (l : List (Pk × Nat)) {w : Wr}, HInv x hs l w → (∀ q b, cellT (l.foldl (fun w a => handleS x.procs.length fates a.1 w) w).wt q b ≤ 0) → (∀ j, rmS (l.foldl (fun w a => handleS x.procs.length fates a.1 w) w) j ≤ rmS w j) →
    StallA fates l w (l.foldl (fun w a => handleS x.procs.length fates a.1 w) w)
  | [], w, _, _, _ => ⟨fun _ => rfl, rfl, rfl, Nat.le_refl _, fun b hb => by simp at hb, fun b hb => by simp at hb, fun b hb => hb, fun _ b hb => .inl hb, fun _ b hb => by simp at hb, fun _ => ⟨rfl, fun b hb => by simp at hb⟩⟩
  | a :: r, w, h, hz, hrm => by
    rw [List.foldl_cons] at hz hrm ⊢
    have h1 := h.handle hr fates
    have hle : LeW (handleS x.procs.length fates a.1 w) (r.foldl (fun w a => handleS x.procs.length fates a.1 w) (handleS x.procs.length fates a.1 w)) := foldl_rel (β := Pk × Nat) LeW.refl (fun _ _ _ => LeW.trans) (fun a y => handleS_le y.1 a) _ _
    have hle0 : LeW w (handleS x.procs.length fates a.1 w) := handleS_le a.1 w
    have ih := HInv.stallA hr r h1 hz (fun j => Nat.le_trans (hrm j) (hle0.1 j))
    rcases (h.step (fates := fates) hr).2 (fun q b => Int.le_trans (HInv.wt_mono hr r h1 q b) (hz q b)) (fun j => Nat.le_trans (hle.1 j) (hrm j)) with ⟨j, num, kind, e1, e2, e3⟩ | ⟨j, num, e1, e2, e3, e4, e5, e6, e7⟩
    · rw [e3] at ih ⊢
      have s1 : ∀ i, (sendS fates (.ack j (w.ls.getD j Ln.none).ac) w).ls.getD i Ln.none = w.ls.getD i Ln.none := fun i => rfl
      have s2 : (sendS fates (.ack j (w.ls.getD j Ln.none).ac) w).se = w.se + 1 := rfl
      have s3 : (sendS fates (.ack j (w.ls.getD j Ln.none).ac) w).tk = w.tk := rfl
      have s4 : ∀ b ∈ w.fl, b ∈ (sendS fates (.ack j (w.ls.getD j Ln.none).ac) w).fl := fun b hb => List.mem_append_left _ hb
      refine ⟨fun i => (ih.ls i).trans (s1 i), ih.wt, ih.tk, by have := ih.se; omega, fun b hb j' num' kind' e => ?_, fun b hb j' num' e => ?_, fun b hb => ih.sub b (s4 b hb), fun hF b hb => ?_, fun hF b hb j' num' kind' e => ?_, fun e => ?_⟩
      · rcases List.mem_cons.1 hb with rfl | hb
        · rw [e1] at e
          injection e with f1 f2 f3
          rw [← f1, ← f2]
          exact e2
        · exact ih.lett b hb j' num' kind' e
      · rcases List.mem_cons.1 hb with rfl | hb
        · rw [e1] at e
          cases e
        · exact ih.ack b hb j' num' e
      · rcases ih.new (by omega) b hb with hb | ⟨b1, b2, c, hc, b3⟩
        · rw [send_late hF] at hb
          rcases List.mem_append.1 hb with hb | hb
          · exact .inl hb
          · rw [List.mem_singleton] at hb
            subst hb
            exact .inr ⟨rfl, ⟨_, _, rfl⟩, a, by simp, _, _, _, e1⟩
        · exact .inr ⟨b1, b2, c, by simp [hc], b3⟩
      · rcases List.mem_cons.1 hb with rfl | hb
        · rw [e1] at e
          injection e with f1 f2 f3
          subst f1
          refine ih.sub _ ?_
          rw [send_late hF]
          simp
        · exact ih.sent (by omega) b hb j' num' kind' e
      · have := ih.se
        omega
    · have hle1 := ih.se
      refine ⟨fun i => (ih.ls i).trans (e3 i), ih.wt.trans e4, ih.tk.trans e7, by omega, fun b hb j' num' kind' e => ?_, fun b hb j' num' e => ?_, fun b hb => ih.sub b (by rw [e5]; exact hb), fun hF b hb => ?_, fun hF b hb j' num' kind' e => ?_, fun e => ?_⟩
      · rcases List.mem_cons.1 hb with rfl | hb
        · rw [e1] at e
          cases e
        · rw [← e3]
          exact ih.lett b hb j' num' kind' e
      · rcases List.mem_cons.1 hb with rfl | hb
        · rw [e1] at e
          injection e with f1 f2
          rw [← f1, ← f2]
          exact e2
        · rw [← e3]
          exact ih.ack b hb j' num' e
      · rcases ih.new (by omega) b hb with hb | ⟨b1, b2, c, hc, b3⟩
        · rw [e5] at hb
          exact .inl hb
        · exact .inr ⟨by omega, b2, c, by simp [hc], b3⟩
      · rcases List.mem_cons.1 hb with rfl | hb
        · rw [e1] at e
          cases e
        · rw [← e3, ← e7]
          exact ih.sent (by omega) b hb j' num' kind' e
      · obtain ⟨a1, a2⟩ := ih.none (by omega)
        refine ⟨a1.trans e5, fun b hb j' num' kind' ee => ?_⟩
        rcases List.mem_cons.1 hb with rfl | hb
        · rw [e1] at ee
          cases ee
        · exact a2 b hb j' num' kind' ee
/-- A line that will send. -/
def dueS (w : Wr) (j : Nat) : Prop := (w.ls.getD j Ln.none).q ≠ [] ∧ ((w.ls.getD j Ln.none).sn = 0 ∨ (w.ls.getD j Ln.none).sn + 4 ≤ w.tk)
structure StallL (fates : List Int) (i : Nat) (w w' : Wr) : Prop where
  wt : w'.wt = w.wt
  tk : w'.tk = w.tk
  se : w.se ≤ w'.se
  ln1 : ∀ j, j < i → dueS w j → w'.ls.getD j Ln.none = { w.ls.getD j Ln.none with sn := w.tk }
  ln2 : ∀ j, ¬ (j < i ∧ dueS w j) → w'.ls.getD j Ln.none = w.ls.getD j Ln.none
  sub : ∀ b ∈ w.fl, b ∈ w'.fl
  new : fates.length ≤ w.se → ∀ b ∈ w'.fl, b ∈ w.fl ∨ (b.2 = w.tk + 1 ∧ ∃ j, (w.ls.getD j Ln.none).q ≠ [])
  sent : fates.length ≤ w.se → ∀ j, j < i → dueS w j → ∃ kind, (Pk.lett j ((w.ls.getD j Ln.none).rm + 1) kind, w.tk + 1) ∈ w'.fl
  none : w'.se = w.se → w'.fl = w.fl ∧ ∀ j, j < i → ¬ dueS w j
theorem line_no {j : Nat} (h : ¬ dueS w j) : Go.Proofs.Ytnigfddanoaonaa.lineS fates j w = w := by
  unfold Go.Proofs.Ytnigfddanoaonaa.lineS
  rcases hq : (w.ls.getD j Ln.none).q with _ | ⟨a, r⟩
  · rfl
  · simp only
    rw [if_neg (fun hh => h ⟨by rw [hq]; simp, hh⟩)]
theorem line_yes {j : Nat} (h : dueS w j) : ∃ kind, Go.Proofs.Ytnigfddanoaonaa.lineS fates j w = { sendS fates (.lett j ((w.ls.getD j Ln.none).rm + 1) kind) w with ls := w.ls.set j { w.ls.getD j Ln.none with sn := w.tk } } := by
  unfold Go.Proofs.Ytnigfddanoaonaa.lineS
  rcases hq : (w.ls.getD j Ln.none).q with _ | ⟨a, r⟩
  · exact absurd hq h.1
  · refine ⟨a, ?_⟩
    simp only
    rw [if_pos h.2]
theorem stallL : ∀ i, StallL fates i w ((List.range i).foldl (fun w j => Go.Proofs.Ytnigfddanoaonaa.lineS fates j w) w)
  | 0 => ⟨rfl, rfl, Nat.le_refl _, fun j hj => by omega, fun j _ => rfl, fun b hb => hb, fun _ b hb => .inl hb, fun _ j hj => by omega, fun _ => ⟨rfl, fun j hj => by omega⟩⟩
  | i + 1 => by
    have ih := stallL i
    rw [List.range_succ, List.foldl_append]
    simp only [List.foldl_cons, List.foldl_nil]
    obtain ⟨W, hW⟩ : ∃ W, W = (List.range i).foldl (fun w j => Go.Proofs.Ytnigfddanoaonaa.lineS fates j w) w := ⟨_, rfl⟩
    rw [← hW] at ih ⊢
    have hi := ih.ln2 i (fun h => by omega)
    have hdue : dueS W i ↔ dueS w i := by unfold dueS; rw [hi, ih.tk]
    by_cases hd : dueS w i
    · obtain ⟨kind, e⟩ := line_yes (fates := fates) (hdue.2 hd)
      have hlt : i < W.ls.length := by
        rcases Nat.lt_or_ge i W.ls.length with h | h
        · exact h
        · have := (hdue.2 hd).1
          rw [List.getD_eq_getElem?_getD, List.getElem?_eq_none h] at this
          exact absurd rfl this
      have hg : ∀ j, (Go.Proofs.Ytnigfddanoaonaa.lineS fates i W).ls.getD j Ln.none = if j = i then { w.ls.getD i Ln.none with sn := w.tk } else W.ls.getD j Ln.none := fun j => by
        rw [e]
        show (W.ls.set i _).getD j Ln.none = _
        rw [getD_set, hi, ih.tk]
        by_cases ej : j = i
        · rw [if_pos ⟨ej, hlt⟩, if_pos ej]
        · rw [if_neg (fun hh => ej hh.1), if_neg ej]
      have hse : (Go.Proofs.Ytnigfddanoaonaa.lineS fates i W).se = W.se + 1 := by rw [e]; rfl
      have hfl : (Go.Proofs.Ytnigfddanoaonaa.lineS fates i W).fl = (sendS fates (.lett i ((W.ls.getD i Ln.none).rm + 1) kind) W).fl := by rw [e]
      have hs1 := ih.se
      refine ⟨by rw [e]; exact ih.wt, by rw [e]; exact ih.tk, by omega, fun j hj hdj => ?_, fun j hn => ?_, fun b hb => ?_, fun hF b hb => ?_, fun hF j hj hdj => ?_, fun ee => by omega⟩
      · rw [hg]
        by_cases ej : j = i
        · subst ej; rw [if_pos rfl]
        · rw [if_neg ej]
          exact ih.ln1 j (by omega) hdj
      · rw [hg, if_neg (fun ej => hn ⟨by omega, by rw [ej]; exact hd⟩)]
        exact ih.ln2 j (fun hh => hn ⟨by omega, hh.2⟩)
      · rw [hfl]
        exact List.mem_append_left _ (ih.sub b hb)
      · rw [hfl, send_late (by omega)] at hb
        rcases List.mem_append.1 hb with hb | hb
        · exact ih.new hF b hb
        · rw [List.mem_singleton] at hb
          subst hb
          exact .inr ⟨by show W.tk + 1 = _; rw [ih.tk], i, hd.1⟩
      · rw [hfl, send_late (by omega)]
        by_cases ej : j = i
        · subst ej
          exact ⟨kind, by rw [hi, ih.tk]; simp⟩
        · obtain ⟨kd, hk⟩ := ih.sent hF j (by omega) hdj
          exact ⟨kd, List.mem_append_left _ hk⟩
    · rw [line_no (fun h => hd (hdue.1 h))]
      have hlt : ∀ j, j < i + 1 → dueS w j → j < i := fun j hj hdj => by
        rcases Nat.lt_or_ge j i with h | h
        · exact h
        · exfalso
          apply hd
          rw [show i = j by omega]
          exact hdj
      refine ⟨ih.wt, ih.tk, ih.se, fun j hj hdj => ?_, fun j hn => ?_, ih.sub, ih.new, fun hF j hj hdj => ?_, fun ee => ?_⟩
      · exact ih.ln1 j (hlt j hj hdj) hdj
      · exact ih.ln2 j (fun hh => hn ⟨by omega, hh.2⟩)
      · exact ih.sent hF j (hlt j hj hdj) hdj
      · obtain ⟨a1, a2⟩ := ih.none ee
        refine ⟨a1, fun j hj => ?_⟩
        rcases Nat.lt_or_ge j i with h | h
        · exact a2 j h
        · rw [show j = i by omega]; exact hd
end

end Go.Proofs.Ytnigfddanoaonaa

set_option linter.unusedVariables false
set_option linter.unusedSimpArgs false
namespace Go.Proofs.Ytnigfddanoaonaa
open Go.RowKit

/-- A line that will send in the next tick. -/
def dueT (w : Wr) (j : Nat) : Prop := (w.ls.getD j Ln.none).q ≠ [] ∧ ((w.ls.getD j Ln.none).sn = 0 ∨ (w.ls.getD j Ln.none).sn + 4 ≤ w.tk + 1)
/-- A tick with nothing read and nothing removed. -/
structure StallT (n : Nat) (fates : List Int) (w w' : Wr) : Prop where
  tk : w'.tk = w.tk + 1
  se : w.se ≤ w'.se
  z : ∀ q b, cellT w'.wt q b ≤ 0
  ln1 : ∀ j, j < n → dueT w j → w'.ls.getD j Ln.none = { w.ls.getD j Ln.none with sn := w.tk + 1 }
  ln2 : ∀ j, ¬ (j < n ∧ dueT w j) → w'.ls.getD j Ln.none = w.ls.getD j Ln.none
  lett : ∀ b ∈ w.fl, b.2 = w.tk + 1 → ∀ j num kind, b.1 = .lett j num kind → num ≠ (w.ls.getD j Ln.none).ac + 1
  ack : ∀ b ∈ w.fl, b.2 = w.tk + 1 → ∀ j num, b.1 = .ack j num → ¬ ((w.ls.getD j Ln.none).rm < num ∧ (w.ls.getD j Ln.none).q ≠ [])
  new : fates.length ≤ w.se → ∀ b ∈ w'.fl, (b ∈ w.fl ∧ b.2 ≠ w.tk + 1) ∨ (b.2 = w.tk + 2 ∧ (∃ j num, b.1 = .ack j num) ∧ ∃ c ∈ w.fl, c.2 = w.tk + 1 ∧ ∃ j num kind, c.1 = .lett j num kind) ∨ ∃ j, (w.ls.getD j Ln.none).q ≠ []
  sentA : fates.length ≤ w.se → ∀ b ∈ w.fl, b.2 = w.tk + 1 → ∀ j num kind, b.1 = .lett j num kind → (Pk.ack j (w.ls.getD j Ln.none).ac, w.tk + 2) ∈ w'.fl
  sentL : fates.length ≤ w.se → ∀ j, j < n → dueT w j → ∃ kind, (Pk.lett j ((w.ls.getD j Ln.none).rm + 1) kind, w.tk + 2) ∈ w'.fl
  none : w'.se = w.se → (∀ b ∈ w'.fl, b ∈ w.fl ∧ b.2 ≠ w.tk + 1) ∧ ∀ j, j < n → ¬ dueT w j

section
variable {x : Nwk} {hs hc : Nat → List Int} {w : Wr} {fates : List Int}
theorem least_none {row : List Int} (h : leastS row = none) (b : Nat) : row.getD b 0 ≤ 0 := by
  unfold leastS at h
  rw [List.findIdx?_eq_none_iff] at h
  rcases hb : row[b]? with _ | z
  · rw [List.getD_eq_getElem?_getD, hb]; exact Int.le_refl _
  · rw [getD_some hb]
    have := h z (List.mem_of_getElem? hb)
    simpa using this
theorem HInv.stallT (hr : Right x) (h : HInv x hs [] w) {w' : Wr} (he : w' = (List.range (x.procs.length * x.procs.length)).foldl (fun w j => Go.Proofs.Ytnigfddanoaonaa.lineS fates j w) (arriveS x.procs.length fates { w with tk := w.tk + 1 }))
    (hn : ∀ p, p < x.procs.length → leastS ((arriveS x.procs.length fates { w with tk := w.tk + 1 }).wt.getD p []) = none) (hrm : ∀ j, rmS w' j ≤ rmS w j) : StallT (x.procs.length * x.procs.length) fates w w' := by
  have ha := h.arrive hr fates
  obtain ⟨A, hA⟩ : ∃ A, A = arriveS x.procs.length fates { w with tk := w.tk + 1 } := ⟨_, rfl⟩
  rw [← hA] at he hn ha
  have hz : ∀ q b, cellT A.wt q b ≤ 0 := fun q b => by
    unfold cellT
    rcases Nat.lt_or_ge q x.procs.length with hq | hq
    · exact least_none (hn q hq) b
    · rw [show A.wt.getD q [] = [] from by rw [List.getD_eq_getElem?_getD, List.getElem?_eq_none (by rw [ha.nwt]; exact hq)]; rfl]
      exact Int.le_refl _
  have hL := stallL (fates := fates) (w := A) (x.procs.length * x.procs.length)
  rw [← he] at hL
  have hle : LeW A w' := by
    rw [he]
    exact foldl_rel LeW.refl (fun _ _ _ => LeW.trans) (fun a y => lineS_le y a) _ _
  have h0 := h.tick0
  have hS : StallA fates (w.fl.filter fun a => a.2 == w.tk + 1) { w with tk := w.tk + 1, fl := w.fl.filter fun a => !(a.2 == w.tk + 1) } A := by
    have h1 := HInv.stallA (fates := fates) hr _ h0
    rw [show (w.fl.filter fun a => a.2 == w.tk + 1).foldl (fun w a => handleS x.procs.length fates a.1 w) { w with tk := w.tk + 1, fl := w.fl.filter fun a => !(a.2 == w.tk + 1) } = A from by rw [hA]; rfl] at h1
    exact h1 hz (fun j => Nat.le_trans (hle.1 j) (hrm j))
  have htk : A.tk = w.tk + 1 := hS.tk
  have hls : ∀ j, A.ls.getD j Ln.none = w.ls.getD j Ln.none := hS.ls
  have hdue : ∀ j, dueS A j ↔ dueT w j := fun j => by unfold dueS dueT; rw [hls, htk]
  have hs1 : w.se ≤ A.se := hS.se
  have hs2 := hL.se
  have hin : ∀ b ∈ w.fl, b.2 = w.tk + 1 → b ∈ w.fl.filter fun a => a.2 == w.tk + 1 := fun b hb e => List.mem_filter.2 ⟨hb, by simpa using e⟩
  have hout : ∀ b ∈ w.fl.filter (fun a => !(a.2 == w.tk + 1)), b ∈ w.fl ∧ b.2 ≠ w.tk + 1 := fun b hb => ⟨(List.mem_filter.1 hb).1, by have := (List.mem_filter.1 hb).2; simpa using this⟩
  refine ⟨by rw [hL.tk, htk], by omega, fun q b => by rw [hL.wt]; exact hz q b, fun j hj hd => ?_, fun j hd => ?_, fun b hb e => hS.lett b (hin b hb e), fun b hb e => hS.ack b (hin b hb e), fun hF b hb => ?_, fun hF b hb e j num kind e2 => ?_, fun hF j hj hd => ?_, fun e => ?_⟩
  · rw [hL.ln1 j hj ((hdue j).2 hd), hls, htk]
  · rw [hL.ln2 j (fun hh => hd ⟨hh.1, (hdue j).1 hh.2⟩), hls]
  · rcases hL.new (by omega) b hb with hb | ⟨_, j, hj⟩
    · rcases hS.new hF b hb with hb | ⟨b1, b2, c, hc, b3⟩
      · exact .inl (hout b hb)
      · obtain ⟨c1, c2⟩ := List.mem_filter.1 hc
        exact .inr (.inl ⟨b1, b2, c, c1, by simpa using c2, b3⟩)
    · exact .inr (.inr ⟨j, by rw [← hls]; exact hj⟩)
  · exact hL.sub _ (hS.sent hF b (hin b hb e) j num kind e2)
  · obtain ⟨kind, hk⟩ := hL.sent (by omega) j hj ((hdue j).2 hd)
    rw [hls, htk] at hk
    exact ⟨kind, hk⟩
  · obtain ⟨a1, a2⟩ := hL.none (by omega)
    obtain ⟨b1, b2⟩ := hS.none (show A.se = w.se by omega)
    refine ⟨fun b hb => ?_, fun j hj hd => a2 j hj ((hdue j).2 hd)⟩
    rw [a1, b1] at hb
    exact hout b hb
theorem busy_not {w : Wr} (h1 : w.fl = []) (h2 : ∀ j, (w.ls.getD j Ln.none).q = []) (h3 : ∀ q b, cellT w.wt q b = 0) : busyS w = false := by
  unfold busyS
  simp only [Bool.or_eq_false_iff, Bool.not_eq_false']
  refine ⟨⟨by rw [h1]; rfl, ?_⟩, ?_⟩
  · rw [List.any_eq_false]
    intro l hl
    obtain ⟨j, hj, rfl⟩ := List.mem_iff_getElem.1 hl
    have := h2 j
    rw [getD_some (List.getElem?_eq_getElem hj)] at this
    rw [this]
    simp
  · rw [List.any_eq_false]
    intro row hrow
    obtain ⟨q, hq, rfl⟩ := List.mem_iff_getElem.1 hrow
    rw [Bool.not_eq_true, List.any_eq_false]
    intro z hz
    obtain ⟨b, hb, rfl⟩ := List.mem_iff_getElem.1 hz
    have := h3 q b
    unfold cellT at this
    rw [getD_some (List.getElem?_eq_getElem hq), getD_some (List.getElem?_eq_getElem hb)] at this
    simpa using this
/-- Seven ticks with nothing read, nothing removed, no fate used: it is quiet. -/
theorem stall_quiet {W : Nat → Wr} {H : Nat → Nat → List Int} (hI : ∀ i, HInv x (H i) [] (W i)) (hS : ∀ i, i < 7 → StallT (x.procs.length * x.procs.length) fates (W i) (W (i + 1))) (hse : min (W 7).se fates.length = min (W 0).se fates.length) : busyS (W 7) = false := by
  have htk : ∀ i, i ≤ 7 → (W i).tk = (W 0).tk + i := fun i => by
    induction i with
    | zero => intro _; rfl
    | succ i ih =>
      intro hi
      rw [(hS i (by omega)).tk, ih (by omega)]
      omega
  have hln : ∀ i j, i < 7 → ((W (i + 1)).ls.getD j Ln.none).q = ((W i).ls.getD j Ln.none).q ∧ ((W (i + 1)).ls.getD j Ln.none).rm = ((W i).ls.getD j Ln.none).rm ∧ ((W (i + 1)).ls.getD j Ln.none).ac = ((W i).ls.getD j Ln.none).ac := fun i j hi => by
    by_cases hd : j < x.procs.length * x.procs.length ∧ dueT (W i) j
    · rw [(hS i hi).ln1 j hd.1 hd.2]
      exact ⟨rfl, rfl, rfl⟩
    · rw [(hS i hi).ln2 j hd]
      exact ⟨rfl, rfl, rfl⟩
  have hln0 : ∀ i j, i ≤ 7 → ((W i).ls.getD j Ln.none).q = ((W 0).ls.getD j Ln.none).q ∧ ((W i).ls.getD j Ln.none).rm = ((W 0).ls.getD j Ln.none).rm ∧ ((W i).ls.getD j Ln.none).ac = ((W 0).ls.getD j Ln.none).ac := fun i j => by
    induction i with
    | zero => intro _; exact ⟨rfl, rfl, rfl⟩
    | succ i ih =>
      intro hi
      obtain ⟨a1, a2, a3⟩ := ih (by omega)
      obtain ⟨b1, b2, b3⟩ := hln i j (by omega)
      exact ⟨b1.trans a1, b2.trans a2, b3.trans a3⟩
  have hsn : ∀ j, ((W 0).ls.getD j Ln.none).sn ≤ (W 0).tk := fun j => by
    have := (hI 0).sn 0 j
    unfold lnO at this
    rwa [Nat.zero_mul, Nat.zero_add] at this
  have hfar : ∀ i j, x.procs.length * x.procs.length ≤ j → ((W i).ls.getD j Ln.none).q = [] := fun i j hj => by
    rw [List.getD_eq_getElem?_getD, List.getElem?_eq_none (by rw [(hI i).nls]; exact hj)]
    rfl
  have hsemono : ∀ i, i ≤ 7 → (W 0).se ≤ (W i).se := fun i => by
    induction i with
    | zero => intro _; exact Nat.le_refl _
    | succ i ih => intro hi; have := ih (by omega); have := (hS i (by omega)).se; omega
  -- a line that is not empty is due by the fourth tick
  have hdue : ∀ j, j < x.procs.length * x.procs.length → ((W 0).ls.getD j Ln.none).q ≠ [] → ∃ s, s ≤ 3 ∧ dueT (W s) j := fun j hj hq => by
    by_cases d0 : dueT (W 0) j
    · exact ⟨0, by omega, d0⟩
    by_cases d1 : dueT (W 1) j
    · exact ⟨1, by omega, d1⟩
    by_cases d2 : dueT (W 2) j
    · exact ⟨2, by omega, d2⟩
    refine ⟨3, by omega, by rw [(hln0 3 j (by omega)).1]; exact hq, .inr ?_⟩
    rw [(hS 2 (by omega)).ln2 j (fun h => d2 h.2), (hS 1 (by omega)).ln2 j (fun h => d1 h.2), (hS 0 (by omega)).ln2 j (fun h => d0 h.2), htk 3 (by omega)]
    have := hsn j
    omega
  have hz : ∀ q b, cellT (W 7).wt q b = 0 := fun q b => by
    have h1 := (hS 6 (by omega)).z q b
    have h2 := (hI 7).w0 q b
    have h3 : cellT (W (6 + 1)).wt q b = cellT (W 7).wt q b := rfl
    omega
  rcases Nat.lt_or_ge (W 0).se fates.length with hA | hB
  · have h7 : (W 7).se = (W 0).se := by have := hsemono 7 (by omega); omega
    have hse2 : ∀ i, i < 7 → (W (i + 1)).se = (W i).se := fun i hi => by
      have m : ∀ k, i + 1 + k ≤ 7 → (W (i + 1)).se ≤ (W (i + 1 + k)).se := fun k => by
        induction k with
        | zero => intro _; exact Nat.le_refl _
        | succ k ih => intro hk; have := ih (by omega); have e : (W (i + 1 + k)).se ≤ (W (i + 1 + (k + 1))).se := (hS (i + 1 + k) (by omega)).se; omega
      have a1 := m (6 - i) (by omega)
      rw [show i + 1 + (6 - i) = 7 by omega] at a1
      have a2 := hsemono i (by omega)
      have a3 := (hS i hi).se
      omega
    have hq : ∀ j, ((W 0).ls.getD j Ln.none).q = [] := fun j => by
      rcases Nat.lt_or_ge j (x.procs.length * x.procs.length) with hj | hj
      · rcases hq : ((W 0).ls.getD j Ln.none).q with _ | ⟨a, r⟩
        · rfl
        · obtain ⟨s, hs, hd⟩ := hdue j hj (by rw [hq]; simp)
          exact absurd hd (((hS s (by omega)).none (hse2 s (by omega))).2 j hj)
      · exact hfar 0 j hj
    have hfl : ∀ i, i ≤ 7 → ∀ b ∈ (W i).fl, b ∈ (W 0).fl ∧ (W 0).tk + i < b.2 := fun i => by
      induction i with
      | zero => intro _ b hb; exact ⟨hb, ((hI 0).tm b hb).1⟩
      | succ i ih =>
        intro hi b hb
        obtain ⟨b1, b2⟩ := ((hS i (by omega)).none (hse2 i (by omega))).1 b hb
        obtain ⟨c1, c2⟩ := ih (by omega) b b1
        rw [htk i (by omega)] at b2
        exact ⟨c1, by omega⟩
    refine busy_not ?_ (fun j => by rw [(hln0 7 j (by omega)).1]; exact hq j) hz
    rw [List.eq_nil_iff_forall_not_mem]
    intro b hb
    obtain ⟨b1, b2⟩ := hfl 7 (by omega) b hb
    have := (hI 0).tm b b1
    omega
  · have hF : ∀ i, i ≤ 7 → fates.length ≤ (W i).se := fun i hi => Nat.le_trans hB (hsemono i hi)
    have hq : ∀ j, ((W 0).ls.getD j Ln.none).q = [] := fun j => by
      rcases Nat.lt_or_ge j (x.procs.length * x.procs.length) with hj | hj
      · rcases hq : ((W 0).ls.getD j Ln.none).q with _ | ⟨a, r⟩
        · rfl
        · exfalso
          have hq0 : ((W 0).ls.getD j Ln.none).q ≠ [] := by rw [hq]; simp
          obtain ⟨s, hs, hd⟩ := hdue j hj hq0
          obtain ⟨kind, hk⟩ := (hS s (by omega)).sentL (hF s (by omega)) j hj hd
          rw [(hln0 s j (by omega)).2.1] at hk
          have t1 := htk s (by omega)
          have t2 := htk (s + 1) (by omega)
          have t3 := htk (s + 2) (by omega)
          have h1 := (hS (s + 1) (by omega)).lett _ hk (by show (W s).tk + 2 = _; omega) _ _ _ rfl
          rw [(hln0 (s + 1) j (by omega)).2.2] at h1
          have h2 := (hS (s + 1) (by omega)).sentA (hF (s + 1) (by omega)) _ hk (by show (W s).tk + 2 = _; omega) _ _ _ rfl
          rw [(hln0 (s + 1) j (by omega)).2.2] at h2
          have h3 := (hS (s + 2) (by omega)).ack _ h2 (by show (W (s + 1)).tk + 2 = _; omega) _ _ rfl
          rw [(hln0 (s + 2) j (by omega)).2.1, (hln0 (s + 2) j (by omega)).1] at h3
          have hN0 : 0 < x.procs.length := by
            rcases Nat.eq_zero_or_pos x.procs.length with e | e
            · rw [e] at hj; simp at hj
            · exact e
          have hqq : j % x.procs.length < x.procs.length := Nat.mod_lt _ hN0
          have hpp : j / x.procs.length < x.procs.length := Nat.div_lt_of_lt_mul hj
          have hje : j = (j / x.procs.length) * x.procs.length + j % x.procs.length := by have := Nat.div_add_mod j x.procs.length; rw [Nat.mul_comm] at this; omega
          by_cases hne : j / x.procs.length = j % x.procs.length
          · have h5 := (hI 0).dg _ hpp
            unfold lnO at h5
            rw [show (j / x.procs.length) * x.procs.length + j / x.procs.length = j by rw [hne] at hje ⊢; omega] at h5
            rw [h5] at hq0
            exact hq0 rfl
          · obtain ⟨_, h5, _⟩ := (hI 0).ln _ _ hpp hqq hne
            unfold lnO at h5
            rw [← hje] at h5
            exact h3 ⟨by omega, hq0⟩
      · exact hfar 0 j hj
    have hq' : ∀ i, i ≤ 7 → ∀ j, ((W i).ls.getD j Ln.none).q = [] := fun i hi j => by rw [(hln0 i j hi).1]; exact hq j
    have hfl : ∀ i, i ≤ 7 → ∀ b ∈ (W i).fl, b.2 ≤ (W 0).tk + 6 ∨ ((∃ j num, b.1 = .ack j num) ∧ b.2 ≤ (W 0).tk + i + 1) := fun i => by
      induction i with
      | zero => intro _ b hb; exact .inl ((hI 0).tm b hb).2
      | succ i ih =>
        intro hi b hb
        have ti := htk i (by omega)
        rcases (hS i (by omega)).new (hF i (by omega)) b hb with ⟨b1, b2⟩ | ⟨b1, b2, _⟩ | ⟨j, hj⟩
        · rcases ih (by omega) b b1 with c | ⟨c1, c2⟩
          · exact .inl c
          · exact .inr ⟨c1, by omega⟩
        · exact .inr ⟨b2, by omega⟩
        · exact absurd (hq' i (by omega) j) hj
    refine busy_not ?_ (hq' 7 (by omega)) hz
    rw [List.eq_nil_iff_forall_not_mem]
    intro b hb
    have t6 := htk 6 (by omega)
    rcases (hS 6 (by omega)).new (hF 6 (by omega)) b hb with ⟨b1, b2⟩ | ⟨b1, b2, c, c1, c2, j, num, kind, c3⟩ | ⟨j, hj⟩
    · have b3 := ((hI 6).tm b b1).1
      rcases hfl 6 (by omega) b b1 with c | ⟨c1, c2⟩
      · omega
      · omega
    · rcases hfl 6 (by omega) c c1 with d | ⟨⟨j', num', d1⟩, d2⟩
      · omega
      · rw [d1] at c3
        cases c3
    · exact hj (hq' 6 (by omega) j)
end

end Go.Proofs.Ytnigfddanoaonaa

set_option linter.unusedVariables false
set_option linter.unusedSimpArgs false
namespace Go.Proofs.Ytnigfddanoaonaa
open Go.RowKit

/-- Letters are added, and no cell becomes large where the end is not. -/
def LgS (w w' : Wr) : Prop := (∀ q b, cellT w.wt q b ≤ cellT w'.wt q b) ∧ (w.lg = false → (∀ q b, cellT w'.wt q b ≤ 1000) → w'.lg = false)
theorem LgS.refl (w : Wr) : LgS w w := ⟨fun _ _ => Int.le_refl _, fun h _ => h⟩
theorem LgS.trans {a b c : Wr} (h : LgS a b) (g : LgS b c) : LgS a c := ⟨fun q k => Int.le_trans (h.1 q k) (g.1 q k), fun h0 hc => g.2 (h.2 h0 fun q k => Int.le_trans (g.1 q k) (hc q k)) hc⟩
theorem LgS.same {w w' : Wr} (h1 : w'.wt = w.wt) (h2 : w'.lg = w.lg) : LgS w w' := ⟨fun q b => by rw [h1]; exact Int.le_refl _, fun h _ => h2.trans h⟩
theorem bump_mono (t : List (List Int)) (p k q b : Nat) : cellT t q b ≤ cellT (bump t p k 1) q b := by
  unfold cellT bump
  rw [getD_set]
  split
  · rename_i e
    rw [getD_set, e.1]
    split
    · rename_i e2
      rw [e2.1]
      omega
    · exact Int.le_refl _
  · exact Int.le_refl _
theorem LgS.wait (p k : Nat) (w : Wr) : LgS w (waitS p k w) := by
  by_cases hp : p < w.wt.length ∧ k < (w.wt.getD p []).length
  · have hrow := List.getElem?_eq_getElem hp.1
    have hg := hp.2
    rw [getD_some hrow] at hg
    have hz := List.getElem?_eq_getElem hg
    refine ⟨bump_mono w.wt p k, fun h hc => ?_⟩
    have h1 := hc p k
    have h2 : cellT (waitS p k w).wt p k = cellT w.wt p k + 1 := by
      show cellT (bump w.wt p k 1) p k = _
      rw [cellT_bump hrow hz, if_pos ⟨rfl, rfl⟩]
    have h3 : (w.wt.getD p []).getD k 0 = cellT w.wt p k := rfl
    show (w.lg || decide (1048576 < (w.wt.getD p []).getD k 0 + 1)) = false
    rw [h, h3]
    simp
    omega
  · refine ⟨bump_mono w.wt p k, fun h hc => ?_⟩
    have h3 : (w.wt.getD p []).getD k 0 = 0 := by
      by_cases h1 : p < w.wt.length
      · rw [List.getD_eq_getElem?_getD (l := w.wt.getD p []), List.getElem?_eq_none (Nat.le_of_not_lt fun h2 => hp ⟨h1, h2⟩)]
        rfl
      · rw [show w.wt.getD p [] = [] from by rw [List.getD_eq_getElem?_getD, List.getElem?_eq_none (by omega)]; rfl]
        rfl
    show (w.lg || decide (1048576 < (w.wt.getD p []).getD k 0 + 1)) = false
    rw [h, h3]
    rfl
section
variable {N : Nat} {next : Nat → Int → Nat → Int} {sent : Nat → Int → Nat → List (Int × Int)} {fates : List Int}
theorem LgS.put (p : Nat) (y : Int × Int) (w : Wr) : LgS w (putS N p y w) := by
  unfold putS
  split
  · exact LgS.wait _ _ _
  · exact LgS.same rfl rfl
theorem LgS.handle (k : Pk) (w : Wr) : LgS w (handleS N fates k w) := by
  cases k with
  | ack l num => exact LgS.same rfl rfl
  | lett l num kind =>
    simp only [handleS]
    split
    · exact LgS.trans (LgS.trans (LgS.same (w' := { w with ls := w.ls.set l { w.ls.getD l Ln.none with ac := (w.ls.getD l Ln.none).ac + 1 } }) rfl rfl) (LgS.wait _ _ _)) (LgS.same rfl rfl)
    · exact LgS.same rfl rfl
theorem LgS.arrive (w : Wr) : LgS w (arriveS N fates w) := by
  unfold arriveS
  exact LgS.trans (b := { w with fl := w.fl.filter fun a => !(a.2 == w.tk) }) (LgS.same rfl rfl) (foldl_rel (β := Pk × Nat) LgS.refl (fun _ _ _ => LgS.trans) (fun a y => LgS.handle y.1 a) _ _)
theorem read_lg (p : Nat) (w : Wr) (h : w.lg = false) (hc : ∀ q b, cellT (readS N next sent p w).wt q b ≤ 1000) : (readS N next sent p w).lg = false := by
  unfold readS at hc ⊢
  split at hc
  · exact h
  · exact (foldl_rel LgS.refl (fun _ _ _ => LgS.trans) (fun a y => LgS.put p y a) _ _).2 h hc
theorem line_lg (j : Nat) (w : Wr) : (Go.Proofs.Ytnigfddanoaonaa.lineS fates j w).lg = w.lg := by
  unfold Go.Proofs.Ytnigfddanoaonaa.lineS
  split
  · rfl
  · split <;> rfl
theorem lines_lg : ∀ (l : List Nat) (w : Wr), (l.foldl (fun w j => Go.Proofs.Ytnigfddanoaonaa.lineS fates j w) w).lg = w.lg
  | [], w => rfl
  | j :: r, w => by rw [List.foldl_cons, lines_lg r, line_lg]
end
theorem seq_ex {α : Type} {P : Nat → α → Prop} {R : Nat → α → α → Prop} (a0 : α) (h0 : P 0 a0) (hs : ∀ t a, P t a → ∃ b, P (t + 1) b ∧ R t a b) : ∃ f : Nat → α, ∀ t, P t (f t) ∧ R t (f t) (f (t + 1)) := by
  let g : (t : Nat) → {a // P t a} := fun t => Nat.rec ⟨a0, h0⟩ (fun t a => ⟨Classical.choose (hs t a.1 a.2), (Classical.choose_spec (hs t a.1 a.2)).1⟩) t
  exact ⟨fun t => (g t).1, fun t => ⟨(g t).2, (Classical.choose_spec (hs t (g t).1 (g t).2)).2⟩⟩

section
variable {x : Nwk} {hs hc : Nat → List Int} {w : Wr} {fates : List Int}
theorem HInv.cell_le (hr : Right x) (hA : AbN x) {pend : List (Pk × Nat)} (h : HInv x hs pend w) (hI : InL x hc) (hC : Compl x hc) (hL : LeH x hs hc) (q b : Nat) : cellT w.wt q b ≤ totH x hc := by
  unfold cellT
  rcases Nat.lt_or_ge q x.procs.length with hq | hq
  · have hrow := List.getElem?_eq_getElem (show q < w.wt.length by rw [h.nwt]; exact hq)
    have hl := h.wl q _ hrow
    rcases Nat.lt_or_ge b (lettersP x.procs q) with hb | hb
    · exact h.wt_le hr hA hI hC hL hq hb
    · rw [getD_some hrow, List.getD_eq_getElem?_getD, List.getElem?_eq_none (by omega)]
      exact Int.natCast_nonneg _
  · rw [show w.wt.getD q [] = [] from by rw [List.getD_eq_getElem?_getD, List.getElem?_eq_none (by rw [h.nwt]; exact hq)]; rfl]
    exact Int.natCast_nonneg _
theorem HInv.reads_lg (hr : Right x) (hA : AbN x) (h : HInv x hs [] w) (hI : InL x hc) (hC : Compl x hc) (hL : LeH x hs hc) (hT : totH x hc ≤ 1000) (h0 : w.lg = false) : ∀ i, i ≤ x.procs.length → ((List.range i).foldl (fun w p => readS x.procs.length (nextP x.procs) (sentP x.procs) p w) w).lg = false
  | 0, _ => h0
  | i + 1, hi => by
    obtain ⟨h1, a1, a2, _, _⟩ := h.reads hr hA (i + 1) hi
    have ih := HInv.reads_lg hr hA h hI hC hL hT h0 i (by omega)
    rw [List.range_succ, List.foldl_append] at a1 ⊢
    simp only [List.foldl_cons, List.foldl_nil] at a1 ⊢
    refine read_lg i _ ih fun q b => ?_
    have := a1.cell_le hr hA hI hC (a2 hc hI hC hL) q b
    omega
theorem HInv.tick_lg (hr : Right x) (hA : AbN x) (h : HInv x hs [] w) (hI : InL x hc) (hC : Compl x hc) (hL : LeH x hs hc) (hT : totH x hc ≤ 1000) (h0 : w.lg = false) : (tickS x.procs.length (nextP x.procs) (sentP x.procs) fates w).lg = false := by
  have ha := h.arrive hr fates
  unfold tickS
  rw [lines_lg]
  refine HInv.reads_lg hr hA ha hI hC hL hT ?_ _ (Nat.le_refl _)
  refine (LgS.arrive _).2 h0 fun q b => ?_
  have := ha.cell_le hr hA hI hC hL q b
  omega
def wrT (x : Nwk) (fates : List Int) (t : Nat) : Wr := ticksS x.procs.length (nextP x.procs) (sentP x.procs) fates (beginS x.state x.waiting x.procs.length) t
/-- The histories behind each tick. -/
theorem wire_seq (hr : Right x) (hA : AbN x) (hI : InL x hc) (hC : Compl x hc) (hT : totH x hc ≤ 1000) (fates : List Int) : ∃ H : Nat → Nat → List Int, ∀ t, (HInv x (H t) [] (wrT x fates t) ∧ LeH x (H t) hc ∧ (wrT x fates t).lg = false ∧ ∀ h', InL x h' → Compl x h' → LeH x (H t) h') ∧
    totH x (H t) ≤ totH x (H (t + 1)) ∧ (totH x (H (t + 1)) = totH x (H t) → wrT x fates (t + 1) = (List.range (x.procs.length * x.procs.length)).foldl (fun w j => Go.Proofs.Ytnigfddanoaonaa.lineS fates j w) (arriveS x.procs.length fates { wrT x fates t with tk := (wrT x fates t).tk + 1 }) ∧ ∀ p, p < x.procs.length → leastS ((arriveS x.procs.length fates { wrT x fates t with tk := (wrT x fates t).tk + 1 }).wt.getD p []) = none) := by
  refine seq_ex (P := fun t h => HInv x h [] (wrT x fates t) ∧ LeH x h hc ∧ (wrT x fates t).lg = false ∧ ∀ h', InL x h' → Compl x h' → LeH x h h') (R := fun t h h' => totH x h ≤ totH x h' ∧ (totH x h' = totH x h → wrT x fates (t + 1) = (List.range (x.procs.length * x.procs.length)).foldl (fun w j => Go.Proofs.Ytnigfddanoaonaa.lineS fates j w) (arriveS x.procs.length fates { wrT x fates t with tk := (wrT x fates t).tk + 1 }) ∧ ∀ p, p < x.procs.length → leastS ((arriveS x.procs.length fates { wrT x fates t with tk := (wrT x fates t).tk + 1 }).wt.getD p []) = none)) (fun _ => []) ⟨HInv.begin_ hr, LeH.nil x hc, rfl, fun h' _ _ => LeH.nil x h'⟩ fun t h ⟨a1, a2, a3, a4⟩ => ?_
  obtain ⟨h1, b1, b2, b3, b4⟩ := a1.tick hr hA fates
  exact ⟨h1, ⟨b1, b2 hc hI hC a2, a1.tick_lg hr hA hI hC a2 hT a3, fun h' i c => b2 h' i c (a4 h' i c)⟩, b3, fun e => (b4 e).2⟩
/-- It is quiet soon. -/
theorem wire_soon (hr : Right x) (hA : AbN x) (hI : InL x hc) (hC : Compl x hc) (hT : totH x hc ≤ 200) (hf : fates.length ≤ 80) : ∃ t, t ≤ 3367 ∧ busyS (wrT x fates t) = false := by
  obtain ⟨H, hH⟩ := wire_seq hr hA hI hC (by omega) fates
  have h0 : ∀ q a, 0 ≤ cellT x.waiting q a := (HInv.begin_ hr).w0
  obtain ⟨P, hP⟩ : ∃ P : Nat → Nat, P = fun t => totH x (H t) + sumR x.procs.length (wrT x fates t) + min (wrT x fates t).se fates.length := ⟨_, rfl⟩
  have hle : ∀ t, LeW (wrT x fates t) (wrT x fates (t + 1)) := fun t => tickS_le _
  have hbound : ∀ t, P t ≤ 480 := fun t => by
    have h1 := (hH t).1.1.rm_le hr hA h0 hI hC (hH t).1.2.1
    have h2 := (hH t).1.2.1.tot
    rw [hP]
    show totH x (H t) + sumR x.procs.length (wrT x fates t) + min (wrT x fates t).se fates.length ≤ 480
    omega
  by_cases hex : ∃ t, t ≤ 3367 ∧ busyS (wrT x fates t) = false
  · exact hex
  · exfalso
    have hbusy : ∀ t, t ≤ 3367 → busyS (wrT x fates t) = true := fun t ht => by
      rcases hb : busyS (wrT x fates t) with _ | _
      · exact absurd ⟨t, ht, hb⟩ hex
      · rfl
    have hgrow : ∀ t, t + 7 ≤ 3367 → P t + 1 ≤ P (t + 7) := fun t ht => by
      rcases Nat.lt_or_ge (P t) (P (t + 7)) with hlt | hge
      · exact hlt
      · exfalso
        have mono : ∀ i, totH x (H t) ≤ totH x (H (t + i)) ∧ sumR x.procs.length (wrT x fates t) ≤ sumR x.procs.length (wrT x fates (t + i)) ∧ (wrT x fates t).se ≤ (wrT x fates (t + i)).se := fun i => by
          induction i with
          | zero => exact ⟨Nat.le_refl _, Nat.le_refl _, Nat.le_refl _⟩
          | succ i ih =>
            have e1 := (hH (t + i)).2.1
            have e2 := (hle (t + i)).sumR (N := x.procs.length)
            have e3 := (hle (t + i)).2
            exact ⟨Nat.le_trans ih.1 e1, Nat.le_trans ih.2.1 e2, Nat.le_trans ih.2.2 e3⟩
        have mono7 : ∀ i, i ≤ 7 → totH x (H (t + i)) ≤ totH x (H (t + 7)) ∧ sumR x.procs.length (wrT x fates (t + i)) ≤ sumR x.procs.length (wrT x fates (t + 7)) := fun i hi => by
          have aux : ∀ k s, totH x (H s) ≤ totH x (H (s + k)) ∧ sumR x.procs.length (wrT x fates s) ≤ sumR x.procs.length (wrT x fates (s + k)) := fun k s => by
            induction k with
            | zero => exact ⟨Nat.le_refl _, Nat.le_refl _⟩
            | succ k ih => exact ⟨Nat.le_trans ih.1 (hH (s + k)).2.1, Nat.le_trans ih.2 ((hle (s + k)).sumR (N := x.procs.length))⟩
          have := aux (7 - i) (t + i)
          rw [show t + i + (7 - i) = t + 7 by omega] at this
          exact this
        rw [hP] at hge
        have hge' : totH x (H (t + 7)) + sumR x.procs.length (wrT x fates (t + 7)) + min (wrT x fates (t + 7)).se fates.length ≤ totH x (H t) + sumR x.procs.length (wrT x fates t) + min (wrT x fates t).se fates.length := hge
        have m7 := mono 7
        have hq := stall_quiet (x := x) (fates := fates) (W := fun i => wrT x fates (t + i)) (H := fun i => H (t + i)) (fun i => (hH (t + i)).1.1) (fun i hi => by
          have a1 := mono i
          have a2 := mono7 (i + 1) (by omega)
          have a3 := mono (i + 1)
          have a4 := mono7 i (by omega)
          have e1 := (hH (t + i)).2.1
          have e2 := (hle (t + i)).sumR (N := x.procs.length)
          obtain ⟨b1, b2⟩ := (hH (t + i)).2.2 (by show totH x (H (t + (i + 1))) = _; omega)
          refine (hH (t + i)).1.1.stallT hr b1 b2 fun j => ?_
          rcases Nat.lt_or_ge j (x.procs.length * x.procs.length) with hj | hj
          · exact Nat.le_of_eq ((hle (t + i)).rm_eq (N := x.procs.length) (by show sumR x.procs.length (wrT x fates (t + (i + 1))) ≤ _; omega) hj).symm
          · unfold rmS
            rw [List.getD_eq_getElem?_getD, List.getElem?_eq_none (by have e := (hH (t + i + 1)).1.1.nls; show (wrT x fates (t + i + 1)).ls.length ≤ j; rw [e]; exact hj)]
            exact Nat.zero_le _) (by show min (wrT x fates (t + 7)).se fates.length = min (wrT x fates t).se fates.length; omega)
        have hb := hbusy (t + 7) ht
        rw [show busyS (wrT x fates (t + 7)) = false from hq] at hb
        cases hb
    have hk : ∀ k, k ≤ 481 → k ≤ P (7 * k) := fun k => by
      induction k with
      | zero => intro _; exact Nat.zero_le _
      | succ k ih =>
        intro hk
        have := hgrow (7 * k) (by omega)
        rw [show 7 * (k + 1) = 7 * k + 7 by omega]
        have := ih (by omega)
        omega
    have := hk 481 (by omega)
    have := hbound (7 * 481)
    omega
/-- Where it is quiet, the histories are complete, and the machine is a network behind some moves. -/
theorem HInv.hist (hr : Right x) (h : HInv x hs [] w) (hb : busyS w = false) : HistI x hs ⟨x.procs, w.st, w.wt⟩ w.ct ∧ movesS w.wt = [] := by
  obtain ⟨h1, h2, h3⟩ := busyS_no hb
  have hz : ∀ q b, cellT w.wt q b = 0 := fun q b => by
    have a1 := least_none (h3 q) b
    have a2 := h.w0 q b
    unfold cellT at a2 ⊢
    omega
  have hacc : ∀ q a, q < x.procs.length → accN x hs w q a = sentN x hs q a := fun q a hq => by
    unfold accN sentN
    refine sumN_eq fun p hp => ?_
    split
    · rename_i e; rw [e]
    · rename_i e
      obtain ⟨a1, a2, a3⟩ := h.ln p q hp hq e
      have a4 : (lnO x.procs.length w p q).q = [] := h2 _
      rw [a4] at a1
      have a5 := List.drop_eq_nil_iff.1 a1.symm
      rw [List.take_of_length_le (by omega), slist_count]
  refine ⟨⟨rfl, ⟨hr.n, hr.proc, hr.und, h.nst, fun i s p hi hpi => ?_, h.nwt, fun i t p hi hpi => ?_, fun t ht k hk => ?_⟩, h.inl, h.st, h.ct, fun q a hq ha => ?_⟩, ?_⟩
  · have hlt := (List.getElem?_eq_some_iff.1 hpi).1
    have e1 := h.st i hlt
    have hi' : w.st[i]? = some s := hi
    have hpi' : x.procs[i]? = some p := hpi
    rw [getD_some hi'] at e1
    have hs0 := hr.st0 hlt
    have := rdst_range hr hlt (hs i) _ hs0.1 hs0.2 (h.inl i hlt)
    unfold statesP at this
    rw [getD_some hpi'] at this
    rw [e1]
    unfold histR
    rw [getD_some hpi']
    exact this
  · have hlt := (List.getElem?_eq_some_iff.1 hpi).1
    have hpi' : x.procs[i]? = some p := hpi
    have e1 := h.wl i t hi
    have e2 := hr.let0 hlt
    rw [getD_some hpi'] at e2
    rw [e1, e2]
  · obtain ⟨q, hq, rfl⟩ := List.mem_iff_getElem.1 ht
    obtain ⟨b, hb, rfl⟩ := List.mem_iff_getElem.1 hk
    have := hz q b
    unfold cellT at this
    rw [getD_some (List.getElem?_eq_getElem hq), getD_some (List.getElem?_eq_getElem hb)] at this
    omega
  · have := h.wt q a hq ha
    rw [hacc q a hq] at this
    exact this
  · rcases hm : movesS w.wt with _ | ⟨m, r⟩
    · rfl
    · exfalso
      obtain ⟨l, z, m1, m2, m3⟩ := mem_moves (wt := w.wt) (m := m) (by rw [hm]; simp)
      have := hz m.1 m.2
      unfold cellT at this
      rw [getD_some m1, getD_some m2] at this
      omega
/-- Over any fates an abelian network that halts becomes quiet, with the end of its run. -/
theorem wire_agrees (hr : Right x) (hA : AbN x) (hw : ∀ t ∈ x.waiting, ∀ z ∈ t, z ≤ 40) (hf : fates.length ≤ 80) (picks : List Int) {y : Nwk} {ct : List (List Int)}
    (hrun : runX picks 200 0 x (x.procs.map fun p => List.replicate p.letters.toNat (0 : Int)) = some (y, ct)) :
    (∀ t, (wrT x fates t).lg = false) ∧ ∃ T, quietAt x.procs.length (nextP x.procs) (sentP x.procs) fates (beginS x.state x.waiting x.procs.length) 4096 = some T ∧ busyS (wrT x fates T) = false ∧
      y = ⟨x.procs, (wrT x fates T).st, (wrT x fates T).wt⟩ ∧ ct = (wrT x fates T).ct := by
  obtain ⟨hs, z, cz, h1, hb, h2, h3⟩ := runX_hist hr hA picks 200 0 _ x _ 40 (HistI.begin_ hr) hw (by omega)
  rw [totH_nil, Nat.zero_add] at h3
  rcases h3 with ⟨a1, a2, a3⟩ | ⟨a1, a2, a3⟩
  · rw [hrun] at a1
    injection a1 with a1
    injection a1 with e1 e2
    subst e1 e2
    have hC := h1.compl a2
    obtain ⟨H, hH⟩ := wire_seq hr hA h1.inl hC (by omega) fates
    obtain ⟨t, ht, hq⟩ := wire_soon (fates := fates) hr hA h1.inl hC a3 hf
    refine ⟨fun t => (hH t).1.2.2.1, ?_⟩
    rcases hQ : quietAt x.procs.length (nextP x.procs) (sentP x.procs) fates (beginS x.state x.waiting x.procs.length) 4096 with _ | T
    · exfalso
      unfold quietAt at hQ
      rw [List.find?_eq_none] at hQ
      have := hQ t (List.mem_range.2 (by omega))
      unfold wrT at hq
      rw [hq] at this
      simp at this
    · obtain ⟨_, hbT, _⟩ := quietAt_spec hQ
      have hI := (hH T).1.1
      obtain ⟨g1, g2⟩ := hI.hist hr hbT
      have := ends_same hr hA h1 g1 a2 g2 (h2 (H T) g1.inl (g1.compl g2) (LeH.nil x _)) ((hH T).1.2.2.2 hs h1.inl hC)
      exact ⟨T, rfl, hbT, this.1, this.2⟩
  · rw [hrun] at a1
    cases a1
end

end Go.Proofs.Ytnigfddanoaonaa

set_option linter.unusedVariables false
set_option linter.unusedSimpArgs false
namespace Go.Proofs.Ytnigfddanoaonaa
open Go.RowKit

theorem comm_ab {x : Nwk} (h : commP x.procs = true) (hr : Right x) : AbN x := fun i p hp => by
  unfold commP at h
  rw [List.all_eq_true] at h
  refine abel_yes (S := p.states) (L := p.letters) (rs := p.rules) (checkErr_more (hr.proc i p hp)) ?_
  unfold abelRes
  rw [if_pos (checkErr_more (hr.proc i p hp))]
  exact h p (List.mem_of_getElem? hp)

end Go.Proofs.Ytnigfddanoaonaa

set_option linter.unusedVariables false
set_option linter.unusedSimpArgs false
namespace Go.Proofs.Ytnigfddanoaonaa
open Go.RowKit

/-- A network in memory, by its lengths. -/
structure NetX (w : World) (y : Nwk) (oq : Option Addr) (np : Nat) (os : Option Addr) (ns : Nat) (ow : Option Addr) (nw : Nat) : Prop where
  np : np = y.procs.length
  ns : ns = y.state.length
  nw : nw = y.waiting.length
  p : SliceR prcR 3 All w oq y.procs
  s : SliceR intR 1 All w os y.state
  t : SliceR (slcR intR 1) 1 All w ow y.waiting
theorem NetX.below {w w' : World} {y : Nwk} {oq os ow : Option Addr} {np ns nw : Nat} (h : NetX w y oq np os ns ow nw) (hb : Below w.heap.size w w') : NetX w' y oq np os ns ow nw :=
  ⟨h.np, h.ns, h.nw, h.p.below prcR_ok hb, h.s.below intR_ok hb, h.t.below (slcR_ok intR_ok (by decide)) hb⟩
structure TabX (w : World) (ct : List (List Int)) (oc : Option Addr) (nc : Nat) : Prop where
  n : nc = ct.length
  t : SliceR (slcR intR 1) 1 All w oc ct
theorem TabX.below {w w' : World} {ct : List (List Int)} {oc : Option Addr} {nc : Nat} (h : TabX w ct oc nc) (hb : Below w.heap.size w w') : TabX w' ct oc nc := ⟨h.n, h.t.below (slcR_ok intR_ok (by decide)) hb⟩
theorem run_form4 {w w' : World} {e : Ending} {r : Option (Nwk × List (List Int))} (h : RunNet All w e w' r) : ∃ (oq : Option Addr) (np cq : Nat) (os : Option Addr) (ns cs : Nat) (ow : Option Addr) (nw cw : Nat) (oc : Option Addr) (nc cc : Nat) (er : Int),
    e = .returned (.tuple #[.agg #[.slice oq np cq, .slice os ns cs, .slice ow nw cw], .slice oc nc cc, .int .i64 er]) ∧ Below w.heap.size w w' ∧ (er = 12 ∨ er = 0 ∧ ∃ y ct, r = some (y, ct) ∧ NetX w' y oq np os ns ow nw ∧ TabX w' ct oc nc) := by
  cases r with
  | none =>
    obtain ⟨rfl, hb⟩ := h
    exact ⟨none, 0, 0, none, 0, 0, none, 0, 0, none, 0, 0, 12, rfl, hb, Or.inl rfl⟩
  | some p =>
    obtain ⟨y, ct⟩ := p
    obtain ⟨v, oc, cc, rfl, ⟨oq, cq, os, cs, ow, cw, rfl, _, _, _, hp, hs, ht⟩, hcc, hct, hb⟩ := h
    exact ⟨oq, _, cq, os, _, cs, ow, _, cw, oc, _, cc, 0, rfl, hb, Or.inr ⟨rfl, y, ct, rfl, ⟨rfl, rfl, rfl, hp, hs, ht⟩, ⟨rfl, hct⟩⟩⟩
theorem snap_net {w : World} {s : Snp} {y : Nwk} {oq os ow oc oq' os' ow' : Option Addr} {nq cq ns cs nw cw nc cc nq' cq' ns' cs' nw' cw' : Nat} {a b c d : Value}
    (h : SnapAt w (.agg #[.slice oq nq cq, .slice os ns cs, .slice ow nw cw, .slice oc nc cc, a, b, c, d]) s) (h' : NetX w y oq' nq' os' ns' ow' nw')
    (he : s.net = y) (hp2 : s.net.procs.length ≤ 9223372036854775807) (hs2 : s.net.state.length ≤ 9223372036854775807) (ht2 : s.net.waiting.length ≤ 9223372036854775807) :
    Calls Try.prog 9 #[.agg #[.slice oq nq cq, .slice os ns cs, .slice ow nw cw], .agg #[.slice oq' nq' cq', .slice os' ns' cs', .slice ow' nw' cw']] w (SameB true w) := by
  obtain ⟨_, _, _, _, _, _, _, _, e, _, _, _, _, h5, h6, h7, h8⟩ := h
  injection e with e
  simp at e
  obtain ⟨⟨rfl, rfl, rfl⟩, ⟨rfl, rfl, rfl⟩, ⟨rfl, rfl, rfl⟩, ⟨rfl, rfl, rfl⟩, _⟩ := e
  have := rsame55_any s.net y oq os ow oq' os' ow' cq cs cw cq' cs' cw' All All w h5 h6 h7 h'.p h'.s h'.t hp2 hs2 ht2
  rw [decide_eq_true he, ← h'.np, ← h'.ns, ← h'.nw] at this
  exact this
theorem snap_tab {w : World} {s : Snp} {ct : List (List Int)} {oq os ow oc oc' : Option Addr} {nq cq ns cs nw cw nc cc nc' cc' : Nat} {a b c d : Value}
    (h : SnapAt w (.agg #[.slice oq nq cq, .slice os ns cs, .slice ow nw cw, .slice oc nc cc, a, b, c, d]) s) (h' : TabX w ct oc' nc')
    (he : s.counts = ct) (hc2 : s.counts.length ≤ 9223372036854775807) :
    Calls Try.prog 10 #[.slice oc nc cc, .slice oc' nc' cc'] w (SameB true w) := by
  obtain ⟨rfl, h8⟩ := h.counts
  have := sameTables_any s.counts ct oc oc' cc cc' All All w h8 h'.t hc2
  rw [decide_eq_true he, ← h'.n] at this
  exact this.mono fun e w' h => h.below
/-- A snapshot that is quiet and has the end of the network's run. -/
structure SnapEq (w : World) (v : Value) (S : Snp) (y : Nwk) (ct : List (List Int)) : Prop where
  snap : SnapAt w v S
  net : S.net = y
  counts : S.counts = ct
  quiet : quietS S = true
  lp : S.net.procs.length ≤ 9223372036854775807
  ls : S.net.state.length ≤ 9223372036854775807
  lw : S.net.waiting.length ≤ 9223372036854775807
  lc : S.counts.length ≤ 9223372036854775807
set_option maxRecDepth 100000 in
theorem wagrees_run (ps : List Prc) (st : List Int) (wt : List (List Int)) (oa : Option Addr) (c : Nat) (ob : Option Addr) (e : Nat) (oc : Option Addr) (g : Nat) (fs : List Int) (oF : Option Addr) (cF : Nat) (u : World) (hn : NetIn u ps st wt oa c ob e oc g)
    (hF : SliceR intR 1 All u oF fs) (hs : SmallIn ⟨ps, st, wt⟩ fs) {y : Nwk} {ct : List (List Int)} (hrun : runX [0] 200 0 ⟨ps, st, wt⟩ (ps.map fun p => List.replicate p.letters.toNat (0 : Int)) = some (y, ct)) :
    Calls Try.prog 7 #[.agg #[.slice oa ps.length c, .slice ob st.length e, .slice oc wt.length g], .slice oF fs.length cF, .int .i64 4096] u fun r w' => ∃ v S, r = .returned (.tuple #[v, .int .i64 0]) ∧ SnapEq w' v S y ct ∧ Below u.heap.size u w' := by
  have hr := netErr_zero hs.net
  obtain ⟨hlg, T, hT, hb, hy, hc⟩ := wire_agrees (fates := fs) hr (comm_ab hs.comm hr) hs.few hs.f80 [0] hrun
  have hT2 := (quietAt_spec hT).1
  refine (wrun_any ⟨ps, st, wt⟩ oa c ob e oc g fs oF cF 4096 All All u hn.p hn.s hn.t hs.net hF hs.fate hn.pc hn.sc (by omega) (fun t ht => hlg t)).mono ?_
  rintro r w' ⟨v, k, rfl, hv, h3⟩
  rw [hT] at hv
  obtain ⟨rfl, hv⟩ := hv
  obtain ⟨a1, a2, a3⟩ := seen_len hr fs (t := T) hT2
  have h12 := hr.n.2
  simp only at h12
  refine ⟨v, _, rfl, ⟨hv.all, hy.symm, hc.symm, ?_, by show ps.length ≤ _; omega, by rw [a3]; simp only; omega, by rw [a1]; simp only; omega, by rw [a2]; simp only; omega⟩, h3⟩
  rw [quietS_seen, show busyS (wireAt ⟨ps, st, wt⟩ fs T) = false from hb]
  rfl

set_option maxRecDepth 100000 in
set_option maxHeartbeats 8000000 in
theorem wagrees_walk (w : World) (ps : List Prc) (st : List Int) (wt : List (List Int)) (oa : Option Addr) (c : Nat) (ob : Option Addr) (e : Nat) (oc : Option Addr) (g : Nat) (hn : NetIn w ps st wt oa c ob e oc g)
    (fs : List Int) (oF : Option Addr) (cF : Nat) (hcF : fs.length ≤ cF) (hF2 : fs.length ≤ 9223372036854775807) (hF : SliceR intR 1 All w oF fs) :
    Calls Try.prog 3 #[.agg #[.slice oa ps.length c, .slice ob st.length e, .slice oc wt.length g], .slice oF fs.length cF] w fun r w' => r = .returned (.bool true) ∧ Below w.heap.size w w' := by
  have HNI := hide hn
  have HF := hide hF
  obtain ⟨np, hnp⟩ : ∃ n, n = ps.length := ⟨_, rfl⟩
  obtain ⟨ns, hns⟩ : ∃ n, n = st.length := ⟨_, rfl⟩
  obtain ⟨nw, hnw⟩ : ∃ n, n = wt.length := ⟨_, rfl⟩
  obtain ⟨nf, hnf⟩ : ∃ n, n = fs.length := ⟨_, rfl⟩
  obtain ⟨R, hR⟩ : ∃ R, R = runX [0] 200 0 ⟨ps, st, wt⟩ (ps.map fun p => List.replicate p.letters.toNat (0 : Int)) := ⟨_, rfl⟩
  have HNX : Hid (∀ u, Below w.heap.size w u → NetIn u ps st wt oa c ob e oc g) := fun u h => ⟨HNI.out.pc, HNI.out.sc, HNI.out.wc, HNI.out.pl, HNI.out.sl, HNI.out.wl, HNI.out.p.below prcR_ok h, HNI.out.s.below intR_ok h, HNI.out.t.below tabR_ok h⟩
  have HSM : Hid (∀ u, Below w.heap.size w u → Calls Try.prog 4 #[.agg #[.slice oa ps.length c, .slice ob st.length e, .slice oc wt.length g], .slice oF fs.length cF] u fun r w' => ∃ b, r = .returned (.bool b) ∧ (b = true → SmallIn ⟨ps, st, wt⟩ fs) ∧ Below u.heap.size u w') := fun u h =>
    small56_any u ps st wt oa c ob e oc g (HNX.out u h) fs oF cF hF2 (HF.out.below intR_ok h)
  have HRUN : Hid (SmallIn ⟨ps, st, wt⟩ fs → ∀ y ct, R = some (y, ct) → ∀ u, Below w.heap.size w u → Calls Try.prog 7 #[.agg #[.slice oa ps.length c, .slice ob st.length e, .slice oc wt.length g], .slice oF fs.length cF, .int .i64 4096] u fun r w' => ∃ v S, r = .returned (.tuple #[v, .int .i64 0]) ∧ SnapEq w' v S y ct ∧ Below u.heap.size u w') := fun hs y ct hrun u h =>
    wagrees_run ps st wt oa c ob e oc g fs oF cF u (HNX.out u h) (HF.out.below intR_ok h) hs (by rw [← hR]; exact hrun)
  have HNR : Hid (SmallIn ⟨ps, st, wt⟩ fs → ∀ u, Below w.heap.size w u → Calls Try.prog 6 #[.agg #[.slice oa ps.length c, .slice ob st.length e, .slice oc wt.length g], .slice (some ⟨u.heap.size, 0, none⟩) 1 1, .int .i64 200] (u.alloc (.cells #[.int .i64 0] 3)) fun r w' => RunNet All (u.alloc (.cells #[.int .i64 0] 3)) r w' R) := fun hs u hu => by
    have hu1 := hu.trans ((bnew (Below.refl u.heap.size u) (.cells #[.int .i64 0] 3)).mono hu.size)
    have hlit : SliceR intR 1 All (u.alloc (.cells #[.int .i64 0] 3)) (some ⟨u.heap.size, 0, none⟩) [(0 : Int)] := by
      have := ints_lit (F := All) (G := All) u 3 [(0 : Int)] (by intro z hz; simp at hz; subst hz; exact ⟨by decide, by decide⟩) trivial
      simpa using this
    have := nrun_any ⟨ps, st, wt⟩ oa c ob e oc g [0] (some ⟨u.heap.size, 0, none⟩) 1 200 All (u.alloc (.cells #[.int .i64 0] 3)) (HNI.out.p.below prcR_ok hu1) (HNI.out.s.below intR_ok hu1) (HNI.out.t.below (slcR_ok intR_ok (by decide)) hu1) hs.net hlit (by decide) (by decide) (by omega) hs.few
    rw [hR]
    exact this
  rw [← hnp, ← hns, ← hnw, ← hnf] at HSM HRUN
  rw [← hnp, ← hns, ← hnw] at HNR
  rw [← hnp, ← hns, ← hnw, ← hnf]
  have hb := bnew (Below.refl w.heap.size w) (.cells #[.slice oa np c, .slice ob ns e, .slice oc nw g] 26)
  have bxx := Box.new w [.slice oa np c, .slice ob ns e, .slice oc nw g] 26
  clear hn hF hF2 hcF hnp hns hnw hnf hR
  go_enter Try.func3, Try.ntmps3
  go_wp2_with fail
  refine (HSM.out _ hb).mono ?_
  rintro r w2 ⟨b, rfl, hsm, h2⟩
  have bxx := bxx.below h2
  have hb := below_then hb h2
  clear h2
  have d0 := bxx.cell 0
  have d1 := bxx.cell 1
  have d2 := bxx.cell 2
  simp only [List.getElem?_cons_zero, List.getElem?_cons_succ] at d0 d1 d2
  cases b
  · clear hsm
    go_wp2_with fail
    refine (awake56_any _).mono ?_
    rintro r w9 ⟨rfl, h9⟩
    go_wp2_with fail
    go_ret
    exact ⟨rfl, below_then hb h9⟩
  have HRUN := hide (HRUN.out (hsm rfl))
  have HNR := hide (HNR.out (hsm rfl))
  clear hsm
  go_wp2_with fail
  refine (HNR.out _ hb).mono ?_
  intro r w7 h7
  obtain ⟨oq1, np1, cq1, os1, ns1, cs1, ow1, nw1, cw1, oc1, nc1, cc1, er, rfl, hb7, her⟩ := run_form4 h7
  have hbb7 : Below w2.heap.size w2 w7 := (bnew (Below.refl _ _) _).trans (hb7.mono (by rw [alloc_size']; omega))
  obtain ⟨W8, e8⟩ : ∃ W8, w7.alloc (.cells #[.slice oq1 np1 cq1, .slice os1 ns1 cs1, .slice ow1 nw1 cw1] 26) = W8 := ⟨_, rfl⟩
  have hb8 : Below w7.heap.size w7 W8 := by rw [← e8]; exact bnew (Below.refl _ _) _
  have bxy : Box W8 w7.heap.size [.slice oq1 np1 cq1, .slice os1 ns1 cs1, .slice ow1 nw1 cw1] 26 := by rw [← e8]; exact Box.new w7 [.slice oq1 np1 cq1, .slice os1 ns1 cs1, .slice ow1 nw1 cw1] 26
  have bxx := (bxx.below hbb7).below hb8
  have hb := below_then (below_then hb hbb7) hb8
  clear d0 d1 d2
  have d0 := bxx.cell 0
  have d1 := bxx.cell 1
  have d2 := bxx.cell 2
  simp only [List.getElem?_cons_zero, List.getElem?_cons_succ] at d0 d1 d2
  rcases her with rfl | ⟨rfl, y, ct, hy, hyx, hcx⟩
  · clear h7 hb7 hbb7 hb8 bxy bxx
    go_wp2_with fail
    refine (awake56_any _).mono ?_
    rintro r w9 ⟨rfl, h9⟩
    go_wp2_with fail
    go_ret
    exact ⟨rfl, below_then hb h9⟩
  have HYX := hide (hyx.below hb8)
  have HCX := hide (hcx.below hb8)
  have HRUN := hide (HRUN.out y ct hy)
  have HBY := hide bxy
  clear h7 hb7 hbb7 hb8 bxy bxx hy hyx hcx
  go_wp2_with fail
  refine (HRUN.out _ hb).mono ?_
  rintro r w9 ⟨v, S, rfl, hS, h9⟩
  obtain ⟨oq0, nq0, cq0, os0, ns0, cs0, ow0, nw0, cw0, oc0, nc0, cc0, rfl⟩ := hS.snap.form
  obtain ⟨W10, e10⟩ : ∃ W', w9.alloc (.cells #[.slice oq0 nq0 cq0, .slice os0 ns0 cs0, .slice ow0 nw0 cw0, .slice oc0 nc0 cc0, .int .i64 S.ticks, .int .i64 S.sent, .int .i64 S.flying, .int .i64 S.queued] 33) = W' := ⟨_, rfl⟩
  have bx0 : Box W10 w9.heap.size [.slice oq0 nq0 cq0, .slice os0 ns0 cs0, .slice ow0 nw0 cw0, .slice oc0 nc0 cc0, .int .i64 S.ticks, .int .i64 S.sent, .int .i64 S.flying, .int .i64 S.queued] 33 := by rw [← e10]; exact Box.new w9 [.slice oq0 nq0 cq0, .slice os0 ns0 cs0, .slice ow0 nw0 cw0, .slice oc0 nc0 cc0, .int .i64 S.ticks, .int .i64 S.sent, .int .i64 S.flying, .int .i64 S.queued] 33
  have hn10 := bnew (Below.refl w9.heap.size w9) (.cells #[.slice oq0 nq0 cq0, .slice os0 ns0 cs0, .slice ow0 nw0 cw0, .slice oc0 nc0 cc0, .int .i64 S.ticks, .int .i64 S.sent, .int .i64 S.flying, .int .i64 S.queued] 33)
  rw [e10] at hn10
  have sn0 := hS.snap.below hn10
  have bxy := (HBY.out.below h9).below hn10
  have HYX := hide ((HYX.out.below h9).below hn10)
  have HCX := hide ((HCX.out.below h9).below hn10)
  have hb := below_then (below_then hb h9) hn10
  have HSN := hide hS.net
  have HSC := hide hS.counts
  have HLP := hide hS.lp
  have HLS := hide hS.ls
  have HLW := hide hS.lw
  have HLC := hide hS.lc
  have HQC := hide (quiet_any _ S W10 sn0 hS.lw)
  rw [hS.quiet] at HQC
  clear d0 d1 d2
  have y0 := bxy.cell 0
  have y1 := bxy.cell 1
  have y2 := bxy.cell 2
  simp only [List.getElem?_cons_zero, List.getElem?_cons_succ] at y0 y1 y2
  have s0 := bx0.cell 0
  have s1 := bx0.cell 1
  have s2 := bx0.cell 2
  have s3 := bx0.cell 3
  have s4 := bx0.cell 4
  have s5 := bx0.cell 5
  have s6 := bx0.cell 6
  have s7 := bx0.cell 7
  simp only [List.getElem?_cons_zero, List.getElem?_cons_succ] at s0 s1 s2 s3 s4 s5 s6 s7
  have HN0 := hide sn0
  have HBY := hide bxy
  have HBS := hide bx0
  clear hS h9 hn10 sn0 bxy bx0
  go_wp2_with fail
  refine HQC.out.mono ?_
  rintro r w11 ⟨rfl, h11⟩
  clear s0 s1 s2 s3 s4 s5 s6 s7 y0 y1 y2
  have bxy := HBY.out.below h11
  have bx0 := HBS.out.below h11
  have HN0 := hide (HN0.out.below h11)
  have HYX := hide (HYX.out.below h11)
  have HCX := hide (HCX.out.below h11)
  have hb := below_then hb h11
  have y0 := bxy.cell 0
  have y1 := bxy.cell 1
  have y2 := bxy.cell 2
  simp only [List.getElem?_cons_zero, List.getElem?_cons_succ] at y0 y1 y2
  have s0 := bx0.cell 0
  have s1 := bx0.cell 1
  have s2 := bx0.cell 2
  have s3 := bx0.cell 3
  simp only [List.getElem?_cons_zero, List.getElem?_cons_succ] at s0 s1 s2 s3
  have HSD := hide (snap_net (cq' := cq1) (cs' := cs1) (cw' := cw1) HN0.out HYX.out HSN.out HLP.out HLS.out HLW.out)
  have HBS := hide bx0
  clear h11 bxy bx0
  go_wp2_with fail
  refine HSD.out.mono ?_
  rintro r w12 ⟨rfl, h12⟩
  clear s0 s1 s2 s3 y0 y1 y2
  have bx0 := HBS.out.below h12
  have HN0 := hide (HN0.out.below h12)
  have HCX := hide (HCX.out.below h12)
  have hb := below_then hb h12
  have s3 := bx0.cell 3
  simp only [List.getElem?_cons_zero, List.getElem?_cons_succ] at s3
  have HTC := hide (snap_tab (cc' := cc1) HN0.out HCX.out HSC.out HLC.out)
  clear h12 bx0
  go_wp2_with fail
  refine HTC.out.mono ?_
  rintro r w13 ⟨rfl, h13⟩
  have hb := below_then hb h13
  clear s3 h13
  go_wp2_with fail
  refine (awake56_any _).mono ?_
  rintro r w14 ⟨rfl, h14⟩
  go_wp2_with fail
  go_ret
  exact ⟨rfl, below_then hb h14⟩

end Go.Proofs.Ytnigfddanoaonaa

set_option linter.unusedVariables false
namespace Go.Proofs.Ytnigfddanoaonaa
open Go.RowKit Go.ChangeShapes Go.WideShapes Go.ChangeAt Go.Deep

set_option maxRecDepth 100000 in
theorem wireAgrees_lifted (os : Os) (started : os.Started) (H : Type) (enc : TypeId × Value → H) :
    ReturnsInHanded {} Try.checked os 3 .any (Rows.wireAgreesSpec.pre6 enc Try.prog Try.f3 Rows.wireAgreesRow.domain false) (Rows.wireAgreesSpec.post enc Try.prog Try.f3 false true false false) := by
  refine returnsInHanded_of_change (C := Try.checked) own_knob started (by kernel_rfl) Try.func3
    (ChangeSpec.witness6 (enc := enc) (C := Try.checked) false ⟨#[], #[.agg #[.slice none 0 0, .slice none 0 0, .slice none 0 0], .slice none 0 0], []⟩ 8 (by kernel_rfl) (by kernel_rfl) (by kernel_rfl) (by kernel_rfl)) ?_
  intro W base args ds gs before hval0 hW _ _
  have hval : ∀ (j : Nat) t v, Try.f3.params[j]? = some t → args[j]? = some v → Value.okWide Try.prog W .any base t v := hval0
  have hW' := hW
  obtain ⟨p, q, hA0, hV, rfl, _, _⟩ := hW
  have hA : DataW.TrodAll enc Try.prog W 0 (fun _ => true) true Try.f3.params.toList args.toList ds p := hA0
  rw [Try.params3] at hA hval
  obtain ⟨v0, v1, d0, d1, p0, p1, rfl, rfl, rfl, h0, h1⟩ := trodAll_two hA
  obtain ⟨rfl, rfl⟩ := trodVars_none hV
  have h0k := h0
  have h1k := h1
  obtain ⟨ps0, st0, wt0, oa0, c0, ob0, e0, oc0, g0, rfl, hn0⟩ := open_net (hval 0 26 v0 rfl rfl) h0
  obtain ⟨xs1, oa1, c1, rfl, hc1, hd1, hs1⟩ := open_is (hval 1 23 v1 rfl rfl) h1
  clear hA0 hval0
  simp only [List.append_nil] at hW'
  have hlt0 : ∀ y ∈ p0, y.block < W.heap.size := fun y hy => by simpa using hW'.lt y (by simp [hy])
  have hlt1 : ∀ y ∈ p1, y.block < W.heap.size := fun y hy => by simpa using hW'.lt y (by simp [hy])
  refine (wagrees_walk W ps0 st0 wt0 oa0 c0 ob0 e0 oc0 g0 hn0 xs1 oa1 c1 hc1 hd1 hs1).mono fun e W' ⟨he, hn⟩ => ?_
  subst he
  exact ⟨_, rfl, _, _, _, [], _, [], hW', trodAll_mk1 (shut_bool Try.underlying4 true), trodAll_mk2 (Below.trod laid_out (by kernel_rfl) (of_decide_eq_true (by kernel_rfl)) h0k hn hlt0) (Below.trod laid_out (by kernel_rfl) (of_decide_eq_true (by kernel_rfl)) h1k hn hlt1), rfl, hn.frame _, fun h => by cases h⟩

theorem wireAgrees_holds : Rows.WireAgreesSaid :=
  OpenClaim.holds_of_wide 3 Try.f3 rfl rfl rfl rfl rfl rfl rfl ⟨rfl, rfl, rfl, rfl, rfl⟩ rfl rfl rfl rfl rfl (by kernel_rfl) Try.func3 (by kernel_rfl)
    (of_decide_eq_true (by kernel_rfl)) (by unfold Func.isWrapper; first | (rw [if_pos (by decide +kernel)]; kernel_rfl) | (rw [if_neg (by decide +kernel)]; exact ⟨rfl, rfl⟩))
    (fun os started H enc _ => wireAgrees_lifted os started H enc)

#print axioms wireAgrees_holds
end Go.Proofs.Ytnigfddanoaonaa

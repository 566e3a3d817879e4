/-
  The wire machine: the packets of a tick arrive: what is needed of the lists.
  A slice of the call's own whose elements are lists of integers of the call's own, no two in one block. No program is named here.
  The wire machine: a processor reads a letter.
  A network that runs, in memory: make, a move.
  Networks that run, in plain Lean: a move keeps a network right; a run by picks.
  network.Moves, network.counted.
  Networks of abelian processors, in plain Lean: histories (what each processor has read), what was sent by them, and the least action.
  network.Complete.
  Results of which the first is a row of cells.
  Comparing pairs: cmp.Compare, cmp.Or, (pair).compare; vertices.
  Check of graphs: the program and the reference.
  graph.at, graph.joined, slices.BinarySearchFunc at the edges of a graph, graph.Between.
  slices.Repeat of a list of one output; copy between places of a row of elements of several cells.
  network.sink, waiting, toppler: the processors of a sandpile.
-/
import Derived.Test.YtnigfddanoaonaaGreatNo2
import Derived.Laws.OwnMore
import Derived.Maps.AppendAt
import Derived.Maps.OwnOps
import Derived.OneCell
import Derived.Deep.RegionLaw
import Derived.Lib.SmallJoins
import Derived.Deep.AppendLies
import Derived.BigRegion
import Derived.BigQuiet
import Derived.Deep.DeepCutAuto
import Derived.Laws.ResultCell
import Derived.Test.YtnigfddanoaonaaGreatProg
import Derived.Deep.RegionHeld3
import Derived.StillTailTactics

set_option linter.unusedVariables false
set_option linter.unusedSimpArgs false
set_option linter.unnecessarySimpa false
namespace Go.Proofs.YtnigfddanoaonaaGreat
open Go.RowKit

section
variable {B N : Nat} {L : WLay} {oP : Option Addr} {cP : Nat} {oF : Option Addr} {nF cF : Nat} {S : Wr} {W W' : World}
variable {m : Nat → Nat} {ns : Nat → Int} {X M K A T : Int} {pend : List (Pk × Nat)}

end

end Go.Proofs.YtnigfddanoaonaaGreat

set_option linter.unusedVariables false
set_option linter.unusedSimpArgs false
namespace Go.Proofs.YtnigfddanoaonaaGreat
open Go.RowKit

/-- ov holds the headers vs (elements of type lt) of the lists xss (of elements of type e). -/
structure Lists (base : Nat) (e lt : TypeId) (w : World) (ov : Value) (vs : List Value) (xss : List (List Int)) : Prop where
  row : w.ownsRow base lt 1 ov vs.length vs
  ms : OwnM base e w vs xss
  off : ∀ (i : Nat) (v : Value) (k : Nat), vs[i]? = some v → v.ownBlock = some k → ov.ownBlock ≠ some k

section
variable {base : Nat} {e lt : TypeId} {w w' : World} {ov : Value} {vs : List Value} {xss : List (List Int)}
theorem Lists.nil (base : Nat) (e lt : TypeId) (w : World) : Lists base e lt w (.slice none 0 0) [] [] :=
  ⟨World.ownsRow_nil _ _ _ _, OwnM.nils 0, fun i v k h => by simp at h⟩
theorem Lists.len (h : Lists base e lt w ov vs xss) : vs.length = xss.length := h.ms.len
theorem Lists.below (h : Lists base e lt w ov vs xss) (hb : Below w.heap.size w w') : Lists base e lt w' ov vs xss := by
  refine ⟨h.row.kept (row := none) ⟨hb.os, hb.tape, hb.output, hb.size, fun k hk _ => hb.block k hk⟩ ?_, h.ms.below hb, h.off⟩
  cases ov.ownBlock <;> simp
theorem Lists.new (h : Lists base e lt w ov vs xss) (o : Obj) : Lists base e lt (w.alloc o) ov vs xss := h.below (bnew (Below.refl _ _) o)
theorem Lists.draw (h : Lists base e lt w ov vs xss) : Lists base e lt w.drew ov vs xss := ⟨h.row.drew, h.ms.draw, h.off⟩
/-- A change in blocks that are not theirs. -/
theorem Lists.under (h : Lists base e lt w ov vs xss) {k : Nat} (hg : w.grownBy w' (some k)) (hk : k < base) : Lists base e lt w' ov vs xss := by
  refine ⟨h.row.kept hg ?_, h.ms.keep fun i v g h1 hgv => hg.block g (h.ms.block h1 g hgv).2 ?_, h.off⟩
  · refine .inr fun he => ?_
    have := (h.row.lt k he).1
    omega
  · intro he
    injection he with he
    have := (h.ms.block h1 g hgv).1
    omega
/-- One more list, empty: 'out = append(out, nil)'. -/
theorem Lists.snoc (h : Lists base e lt w ov vs xss) {o : Obj} {ov' : Value} (hr : w'.ownsRow base lt 1 ov' (vs.length + 1) (vs ++ [.slice none 0 0])) (hg : (w.alloc o).grownBy w' ov.ownBlock)
    (hat : ov'.ownBlock = ov.ownBlock ∨ ov'.ownBlock = some (w.alloc o).heap.size) : Lists base e lt w' ov' (vs ++ [.slice none 0 0]) (xss ++ [[]]) := by
  have hnew : ∀ (i : Nat) (v : Value) (k : Nat), (vs ++ [.slice none 0 0])[i]? = some v → v.ownBlock = some k → vs[i]? = some v := fun i v k hi hk => by
    rcases Nat.lt_or_ge i vs.length with hj | hj
    · rw [List.getElem?_append_left hj] at hi; exact hi
    · rw [List.getElem?_append_right hj] at hi
      have hm := List.mem_of_getElem? hi
      simp at hm
      subst hm
      simp [Value.ownBlock] at hk
  refine ⟨by rw [List.length_append]; exact hr, ((h.ms.new o).keep fun i v g h1 hgv => hg.block g ?_ fun he => h.off i v g h1 hgv he.symm).snoc, fun i v k hi hk he => ?_⟩
  · have := (h.ms.block h1 g hgv).2; simp; omega
  · have h1 := hnew i v k hi hk
    rcases hat with ha | ha
    · exact h.off i v k h1 hk (ha ▸ he)
    · rw [ha] at he
      injection he with he
      have := (h.ms.block h1 k hk).2
      simp at he
      omega
/-- List i has grown, and its header was stored: 'out[i] = append(out[i], x)'. -/
theorem Lists.grow {g cap : Nat} (h : Lists base e lt w (.slice (some ⟨g, 0, none⟩) vs.length cap) vs xss) {i : Nat} {v v' : Value} {xs : List Int} {x : Int} {o : Obj} (hi : vs[i]? = some v) (hx : xss[i]? = some xs)
    (ho : OwnN base e w' v' (xs ++ [x])) (hg : (w.alloc o).grownBy w' v.ownBlock) (hv : ∀ k, v'.ownBlock = some k → v.ownBlock = some k ∨ (w.alloc o).heap.size ≤ k) :
    Lists base e lt (w'.setCell ⟨g, i, none⟩ v') (.slice (some ⟨g, 0, none⟩) (vs.set i v').length cap) (vs.set i v') (xss.set i (xs ++ [x])) := by
  have hgl := (h.row.lt g rfl).2
  have hng : v.ownBlock ≠ some g := fun he => h.off i v g hi he rfl
  have hng' : v'.ownBlock ≠ some g := fun he => by
    rcases hv g he with h1 | h1
    · exact hng h1
    · simp at h1; omega
  have hrow : w'.ownsRow base lt 1 (.slice (some ⟨g, 0, none⟩) vs.length cap) vs.length vs := (h.row.alloc o).kept hg (.inr fun he => hng he.symm)
  have hms := h.ms.grow hi hx ho hg hv
  have hoff : ∀ (j : Nat) (u : Value) (k : Nat), (vs.set i v')[j]? = some u → u.ownBlock = some k → k ≠ g := fun j u k hu hk he => by
    subst he
    by_cases e1 : i = j
    · subst e1
      rw [List.getElem?_set_self (List.getElem?_eq_some_iff.1 hi).1] at hu
      injection hu with hu
      subst hu
      exact hng' hk
    · rw [List.getElem?_set_ne e1] at hu
      exact h.off j u k hu hk rfl
  refine ⟨by rw [List.length_set]; exact (hrow.stored i v').1, hms.keep fun j u k hu hk => Below.heap_setCell _ _ _ _ ?_, fun j u k hu hk he => hoff j u k hu hk ?_⟩
  · exact hoff j u k hu hk
  · simp [Value.ownBlock] at he; exact he.symm
end

/-- 'append(v, x)' as one step of a region that draws its order. -/
theorem step_append_n {P : Program} {ops : Array Oper} {o : Oper} {a : Act} {w : World} {K : Act → World → Prop} {Q : Exit → Act → World → Prop} {E : Prop} (hgd : o.guard = none) (s y : Operand) (t : TypeId)
    (ho : o.op = .call { callee := .builtin .append, args := #[s, y], argTypes := #[t, t] })
    (base : Nat) (e : TypeId) (z : Value) (ht : P.underlying t = some (.slice e)) (hinfo : (P.info? e).map (fun i => (i.zero, i.size, i.bytes)) = some (some z, 1, 8))
    (hzs : z.cells.size = 1) (v : Value) (xs : List Int) (hs : a.eval s = v) (hown : OwnN base e w v xs)
    (ad : Addr) (c : Nat) (x : Int) (hy : a.eval y = .slice (some ad) 1 c) (hx : w.cell? (ad.add 0) = some (.int .i64 x)) (ix : I64 x) (hn : xs.length + 1 ≤ 1000000000) (hbase : base ≤ w.heap.size)
    (hK : ∀ v' w', OwnN base e w' v' (xs ++ [x]) → Below base w w' → w.grownBy w' v.ownBlock → (∀ k, v'.ownBlock = some k → v.ownBlock = some k ∨ w.heap.size ≤ k) → K (a.put o.dst v') w') :
    if Region.wanted o (yielded ops a.tmps) = true then Oper.wp P o a w K Q else E := by
  have hw : Region.wanted o (yielded ops a.tmps) = true := by simp [Region.wanted, hgd]
  rw [if_pos hw]
  obtain ⟨i0, hi, hz0, hz1, hz2⟩ := info_parts hinfo
  obtain ⟨v', w', hrun, h2, h3, h4⟩ := run_append_n (P := P) t o.type i0 z ht hi hz0 hz1 hz2 hzs hown ad c x hx ix hn hbase
  have hb : Below base w w' := (Below.refl base w).grown h3 hbase fun k hk => (hown.block k hk).1
  unfold Oper.wp execOp
  simp only [ho, resolve, invoke, builtin, Sem.run_bind, Sem.run_pure, Result.andThen_ok, List.map_toArray, List.map_cons, List.map_nil, hs, hy, hrun]
  exact hK v' w' h2 hb h3 h4

end Go.Proofs.YtnigfddanoaonaaGreat

set_option linter.unusedVariables false
set_option linter.unusedSimpArgs false
set_option linter.unnecessarySimpa false
namespace Go.Proofs.YtnigfddanoaonaaGreat
open Go.RowKit

section
variable {B N : Nat} {L : WLay} {oP : Option Addr} {cP : Nat} {oF : Option Addr} {nF cF : Nat} {S : Wr} {W W' : World}
variable {X M K A T : Int}

end

end Go.Proofs.YtnigfddanoaonaaGreat

set_option linter.unusedVariables false
set_option linter.unusedSimpArgs false
namespace Go.Proofs.YtnigfddanoaonaaGreat
open Go.RowKit

def addO (wt : List (List Int)) (o : Int × Int) : List (List Int) := bump wt o.1.toNat o.2.toNat 1
/-- The network behind the move that lets processor p read the letter a. -/
def moveX (x : Nwk) (p a : Nat) : Nwk :=
  { x with state := x.state.set p (nextP x.procs p (x.state.getD p 0) a), waiting := (sentP x.procs p (x.state.getD p 0) a).foldl addO (bump x.waiting p a (-1)) }
/-- What a move leaves alone. -/
structure Kept (B0 gs : Nat) (rs : List Rw) (W W' : World) : Prop where
  low : Below B0 W W'
  size : W.heap.size ≤ W'.heap.size
  fix : ∀ k, k < W.heap.size → k ≠ gs → (∀ r ∈ rs, k ≠ r.g) → W'.heap[k]? = W.heap[k]?
theorem Kept.refl (B0 gs : Nat) (rs : List Rw) (W : World) : Kept B0 gs rs W W := ⟨Below.refl _ _, Nat.le_refl _, fun _ _ _ _ => rfl⟩
theorem Kept.trans {B0 gs : Nat} {rs : List Rw} {W W1 W2 : World} (h : Kept B0 gs rs W W1) (g : Kept B0 gs rs W1 W2) : Kept B0 gs rs W W2 :=
  ⟨h.low.trans g.low, Nat.le_trans h.size g.size, fun k hk h1 h2 => (g.fix k (Nat.lt_of_lt_of_le hk h.size) h1 h2).trans (h.fix k hk h1 h2)⟩
theorem Kept.of_below {B0 gs : Nat} {rs : List Rw} {W W1 : World} (h : Below W.heap.size W W1) (hB : B0 ≤ W.heap.size) : Kept B0 gs rs W W1 := ⟨h.mono hB, h.size, fun k hk _ _ => h.block k hk⟩
theorem rwSet_g (rs : List Rw) (i : Nat) (l : List Int) : (rwSet rs i l).map (·.g) = rs.map (·.g) := by
  apply List.ext_getElem?
  intro j
  rw [List.getElem?_map, List.getElem?_map, rwSet_at]
  split
  · rename_i h; subst h
    rcases rs[i]? with _ | r <;> rfl
  · rfl

section
variable {O : Foot} {B0 K H p gs : Nat} {vp tw : Value} {rs : List Rw} {x : Nwk} {W W' : World}
theorem Mach.putWait (h : Mach O B0 K H p gs vp tw rs x W) {i k : Nat} {r : Rw} {l : List Int} (hr : rs[i]? = some r) (hl : r.l = l) (hk : k < l.length) (y : Int) :
    Mach O B0 K H p gs vp tw (rwSet rs i (l.set k y)) { x with waiting := x.waiting.set i (l.set k y) } (W.setCell ⟨r.g, k, none⟩ (.int .i64 y)) := by
  subst hl
  obtain ⟨h1, h2, h3⟩ := h.tab.row r (List.mem_of_getElem? hr)
  obtain ⟨l1, l2, l3, l4⟩ := h.low
  exact {
    main := h.main.other (fun e => ne_type h1 h.main (by decide) e.symm) _
    procs := h.procs.keep prcR_ok (fun g hg => Below.heap_setCell _ _ _ g (by have := h.vlt g hg; simp only; omega)) (fun k hk _ => Below.heap_setCell _ _ _ k (by have := hk.2; simp only; omega))
    vlt := h.vlt
    sts := h.sts.other (by simp only; omega) _
    tab := h.tab.put hr hk y
    tabs := by rw [tabL_set, h.tabs]
    low := h.low }
theorem Mach.putState (h : Mach O B0 K H p gs vp tw rs x W) {i : Nat} (hi : i < x.state.length) (y : Int) : Mach O B0 K H p gs vp tw rs { x with state := x.state.set i y } (W.setCell ⟨gs, i, none⟩ (.int .i64 y)) := by
  obtain ⟨l1, l2, l3, l4⟩ := h.low
  exact {
    main := h.main.other (fun e => ne_type h.sts h.main (by decide) e.symm) _
    procs := h.procs.keep prcR_ok (fun g hg => Below.heap_setCell _ _ _ g (by have := (h.procs.block g hg).1; simp only; omega)) (fun k hk _ => Below.heap_setCell _ _ _ k (by have := hk.1.1; unfold OldNew at this; simp only; omega))
    vlt := h.vlt
    sts := h.sts.put hi y
    tab := h.tab.above fun k _ hk => Below.heap_setCell _ _ _ k (by simp only; omega)
    tabs := h.tabs
    low := h.low }
theorem Kept.put (hB : B0 ≤ gs ∧ B0 ≤ H) (ht : ∀ r ∈ rs, H ≤ r.g) {b k : Nat} (hb : b = gs ∨ ∃ r ∈ rs, b = r.g) (v : Value) : Kept B0 gs rs W (W.setCell ⟨b, k, none⟩ v) := by
  have hB0 : B0 ≤ b := by
    rcases hb with rfl | ⟨r, hr, rfl⟩
    · exact hB.1
    · have := ht r hr; omega
  refine ⟨(Below.refl _ _).setCell hB0 _, by simp [World.setCell], fun q hq h1 h2 => Below.heap_setCell _ _ _ q ?_⟩
  rcases hb with rfl | ⟨r, hr, rfl⟩
  · exact h1
  · exact h2 r hr
/-- A letter that waits, in memory. -/
theorem Mach.wait (h : Mach O B0 K H p gs vp tw rs x W) {i k : Nat} {l : List Int} {y : Int} (hl : x.waiting[i]? = some l) (hk : l[k]? = some y) :
    ∃ r g cap, rs[i]? = some r ∧ r.l = l ∧ tw = .slice (some ⟨g, 0, none⟩) x.waiting.length cap ∧ W.cell? ⟨g, i, none⟩ = some (.slice (some ⟨r.g, 0, none⟩) l.length r.c) ∧ W.cell? ⟨r.g, k, none⟩ = some (.int .i64 y) ∧ W.frozen? ⟨r.g, k, none⟩ = false ∧ H ≤ r.g := by
  obtain ⟨r, hr, hrl⟩ := h.row hl
  obtain ⟨g, cap, htw, _, _, hcell, hrow, hH, _, _⟩ := h.tab.get hr
  rw [hrl] at hcell hrow
  rw [h.rlen] at htw
  exact ⟨r, g, cap, hr, hrl, htw, hcell, hrow.cell hk, hrow.free k, hH⟩
end

theorem wrap_small {q sl : Nat} (h : sl ≤ 16) (h2 : q < sl) : wrap64 ((q : Int) + 1) = (q : Int) + 1 := by unfold wrap64; omega
/-- Tables of one shape, with numbers from 0 to c. -/
structure Shape (wt wt' : List (List Int)) (c : Int) : Prop where
  len : wt'.length = wt.length
  row : ∀ (j : Nat) (l' : List Int), wt'[j]? = some l' → ∃ l, wt[j]? = some l ∧ l'.length = l.length
  num : ∀ l ∈ wt', ∀ z ∈ l, 0 ≤ z ∧ z ≤ c
theorem bump_eq {wt : List (List Int)} {p k : Nat} {l : List Int} {z : Int} (hl : wt[p]? = some l) (hz : l[k]? = some z) (y : Int) : bump wt p k y = wt.set p (l.set k (z + y)) := by
  unfold bump
  rw [getD_some hl, getD_some hz]
theorem Shape.put {wt wt' : List (List Int)} {c c' : Int} (h : Shape wt wt' c) (hc : c ≤ c') {p k : Nat} {l : List Int} (hl : wt'[p]? = some l) (hk : k < l.length) {y : Int} (hy : 0 ≤ y ∧ y ≤ c') : Shape wt (wt'.set p (l.set k y)) c' where
  len := by rw [List.length_set]; exact h.len
  row := fun j l' hj => by
    rw [List.getElem?_set] at hj
    split at hj
    · rename_i e
      subst e
      split at hj
      · injection hj with hj
        subst hj
        obtain ⟨l0, h1, h2⟩ := h.row p l hl
        exact ⟨l0, h1, by rw [List.length_set]; exact h2⟩
      · cases hj
    · exact h.row j l' hj
  num := fun l' hl' z hz => by
    rcases List.mem_or_eq_of_mem_set hl' with hm | rfl
    · have := h.num l' hm z hz; omega
    · rcases List.mem_or_eq_of_mem_set hz with hm | rfl
      · have := h.num l (List.mem_of_getElem? hl) z hm; omega
      · exact hy

section
variable {O : Foot} {B0 K H p gs : Nat} {vp tw : Value} {rs : List Rw} {x : Nwk} {W : World}
set_option maxRecDepth 100000 in
set_option maxHeartbeats 4000000 in
theorem nmake_any (h : Mach O B0 K H p gs vp tw rs x W) (hr : Right x) {i k : Nat} {l : List Int} {y : Int} (hl : x.waiting[i]? = some l) (hk : l[k]? = some y) (hy : 0 < y) (hbig : ∀ t ∈ x.waiting, ∀ z ∈ t, z ≤ 1000000) :
    Calls Tryz.prog 197 #[machV p, .agg #[.int .i64 (i : Nat), .int .i64 (k : Nat)]] W fun e w' => e = .returned (.int .i64 0) ∧ ∃ rs', Mach O B0 K H p gs vp tw rs' (moveX x i k) w' ∧ rs'.map (·.g) = rs.map (·.g) ∧ Kept B0 gs rs W w' := by
  obtain ⟨n, hn⟩ : ∃ n, n = x.procs.length := ⟨_, rfl⟩
  have hwn : x.waiting.length = n := by rw [hn]; exact hr.nwt
  have hsn : x.state.length = n := by rw [hn]; exact hr.nst
  have hin : i < n := by have := (List.getElem?_eq_some_iff.1 hl).1; omega
  have h12 : n ≤ 12 := by rw [hn]; exact hr.n.2
  have hpr0 := List.getElem?_eq_getElem (show i < x.procs.length by omega)
  have hle := hr.wl i l _ hl hpr0
  have hzc := (check_zero (hr.proc i _ hpr0)).2.2.1
  have hll : l.length = lettersP x.procs i := by unfold lettersP; rw [getD_some hpr0]; omega
  have hl8 : l.length ≤ 8 := by omega
  have hkl : k < l.length := (List.getElem?_eq_some_iff.1 hk).1
  obtain ⟨s, hs⟩ : ∃ s, x.state[i]? = some s := ⟨_, List.getElem?_eq_getElem (by omega)⟩
  obtain ⟨s0, s1⟩ := hr.st i s _ hs hpr0
  obtain ⟨pr, row, r, q1, q2, q3, q4, q5, q6, q7, q8⟩ := hr.rule (p := i) (k := k) (s := s) (by omega) s0 (by unfold statesP; rw [getD_some hpr0]; exact s1) (by omega)
  obtain ⟨sn, rfl⟩ := Int.eq_ofNat_of_zero_le s0
  simp only [Int.toNat_natCast] at q3
  have HMV : Hid (moveX x i k = { x with state := x.state.set i r.next, waiting := (r.sent.map pairO).foldl addO (x.waiting.set i (l.set k (y - 1))) }) := by
    show _ = _
    unfold moveX
    rw [getD_some hs, show nextP x.procs i (sn : Int) k = r.next from by unfold nextP; rw [q5], show sentP x.procs i (sn : Int) k = r.sent.map pairO from by unfold sentP; rw [q5], bump_eq hl hk]
    rfl
  obtain ⟨oV, cV, hvp, _, hps⟩ := h.procs.slice prcR_ok
  subst hvp
  -- the machine behind the box of the move
  obtain ⟨W1, e1⟩ : ∃ W1, W.alloc (.cells #[.int .i64 (i : Nat), .int .i64 (k : Nat)] 80) = W1 := ⟨_, rfl⟩
  have bx1 : Box W1 W.heap.size [.int .i64 (i : Nat), .int .i64 (k : Nat)] 80 := by rw [← e1]; exact Box.new W [.int .i64 (i : Nat), .int .i64 (k : Nat)] 80
  have bb1 := bnew (Below.refl W.heap.size W) (.cells #[.int .i64 (i : Nat), .int .i64 (k : Nat)] 80)
  rw [e1] at bb1
  have d0 := bx1.cell 0
  have d1 := bx1.cell 1
  simp only [List.getElem?_cons_zero, List.getElem?_cons_succ] at d0 d1
  have HM1 := hide (h.below bb1)
  have hBW : B0 ≤ W.heap.size := by have h1 := h.low; have h2 := h.sts.lt; omega
  have HK1 := hide (Kept.of_below (rs := rs) (gs := gs) bb1 hBW)
  have HR := hide hr
  have HN := hide hn
  have HWN := hide hwn
  have HSN := hide hsn
  have HL := hide hl
  have HKY := hide hk
  have HS := hide hs
  have HBIG := hide hbig
  have HQ3 := hide q3
  have HQ4 := hide q4
  have HQ1 := hide q1
  have HQ8 := hide q8
  have HQ6 := hide q6
  have HLL := hide hll
  unfold machV
  clear h hr hn hwn hsn hl hk hs hbig q1 q2 q3 q4 q5 q6 q8 hpr0 hle hzc s1 hll bx1 bb1 hps
  go_enter Tryz.func197, Tryz.ntmps197
  go_wp2_with fail
  go_quiet (fail)
  obtain ⟨W2, e2⟩ : ∃ W2, W1.drewN nq = W2 := ⟨_, rfl⟩
  have HM2 : Hid (Mach O B0 K H p gs (.slice oV x.procs.length cV) tw rs x W2) := by
    show Mach _ _ _ _ _ _ _ _ _ _ _
    rw [← e2]
    exact HM1.out.below (below_drewN (Below.refl _ _) _)
  have HK2 : Hid (Kept B0 gs rs W W2) := by
    show Kept _ _ _ _ _
    rw [← e2]
    exact HK1.out.trans (Kept.of_below (below_drewN (Below.refl _ _) _) (by have := HM1.out.low; have := HM1.out.sts.lt; omega))
  rw [e2]
  clear e2 d0 d1
  obtain ⟨rw0, g0, cap0, hr0, hrl0, htw, c0, c1, f1, hH0⟩ := HM2.out.wait HL.out HKY.out
  rw [HWN.out] at htw
  subst htw
  have m2 := HM2.out.main.cell 2
  simp only [List.getElem?_cons_zero, List.getElem?_cons_succ] at m2
  obtain ⟨ll, hll⟩ : ∃ ll, ll = l.length := ⟨_, rfl⟩
  rw [← hll] at c0 hl8 hkl
  have HLN := hide hll
  have hput := HM2.out.putWait hr0 hrl0 (by rw [← hll]; exact hkl) (y - 1)
  have HM3 := hide hput
  have HK3 : Hid (Kept B0 gs rs W (W2.setCell ⟨rw0.g, k, none⟩ (.int .i64 (y - 1)))) := HK2.out.trans (Kept.put (H := H) ⟨HM2.out.low.1, by have := HM2.out.low; omega⟩ (fun r hr => (HM2.out.tab.row r hr).2.1) (.inr ⟨rw0, List.mem_of_getElem? hr0, rfl⟩) _)
  have hyb : y ≤ 1000000 := HBIG.out l (List.mem_of_getElem? HL.out) y (List.mem_of_getElem? HKY.out)
  clear hput hr0 hrl0 hll
  go_wp2_with fail
  obtain ⟨W3, e3⟩ : ∃ W3, W2.setCell ⟨rw0.g, k, none⟩ (.int .i64 (y - 1)) = W3 := ⟨_, rfl⟩
  rw [e3] at HM3 HK3
  rw [e3]
  clear e3 c0 c1 f1 m2
  obtain ⟨b1, hcP, hoV, hb1, hb2, hrowP, ⟨oa1, cc1, rfl, z6, z7, z8, z9, z10⟩⟩ := HM3.out.procs.hole HQ1.out
  subst hoV
  have z5 := hrowP.cell (j := 2) (by omega)
  simp only [List.getElem?_cons_zero, List.getElem?_cons_succ] at z5
  have hsl2 : sn < pr.rules.length := (List.getElem?_eq_some_iff.1 HQ3.out).1
  obtain ⟨row2, _, y1, b2, off2, oa2, cc2, rfl, y2, y3, y4, y5, y6⟩ := z10.slc_at hsl2
  rw [HQ3.out] at y1
  injection y1 with y1
  subst y1
  have hkl2 : k < row.length := (List.getElem?_eq_some_iff.1 HQ4.out).1
  obtain ⟨nx, st, _, x1, x2, b3, off3, oa3, cc3, rfl, x3, x4, x5, x6, x7, x8⟩ := y6.rule_at hkl2
  rw [HQ4.out] at x1
  injection x1 with x1
  subst x1
  simp only at q7
  have hip : i < x.procs.length := by have := HN.out; omega
  have m0 := HM3.out.main.cell 0
  have m1 := HM3.out.main.cell 1
  have g2 := HM3.out.sts.cell (i := i) (x := (sn : Int)) HS.out
  have g3 := HM3.out.sts.free i
  simp only [List.getElem?_cons_zero, List.getElem?_cons_succ] at m0 m1
  rw [← HN.out] at m0 m1 hip
  have l0 := World.block_lt_of_cell? _ _ m0
  have l2 := World.block_lt_of_cell? _ _ g2
  have l3 := World.block_lt_of_cell? _ _ z5
  have l4 := World.block_lt_of_cell? _ _ y3
  have l5 := World.block_lt_of_cell? _ _ x4
  simp only at l0 l2 l3 l4 l5
  have HST := hide x8
  have hcl : pr.rules.length ≤ 16 := by
    have := check_zero (HR.out.proc i pr HQ1.out)
    omega
  clear x8 z10 y6 hrowP
  go_region
  obtain ⟨W4, e4⟩ : ∃ W4, (W3.alloc (.cells #[.int .i64 nx, .slice oa3 st.length cc3] 99)).drew = W4 := ⟨_, rfl⟩
  have bb4 : Below W3.heap.size W3 W4 := by rw [← e4]; exact (bnew (Below.refl _ _) _).drew
  have bx4 : Box W4 W3.heap.size [.int .i64 nx, .slice oa3 st.length cc3] 99 := by rw [← e4]; exact (Box.new W3 [.int .i64 nx, .slice oa3 st.length cc3] 99).draw
  have HM4 := hide (HM3.out.below bb4)
  have HK4 : Hid (Kept B0 gs rs W W4) := HK3.out.trans (Kept.of_below bb4 (by have := HM3.out.low; have := HM3.out.sts.lt; omega))
  have i0 := bx4.cell 0
  have i1 := HM4.out.main.cell 1
  have i4 := HM4.out.sts.cell (i := i) (x := (sn : Int)) HS.out
  have i5 := HM4.out.sts.free i
  simp only [List.getElem?_cons_zero, List.getElem?_cons_succ] at i0 i1
  rw [← HN.out] at i1
  have HX4 := hide bx4
  have HST4 := hide (HST.out.below outR_ok bb4)
  rw [e4]
  clear e4 bb4 bx4 m0 m1 g2 g3 l0 l2 l3 l4 l5 z5 z6 z7 z8 z9 y2 y3 y4 y5 x2 x3 x4
  go_wp2_with fail
  go_region
  obtain ⟨W5, e5⟩ : ∃ W5, (W4.setCell ⟨gs, i, none⟩ (.int .i64 nx)).drew = W5 := ⟨_, rfl⟩
  have HM5 : Hid (Mach O B0 K H p gs (.slice (some ⟨b1, 0, none⟩) x.procs.length cV) (.slice (some ⟨g0, 0, none⟩) n cap0) (rwSet rs i (l.set k (y - 1))) { x with state := x.state.set i nx, waiting := x.waiting.set i (l.set k (y - 1)) } W5) := by
    show Mach _ _ _ _ _ _ _ _ _ _ _
    rw [← e5]
    have := HM4.out.putState (i := i) (by simp only; have := HSN.out; omega) nx
    exact this.below (Below.refl _ _).drew
  have HK5 : Hid (Kept B0 gs rs W W5) := by
    show Kept _ _ _ _ _
    rw [← e5]
    have h1 : Kept B0 gs rs W4 (W4.setCell ⟨gs, i, none⟩ (.int .i64 nx)) := Kept.put (H := H) ⟨HM2.out.low.1, by have := HM2.out.low; omega⟩ (fun r hr => (HM2.out.tab.row r hr).2.1) (.inl rfl) _
    exact (HK4.out.trans h1).trans ⟨(Below.refl _ _).drew, Nat.le_refl _, fun _ _ _ _ => rfl⟩
  have HX5 : Hid (Box W5 W3.heap.size [.int .i64 nx, .slice oa3 st.length cc3] 99) := by
    show Box _ _ _ _
    rw [← e5]
    exact (HX4.out.other (p := ⟨gs, i, none⟩) (fun e => ne_type HM4.out.sts HX4.out (by decide) e.symm) _).draw
  obtain ⟨FF, hFF⟩ : ∃ FF : Foot, FF = fun k => InF (OldNew O B0 K) (.slice (some ⟨b1, 0, none⟩) x.procs.length cV) k ∧ k < H := ⟨_, rfl⟩
  have HFG : Hid (∀ k, FF k → k ≠ gs ∧ k < H) := fun k hk => by
    rw [hFF] at hk
    have h1 := hk.1.1
    unfold OldNew at h1
    have := HM2.out.low
    exact ⟨by omega, hk.2⟩
  have HST5 : Hid (SliceR outR 2 FF W5 oa3 st) := by
    show SliceR _ _ _ _ _ _
    rw [← e5]
    have h4 := HST4.out
    rw [← hFF] at h4
    exact (h4.keep (w' := W4.setCell ⟨gs, i, none⟩ (.int .i64 nx)) outR_ok fun k hk _ => Below.heap_setCell _ _ _ k (HFG.out k hk).1).keep outR_ok fun _ _ _ => rfl
  clear hFF HST4 HST
  rw [e5]
  have c5 := HX5.out.cell 1
  simp only [List.getElem?_cons_zero, List.getElem?_cons_succ] at c5
  clear e5 i0 i1 i4 i5
  go_wp2_with fail
  have HSH0 : Hid (Shape x.waiting (x.waiting.set i (l.set k (y - 1))) 1000000) := Shape.put (c := 1000000) ⟨rfl, fun j l' hj => ⟨l', hj, rfl⟩, fun l' hl' z hz => ⟨(HR.out.wb l' hl' z hz).1, HBIG.out l' hl' z hz⟩⟩ (Int.le_refl _) HL.out (by rw [← HLN.out]; exact hkl) (by omega)
  have HSZ : Hid (st.length ≤ 16) := q7
  obtain ⟨sl, hsl⟩ : ∃ sl, sl = st.length := ⟨_, rfl⟩
  have HSLN := hide hsl
  rw [← hsl] at HX5 HSZ c5 ⊢
  clear hsl
  go_loopg [63] sl (fun gm iv wr => ∃ (q : Nat) (rs' : List Rw) (wt' : List (List Int)), q ≤ sl ∧ gm = sl - q ∧ iv = .int .i64 q ∧ Hid (wt' = ((st.take q).map pairO).foldl addO (x.waiting.set i (l.set k (y - 1)))) ∧ Hid (Shape x.waiting wt' (1000000 + q)) ∧ Hid (Mach O B0 K H p gs (.slice (some ⟨b1, 0, none⟩) x.procs.length cV) (.slice (some ⟨g0, 0, none⟩) n cap0) rs' { x with state := x.state.set i nx, waiting := wt' } wr) ∧ Hid (rs'.map (·.g) = rs.map (·.g)) ∧ Hid (Kept B0 gs rs W wr) ∧ Hid (Box wr W3.heap.size [.int .i64 nx, .slice oa3 sl cc3] 99) ∧ Hid (SliceR outR 2 FF wr oa3 st))
  case atStart => exact ⟨0, _, _, by omega, by omega, rfl, rfl, by show Shape _ _ _; simpa using HSH0.out, HM5.out, rwSet_g _ _ _, HK5.out, HX5.out, HST5.out⟩
  case round =>
    obtain ⟨q, rs', wt', hq, hgm, rfl, HWT, HSH, HMq, HRG, HKq, HXq, HSq⟩ := hrel
    have HGM := hide hgm
    clear hgm
    by_cases hlt : q < sl
    · obtain ⟨tt, le, hd, hxo, it, il, b6, off6, rfl, _, oc0, oc1⟩ := HSq.out.out_at (i := q) (by have := HSLN.out; omega)
      obtain ⟨⟨m1, m2⟩, m3, m4⟩ := HQ8.out _ (List.mem_of_getElem? hxo)
      simp only at m1 m2 m3 m4
      obtain ⟨tn, rfl⟩ := Int.eq_ofNat_of_zero_le m1
      obtain ⟨ln, rfl⟩ := Int.eq_ofNat_of_zero_le m3
      simp only [Int.toNat_natCast] at m4
      have htn : tn < n := by have := HN.out; omega
      obtain ⟨l0, hl0⟩ : ∃ l0, wt'[tn]? = some l0 := ⟨_, List.getElem?_eq_getElem (by have := HSH.out.len; have := HWN.out; omega)⟩
      obtain ⟨lx, hlx, hll0⟩ := HSH.out.row tn l0 hl0
      have hlen : l0.length = lettersP x.procs tn := by
        have hprt := List.getElem?_eq_getElem (show tn < x.procs.length by have := HN.out; omega)
        have h1 := HR.out.wl tn lx _ hlx hprt
        rw [hll0]
        unfold lettersP
        rw [getD_some hprt]
        omega
      have hln : ln < l0.length := by omega
      obtain ⟨z, hz⟩ : ∃ z, l0[ln]? = some z := ⟨_, List.getElem?_eq_getElem hln⟩
      obtain ⟨hz0, hz1⟩ := HSH.out.num l0 (List.mem_of_getElem? hl0) z (List.mem_of_getElem? hz)
      obtain ⟨W6, e6⟩ : ∃ W6, wr.alloc (.cells #[.int .i64 tn, .int .i64 ln] 102) = W6 := ⟨_, rfl⟩
      have bx6 : Box W6 wr.heap.size [.int .i64 tn, .int .i64 ln] 102 := by rw [← e6]; exact Box.new wr [.int .i64 tn, .int .i64 ln] 102
      have bb6 := bnew (Below.refl wr.heap.size wr) (.cells #[.int .i64 tn, .int .i64 ln] 102)
      rw [e6] at bb6
      have HM6 := hide (HMq.out.below bb6)
      have HK6 : Hid (Kept B0 gs rs W W6) := HKq.out.trans (Kept.of_below bb6 (by have := HMq.out.low; have := HMq.out.sts.lt; omega))
      have HX6 := hide (HXq.out.below bb6)
      have HS6 := hide (HSq.out.below outR_ok bb6)
      have k0 := bx6.cell 0
      have k1 := bx6.cell 1
      obtain ⟨r6, g6, cap6, hr6, hrl6, htw6, c0, c1, f1, hH6⟩ := HM6.out.wait hl0 hz
      simp only at htw6
      injection htw6 with v1 v2 v3
      injection v1 with v1
      injection v1 with v1
      subst v1 v3
      have m2c := HM6.out.main.cell 2
      simp only [List.getElem?_cons_zero, List.getElem?_cons_succ] at k0 k1 m2c
      have HWS : Hid (((st.take (q + 1)).map pairO).foldl addO (x.waiting.set i (l.set k (y - 1))) = wt'.set tn (l0.set ln (z + 1))) := by
        show _ = _
        rw [List.take_add_one, hxo]
        simp only [Option.toList_some, List.map_append, List.map_cons, List.map_nil, List.foldl_append, List.foldl_cons, List.foldl_nil]
        rw [← HWT.out]
        unfold addO pairO
        simp only [Int.toNat_natCast]
        exact bump_eq hl0 hz 1
      have HSH2 : Hid (Shape x.waiting (wt'.set tn (l0.set ln (z + 1))) (1000000 + (q + 1 : Nat))) := HSH.out.put (by omega) hl0 hln (by omega)
      have HRL := hide (And.intro hr6 (And.intro hrl6 hl0))
      obtain ⟨l0n, hl0n⟩ : ∃ m, m = l0.length := ⟨_, rfl⟩
      rw [← hl0n] at c0 hln
      have HL0 := hide hl0n
      have hb8 : l0n ≤ 8 := by
        have := (HR.out.letters tn (by have := HN.out; omega)).2
        omega
      clear hd hxo hl0 hlx hll0 hlen hz hr6 hrl6 hl0n bx6 bb6 m4 v2
      go_wp2_with fail
      go_region
      rw [show wrap64 (z + 1) = z + 1 from by have h16 := HSZ.out; unfold wrap64; omega]
      obtain ⟨W7, e7⟩ : ∃ W7, (W6.setCell ⟨r6.g, ln, none⟩ (.int .i64 (z + 1))).drew = W7 := ⟨_, rfl⟩
      have hput := HM6.out.putWait HRL.out.1 HRL.out.2.1 (by rw [← HL0.out]; exact hln) (z + 1)
      have hkp : Kept B0 gs rs W6 (W6.setCell ⟨r6.g, ln, none⟩ (.int .i64 (z + 1))) := Kept.put (H := H) ⟨HM2.out.low.1, by have := HM2.out.low; omega⟩ (fun r hr => (HM2.out.tab.row r hr).2.1) (.inr (by
        have h1 : r6.g ∈ rs'.map (·.g) := List.mem_map.2 ⟨r6, List.mem_of_getElem? HRL.out.1, rfl⟩
        rw [HRG.out] at h1
        obtain ⟨r, h2, h3⟩ := List.mem_map.1 h1
        exact ⟨r, h2, h3.symm⟩)) _
      have HM7 : Hid (Mach O B0 K H p gs (.slice (some ⟨b1, 0, none⟩) x.procs.length cV) (.slice (some ⟨g0, 0, none⟩) n cap0) (rwSet rs' tn (l0.set ln (z + 1))) { x with state := x.state.set i nx, waiting := wt'.set tn (l0.set ln (z + 1)) } W7) := by
        show Mach _ _ _ _ _ _ _ _ _ _ _
        rw [← e7]
        exact hput.below (Below.refl _ _).drew
      have HK7 : Hid (Kept B0 gs rs W W7) := by
        show Kept _ _ _ _ _
        rw [← e7]
        exact (HK6.out.trans hkp).trans ⟨(Below.refl _ _).drew, Nat.le_refl _, fun _ _ _ _ => rfl⟩
      have hrow6 := HM6.out.tab.row r6 (List.mem_of_getElem? HRL.out.1)
      have HX7 : Hid (Box W7 W3.heap.size [.int .i64 nx, .slice (some ⟨b6, off6, none⟩) sl cc3] 99) := by
        show Box _ _ _ _
        rw [← e7]
        exact (HX6.out.other (p := ⟨r6.g, ln, none⟩) (fun e => ne_type hrow6.1 HX6.out (by decide) e.symm) _).draw
      have HS7 : Hid (SliceR outR 2 FF W7 (some ⟨b6, off6, none⟩) st) := by
        show SliceR _ _ _ _ _ _
        rw [← e7]
        exact (HS6.out.keep (w' := W6.setCell ⟨r6.g, ln, none⟩ (.int .i64 (z + 1))) outR_ok fun k hk _ => Below.heap_setCell _ _ _ k (by have := (HFG.out k hk).2; simp only; omega)).keep outR_ok fun _ _ _ => rfl
      rw [e7]
      clear e7 hput hkp hrow6 c0 c1 f1 k0 k1 m2c
      go_wp2_with fail
      go_roundg (sl - (q + 1))
      case measure =>
        rw [HGM.out]
        exact Nat.sub_lt_sub_left hlt (Nat.lt_succ_self q)
      case rel =>
        have h16 := HSZ.out
        exact ⟨q + 1, _, _, by omega, rfl, by (have hw : wrap64 ((q : Int) + 1) = (q : Int) + 1 := wrap_small h16 hlt; simp [hw]), HWS.out.symm, HSH2, HM7, by show _ = _; rw [rwSet_g]; exact HRG.out, HK7, HX7, HS7⟩
    · have hqe : q = sl := by omega
      subst hqe
      have c6 := HXq.out.cell 1
      simp only [List.getElem?_cons_zero, List.getElem?_cons_succ] at c6
      have HWF : Hid (wt' = (st.map pairO).foldl addO (x.waiting.set i (l.set k (y - 1)))) := by
        show _ = _
        have := HWT.out
        rw [List.take_of_length_le (by have := HSLN.out; omega)] at this
        exact this
      go_wp2_with fail
      go_loopg [86] q (fun gm iv wx => ∃ (t : Nat), t ≤ q ∧ gm = q - t ∧ iv = .int .i64 t ∧ Hid (Below wr.heap.size wr wx))
      case atStart => exact ⟨0, by omega, by omega, rfl, Below.refl _ _⟩
      case round =>
        obtain ⟨t, ht, hgm2, rfl, HBt⟩ := hrel
        have HGM2 := hide hgm2
        clear hgm2
        by_cases hlt2 : t < q
        · obtain ⟨tt, le, hd, hxo, it, il, b6, off6, rfl, _, oc0, oc1⟩ := (HSq.out.below outR_ok HBt.out).out_at (i := t) (by have := HSLN.out; omega)
          obtain ⟨⟨m1, m2⟩, m3, m4⟩ := HQ8.out _ (List.mem_of_getElem? hxo)
          simp only at m1 m2 m3 m4
          obtain ⟨tn, rfl⟩ := Int.eq_ofNat_of_zero_le m1
          obtain ⟨ln, rfl⟩ := Int.eq_ofNat_of_zero_le m3
          simp only [Int.toNat_natCast] at m4
          have htn : tn < n := by have := HN.out; omega
          obtain ⟨l0, hl0⟩ : ∃ l0, wt'[tn]? = some l0 := ⟨_, List.getElem?_eq_getElem (by have := HSH.out.len; have := HWN.out; omega)⟩
          obtain ⟨lx, hlx, hll0⟩ := HSH.out.row tn l0 hl0
          have hlen : l0.length = lettersP x.procs tn := by
            have hprt := List.getElem?_eq_getElem (show tn < x.procs.length by have := HN.out; omega)
            have h1 := HR.out.wl tn lx _ hlx hprt
            rw [hll0]
            unfold lettersP
            rw [getD_some hprt]
            omega
          have hln : ln < l0.length := by omega
          obtain ⟨z, hz⟩ : ∃ z, l0[ln]? = some z := ⟨_, List.getElem?_eq_getElem hln⟩
          obtain ⟨hz0, hz1⟩ := HSH.out.num l0 (List.mem_of_getElem? hl0) z (List.mem_of_getElem? hz)
          have h16 := HSZ.out
          have hzz : ¬ 1048576 < z := by omega
          obtain ⟨W6, e6⟩ : ∃ W6, wr.alloc (.cells #[.int .i64 tn, .int .i64 ln] 102) = W6 := ⟨_, rfl⟩
          have bx6 : Box W6 wr.heap.size [.int .i64 tn, .int .i64 ln] 102 := by rw [← e6]; exact Box.new wr [.int .i64 tn, .int .i64 ln] 102
          have bb6 := bnew (Below.refl wr.heap.size wr) (.cells #[.int .i64 tn, .int .i64 ln] 102)
          rw [e6] at bb6
          have HM6 := hide ((HMq.out.below HBt.out).below bb6)
          have HB6 := hide (HBt.out.trans (bb6.mono HBt.out.size))
          have k0 := bx6.cell 0
          have k1 := bx6.cell 1
          obtain ⟨r6, g6, cap6, hr6, hrl6, htw6, c0, c1, f1, hH6⟩ := HM6.out.wait hl0 hz
          simp only at htw6
          injection htw6 with v1 v2 v3
          injection v1 with v1
          injection v1 with v1
          subst v1 v3
          have m2c := HM6.out.main.cell 2
          simp only [List.getElem?_cons_zero, List.getElem?_cons_succ] at k0 k1 m2c
          obtain ⟨l0n, hl0n⟩ : ∃ m, m = l0.length := ⟨_, rfl⟩
          rw [← hl0n] at c0 hln
          have hb8 : l0n ≤ 8 := by
            have := (HR.out.letters tn (by have := HN.out; omega)).2
            omega
          clear hd hxo hl0 hlx hll0 hlen hz hr6 hrl6 hl0n bx6 bb6 m4 v2
          go_wp2_with fail
          go_quiet (fail)
          go_wp2_with fail
          go_roundg (q - (t + 1))
          case measure => have := HGM2.out; omega
          case rel => exact ⟨t + 1, by omega, rfl, by go_num, below_drewN HB6.out _⟩
        · go_wp2_with fail
          go_ret
          refine ⟨rfl, rs', ?_, HRG.out, HKq.out.trans (Kept.of_below HBt.out (by have := HMq.out.low; have := HMq.out.sts.lt; omega))⟩
          rw [HMV.out, ← HWF.out]
          exact HMq.out.below HBt.out
end

end Go.Proofs.YtnigfddanoaonaaGreat

set_option linter.unusedVariables false
set_option linter.unusedSimpArgs false
namespace Go.Proofs.YtnigfddanoaonaaGreat
open Go.RowKit

theorem Shape.add {wt wt' : List (List Int)} {c : Int} (h : Shape wt wt' c) {o : Int × Int} (ho : ∃ l, wt[o.1.toNat]? = some l ∧ o.2.toNat < l.length) : Shape wt (addO wt' o) (c + 1) := by
  obtain ⟨l, h1, h2⟩ := ho
  have hi : o.1.toNat < wt'.length := by rw [h.len]; exact (List.getElem?_eq_some_iff.1 h1).1
  have hl' := List.getElem?_eq_getElem hi
  obtain ⟨l0, h3, h4⟩ := h.row _ _ hl'
  rw [h1] at h3
  injection h3 with h3
  subst h3
  have hk : o.2.toNat < (wt'[o.1.toNat]).length := by omega
  have hz := List.getElem?_eq_getElem hk
  have hb := h.num _ (List.mem_of_getElem? hl') _ (List.mem_of_getElem? hz)
  unfold addO
  rw [bump_eq hl' hz]
  exact h.put (by omega) hl' hk (by omega)
theorem Shape.adds {wt : List (List Int)} : ∀ (os : List (Int × Int)) {wt' : List (List Int)} {c : Int}, Shape wt wt' c → (∀ o ∈ os, ∃ l, wt[o.1.toNat]? = some l ∧ o.2.toNat < l.length) → Shape wt (os.foldl addO wt') (c + os.length)
  | [], wt', c, h, _ => by simpa using h
  | o :: r, wt', c, h, ho => by
    have h1 := Shape.adds r (h.add (ho o (by simp))) fun q hq => ho q (by simp [hq])
    rw [List.foldl_cons, List.length_cons]
    have e : c + 1 + (r.length : Int) = c + ((r.length + 1 : Nat) : Int) := by push_cast; omega
    rw [← e]
    exact h1
theorem Right.shape {x : Nwk} (h : Right x) {c : Int} (hc : ∀ t ∈ x.waiting, ∀ z ∈ t, z ≤ c) : Shape x.waiting x.waiting c := ⟨rfl, fun j l hj => ⟨l, hj, rfl⟩, fun l hl z hz => ⟨(h.wb l hl z hz).1, hc l hl z hz⟩⟩
theorem Right.row {x : Nwk} (h : Right x) {p : Nat} (hp : p < x.procs.length) : ∃ l, x.waiting[p]? = some l ∧ l.length = lettersP x.procs p := by
  have hw := List.getElem?_eq_getElem (show p < x.waiting.length by rw [h.nwt]; exact hp)
  have hpr := List.getElem?_eq_getElem hp
  have h1 := h.wl p _ _ hw hpr
  refine ⟨_, hw, ?_⟩
  unfold lettersP
  rw [getD_some hpr]
  omega
/-- A legal move. -/
theorem moveX_shape {x : Nwk} (h : Right x) {i k : Nat} {l : List Int} {y : Int} (hl : x.waiting[i]? = some l) (hk : l[k]? = some y) (hy : 0 < y) {c : Int} (hc : ∀ t ∈ x.waiting, ∀ z ∈ t, z ≤ c) : Shape x.waiting (moveX x i k).waiting (c + 16) ∧ Right { moveX x i k with waiting := x.waiting } := by
  have hin : i < x.procs.length := by rw [← h.nwt]; exact (List.getElem?_eq_some_iff.1 hl).1
  obtain ⟨l', h1, h2⟩ := h.row hin
  rw [hl] at h1
  injection h1 with h1
  subst h1
  have hkl : k < l.length := (List.getElem?_eq_some_iff.1 hk).1
  have hpr := List.getElem?_eq_getElem hin
  obtain ⟨s, hs⟩ : ∃ s, x.state[i]? = some s := ⟨_, List.getElem?_eq_getElem (by rw [h.nst]; exact hin)⟩
  obtain ⟨s0, s1⟩ := h.st i s _ hs hpr
  have hok := h.ok
  have hs1 : s < statesP x.procs i := by unfold statesP; rw [getD_some hpr]; exact s1
  have hnx := hok.next i s k hin s0 hs1 (by omega)
  have hfew := hok.few i s k hin s0 hs1 (by omega)
  have hout := hok.out i s k hin s0 hs1 (by omega)
  have hy2 := hc l (List.mem_of_getElem? hl) y (List.mem_of_getElem? hk)
  constructor
  · have h1 := (h.shape hc).put (Int.le_refl c) hl hkl (y := y - 1) (by omega)
    have h3 := Shape.adds (sentP x.procs i (x.state.getD i 0) k) h1 fun o ho => by
      rw [getD_some hs] at ho
      obtain ⟨a, b, cc, d⟩ := hout o ho
      obtain ⟨l2, e1, e2⟩ := h.row (p := o.1.toNat) (by omega)
      exact ⟨l2, e1, by omega⟩
    unfold moveX
    simp only
    rw [bump_eq hl hk]
    rw [getD_some hs] at h3 ⊢
    refine ⟨h3.len, h3.row, fun l' hl' z hz => ?_⟩
    have := h3.num l' hl' z hz
    omega
  · refine ⟨h.n, h.proc, h.und, ?_, ?_, h.nwt, h.wl, h.wb⟩
    · show (x.state.set i _).length = _
      rw [List.length_set]; exact h.nst
    · intro j t pj hj hpj
      have hj' : (x.state.set i (nextP x.procs i (x.state.getD i 0) k))[j]? = some t := hj
      rw [List.getElem?_set] at hj'
      split at hj'
      · rename_i e
        subst e
        split at hj'
        · injection hj' with hj'
          subst hj'
          rw [getD_some hs]
          unfold statesP at hnx
          have e2 : x.procs[i]? = some pj := hpj
          rw [getD_some e2] at hnx
          exact hnx
        · cases hj'
      · exact h.st j t pj hj' hpj
theorem moveX_right {x : Nwk} (h : Right x) {i k : Nat} {l : List Int} {y : Int} (hl : x.waiting[i]? = some l) (hk : l[k]? = some y) (hy : 0 < y) {c : Int} (hc : ∀ t ∈ x.waiting, ∀ z ∈ t, z ≤ c) (hm : c + 16 ≤ 1048576) :
    Right (moveX x i k) ∧ (∀ t ∈ (moveX x i k).waiting, ∀ z ∈ t, z ≤ c + 16) ∧ (moveX x i k).procs = x.procs := by
  obtain ⟨h1, h2⟩ := moveX_shape h hl hk hy hc
  refine ⟨⟨h2.n, h2.proc, h2.und, h2.nst, h2.st, ?_, ?_, ?_⟩, fun t ht z hz => (h1.num t ht z hz).2, rfl⟩
  · rw [h1.len]; exact h.nwt
  · intro j t pj hj hpj
    obtain ⟨l0, e1, e2⟩ := h1.row j t hj
    rw [e2]
    exact h.wl j l0 pj e1 hpj
  · intro t ht z hz
    have := h1.num t ht z hz
    omega
theorem mem_rowMv {p : Nat} {l : List Int} {k : Nat} {m : Nat × Nat} (h : m ∈ rowMv p l k) : m.1 = p ∧ m.2 < k ∧ 0 < l.getD m.2 0 := by
  unfold rowMv at h
  obtain ⟨a, ha, rfl⟩ := List.mem_map.1 h
  obtain ⟨h1, h2⟩ := List.mem_filter.1 ha
  exact ⟨rfl, List.mem_range.1 h1, by simpa using h2⟩
/-- A move that is listed is legal. -/
theorem mem_moves {wt : List (List Int)} {m : Nat × Nat} (h : m ∈ movesS wt) : ∃ l y, wt[m.1]? = some l ∧ l[m.2]? = some y ∧ 0 < y := by
  unfold movesS at h
  obtain ⟨p, hp, hm⟩ := List.mem_flatMap.1 h
  obtain ⟨e, h1, h2⟩ := mem_rowMv hm
  have hpl := List.mem_range.1 hp
  have hl := List.getElem?_eq_getElem hpl
  rw [getD_some hl] at h1 h2
  have hy := List.getElem?_eq_getElem h1
  rw [getD_some hy] at h2
  exact ⟨_, _, by rw [e]; exact hl, hy, h2⟩

/-- The pick with number i among some moves. -/
def pickS (picks : List Int) (l : List (Nat × Nat)) (i : Nat) : Nat × Nat := l.getD ((picks.getD (i % picks.length) 0).toNat % l.length) (0, 0)
/-- A run by picks: the network and the counts when it has halted; none where the moves are used up. -/
def runX (picks : List Int) : Nat → Nat → Nwk → List (List Int) → Option (Nwk × List (List Int))
  | 0, i, x, ct => if (movesS x.waiting).isEmpty then some (x, ct) else none
  | n + 1, i, x, ct => if (movesS x.waiting).isEmpty then some (x, ct) else runX picks n (i + 1) (moveX x (pickS picks (movesS x.waiting) i).1 (pickS picks (movesS x.waiting) i).2) (bump ct (pickS picks (movesS x.waiting) i).1 (pickS picks (movesS x.waiting) i).2 1)
theorem pickS_mem {picks : List Int} {l : List (Nat × Nat)} {i : Nat} (h : l ≠ []) : pickS picks l i ∈ l := by
  unfold pickS
  have hl : 0 < l.length := List.length_pos_iff.2 h
  have hi : (picks.getD (i % picks.length) 0).toNat % l.length < l.length := Nat.mod_lt _ hl
  rw [getD_some (List.getElem?_eq_getElem hi)]
  exact List.getElem_mem hi

end Go.Proofs.YtnigfddanoaonaaGreat

set_option linter.unusedVariables false
set_option linter.unusedSimpArgs false
namespace Go.Proofs.YtnigfddanoaonaaGreat
open Go.RowKit

theorem methMv2 (x : Value) (w : World) : Sem.run Tryz.prog (method 349 147 x "sandpile/network.moves") w = .ok ((198 : Nat), x) w := by kernel_rfl
set_option maxRecDepth 100000 in
set_option maxHeartbeats 2000000 in
theorem nmv_any (x : Nwk) (op : Option Addr) (cp : Nat) (os : Option Addr) (cs : Nat) (ow : Option Addr) (cw : Nat) (F : Foot) (w : World) (hp : SliceR prcR 3 F w op x.procs) (hs : SliceR intR 1 F w os x.state) (ht : SliceR (slcR intR 1) 1 F w ow x.waiting) (hz : netErr x = 0) :
    Calls Tryz.prog 40 #[.agg #[.slice op x.procs.length cp, .slice os x.state.length cs, .slice ow x.waiting.length cw]] w fun e w' => ∃ v, e = .returned (.tuple #[v, .int .i64 0]) ∧ OwnS mvR 2 w.heap.size 80 Non w' v (movesS x.waiting) ∧ Below w.heap.size w w' := by
  have hr := netErr_zero hz
  have hst := hr.nst
  have hwt := hr.nwt
  have h12 := hr.n.2
  have hb0 := box_refl w (.cells #[.slice op x.procs.length cp, .slice os x.state.length cs, .slice ow x.waiting.length cw] 26)
  have HCK := hide (netCheck_any x.procs op cp x.state os cs x.waiting ow cw F _ (hp.below prcR_ok (below_box hb0)) (by omega) (hs.below intR_ok (below_box hb0)) (by omega) (ht.below (slcR_ok intR_ok (by decide)) (below_box hb0)) (by omega))
  rw [show (⟨x.procs, x.state, x.waiting⟩ : Nwk) = x from rfl, hz] at HCK
  have HST := hide (fun (u : World) (hu : Below w.heap.size w u) => nstart_any x op cp os cs ow cw F u (hp.below prcR_ok hu) (hs.below intR_ok hu) (ht.below (slcR_ok intR_ok (by decide)) hu) hr)
  rw [hst, hwt] at HCK ⊢
  have HW12 : Hid (x.waiting.length ≤ 12 ∧ ∀ l ∈ x.waiting, l.length ≤ 8) := by
    refine ⟨by rw [hwt]; exact h12, fun l hl => ?_⟩
    obtain ⟨j, hj, rfl⟩ := List.mem_iff_getElem.1 hl
    obtain ⟨l', h1, h2⟩ := hr.row (p := j) (by rw [← hwt]; exact hj)
    rw [List.getElem?_eq_getElem hj] at h1
    injection h1 with h1
    rw [h1, h2]
    exact (hr.letters j (by rw [← hwt]; exact hj)).2
  have hmv := methMv2
  clear hst hwt hr hp hs ht hz hb0
  go_enter Tryz.func40, Tryz.ntmps40
  go_wp2_with (first
    | (go_at_call 43; refine HCK.out.mono ?_; rintro e w2 ⟨rfl, hb2⟩; have hx2 := hb2.mono (B' := w.heap.size + 1) (by simp); have d0 := box_cell hx2 0; have d1 := box_cell hx2 1; have d2 := box_cell hx2 2; simp at d0 d1 d2; have HX := hide (below_box hx2); clear hb2 hx2)
    | (go_at_call 45; refine (HST.out w2 HX.out).mono ?_; rintro e w3 ⟨B0, K, H, p, gs, vp, tw, rs, rfl, hB0, hM, h4⟩; have HMV := hide (nmoves_any hM HW12.out.1 HW12.out.2); have HX3 := hide (HX.out.trans (h4.mono HX.out.size)); clear hM h4)
    | (go_at_call 198; refine HMV.out.mono ?_; rintro e w5 ⟨v5, rfl, h5, hb5⟩; have HO := hide h5; have HB5 := hide (HX3.out.trans (hb5.mono HX3.out.size)); clear h5 hb5))
  go_ret2
  exact ⟨_, rfl, HO.out.rebase HX3.out.size, HB5.out⟩

/-- The counts that are too many. -/
def leftE : Int → List Int → Int
  | _, [] => 0
  | left, k :: r => if left < k then 12 else leftE (left - k) r
def cntErr (x : Nwk) (t : List (List Int)) : Int := if shapedErr x.procs t = 0 then (if t.any negB then 2 else leftE 4096 t.flatten) else shapedErr x.procs t
set_option maxRecDepth 100000 in
set_option maxHeartbeats 4000000 in
theorem ncounted_any (x : Nwk) (op : Option Addr) (cp : Nat) (os : Option Addr) (ns cs : Nat) (ow : Option Addr) (nw cw : Nat) (t : List (List Int)) (ot : Option Addr) (ct : Nat) (F G : Foot) (w : World)
    (hp : SliceR prcR 3 F w op x.procs) (hp2 : x.procs.length ≤ 1000000) (ht : SliceR (slcR intR 1) 1 G w ot t) (ht2 : t.length ≤ 1000000) (hct : t.length ≤ ct) :
    Calls Tryz.prog 49 #[.agg #[.slice op x.procs.length cp, .slice os ns cs, .slice ow nw cw], .slice ot t.length ct] w fun e w' => e = .returned (.int .i64 (cntErr x t)) ∧ Below w.heap.size w w' := by
  have hb0 := box_refl w (.cells #[.slice op x.procs.length cp, .slice os ns cs, .slice ow nw cw] 26)
  have HSH := hide (shaped_any x.procs op cp os ns cs ow nw cw t ot ct F G _ (hp.below prcR_ok (below_box hb0)) (by omega) (ht.below (slcR_ok intR_ok (by decide)) (below_box hb0)) (by omega))
  obtain ⟨se, hse⟩ : ∃ se, se = shapedErr x.procs t := ⟨_, rfl⟩
  rw [← hse] at HSH
  have HSE := hide hse
  have HT := hide ht
  clear hse ht hp
  by_cases h0 : se = 0
  · subst h0
    have HR : Hid (cntErr x t = if t.any negB then 2 else leftE 4096 t.flatten) := if_pos HSE.out.symm
    go_enter Tryz.func49, Tryz.ntmps49
    go_wp2_with (go_at_call 91; refine HSH.out.mono ?_; rintro e w2 ⟨rfl, hb2⟩; have HX := hide (below_box (hb2.mono (B' := w.heap.size + 1) (by simp))); clear hb2)
    go_loopw [21] (fun iv wr => ∃ k : Nat, k ≤ t.length ∧ iv = .int .i64 k ∧ Hid (t.any negB = (t.drop k).any negB) ∧ wr = w2) (fun iv _ => t.length - (intOf iv).toNat)
    case atStart => exact ⟨0, by omega, rfl, rfl, rfl⟩
    case round =>
      obtain ⟨k, hk, rfl, HN, rfl⟩ := hrel
      by_cases hlt : k < t.length
      · obtain ⟨l, hd, hl, b, off, ol, cl, hot, _, c0, hcl, hl9, hsl⟩ := (HT.out.below (slcR_ok intR_ok (by decide)) HX.out).slc_at hlt
        have HD := hide hd
        subst hot
        clear hd hl
        by_cases hl0 : l.length = 0
        · have hnl : negB l = false := by rw [List.length_eq_zero_iff.1 hl0]; rfl
          have HN2 : Hid (t.any negB = (t.drop (k + 1)).any negB) := by show _ = _; rw [HN.out, HD.out, List.any_cons, hnl, Bool.false_or]
          rw [hl0] at c0
          clear hl0 hnl hsl hcl hl9
          go_wp2_with fail
          go_roundw
          case rel => exact ⟨k + 1, by omega, by go_num, HN2, by first | rfl | trivial⟩
          case measure => simp [intOf]; omega
        · have HM := hide (min_any l ol cl G wr hsl hcl hl9 (by omega))
          obtain ⟨ln, hln⟩ : ∃ ln, ln = l.length := ⟨_, rfl⟩
          have hq : (0 : Int) < (ln : Int) := by omega
          rw [← hln] at HM c0 hcl
          clear hln
          obtain ⟨nl, hnl⟩ : ∃ nl, nl = negB l := ⟨_, rfl⟩
          rw [← hnl] at HM
          have HNL := hide hnl
          clear hl0 hnl hsl hl9
          cases nl
          · have HN2 : Hid (t.any negB = (t.drop (k + 1)).any negB) := by show _ = _; rw [HN.out, HD.out, List.any_cons, ← HNL.out, Bool.false_or]
            go_wp2_with (go_at_call 92; refine HM.out.mono ?_; rintro e w5 ⟨m, rfl, hm, rfl⟩)
            go_roundw
            case rel => exact ⟨k + 1, by omega, by go_num, HN2, by first | rfl | trivial⟩
            case measure => simp [intOf]; omega
          · have HN2 : Hid (t.any negB = true) := by show _ = _; rw [HN.out, HD.out, List.any_cons, ← HNL.out, Bool.true_or]
            go_wp2_with (go_at_call 92; refine HM.out.mono ?_; rintro e w5 ⟨m, rfl, hm, rfl⟩)
            go_ret
            exact ⟨ret_int (by rw [HR.out, if_pos HN2.out]), HX.out⟩
      · have HN2 : Hid (t.any negB = false) := by
          show _ = _
          rw [HN.out, List.drop_eq_nil_of_le (by omega)]
          rfl
        have HR2 : Hid (cntErr x t = leftE 4096 t.flatten) := by show _ = _; rw [HR.out, if_neg (by rw [HN2.out]; decide)]
        obtain ⟨w2', hw2'⟩ : ∃ w2' : World, w2' = wr := ⟨_, rfl⟩
        subst hw2'
        have HNN : Hid (∀ l ∈ t, ∀ z ∈ l, 0 ≤ z) := fun l hl z hz => by
          have h1 := HN2.out
          rw [List.any_eq_false] at h1
          have h2 := h1 l hl
          unfold negB at h2
          simp at h2
          exact h2 z hz
        go_wp2_with fail
        go_loopg [8, 36] t.length (fun gm lv iv wx => ∃ (i : Nat) (left : Int), i ≤ t.length ∧ gm = t.length - i ∧ iv = .int .i64 i ∧ lv = .int .i64 left ∧ Hid (cntErr x t = leftE left (t.drop i).flatten) ∧ 0 ≤ left ∧ left ≤ 4096 ∧ w2' = wx)
        case atStart => exact ⟨0, 4096, by omega, by omega, rfl, rfl, HR2, by omega, by omega, rfl⟩
        case round =>
          obtain ⟨i, left, hi, hgm, rfl, rfl, HL, hl0, hl1, rfl⟩ := hrel
          have HGM := hide hgm
          clear hgm
          by_cases hlt : i < t.length
          · obtain ⟨l, hd, hl, b, off, ol, cl, hot, _, c0, hcl, hl9, hsl⟩ := (HT.out.below (slcR_ok intR_ok (by decide)) HX.out).slc_at hlt
            subst hot
            have HLN := hide (HNN.out l (List.mem_of_getElem? hl))
            have HL2 : Hid (cntErr x t = leftE left (l ++ (t.drop (i + 1)).flatten)) := by show _ = _; rw [HL.out, hd, List.flatten_cons]
            have HSL := hide hsl
            clear hd hl hsl
            go_wp2_with fail
            go_loopg [8, 42] l.length (fun gm lv jv wx => ∃ (j : Nat) (left : Int), j ≤ l.length ∧ gm = l.length - j ∧ jv = .int .i64 j ∧ lv = .int .i64 left ∧ Hid (cntErr x t = leftE left (l.drop j ++ (t.drop (i + 1)).flatten)) ∧ 0 ≤ left ∧ left ≤ 4096 ∧ w2' = wx)
            case atStart => exact ⟨0, left, by omega, by omega, rfl, rfl, HL2, hl0, hl1, by first | rfl | trivial⟩
            case round =>
              obtain ⟨j, left, hj, hgm, rfl, rfl, HJ, hl0, hl1, rfl⟩ := hrel
              have HGM2 := hide hgm
              clear hgm
              by_cases hjl : j < l.length
              · obtain ⟨z, hdz, hz, iz, b2, off2, hol, _, e0⟩ := HSL.out.int_at hjl
                subst hol
                have hz0 := HLN.out z (List.mem_of_getElem? hz)
                have HJ2 : Hid (cntErr x t = if left < z then 12 else leftE (left - z) (l.drop (j + 1) ++ (t.drop (i + 1)).flatten)) := by show _ = _; rw [HJ.out, hdz]; rfl
                clear hdz hz
                by_cases hlz : left < z
                · have HJ3 : Hid (cntErr x t = 12) := by show _ = _; rw [HJ2.out, if_pos hlz]
                  have q1 : decide (left < z) = true := by simp [hlz]
                  clear hlz
                  go_wp2_with fail
                  go_ret
                  exact ⟨ret_int HJ3.out.symm, HX.out⟩
                · have HJ3 : Hid (cntErr x t = leftE (left - z) (l.drop (j + 1) ++ (t.drop (i + 1)).flatten)) := by show _ = _; rw [HJ2.out, if_neg hlz]
                  have q1 : decide (left < z) = false := by simp; omega
                  have hlz2 : z ≤ left := by omega
                  clear hlz
                  go_wp2_with fail
                  go_roundg (l.length - (j + 1))
                  case measure => have := HGM2.out; omega
                  case rel => exact ⟨j + 1, left - z, by omega, rfl, by go_num, by go_num, HJ3, by omega, by omega, by first | rfl | trivial⟩
              · have hje : j = l.length := by omega
                have HJ3 : Hid (cntErr x t = leftE left (t.drop (i + 1)).flatten) := by show _ = _; rw [HJ.out, hje, List.drop_length, List.nil_append]
                clear hje
                go_wp2_with fail
                go_roundg (t.length - (i + 1))
                case measure => have := HGM.out; omega
                case rel => exact ⟨i + 1, left, by omega, rfl, by go_num, rfl, HJ3, hl0, hl1, by first | rfl | trivial⟩
          · have HL3 : Hid (cntErr x t = 0) := by
              show _ = _
              rw [HL.out, List.drop_eq_nil_of_le (by omega)]
              rfl
            go_wp2_with fail
            go_ret
            exact ⟨ret_int HL3.out.symm, HX.out⟩
  · have HR : Hid (cntErr x t = se) := by
      show _ = _
      unfold cntErr
      rw [← HSE.out, if_neg h0]
    go_enter Tryz.func49, Tryz.ntmps49
    go_wp2_with (go_at_call 91; refine HSH.out.mono ?_; rintro e w2 ⟨rfl, hb2⟩; have HX := hide (below_box (hb2.mono (B' := w.heap.size + 1) (by simp))); clear hb2)
    go_ret
    exact ⟨ret_int HR.out.symm, HX.out⟩

end Go.Proofs.YtnigfddanoaonaaGreat

set_option linter.unusedVariables false
set_option linter.unusedSimpArgs false
namespace Go.Proofs.YtnigfddanoaonaaGreat
open Go.RowKit

theorem sub_rest : ∀ (h h' : List Int), (∀ a, h.count a ≤ h'.count a) → ∃ r, h'.Perm (h ++ r)
  | [], h', _ => ⟨h', List.Perm.refl _⟩
  | a :: t, h', hc => by
    have ha : a ∈ h' := by
      have := hc a
      rw [List.count_cons_self] at this
      exact List.count_pos_iff.1 (by omega)
    have hp := List.perm_cons_erase ha
    obtain ⟨r, hr⟩ := sub_rest t (h'.erase a) fun b => by
      have h1 := hc b
      rw [hp.count_eq b, List.count_cons, List.count_cons] at h1
      omega
    exact ⟨r, hp.trans (hr.cons a)⟩

def sumN (f : Nat → Nat) : Nat → Nat
  | 0 => 0
  | n + 1 => sumN f n + f n
theorem sumN_le {f g : Nat → Nat} : ∀ {n : Nat}, (∀ p, p < n → f p ≤ g p) → sumN f n ≤ sumN g n
  | 0, _ => Nat.le_refl _
  | n + 1, h => by
    have h1 := sumN_le (n := n) fun p hp => h p (by omega)
    have h2 := h n (by omega)
    simp only [sumN]
    omega
theorem sumN_eq {f g : Nat → Nat} {n : Nat} (h : ∀ p, p < n → f p = g p) : sumN f n = sumN g n :=
  Nat.le_antisymm (sumN_le fun p hp => Nat.le_of_eq (h p hp)) (sumN_le fun p hp => Nat.le_of_eq (h p hp).symm)
theorem sumN_one {f g : Nat → Nat} {k : Nat} : ∀ {n : Nat}, k < n → (∀ p, p < n → p ≠ k → f p = g p) → sumN f n + g k = sumN g n + f k
  | 0, h, _ => by omega
  | n + 1, h, he => by
    simp only [sumN]
    by_cases hk : k = n
    · subst hk
      rw [sumN_eq fun p hp => he p (by omega) (by omega)]
      omega
    · have h1 := sumN_one (n := n) (k := k) (by omega) fun p hp hne => he p (by omega) hne
      rw [he n (by omega) (by omega)]
      omega
theorem sumN_mem {f : Nat → Nat} {k : Nat} : ∀ {n : Nat}, k < n → f k ≤ sumN f n
  | 0, h => by omega
  | n + 1, h => by
    simp only [sumN]
    by_cases hk : k = n
    · subst hk; omega
    · have := sumN_mem (f := f) (n := n) (k := k) (by omega)
      omega
/-- The letters a for q among some outputs. -/
def cntO (os : List Out) (q a : Nat) : Nat := os.countP fun o => decide (o.dst = (q : Int) ∧ o.letter = (a : Int))
theorem cntO_nil (q a : Nat) : cntO [] q a = 0 := rfl
theorem cntO_app (l m : List Out) (q a : Nat) : cntO (l ++ m) q a = cntO l q a + cntO m q a := by unfold cntO; rw [List.countP_append]
theorem cntO_perm {l m : List Out} (h : l.Perm m) (q a : Nat) : cntO l q a = cntO m q a := h.countP_eq _

/-- What a processor of a network comes to by a history. -/
def histR (x : Nwk) (p : Nat) (h : List Int) : Int × List Out := readSpec (x.procs.getD p prc0).rules (x.state.getD p 0) h
def sentN (x : Nwk) (hs : Nat → List Int) (q a : Nat) : Nat := sumN (fun p => cntO (histR x p (hs p)).2 q a) x.procs.length
def cellT (t : List (List Int)) (q a : Nat) : Int := (t.getD q []).getD a 0
def AbN (x : Nwk) : Prop := ∀ (i : Nat) (p : Prc), x.procs[i]? = some p → AllComm p.rules p.states p.letters
def InL (x : Nwk) (hs : Nat → List Int) : Prop := ∀ p, p < x.procs.length → ∀ a ∈ hs p, 0 ≤ a ∧ a < (lettersP x.procs p : Int)
def LeH (x : Nwk) (hs hc : Nat → List Int) : Prop := ∀ p, p < x.procs.length → ∀ a : Int, (hs p).count a ≤ (hc p).count a
def totH (x : Nwk) (hs : Nat → List Int) : Nat := sumN (fun p => (hs p).length) x.procs.length
/-- Complete histories: all letters that are there were read. -/
def Compl (x : Nwk) (hs : Nat → List Int) : Prop := ∀ q a, q < x.procs.length → a < lettersP x.procs q → cellT x.waiting q a + sentN x hs q a ≤ ((hs q).count (a : Int) : Int)

section
variable {x : Nwk} {hs hc : Nat → List Int}
theorem getD_procs {x : Nwk} {p : Nat} (hp : p < x.procs.length) : x.procs[p]? = some (x.procs.getD p prc0) := by rw [getD_some (List.getElem?_eq_getElem hp)]; exact List.getElem?_eq_getElem hp
theorem Right.st0 (hr : Right x) {p : Nat} (hp : p < x.procs.length) : 0 ≤ x.state.getD p 0 ∧ x.state.getD p 0 < (x.procs.getD p prc0).states := by
  have hs := List.getElem?_eq_getElem (show p < x.state.length by rw [hr.nst]; exact hp)
  rw [getD_some hs]
  exact hr.st p _ _ hs (getD_procs hp)
theorem Right.let0 (hr : Right x) {p : Nat} (hp : p < x.procs.length) : (x.procs.getD p prc0).letters = (lettersP x.procs p : Int) := by
  have := hr.letters p hp
  unfold lettersP at this ⊢
  omega
theorem hist_perm (hr : Right x) (hA : AbN x) {p : Nat} (hp : p < x.procs.length) {l m : List Int} (hl : ∀ a ∈ l, 0 ≤ a ∧ a < (lettersP x.procs p : Int)) (h : l.Perm m) : (histR x p l).1 = (histR x p m).1 ∧ (histR x p l).2.Perm (histR x p m).2 := by
  have hpr := getD_procs hp
  have hck : checkErr (x.procs.getD p prc0) 12 = 0 := checkErr_more (hr.proc p _ hpr)
  exact read_perm (S := (x.procs.getD p prc0).states) (L := (x.procs.getD p prc0).letters) hck (hA p _ hpr) h (by rw [hr.let0 hp]; exact hl) _ (hr.st0 hp)
theorem hist_mono (hr : Right x) (hA : AbN x) {p : Nat} (hp : p < x.procs.length) {l m : List Int} (hm : ∀ a ∈ m, 0 ≤ a ∧ a < (lettersP x.procs p : Int)) (hc : ∀ a, l.count a ≤ m.count a) (q a : Nat) : cntO (histR x p l).2 q a ≤ cntO (histR x p m).2 q a := by
  obtain ⟨r, hp'⟩ := sub_rest l m hc
  rw [cntO_perm (hist_perm hr hA hp hm hp').2]
  unfold histR
  rw [readSpec_app]
  simp only [cntO_app]
  omega
theorem sent_mono (hr : Right x) (hA : AbN x) (hI : InL x hc) (hL : LeH x hs hc) (q a : Nat) : sentN x hs q a ≤ sentN x hc q a :=
  sumN_le fun p hp => hist_mono hr hA hp (hI p hp) (hL p hp) q a
/-- The least action: where a letter may still be read, fewer have been read than by complete histories. -/
theorem least (hr : Right x) (hA : AbN x) (hI : InL x hc) (hC : Compl x hc) (hL : LeH x hs hc) {q a : Nat} (hq : q < x.procs.length) (ha : a < lettersP x.procs q) (h : ((hs q).count (a : Int) : Int) < cellT x.waiting q a + sentN x hs q a) :
    (hs q).count (a : Int) < (hc q).count (a : Int) := by
  have h1 := sent_mono hr hA hI hL q a
  have h2 := hC q a hq ha
  omega
theorem LeH.len (h : LeH x hs hc) {p : Nat} (hp : p < x.procs.length) : (hs p).length ≤ (hc p).length := by
  obtain ⟨r, hr⟩ := sub_rest _ _ (h p hp)
  rw [hr.length_eq, List.length_append]
  omega
theorem LeH.tot (h : LeH x hs hc) : totH x hs ≤ totH x hc := sumN_le fun p hp => h.len hp
/-- A history with one letter more. -/
def upH (hs : Nat → List Int) (p : Nat) (a : Int) : Nat → List Int := fun q => if q = p then hs q ++ [a] else hs q
theorem upH_at (hs : Nat → List Int) (p : Nat) (a : Int) : upH hs p a p = hs p ++ [a] := by simp [upH]
theorem upH_ne (hs : Nat → List Int) {p q : Nat} (a : Int) (h : q ≠ p) : upH hs p a q = hs q := by simp [upH, h]
theorem upH_in {p a : Nat} (h : InL x hs) (ha : a < lettersP x.procs p) : InL x (upH hs p a) := by
  intro q hq b hb
  by_cases hqp : q = p
  · subst hqp
    rw [upH_at] at hb
    rcases List.mem_append.1 hb with hb | hb
    · exact h q hq b hb
    · rw [List.mem_singleton] at hb
      subst hb
      omega
  · rw [upH_ne hs _ hqp] at hb
    exact h q hq b hb
/-- What a processor sends that reads a letter more. -/
theorem hist_snoc (x : Nwk) (p : Nat) (h : List Int) (a : Int) : histR x p (h ++ [a]) = ((ruleAt (x.procs.getD p prc0).rules (histR x p h).1 a).next, (histR x p h).2 ++ (ruleAt (x.procs.getD p prc0).rules (histR x p h).1 a).sent) := by
  unfold histR
  rw [readSpec_app]
  simp [readSpec]
theorem sent_up {p : Nat} (hp : p < x.procs.length) (a : Int) (q b : Nat) : sentN x (upH hs p a) q b = sentN x hs q b + cntO (ruleAt (x.procs.getD p prc0).rules (histR x p (hs p)).1 a).sent q b := by
  unfold sentN
  have h1 := sumN_one (f := fun r => cntO (histR x r (upH hs p a r)).2 q b) (g := fun r => cntO (histR x r (hs r)).2 q b) hp fun r hr hne => by rw [upH_ne hs a hne]
  rw [upH_at, hist_snoc, cntO_app] at h1
  omega

/-- A network behind some moves, with what each processor has read. -/
structure HistI (x : Nwk) (hs : Nat → List Int) (y : Nwk) (ct : List (List Int)) : Prop where
  procs : y.procs = x.procs
  right : Right y
  inl : InL x hs
  st : ∀ p, p < x.procs.length → y.state.getD p 0 = (histR x p (hs p)).1
  ct : ct = (List.range x.procs.length).map fun p => tally (lettersP x.procs p) (hs p)
  wt : ∀ q a, q < x.procs.length → a < lettersP x.procs q → cellT y.waiting q a + ((hs q).count (a : Int) : Int) = cellT x.waiting q a + sentN x hs q a
theorem cellT_bump {t : List (List Int)} {p k : Nat} {l : List Int} {z : Int} (hl : t[p]? = some l) (hz : l[k]? = some z) (y : Int) (q a : Nat) : cellT (bump t p k y) q a = cellT t q a + if q = p ∧ a = k then y else 0 := by
  have hp := (List.getElem?_eq_some_iff.1 hl).1
  have hk := (List.getElem?_eq_some_iff.1 hz).1
  rw [bump_eq hl hz]
  unfold cellT
  by_cases hq : q = p
  · subst hq
    rw [getD_some (show (t.set q (l.set k (z + y)))[q]? = some (l.set k (z + y)) from by rw [List.getElem?_set_self hp]), getD_some hl]
    by_cases ha : a = k
    · subst ha
      rw [getD_some (show (l.set a (z + y))[a]? = some (z + y) from by rw [List.getElem?_set_self hk]), getD_some hz]
      simp
    · rw [if_neg (fun h => ha h.2), List.getD_eq_getElem?_getD, List.getElem?_set_ne (fun e => ha e.symm), ← List.getD_eq_getElem?_getD]
      omega
  · have e : (t.set p (l.set k (z + y))).getD q [] = t.getD q [] := by rw [List.getD_eq_getElem?_getD, List.getElem?_set_ne (fun e => hq e.symm), ← List.getD_eq_getElem?_getD]
    rw [if_neg (fun h => hq h.1), e]
    omega
theorem cellT_adds {wt : List (List Int)} : ∀ (os : List Out) {wt' : List (List Int)} {c : Int}, Shape wt wt' c → (∀ o ∈ os, 0 ≤ o.dst ∧ 0 ≤ o.letter ∧ ∃ l, wt[o.dst.toNat]? = some l ∧ o.letter.toNat < l.length) → ∀ q a : Nat, cellT ((os.map pairO).foldl addO wt') q a = cellT wt' q a + cntO os q a
  | [], wt', c, _, _, q, a => by simp [cntO_nil]
  | o :: r, wt', c, h, ho, q, a => by
    obtain ⟨h0, h0', l, h1, h2⟩ := ho o (by simp)
    have hsh := h.add (o := pairO o) ⟨l, h1, h2⟩
    rw [List.map_cons, List.foldl_cons, cellT_adds r hsh (fun y hy => ho y (by simp [hy])) q a]
    have hi : (pairO o).1.toNat < wt'.length := by rw [h.len]; exact (List.getElem?_eq_some_iff.1 h1).1
    have hl' := List.getElem?_eq_getElem hi
    obtain ⟨l0, h3, h4⟩ := h.row _ _ hl'
    have h3' : wt[o.dst.toNat]? = some l0 := h3
    rw [h1] at h3'
    injection h3' with h3'
    subst h3'
    have hk : (pairO o).2.toNat < (wt'[(pairO o).1.toNat]).length := by rw [h4]; exact h2
    unfold addO
    rw [cellT_bump hl' (List.getElem?_eq_getElem hk)]
    unfold cntO
    rw [List.countP_cons]
    have e : (q = (pairO o).1.toNat ∧ a = (pairO o).2.toNat) ↔ (o.dst = (q : Int) ∧ o.letter = (a : Int)) := by
      unfold pairO
      simp only
      omega
    by_cases hq : o.dst = (q : Int) ∧ o.letter = (a : Int)
    · rw [if_pos (e.2 hq), if_pos (by simpa using hq)]
      push_cast
      omega
    · rw [if_neg (fun h => hq (e.1 h)), if_neg (by simpa using hq)]
      push_cast
      omega
/-- A legal move, with the histories. -/
theorem HistI.move {y : Nwk} {ct : List (List Int)} (h : HistI x hs y ct) {p a : Nat} {l : List Int} {z : Int} (hl : y.waiting[p]? = some l) (ha : l[a]? = some z) (hz : 0 < z) {c : Int} (hc : ∀ t ∈ y.waiting, ∀ z ∈ t, z ≤ c) (hm : c + 16 ≤ 1048576) :
    p < x.procs.length ∧ a < lettersP x.procs p ∧ ((hs p).count (a : Int) : Int) < cellT x.waiting p a + sentN x hs p a ∧ HistI x (upH hs p a) (moveX y p a) (bump ct p a 1) := by
  have hr := h.right
  have hpy : p < y.procs.length := by rw [← hr.nwt]; exact (List.getElem?_eq_some_iff.1 hl).1
  have hp : p < x.procs.length := by rw [← h.procs]; exact hpy
  obtain ⟨l', e1, e2⟩ := hr.row hpy
  rw [hl] at e1
  injection e1 with e1
  subst e1
  have hal := (List.getElem?_eq_some_iff.1 ha).1
  have hL : a < lettersP x.procs p := by rw [← h.procs]; omega
  have hcell : cellT y.waiting p a = z := by unfold cellT; rw [getD_some hl, getD_some ha]
  have hw := h.wt p a hp hL
  obtain ⟨hR, _, _⟩ := moveX_right hr hl ha hz hc hm
  have hst := h.st p hp
  have hstl : p < y.state.length := by rw [hr.nst]; exact hpy
  have hsp : 0 ≤ y.state.getD p 0 ∧ y.state.getD p 0 < statesP y.procs p := hr.st0 hpy
  refine ⟨hp, hL, by omega, rfl.trans h.procs, hR, upH_in h.inl hL, fun q hq => ?_, ?_, fun q b hq hb => ?_⟩
  · show (y.state.set p (nextP y.procs p (y.state.getD p 0) a)).getD q 0 = _
    by_cases hqp : q = p
    · subst hqp
      rw [List.getD_eq_getElem?_getD, List.getElem?_set_self hstl, upH_at, hist_snoc]
      simp only [Option.getD_some, nextP, ruleP, h.procs, hst]
    · rw [List.getD_eq_getElem?_getD, List.getElem?_set_ne (fun e => hqp e.symm), ← List.getD_eq_getElem?_getD, upH_ne hs _ hqp]
      exact h.st q hq
  · rw [h.ct]
    have hg : ((List.range x.procs.length).map fun p => tally (lettersP x.procs p) (hs p))[p]? = some (tally (lettersP x.procs p) (hs p)) := by simp [hp]
    rw [bump_eq hg (tally_get hL)]
    apply List.ext_getElem?
    intro q
    rw [List.getElem?_set]
    by_cases hqp : p = q
    · subst hqp
      rw [if_pos rfl, if_pos (by simp [hp])]
      simp only [List.getElem?_map, List.getElem?_range hp, Option.map_some, upH_at, tally_snoc _ hL]
    · rw [if_neg hqp]
      simp only [List.getElem?_map]
      by_cases hq : q < x.procs.length
      · rw [List.getElem?_range hq]
        simp only [Option.map_some]
        rw [upH_ne hs _ (fun e => hqp e.symm)]
      · rw [List.getElem?_eq_none (by simp; omega)]
        rfl
  · have hrule := hr.rule (p := p) (k := a) (s := y.state.getD p 0) hpy hsp.1 hsp.2 (by rw [h.procs]; exact hL)
    obtain ⟨pr, row, r, _, hgd, _, _, hrr, _, _, hout⟩ := hrule
    have hsent : sentP y.procs p (y.state.getD p 0) a = r.sent.map pairO := by unfold sentP; rw [hrr]
    have hrat : (ruleAt (x.procs.getD p prc0).rules (histR x p (hs p)).1 (a : Int)) = r := by rw [← hrr, ← hst, ← h.procs]; rfl
    have h1 : Shape y.waiting (bump y.waiting p a (-1)) (max c 0) := by
      rw [bump_eq hl ha]
      have hsh := (hr.shape hc).put (c' := max c 0) (by omega) hl hal (y := z + -1) (by have := hc l (List.mem_of_getElem? hl) z (List.mem_of_getElem? ha); omega)
      exact hsh
    show cellT ((sentP y.procs p (y.state.getD p 0) a).foldl addO (bump y.waiting p a (-1))) q b + _ = _
    rw [hsent, cellT_adds r.sent h1 (fun o ho => by
      obtain ⟨o1, o2, o3⟩ := hout o ho
      have hd : o.dst.toNat < y.procs.length := by omega
      obtain ⟨l2, m1, m2⟩ := hr.row hd
      exact ⟨o1.1, o2, l2, m1, by omega⟩), cellT_bump hl ha, sent_up hp, hrat]
    have hwq := h.wt q b hq hb
    by_cases hqp : q = p
    · subst hqp
      rw [upH_at, List.count_append, List.count_singleton]
      by_cases hab : b = a
      · subst hab
        simp
        omega
      · have : ¬ ((a : Int) = (b : Int)) := by omega
        simp [hab, this]
        omega
    · rw [upH_ne hs _ hqp, if_neg (fun e => hqp e.1)]
      push_cast
      omega
/-- Where no move is left, the histories are complete. -/
theorem moves_nil {wt : List (List Int)} (h : movesS wt = []) {q a : Nat} : cellT wt q a ≤ 0 := by
  unfold cellT
  by_cases hq : q < wt.length
  · by_cases ha : a < (wt.getD q []).length
    · by_cases h0 : (wt.getD q []).getD a 0 ≤ 0
      · exact h0
      · exfalso
        have hm : (q, a) ∈ movesS wt := by
          unfold movesS rowMv
          refine List.mem_flatMap.2 ⟨q, List.mem_range.2 hq, List.mem_map.2 ⟨a, List.mem_filter.2 ⟨List.mem_range.2 ha, ?_⟩, rfl⟩⟩
          simpa using h0
        rw [h] at hm
        cases hm
    · rw [List.getD_eq_getElem?_getD, List.getElem?_eq_none (by omega)]
      simp
  · rw [show wt.getD q [] = [] from by rw [List.getD_eq_getElem?_getD, List.getElem?_eq_none (by omega)]; rfl]
    simp
end

theorem LeH.nil (x : Nwk) (hc : Nat → List Int) : LeH x (fun _ => []) hc := fun p _ a => by simp
end Go.Proofs.YtnigfddanoaonaaGreat

set_option linter.unusedVariables false
set_option linter.unusedSimpArgs false
namespace Go.Proofs.YtnigfddanoaonaaGreat
open Go.RowKit

theorem fldW (a b c : Value) (w : World) : Sem.run Tryz.prog (Instr.field 26 (.agg #[a, b, c]) 2) w = .ok c w := by kernel_rfl
def addOs (t : List (List Int)) (os : List Out) : List (List Int) := (os.map pairO).foldl addO t
theorem addOs_app (t : List (List Int)) (a b : List Out) : addOs t (a ++ b) = addOs (addOs t a) b := by unfold addOs; rw [List.map_append, List.foldl_append]
theorem word_take : ∀ (l : List Int) (k a : Nat) (z : Int), l[a]? = some z → wordFrom k (l.take (a + 1)) = wordFrom k (l.take a) ++ List.replicate z.toNat ((k + a : Nat) : Int)
  | [], _, _, _, h => by simp at h
  | x :: r, k, 0, z, h => by
    simp at h
    subst h
    simp [wordFrom]
  | x :: r, k, a + 1, z, h => by
    simp only [List.take_succ_cons, wordFrom]
    rw [word_take r (k + 1) a z (by simpa using h), List.append_assoc, show k + 1 + a = k + (a + 1) from by omega]
def ctW (ct : List (List Int)) (p : Nat) : List Int := wordFrom 0 (ct.getD p [])
/-- What waits at first, and what is sent by the first p processors. -/
def totP (x : Nwk) (ct : List (List Int)) : Nat → List (List Int)
  | 0 => x.waiting
  | p + 1 => addOs (totP x ct p) (histR x p (ctW ct p)).2
def doneB (x : Nwk) (ct : List (List Int)) : Bool := (List.range ct.length).all fun p => (List.range (ct.getD p []).length).all fun a => decide (cellT (totP x ct ct.length) p a ≤ cellT ct p a)
def compR (x : Nwk) (ct : List (List Int)) : Bool × Int :=
  if (nabR x).2 = 0 then (if (nabR x).1 = true then (if cntErr x ct = 0 then (doneB x ct, 0) else (false, cntErr x ct)) else (false, 15)) else (false, (nabR x).2)
theorem leftE_zero : ∀ {l : List Int} {left : Int}, leftE left l = 0 → ∀ z ∈ l, (∀ y ∈ l, 0 ≤ y) → z ≤ left
  | [], _, _, z, hz, _ => by cases hz
  | k :: r, left, h, z, hz, h0 => by
    unfold leftE at h
    split at h
    · cases h
    · rcases List.mem_cons.1 hz with rfl | hz
      · omega
      · have := leftE_zero h z hz fun y hy => h0 y (by simp [hy])
        have := h0 k (by simp)
        omega
/-- Right counts. -/
theorem cnt_zero {x : Nwk} {ct : List (List Int)} (h : cntErr x ct = 0) : ct.length = x.procs.length ∧ (∀ (p : Nat) (l : List Int) (pr : Prc), ct[p]? = some l → x.procs[p]? = some pr → (l.length : Int) = pr.letters) ∧ (∀ l ∈ ct, ∀ z ∈ l, 0 ≤ z ∧ z ≤ 4096) := by
  unfold cntErr at h
  split at h
  · rename_i hs
    split at h
    · cases h
    · rename_i hn
      unfold shapedErr at hs
      split at hs
      · rename_i hl
        have hnn : ∀ l ∈ ct, ∀ z ∈ l, 0 ≤ z := fun l hl z hz => by
          have h1 : ct.any negB = false := by simpa using hn
          rw [List.any_eq_false] at h1
          have h2 := h1 l hl
          unfold negB at h2
          simp at h2
          exact h2 z hz
        refine ⟨hl, shapesErr_zero hs, fun l hl z hz => ⟨hnn l hl z hz, ?_⟩⟩
        exact leftE_zero h z (List.mem_flatten.2 ⟨l, hl, hz⟩) fun y hy => by
          obtain ⟨l2, h1, h2⟩ := List.mem_flatten.1 hy
          exact hnn l2 h1 y h2
      · cases hs
  · rename_i hx; exact absurd h hx

theorem doneB_false {x : Nwk} {ct : List (List Int)} {p a : Nat} (hp : p < ct.length) (ha : a < (ct.getD p []).length) (h : ¬ cellT (totP x ct ct.length) p a ≤ cellT ct p a) : doneB x ct = false := by
  unfold doneB
  rw [List.all_eq_false]
  refine ⟨p, List.mem_range.2 hp, ?_⟩
  rw [Bool.not_eq_true, List.all_eq_false]
  exact ⟨a, List.mem_range.2 ha, by simpa using h⟩
theorem doneB_true {x : Nwk} {ct : List (List Int)} (h : ∀ p, p < ct.length → ∀ a, a < (ct.getD p []).length → cellT (totP x ct ct.length) p a ≤ cellT ct p a) : doneB x ct = true := by
  unfold doneB
  rw [List.all_eq_true]
  intro p hp
  rw [List.all_eq_true]
  intro a ha
  exact decide_eq_true (h p (List.mem_range.1 hp) a (List.mem_range.1 ha))
theorem Shape.mono {wt wt' : List (List Int)} {c c' : Int} (h : Shape wt wt' c) (hc : c ≤ c') : Shape wt wt' c' := ⟨h.len, h.row, fun l hl z hz => by have := h.num l hl z hz; omega⟩
theorem word_in {l : List Int} {L : Nat} (hl : l.length = L) : ∀ a ∈ wordFrom 0 l, 0 ≤ a ∧ a < (L : Int) := fun a ha => by
  have h1 := List.count_pos_iff.2 ha
  rw [wordFrom_count] at h1
  split at h1
  · omega
  · omega
theorem hist_range {x : Nwk} (hr : Right x) {p : Nat} (hp : p < x.procs.length) {h : List Int} (hh : ∀ a ∈ h, 0 ≤ a ∧ a < (lettersP x.procs p : Int)) : 0 ≤ (histR x p h).1 ∧ (histR x p h).1 < statesP x.procs p := by
  have hpr := getD_procs hp
  exact read_range (S := (x.procs.getD p prc0).states) (L := (x.procs.getD p prc0).letters) (checkErr_more (hr.proc p _ hpr)) h _ (hr.st0 hp) (by rw [hr.let0 hp]; exact hh)
set_option maxRecDepth 100000 in
set_option maxHeartbeats 8000000 in
theorem ncomplete_any (x : Nwk) (op : Option Addr) (cp : Nat) (os : Option Addr) (cs : Nat) (ow : Option Addr) (cw : Nat) (F : Foot) (w : World) (hp : SliceR prcR 3 F w op x.procs) (hp2 : x.procs.length ≤ 1000000) (hs : SliceR intR 1 F w os x.state) (hs2 : x.state.length ≤ 1000000) (ht : SliceR (slcR intR 1) 1 F w ow x.waiting) (ht2 : x.waiting.length ≤ 1000000)
    (ct : List (List Int)) (ot : Option Addr) (cc : Nat) (G : Foot) (hct : SliceR (slcR intR 1) 1 G w ot ct) (hcl : ct.length ≤ cc) (hc2 : ct.length ≤ 1000000) :
    Calls Tryz.prog 17 #[.agg #[.slice op x.procs.length cp, .slice os x.state.length cs, .slice ow x.waiting.length cw], .slice ot ct.length cc] w fun e w' => e = .returned (.tuple #[.bool (compR x ct).1, .int .i64 (compR x ct).2]) ∧ Below w.heap.size w w' := by
  obtain ⟨W1, e1⟩ : ∃ W1, w.alloc (.cells #[.slice op x.procs.length cp, .slice os x.state.length cs, .slice ow x.waiting.length cw] 26) = W1 := ⟨_, rfl⟩
  have bx1 : Box W1 w.heap.size [.slice op x.procs.length cp, .slice os x.state.length cs, .slice ow x.waiting.length cw] 26 := by rw [← e1]; exact Box.new w [.slice op x.procs.length cp, .slice os x.state.length cs, .slice ow x.waiting.length cw] 26
  have bb1 := bnew (Below.refl w.heap.size w) (.cells #[.slice op x.procs.length cp, .slice os x.state.length cs, .slice ow x.waiting.length cw] 26)
  rw [e1] at bb1
  have HX1 := hide bx1
  have HB1 := hide bb1
  have d0 := bx1.cell 0
  have d1 := bx1.cell 1
  have d2 := bx1.cell 2
  simp only [List.getElem?_cons_zero, List.getElem?_cons_succ] at d0 d1 d2
  have HAB := hide (nabelian_any x op cp os cs ow cw F W1 (hp.below prcR_ok bb1) hp2 (hs.below intR_ok bb1) hs2 (ht.below (slcR_ok intR_ok (by decide)) bb1) ht2)
  obtain ⟨A, hA⟩ : ∃ A, A = nabR x := ⟨_, rfl⟩
  rw [← hA] at HAB
  have HA := hide hA
  obtain ⟨ab, ae⟩ := A
  have HP := hide hp
  have HS := hide hs
  have HTW := hide ht
  have HCT := hide hct
  clear hA hp hs ht hct bx1 bb1
  by_cases h0 : ae = 0
  · subst h0
    cases ab
    · have HR : Hid (compR x ct = (false, 15)) := by
        show _ = _
        unfold compR
        rw [← HA.out]
        rfl
      go_enter Tryz.func17, Tryz.ntmps17
      go_wp2_with (go_at_call 30; refine HAB.out.mono ?_; rintro e w2 ⟨rfl, hb2⟩; have HB2 := hide (HB1.out.trans (hb2.mono HB1.out.size)); clear hb2)
      go_ret2
      exact ⟨by rw [HR.out]; rfl, HB2.out⟩
    · have HR : Hid (compR x ct = if cntErr x ct = 0 then (doneB x ct, 0) else (false, cntErr x ct)) := by
        show _ = _
        unfold compR
        rw [← HA.out]
        rfl
      have hz : netErr x = 0 := by
        have h1 := HA.out
        unfold nabR at h1
        split at h1
        · assumption
        · cases h1
      have hr := netErr_zero hz
      have HRT := hide hr
      have HCN := hide (fun (u : World) (hu : Below w.heap.size w u) => ncounted_any x op cp os x.state.length cs ow x.waiting.length cw ct ot cc F G u (HP.out.below prcR_ok hu) hp2 (HCT.out.below (slcR_ok intR_ok (by decide)) hu) hc2 hcl)
      by_cases hce : cntErr x ct = 0
      · have HR2 : Hid (compR x ct = (doneB x ct, 0)) := by show _ = _; rw [HR.out, if_pos hce]
        have HCZ := hide (cnt_zero hce)
        rw [hce] at HCN
        have HCP := hide (fun (u : World) (hu : Below w.heap.size w u) => ncopied_any x op cp os cs ow cw F u (HP.out.below prcR_ok hu) (HS.out.below intR_ok hu) (HTW.out.below (slcR_ok intR_ok (by decide)) hu) hr)
        have hst := hr.nst
        have hwt := hr.nwt
        rw [hst] at d1 e1 HX1 HAB HCN ⊢
        rw [hwt] at d2 e1 HX1 HAB HCN ⊢
        obtain ⟨n, hn⟩ : ∃ n, n = x.procs.length := ⟨_, rfl⟩
        have h12 : 1 ≤ n ∧ n ≤ 12 := by rw [hn]; exact hr.n
        have hcn := HCZ.out.1
        have HN := hide hn
        have HCNN := hide hcn
        clear hce hr hz hst hwt hn hcn
        have hfl := fldW
        go_enter Tryz.func17, Tryz.ntmps17
        go_wp2_with (first
          | (go_at_call 30; refine HAB.out.mono ?_; rintro e w2 ⟨rfl, hb2⟩; have x2 := HX1.out.below hb2; have y0 := x2.cell 0; have y1 := x2.cell 1; have y2 := x2.cell 2; simp only [List.getElem?_cons_zero, List.getElem?_cons_succ] at y0 y1 y2; have HL2 := hide hb2; have HB2 := hide (HB1.out.trans (hb2.mono HB1.out.size)); clear hb2 x2)
          | (go_at_call 49; refine (HCN.out _ HB2.out).mono ?_; rintro e w3 ⟨rfl, hb3⟩; have HL3 := hide (HL2.out.trans (hb3.mono HL2.out.size)); have x2 := HX1.out.below HL3.out; have y0 := x2.cell 0; have y1 := x2.cell 1; have y2 := x2.cell 2; simp only [List.getElem?_cons_zero, List.getElem?_cons_succ] at y0 y1 y2; have HB3 := hide (HB2.out.trans (hb3.mono HB2.out.size)); clear hb3 x2)
          | (go_at_call 50; refine (HCP.out _ HB3.out).mono ?_; rintro e w4 ⟨vp, tw, rs, K, H, gs, rfl, hgs, hgK, hKH, _, _, hPo, _, htab, htabs, hb4⟩; obtain ⟨oV, cV, hvp, _, _⟩ := hPo.slice prcR_ok; obtain ⟨oT, cT, htw, _⟩ := htab.len; subst hvp htw; have hWH : W1.heap.size ≤ H := (by have := HL3.out.size; omega); have HTAB := hide htab; have HTABS := hide htabs; have HL4 := hide (HL3.out.trans (hb4.mono HL3.out.size)); clear htab htabs hb4 hPo))
        obtain ⟨nT, hnT⟩ : ∃ nT, nT = rs.length := ⟨_, rfl⟩
        have hnT12 : nT = ct.length := by
          have h1 := congrArg List.length HTABS.out
          unfold tabL at h1
          rw [List.length_map] at h1
          rw [hnT, h1, HRT.out.nwt, HCNN.out]
        rw [← hnT] at HTAB ⊢
        have HNT := hide hnT12
        have hnc : ct.length ≤ 12 := by rw [HCNN.out]; have := HN.out; omega
        clear hnT hnT12 y0 y1 y2
        go_loopg [43] ct.length (fun gm iv wx => ∃ (p : Nat) (rs' : List Rw), p ≤ ct.length ∧ gm = ct.length - p ∧ iv = .int .i64 p ∧ Hid (RTab H (.slice oT nT cT) rs' wx) ∧ Hid (tabL rs' = totP x ct p) ∧ Hid (Shape x.waiting (totP x ct p) (1048576 + 524288 * p)) ∧ Hid (Below W1.heap.size W1 wx))
        case atStart => exact ⟨0, rs, by omega, by omega, rfl, HTAB.out, HTABS.out, HRT.out.shape fun t ht z hz => by have := HRT.out.wb t ht z hz; omega, HL4.out⟩
        case round =>
          obtain ⟨p, rs', hpc, hgm, rfl, HT, HTL, HSH, HB⟩ := hrel
          have HGM := hide hgm
          clear hgm
          have hx1 := HX1.out.below HB.out
          have y0 := hx1.cell 0
          have y1 := hx1.cell 1
          simp only [List.getElem?_cons_zero, List.getElem?_cons_succ] at y0 y1
          have hbw : Below w.heap.size w wr := HB1.out.trans (HB.out.mono HB1.out.size)
          by_cases hlt : p < ct.length
          · obtain ⟨l, _, hl, b, off, ol, cl, hot, _, c0w, hcll, _, hsl⟩ := HCT.out.slc_at hlt
            subst hot
            have c0 := (hbw.cell (World.block_lt_of_cell? _ _ c0w)).trans c0w
            have hpn : p < x.procs.length := by rw [← HCNN.out]; exact hlt
            obtain ⟨s0, _, hs0, _, b2, off2, hos, _, c1⟩ := (HS.out.below intR_ok hbw).int_at (i := p) (by rw [HRT.out.nst]; exact hpn)
            subst hos
            have hlL : l.length = lettersP x.procs p := by
              have h1 := HCZ.out.2.1 p l _ hl (getD_procs hpn)
              rw [HRT.out.let0 hpn] at h1
              omega
            have hL8 := (HRT.out.letters p hpn).2
            have hsl2 : p < x.state.length := by rw [HRT.out.nst]; exact hpn
            have HLW := hide hl
            have HSZ0 : Hid (s0 = (histR x p []).1) := by show _ = _; unfold histR readSpec; rw [getD_some hs0]
            have HLZ := hide (HCZ.out.2.2 l (List.mem_of_getElem? hl))
            obtain ⟨ln, hln⟩ : ∃ ln, ln = l.length := ⟨_, rfl⟩
            have hln8 : ln ≤ 8 := by omega
            have HLN := hide hln
            have HLL := hide hlL
            have HSL0 := hide hsl
            obtain ⟨S7, L7, rls, b7, off7, oR, cR, _, hpr7, hoP, _, _, _, yy2, _, _, hrc7, _, hrs7⟩ := HP.out.prc_at hpn
            subst hoP
            have HPR7 := hide hpr7
            have HRS7 := hide hrs7
            have hpn12 : p < x.procs.length := hpn
            obtain ⟨wl, hwl⟩ : ∃ wl : World, wl = wr := ⟨_, rfl⟩
            subst hwl
            rw [← hln] at c0 hcll
            have HBo := hide HB.out
            clear hl hs0 hlL hL8 hln hsl hbw hx1 hpr7 hrs7 c0w
            go_wp2_with fail
            go_loopg [12, 55] ln (fun gm sv av wx => ∃ (a : Nat) (s : Int) (rs' : List Rw), a ≤ ln ∧ gm = ln - a ∧ av = .int .i64 a ∧ sv = .int .i64 s ∧ Hid (s = (histR x p (wordFrom 0 (l.take a))).1) ∧ Hid (RTab H (.slice oT nT cT) rs' wx) ∧ Hid (tabL rs' = addOs (totP x ct p) (histR x p (wordFrom 0 (l.take a))).2) ∧ Hid (Shape x.waiting (tabL rs') (1048576 + 524288 * p + 65536 * a)) ∧ Hid (Below W1.heap.size W1 wx))
            case atStart => exact ⟨0, s0, rs', by omega, by omega, rfl, rfl, HSZ0.out, HT.out, by rw [HTL.out]; rfl, by show Shape _ _ _; rw [HTL.out]; exact HSH.out.mono (by omega), HB.out⟩
            case round =>
              obtain ⟨a, s, rs1, ha, hgm, rfl, rfl, HS1, HT1, HTL1, HSH1, HBa⟩ := hrel
              have HGMa := hide hgm
              clear hgm
              by_cases hal : a < ln
              · have hbwx : Below w.heap.size w wr := HB1.out.trans (HBa.out.mono HB1.out.size)
                obtain ⟨z, _, hzg, _, b3, off3, hol, _, c2⟩ := (HSL0.out.below intR_ok hbwx).int_at (i := a) (by rw [← HLN.out]; exact hal)
                subst hol
                have hz0 := HLZ.out z (List.mem_of_getElem? hzg)
                obtain ⟨zn, rfl⟩ := Int.eq_ofNat_of_zero_le hz0.1
                have hz4 : zn ≤ 4096 := by omega
                have HWT : Hid (wordFrom 0 (l.take (a + 1)) = wordFrom 0 (l.take a) ++ List.replicate zn (a : Int)) := by
                  have h1 := word_take l 0 a (zn : Int) hzg
                  rw [Nat.zero_add] at h1
                  exact h1
                obtain ⟨W0, hW0⟩ : ∃ W0, W0 = wordFrom 0 (l.take a) := ⟨_, rfl⟩
                rw [← hW0] at HS1 HTL1 HWT
                have HIN : Hid (∀ y ∈ W0, 0 ≤ y ∧ y < (a : Int)) := by
                  show ∀ y ∈ W0, _
                  rw [hW0]
                  exact word_in (by rw [List.length_take, ← HLN.out]; omega)
                clear hzg hz0 hW0 hbwx
                go_wp2_with fail
                go_loopg [12, 61] zn (fun gm sv jv wx => ∃ (j : Nat) (s : Int) (rs2 : List Rw), j ≤ zn ∧ gm = zn - j ∧ jv = .int .i64 j ∧ sv = .int .i64 s ∧ Hid (s = (histR x p (W0 ++ List.replicate j (a : Int))).1) ∧ Hid (RTab H (.slice oT nT cT) rs2 wx) ∧ Hid (tabL rs2 = addOs (totP x ct p) (histR x p (W0 ++ List.replicate j (a : Int))).2) ∧ Hid (Shape x.waiting (tabL rs2) (1048576 + 524288 * p + 65536 * a + 16 * j)) ∧ Hid (Below W1.heap.size W1 wx))
                case atStart => exact ⟨0, s, rs1, by omega, by omega, rfl, rfl, by show _ = _; rw [List.replicate_zero, List.append_nil]; exact HS1.out, HT1.out, by show _ = _; rw [List.replicate_zero, List.append_nil]; exact HTL1.out, HSH1.out.mono (by omega), HBa.out⟩
                case round =>
                  obtain ⟨j, s, rs2, hj, hgm, rfl, rfl, HS2, HT2, HTL2, HSH2, HBj⟩ := hrel
                  have HGMj := hide hgm
                  clear hgm
                  by_cases hjl : j < zn
                  · have haL : a < lettersP x.procs p := by rw [← HLL.out, ← HLN.out]; exact hal
                    have hin : ∀ y ∈ W0 ++ List.replicate j (a : Int), 0 ≤ y ∧ y < (lettersP x.procs p : Int) := fun y hy => by
                      rcases List.mem_append.1 hy with hy | hy
                      · have := HIN.out y hy; omega
                      · have := List.eq_of_mem_replicate hy; omega
                    have hrg := hist_range HRT.out hpn12 hin
                    rw [← HS2.out] at hrg
                    obtain ⟨pr, row, r, q1, q2, q3, q4, q5, q6, q7, q8⟩ := HRT.out.rule (p := p) (k := a) (s := s) hpn12 hrg.1 hrg.2 haL
                    obtain ⟨sn, hsn⟩ := Int.eq_ofNat_of_zero_le hrg.1
                    subst hsn
                    rw [HPR7.out] at q1
                    injection q1 with q1
                    subst q1
                    simp only [Int.toNat_natCast] at q3
                    have HHS : Hid (histR x p (W0 ++ List.replicate (j + 1) (a : Int)) = (r.next, (histR x p (W0 ++ List.replicate j (a : Int))).2 ++ r.sent)) := by
                      show _ = _
                      rw [List.replicate_succ', ← List.append_assoc, hist_snoc, ← HS2.out]
                      have h5 : ruleAt (x.procs.getD p prc0).rules (sn : Int) (a : Int) = r := q5
                      rw [h5]
                    have hbwx : Below w.heap.size w wr := HB1.out.trans (HBj.out.mono HB1.out.size)
                    have hsl9 : sn < rls.length := (List.getElem?_eq_some_iff.1 q3).1
                    obtain ⟨row2, _, hr2, b8, off8, oa2, cc2, hoR, _, c8w, hcc2, _, hs8⟩ := HRS7.out.slc_at hsl9
                    subst hoR
                    rw [q3] at hr2
                    injection hr2 with hr2
                    subst hr2
                    have hal2 : a < row.length := (List.getElem?_eq_some_iff.1 q4).1
                    obtain ⟨nx, st, _, x1, x2, b9, off9, oS, cS, hoa2, x3, x4w, x5w, x6, x7, x8⟩ := hs8.rule_at hal2
                    subst hoa2
                    rw [q4] at x1
                    injection x1 with x1
                    subst x1
                    have c8 := (hbwx.cell (World.block_lt_of_cell? _ _ c8w)).trans c8w
                    have x4 := (hbwx.cell (World.block_lt_of_cell? _ _ x4w)).trans x4w
                    have x5 := (hbwx.cell (World.block_lt_of_cell? _ _ x5w)).trans x5w
                    have y7 := (hbwx.cell (World.block_lt_of_cell? _ _ yy2)).trans yy2
                    clear c8w x4w x5w
                    have hx1 := HX1.out.below HBj.out
                    have y0 := hx1.cell 0
                    simp only [List.getElem?_cons_zero] at y0
                    have HQ8 := hide q8
                    have HST9 := hide x8
                    have hq7 : st.length ≤ 16 := q7
                    obtain ⟨sl, hsl⟩ : ∃ sl, sl = st.length := ⟨_, rfl⟩
                    have HSLN := hide hsl
                    rw [← hsl] at x5 hq7 x6 x7
                    clear q2 q3 q4 q5 q6 q7 q8 hin hrg hs8 x8 hx1 hsl haL
                    go_wp2_with fail
                    obtain ⟨W5, e5⟩ : ∃ W5, wr.alloc (.cells #[.int .i64 nx, .slice oS sl cS] 99) = W5 := ⟨_, rfl⟩
                    have bb5 : Below wr.heap.size wr W5 := by rw [← e5]; exact bnew (Below.refl _ _) _
                    have HT5 := hide (HT2.out.below bb5)
                    have HB5 : Hid (Below W1.heap.size W1 W5) := HBj.out.trans (bb5.mono HBj.out.size)
                    have HZ5 := hide bb5.size
                    rw [e5]
                    clear e5 bb5 c8 x4 x5 y7 y0 hbwx
                    go_loopg [80] sl (fun gm qv wx => ∃ (qn : Nat) (rs3 : List Rw), qn ≤ sl ∧ gm = sl - qn ∧ qv = .int .i64 qn ∧ Hid (RTab H (.slice oT nT cT) rs3 wx) ∧ Hid (tabL rs3 = addOs (tabL rs2) (st.take qn)) ∧ Hid (Shape x.waiting (tabL rs3) (1048576 + 524288 * p + 65536 * a + 16 * j + qn)) ∧ Hid (Below W1.heap.size W1 wx))
                    case atStart => exact ⟨0, rs2, by omega, by omega, rfl, HT5.out, rfl, HSH2.out.mono (by omega), HB5.out⟩
                    case round =>
                      obtain ⟨qn, rs3, hq, hgm, rfl, HT3, HTL3, HSH3, HBq⟩ := hrel
                      have HGMq := hide hgm
                      clear hgm
                      by_cases hql : qn < sl
                      · have hbwq : Below w.heap.size w wr := HB1.out.trans (HBq.out.mono HB1.out.size)
                        obtain ⟨tt, le, _, hxo, it, il, b6, off6, hoS, _, oc0, oc1⟩ := (HST9.out.below outR_ok hbwq).out_at (i := qn) (by rw [← HSLN.out]; exact hql)
                        subst hoS
                        obtain ⟨⟨m1, m2⟩, m3, m4⟩ := HQ8.out _ (List.mem_of_getElem? hxo)
                        simp only at m1 m2 m3 m4
                        obtain ⟨tn, rfl⟩ := Int.eq_ofNat_of_zero_le m1
                        obtain ⟨lq, rfl⟩ := Int.eq_ofNat_of_zero_le m3
                        simp only [Int.toNat_natCast] at m4
                        have htn : tn < x.procs.length := by omega
                        obtain ⟨lw, hlw, hlwl⟩ := HRT.out.row htn
                        obtain ⟨l0, hl0⟩ : ∃ l0, (tabL rs3)[tn]? = some l0 := ⟨_, List.getElem?_eq_getElem (by rw [HSH3.out.len, HRT.out.nwt]; exact htn)⟩
                        have hl0l : l0.length = lettersP x.procs tn := by
                          obtain ⟨l1, h1, h2⟩ := HSH3.out.row tn l0 hl0
                          rw [hlw] at h1
                          injection h1 with h1
                          rw [h2, ← h1, hlwl]
                        have hlq : lq < l0.length := by omega
                        obtain ⟨zc, hzc⟩ : ∃ zc, l0[lq]? = some zc := ⟨_, List.getElem?_eq_getElem hlq⟩
                        have hzcb := HSH3.out.num l0 (List.mem_of_getElem? hl0) zc (List.mem_of_getElem? hzc)
                        have hzb : 0 ≤ zc ∧ zc ≤ 20000000 := by omega
                        obtain ⟨r6, hr6, hrl6⟩ : ∃ r6, rs3[tn]? = some r6 ∧ r6.l = l0 := by
                          have h1 := hl0
                          unfold tabL at h1
                          rw [List.getElem?_map, Option.map_eq_some_iff] at h1
                          exact h1
                        obtain ⟨W6, e6⟩ : ∃ W6, wr.alloc (.cells #[.int .i64 tn, .int .i64 lq] 102) = W6 := ⟨_, rfl⟩
                        have bx6 : Box W6 wr.heap.size [.int .i64 tn, .int .i64 lq] 102 := by rw [← e6]; exact Box.new wr [.int .i64 tn, .int .i64 lq] 102
                        have bb6 := bnew (Below.refl wr.heap.size wr) (.cells #[.int .i64 tn, .int .i64 lq] 102)
                        rw [e6] at bb6
                        have hT6 := HT3.out.below bb6
                        have HB6 : Hid (Below W1.heap.size W1 W6) := HBq.out.trans (bb6.mono HBq.out.size)
                        obtain ⟨gc, capc, htc, hcc9, hBg, cr0, hrow7, hBr, hrc9, hrne⟩ := hT6.get hr6
                        injection htc with htc htn9 htcap
                        subst htc htcap
                        rw [hrl6] at cr0 hrow7 hrc9
                        have cr1 := hrow7.cell (i := lq) (x := zc) hzc
                        have fr1 := hrow7.free lq
                        have k60 := bx6.cell 0
                        have k61 := bx6.cell 1
                        simp only [List.getElem?_cons_zero, List.getElem?_cons_succ] at k60 k61
                        have htnT : tn < nT := by
                          have h1 := (List.getElem?_eq_some_iff.1 hr6).1
                          omega
                        have HT6 := hide hT6
                        have HCT6 := hide (And.intro hl0 (And.intro hzc (And.intro hr6 (And.intro hrl6 (And.intro hlq hxo)))))
                        obtain ⟨cn, hcn⟩ : ∃ cn, cn = l0.length := ⟨_, rfl⟩
                        unfold slV at cr0
                        rw [← hcn] at cr0 hrc9 hlq
                        have hcn8 : cn ≤ 8 := by
                          rw [hcn, hl0l]
                          exact (HRT.out.letters tn htn).2
                        have lz0 := World.block_lt_of_cell? _ _ cr0
                        have lz1 := World.block_lt_of_cell? _ _ cr1
                        have lz2 := World.block_lt_of_cell? _ _ k60
                        simp only at lz0 lz1 lz2
                        have HBR := hide hBr
                        clear hl0 hzc hr6 hrl6 hcn hlw hlwl hl0l hxo htn9 bx6 bb6 hT6 hrow7 hcc9 hBg hrne hBr hbwq hzcb htn
                        go_wp2_with fail
                        go_region
                        obtain ⟨W7, e7⟩ : ∃ W7, (W6.setCell ⟨r6.g, lq, none⟩ (.int .i64 (zc + 1))).drew = W7 := ⟨_, rfl⟩
                        obtain ⟨hl0, hzc, hr6, hrl6, hlq0, hxo⟩ := HCT6.out
                        have HT7 : Hid (RTab H (.slice (some ⟨gc, 0, none⟩) nT cT) (rwSet rs3 tn (l0.set lq (zc + 1))) W7) := by
                          show RTab _ _ _ _
                          rw [← e7]
                          have := HT6.out.put hr6 (k := lq) (by rw [hrl6]; exact hlq0) (zc + 1)
                          rw [hrl6] at this
                          exact this.draw
                        have HB7 : Hid (Below W1.heap.size W1 W7) := by
                          show Below _ _ _
                          rw [← e7]
                          exact (HB6.out.setCell (by have := HBR.out; simp only; omega) _).drew
                        have HTL7 : Hid (tabL (rwSet rs3 tn (l0.set lq (zc + 1))) = addOs (tabL rs2) (st.take (qn + 1))) := by
                          show _ = _
                          rw [List.take_add_one, hxo, addOs_app, ← HTL3.out, tabL_set]
                          show _ = addO (tabL rs3) (pairO ⟨(tn : Int), (lq : Int)⟩)
                          unfold addO pairO
                          simp only [Int.toNat_natCast]
                          exact (bump_eq hl0 hzc 1).symm
                        have HSH7 : Hid (Shape x.waiting (tabL (rwSet rs3 tn (l0.set lq (zc + 1)))) (1048576 + 524288 * p + 65536 * a + 16 * j + (qn + 1 : Nat))) := by
                          show Shape _ _ _
                          rw [tabL_set]
                          have hz9 := HSH3.out.num l0 (List.mem_of_getElem? hl0) zc (List.mem_of_getElem? hzc)
                          exact HSH3.out.put (by push_cast; omega) hl0 hlq0 (by push_cast; omega)
                        rw [e7]
                        clear e7 cr0 cr1 fr1 k60 k61 lz0 lz1 lz2 hl0 hzc hr6 hrl6 hxo
                        go_wp2_with fail
                        go_roundg (sl - (qn + 1))
                        case measure => have := HGMq.out; omega
                        case rel => exact ⟨qn + 1, _, by omega, rfl, by go_num, HT7.out, HTL7.out, HSH7.out, HB7.out⟩
                      · have hqe : qn = sl := by omega
                        have HF : Hid (tabL rs3 = addOs (totP x ct p) (histR x p (W0 ++ List.replicate (j + 1) (a : Int))).2) := by
                          show _ = _
                          rw [HHS.out, addOs_app, ← HTL2.out, HTL3.out, List.take_of_length_le (by rw [← HSLN.out]; omega)]
                        clear hqe
                        go_wp2_with fail
                        go_roundg (zn - (j + 1))
                        case measure => have := HGMj.out; omega
                        case rel => exact ⟨j + 1, nx, rs3, by omega, rfl, by go_num, rfl, by show _ = _; rw [HHS.out], HT3.out, HF.out, HSH3.out.mono (by push_cast; omega), HBq.out⟩
                  · have hje : j = zn := by omega
                    subst hje
                    rw [← HWT.out] at HS2 HTL2
                    go_wp2_with fail
                    go_roundg (ln - (a + 1))
                    case measure => have := HGMa.out; omega
                    case rel => exact ⟨a + 1, s, rs2, by omega, rfl, by go_num, rfl, HS2.out, HT2.out, HTL2.out, HSH2.out.mono (by push_cast; omega), HBj.out⟩
              · have hae : a = ln := by omega
                have HTP : Hid (tabL rs1 = totP x ct (p + 1)) := by
                  show _ = _
                  rw [HTL1.out, hae, List.take_of_length_le (by rw [← HLN.out]; omega)]
                  show _ = addOs (totP x ct p) (histR x p (ctW ct p)).2
                  unfold ctW
                  rw [getD_some HLW.out]
                have HSH2 : Hid (Shape x.waiting (totP x ct (p + 1)) (1048576 + 524288 * (p + 1 : Nat))) := by
                  show Shape _ _ _
                  rw [← HTP.out]
                  exact HSH1.out.mono (by push_cast; omega)
                clear hae
                go_wp2_with fail
                go_roundg (ct.length - (p + 1))
                case measure => have := HGM.out; omega
                case rel => exact ⟨p + 1, rs1, by omega, rfl, by go_num, HT1.out, HTP.out, HSH2.out, HBa.out⟩
          · have hpe : p = ct.length := by omega
            have HTF : Hid (tabL rs' = totP x ct ct.length) := by show _ = _; rw [HTL.out, hpe]
            have HSHF : Hid (Shape x.waiting (tabL rs') (1048576 + 524288 * p)) := by show Shape _ _ _; rw [HTL.out]; exact HSH.out
            obtain ⟨wv, hwv⟩ : ∃ wv : World, wv = wr := ⟨_, rfl⟩
            subst hwv
            have HBV := hide hbw
            clear hpe hbw hx1
            go_wp2_with fail
            clear y0 y1
            go_loopw [101] (fun iv wx => ∃ p2 : Nat, p2 ≤ ct.length ∧ iv = .int .i64 p2 ∧ Hid (∀ p', p' < p2 → ∀ a', a' < (ct.getD p' []).length → cellT (totP x ct ct.length) p' a' ≤ cellT ct p' a') ∧ wx = wv) (fun iv _ => ct.length - (intOf iv).toNat)
            case atStart => exact ⟨0, by omega, rfl, fun p' hp' => absurd hp' (Nat.not_lt_zero _), rfl⟩
            case round =>
              obtain ⟨p2, hp2c, rfl, HOK, rfl⟩ := hrel
              by_cases hlt2 : p2 < ct.length
              · obtain ⟨l, _, hl, b, off, ol, cl, hot, _, c0w, hcll, _, hsl⟩ := HCT.out.slc_at hlt2
                subst hot
                have c0 := (HBV.out.cell (World.block_lt_of_cell? _ _ c0w)).trans c0w
                have hpn : p2 < x.procs.length := by rw [← HCNN.out]; exact hlt2
                obtain ⟨l0, hl0⟩ : ∃ l0, (tabL rs')[p2]? = some l0 := ⟨_, List.getElem?_eq_getElem (by rw [HSHF.out.len, HRT.out.nwt]; exact hpn)⟩
                obtain ⟨r6, hr6, hrl6⟩ : ∃ r6, rs'[p2]? = some r6 ∧ r6.l = l0 := by
                  have h1 := hl0
                  unfold tabL at h1
                  rw [List.getElem?_map, Option.map_eq_some_iff] at h1
                  exact h1
                have hll : l0.length = l.length := by
                  obtain ⟨lw, hlw, hlwl⟩ := HRT.out.row hpn
                  obtain ⟨l1, h1, h2⟩ := HSHF.out.row p2 l0 hl0
                  rw [hlw] at h1
                  injection h1 with h1
                  have h3 := HCZ.out.2.1 p2 l _ hl (getD_procs hpn)
                  rw [HRT.out.let0 hpn] at h3
                  rw [h2, ← h1, hlwl]
                  omega
                have hl8 : l.length ≤ 8 := by
                  have h3 := HCZ.out.2.1 p2 l _ hl (getD_procs hpn)
                  rw [HRT.out.let0 hpn] at h3
                  have := (HRT.out.letters p2 hpn).2
                  omega
                obtain ⟨gc, capc, htc, hcc9, hBg, cr0, hrow7, hBr, hrc9, hrne⟩ := HT.out.get hr6
                injection htc with htc htn9 htcap
                subst htc htcap
                rw [hrl6] at cr0 hrow7 hrc9
                have hp2T : p2 < nT := by
                  have h1 := (List.getElem?_eq_some_iff.1 hr6).1
                  omega
                unfold slV at cr0
                rw [hll] at cr0 hrc9
                have HCELL : Hid (∀ a', cellT (totP x ct ct.length) p2 a' = l0.getD a' 0 ∧ cellT ct p2 a' = l.getD a' 0) := fun a' => by
                  unfold cellT
                  rw [← HTF.out, getD_some hl0, getD_some hl]
                  exact ⟨rfl, rfl⟩
                have HGD : Hid ((ct.getD p2 []).length = l.length) := by show _ = _; rw [getD_some hl]
                have HLL := hide hll
                have HROW := hide hrow7
                have HSL := hide (hsl.below intR_ok HBV.out)
                obtain ⟨ln, hln⟩ : ∃ ln, ln = l.length := ⟨_, rfl⟩
                rw [← hln] at c0 cr0 hcll hrc9 hl8
                have HLN := hide hln
                clear hl hl0 hr6 hrl6 hll htn9 hrow7 hsl hln c0w hcc9 hBg hBr hrne
                go_wp2_with fail
                go_loopw [108] (fun av wx => ∃ a2 : Nat, a2 ≤ ln ∧ av = .int .i64 a2 ∧ Hid (∀ a', a' < a2 → cellT (totP x ct ct.length) p2 a' ≤ cellT ct p2 a') ∧ wx = wr) (fun iv _ => ln - (intOf iv).toNat)
                case atStart => exact ⟨0, by omega, rfl, fun p' hp' => absurd hp' (Nat.not_lt_zero _), by first | rfl | trivial⟩
                case round =>
                  obtain ⟨a2, ha2, rfl, HOA, rfl⟩ := hrel
                  by_cases hal2 : a2 < ln
                  · obtain ⟨k, _, hk, _, b3, off3, hol, _, e0⟩ := HSL.out.int_at (i := a2) (by rw [← HLN.out]; exact hal2)
                    subst hol
                    obtain ⟨zc, hzc⟩ : ∃ zc, l0[a2]? = some zc := ⟨_, List.getElem?_eq_getElem (by rw [HLL.out, ← HLN.out]; exact hal2)⟩
                    have cr1 := HROW.out.cell (i := a2) (x := zc) hzc
                    have hcc := HCELL.out a2
                    rw [getD_some hzc, getD_some hk] at hcc
                    have HCC := hide hcc
                    clear hk hzc hcc
                    by_cases hgt : k < zc
                    · have q1 : decide (k < zc) = true := by simp [hgt]
                      have HD : Hid (doneB x ct = false) := by
                        refine doneB_false hlt2 (a := a2) (by rw [HGD.out, ← HLN.out]; exact hal2) ?_
                        rw [HCC.out.1, HCC.out.2]
                        omega
                      clear hgt
                      go_wp2_with fail
                      go_ret2
                      exact ⟨by rw [HR2.out, HD.out]; rfl, HBV.out⟩
                    · have q1 : decide (k < zc) = false := by simp; omega
                      have HOA2 : Hid (∀ a', a' < a2 + 1 → cellT (totP x ct ct.length) p2 a' ≤ cellT ct p2 a') := fun a' ha' => by
                        by_cases he : a' = a2
                        · subst he
                          rw [HCC.out.1, HCC.out.2]
                          omega
                        · exact HOA.out a' (by omega)
                      clear hgt
                      go_wp2_with fail
                      go_roundw
                      case rel => exact ⟨a2 + 1, by omega, by go_num, HOA2, by first | rfl | trivial⟩
                      case measure => simp [intOf]; omega
                  · have HOK2 : Hid (∀ p', p' < p2 + 1 → ∀ a', a' < (ct.getD p' []).length → cellT (totP x ct ct.length) p' a' ≤ cellT ct p' a') := fun p' hp' a' ha' => by
                      by_cases he : p' = p2
                      · subst he
                        exact HOA.out a' (by rw [HGD.out, ← HLN.out] at ha'; omega)
                      · exact HOK.out p' (by omega) a' ha'
                    go_wp2_with fail
                    go_roundw
                    case rel => exact ⟨p2 + 1, by omega, by go_num, HOK2, by first | rfl | trivial⟩
                    case measure => simp [intOf]; omega
              · have HD : Hid (doneB x ct = true) := doneB_true fun p' hp' a' ha' => HOK.out p' (by omega) a' ha'
                go_wp2_with fail
                go_ret2
                exact ⟨by rw [HR2.out, HD.out]; rfl, HBV.out⟩
      · have HR2 : Hid (compR x ct = (false, cntErr x ct)) := by show _ = _; rw [HR.out, if_neg hce]
        have hq0 : (cntErr x ct != 0) = true := by simpa using hce
        clear hce hr hz
        go_enter Tryz.func17, Tryz.ntmps17
        go_wp2_with (first
          | (go_at_call 30; refine HAB.out.mono ?_; rintro e w2 ⟨rfl, hb2⟩; have x2 := HX1.out.below hb2; have y0 := x2.cell 0; have y1 := x2.cell 1; have y2 := x2.cell 2; simp only [List.getElem?_cons_zero, List.getElem?_cons_succ] at y0 y1 y2; have HB2 := hide (HB1.out.trans (hb2.mono HB1.out.size)); clear hb2 x2)
          | (go_at_call 49; refine (HCN.out _ HB2.out).mono ?_; rintro e w3 ⟨rfl, hb3⟩; have HB3 := hide (HB2.out.trans (hb3.mono HB2.out.size)); clear hb3))
        go_ret2
        exact ⟨by rw [HR2.out]; rfl, HB3.out⟩
  · have HR : Hid (compR x ct = (false, ae)) := by
      show _ = _
      unfold compR
      rw [← HA.out, if_neg h0]
    go_enter Tryz.func17, Tryz.ntmps17
    go_wp2_with (go_at_call 30; refine HAB.out.mono ?_; rintro e w2 ⟨rfl, hb2⟩; have HB2 := hide (HB1.out.trans (hb2.mono HB1.out.size)); clear hb2)
    go_ret2
    exact ⟨by rw [HR.out]; rfl, HB2.out⟩

end Go.Proofs.YtnigfddanoaonaaGreat

set_option linter.unusedVariables false
set_option linter.unusedSimpArgs false
namespace Go.Proofs.YtnigfddanoaonaaGreat
open Go.RowKit

theorem results_cell_tmp_row {P : Program} {fn : Func} {p u : Tmp} {ty : TypeId} (h : fn.results = #[.cell p ty, .tmp u]) (tmps : Array Value) (w : World) (g : Nat) (t : TypeId) (cs : Array Value) (fr : Nat × Nat) (d : TypeDesc)
    (hp : tmps.getD p undef = .pointer (some ⟨g, 0, none⟩)) (hg : w.heap[g]? = some (.cells cs t fr))
    (hu : P.underlying ty = some d) (hd : (match d with | .struct _ | .array _ _ => true | _ => false) = true) (hi : (P.info? ty).map (·.size) = some cs.size) :
    (results fn tmps).run P w = .ok (.tuple #[.agg cs, tmps.getD u undef]) w := by
  have hp' : tmps[p]?.getD undef = .pointer (some ⟨g, 0, none⟩) := by simpa using hp
  rw [results_cell_tmp h]
  simp [hp', asAddr, Result.andThen, run_loadVar_row w g t ty cs fr d hg hu hd hi]
theorem results_cell_tmp2_row {P : Program} {fn : Func} {p u v : Tmp} {ty : TypeId} (h : fn.results = #[.cell p ty, .tmp u, .tmp v]) (tmps : Array Value) (w : World) (g : Nat) (t : TypeId) (cs : Array Value) (fr : Nat × Nat) (d : TypeDesc)
    (hp : tmps.getD p undef = .pointer (some ⟨g, 0, none⟩)) (hg : w.heap[g]? = some (.cells cs t fr))
    (hu : P.underlying ty = some d) (hd : (match d with | .struct _ | .array _ _ => true | _ => false) = true) (hi : (P.info? ty).map (·.size) = some cs.size) :
    (results fn tmps).run P w = .ok (.tuple #[.agg cs, tmps.getD u undef, tmps.getD v undef]) w := by
  have hp' : tmps[p]?.getD undef = .pointer (some ⟨g, 0, none⟩) := by simpa using hp
  simp only [results, h]
  simp [hp', asAddr, Result.andThen, Sem.run_bind, run_loadVar_row w g t ty cs fr d hg hu hd hi]

end Go.Proofs.YtnigfddanoaonaaGreat

set_option linter.unusedVariables false
set_option linter.unusedSimpArgs false
namespace Go.Proofs.YtnigfddanoaonaaGreat
open Go.RowKit

theorem cmpC_any (x y : Int) (w : World) : Calls Tryz.prog 149 #[.int .i64 x, .int .i64 y] w fun e w' => e = .returned (.int .i64 (cmpI x y)) ∧ w = w' := by
  have h1 : (x != x) = false := by simp
  have h2 : (y != y) = false := by simp
  by_cases h : x < y
  · have HR : Hid (cmpI x y = -1) := by show _ = _; simp [cmpI, h]
    go_enter Tryz.func149, Tryz.ntmps149
    go_wp2
    go_ret
    exact ⟨ret_int HR.out.symm, rfl⟩
  · by_cases h' : y < x
    · have HR : Hid (cmpI x y = 1) := by show _ = _; simp [cmpI, h, h']
      go_enter Tryz.func149, Tryz.ntmps149
      go_wp2
      go_ret
      exact ⟨ret_int HR.out.symm, rfl⟩
    · have HR : Hid (cmpI x y = 0) := by show _ = _; simp [cmpI, h, h']
      go_enter Tryz.func149, Tryz.ntmps149
      go_wp2
      go_ret
      exact ⟨ret_int HR.out.symm, rfl⟩

def orI (x y : Int) : Int := if x = 0 then y else x
theorem orI_zero {x y : Int} (h : x = 0) : orI x y = y := if_pos h
theorem orI_ne {x y : Int} (h : ¬ x = 0) : orI x y = x := if_neg h
theorem or2_any (x y : Int) (b : Nat) (w : World) (c0 : w.cell? ⟨b, 0, none⟩ = some (.int .i64 x)) (c1 : w.cell? ⟨b, 1, none⟩ = some (.int .i64 y)) :
    Calls Tryz.prog 148 #[.slice (some ⟨b, 0, none⟩) 2 2] w fun e w' => e = .returned (.int .i64 (orI x y)) ∧ w = w' := by
  go_enter Tryz.func148, Tryz.ntmps148
  go_wp2_with fail
  go_loop [8] (fun i => ∃ k : Nat, k ≤ 2 ∧ i = .int .i64 k ∧ Hid (0 < k → x = 0) ∧ Hid (1 < k → y = 0)) (fun i => 2 - (intOf i).toNat)
  case atStart => exact ⟨0, by omega, rfl, fun h => by omega, fun h => by omega⟩
  case round =>
    obtain ⟨k, hk, rfl, HX, HY⟩ := hrel
    match k, hk with
    | 0, _ =>
      by_cases hx : x = 0
      · have hq : (x != 0) = false := by simp [hx]
        have HH := hide hx
        clear hx
        go_wp2_with fail
        go_round
        case rel => exact ⟨1, by omega, by go_num, fun _ => HH.out, fun h => by omega⟩
        case measure => simp [intOf]
      · have hq : (x != 0) = true := by simp [hx]
        have HH := hide hx
        clear hx
        go_wp2_with fail
        go_ret
        exact ⟨ret_int ((orI_ne HH.out).symm), rfl⟩
    | 1, _ =>
      have hx := HX.out (by omega)
      have HH := hide hx
      clear hx
      by_cases hy : y = 0
      · have hq : (y != 0) = false := by simp [hy]
        have HHY := hide hy
        clear hy
        go_wp2_with fail
        go_round
        case rel => exact ⟨2, by omega, by go_num, fun _ => HH.out, fun _ => HHY.out⟩
        case measure => simp [intOf]
      · have hq : (y != 0) = true := by simp [hy]
        have HHY := hide hy
        clear hy
        go_wp2_with fail
        go_ret
        exact ⟨ret_int ((orI_zero HH.out).symm), rfl⟩
    | 2, _ =>
      have HH := hide (HX.out (by omega))
      have HHY := hide (HY.out (by omega))
      clear HX HY
      go_wp2_with fail
      go_ret
      exact ⟨ret_int (by rw [orI_zero HH.out, HHY.out]), rfl⟩

set_option maxHeartbeats 1000000 in
theorem pcmp_any (a b c d : Int) (w : World) :
    Calls Tryz.prog 129 #[.agg #[.int .i64 a, .int .i64 b], .agg #[.int .i64 c, .int .i64 d]] w fun e w' => e = .returned (.int .i64 (cmpP (a, b) (c, d))) ∧ Below w.heap.size w w' := by
  have HR : Hid (cmpP (a, b) (c, d) = orI (cmpI a c) (cmpI b d)) := rfl
  go_enter Tryz.func129, Tryz.ntmps129
  go_wp2_with fail
  have hball : Below w.heap.size w ((w.alloc (.cells #[.int .i64 a, .int .i64 b] 168)).alloc (.cells #[.int .i64 c, .int .i64 d] 168)) := ((Below.refl w.heap.size w).alloc (Nat.le_refl _) _).alloc (by simp) _
  have B1 := (Box.new w [.int .i64 a, .int .i64 b] 168).next (.cells #[.int .i64 c, .int .i64 d] 168)
  have B2 := Box.new (w.alloc (.cells #[.int .i64 a, .int .i64 b] 168)) [.int .i64 c, .int .i64 d] 168
  rw [World.size_alloc] at B2
  generalize hWW : (w.alloc (.cells #[.int .i64 a, .int .i64 b] 168)).alloc (.cells #[.int .i64 c, .int .i64 d] 168) = WW at *
  have d0 := B1.cell 0
  have d1 := B1.cell 1
  have d2 := B2.cell 0
  have d3 := B2.cell 1
  simp at d0 d1 d2 d3
  clear B1 B2
  go_region_held3 (fun w' => w'.cell? ⟨w.heap.size, 0, none⟩ = some (.int .i64 a) ∧ w'.cell? ⟨w.heap.size, 1, none⟩ = some (.int .i64 b) ∧ w'.cell? ⟨w.heap.size + 1, 0, none⟩ = some (.int .i64 c) ∧ w'.cell? ⟨w.heap.size + 1, 1, none⟩ = some (.int .i64 d)) (first | exact ⟨d0, d1, d2, d3⟩ | exact ⟨cell_next d0 _, cell_next d1 _, cell_next d2 _, cell_next d3 _⟩)
    (first
      | (go_at_call 149; refine (cmpC_any _ _ _).mono ?_; rintro e w4 ⟨rfl, rfl⟩)
      | (go_at_call 148; refine (or2_any (cmpI a c) (cmpI b d) _ _ (by simp) (by simp)).mono ?_; rintro e w4 ⟨rfl, rfl⟩))
  all_goals
    go_wp2_with fail
    go_ret
    exact ⟨ret_int HR.out.symm, bnew hball.drew _⟩

theorem gvertex_any (n v : Int) (w : World) : Calls Tryz.prog 132 #[.int .i64 n, .int .i64 v] w fun e w' => e = .returned (.bool (vtxB n v)) ∧ w = w' := by
  by_cases h1 : 0 ≤ v
  · by_cases h2 : v < n
    · have HR : Hid (vtxB n v = true) := by show _ = _; simp [vtxB, h1, h2]
      go_enter Tryz.func132, Tryz.ntmps132
      go_wp2
      go_ret
      exact ⟨ret_bool HR.out.symm, rfl⟩
    · have HR : Hid (vtxB n v = false) := by show _ = _; simp [vtxB, h2]
      go_enter Tryz.func132, Tryz.ntmps132
      go_wp2
      go_ret
      exact ⟨ret_bool HR.out.symm, rfl⟩
  · have HR : Hid (vtxB n v = false) := by show _ = _; simp [vtxB, h1]
    have h2 : decide (0 ≤ v) = false := by simp [h1]
    go_enter Tryz.func132, Tryz.ntmps132
    go_wp2
    go_ret
    exact ⟨ret_bool HR.out.symm, rfl⟩
theorem rvertex_any (n v : Int) (oe : Option Addr) (k c : Nat) (w : World) : Calls Tryz.prog 109 #[.agg #[.int .i64 n, .slice oe k c], .int .i64 v] w fun e w' => e = .returned (.bool (vtxB n v)) ∧ Below w.heap.size w w' := by
  by_cases h1 : 0 ≤ v
  · by_cases h2 : v < n
    · have HR : Hid (vtxB n v = true) := by show _ = _; simp [vtxB, h1, h2]
      go_enter Tryz.func109, Tryz.ntmps109
      go_wp2
      go_ret
      exact ⟨ret_bool HR.out.symm, bnew (Below.refl _ _) _⟩
    · have HR : Hid (vtxB n v = false) := by show _ = _; simp [vtxB, h2]
      go_enter Tryz.func109, Tryz.ntmps109
      go_wp2
      go_ret
      exact ⟨ret_bool HR.out.symm, bnew (Below.refl _ _) _⟩
  · have HR : Hid (vtxB n v = false) := by show _ = _; simp [vtxB, h1]
    have h2 : decide (0 ≤ v) = false := by simp [h1]
    go_enter Tryz.func109, Tryz.ntmps109
    go_wp2
    go_ret
    exact ⟨ret_bool HR.out.symm, bnew (Below.refl _ _) _⟩

end Go.Proofs.YtnigfddanoaonaaGreat

set_option linter.unusedVariables false
set_option linter.unusedSimpArgs false
namespace Go.Proofs.YtnigfddanoaonaaGreat
open Go.RowKit

theorem edges_bad2 {n a b m : Int} {last : Int × Int} {r : List Edg} (h : ¬ (vtxB n a = true ∧ vtxB n b = true ∧ 1 ≤ m ∧ m ≤ 50)) : edgesErr n last (⟨a, b, m⟩ :: r) = 2 := by
  have h1 : edgeErr n last ⟨a, b, m⟩ = 2 := by
    unfold edgeErr
    rw [if_neg]
    simp only [Bool.and_eq_true, decide_eq_true_eq]
    intro h2; exact h ⟨h2.1.1.1, h2.1.1.2, h2.1.2, h2.2⟩
  simp [edgesErr, h1]
theorem edges_bad9 {n a b m : Int} {last : Int × Int} {r : List Edg} (h : vtxB n a = true ∧ vtxB n b = true ∧ 1 ≤ m ∧ m ≤ 50) (h2 : ¬ (a ≤ b ∧ cmpP last (a, b) < 0)) : edgesErr n last (⟨a, b, m⟩ :: r) = 9 := by
  have h1 : edgeErr n last ⟨a, b, m⟩ = 9 := by
    unfold edgeErr
    rw [if_pos, if_neg]
    · simp only [Bool.and_eq_true, decide_eq_true_eq]
      exact h2
    · simp only [Bool.and_eq_true, decide_eq_true_eq]
      exact ⟨⟨⟨h.1, h.2.1⟩, h.2.2.1⟩, h.2.2.2⟩
  simp [edgesErr, h1]
theorem edges_good {n a b m : Int} {last : Int × Int} {r : List Edg} (h : vtxB n a = true ∧ vtxB n b = true ∧ 1 ≤ m ∧ m ≤ 50) (h2 : a ≤ b ∧ cmpP last (a, b) < 0) : edgesErr n last (⟨a, b, m⟩ :: r) = edgesErr n (a, b) r := by
  have h1 : edgeErr n last ⟨a, b, m⟩ = 0 := by
    unfold edgeErr
    rw [if_pos, if_pos]
    · simp only [Bool.and_eq_true, decide_eq_true_eq]
      exact h2
    · simp only [Bool.and_eq_true, decide_eq_true_eq]
      exact ⟨⟨⟨h.1, h.2.1⟩, h.2.2.1⟩, h.2.2.2⟩
  simp [edgesErr, h1]

def ErrPost (w : World) (x : Int) (e : Ending) (w' : World) : Prop := e = .returned (.int .i64 x) ∧ Below w.heap.size w w'

set_option maxRecDepth 100000 in
set_option maxHeartbeats 4000000 in
theorem gcheck_any (n : Int) (es : List Edg) (oe : Option Addr) (c : Nat) (F : Foot) (w : World) (hs : SliceR edgR 3 F w oe es) (hc : es.length ≤ c) (hc2 : es.length ≤ 9223372036854775807) :
    Calls Tryz.prog 104 #[.agg #[.int .i64 n, .slice oe es.length c]] w (ErrPost w (gErr n es)) := by
  by_cases hn1 : n < 1
  · have HR : Hid (gErr n es = 2) := if_pos (.inl hn1)
    go_enter Tryz.func104, Tryz.ntmps104
    go_wp2_with fail
    go_ret
    exact ⟨ret_int HR.out.symm, bnew (Below.refl _ _) _⟩
  by_cases hn2 : 12 < n
  · have HR : Hid (gErr n es = 2) := if_pos (.inr hn2)
    go_enter Tryz.func104, Tryz.ntmps104
    go_wp2_with fail
    go_ret
    exact ⟨ret_int HR.out.symm, bnew (Below.refl _ _) _⟩
  have HR : Hid (gErr n es = edgesErr n (-1, -1) es) := if_neg (by omega)
  have hnb1 : 1 ≤ n := by omega
  have hnb2 : n ≤ 12 := by omega
  clear hn1 hn2
  go_enter Tryz.func104, Tryz.ntmps104
  go_wp2_with fail
  have hb0 := box_new (box_refl w (.cells #[.int .i64 n, .slice oe es.length c] 43)) (by simp) (.cells #[.int .i64 (-1), .int .i64 (-1)] 168)
  have hl0 := Box.new (w.alloc (.cells #[.int .i64 n, .slice oe es.length c] 43)) [.int .i64 (-1), .int .i64 (-1)] 168
  rw [World.size_alloc] at hl0
  go_loopw [19] (fun iv wr => ∃ (k : Nat) (la lb : Int), k ≤ es.length ∧ iv = .int .i64 k ∧ Hid (edgesErr n (-1, -1) es = edgesErr n (la, lb) (es.drop k)) ∧ Box wr (w.heap.size + 1) [.int .i64 la, .int .i64 lb] 168 ∧
     Below (w.heap.size + 1) (w.alloc (.cells #[.int .i64 n, .slice oe es.length c] 43)) wr) (fun i _ => es.length - (intOf i).toNat)
  case atStart => exact ⟨0, -1, -1, by omega, rfl, rfl, hl0, hb0⟩
  case round =>
    obtain ⟨k, la, lb, hk, rfl, HE, hl, hb⟩ := hrel
    have d0 := box_cell hb 0
    have d1 := box_cell hb 1
    have l0 := hl.cell 0
    have l1 := hl.cell 1
    simp at d0 d1 l0 l1
    have lf0 := hl.free 0
    have lf1 := hl.free 1
    have hsz := box_lt hb
    have hsz2 := hl.lt
    by_cases hlt : k < es.length
    · obtain ⟨a, b, m, hd, _, _, _, _, bl, off, rfl, _, c0, c1, c2⟩ := (hs.below edgR_ok (below_box hb)).edg_at hlt
      have hl1 := (hl.next (.cells #[.int .i64 a, .int .i64 b, .int .i64 m] 145)).next (.cells #[.int .i64 a, .int .i64 b] 168)
      rw [hd] at HE
      clear hd hs hl
      by_cases hg : vtxB n a = true ∧ vtxB n b = true ∧ 1 ≤ m ∧ m ≤ 50
      case neg =>
        have HX : Hid (gErr n es = 2) := by show _ = _; rw [HR.out, HE.out, edges_bad2 hg]
        clear HE
        have ways : vtxB n a = false ∨ (vtxB n a = true ∧ vtxB n b = false) ∨ (vtxB n a = true ∧ vtxB n b = true ∧ m < 1) ∨ (vtxB n a = true ∧ vtxB n b = true ∧ 1 ≤ m ∧ 50 < m) := by
          cases hva : vtxB n a
          · exact .inl rfl
          · cases hvb : vtxB n b
            · exact .inr (.inl ⟨rfl, rfl⟩)
            · by_cases h1 : m < 1
              · exact .inr (.inr (.inl ⟨rfl, rfl, h1⟩))
              · by_cases h2 : 50 < m
                · exact .inr (.inr (.inr ⟨rfl, rfl, by omega, h2⟩))
                · exact absurd ⟨hva, hvb, by omega, by omega⟩ hg
        clear hg
        rcases ways with h1 | ⟨h1, h2⟩ | ⟨h1, h2, h3⟩ | ⟨h1, h2, h3, h4⟩
        all_goals
          go_wp2_with (go_at_call 132; refine (gvertex_any _ _ _).mono ?_; rintro e w' ⟨rfl, rfl⟩)
          go_ret
          exact ⟨ret_int HX.out.symm, below_box (box_new (box_new hb (by simp) _) (by simp) _)⟩
      case pos =>
        by_cases ho : a ≤ b ∧ cmpP (la, lb) (a, b) < 0
        case neg =>
          have HX : Hid (gErr n es = 9) := by show _ = _; rw [HR.out, HE.out, edges_bad9 hg ho]
          clear HE
          obtain ⟨h1, h2, h3, h4⟩ := hg
          by_cases hab : b < a
          · clear ho
            go_wp2_with (go_at_call 132; refine (gvertex_any _ _ _).mono ?_; rintro e w' ⟨rfl, rfl⟩)
            go_ret
            exact ⟨ret_int HX.out.symm, below_box (box_new (box_new hb (by simp) _) (by simp) _)⟩
          · have hcc : 0 ≤ cmpP (la, lb) (a, b) := by omega
            have hab' : a ≤ b := by omega
            clear ho hab
            go_wp2_with (first
              | (go_at_call 132; refine (gvertex_any _ _ _).mono ?_; rintro e w' ⟨rfl, rfl⟩)
              | (go_at_call 129; refine (pcmp_any _ _ _ _ _).mono ?_; rintro e w4 ⟨rfl, hb4⟩))
            go_ret
            exact ⟨ret_int HX.out.symm, below_box (box_then (box_new (box_new hb (by simp) _) (by simp) _) (by simp) hb4)⟩
        case pos =>
          have HX := hide (HE.out.trans (edges_good hg ho))
          clear HE
          obtain ⟨h1, h2, h3, h4⟩ := hg
          obtain ⟨hab, hcc⟩ := ho
          have hcc2 : decide (0 ≤ cmpP (la, lb) (a, b)) = false := by simp; omega
          go_wp2_with (go_at_call 132; refine (gvertex_any _ _ _).mono ?_; rintro e w' ⟨rfl, rfl⟩)
          refine (pcmp_any _ _ _ _ _).mono ?_
          rintro e w4 ⟨rfl, hb4⟩
          have hp4 := (Box.new (wr.alloc (.cells #[.int .i64 a, .int .i64 b, .int .i64 m] 145)) [.int .i64 a, .int .i64 b] 168).below hb4
          rw [World.size_alloc] at hp4
          have hl4 := hl1.below hb4
          have hx4 := box_then (box_new (box_new hb (by simp) (.cells #[.int .i64 a, .int .i64 b, .int .i64 m] 145)) (by simp) (.cells #[.int .i64 a, .int .i64 b] 168)) (by simp) hb4
          have hsz4 := hl4.lt
          have q0 := hl4.cell 0
          have q1 := hl4.cell 1
          have qf0 := hl4.free 0
          have qf1 := hl4.free 1
          have p0 := hp4.cell 0
          have p1 := hp4.cell 1
          simp at q0 q1 p0 p1
          have hl5 := (hl4.put 0 (.int .i64 a)).put 1 (.int .i64 b)
          simp only [List.set_cons_zero, List.set_cons_succ] at hl5
          clear hl4 hp4 hb4 hl1
          go_wp2_with fail
          go_roundw
          case rel => exact ⟨k + 1, a, b, by omega, by go_num, HX, hl5, (hx4.setCell (p := ⟨w.heap.size + 1, 0, none⟩) (Nat.le_refl _) _).setCell (p := ⟨w.heap.size + 1, 1, none⟩) (Nat.le_refl _) _⟩
          case measure => simp [intOf]; omega
    · have HX : Hid (gErr n es = 0) := by show _ = _; rw [HR.out, HE.out, List.drop_eq_nil_of_le (by omega)]; rfl
      go_wp2_with fail
      go_ret
      exact ⟨ret_int HX.out.symm, below_box hb⟩

end Go.Proofs.YtnigfddanoaonaaGreat

set_option linter.unusedVariables false
set_option linter.unusedSimpArgs false
namespace Go.Proofs.YtnigfddanoaonaaGreat
open Go.RowKit

def atE (n : Int) (es : List Edg) (vs : List Int) : Int := if gErr n es = 0 then (if vs.all (vtxB n) then 0 else 2) else gErr n es
set_option maxRecDepth 100000 in
set_option maxHeartbeats 1000000 in
theorem gat_any (n : Int) (es : List Edg) (oe : Option Addr) (c : Nat) (vs : List Int) (ov : Option Addr) (cv : Nat) (F G : Foot) (w : World) (hs : SliceR edgR 3 F w oe es) (hc : es.length ≤ c) (hc2 : es.length ≤ 9223372036854775807)
    (hv : SliceR intR 1 G w ov vs) (hcv : vs.length ≤ 1000000) :
    Calls Tryz.prog 125 #[.agg #[.int .i64 n, .slice oe es.length c], .slice ov vs.length cv] w (ErrPost w (atE n es vs)) := by
  obtain ⟨W1, e1⟩ : ∃ W1, w.alloc (.cells #[.int .i64 n, .slice oe es.length c] 43) = W1 := ⟨_, rfl⟩
  have bx : Box W1 w.heap.size [.int .i64 n, .slice oe es.length c] 43 := by rw [← e1]; exact Box.new w [.int .i64 n, .slice oe es.length c] 43
  have bb1 := bnew (Below.refl w.heap.size w) (.cells #[.int .i64 n, .slice oe es.length c] 43)
  rw [e1] at bb1
  have HCK := hide (gcheck_any n es oe c F W1 (hs.below edgR_ok bb1) hc hc2)
  have d0 := bx.cell 0
  have d1 := bx.cell 1
  simp only [List.getElem?_cons_zero, List.getElem?_cons_succ] at d0 d1
  have HX := hide bx
  have HB1 := hide bb1
  obtain ⟨ge, hge⟩ : ∃ ge, ge = gErr n es := ⟨_, rfl⟩
  rw [← hge] at HCK
  have HGE := hide hge
  clear hge bx bb1
  by_cases hg0 : ge = 0
  · subst hg0
    have HR : Hid (atE n es vs = if vs.all (vtxB n) then 0 else 2) := by
      show _ = _
      unfold atE
      rw [if_pos HGE.out.symm]
    go_enter Tryz.func125, Tryz.ntmps125
    go_wp2_with (go_at_call 104; refine HCK.out.mono ?_; rintro e w2 ⟨rfl, hb2⟩; have HB2 := hide hb2; have x2 := HX.out.below hb2; have HX2 := hide x2; clear hb2 x2)
    go_loopw [15] (fun iv wr => ∃ k : Nat, k ≤ vs.length ∧ iv = .int .i64 k ∧ Hid (vs.all (vtxB n) = (vs.drop k).all (vtxB n)) ∧ wr = w2) (fun i _ => vs.length - (intOf i).toNat)
    case atStart => exact ⟨0, by omega, rfl, rfl, rfl⟩
    case round =>
      obtain ⟨k, hk, rfl, HE, rfl⟩ := hrel
      have hbw : Below w.heap.size w wr := HB1.out.trans (HB2.out.mono HB1.out.size)
      have HBW := hide hbw
      have y0 := HX2.out.cell 0
      simp only [List.getElem?_cons_zero] at y0
      by_cases hlt : k < vs.length
      · obtain ⟨x, hd, hget, _, b, off, rfl, _, cx⟩ := (hv.below intR_ok hbw).int_at hlt
        have HD := hide hd
        clear hd hget hbw
        cases hq : vtxB n x
        · have HQ := hide hq
          have HR2 : Hid (vs.all (vtxB n) = false) := by
            show _ = _
            rw [HE.out, HD.out]
            simp [HQ.out]
          clear hq
          go_wp2_with (go_at_call 132; refine (gvertex_any n x _).mono ?_; rintro e w' ⟨rfl, rfl⟩; rw [HQ.out])
          go_ret
          exact ⟨ret_int (by rw [HR.out, HR2.out]; rfl), HBW.out⟩
        · have HQ := hide hq
          clear hq
          go_wp2_with (go_at_call 132; refine (gvertex_any n x _).mono ?_; rintro e w' ⟨rfl, rfl⟩; rw [HQ.out])
          go_roundw
          case rel =>
            refine ⟨k + 1, by omega, by go_num, ?_, by first | rfl | trivial⟩
            show _ = _
            rw [HE.out, HD.out, List.all_cons, HQ.out, Bool.true_and]
          case measure => simp [intOf]; omega
      · have HR2 : Hid (vs.all (vtxB n) = true) := by
          show _ = _
          rw [HE.out, List.drop_eq_nil_of_le (by omega)]
          rfl
        clear hbw
        go_wp2_with fail
        go_ret
        exact ⟨ret_int (by rw [HR.out, HR2.out]; rfl), HBW.out⟩
  · have HR : Hid (atE n es vs = ge) := by
      show _ = _
      unfold atE
      rw [← HGE.out, if_neg hg0]
    go_enter Tryz.func125, Tryz.ntmps125
    go_wp2_with (go_at_call 104; refine HCK.out.mono ?_; rintro e w2 ⟨rfl, hb2⟩; have HB2 := hide hb2; clear hb2)
    go_ret
    exact ⟨ret_int HR.out.symm, HB1.out.trans (HB2.out.mono HB1.out.size)⟩

theorem gjoined_any (a b : Int) (w : World) : Calls Tryz.prog 127 #[.int .i64 a, .int .i64 b] w fun e w' => e = .returned (.agg #[.int .i64 (min a b), .int .i64 (max a b)]) ∧ Below w.heap.size w w' := by
  have fin : ∀ x y : Int, Box (w.alloc (.cells #[.int .i64 x, .int .i64 y] 168)) w.heap.size [.int .i64 x, .int .i64 y] 168 := fun x y => Box.new w [.int .i64 x, .int .i64 y] 168
  rcases Int.lt_trichotomy a b with hab | hab | hab
  · rw [show min a b = a by omega, show max a b = b by omega]
    go_enter Tryz.func127, Tryz.ntmps127
    go_wp2_with fail
    refine bodyPost_ret (results_cell_row rfl _ _ w.heap.size 168 _ (0, 0) _ rfl (fin a b) Tryz.underlying168 rfl (by kernel_rfl)) rfl ?_
    exact ⟨rfl, bnew (Below.refl _ _) _⟩
  · subst hab
    rw [show min a a = a by omega, show max a a = a by omega]
    go_enter Tryz.func127, Tryz.ntmps127
    go_wp2_with fail
    refine bodyPost_ret (results_cell_row rfl _ _ w.heap.size 168 _ (0, 0) _ rfl (fin a a) Tryz.underlying168 rfl (by kernel_rfl)) rfl ?_
    exact ⟨rfl, bnew (Below.refl _ _) _⟩
  · rw [show min a b = b by omega, show max a b = a by omega]
    go_enter Tryz.func127, Tryz.ntmps127
    go_wp2_with fail
    refine bodyPost_ret (results_cell_row rfl _ _ w.heap.size 168 _ (0, 0) _ rfl (fin b a) Tryz.underlying168 rfl (by kernel_rfl)) rfl ?_
    exact ⟨rfl, bnew (Below.refl _ _) _⟩

theorem btw1_any (x y m p q cv : Int) (hcv : Hid (cv = cmpP (x, y) (p, q))) (w : World) : Calls Tryz.prog 128 #[.agg #[.int .i64 x, .int .i64 y, .int .i64 m], .agg #[.int .i64 p, .int .i64 q]] w fun e w' => e = .returned (.int .i64 cv) ∧ Below w.heap.size w w' := by
  obtain ⟨W1, e1⟩ : ∃ W1, w.alloc (.cells #[.int .i64 x, .int .i64 y, .int .i64 m] 145) = W1 := ⟨_, rfl⟩
  have b1 : Box W1 w.heap.size [.int .i64 x, .int .i64 y, .int .i64 m] 145 := by rw [← e1]; exact Box.new w [.int .i64 x, .int .i64 y, .int .i64 m] 145
  have bb1 := bnew (Below.refl w.heap.size w) (.cells #[.int .i64 x, .int .i64 y, .int .i64 m] 145)
  rw [e1] at bb1
  obtain ⟨W2, e2⟩ : ∃ W2, W1.alloc (.cells #[.int .i64 p, .int .i64 q] 168) = W2 := ⟨_, rfl⟩
  have b2 : Box W2 W1.heap.size [.int .i64 p, .int .i64 q] 168 := by rw [← e2]; exact Box.new W1 [.int .i64 p, .int .i64 q] 168
  have bb2 := bnew (Below.refl W1.heap.size W1) (.cells #[.int .i64 p, .int .i64 q] 168)
  rw [e2] at bb2
  have b1 := b1.below bb2
  have HB := hide (bb1.trans (bb2.mono bb1.size))
  have d0 := b1.cell 0
  have d1 := b1.cell 1
  have d2 := b2.cell 0
  have d3 := b2.cell 1
  simp only [List.getElem?_cons_zero, List.getElem?_cons_succ] at d0 d1 d2 d3
  clear b1 b2 bb1 bb2
  go_enter Tryz.func128, Tryz.ntmps128
  go_wp2_with (go_at_call 129; refine (pcmp_any x y p q W2).mono ?_; rintro e w' ⟨rfl, hb⟩; have HB3 := hide hb; clear hb)
  go_ret
  exact ⟨ret_int hcv.out.symm, HB.out.trans (HB3.out.mono HB.out.size)⟩

theorem cmpP_zero {p q : Int × Int} : cmpP p q = 0 ↔ p.1 = q.1 ∧ p.2 = q.2 := by
  unfold cmpP
  split
  · rename_i h
    have h1 := cmpI_zero.1 h
    have h2 := cmpI_zero (a := p.2) (b := q.2)
    omega
  · rename_i h
    have h1 := cmpI_zero (a := p.1) (b := q.1)
    omega
/-- Edges in ascending order: what is behind one that is not less is not less. -/
theorem edg_up {es : List Edg} (hp : es.Pairwise fun x y => cmpP (x.a, x.b) (y.a, y.b) < 0) {i j : Nat} {x y : Edg} (hi : es[i]? = some x) (hj : es[j]? = some y) (hij : i < j) : x.a < y.a ∨ (x.a = y.a ∧ x.b < y.b) := by
  obtain ⟨h1, rfl⟩ := List.getElem?_eq_some_iff.1 hi
  obtain ⟨h2, rfl⟩ := List.getElem?_eq_some_iff.1 hj
  have := List.pairwise_iff_getElem.1 hp i j h1 h2 hij
  exact cmpP_neg.1 this

set_option maxRecDepth 100000 in
set_option maxHeartbeats 2000000 in
theorem binE_any (p q : Int) (es : List Edg) (hp : Hid (es.Pairwise fun x y => cmpP (x.a, x.b) (y.a, y.b) < 0)) (oe : Option Addr) (c : Nat) (F : Foot) (w : World) (hs : SliceR edgR 3 F w oe es) (hc : es.length ≤ c) (hc2 : es.length ≤ 1000000000) :
    Calls Tryz.prog 126 #[.slice oe es.length c, .agg #[.int .i64 p, .int .i64 q], .func (.func 128) #[] #[]] w fun e w' =>
      ∃ (i : Nat) (ok : Bool), e = .returned (.tuple #[.int .i64 i, .bool ok]) ∧ (ok = true → ∃ x, es[i]? = some x ∧ x.a = p ∧ x.b = q) ∧ (ok = false → ∀ x ∈ es, ¬ (x.a = p ∧ x.b = q)) ∧ Below w.heap.size w w' := by
  obtain ⟨W1, e1⟩ : ∃ W1, w.alloc (.cells #[.int .i64 p, .int .i64 q] 168) = W1 := ⟨_, rfl⟩
  have bx : Box W1 w.heap.size [.int .i64 p, .int .i64 q] 168 := by rw [← e1]; exact Box.new w [.int .i64 p, .int .i64 q] 168
  have bb1 := bnew (Below.refl w.heap.size w) (.cells #[.int .i64 p, .int .i64 q] 168)
  rw [e1] at bb1
  have HX := hide bx
  have HB1 := hide bb1
  have hs1 := hs.below edgR_ok bb1
  clear bx bb1 hs
  go_enter Tryz.func126, Tryz.ntmps126
  go_wp2_with fail
  go_loopw [9, 10] (fun iv jv wr => ∃ i j : Nat, i ≤ j ∧ j ≤ es.length ∧ iv = .int .i64 i ∧ jv = .int .i64 j ∧ Hid ((∀ (k : Nat) (y : Edg), k < i → es[k]? = some y → cmpP (y.a, y.b) (p, q) < 0) ∧ ∀ (k : Nat) (y : Edg), j ≤ k → es[k]? = some y → 0 ≤ cmpP (y.a, y.b) (p, q)) ∧ Hid (Below W1.heap.size W1 wr)) (fun iv jv _ => (intOf jv).toNat - (intOf iv).toNat)
  case atStart => exact ⟨0, es.length, by omega, by omega, rfl, rfl, ⟨fun k y hk => by omega, fun k y hk h => by
    have := (List.getElem?_eq_some_iff.1 h).1
    omega⟩, Below.refl _ _⟩
  case round =>
    obtain ⟨i, j, hij, hj, rfl, rfl, HI, HB⟩ := hrel
    have y0 := (HX.out.below HB.out).cell 0
    have y1 := (HX.out.below HB.out).cell 1
    simp only [List.getElem?_cons_zero, List.getElem?_cons_succ] at y0 y1
    by_cases hlt : i < j
    · obtain ⟨h, hh⟩ : ∃ h, h = (i + j) / 2 := ⟨_, rfl⟩
      have hmid : ((i : Int) + j) / 2 = (h : Int) := by omega
      have h1 : i ≤ h := by omega
      have h2 : h < j := by omega
      have HH := hide hh
      have hz1 : (0 : Int) ≤ (h : Int) := by omega
      have hz2 : (h : Int) < (es.length : Int) := by omega
      clear hh
      obtain ⟨xa, xb, xm, hd, hget, _, _, _, b, off, hoa, _, c0, c1, c2⟩ := (hs1.below edgR_ok HB.out).edg_at (i := h) (by omega)
      subst hoa
      have HG := hide hget
      clear hd hget
      obtain ⟨cv, hcv⟩ : ∃ cv, cv = cmpP (xa, xb) (p, q) := ⟨_, rfl⟩
      have HCV := hide hcv
      by_cases hyx : cv < 0
      · have HI2 : Hid ((∀ (k : Nat) (y : Edg), k < h + 1 → es[k]? = some y → cmpP (y.a, y.b) (p, q) < 0) ∧ ∀ (k : Nat) (y : Edg), j ≤ k → es[k]? = some y → 0 ≤ cmpP (y.a, y.b) (p, q)) := by
          refine ⟨fun k z hk hz => ?_, HI.out.2⟩
          rcases Nat.lt_or_ge k h with hkh | hkh
          · have h3 := edg_up hp.out hz HG.out hkh
            have h4 := cmpP_neg.1 (hcv ▸ hyx)
            rw [cmpP_neg]
            simp only at h3 h4 ⊢
            omega
          · have : k = h := by omega
            subst this
            rw [HG.out] at hz
            injection hz with hz
            subst hz
            exact hcv ▸ hyx
        have q0 : decide (cv < 0) = true := by simp [hyx]
        clear hcv hyx
        go_wp2_with fail
        go_region_held3 (fun w' => w'.cell? ⟨b, off + h * 3, none⟩ = some (.int .i64 xa) ∧ w'.cell? ⟨b, off + h * 3 + 1, none⟩ = some (.int .i64 xb) ∧ w'.cell? ⟨b, off + h * 3 + 2, none⟩ = some (.int .i64 xm) ∧ w'.cell? ⟨w.heap.size, 0, none⟩ = some (.int .i64 p) ∧ w'.cell? ⟨w.heap.size, 1, none⟩ = some (.int .i64 q)) (first | exact ⟨c0, c1, c2, y0, y1⟩) (first
          | (go_at_call 128; refine (btw1_any xa xb xm p q cv HCV _).mono ?_; rintro e w5 ⟨rfl, h5⟩; have c0 := (h5.cell (World.block_lt_of_cell? _ _ c0)).trans c0; have c1 := (h5.cell (World.block_lt_of_cell? _ _ c1)).trans c1; have c2 := (h5.cell (World.block_lt_of_cell? _ _ c2)).trans c2; have y0 := (h5.cell (World.block_lt_of_cell? _ _ y0)).trans y0; have y1 := (h5.cell (World.block_lt_of_cell? _ _ y1)).trans y1; have HB5 : Hid (Below W1.heap.size W1 w5) := HB.out.trans (((Below.refl _ _).drew.trans h5).mono HB.out.size); clear h5)
          | (go_at_call 128; refine (btw1_any xa xb xm p q cv HCV _).mono ?_; rintro e w5 ⟨rfl, h5⟩; have c0 := (h5.cell (World.block_lt_of_cell? _ _ c0)).trans c0; have c1 := (h5.cell (World.block_lt_of_cell? _ _ c1)).trans c1; have c2 := (h5.cell (World.block_lt_of_cell? _ _ c2)).trans c2; have y0 := (h5.cell (World.block_lt_of_cell? _ _ y0)).trans y0; have y1 := (h5.cell (World.block_lt_of_cell? _ _ y1)).trans y1; have HB5 : Hid (Below W1.heap.size W1 w5) := HB.out.trans (h5.mono HB.out.size); clear h5))
        all_goals
          go_wp2_with fail
          go_roundw
          case rel => exact ⟨h + 1, j, by omega, hj, by go_num, rfl, HI2, HB5.out⟩
          case measure => simp [intOf]; omega
      · have HI2 : Hid ((∀ (k : Nat) (y : Edg), k < i → es[k]? = some y → cmpP (y.a, y.b) (p, q) < 0) ∧ ∀ (k : Nat) (y : Edg), h ≤ k → es[k]? = some y → 0 ≤ cmpP (y.a, y.b) (p, q)) := by
          refine ⟨HI.out.1, fun k z hk hz => ?_⟩
          rcases Nat.lt_or_ge h k with hkh | hkh
          · have h3 := edg_up hp.out HG.out hz hkh
            have h4 := cmpP_neg (p := (xa, xb)) (q := (p, q))
            rw [← hcv] at h4
            have h5 := cmpP_neg (p := (z.a, z.b)) (q := (p, q))
            simp only at h3 h4 h5 ⊢
            omega
          · have : k = h := by omega
            subst this
            rw [HG.out] at hz
            injection hz with hz
            subst hz
            have : ¬ cmpP (xa, xb) (p, q) < 0 := hcv ▸ hyx
            simp only
            omega
        have q0 : decide (cv < 0) = false := by simp; omega
        clear hcv hyx
        go_wp2_with fail
        go_region_held3 (fun w' => w'.cell? ⟨b, off + h * 3, none⟩ = some (.int .i64 xa) ∧ w'.cell? ⟨b, off + h * 3 + 1, none⟩ = some (.int .i64 xb) ∧ w'.cell? ⟨b, off + h * 3 + 2, none⟩ = some (.int .i64 xm) ∧ w'.cell? ⟨w.heap.size, 0, none⟩ = some (.int .i64 p) ∧ w'.cell? ⟨w.heap.size, 1, none⟩ = some (.int .i64 q)) (first | exact ⟨c0, c1, c2, y0, y1⟩) (first
          | (go_at_call 128; refine (btw1_any xa xb xm p q cv HCV _).mono ?_; rintro e w5 ⟨rfl, h5⟩; have c0 := (h5.cell (World.block_lt_of_cell? _ _ c0)).trans c0; have c1 := (h5.cell (World.block_lt_of_cell? _ _ c1)).trans c1; have c2 := (h5.cell (World.block_lt_of_cell? _ _ c2)).trans c2; have y0 := (h5.cell (World.block_lt_of_cell? _ _ y0)).trans y0; have y1 := (h5.cell (World.block_lt_of_cell? _ _ y1)).trans y1; have HB5 : Hid (Below W1.heap.size W1 w5) := HB.out.trans (((Below.refl _ _).drew.trans h5).mono HB.out.size); clear h5)
          | (go_at_call 128; refine (btw1_any xa xb xm p q cv HCV _).mono ?_; rintro e w5 ⟨rfl, h5⟩; have c0 := (h5.cell (World.block_lt_of_cell? _ _ c0)).trans c0; have c1 := (h5.cell (World.block_lt_of_cell? _ _ c1)).trans c1; have c2 := (h5.cell (World.block_lt_of_cell? _ _ c2)).trans c2; have y0 := (h5.cell (World.block_lt_of_cell? _ _ y0)).trans y0; have y1 := (h5.cell (World.block_lt_of_cell? _ _ y1)).trans y1; have HB5 : Hid (Below W1.heap.size W1 w5) := HB.out.trans (h5.mono HB.out.size); clear h5))
        all_goals
          go_wp2_with fail
          go_roundw
          case rel => exact ⟨i, h, by omega, by omega, rfl, rfl, HI2, HB5.out⟩
          case measure => simp [intOf]; omega
    · have hije : i = j := by omega
      subst hije
      by_cases hi : i < es.length
      · obtain ⟨xa, xb, xm, hd, hget, _, _, _, b, off, hoa, _, c0, c1, c2⟩ := (hs1.below edgR_ok HB.out).edg_at hi
        subst hoa
        have HG := hide hget
        clear hd hget
        obtain ⟨cv, hcv⟩ : ∃ cv, cv = cmpP (xa, xb) (p, q) := ⟨_, rfl⟩
        have HCV := hide hcv
        have hil : decide ((i : Int) < es.length) = true := by simp; omega
        by_cases hyx : cv = 0
        · have hpq : xa = p ∧ xb = q := by
            rw [hcv, cmpP_zero] at hyx
            exact hyx
          have HY : Hid (∃ x, es[i]? = some x ∧ x.a = p ∧ x.b = q) := ⟨_, HG.out, hpq⟩
          have q0 : (cv == 0) = true := by simp [hyx]
          clear hcv hpq hyx
          go_wp2_with fail
          go_region_held3 (fun w' => w'.cell? ⟨b, off + i * 3, none⟩ = some (.int .i64 xa) ∧ w'.cell? ⟨b, off + i * 3 + 1, none⟩ = some (.int .i64 xb) ∧ w'.cell? ⟨b, off + i * 3 + 2, none⟩ = some (.int .i64 xm) ∧ w'.cell? ⟨w.heap.size, 0, none⟩ = some (.int .i64 p) ∧ w'.cell? ⟨w.heap.size, 1, none⟩ = some (.int .i64 q)) (first | exact ⟨c0, c1, c2, y0, y1⟩) (first
          | (go_at_call 128; refine (btw1_any xa xb xm p q cv HCV _).mono ?_; rintro e w5 ⟨rfl, h5⟩; have c0 := (h5.cell (World.block_lt_of_cell? _ _ c0)).trans c0; have c1 := (h5.cell (World.block_lt_of_cell? _ _ c1)).trans c1; have c2 := (h5.cell (World.block_lt_of_cell? _ _ c2)).trans c2; have y0 := (h5.cell (World.block_lt_of_cell? _ _ y0)).trans y0; have y1 := (h5.cell (World.block_lt_of_cell? _ _ y1)).trans y1; have HB5 : Hid (Below W1.heap.size W1 w5) := HB.out.trans (((Below.refl _ _).drew.trans h5).mono HB.out.size); clear h5)
          | (go_at_call 128; refine (btw1_any xa xb xm p q cv HCV _).mono ?_; rintro e w5 ⟨rfl, h5⟩; have c0 := (h5.cell (World.block_lt_of_cell? _ _ c0)).trans c0; have c1 := (h5.cell (World.block_lt_of_cell? _ _ c1)).trans c1; have c2 := (h5.cell (World.block_lt_of_cell? _ _ c2)).trans c2; have y0 := (h5.cell (World.block_lt_of_cell? _ _ y0)).trans y0; have y1 := (h5.cell (World.block_lt_of_cell? _ _ y1)).trans y1; have HB5 : Hid (Below W1.heap.size W1 w5) := HB.out.trans (h5.mono HB.out.size); clear h5))
          all_goals
            go_wp2_with fail
            go_ret2
            exact ⟨_, true, rfl, fun _ => HY.out, fun h => by (cases h), HB1.out.trans (HB5.out.mono HB1.out.size)⟩
        · have HY : Hid (∀ x ∈ es, ¬ (x.a = p ∧ x.b = q)) := fun z hz hpq => by
            obtain ⟨k, hk, rfl⟩ := List.getElem_of_mem hz
            have hzk := List.getElem?_eq_getElem hk
            have hcz : cmpP ((es[k]).a, (es[k]).b) (p, q) = 0 := by rw [cmpP_zero]; exact hpq
            rcases Nat.lt_or_ge k i with h1 | h1
            · have := HI.out.1 k _ h1 hzk
              omega
            · rcases Nat.lt_or_ge i k with h2 | h2
              · have h3 := edg_up hp.out HG.out hzk h2
                have h4 := HI.out.2 i _ (Nat.le_refl _) HG.out
                have h5 := cmpP_neg (p := (xa, xb)) (q := (p, q))
                simp only at h3 h4 h5
                omega
              · have : k = i := by omega
                subst this
                rw [hzk] at HG
                have e := HG.out
                injection e with e
                rw [e] at hcz
                exact hyx (hcv.trans hcz)
          have q0 : (cv == 0) = false := by simp [hyx]
          clear hcv hyx
          go_wp2_with fail
          go_region_held3 (fun w' => w'.cell? ⟨b, off + i * 3, none⟩ = some (.int .i64 xa) ∧ w'.cell? ⟨b, off + i * 3 + 1, none⟩ = some (.int .i64 xb) ∧ w'.cell? ⟨b, off + i * 3 + 2, none⟩ = some (.int .i64 xm) ∧ w'.cell? ⟨w.heap.size, 0, none⟩ = some (.int .i64 p) ∧ w'.cell? ⟨w.heap.size, 1, none⟩ = some (.int .i64 q)) (first | exact ⟨c0, c1, c2, y0, y1⟩) (first
          | (go_at_call 128; refine (btw1_any xa xb xm p q cv HCV _).mono ?_; rintro e w5 ⟨rfl, h5⟩; have c0 := (h5.cell (World.block_lt_of_cell? _ _ c0)).trans c0; have c1 := (h5.cell (World.block_lt_of_cell? _ _ c1)).trans c1; have c2 := (h5.cell (World.block_lt_of_cell? _ _ c2)).trans c2; have y0 := (h5.cell (World.block_lt_of_cell? _ _ y0)).trans y0; have y1 := (h5.cell (World.block_lt_of_cell? _ _ y1)).trans y1; have HB5 : Hid (Below W1.heap.size W1 w5) := HB.out.trans (((Below.refl _ _).drew.trans h5).mono HB.out.size); clear h5)
          | (go_at_call 128; refine (btw1_any xa xb xm p q cv HCV _).mono ?_; rintro e w5 ⟨rfl, h5⟩; have c0 := (h5.cell (World.block_lt_of_cell? _ _ c0)).trans c0; have c1 := (h5.cell (World.block_lt_of_cell? _ _ c1)).trans c1; have c2 := (h5.cell (World.block_lt_of_cell? _ _ c2)).trans c2; have y0 := (h5.cell (World.block_lt_of_cell? _ _ y0)).trans y0; have y1 := (h5.cell (World.block_lt_of_cell? _ _ y1)).trans y1; have HB5 : Hid (Below W1.heap.size W1 w5) := HB.out.trans (h5.mono HB.out.size); clear h5))
          all_goals
            go_wp2_with fail
            go_ret2
            exact ⟨_, false, rfl, fun h => by (cases h), fun _ => HY.out, HB1.out.trans (HB5.out.mono HB1.out.size)⟩
      · have HY : Hid (∀ x ∈ es, ¬ (x.a = p ∧ x.b = q)) := fun z hz hpq => by
          obtain ⟨k, hk, rfl⟩ := List.getElem_of_mem hz
          have h1 := HI.out.1 k _ (by omega) (List.getElem?_eq_getElem hk)
          have hcz : cmpP ((es[k]).a, (es[k]).b) (p, q) = 0 := by rw [cmpP_zero]; exact hpq
          omega
        have hil : decide ((i : Int) < es.length) = false := by simp; omega
        go_wp2_with fail
        go_quiet (fail)
        go_wp2_with fail
        go_ret2
        exact ⟨_, false, rfl, fun h => by (cases h), fun _ => HY.out, below_drewN (HB1.out.trans (HB.out.mono HB1.out.size)) _⟩

def btwRes (n : Int) (es : List Edg) (a b : Int) : Int × Int := if atE n es [a, b] = 0 then (betw es a b, 0) else (0, atE n es [a, b])
theorem betw_of {es : List Edg} (hp : es.Pairwise fun x y => cmpP (x.a, x.b) (y.a, y.b) < 0) {a b : Int} : (∀ x ∈ es, x.a = min a b ∧ x.b = max a b → betw es a b = x.m) ∧ ((∀ x ∈ es, ¬ (x.a = min a b ∧ x.b = max a b)) → betw es a b = 0) := by
  induction es with
  | nil => exact ⟨fun x hx => by (cases hx), fun _ => rfl⟩
  | cons y r ih =>
    rw [List.pairwise_cons] at hp
    have ih := ih hp.2
    refine ⟨fun x hx hxe => ?_, fun h => ?_⟩
    · simp only [betw]
      rcases List.mem_cons.1 hx with rfl | hx
      · rw [if_pos hxe]
      · rw [if_neg (fun hy => by
          have h1 := cmpP_neg.1 (hp.1 x hx)
          simp only at h1
          omega)]
        exact ih.1 x hx hxe
    · simp only [betw]
      rw [if_neg (h y (by simp))]
      exact ih.2 fun x hx => h x (by simp [hx])

set_option maxRecDepth 100000 in
set_option maxHeartbeats 2000000 in
theorem gbetw_any (n : Int) (es : List Edg) (oe : Option Addr) (c : Nat) (F : Foot) (w : World) (hs : SliceR edgR 3 F w oe es) (hc : es.length ≤ c) (hc2 : es.length ≤ 1000000000) (a b : Int) (ha : I64 a) (hb : I64 b) :
    Calls Tryz.prog 97 #[.agg #[.int .i64 n, .slice oe es.length c], .int .i64 a, .int .i64 b] w fun e w' => e = .returned (.tuple #[.int .i64 (btwRes n es a b).1, .int .i64 (btwRes n es a b).2]) ∧ Below w.heap.size w w' := by
  obtain ⟨W1, e1⟩ : ∃ W1, w.alloc (.cells #[.int .i64 n, .slice oe es.length c] 43) = W1 := ⟨_, rfl⟩
  have bx : Box W1 w.heap.size [.int .i64 n, .slice oe es.length c] 43 := by rw [← e1]; exact Box.new w [.int .i64 n, .slice oe es.length c] 43
  have bb1 := bnew (Below.refl w.heap.size w) (.cells #[.int .i64 n, .slice oe es.length c] 43)
  rw [e1] at bb1
  obtain ⟨W2, e2⟩ : ∃ W2, W1.alloc (.cells #[.int .i64 a, .int .i64 b] 3) = W2 := ⟨_, rfl⟩
  have hl2 : SliceR intR 1 All W2 (some ⟨W1.heap.size, 0, none⟩) [a, b] := by
    have := ints_lit (F := All) (G := All) W1 3 [a, b] (by intro x hx; simp at hx; rcases hx with rfl | rfl <;> assumption) trivial
    rw [← e2]
    simpa using this
  have bb2 := bnew (Below.refl W1.heap.size W1) (.cells #[.int .i64 a, .int .i64 b] 3)
  rw [e2] at bb2
  have hs2 := (hs.below edgR_ok bb1).below edgR_ok bb2
  have bx2 := bx.below bb2
  have d0 := bx.cell 0
  have d1 := bx.cell 1
  simp only [List.getElem?_cons_zero, List.getElem?_cons_succ] at d0 d1
  have HX := hide bx2
  have HB2 := hide (bb1.trans (bb2.mono bb1.size))
  have HAT := hide (gat_any n es oe c [a, b] (some ⟨W1.heap.size, 0, none⟩) 2 F All W2 hs2 hc (by omega) hl2 (by simp))
  have HS2 := hide hs2
  obtain ⟨ae, hae⟩ : ∃ ae, ae = atE n es [a, b] := ⟨_, rfl⟩
  rw [← hae] at HAT
  have HAE := hide hae
  clear hae bx bb1 bb2 hl2 hs2 bx2
  by_cases h0 : ae = 0
  · subst h0
    have HG : Hid (gErr n es = 0) := by
      have := HAE.out
      unfold atE at this
      split at this
      · assumption
      · rename_i hx; exact absurd this.symm hx
    have HR : Hid (btwRes n es a b = (betw es a b, 0)) := by show _ = _; unfold btwRes; rw [if_pos HAE.out.symm]
    have HPW := hide (gErr_zero HG.out).2.2
    have HBW := hide (betw_of HPW.out (a := a) (b := b))
    obtain ⟨mn, hmn⟩ : ∃ mn, mn = min a b := ⟨_, rfl⟩
    obtain ⟨mx, hmx⟩ : ∃ mx, mx = max a b := ⟨_, rfl⟩
    have HJ : Hid (∀ u, Calls Tryz.prog 127 #[.int .i64 a, .int .i64 b] u fun e w' => e = .returned (.agg #[.int .i64 mn, .int .i64 mx]) ∧ Below u.heap.size u w') := fun u => by
      rw [hmn, hmx]
      exact gjoined_any a b u
    rw [← hmn, ← hmx] at HBW
    clear hmn hmx
    go_enter Tryz.func97, Tryz.ntmps97
    go_wp2_with (go_at_call 125; refine HAT.out.mono ?_; rintro e w3 ⟨rfl, hb3⟩; have x3 := HX.out.below hb3; have y0 := x3.cell 0; have y1 := x3.cell 1; simp only [List.getElem?_cons_zero, List.getElem?_cons_succ] at y0 y1; have HX3 := hide x3; have HB3 := hide (HB2.out.trans (hb3.mono HB2.out.size)); have HS3 := hide (HS2.out.below edgR_ok hb3); clear hb3 x3)
    go_region_held3 (fun w' => w'.cell? ⟨w.heap.size, 1, none⟩ = some (.slice oe es.length c)) (first | exact y1) (first
      | (go_at_call 127; refine (HJ.out _).mono ?_; rintro e w5 ⟨rfl, h5⟩; have y1 := (h5.cell (World.block_lt_of_cell? _ _ y1)).trans y1; have HS5 := hide ((HS3.out.below edgR_ok (Below.refl _ _).drew).below edgR_ok h5); have HB5 := hide (HB3.out.drew.trans (h5.mono HB3.out.size)); have HX5 := hide (HX3.out.draw.below h5); clear h5)
      | (go_at_call 127; refine (HJ.out _).mono ?_; rintro e w5 ⟨rfl, h5⟩; have y1 := (h5.cell (World.block_lt_of_cell? _ _ y1)).trans y1; have HS5 := hide (HS3.out.below edgR_ok h5); have HB5 := hide (HB3.out.trans (h5.mono HB3.out.size)); have HX5 := hide (HX3.out.below h5); clear h5)
      | (go_at_call 126; refine (binE_any mn mx es HPW oe c F _ HS5.out hc (by omega)).mono ?_; rintro e w6 ⟨i, ok, rfl, hy, hn, h6⟩; have y1 := (h6.cell (World.block_lt_of_cell? _ _ y1)).trans y1; have HS6 := hide (HS5.out.below edgR_ok h6); have HB6 := hide (HB5.out.trans (h6.mono HB5.out.size)); have HX6 := hide (HX5.out.below h6); have HY := hide hy; have HN := hide hn; clear h6 hy hn))
    all_goals
      cases ok
      · go_wp2_with fail
        go_ret2
        exact ⟨by rw [HR.out, HBW.out.2 (HN.out (by first | rfl | trivial))]; rfl, HB6.out⟩
      · obtain ⟨x, hx, hxe⟩ := HY.out (by first | rfl | trivial)
        obtain ⟨xa, xb, xm, hd, hget, _, _, _, b', off, hoa, _, c0, c1, c2⟩ := HS6.out.edg_at (i := i) (List.getElem?_eq_some_iff.1 hx).1
        subst hoa
        have HM : Hid (betw es a b = xm) := by
          show _ = _
          rw [HBW.out.1 x (List.mem_of_getElem? hx) hxe]
          rw [hget] at hx
          injection hx with hx
          rw [← hx]
        have hil : i < es.length := (List.getElem?_eq_some_iff.1 hx).1
        clear hx hxe hd hget
        go_wp2_with fail
        go_ret2
        exact ⟨by rw [HR.out, HM.out]; rfl, HB6.out⟩
  · have HR : Hid (btwRes n es a b = (0, ae)) := by show _ = _; unfold btwRes; rw [← HAE.out, if_neg h0]
    go_enter Tryz.func97, Tryz.ntmps97
    go_wp2_with (go_at_call 125; refine HAT.out.mono ?_; rintro e w3 ⟨rfl, hb3⟩; have HB3 := hide (HB2.out.trans (hb3.mono HB2.out.size)); clear hb3)
    go_ret2
    exact ⟨by rw [HR.out]; rfl, HB3.out⟩

end Go.Proofs.YtnigfddanoaonaaGreat

set_option linter.unusedVariables false
set_option linter.unusedSimpArgs false
namespace Go.Proofs.YtnigfddanoaonaaGreat
open Go.RowKit

theorem run_copy_at {P : Program} (w : World) (dT sT ty elem : TypeId) (g off dLen dCap sz n : Nat) (ad : Addr) (sLen sCap : Nat) (cur : Array Value) (t : TypeId) (cs : List Value)
    (hu : P.underlying dT = some (.slice elem)) (hs : (P.info? elem).map (·.size) = some sz) (hg : w.heap[g]? = some (.cells cur t (0, 0))) (hn : n = Nat.min sLen dLen) (hc : cs.length = n * sz)
    (hsrc : ∀ j v, cs[j]? = some v → w.cell? (ad.add j) = some v) (hfit : off + cs.length ≤ cur.size) (h1 : ∀ v ∈ cs, v.oneCell' = true) :
    (Builtin.copy_ #[dT, sT] ty #[.slice (some ⟨g, off, none⟩) dLen dCap, .slice (some ad) sLen sCap]).run P w = .ok (goInt n) (w.setRow g (splice cur.toList off cs).toArray) := by
  have hl := run_loadCells_list (P := P) w ad cs hsrc
  have hst := run_storeCells_at P g off t cs 0 cur w hg (by simpa using hfit) h1
  cases hq : P.info? elem with
  | none => simp [hq] at hs
  | some i =>
    have hi : i.size = sz := by simpa [hq] using hs
    rw [hc] at hl
    rw [Nat.add_zero, List.append_assoc] at hst
    unfold splice
    simp [Builtin.copy_, run_underlying hu, Builtin.lenOf, Builtin.firstCells, sizeOf, typeInfo, hq, hi, ← hn, hl, hst]
/-- A copy within a drawn region, of n elements of sz cells. -/
theorem step_copy_at {P : Program} {ops : Array Oper} {o : Oper} {a : Act} {w : World} {K : Act → World → Prop} {Q : Exit → Act → World → Prop} {E : Prop} (hgd : o.guard = none) (d s : Operand) (dT sT : TypeId)
    (ho : o.op = .call { callee := .builtin .copy, args := #[d, s], argTypes := #[dT, sT] }) (elem : TypeId) (sz : Nat) (hu : P.underlying dT = some (.slice elem)) (hsz : (P.info? elem).map (·.size) = some sz)
    (g off dLen dCap : Nat) (ad : Addr) (sLen sCap : Nat) (hd : a.eval d = .slice (some ⟨g, off, none⟩) dLen dCap) (hs : a.eval s = .slice (some ad) sLen sCap)
    (cur : List Value) (t : TypeId) (hg : w.heap[g]? = some (.cells cur.toArray t (0, 0))) (n : Nat) (hn : n = Nat.min sLen dLen) (cs : List Value) (hc : cs.length = n * sz)
    (hsrc : ∀ j v, cs[j]? = some v → w.cell? (ad.add j) = some v) (hfit : off + cs.length ≤ cur.length) (h1 : ∀ v ∈ cs, v.oneCell' = true) (B : Nat) (w0 : World) (hb : RowKit.Below B w0 w) (hBg : B ≤ g)
    (h : ∀ w', RowKit.Hid (w'.heap[g]? = some (.cells (splice cur off cs).toArray t (0, 0))) → RowKit.Below B w0 w' → K (a.put o.dst (goInt n)) w') :
    if Region.wanted o (yielded ops a.tmps) = true then Oper.wp P o a w K Q else E := by
  have hw : Region.wanted o (yielded ops a.tmps) = true := by simp [Region.wanted, hgd]
  rw [if_pos hw]
  have hrun := run_copy_at (P := P) w dT sT o.type elem g off dLen dCap sz n ad sLen sCap cur.toArray t cs hu hsz hg hn hc hsrc (by simpa using hfit) h1
  unfold Oper.wp
  simp [execOp, ho, resolve, invoke, builtin, hd, hs, hrun, Result.andThen]
  exact h _ (show _ = _ by simpa using setRow_heap w g _ _ t _ hg) (below_setRow hb hBg _)

theorem outSizeN : (Tryz.prog.info? 102).map (·.size) = some 2 := by kernel_rfl
theorem outInfoN : (Tryz.prog.info? 102).map (fun i => (i.zero, i.size, i.bytes)) = some (some (.agg #[.int .i64 0, .int .i64 0]), 2, 16) := by kernel_rfl
def pat (a b : Value) (j : Nat) : Value := if j % 2 = 0 then a else b
def pats (a b : Value) (n : Nat) : List Value := (List.range n).map (pat a b)
theorem pats_len (a b : Value) (n : Nat) : (pats a b n).length = n := by simp [pats]
theorem pats_get {a b : Value} {n j : Nat} (h : j < n) : (pats a b n)[j]? = some (pat a b j) := by simp [pats, h]
theorem pats_at {a b : Value} {n j : Nat} {v : Value} (h : (pats a b n)[j]? = some v) : j < n ∧ v = pat a b j := by
  have hj : j < n := by have := (List.getElem?_eq_some_iff.1 h).1; rwa [pats_len] at this
  rw [pats_get hj] at h
  injection h with h
  exact ⟨hj, h.symm⟩
theorem pats_one (x y : Int) (n : Nat) : ∀ v ∈ pats (.int .i64 x) (.int .i64 y) n, v.oneCell' = true := fun v hv => by
  unfold pats at hv
  obtain ⟨j, _, rfl⟩ := List.mem_map.1 hv
  unfold pat
  split <;> rfl
/-- A row of n outputs, of which the first m are ⟨x, y⟩. -/
def RowP (w : World) (g n : Nat) (x y : Int) (m : Nat) : Prop := ∃ cur : List Value, w.heap[g]? = some (.cells cur.toArray 102 (0, 0)) ∧ cur.length = 2 * n ∧ ∀ j, j < 2 * m → cur[j]? = some (pat (.int .i64 x) (.int .i64 y) j)

theorem copy_firstO {w w1 : World} {n c b off : Nat} {x y : Int} {zs : List Value} (hown : w1.ownsRow w.heap.size 102 2 (.slice (some ⟨w.heap.size, 0, none⟩) n n) n zs) (hg : w.grownBy w1 none)
    (cx : w.cell? ⟨b, off, none⟩ = some (.int .i64 x)) (cy : w.cell? ⟨b, off + 1, none⟩ = some (.int .i64 y)) :
    ∃ (m : Nat) (w2 : World), Hid (m = min n 1) ∧ (Builtin.copy_ #[97, 97] 3 #[.slice (some ⟨w.heap.size, 0, none⟩) n n, .slice (some ⟨b, off, none⟩) 1 c]).run Tryz.prog w1 = .ok (.int .i64 m) w2 ∧ RowP w2 w.heap.size n x y m ∧ Below w.heap.size w w2 := by
  obtain ⟨hl, hv⟩ := hown
  have hb1 : Below w.heap.size w w1 := (Below.refl w.heap.size w).grown hg (Nat.le_refl _) fun k hk => by cases hk
  rcases hv with ⟨he, _⟩ | ⟨g, cap, cur, he, _, hh, _, _, hcs, _⟩
  · cases he
  · injection he with h1 h2 h3
    injection h1 with h1
    injection h1 with h1
    subst h1 h3
    rcases Nat.eq_zero_or_pos n with h0 | h0
    · subst h0
      have hrun : (Builtin.copy_ #[97, 97] 3 #[.slice (some ⟨w.heap.size, 0, none⟩) 0 0, .slice (some ⟨b, off, none⟩) 1 c]).run Tryz.prog w1 = .ok (goInt ((0 : Nat) : Int)) (w1.setRow w.heap.size (splice cur.toList 0 []).toArray) :=
        run_copy_at (P := Tryz.prog) w1 97 97 3 102 w.heap.size 0 0 0 2 0 ⟨b, off, none⟩ 1 c cur 102 [] Tryz.underlying97 outSizeN hh (by simp) rfl (fun j v hj => by simp at hj) (by simp) (by simp)
      refine ⟨0, _, rfl, hrun, ⟨_, setRow_heap w1 _ _ _ _ _ hh, ?_, fun j hj => by omega⟩, below_setRow hb1 (Nat.le_refl _) _⟩
      simpa [splice] using hcs
    · have hcell : w1.cell? ⟨b, off, none⟩ = some (.int .i64 x) := (hb1.cell (World.block_lt_of_cell? _ _ cx)).trans cx
      have hcell2 : w1.cell? ⟨b, off + 1, none⟩ = some (.int .i64 y) := (hb1.cell (World.block_lt_of_cell? _ _ cy)).trans cy
      have hcs' : cur.size = 2 * n := by rw [hcs]; omega
      have hrun : (Builtin.copy_ #[97, 97] 3 #[.slice (some ⟨w.heap.size, 0, none⟩) n n, .slice (some ⟨b, off, none⟩) 1 c]).run Tryz.prog w1 = .ok (goInt ((1 : Nat) : Int)) (w1.setRow w.heap.size (splice cur.toList 0 [.int .i64 x, .int .i64 y]).toArray) :=
        run_copy_at (P := Tryz.prog) w1 97 97 3 102 w.heap.size 0 n n 2 1 ⟨b, off, none⟩ 1 c cur 102 [.int .i64 x, .int .i64 y] Tryz.underlying97 outSizeN hh (by show 1 = min 1 n; omega) rfl (fun j v hj => by
          match j, hj with
          | 0, hj => simp at hj; subst hj; simpa [Addr.add] using hcell
          | 1, hj => simp at hj; subst hj; simpa [Addr.add] using hcell2) (by rw [hcs']; simp; omega) (by intro v hv; simp at hv; rcases hv with rfl | rfl <;> rfl)
      refine ⟨1, _, by show _ = _; omega, hrun, ⟨_, setRow_heap w1 _ _ _ _ _ hh, ?_, ?_⟩, below_setRow hb1 (Nat.le_refl _) _⟩
      · rw [length_splice _ _ _ (by simp; omega)]; simpa using hcs'
      · intro j hj
        match j, hj with
        | 0, _ => simp [splice, pat]
        | 1, _ => simp [splice, pat]

set_option maxRecDepth 100000 in
set_option maxHeartbeats 4000000 in
theorem repeatO_any (x : Out) (n c : Nat) (oa : Option Addr) (F : Foot) (w : World) (hn : n ≤ 256) (hs : SliceR outR 2 F w oa [x]) :
    Calls Tryz.prog 98 #[.slice oa 1 c, .int .i64 n] w fun e w' => ∃ v, e = .returned v ∧ OwnS outR 2 w.heap.size 102 Non w' v (List.replicate n x) ∧ Below w.heap.size w w' := by
  obtain ⟨x1, y1, _, hx', ix, iy, b, off, rfl, _, cx, cy⟩ := hs.out_at (i := 0) (by simp)
  simp at hx'
  subst hx'
  rw [Nat.zero_mul, Nat.add_zero] at cx cy
  obtain ⟨i, hi, hz, hsz, hby⟩ := info_parts outInfoN
  have IX := hide (And.intro ix iy)
  have HI := hide (And.intro hi (And.intro hz (And.intro hsz hby)))
  clear hi hz hsz hby ix iy
  have hd1 : decide ((n : Int) < 0) = false := by simp
  have hd2 : decide (9223372036854775807 < (n : Int)) = false := by simp; omega
  go_enter Tryz.func98, Tryz.ntmps98
  go_wp2_with (first
    | (go_at_call 93; refine (mul_one n (by omega) _).mono ?_; rintro e w' ⟨rfl, rfl⟩)
    | (at_make; refine wpList_make_full _ rfl _ _ 97 rfl w.heap.size 102 i _ 2 Tryz.underlying97 HI.out.1 HI.out.2.1 HI.out.2.2.1 .i64 .i64 _ _ n rfl rfl rfl rfl (by rw [HI.out.2.2.2]; omega) (by unfold maxLen; omega) (Nat.le_refl _) (fun w1 hown hgrow => ?_)
       obtain ⟨m0, w2, HM0, hcp, hrow, hbw⟩ := copy_firstO (c := c) hown hgrow cx cy
       clear hown hgrow))
  clear hcp cx cy
  go_loopw [8] (fun v wr => ∃ m : Nat, v = .int .i64 m ∧ m ≤ n ∧ (n = 0 ∨ 0 < m) ∧ RowP wr w.heap.size n x1 y1 m ∧ Below w.heap.size w wr) (fun v _ => n - (intOf v).toNat)
  case atStart => exact ⟨m0, rfl, by have := HM0.out; omega, by have := HM0.out; omega, hrow, hbw⟩
  case round =>
    obtain ⟨m, rfl, hmn, hm0, ⟨cur, hcur, hcl, hcx⟩, hb⟩ := hrel
    by_cases hlt : m < n
    · have hm1 : 0 < m := by omega
      have hnm : ¬ n = m := by omega
      obtain ⟨q, hq⟩ : ∃ q, q = min m (n - m) := ⟨_, rfl⟩
      have hq1 : 0 < q := by omega
      have hq2 : m + q ≤ n := by omega
      have hqm : q ≤ m := by omega
      have hwr : IntKind.i64.wrap ((m : Int) + (q : Int)) = (m : Int) + q := IntWalk.i64_in _ (by omega)
      have HQ := hide hq
      have HCUR := hide hcur
      have HCX := hide hcx
      have HCL := hide hcl
      clear hq hcur hcx hcl hrow hbw
      go_wp2_with fail
      go_region_law (refine step_copy_at rfl (.tmp 41) (.tmp 44) 97 97 rfl 102 2 Tryz.underlying97 outSizeN w.heap.size (m * 2) (n - m) (n - m) ⟨w.heap.size, 0, none⟩ m n (by simp [Act.eval, Act.put]) (by simp [Act.eval, Act.put]) cur 102 HCUR.out q (by have := HQ.out; show q = min m (n - m); exact this) (pats (.int .i64 x1) (.int .i64 y1) (q * 2)) (by rw [pats_len]) (fun j v hj => by
        obtain ⟨hjq, hv⟩ := pats_at hj
        subst hv
        rw [show (Addr.mk w.heap.size 0 none).add j = ⟨w.heap.size, j, none⟩ from by unfold Addr.add; split <;> simp_all]
        change wr.cell? ⟨w.heap.size, j, none⟩ = _
        rw [cell_of_row wr w.heap.size j _ _ _ HCUR.out]
        simpa using HCX.out j (by omega)) (by rw [pats_len]; have := HCL.out; omega) (pats_one x1 y1 _) w.heap.size w hb.drew (Nat.le_refl _) ?_; intro w4 hg4 hb4)
      all_goals
        simp [Act.put]
        go_roundw
        case rel =>
          refine ⟨_, _, _, _, _, _, _, _, _, _, _, _, _, _, ⟨m + q, by go_num, by omega, .inr (by omega), ⟨_, hg4.out, by rw [length_splice _ _ _ (by rw [pats_len]; have := HCL.out; omega)]; exact HCL.out, ?_⟩, hb4⟩, rfl⟩
          intro j hj
          unfold splice
          have hcl := HCL.out
          by_cases h : j < m * 2
          · rw [List.getElem?_append_left (by simp; omega), List.getElem?_take_of_lt h]
            exact HCX.out j (by omega)
          · have htl : (cur.take (m * 2)).length = m * 2 := by rw [List.length_take]; omega
            rw [List.getElem?_append_right (by omega), htl, List.getElem?_append_left (by rw [pats_len]; omega), pats_get (by omega)]
            unfold pat
            have : (j - m * 2) % 2 = j % 2 := by omega
            rw [this]
        case measure => simp [intOf]; omega
    · have hmn2 : m = n := by omega
      subst hmn2
      have HCUR := hide hcur
      have HCX := hide hcx
      have HCL := hide hcl
      clear hcur hcx hcl
      go_wp2_with fail
      go_ret
      have hcl := HCL.out
      refine ⟨_, rfl, ⟨cur, ⟨by rw [List.length_replicate, hcl]; omega, .inr ⟨w.heap.size, m, _, by simp, Nat.le_refl _, HCUR.out, by simp, by unfold maxLen; omega, by rw [List.size_toArray, hcl]; omega, by rw [List.length_replicate]; exact List.take_of_length_le (by rw [hcl]; omega)⟩⟩, ?_, ?_⟩, hb⟩
      · intro u hu
        obtain ⟨j, hj, rfl⟩ := List.mem_iff_getElem.1 hu
        have h1 := HCX.out j (by omega)
        rw [List.getElem?_eq_getElem hj] at h1
        injection h1 with h1
        rw [h1]
        unfold pat
        split <;> rfl
      · intro j y hy
        have hj : j < m := by have := (List.getElem?_eq_some_iff.1 hy).1; simpa using this
        rw [List.getElem?_replicate, if_pos hj] at hy
        injection hy with hy
        subst hy
        refine ⟨?_, IX.out⟩
        unfold chunk
        have e0 := HCX.out (j * 2) (by omega)
        have e1 := HCX.out (j * 2 + 1) (by omega)
        unfold pat at e0 e1
        rw [if_pos (by omega)] at e0
        rw [if_neg (by omega)] at e1
        apply List.ext_getElem?
        intro k
        rw [List.getElem?_take]
        split
        · rename_i hk
          rw [List.getElem?_drop]
          match k, hk with
          | 0, _ => simpa using e0
          | 1, _ => simpa using e1
        · rw [List.getElem?_eq_none (by simp; omega)]

end Go.Proofs.YtnigfddanoaonaaGreat

set_option linter.unusedVariables false
set_option linter.unusedSimpArgs false
namespace Go.Proofs.YtnigfddanoaonaaGreat
open Go.RowKit

def sinkP : Prc := ⟨1, 1, [[⟨0, []⟩]]⟩
/-- The letters that vertex v sends to the first i vertices. -/
def nbrU (es : List Edg) (v : Nat) (i : Nat) : List Out := (List.range i).flatMap fun w => if w = v then [] else List.replicate (betw es v w).toNat ⟨w, 0⟩
theorem nbrU_succ (es : List Edg) (v i : Nat) : nbrU es v (i + 1) = nbrU es v i ++ (if i = v then [] else List.replicate (betw es v i).toNat ⟨i, 0⟩) := by
  unfold nbrU
  rw [List.range_succ, List.flatMap_append]
  simp
def topRow (sent : List Out) (s : Nat) : List Rul := [⟨((s + 1) % sent.length : Nat), if s + 1 = sent.length then sent else []⟩]
def topP (sent : List Out) : Prc := ⟨sent.length, 1, (List.range sent.length).map (topRow sent)⟩
theorem betw_bound {n : Int} {es : List Edg} (h : gErr n es = 0) (a b : Int) : 0 ≤ betw es a b ∧ betw es a b ≤ 50 := by
  obtain ⟨_, h2, h3⟩ := gErr_zero h
  have hb := betw_of h3 (a := a) (b := b)
  by_cases hx : ∃ x ∈ es, x.a = min a b ∧ x.b = max a b
  · obtain ⟨x, hx, he⟩ := hx
    rw [hb.1 x hx he]
    have := h2 x hx
    omega
  · rw [hb.2 fun x hm he => hx ⟨x, hm, he⟩]
    omega
theorem nbrU_len {n : Int} {es : List Edg} (h : gErr n es = 0) (v : Nat) : ∀ i, (nbrU es v i).length ≤ 50 * i
  | 0 => by simp [nbrU]
  | i + 1 => by
    have h1 := nbrU_len h v i
    have h2 := betw_bound h (v : Int) (i : Int)
    rw [nbrU_succ, List.length_append]
    split
    · simp; omega
    · rw [List.length_replicate]; omega
theorem out_lit (w : World) (x y : Int) (hx : I64 x) (hy : I64 y) : SliceR outR 2 All (w.alloc (.cells #[.int .i64 x, .int .i64 y] 102)) (some ⟨w.heap.size, 0, none⟩) [⟨x, y⟩] :=
  SliceR.lit (F := All) outR_ok w 102 [[.int .i64 x, .int .i64 y]] [⟨x, y⟩] (fun k z hz => by match k, hz with | 0, hz => simp at hz; subst hz; exact ⟨_, rfl, rfl, hx, hy⟩) rfl (fun _ h => h) trivial
theorem ruleF_lit {F : Foot} (w : World) (cs : List Value) (r : Rul) (h : ruleR F w cs r) (hF : F w.heap.size) : SliceR ruleR 2 F (w.alloc (.cells cs.toArray 99)) (some ⟨w.heap.size, 0, none⟩) [r] := by
  have := SliceR.lit (F := F) (G := F) ruleR_ok w 99 [cs] [r] (fun k z hz => by match k, hz with | 0, hz => simp at hz; subst hz; exact ⟨_, rfl, h⟩) rfl (fun _ h => h) hF
  simpa using this
theorem rowF_lit {F : Foot} (w : World) (cs : List Value) (r : List Rul) (h : slcR ruleR 2 F w cs r) (hF : F w.heap.size) : SliceR (slcR ruleR 2) 1 F (w.alloc (.cells cs.toArray 100)) (some ⟨w.heap.size, 0, none⟩) [r] := by
  have := SliceR.lit (F := F) (G := F) rowR_ok w 100 [cs] [r] (fun k z hz => by match k, hz with | 0, hz => simp at hz; subst hz; exact ⟨_, rfl, h⟩) rfl (fun _ h => h) hF
  simpa using this

set_option maxRecDepth 100000 in
theorem nsink_any (w : World) : Calls Tryz.prog 53 #[] w fun e w' => ∃ cs, e = .returned (.agg cs.toArray) ∧ prcR (fun k => w.heap.size < k) w' cs sinkP ∧ Below w.heap.size w w' := by
  obtain ⟨W1, e1⟩ : ∃ W1, w.alloc (.cells #[.int .i64 0, .int .i64 0, .slice none 0 0] 89) = W1 := ⟨_, rfl⟩
  have bx : Box W1 w.heap.size [.int .i64 0, .int .i64 0, .slice none 0 0] 89 := by rw [← e1]; exact Box.new w [.int .i64 0, .int .i64 0, .slice none 0 0] 89
  have bb1 := bnew (Below.refl w.heap.size w) (.cells #[.int .i64 0, .int .i64 0, .slice none 0 0] 89)
  have hz1 : W1.heap.size = w.heap.size + 1 := by rw [← e1, alloc_size']
  rw [e1] at bb1
  obtain ⟨W2, e2⟩ : ∃ W2, W1.alloc (.cells #[.int .i64 0, .slice none 0 0] 99) = W2 := ⟨_, rfl⟩
  have hr2 : SliceR ruleR 2 (fun k => w.heap.size < k) W2 (some ⟨w.heap.size + 1, 0, none⟩) [⟨0, []⟩] := by
    rw [← e2, ← hz1]
    exact ruleF_lit W1 [.int .i64 0, .slice none 0 0] ⟨0, []⟩ ⟨none, 0, rfl, by unfold I64; simp, by simp, by simp, SliceR.nil _ _ _ _ _⟩ (by omega)
  have bb2 := bnew (Below.refl W1.heap.size W1) (.cells #[.int .i64 0, .slice none 0 0] 99)
  have hz2 : W2.heap.size = w.heap.size + 2 := by rw [← e2, alloc_size', hz1]
  rw [e2] at bb2
  obtain ⟨W3, e3⟩ : ∃ W3, W2.alloc (.cells #[.slice (some ⟨w.heap.size + 1, 0, none⟩) 1 1] 100) = W3 := ⟨_, rfl⟩
  have hr3 : SliceR (slcR ruleR 2) 1 (fun k => w.heap.size < k) W3 (some ⟨w.heap.size + 2, 0, none⟩) [[⟨0, []⟩]] := by
    rw [← e3, ← hz2]
    exact rowF_lit W2 [.slice (some ⟨w.heap.size + 1, 0, none⟩) 1 1] [⟨0, []⟩] ⟨_, 1, rfl, by simp, by simp, hr2⟩ (by omega)
  have bb3 := bnew (Below.refl W2.heap.size W2) (.cells #[.slice (some ⟨w.heap.size + 1, 0, none⟩) 1 1] 100)
  rw [e3] at bb3
  have bx3 := (bx.below bb2).below bb3
  have HB := hide ((bb1.trans (bb2.mono bb1.size)).trans (bb3.mono (by omega)))
  have HR := hide hr3
  have HX := hide bx3
  have x0 := bx3.cell 0
  have x1 := bx3.cell 1
  have x2 := bx3.cell 2
  have xf := bx3.free
  simp only [List.getElem?_cons_zero, List.getElem?_cons_succ] at x0 x1 x2
  clear hr2 hr3 bb1 bb2 bb3 bx bx3
  go_enter Tryz.func53, Tryz.ntmps53
  go_wp2_with fail
  have hfin := ((HX.out.put 0 (.int .i64 1)).put 1 (.int .i64 1)).put 2 (.slice (some ⟨w.heap.size + 2, 0, none⟩) 1 1)
  simp only [List.set_cons_zero, List.set_cons_succ] at hfin
  refine bodyPost_ret (results_cell_row rfl _ _ w.heap.size 89 _ (0, 0) _ rfl hfin Tryz.underlying89 rfl (by kernel_rfl)) rfl ?_
  refine ⟨_, rfl, ⟨some ⟨w.heap.size + 2, 0, none⟩, 1, rfl, by unfold I64 sinkP; simp, by unfold I64 sinkP; simp, by simp [sinkP], by simp [sinkP], ?_⟩, ((HB.out.setCell (Nat.le_refl _) _).setCell (Nat.le_refl _) _).setCell (Nat.le_refl _) _⟩
  refine HR.out.keep rowR_ok fun k hk _ => ?_
  rw [Below.heap_setCell _ _ _ k (by simp only; omega), Below.heap_setCell _ _ _ k (by simp only; omega), Below.heap_setCell _ _ _ k (by simp only; omega)]

theorem intlF {F : Foot} (w : World) (x : Int) (hx : I64 x) (hF : F w.heap.size) : SliceR intR 1 F (w.alloc (.cells #[.int .i64 x] 3)) (some ⟨w.heap.size, 0, none⟩) [x] := by
  have := ints_lit (F := F) (G := F) w 3 [x] (by intro z hz; simp at hz; subst hz; exact hx) hF
  simpa using this
def waitD (d : List Int) (q : Int) (i : Nat) : List (List Int) := (List.range i).map fun v : Nat => [if (v : Int) = q then 0 else d.getD v 0]
theorem waitD_succ (d : List Int) (q : Int) (i : Nat) : waitD d q (i + 1) = waitD d q i ++ [[if (i : Int) = q then 0 else d.getD i 0]] := by
  unfold waitD
  rw [List.range_succ, List.map_append]
  rfl
theorem waitD_len (d : List Int) (q : Int) (i : Nat) : (waitD d q i).length = i := by simp [waitD]
set_option maxRecDepth 100000 in
set_option maxHeartbeats 1000000 in
theorem nwaiting_any (d : List Int) (q : Int) (od : Option Addr) (cd : Nat) (F : Foot) (w : World) (hs : SliceR intR 1 F w od d) (hc : d.length ≤ cd) (hc2 : d.length ≤ 1000000) :
    Calls Tryz.prog 52 #[.slice od d.length cd, .int .i64 q] w fun e w' => ∃ v, e = .returned v ∧ OwnS (slcR intR 1) 1 w.heap.size 23 (InF (fun k => w.heap.size ≤ k) v) w' v (waitD d q d.length) ∧ Below w.heap.size w w' := by
  go_enter Tryz.func52, Tryz.ntmps52
  go_wp2_with fail
  go_loopg [5, 10] d.length (fun gm tv iv wr => ∃ i : Nat, i ≤ d.length ∧ gm = d.length - i ∧ iv = .int .i64 i ∧ Hid (OwnS (slcR intR 1) 1 w.heap.size 23 (InF (fun k => w.heap.size ≤ k) tv) wr tv (waitD d q i)) ∧ Hid (Below w.heap.size w wr))
  case atStart => exact ⟨0, by omega, by omega, rfl, OwnS.nil _ _ _ _ _ _, Below.refl _ _⟩
  case round =>
    obtain ⟨i, hi, hgm, rfl, HO, HB⟩ := hrel
    have HGM := hide hgm
    clear hgm
    by_cases hlt : i < d.length
    · obtain ⟨x, hd, hget, hx64, b, off, rfl, _, c0⟩ := (hs.below intR_ok HB.out).int_at hlt
      have HG := hide hget
      have HL : Hid ((waitD d q i).length = i) := waitD_len d q i
      obtain ⟨y, hy⟩ : ∃ y, y = if (i : Int) = q then 0 else x := ⟨_, rfl⟩
      have HY : Hid (waitD d q (i + 1) = waitD d q i ++ [[y]]) := by
        show _ = _
        rw [waitD_succ, hy, getD_some hget]
      have hy64 : I64 y := by
        rw [hy]
        split
        · unfold I64; simp
        · exact hx64
      have HY64 := hide hy64
      have hbase : w.heap.size ≤ wr.heap.size := HB.out.size
      clear hd hget hx64 hy64
      by_cases hq : (i : Int) = q
      · have hye : y = 0 := by rw [hy, if_pos hq]
        subst hye
        have q1 : ((i : Int) == q) = true := by simp [hq]
        clear hy hq
        go_wp2_with (at_builtin; refine wpList_append_in rfl (.tmp 18) (.tmp 21) 24 rfl w.heap.size 23 _ 1 24 Tryz.underlying24 tabInfoN rfl (by decide) (slcR_ok intR_ok (by decide)) (fun k => w.heap.size ≤ k) u5 (waitD d q i) (by simp [Act.eval, Act.put]) ((HO.out.new (slcR_ok intR_ok (by decide)) _).new (slcR_ok intR_ok (by decide)) _) ⟨_, 0, none⟩ 1 [.slice (some ⟨wr.heap.size, 0, none⟩) 1 1] [0] (by simp [Act.eval, Act.put]) (World.news_of_block (heap_alloc_new _ _)) ((slcR_ok intR_ok (by decide)).keep (⟨some ⟨wr.heap.size, 0, none⟩, 1, rfl, by simp, by simp, intlF wr 0 HY64.out ⟨hbase, fun e => by have := (HO.out.block _ e.symm).2; omega⟩⟩ : slcR intR 1 (InF (fun k => w.heap.size ≤ k) u5) (wr.alloc (.cells #[.int .i64 0] 3)) [.slice (some ⟨wr.heap.size, 0, none⟩) 1 1] [0]) (SameOn.of_below (bnew (Below.refl _ _) _))) (by rw [HL.out]; omega) (by rw [HL.out]; unfold maxLen; omega) (by rw [alloc_size', alloc_size']; omega) (fun v' w8 ho hb8 hg8 hat => ?_); have HO8 := hide ho; have HB8 := hide hb8; clear ho hb8 hg8 hat)
        go_roundg (d.length - (i + 1))
        case measure => have := HGM.out; omega
        case rel =>
          have ho := HO8.out
          rw [← HY.out] at ho
          exact ⟨i + 1, by omega, rfl, by go_num, ho, ((HB.out.alloc hbase _).alloc (by rw [alloc_size']; omega) _).trans HB8.out⟩
      · have hye : y = x := by rw [hy, if_neg hq]
        subst hye
        have q1 : ((i : Int) == q) = false := by simp [hq]
        clear hy hq
        go_wp2_with (at_builtin; refine wpList_append_in rfl (.tmp 18) (.tmp 21) 24 rfl w.heap.size 23 _ 1 24 Tryz.underlying24 tabInfoN rfl (by decide) (slcR_ok intR_ok (by decide)) (fun k => w.heap.size ≤ k) u5 (waitD d q i) (by simp [Act.eval, Act.put]) ((HO.out.new (slcR_ok intR_ok (by decide)) _).new (slcR_ok intR_ok (by decide)) _) ⟨_, 0, none⟩ 1 [.slice (some ⟨wr.heap.size, 0, none⟩) 1 1] [y] (by simp [Act.eval, Act.put]) (World.news_of_block (heap_alloc_new _ _)) ((slcR_ok intR_ok (by decide)).keep (⟨some ⟨wr.heap.size, 0, none⟩, 1, rfl, by simp, by simp, intlF wr y HY64.out ⟨hbase, fun e => by have := (HO.out.block _ e.symm).2; omega⟩⟩ : slcR intR 1 (InF (fun k => w.heap.size ≤ k) u5) (wr.alloc (.cells #[.int .i64 y] 3)) [.slice (some ⟨wr.heap.size, 0, none⟩) 1 1] [y]) (SameOn.of_below (bnew (Below.refl _ _) _))) (by rw [HL.out]; omega) (by rw [HL.out]; unfold maxLen; omega) (by rw [alloc_size', alloc_size']; omega) (fun v' w8 ho hb8 hg8 hat => ?_); have HO8 := hide ho; have HB8 := hide hb8; clear ho hb8 hg8 hat)
        go_roundg (d.length - (i + 1))
        case measure => have := HGM.out; omega
        case rel =>
          have ho := HO8.out
          rw [← HY.out] at ho
          exact ⟨i + 1, by omega, rfl, by go_num, ho, ((HB.out.alloc hbase _).alloc (by rw [alloc_size']; omega) _).trans HB8.out⟩
    · have hie : i = d.length := by omega
      subst hie
      go_wp2_with fail
      go_ret
      exact ⟨_, rfl, HO.out, HB.out⟩

theorem topRules_take (sent : List Out) (s : Nat) : (List.range (s + 1)).map (topRow sent) = (List.range s).map (topRow sent) ++ [topRow sent s] := by rw [List.range_succ, List.map_append]; rfl
/-- What toppler comes to. -/
def TopPost (w : World) (sent : List Out) (e : Ending) (w' : World) : Prop :=
  (if sent.length ≤ 16 then ∃ cs, e = .returned (.tuple #[.agg cs.toArray, .int .i64 0]) ∧ prcR (fun k => w.heap.size ≤ k) w' cs (topP sent)
    else e = .returned (.tuple #[.agg #[.int .i64 0, .int .i64 0, .slice none 0 0], .int .i64 12])) ∧ Below w.heap.size w w'
set_option maxRecDepth 100000 in
set_option maxHeartbeats 4000000 in
theorem ntoppler_any (n : Nat) (es : List Edg) (oe : Option Addr) (c : Nat) (F : Foot) (w : World) (hs : SliceR edgR 3 F w oe es) (hc : es.length ≤ c) (hc2 : es.length ≤ 1000000000) (hg : gErr n es = 0) (v : Nat) (hv : v < n) :
    Calls Tryz.prog 54 #[.agg #[.int .i64 n, .slice oe es.length c], .int .i64 v] w (TopPost w (nbrU es v n)) := by
  have h12 : 1 ≤ n ∧ n ≤ 12 := by have := (gErr_zero hg).1; omega
  obtain ⟨W1, e1⟩ : ∃ W1, w.alloc (.cells #[.int .i64 n, .slice oe es.length c] 43) = W1 := ⟨_, rfl⟩
  have bx1 : Box W1 w.heap.size [.int .i64 n, .slice oe es.length c] 43 := by rw [← e1]; exact Box.new w [.int .i64 n, .slice oe es.length c] 43
  have bb1 := bnew (Below.refl w.heap.size w) (.cells #[.int .i64 n, .slice oe es.length c] 43)
  rw [e1] at bb1
  obtain ⟨W2, e2⟩ : ∃ W2, W1.alloc (.cells #[.int .i64 0, .int .i64 0, .slice none 0 0] 89) = W2 := ⟨_, rfl⟩
  have bx2 : Box W2 W1.heap.size [.int .i64 0, .int .i64 0, .slice none 0 0] 89 := by rw [← e2]; exact Box.new W1 [.int .i64 0, .int .i64 0, .slice none 0 0] 89
  have bb2 := bnew (Below.refl W1.heap.size W1) (.cells #[.int .i64 0, .int .i64 0, .slice none 0 0] 89)
  rw [e2] at bb2
  have hz1 : w.heap.size ≤ W1.heap.size := bb1.size
  have hz2 : W1.heap.size < W2.heap.size := by rw [← e2, alloc_size']; omega
  have bx1 := bx1.below bb2
  have hb2 := bb1.trans (bb2.mono hz1)
  have HX1 := hide bx1
  have HX2 := hide bx2
  have HB2 := hide hb2
  have HGE := hide hg
  have d0 := bx1.cell 0
  have d1 := bx1.cell 1
  have r0 := bx2.cell 0
  have r1 := bx2.cell 1
  have r2 := bx2.cell 2
  simp only [List.getElem?_cons_zero, List.getElem?_cons_succ] at d0 d1 r0 r1 r2
  have HBT : Hid (∀ (u : World) (i : Nat), i < n → Below w.heap.size w u → Calls Tryz.prog 97 #[.agg #[.int .i64 n, .slice oe es.length c], .int .i64 v, .int .i64 i] u fun e w' => e = .returned (.tuple #[.int .i64 (betw es v i), .int .i64 0]) ∧ Below u.heap.size u w') := fun u i hi hu => by
    have h := gbetw_any n es oe c F u (hs.below edgR_ok hu) hc hc2 v i (by unfold I64; omega) (by unfold I64; omega)
    have h1 : btwRes n es v i = (betw es v i, 0) := by
      have : atE n es [(v : Int), (i : Int)] = 0 := by
        unfold atE
        rw [if_pos hg, if_pos]
        simp [vtxB]
        omega
      unfold btwRes
      rw [if_pos this]
    rw [h1] at h
    exact h
  clear bx1 bx2 bb1 bb2 hb2 hs hg
  go_enter Tryz.func54, Tryz.ntmps54
  go_wp2_with fail
  go_loopg [6, 16] n (fun gm tv iv wr => ∃ i : Nat, i ≤ n ∧ gm = n - i ∧ iv = .int .i64 i ∧ Hid (OwnS outR 2 W2.heap.size 102 Non wr tv (nbrU es v i)) ∧ Hid (Below W2.heap.size W2 wr))
  case atStart => exact ⟨0, by omega, by omega, rfl, OwnS.nil _ _ _ _ _ _, Below.refl _ _⟩
  case round =>
    obtain ⟨i, hi, hgm, rfl, HO, HB⟩ := hrel
    have HGM := hide hgm
    clear hgm
    have x1 := HX1.out.below HB.out
    have y0 := x1.cell 0
    have y1 := x1.cell 1
    simp only [List.getElem?_cons_zero, List.getElem?_cons_succ] at y0 y1
    by_cases hlt : i < n
    · by_cases hiv : i = v
      · have q1 : ((i : Int) == (v : Int)) = true := by simp [hiv]
        have HN : Hid (nbrU es v (i + 1) = nbrU es v i) := by show _ = _; rw [nbrU_succ, if_pos hiv, List.append_nil]
        clear hiv
        go_wp2_with fail
        go_roundg (n - (i + 1))
        case measure => have := HGM.out; omega
        case rel => exact ⟨i + 1, by omega, rfl, by go_num, by rw [HN.out]; exact HO, HB⟩
      · have q1 : ((i : Int) == (v : Int)) = false := by simp; omega
        obtain ⟨m, hm⟩ : ∃ m : Nat, betw es v i = (m : Int) := ⟨(betw es v i).toNat, by have := betw_bound HGE.out (v : Int) (i : Int); omega⟩
        have hm50 : m ≤ 50 := by have := betw_bound HGE.out (v : Int) (i : Int); omega
        have HN : Hid (nbrU es v (i + 1) = nbrU es v i ++ List.replicate m ⟨i, 0⟩) := by show _ = _; rw [nbrU_succ, if_neg hiv, hm]; rfl
        have HLN := hide (nbrU_len HGE.out v i)
        have hbw : Below w.heap.size w wr := HB2.out.trans (HB.out.mono (by omega))
        have HBC := hide (HBT.out wr i hlt hbw)
        rw [hm] at HBC
        have hsz : W2.heap.size ≤ wr.heap.size := HB.out.size
        clear hm hiv hbw
        go_wp2_with (first
          | (go_at_call 97; refine HBC.out.mono ?_; rintro e w3 ⟨rfl, h3⟩; have HB3 := hide h3; clear h3)
          | (go_at_call 98; refine (repeatO_any ⟨i, 0⟩ m 1 _ All _ (by omega) (out_lit w3 i 0 (by unfold I64; omega) (by unfold I64; omega))).mono ?_; rintro e w4 ⟨v4, rfl, h4, hb4⟩; obtain ⟨o4, c4, hv4, hc4, hs4⟩ := h4.slice outR_ok; rw [List.length_replicate] at hv4; subst hv4; have HS4 := hide hs4; have HB4 := hide hb4; clear h4 hb4 hc4 hs4)
          | (at_builtin; refine wpList_append_rep rfl (.tmp 33) (.tmp 38) 97 rfl W2.heap.size 102 _ 2 16 Tryz.underlying97 outInfoN rfl (by decide) outR_ok Non (fun k => Non k ∨ (w3.alloc (.cells #[.int .i64 i, .int .i64 0] 102)).heap.size ≤ k) u6 (nbrU es v i) (by simp [Act.eval, Act.put]) (((HO.out.below outR_ok HB3.out).new outR_ok _).below outR_ok HB4.out) o4 c4 (List.replicate m ⟨i, 0⟩) (by simp [Act.eval, Act.put]) HS4.out (fun _ _ h => h) (fun _ h => h.elim) (by rw [List.length_replicate]; have := HLN.out; omega) (by rw [List.length_replicate]; have := HLN.out; omega) (by have h1 := HB3.out.size; have h2 := HB4.out.size; rw [alloc_size'] at h2; omega) ?_; intro v' w5 ho hb5 hg5; have HO5 := hide ho; have HB5 := hide hb5; clear ho hb5 hg5))
        go_roundg (n - (i + 1))
        case measure => have := HGM.out; omega
        case rel =>
          have h3 := HB3.out.size
          have h4 := HB4.out
          rw [alloc_size'] at h4
          exact ⟨i + 1, by omega, rfl, by go_num, by rw [HN.out]; exact HO5, (HB.out.trans ((HB3.out.mono hsz).alloc (by omega) _)).trans ((h4.mono (by omega)).trans HB5.out)⟩
    · have hin : i = n := by omega
      subst hin
      obtain ⟨ot, ct, htv, hct, hst⟩ := HO.out.slice outR_ok
      have hlen := nbrU_len HGE.out v i
      obtain ⟨sent, hsent⟩ : ∃ sent, sent = nbrU es v i := ⟨_, rfl⟩
      rw [← hsent] at htv hct hst hlen ⊢
      obtain ⟨k, hk⟩ : ∃ k, k = sent.length := ⟨_, rfl⟩
      rw [← hk] at htv hct hlen
      subst htv
      have hsz : W2.heap.size ≤ wr.heap.size := HB.out.size
      have hbw : Below w.heap.size w wr := HB2.out.trans (HB.out.mono (by omega))
      have HBW := hide hbw
      have HK := hide hk
      have HST : Hid (SliceR outR 2 (fun q => W2.heap.size ≤ q ∧ q < wr.heap.size) wr ot sent) := hst.wide outR_ok (by decide) fun q hq hlq => ⟨by rcases hq with h | h; exact h.elim; exact h, hlq⟩
      have x2 := HX2.out.below HB.out
      have r0 := x2.cell 0
      have r1 := x2.cell 1
      have r2 := x2.cell 2
      have rf := x2.free
      simp only [List.getElem?_cons_zero, List.getElem?_cons_succ] at r0 r1 r2
      have HX2r := hide x2
      have hk0 : (0 : Int) ≤ (k : Int) := by omega
      have hk600 : (k : Int) ≤ 600 := by omega
      have hct2 : k ≤ ct := hct
      have HLV := hide hsent
      clear x2 hst hsent hk hbw HO hct
      by_cases hk16 : k ≤ 16
      · have q16 : decide ((16 : Int) < (k : Int)) = false := by simp; omega
        go_wp2_with fail
        obtain ⟨W3, e3⟩ : ∃ W3, wr.alloc (.cells #[.int .i64 k, .int .i64 1, .slice none 0 0] 89) = W3 := ⟨_, rfl⟩
        have bx3 : Box W3 wr.heap.size [.int .i64 k, .int .i64 1, .slice none 0 0] 89 := by rw [← e3]; exact Box.new wr [.int .i64 k, .int .i64 1, .slice none 0 0] 89
        have bb3 := bnew (Below.refl wr.heap.size wr) (.cells #[.int .i64 k, .int .i64 1, .slice none 0 0] 89)
        rw [e3] at bb3
        rw [e3]
        obtain ⟨pb, hpb⟩ : ∃ pb, pb = wr.heap.size := ⟨_, rfl⟩
        have HB3 := hide bb3
        have HX3 := hide bx3
        have HBWR : Hid (Below pb wr W3) := by rw [hpb]; exact bb3
        rw [← hpb] at HX3 HST hsz
        rw [← hpb]
        clear hpb e3 r0 r1 r2 rf bx3 bb3
        go_loopg [53] k (fun gm sv wx => ∃ (s : Nat) (vq : Value), s ≤ k ∧ gm = k - s ∧ sv = .int .i64 s ∧ Hid (OwnS (slcR ruleR 2) 1 (pb + 1) 100 (InF (fun q => W2.heap.size ≤ q ∧ q ≠ pb) vq) wx vq ((List.range s).map (topRow sent))) ∧ Hid (Box wx pb [.int .i64 k, .int .i64 1, vq] 89) ∧ Hid (Below pb W3 wx))
        case atStart => exact ⟨0, _, by omega, by omega, rfl, OwnS.nil _ _ _ _ _ _, HX3.out, Below.refl _ _⟩
        case round =>
          obtain ⟨s, vq, hs, hgm, rfl, HOq, HXq, HBq⟩ := hrel
          have HGM2 := hide hgm
          clear hgm
          have hpbl : pb < wr.heap.size := HXq.out.lt
          by_cases hls : s < k
          · obtain ⟨r, hr⟩ : ∃ r, r = (s + 1) % k := ⟨_, rfl⟩
            have hrem : ((s : Int) + 1).tmod (k : Int) = (r : Int) := by rw [hr, Int.tmod_eq_emod_of_nonneg (by omega)]; rfl
            have hr16 : r < k := by rw [hr]; exact Nat.mod_lt _ (by omega)
            obtain ⟨oQ, cQ, hvq, hcQ, _⟩ := HOq.out.slice rowR_ok
            rw [List.length_map, List.length_range] at hvq hcQ
            have HOB := hide HOq.out.block
            have HT : Hid ((List.range (s + 1)).map (topRow sent) = (List.range s).map (topRow sent) ++ [topRow sent s]) := topRules_take sent s
            have HLS : Hid (((List.range s).map (topRow sent)).length = s) := by show _ = _; rw [List.length_map, List.length_range]
            have HR := hide hr
            subst hvq
            clear hr
            by_cases hl : s + 1 = k
            · have q2 : ((s : Int) == (k : Int) - 1) = true := by simp; omega
              obtain ⟨W6, e6⟩ : ∃ W6, wr.alloc (.cells #[.int .i64 r, .slice ot k ct] 99) = W6 := ⟨_, rfl⟩
              have bx6 : Box W6 wr.heap.size [.int .i64 r, .slice ot k ct] 99 := by rw [← e6]; exact Box.new wr [.int .i64 r, .slice ot k ct] 99
              have bb6 : Below wr.heap.size wr W6 := by rw [← e6]; exact bnew (Below.refl _ _) _
              have hz6 : W6.heap.size = wr.heap.size + 1 := by rw [← e6, alloc_size']
              have hrl : ruleR (InF (fun q => W2.heap.size ≤ q ∧ q ≠ pb) (.slice oQ s cQ)) W6 [.int .i64 r, .slice ot k ct] ⟨r, sent⟩ := by
                refine ⟨ot, ct, by simp only; rw [← HK.out], by unfold I64; simp only; omega, by simp only; rw [← HK.out]; exact hct2, by simp only; rw [← HK.out]; omega, ?_⟩
                refine (HST.out.below outR_ok HB3.out).keep outR_ok (fun q hq _ => ?_) |>.wide outR_ok (by decide) fun q hq _ => ⟨⟨by omega, by omega⟩, fun e => by have := (HOB.out q e.symm).1; omega⟩
                rw [bb6.block q (by omega)]
                exact HBq.out.block q hq.2
              have hrow : topRow sent s = [⟨r, sent⟩] := by unfold topRow; rw [← HK.out, if_pos hl, ← HR.out]
              have HREP : Hid (slcR ruleR 2 (InF (fun q => W2.heap.size ≤ q ∧ q ≠ pb) (.slice oQ s cQ)) (W6.alloc (.cells #[.int .i64 r, .slice ot k ct] 99)) [.slice (some ⟨W6.heap.size, 0, none⟩) 1 1] (topRow sent s)) := by
                show slcR ruleR 2 _ _ _ _
                rw [hrow]
                have h9 := ruleF_lit W6 [.int .i64 r, .slice ot k ct] ⟨r, sent⟩ hrl ⟨⟨by omega, by omega⟩, fun e => by have := (HOB.out _ e.symm).2; omega⟩
                exact ⟨_, 1, rfl, by simp, by simp, h9⟩
              have HOW := hide (HOq.out.below rowR_ok bb6)
              have HXQ := hide (HXq.out.below bb6)
              have k60 := bx6.cell 0
              have k61 := bx6.cell 1
              have kf := bx6.free
              have p2 := HXQ.out.cell 2
              have p2a := (HXQ.out.next (.cells #[.int .i64 r, .slice ot k ct] 99)).cell 2
              have p2b := ((HXQ.out.next (.cells #[.int .i64 r, .slice ot k ct] 99)).next (.cells #[.slice (some ⟨W6.heap.size, 0, none⟩) 1 1] 100)).cell 2
              simp only [List.getElem?_cons_zero, List.getElem?_cons_succ] at k60 k61 p2 p2a p2b
              have HBB6 := hide bb6
              have HZ6 := hide hz6
              have HBX6 := hide bx6
              clear hrow hrl bb6 hz6 bx6 hl
              go_wp2_with (at_builtin; go_loud (refine wpList_append_in rfl (.tmp 68) (.tmp 71) 87 rfl (pb + 1) 100 _ 1 24 Tryz.underlying87 rowInfoN rfl (by decide) rowR_ok (fun q => W2.heap.size ≤ q ∧ q ≠ pb) (.slice oQ s cQ) ((List.range s).map (topRow sent)) (by simp [Act.eval, Act.put]) ((HOW.out.new rowR_ok _).new rowR_ok _) ⟨_, 0, none⟩ 1 [.slice (some ⟨W6.heap.size, 0, none⟩) 1 1] (topRow sent s) (by simp [Act.eval, Act.put]) (World.news_of_block (heap_alloc_new _ _)) (rowR_ok.keep HREP.out (SameOn.of_below (bnew (Below.refl _ _) _))) (by rw [HLS.out]; omega) (by rw [HLS.out]; unfold maxLen; omega) (by rw [alloc_size', alloc_size']; have := HZ6.out; omega) (fun v' w8 ho hb8 hg8 hat => ?_); have hbx8 := ((HXQ.out.next (.cells #[.int .i64 r, .slice ot k ct] 99)).next (.cells #[.slice (some ⟨W6.heap.size, 0, none⟩) 1 1] 100)).grown hg8 (fun e => by have := (HOB.out pb e.symm).1; omega); have m2 := hbx8.cell 2; have mf := hbx8.free 2; obtain ⟨o8, c8, hv8, _, _⟩ := ho.slice rowR_ok; rw [List.length_append, HLS.out] at hv8; simp only [List.length_cons, List.length_nil, Nat.zero_add] at hv8; subst hv8; simp only [List.getElem?_cons_zero, List.getElem?_cons_succ] at m2; have HOW8 := hide ho; have HX8 := hide hbx8; have HB8 := hide hb8; clear ho hb8 hg8 hat hbx8 p2 p2a p2b))
              go_roundg (k - (s + 1))
              case measure => have := HGM2.out; omega
              case rel =>
                have hput := HX8.out.put 2 (.slice o8 (s + 1) c8)
                simp only [List.set_cons_zero, List.set_cons_succ] at hput
                refine ⟨s + 1, .slice o8 (s + 1) c8, by omega, rfl, by go_num, ?_, hput, ?_⟩
                · rw [HT.out]
                  exact HOW8.out.keep rowR_ok (fun g hg => Below.heap_setCell _ _ _ g (by have := (HOW8.out.block g hg).1; simp only; omega)) (fun q hq _ => Below.heap_setCell _ _ _ q hq.1.2)
                · have h6 := HBB6.out
                  have hz := HZ6.out
                  show Below _ _ _
                  refine Below.setCell (p := ⟨pb, 2, none⟩) ?_ (Nat.le_refl pb) _
                  exact (HBq.out.trans ((h6.mono (by omega)).alloc (by omega) _)).trans ((bnew (Below.refl _ _) _).mono (by rw [alloc_size']; omega) |>.trans (HB8.out.mono (by omega)))
            · have q2 : ((s : Int) == (k : Int) - 1) = false := by simp; omega
              have bx6 : Box (wr.alloc (.cells #[.int .i64 r, .slice none 0 0] 99)) wr.heap.size [.int .i64 r, .slice none 0 0] 99 := Box.new wr [.int .i64 r, .slice none 0 0] 99
              have bb6 : Below wr.heap.size wr (wr.alloc (.cells #[.int .i64 r, .slice none 0 0] 99)) := bnew (Below.refl _ _) _
              have hz6 : (wr.alloc (.cells #[.int .i64 r, .slice none 0 0] 99)).heap.size = wr.heap.size + 1 := alloc_size' _ _
              have hrl : ruleR (InF (fun q => W2.heap.size ≤ q ∧ q ≠ pb) (.slice oQ s cQ)) (wr.alloc (.cells #[.int .i64 r, .slice none 0 0] 99)) [.int .i64 r, .slice none 0 0] ⟨r, []⟩ := ⟨none, 0, rfl, by unfold I64; simp only; omega, by simp, by simp, SliceR.nil _ _ _ _ _⟩
              have hrow : topRow sent s = [⟨r, []⟩] := by unfold topRow; rw [← HK.out, if_neg hl, ← HR.out]
              have HREP : Hid (slcR ruleR 2 (InF (fun q => W2.heap.size ≤ q ∧ q ≠ pb) (.slice oQ s cQ)) ((wr.alloc (.cells #[.int .i64 r, .slice none 0 0] 99)).alloc (.cells #[.int .i64 r, .slice none 0 0] 99)) [.slice (some ⟨wr.heap.size + 1, 0, none⟩) 1 1] (topRow sent s)) := by
                show slcR ruleR 2 _ _ _ _
                rw [hrow]
                have h9 := ruleF_lit (wr.alloc (.cells #[.int .i64 r, .slice none 0 0] 99)) [.int .i64 r, .slice none 0 0] ⟨r, []⟩ hrl ⟨⟨by omega, by omega⟩, fun e => by have := (HOB.out _ e.symm).2; omega⟩
                rw [alloc_size'] at h9
                exact ⟨_, 1, rfl, by simp, by simp, h9⟩
              have HOW := hide (HOq.out.below rowR_ok bb6)
              have HXQ := hide (HXq.out.below bb6)
              have k60 := bx6.cell 0
              have k61 := bx6.cell 1
              have kf := bx6.free
              have p2 := HXQ.out.cell 2
              have p2a := (HXQ.out.next (.cells #[.int .i64 r, .slice none 0 0] 99)).cell 2
              have p2b := ((HXQ.out.next (.cells #[.int .i64 r, .slice none 0 0] 99)).next (.cells #[.slice (some ⟨wr.heap.size + 1, 0, none⟩) 1 1] 100)).cell 2
              simp only [List.getElem?_cons_zero, List.getElem?_cons_succ] at k60 k61 p2 p2a p2b
              have HBB6 := hide bb6
              have HZ6 := hide hz6
              have HBX6 := hide bx6
              clear hrow hrl bb6 hz6 bx6 hl
              go_wp2_with (at_builtin; go_loud (refine wpList_append_in rfl (.tmp 68) (.tmp 71) 87 rfl (pb + 1) 100 _ 1 24 Tryz.underlying87 rowInfoN rfl (by decide) rowR_ok (fun q => W2.heap.size ≤ q ∧ q ≠ pb) (.slice oQ s cQ) ((List.range s).map (topRow sent)) (by simp [Act.eval, Act.put]) ((HOW.out.new rowR_ok _).new rowR_ok _) ⟨_, 0, none⟩ 1 [.slice (some ⟨wr.heap.size + 1, 0, none⟩) 1 1] (topRow sent s) (by simp [Act.eval, Act.put]) (World.news_of_block (heap_alloc_new _ _)) (rowR_ok.keep HREP.out (SameOn.of_below (bnew (Below.refl _ _) _))) (by rw [HLS.out]; omega) (by rw [HLS.out]; unfold maxLen; omega) (by rw [alloc_size', alloc_size']; have := HZ6.out; omega) (fun v' w8 ho hb8 hg8 hat => ?_); have hbx8 := ((HXQ.out.next (.cells #[.int .i64 r, .slice none 0 0] 99)).next (.cells #[.slice (some ⟨wr.heap.size + 1, 0, none⟩) 1 1] 100)).grown hg8 (fun e => by have := (HOB.out pb e.symm).1; omega); have m2 := hbx8.cell 2; have mf := hbx8.free 2; obtain ⟨o8, c8, hv8, _, _⟩ := ho.slice rowR_ok; rw [List.length_append, HLS.out] at hv8; simp only [List.length_cons, List.length_nil, Nat.zero_add] at hv8; subst hv8; simp only [List.getElem?_cons_zero, List.getElem?_cons_succ] at m2; have HOW8 := hide ho; have HX8 := hide hbx8; have HB8 := hide hb8; clear ho hb8 hg8 hat hbx8 p2 p2a p2b))
              go_roundg (k - (s + 1))
              case measure => have := HGM2.out; omega
              case rel =>
                have hput := HX8.out.put 2 (.slice o8 (s + 1) c8)
                simp only [List.set_cons_zero, List.set_cons_succ] at hput
                refine ⟨s + 1, .slice o8 (s + 1) c8, by omega, rfl, by go_num, ?_, hput, ?_⟩
                · rw [HT.out]
                  exact HOW8.out.keep rowR_ok (fun g hg => Below.heap_setCell _ _ _ g (by have := (HOW8.out.block g hg).1; simp only; omega)) (fun q hq _ => Below.heap_setCell _ _ _ q hq.1.2)
                · have h6 := HBB6.out
                  have hz := HZ6.out
                  show Below _ _ _
                  refine Below.setCell (p := ⟨pb, 2, none⟩) ?_ (Nat.le_refl pb) _
                  exact (HBq.out.trans ((h6.mono (by omega)).alloc (by omega) _)).trans ((bnew (Below.refl _ _) _).mono (by rw [alloc_size']; omega) |>.trans (HB8.out.mono (by omega)))
          · have hse : s = k := by omega
            subst hse
            obtain ⟨oQ, cQ, hvq, hcQ, hsQ⟩ := HOq.out.slice rowR_ok
            rw [List.length_map, List.length_range] at hvq hcQ
            subst hvq
            have hpw := HBWR.out.trans HBq.out
            have x2 := HX2r.out.under hpw (by omega)
            have r0 := x2.cell 0
            have r1 := x2.cell 1
            have r2 := x2.cell 2
            have rf := x2.free
            have p0 := HXq.out.cell 0
            have p1 := HXq.out.cell 1
            have p2 := HXq.out.cell 2
            simp only [List.getElem?_cons_zero, List.getElem?_cons_succ] at r0 r1 r2 p0 p1 p2
            have HX2w := hide x2
            have HSQ := hide hsQ
            have hbz : Below w.heap.size w wr := HBW.out.trans (hpw.mono (by omega))
            have HBZ := hide hbz
            clear x2 hsQ hpw hbz
            go_wp2_with fail
            have hfin := ((HX2w.out.put 0 (.int .i64 s)).put 1 (.int .i64 1)).put 2 (.slice oQ s cQ)
            simp only [List.set_cons_zero, List.set_cons_succ] at hfin
            refine bodyPost_ret (results_cell_tmp_row rfl _ _ W1.heap.size 89 _ (0, 0) _ rfl hfin Tryz.underlying89 rfl (by kernel_rfl)) rfl ?_
            refine ⟨?_, ((HBZ.out.setCell hz1 _).setCell hz1 _).setCell hz1 _⟩
            rw [if_pos (by rw [← HLV.out, ← HK.out]; omega), ← HLV.out]
            refine ⟨_, rfl, oQ, cQ, ?_, ?_, ?_, ?_, ?_, ?_⟩
            · simp only [topP, List.length_map, List.length_range, ← HK.out]
            · unfold I64 topP; simp only; rw [← HK.out]; omega
            · unfold I64 topP; simp
            · simp only [topP, List.length_map, List.length_range, ← HK.out]; exact hcQ
            · simp only [topP, List.length_map, List.length_range, ← HK.out]; omega
            · show SliceR (slcR ruleR 2) 1 _ _ _ ((List.range sent.length).map (topRow sent))
              rw [← HK.out]
              refine (HSQ.out.keep rowR_ok fun q hq _ => ?_).wide rowR_ok (by decide) fun q hq _ => ?_
              · have hq2 : W1.heap.size < q := by
                  rcases hq with h | h
                  · have := h.1.1; omega
                  · omega
                rw [Below.heap_setCell _ _ _ q (by simp only; omega), Below.heap_setCell _ _ _ q (by simp only; omega), Below.heap_setCell _ _ _ q (by simp only; omega)]
              · rcases hq with h | h
                · have := h.1.1; omega
                · omega
      · have q16 : decide ((16 : Int) < (k : Int)) = true := by simp; omega
        have hfin := ((HX2r.out.put 0 (.int .i64 0)).put 1 (.int .i64 0)).put 2 (.slice none 0 0)
        simp only [List.set_cons_zero, List.set_cons_succ] at hfin
        have HF := hide hfin
        clear hfin
        go_wp2_with fail
        refine bodyPost_ret (results_cell_tmp_row rfl _ _ W1.heap.size 89 _ (0, 0) _ rfl HF.out Tryz.underlying89 rfl (by kernel_rfl)) rfl ?_
        refine ⟨?_, ((HBW.out.setCell hz1 _).setCell hz1 _).setCell hz1 _⟩
        rw [if_neg (by rw [← HLV.out, ← HK.out]; omega)]
        rfl

end Go.Proofs.YtnigfddanoaonaaGreat

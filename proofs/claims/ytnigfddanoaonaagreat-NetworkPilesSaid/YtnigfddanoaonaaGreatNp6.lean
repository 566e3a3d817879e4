/-
  NetworkPiles returns true for every graph, sink and divisor: Sandpile gives the network or the error of the reference. No condition.
  The walk of NetworkPiles.
  A game in memory; ref17.Few, ref17.Small; sandpilelaw45.small.
  ref55.Sandpile (printed by mkRefSand.py out of XNwSand).
  ref19.Rooted, ref19.Check.
  ref17.In, ref17.Check, ref45.chips, ref45.Given; ref17.Few, ref17.Small, ref45.FewChips.
  ref55.toppler (printed by mkRefTop.py).
  The reference's sandpile as a network: sink, chips.
  Two networks: Same of chapter 55.
  network.Same: whether two networks are equal.
  network.Same: slices.EqualFunc at four types with the closures (printed by mkSame.py).
  Two processors: sameProcessors of chapter 55.
  The examples of the chapter on networks.
  Two lists of ints, two tables: SameInts of chapter 08, SameTables of chapter 55.
  Networks at the triangle of the examples: numbers; slices.Equal of two moves.
  What the functions give at the triangle: numbers.
  rotor.Acyclic.
  rotor.Acyclic: its closure; deferred marks of many ranges.
  rotor.All.
  (*rotor.board).route with the first vertex that has chips.
  Routing chips: plain law.
-/
import Derived.Test.YtnigfddanoaonaaGreatNp5
import Derived.BigRegionIn
import Derived.Test.YtnigfddanoaonaaGreatProg
import Derived.Deep.QuietTactic
import Derived.BigQuiet
import Derived.Deep.LoopGhost
import Derived.Deep.DeepCutAuto
import Derived.StillTailTactics
import Derived.Test.YtnigfddanoaonaaGreatRows

set_option linter.unusedVariables false
set_option linter.unusedSimpArgs false
set_option linter.unnecessarySimpa false
namespace Go.Proofs.YtnigfddanoaonaaGreat
open Go.RowKit

/-- The vertices below k, other than the sink, that have chips. -/
def liveP (q : Nat) (l : List Int) (k : Nat) : List Int := ((List.range k).filter fun v : Nat => decide (v ≠ q ∧ 0 < l.getD v 0)).map fun v : Nat => (v : Int)
def liveL (q : Nat) (l : List Int) : List Int := liveP q l l.length
abbrev MSt := List Int × List Int × List Int
def addL (l : List Int) (v : Nat) (x : Int) : List Int := l.set v (l.getD v 0 + x)
theorem addL_len (l : List Int) (v : Nat) (x : Int) : (addL l v x).length = l.length := by simp [addL]
theorem addL_mem {l : List Int} {v : Nat} {x y : Int} (h : y ∈ addL l v x) (hv : v < l.length) : y ∈ l ∨ ∃ z ∈ l, y = z + x := by
  unfold addL at h
  rcases List.mem_or_eq_of_mem_set h with h1 | h1
  · exact .inl h1
  · refine .inr ⟨l[v], List.getElem_mem hv, ?_⟩
    rw [h1, getD_of (List.getElem?_eq_getElem hv)]
/-- A chip moves from v. -/
def mvS (ar : List (List Int)) (E : List (Int × Int)) (s : MSt) (v : Nat) : MSt := (stpR ar s.1 v, addL (addL s.2.1 v (-1)) (stpV ar E s.1 v) 1, addL s.2.2 v 1)
/-- What there is behind i moves, by picks. -/
def mvN (ar : List (List Int)) (E : List (Int × Int)) (q : Nat) (pk : Nat → List Int → Int) (s : MSt) : Nat → MSt
  | 0 => s
  | i + 1 => mvS ar E (mvN ar E q pk s i) (pk i (liveL q (mvN ar E q pk s i).2.1)).toNat

structure MvOk (n : Int) (es : List Edg) (ar : List (List Int)) (q : Nat) (i : Nat) (s : MSt) : Prop where
  rot : RtOk n es ar q s.1
  ll : s.2.1.length = ar.length
  tl : s.2.2.length = ar.length
  lb : ∀ x ∈ s.2.1, -1048576 - (i : Int) ≤ x ∧ x ≤ 1048576 + (i : Int)
  tb : ∀ x ∈ s.2.2, 0 ≤ x ∧ x ≤ (i : Int)
theorem MvOk.step {n : Int} {es : List Edg} {ar : List (List Int)} {q i : Nat} {s : MSt} (h : MvOk n es ar q i s) {v : Nat} (hv : v < ar.length) (hq : v ≠ q) : MvOk n es ar q (i + 1) (mvS ar (endsL es) s v) ∧ stpV ar (endsL es) s.1 v < ar.length := by
  obtain ⟨_, h1, h2⟩ := h.rot.step hv hq
  refine ⟨⟨h1, by simp [mvS, addL_len, h.ll], by simp [mvS, addL_len, h.tl], fun x hx => ?_, fun x hx => ?_⟩, h2⟩
  · rcases addL_mem hx (by rw [addL_len, h.ll]; exact h2) with h3 | ⟨z, h3, rfl⟩
    · rcases addL_mem h3 (by rw [h.ll]; exact hv) with h4 | ⟨y, h4, rfl⟩
      · have := h.lb x h4; omega
      · have := h.lb y h4; omega
    · rcases addL_mem h3 (by rw [h.ll]; exact hv) with h4 | ⟨y, h4, rfl⟩
      · have := h.lb z h4; omega
      · have := h.lb y h4; omega
  · rcases addL_mem hx (by rw [h.tl]; exact hv) with h4 | ⟨y, h4, rfl⟩
    · have := h.tb x h4; omega
    · have := h.tb y h4; omega

def Picks (pk : Nat → List Int → Int) : Prop := ∀ i l, l ≠ [] → pk i l ∈ l
/-- The first pick. -/
def pk0 : Nat → List Int → Int := fun _ l => l.headD 0
def start (rot d : List Int) (n : Nat) : MSt := (rot, d, List.replicate n 0)
/-- The rotors and the numbers of steps, or the error. -/
def movesUp (M : Nat) (ar : List (List Int)) (E : List (Int × Int)) (q : Nat) (pk : Nat → List Int → Int) (rot d : List Int) : List Int × List Int × Int :=
  match firstAt (fun i => (liveL q (mvN ar E q pk (start rot d d.length) i).2.1).length) 0 M with
  | some i => ((mvN ar E q pk (start rot d d.length) i).1, (mvN ar E q pk (start rot d d.length) i).2.2, 0)
  | none => ([], [], 12)
def movesOf (ar : List (List Int)) (E : List (Int × Int)) (q : Nat) (pk : Nat → List Int → Int) (rot d : List Int) : List Int × List Int × Int := movesUp 1048577 ar E q pk rot d
end Go.Proofs.YtnigfddanoaonaaGreat

set_option linter.unusedVariables false
set_option linter.unusedSimpArgs false
set_option linter.unnecessarySimpa false
namespace Go.Proofs.YtnigfddanoaonaaGreat
open Go.RowKit

def MovesPost (B : Nat) (w : World) (x : List Int × List Int × Int) (e : Ending) (w' : World) : Prop :=
  ∃ rv cv, e = .returned (.tuple #[rv, cv, .int .i64 x.2.2]) ∧ OwnS intR 1 B 3 Non w' rv x.1 ∧ OwnS intR 1 B 3 Non w' cv x.2.1 ∧ Below B w w'

end Go.Proofs.YtnigfddanoaonaaGreat

set_option linter.unusedVariables false
set_option linter.unusedSimpArgs false
set_option linter.unnecessarySimpa false
namespace Go.Proofs.YtnigfddanoaonaaGreat
open Go.RowKit

def allRes (n : Int) (es : List Edg) (f : List Nat) (ar : List (List Int)) (q : Int) (rot d : List Int) : List Int × List Int × Int :=
  if gvE n es f ar q rot d = 0 then movesOf ar (endsL es) q.toNat pk0 rot d else ([], [], gvE n es f ar q rot d)

end Go.Proofs.YtnigfddanoaonaaGreat

set_option linter.unusedVariables false
set_option linter.unusedSimpArgs false
set_option linter.unnecessarySimpa false
namespace Go.Proofs.YtnigfddanoaonaaGreat
open Go.RowKit Go.Shelf

/-- Where the rotor at u points, and where one is behind i such steps. -/
def stV (ar : List (List Int)) (E : List (Int × Int)) (rot : List Int) (u : Nat) : Nat := (hv E (oppH ((ar.getD u []).getD (rot.getD u 0).toNat 0).toNat)).toNat
def itV (ar : List (List Int)) (E : List (Int × Int)) (rot : List Int) (v : Nat) : Nat → Nat
  | 0 => v
  | i + 1 => stV ar E rot (itV ar E rot v i)
/-- The marks of ranges that are over. -/
def Marks (B : Nat) (ds : List Deferred) (w : World) : Prop := ∃ Ds : List Nat, ds = Ds.map (fun D => ({ target := .collected D, args := #[] } : Deferred)) ∧ Ds.Nodup ∧ ∀ D ∈ Ds, B ≤ D ∧ w.heap[D]? = some (.deferred (some []))
theorem Marks.nil (B : Nat) (w : World) : Marks B [] w := ⟨[], rfl, List.nodup_nil, fun _ h => by cases h⟩
theorem Marks.cons {B D : Nat} {ds : List Deferred} {w w' : World} (h : Marks B ds w) (hb : ∀ k, B ≤ k → k < w.heap.size → w'.heap[k]? = w.heap[k]?) (hD : w.heap.size ≤ D) (hB : B ≤ w.heap.size) (hk : w'.heap[D]? = some (.deferred (some []))) : Marks B ({ target := .collected D, args := #[] } :: ds) w' := by
  obtain ⟨Ds, rfl, h1, h2⟩ := h
  have hl : ∀ D' ∈ Ds, D' < w.heap.size := fun D' hD' => (Array.getElem?_eq_some_iff.1 (h2 D' hD').2).1
  refine ⟨D :: Ds, rfl, List.nodup_cons.2 ⟨fun hm => ?_, h1⟩, fun D' hD' => ?_⟩
  · have := hl D hm; omega
  · rcases List.mem_cons.1 hD' with rfl | hm
    · exact ⟨by omega, hk⟩
    · exact ⟨(h2 D' hm).1, (hb D' (h2 D' hm).1 (hl D' hm)).trans (h2 D' hm).2⟩
theorem Marks.keep {B : Nat} {ds : List Deferred} {w w' : World} (h : Marks B ds w) (hb : ∀ k, B ≤ k → w'.heap[k]? = w.heap[k]?) : Marks B ds w' := by
  obtain ⟨Ds, e, h1, h2⟩ := h
  exact ⟨Ds, e, h1, fun D' hD' => ⟨(h2 D' hD').1, (hb D' (h2 D' hD').1).trans (h2 D' hD').2⟩⟩
theorem Marks.below {B : Nat} {ds : List Deferred} {w w' : World} (h : Marks B ds w) (hb : Below w.heap.size w w') : Marks B ds w' := by
  obtain ⟨Ds, e, h1, h2⟩ := h
  exact ⟨Ds, e, h1, fun D' hD' => ⟨(h2 D' hD').1, (hb.block D' (Array.getElem?_eq_some_iff.1 (h2 D' hD').2).1).trans (h2 D' hD').2⟩⟩
/-- Between the yields of a way that only looks: the count in box b, and what lay before. -/
structure LA (wr : World) (b k : Nat) (W : World) : Prop where
  cnt : Boxed W b 3 (.int .i64 (k : Int))
  low : Below wr.heap.size wr W
theorem LA.from {β : Type} {wr : World} {b B : Nat} (hB : wr.heap.size ≤ B) (k : β → Nat) : OwnFrom B (fun (s : β) W => LA wr b (k s) W) := fun s X Y row h hg hr =>
  ⟨boxed_own b 3 (fun s : β => Value.int .i64 (k s : Nat)) s X Y row h.cnt hg (fun r e => (hr r e).2), ownFrom_below (β := Unit) (Nat.le_refl _) hB () X Y row h.low hg hr⟩
end Go.Proofs.YtnigfddanoaonaaGreat

set_option linter.unusedVariables false
set_option linter.unusedSimpArgs false
set_option linter.unnecessarySimpa false
namespace Go.Proofs.YtnigfddanoaonaaGreat
open Go.RowKit Go.Shelf

attribute [local go_sem] Oper.semAt_some

/-- From each vertex one comes to the sink, before len steps. -/
def acyB (ar : List (List Int)) (E : List (Int × Int)) (q : Nat) (rot : List Int) (m k : Nat) : Bool := (List.range k).all fun v => (firstAt (itV ar E rot v) q m).isSome

def BoolErr (w : World) (b : Bool) (x : Int) (e : Ending) (w' : World) : Prop := e = .returned (.tuple #[.bool b, .int .i64 x]) ∧ Below w.heap.size w w'

section
variable (n : Int) (es : List Edg) (oe : Option Addr) (c : Nat) (ar : List (List Int)) (oa : Option Addr) (ca : Nat) (F G : Foot) (w : World) (hs : SliceR edgR 3 F w oe es) (hc : es.length ≤ c) (hc2 : es.length ≤ 1000)
    (ha : SliceR (slcR intR 1) 1 G w oa ar) (hac : ar.length ≤ ca) (hac2 : ar.length ≤ 9223372036854775807) (f : List Nat) (hU : Hid (gErr n es = 0 → Uf f (eL es)))
    (q : Int) (rot : List Int) (ot : Option Addr) (ct : Nat) (H : Foot) (hr : SliceR intR 1 H w ot rot) (hrc : rot.length ≤ ct) (hrl : rot.length ≤ 9223372036854775807)
include hs hc hc2 ha hac hac2 hU hr hrc hrl

/-- Whether rotors are acyclic, or the error. -/
def acycRes (n : Int) (es : List Edg) (f : List Nat) (ar : List (List Int)) (q : Int) (rot : List Int) : Bool × Int :=
  if rtE n es f ar q rot = 0 then (acyB ar (endsL es) q.toNat rot rot.length rot.length, 0) else (false, rtE n es f ar q rot)
end

end Go.Proofs.YtnigfddanoaonaaGreat

set_option linter.unusedVariables false
set_option linter.unusedSimpArgs false
namespace Go.Proofs.YtnigfddanoaonaaGreat
open Go.RowKit

end Go.Proofs.YtnigfddanoaonaaGreat

set_option linter.unusedVariables false
set_option linter.unusedSimpArgs false
namespace Go.Proofs.YtnigfddanoaonaaGreat
open Go.RowKit

def triN : Nwk := ⟨[sinkP, topP [⟨0, 0⟩, ⟨2, 0⟩], topP [⟨0, 0⟩, ⟨1, 0⟩]], [0, 0, 0], [[0], [2], [1]]⟩
def triM : Nwk := ⟨triN.procs, [0, 1, 0], [[0], [0], [0]]⟩
def triZ : Nwk := ⟨[sinkP, turnP [0, 2], turnP [0, 1]], [0, 0, 0], [[0], [1], [0]]⟩
theorem tn_sand : sandR 3 triE (forest triE) 0 [0, 2, 1] = (triN, 0) := by decide +kernel
theorem tn_ok : netErr triN = 0 := by decide +kernel
theorem tn_moves : movesS triN.waiting = [(1, 0), (2, 0)] := by decide +kernel
theorem tn_run : runX [0] 100 0 triN (triN.procs.map fun p => List.replicate p.letters.toNat (0 : Int)) = some (triM, [[2], [3], [2]]) := by decide +kernel
theorem tn_nab : nabR triN = (true, 0) := by decide +kernel
theorem tn_c1 : compR triN [[2], [3], [2]] = (true, 0) := by decide +kernel
theorem tn_c2 : compR triN [[4], [4], [3]] = (true, 0) := by decide +kernel
theorem tn_c3 : compR triN [[2], [2], [1]] = (false, 0) := by decide +kernel
theorem tn_rout : routR 3 triE (forest triE) triA 0 [0, 0, 0] [0, 1, 0] = (triZ, 0) := by decide +kernel
theorem tz_ok : netErr triZ = 0 := by decide +kernel
theorem tz_run : (runX [3] 100 0 triZ (triZ.procs.map fun p => List.replicate p.letters.toNat (0 : Int))).map (fun r => r.1.state) = some [0, 0, 1] := by decide +kernel

theorem neq_mvC1 (w : World) : (binOp .neq 80 (.agg #[.int .i64 1, .int .i64 0]) (.agg #[.int .i64 1, .int .i64 0])).run Tryz.prog w = .ok (.bool false) w := by kernel_rfl
theorem neq_mvC2 (w : World) : (binOp .neq 80 (.agg #[.int .i64 2, .int .i64 0]) (.agg #[.int .i64 2, .int .i64 0])).run Tryz.prog w = .ok (.bool false) w := by kernel_rfl
theorem neqGuard_mv (op : BinOp) (a b : Operand) (x y : Array Value) (w : World) : (eqGuard op 80 a b (.agg x) (.agg y)).run Tryz.prog w = .ok () w :=
  run_eqGuard_agg w op 80 a b x y (by kernel_rfl)
set_option maxHeartbeats 1000000 in
theorem eqMv2_any (oa ob : Option Addr) (c d : Nat) (F G : Foot) (w : World) (hs : SliceR mvR 2 F w oa [(1, 0), (2, 0)]) (ht : SliceR mvR 2 G w ob [(1, 0), (2, 0)]) :
    Calls Tryz.prog 41 #[.slice oa 2 c, .slice ob 2 d] w fun e w' => e = .returned (.bool true) ∧ Below w.heap.size w w' := by
  go_enter Tryz.func41, Tryz.ntmps41
  go_wp2_with fail
  go_loopw [13] (fun i wr => ∃ k : Nat, k ≤ 2 ∧ i = .int .i64 k ∧ Below w.heap.size w wr) (fun i _ => 2 - (intOf i).toNat)
  case atStart => exact ⟨0, by omega, rfl, Below.refl _ _⟩
  case round =>
    obtain ⟨k, hk, rfl, hb⟩ := hrel
    have q1 := neqGuard_mv
    have q2 := neq_mvC1
    have q3 := neq_mvC2
    by_cases hlt : k < 2
    · obtain ⟨a, b, hg, b1, off1, rfl, _, c0, c1⟩ := (hs.below mvR_ok hb).mv_at (i := k) hlt
      obtain ⟨a', b', hg', b2, off2, rfl, _, e0, e1⟩ := (ht.below mvR_ok hb).mv_at (i := k) hlt
      have HB := hide hb
      rcases (by omega : k = 0 ∨ k = 1) with rfl | rfl
      · simp at hg hg'
        obtain ⟨rfl, rfl⟩ := hg
        obtain ⟨rfl, rfl⟩ := hg'
        simp at c0 c1 e0 e1
        clear hs ht hb
        go_wp2_with fail
        go_quiet (fail)
        go_wp2_with fail
        go_roundw
        case rel => exact ⟨1, by omega, by go_num, below_drewN HB.out _⟩
        case measure => simp [intOf]
      · simp at hg hg'
        obtain ⟨rfl, rfl⟩ := hg
        obtain ⟨rfl, rfl⟩ := hg'
        simp at c0 c1 e0 e1
        clear hs ht hb
        go_wp2_with fail
        go_quiet (fail)
        go_wp2_with fail
        go_roundw
        case rel => exact ⟨2, by omega, by go_num, below_drewN HB.out _⟩
        case measure => simp [intOf]
    · have hk2 : k = 2 := by omega
      subst hk2
      go_wp2_with fail
      go_ret
      exact ⟨rfl, hb⟩

end Go.Proofs.YtnigfddanoaonaaGreat

set_option linter.unusedVariables false
namespace Go.Proofs.YtnigfddanoaonaaGreat
open Go.RowKit

def QuietB (b : Bool) (w : World) (e : Ending) (w' : World) : Prop := e = .returned (.bool b) ∧ ∃ m, w' = w.drewN m
theorem QuietB.below {b : Bool} {w : World} {e : Ending} {w' : World} (h : QuietB b w e w') : e = .returned (.bool b) ∧ Below w.heap.size w w' := by
  obtain ⟨rfl, m, rfl⟩ := h
  exact ⟨rfl, below_drewN (Below.refl _ _) _⟩
theorem drawn_more {w wr : World} (h : Hid (∃ n, wr = w.drewN n)) (k : Nat) : ∃ n, wr.drewN k = w.drewN n := by
  obtain ⟨n, rfl⟩ := h.out
  exact ⟨n + k, by rw [World.drewN_drewN]⟩
theorem drawn_slice {α : Type} {R : Rep α} {sz : Nat} {F : Foot} {oa : Option Addr} {xs : List α} {w wr : World} (h : Hid (∃ n, wr = w.drewN n)) (ok : RepOk R sz) (hs : SliceR R sz F w oa xs) : SliceR R sz F wr oa xs := by
  obtain ⟨n, rfl⟩ := h.out
  exact hs.drewN ok n
theorem tabR_ok : RepOk (slcR intR 1) 1 := slcR_ok intR_ok (by omega)

set_option maxHeartbeats 400000 in
theorem sameInts08_any (l m : List Int) (oa ob : Option Addr) (c d : Nat) (F G : Foot) (w : World) (hs : SliceR intR 1 F w oa l) (ht : SliceR intR 1 G w ob m) (hc2 : l.length ≤ 9223372036854775807) :
    Calls Tryz.prog 47 #[.slice oa l.length c, .slice ob m.length d] w (QuietB (decide (l = m)) w) := by
  by_cases hlen : l.length = m.length
  case neg =>
    have hl' : ((l.length : Int) != m.length) = true := by simp; omega
    have HL : Hid (decide (l = m) = false) := decide_eq_false fun h => hlen (by rw [h])
    clear hlen
    go_enter Tryz.func47, Tryz.ntmps47
    go_wp2_with fail
    go_ret; exact ⟨ret_bool HL.out.symm, 0, rfl⟩
  have hl' : ((l.length : Int) != m.length) = false := by simp [hlen]
  have HL := hide hlen
  clear hlen
  go_enter Tryz.func47, Tryz.ntmps47
  go_wp2_with fail
  go_loopw [5] (fun i wr => ∃ k : Nat, k ≤ l.length ∧ i = .int .i64 k ∧ Hid (l = m ↔ l.drop k = m.drop k) ∧ Hid (∃ n, wr = w.drewN n)) (fun i _ => l.length - (intOf i).toNat)
  case atStart => exact ⟨0, by omega, rfl, Iff.rfl, 0, rfl⟩
  case round =>
    obtain ⟨k, hk, rfl, HE, HW⟩ := hrel
    by_cases hlt : k < l.length
    · obtain ⟨x, hd, _, _, b, off, rfl, _, c0⟩ := (drawn_slice HW intR_ok hs).int_at hlt
      have hlt2 : k < m.length := by rw [← HL.out]; exact hlt
      obtain ⟨x', hd', _, _, b', off', rfl, _, c0'⟩ := (drawn_slice HW intR_ok ht).int_at hlt2
      have HD := hide hd
      have HD' := hide hd'
      clear hd hd' hs ht
      by_cases hx : x = x'
      · obtain rfl := hx
        go_wp2_with fail
        go_quiet (fail)
        go_wp2_with fail
        go_roundw
        case rel =>
          refine ⟨k + 1, by omega, by go_num, ?_, drawn_more HW nq⟩
          show _ ↔ _
          rw [HE.out, HD.out, HD'.out]; simp
        case measure => simp [intOf]; omega
      · have hne : (x != x') = true := by simp [hx]
        have HX := hide hx
        clear hx
        go_wp2_with fail
        go_quiet (fail)
        go_wp2_with fail
        go_ret
        refine ⟨ret_bool ?_, drawn_more HW nq⟩
        symm
        refine decide_eq_false fun h => HX.out ?_
        have h2 := HE.out.1 h
        rw [HD.out, HD'.out] at h2
        simp at h2
        exact h2.1
    · go_wp2_with fail
      go_ret
      refine ⟨ret_bool ?_, HW.out⟩
      symm
      refine decide_eq_true (HE.out.2 ?_)
      rw [List.drop_eq_nil_of_le (by omega), List.drop_eq_nil_of_le (by have := HL.out; omega)]

set_option maxHeartbeats 400000 in
theorem sameTables_any (l m : List (List Int)) (oa ob : Option Addr) (c d : Nat) (F G : Foot) (w : World) (hs : SliceR (slcR intR 1) 1 F w oa l) (ht : SliceR (slcR intR 1) 1 G w ob m) (hc2 : l.length ≤ 9223372036854775807) :
    Calls Tryz.prog 15 #[.slice oa l.length c, .slice ob m.length d] w (QuietB (decide (l = m)) w) := by
  by_cases hlen : l.length = m.length
  case neg =>
    have hl' : ((l.length : Int) != m.length) = true := by simp; omega
    have HL : Hid (decide (l = m) = false) := decide_eq_false fun h => hlen (by rw [h])
    clear hlen
    go_enter Tryz.func15, Tryz.ntmps15
    go_wp2_with fail
    go_ret; exact ⟨ret_bool HL.out.symm, 0, rfl⟩
  have hl' : ((l.length : Int) != m.length) = false := by simp [hlen]
  have HL := hide hlen
  clear hlen
  go_enter Tryz.func15, Tryz.ntmps15
  go_wp2_with fail
  go_loopw [5] (fun i wr => ∃ k : Nat, k ≤ l.length ∧ i = .int .i64 k ∧ Hid (l = m ↔ l.drop k = m.drop k) ∧ Hid (∃ n, wr = w.drewN n)) (fun i _ => l.length - (intOf i).toNat)
  case atStart => exact ⟨0, by omega, rfl, Iff.rfl, 0, rfl⟩
  case round =>
    obtain ⟨k, hk, rfl, HE, HW⟩ := hrel
    by_cases hlt : k < l.length
    · obtain ⟨x, hd, _, b, off, oa', c', rfl, _, c0, _, hl2, hsx⟩ := (drawn_slice HW tabR_ok hs).slc_at hlt
      have hlt2 : k < m.length := by rw [← HL.out]; exact hlt
      obtain ⟨x', hd', _, b', off', ob', d', rfl, _, c0', _, _, hsx'⟩ := (drawn_slice HW tabR_ok ht).slc_at hlt2
      have HD := hide hd
      have HD' := hide hd'
      have HC : Hid (∀ k, Calls Tryz.prog 47 #[.slice oa' x.length c', .slice ob' x'.length d'] (wr.drewN k) (QuietB (decide (x = x')) (wr.drewN k))) := fun k => sameInts08_any x x' oa' ob' c' d' F G _ (hsx.drewN intR_ok k) (hsx'.drewN intR_ok k) hl2
      clear hd hd' hs ht hsx hsx'
      by_cases hx : x = x'
      · rw [decide_eq_true hx] at HC
        obtain ⟨lx, hlx⟩ : ∃ n, n = x.length := ⟨_, rfl⟩
        obtain ⟨ly, hly⟩ : ∃ n, n = x'.length := ⟨_, rfl⟩
        have HX := hide hx
        rw [← hlx] at c0 HC
        rw [← hly] at c0' HC
        clear hx hlx hly
        go_wp2_with fail
        go_quiet ((go_at_call 47; exact Calls.quiet_of (HC.out _)))
        go_wp2_with fail
        go_roundw
        case rel =>
          refine ⟨k + 1, by omega, by go_num, ?_, drawn_more HW nq⟩
          show _ ↔ _
          rw [HE.out, HD.out, HD'.out, HX.out]; simp
        case measure => simp [intOf]; omega
      · rw [decide_eq_false hx] at HC
        obtain ⟨lx, hlx⟩ : ∃ n, n = x.length := ⟨_, rfl⟩
        obtain ⟨ly, hly⟩ : ∃ n, n = x'.length := ⟨_, rfl⟩
        have HX := hide hx
        rw [← hlx] at c0 HC
        rw [← hly] at c0' HC
        clear hx hlx hly
        go_wp2_with fail
        go_quiet ((go_at_call 47; exact Calls.quiet_of (HC.out _)))
        go_wp2_with fail
        go_ret
        refine ⟨ret_bool ?_, drawn_more HW nq⟩
        symm
        refine decide_eq_false fun h => HX.out ?_
        have h2 := HE.out.1 h
        rw [HD.out, HD'.out] at h2
        simp at h2
        exact h2.1
    · go_wp2_with fail
      go_ret
      refine ⟨ret_bool ?_, HW.out⟩
      symm
      refine decide_eq_true (HE.out.2 ?_)
      rw [List.drop_eq_nil_of_le (by omega), List.drop_eq_nil_of_le (by have := HL.out; omega)]

end Go.Proofs.YtnigfddanoaonaaGreat

set_option linter.unusedVariables false
set_option linter.unusedSimpArgs false
namespace Go.Proofs.YtnigfddanoaonaaGreat
open Go.RowKit

theorem i64n {x : Int} (h : 0 ≤ x ∧ x ≤ 100) : I64 x := by unfold I64; omega
/-- A table of three rows of one number each, as a literal lays it. -/
def tab3W (w : World) (x y z : Int) : World := (((w.alloc (.cells #[.int .i64 x] 3)).alloc (.cells #[.int .i64 y] 3)).alloc (.cells #[.int .i64 z] 3)).alloc (.cells #[.slice (some ⟨w.heap.size, 0, none⟩) 1 1, .slice (some ⟨w.heap.size + 1, 0, none⟩) 1 1, .slice (some ⟨w.heap.size + 1 + 1, 0, none⟩) 1 1] 23)
theorem tab3_lit (w : World) (x y z : Int) (hx : I64 x) (hy : I64 y) (hz : I64 z) : SliceR (slcR intR 1) 1 All (tab3W w x y z) (some ⟨w.heap.size + 1 + 1 + 1, 0, none⟩) [[x], [y], [z]] := by
  have a1 := intlF (F := All) w x hx trivial
  have a2 := intlF (F := All) (w.alloc (.cells #[.int .i64 x] 3)) y hy trivial
  have a3 := intlF (F := All) ((w.alloc (.cells #[.int .i64 x] 3)).alloc (.cells #[.int .i64 y] 3)) z hz trivial
  simp only [World.size_alloc] at a1 a2 a3
  have b1 := (a1.below intR_ok (bnew (Below.refl _ _) (.cells #[.int .i64 y] 3))).below intR_ok (bnew (Below.refl _ _) (.cells #[.int .i64 z] 3))
  have b2 := a2.below intR_ok (bnew (Below.refl _ _) (.cells #[.int .i64 z] 3))
  have := SliceR.lit (F := All) (G := All) (slcR_ok intR_ok (by decide)) (((w.alloc (.cells #[.int .i64 x] 3)).alloc (.cells #[.int .i64 y] 3)).alloc (.cells #[.int .i64 z] 3)) 23
    [[.slice (some ⟨w.heap.size, 0, none⟩) 1 1], [.slice (some ⟨w.heap.size + 1, 0, none⟩) 1 1], [.slice (some ⟨w.heap.size + 1 + 1, 0, none⟩) 1 1]] [[x], [y], [z]] (fun i q hq => by
      match i, hq with
      | 0, hq => simp at hq; subst hq; exact ⟨_, rfl, _, _, rfl, by simp, by simp, b1⟩
      | 1, hq => simp at hq; subst hq; exact ⟨_, rfl, _, _, rfl, by simp, by simp, b2⟩
      | 2, hq => simp at hq; subst hq; exact ⟨_, rfl, _, _, rfl, by simp, by simp, a3⟩
      | i + 3, hq => simp at hq) rfl (fun _ h => h) trivial
  unfold tab3W
  simpa using this
theorem tab3_below (w : World) (x y z : Int) : Below w.heap.size w (tab3W w x y z) := bnew (bnew (bnew (bnew (Below.refl _ _) _) _) _) _
def NxAt (W : World) (oq os ow : Option Addr) (x : Nwk) : Prop := SliceR prcR 3 All W oq x.procs ∧ SliceR intR 1 All W os x.state ∧ SliceR (slcR intR 1) 1 All W ow x.waiting
theorem NxAt.below {W W' : World} {oq os ow : Option Addr} {x : Nwk} (h : NxAt W oq os ow x) (hb : Below W.heap.size W W') : NxAt W' oq os ow x := ⟨h.1.below prcR_ok hb, h.2.1.below intR_ok hb, h.2.2.below (slcR_ok intR_ok (by decide)) hb⟩
def mv2Lit (w : World) : World := w.alloc (.cells #[.int .i64 1, .int .i64 0, .int .i64 2, .int .i64 0] 80)
theorem mv2_lit (w : World) : SliceR mvR 2 All (mv2Lit w) (some ⟨w.heap.size, 0, none⟩) [(1, 0), (2, 0)] :=
  SliceR.lit (F := All) mvR_ok w 80 [[.int .i64 1, .int .i64 0], [.int .i64 2, .int .i64 0]] _ (fun i q hq => by
    match i, hq with
    | 0, hq => simp at hq; subst hq; exact ⟨_, rfl, rfl⟩
    | 1, hq => simp at hq; subst hq; exact ⟨_, rfl, rfl⟩
    | i + 2, hq => simp at hq) rfl (fun _ h => h) trivial
/-- Run at three rows' counts. -/
theorem tri_few : ∀ t ∈ triN.waiting, ∀ k ∈ t, k ≤ 40 := by decide
theorem triZ_few : ∀ t ∈ triZ.waiting, ∀ k ∈ t, k ≤ 40 := by decide

set_option maxRecDepth 100000 in
set_option maxHeartbeats 8000000 in
theorem awake55_any (w : World) : Calls Tryz.prog 12 #[] w fun e w' => e = .returned (.bool true) ∧ Below w.heap.size w w' := by
  have hU : Hid (gErr 3 triE = 0 → Uf (forest triE) (eL triE)) := forest_ok 3 triE
  go_enter Tryz.func12, Tryz.ntmps12
  go_wp2_with (first
    | (go_at_call 39; refine (tri18_any _).mono ?_; rintro e w2 ⟨g, rfl, hE, hb2⟩; have HE := hide hE; have HB2 := hide hb2; clear hE hb2)
    | (go_at_call 19; refine (nsand_any 3 triE _ 3 (Ge w.heap.size) _ (HE.out.below edgR_ok (bnew (Below.refl _ _) _)) (by decide) (by decide) (forest triE) hU 0 [0, 2, 1] (some ⟨w2.heap.size, 0, none⟩) 3 All (by have h := ints_lit (F := All) (G := All) w2 3 [0, 2, 1] (by intro x hx; simp at hx; rcases hx with rfl | rfl | rfl <;> exact i64n (by decide)) trivial; simpa using h) (by decide) (by decide)).mono ?_
       rw [tn_sand]
       rintro e w4 ⟨v, rfl, ⟨oq, cq, os, cs, ow, cw, hv, h1, h2, h3, hp, hs, ht⟩, hb4⟩
       have hv' : v = .agg #[.slice oq 3 cq, .slice os 3 cs, .slice ow 3 cw] := hv
       subst hv'
       have HN4 : Hid (NxAt w4 oq os ow triN) := ⟨hp, hs, ht⟩
       have HB4 := hide (HB2.out.trans ((bnew (Below.refl _ _) _).trans (hb4.mono (by rw [alloc_size']; omega)) |>.mono HB2.out.size))
       obtain ⟨W5, e5⟩ : ∃ W5, w4.alloc (.cells #[.slice oq 3 cq, .slice os 3 cs, .slice ow 3 cw] 26) = W5 := ⟨_, rfl⟩
       have hx5 : Box W5 w4.heap.size [.slice oq 3 cq, .slice os 3 cs, .slice ow 3 cw] 26 := (by rw [← e5]; exact Box.new w4 [.slice oq 3 cq, .slice os 3 cs, .slice ow 3 cw] 26)
       have hb5 : Below w4.heap.size w4 W5 := (by rw [← e5]; exact bnew (Below.refl _ _) _)
       have HN5 := hide (HN4.out.below hb5)
       have HB5 := hide (HB4.out.trans (hb5.mono HB4.out.size))
       have HX5 := hide hx5
       have k0 := hx5.cell 0
       have k1 := hx5.cell 1
       have k2 := hx5.cell 2
       simp only [List.getElem?_cons_zero, List.getElem?_cons_succ] at k0 k1 k2
       clear hv h1 h2 h3 hp hs ht hb4 hx5 hb5)
    | (go_at_call 40; refine (nmv_any triN oq cq os cs ow cw All W5 HN5.out.1 HN5.out.2.1 HN5.out.2.2 tn_ok).mono ?_
       rw [tn_moves]
       rintro e w6 ⟨v6, rfl, h6, hb6⟩
       obtain ⟨o6, c6, hv6, _, hs6⟩ := h6.slice mvR_ok
       have hv6' : v6 = .slice o6 2 c6 := hv6
       subst hv6'
       have HM6 : Hid (SliceR mvR 2 All w6 o6 [(1, 0), (2, 0)]) := hs6.all mvR_ok (by decide)
       have HN6 := hide (HN5.out.below hb6)
       have HB6 := hide (HB5.out.trans (hb6.mono HB5.out.size))
       have hx6 := HX5.out.below hb6
       have HX6 := hide hx6
       have k0 := hx6.cell 0
       have k1 := hx6.cell 1
       have k2 := hx6.cell 2
       simp only [List.getElem?_cons_zero, List.getElem?_cons_succ] at k0 k1 k2
       clear h6 hv6 hs6 hb6 hx6)
    | (go_at_call 13; first
       | (refine (nrun_any triN oq cq os cs ow cw [0] (some ⟨w6.heap.size, 0, none⟩) 1 100 All (w6.alloc (.cells #[.int .i64 0] 3)) (HN6.out.below (bnew (Below.refl _ _) _)).1 (HN6.out.below (bnew (Below.refl _ _) _)).2.1 (HN6.out.below (bnew (Below.refl _ _) _)).2.2 tn_ok (intlF w6 0 (i64n (by decide)) trivial) (by decide) (by decide) (by decide) tri_few).mono ?_
          rw [tn_run]
          rintro e w8 ⟨v, oc, cc, rfl, ⟨oq2, cq2, os2, cs2, ow2, cw2, hv, h1, h2, h3, hp, hs, ht⟩, hcc, hct, hb8⟩
          have hv' : v = .agg #[.slice oq2 3 cq2, .slice os2 3 cs2, .slice ow2 3 cw2] := hv
          subst hv'
          have hbb : Below w6.heap.size w6 w8 := (bnew (Below.refl _ _) _).trans (hb8.mono (by rw [alloc_size']; omega))
          have HS8 : Hid (SliceR intR 1 All w8 os2 [0, 1, 0]) := hs
          have HCT8 : Hid (SliceR (slcR intR 1) 1 All w8 oc [[2], [3], [2]]) := hct
          have HC8 : Hid (3 ≤ cc) := hcc
          have HCS2 : Hid (3 ≤ cs2) := h2
          obtain ⟨W9, e9⟩ : ∃ W9, w8.alloc (.cells #[.slice oq2 3 cq2, .slice os2 3 cs2, .slice ow2 3 cw2] 26) = W9 := ⟨_, rfl⟩
          have hx9 : Box W9 w8.heap.size [.slice oq2 3 cq2, .slice os2 3 cs2, .slice ow2 3 cw2] 26 := (by rw [← e9]; exact Box.new w8 [.slice oq2 3 cq2, .slice os2 3 cs2, .slice ow2 3 cw2] 26)
          have hb9 : Below w8.heap.size w8 W9 := (by rw [← e9]; exact bnew (Below.refl _ _) _)
          have hb69 : Below w6.heap.size w6 W9 := hbb.trans (hb9.mono hbb.size)
          have HS9 := hide (HS8.out.below intR_ok hb9)
          have HCT9 := hide (HCT8.out.below (slcR_ok intR_ok (by decide)) hb9)
          have HM9 := hide (HM6.out.below mvR_ok hb69)
          have HN9 := hide (HN6.out.below hb69)
          have HB9 := hide (HB6.out.trans (hb69.mono HB6.out.size))
          have hx1 := HX6.out.below hb69
          have HX9 := hide hx1
          have HY9 := hide hx9
          have k0 := hx1.cell 0
          have k1 := hx1.cell 1
          have k2 := hx1.cell 2
          have l1 := hx9.cell 1
          simp only [List.getElem?_cons_zero, List.getElem?_cons_succ] at k0 k1 k2 l1
          clear hv h1 h2 h3 hp hs ht hb8 hx9 hb9 hbb hb69 hx1 hct hcc))
    | (go_at_call 41; refine (eqMv2_any o6 (some ⟨W9.heap.size, 0, none⟩) c6 2 All All (mv2Lit W9) (HM9.out.below mvR_ok (bnew (Below.refl _ _) _)) (mv2_lit W9)).mono ?_
       rintro e w10 ⟨rfl, hb10⟩
       have hb : Below W9.heap.size W9 w10 := (bnew (Below.refl _ _) _).trans (hb10.mono (by unfold mv2Lit; rw [alloc_size']; omega))
       have hy := HY9.out.below hb
       have l1 := hy.cell 1
       simp only [List.getElem?_cons_zero, List.getElem?_cons_succ] at l1
       have HB10 := hide hb
       clear hb10 hb hy))
  -- the state
  refine (equalInt_any [0, 1, 0] [0, 1, 0] os2 (some ⟨w10.heap.size, 0, none⟩) cs2 3 All _ ((HS9.out.below intR_ok HB10.out).below intR_ok (bnew (Below.refl _ _) _)) (by have h := ints_lit (F := All) (G := All) w10 3 [0, 1, 0] (by intro x hx; simp at hx; rcases hx with rfl | rfl | rfl <;> exact i64n (by decide)) trivial; simpa using h) HCS2.out (by decide)).mono ?_
  rintro e w11 ⟨rfl, hb11⟩
  have hb9_11 : Below W9.heap.size W9 w11 := HB10.out.trans (((bnew (Below.refl _ _) _).trans (hb11.mono (by rw [alloc_size']; omega))).mono HB10.out.size)
  have HB11 := hide hb9_11
  rw [show decide (([0, 1, 0] : List Int) = [0, 1, 0]) = true from rfl]
  clear hb11 hb9_11
  go_wp2_with fail
  refine (sameTables_any [[2], [3], [2]] [[2], [3], [2]] oc (some ⟨w11.heap.size + 1 + 1 + 1, 0, none⟩) cc 3 All All (tab3W w11 2 3 2) ((HCT9.out.below (slcR_ok intR_ok (by decide)) HB11.out).below (slcR_ok intR_ok (by decide)) (tab3_below _ _ _ _)) (tab3_lit w11 2 3 2 (i64n (by decide)) (i64n (by decide)) (i64n (by decide))) (by decide)).mono ?_
  rintro e w12 hq
  obtain ⟨rfl, hb12⟩ := hq.below
  have hb9_12 : Below W9.heap.size W9 w12 := HB11.out.trans (((tab3_below w11 2 3 2).trans (hb12.mono (tab3_below w11 2 3 2).size)).mono HB11.out.size)
  rw [show decide (([[2], [3], [2]] : List (List Int)) = [[2], [3], [2]]) = true from rfl]
  have HB12 := hide hb9_12
  have hx1 := HX9.out.below hb9_12
  have k0 := hx1.cell 0
  have k1 := hx1.cell 1
  have k2 := hx1.cell 2
  simp only [List.getElem?_cons_zero, List.getElem?_cons_succ] at k0 k1 k2
  clear hb12 hb9_12 hq hx1
  go_wp2_with fail
  -- Complete, three times
  have HN12 := hide (HN9.out.below HB12.out)
  refine (ncomplete_any triN oq cq os cs ow cw All w12 HN12.out.1 (by decide) HN12.out.2.1 (by decide) HN12.out.2.2 (by decide) [[2], [3], [2]] oc cc All (HCT9.out.below (slcR_ok intR_ok (by decide)) HB12.out) HC8.out (by decide)).mono ?_
  rw [tn_c1]
  rintro e w13 ⟨rfl, hb13⟩
  have HB13 := hide (HB12.out.trans (hb13.mono HB12.out.size))
  have HN13 := hide (HN12.out.below hb13)
  have hx1 := HX9.out.below HB13.out
  have k0 := hx1.cell 0
  have k1 := hx1.cell 1
  have k2 := hx1.cell 2
  simp only [List.getElem?_cons_zero, List.getElem?_cons_succ] at k0 k1 k2
  clear hb13 hx1
  go_wp2_with fail
  refine (ncomplete_any triN oq cq os cs ow cw All (tab3W w13 4 4 3) (HN13.out.below (tab3_below _ _ _ _)).1 (by decide) (HN13.out.below (tab3_below _ _ _ _)).2.1 (by decide) (HN13.out.below (tab3_below _ _ _ _)).2.2 (by decide) [[4], [4], [3]] (some ⟨w13.heap.size + 1 + 1 + 1, 0, none⟩) 3 All (tab3_lit w13 4 4 3 (i64n (by decide)) (i64n (by decide)) (i64n (by decide))) (by decide) (by decide)).mono ?_
  rw [tn_c2]
  rintro e w14 ⟨rfl, hb14⟩
  have hb1314 : Below w13.heap.size w13 w14 := (tab3_below w13 4 4 3).trans (hb14.mono (tab3_below w13 4 4 3).size)
  have HB14 := hide (HB13.out.trans (hb1314.mono HB13.out.size))
  have HN14 := hide (HN13.out.below hb1314)
  have hx1 := HX9.out.below HB14.out
  have k0 := hx1.cell 0
  have k1 := hx1.cell 1
  have k2 := hx1.cell 2
  simp only [List.getElem?_cons_zero, List.getElem?_cons_succ] at k0 k1 k2
  clear hb14 hb1314 hx1
  go_wp2_with fail
  refine (ncomplete_any triN oq cq os cs ow cw All (tab3W w14 2 2 1) (HN14.out.below (tab3_below _ _ _ _)).1 (by decide) (HN14.out.below (tab3_below _ _ _ _)).2.1 (by decide) (HN14.out.below (tab3_below _ _ _ _)).2.2 (by decide) [[2], [2], [1]] (some ⟨w14.heap.size + 1 + 1 + 1, 0, none⟩) 3 All (tab3_lit w14 2 2 1 (i64n (by decide)) (i64n (by decide)) (i64n (by decide))) (by decide) (by decide)).mono ?_
  rw [tn_c3]
  rintro e w15 ⟨rfl, hb15⟩
  have hb1415 : Below w14.heap.size w14 w15 := (tab3_below w14 2 2 1).trans (hb15.mono (tab3_below w14 2 2 1).size)
  have HB15 := hide (HB14.out.trans (hb1415.mono HB14.out.size))
  have HN15 := hide (HN14.out.below hb1415)
  have hx1 := HX9.out.below HB15.out
  have k0 := hx1.cell 0
  have k1 := hx1.cell 1
  have k2 := hx1.cell 2
  simp only [List.getElem?_cons_zero, List.getElem?_cons_succ] at k0 k1 k2
  clear hb15 hb1415 hx1
  go_wp2_with fail
  refine (nabelian_any triN oq cq os cs ow cw All w15 HN15.out.1 (by decide) HN15.out.2.1 (by decide) HN15.out.2.2 (by decide)).mono ?_
  rw [tn_nab]
  rintro e w16 ⟨rfl, hb16⟩
  have HB16 := hide (HB9.out.trans ((HB15.out.trans (hb16.mono HB15.out.size)).mono HB9.out.size))
  clear hb16 k0 k1 k2
  go_wp2_with fail
  -- the rotors
  refine (tri45_any w16).mono ?_
  rintro e w17 ⟨g2, h2, rfl, hE2, hA2, hb17⟩
  have HE2 := hide hE2
  have HA2 := hide hA2
  have HB17 := hide (HB16.out.trans (hb17.mono HB16.out.size))
  clear hE2 hA2 hb17
  go_wp2_with fail
  have hz1 : SliceR intR 1 All ((w17.alloc (.cells #[.int .i64 0, .int .i64 0, .int .i64 0] 3)).alloc (.cells #[.int .i64 0, .int .i64 1, .int .i64 0] 3)) (some ⟨w17.heap.size, 0, none⟩) [0, 0, 0] := by
    have h := ints_lit (F := All) (G := All) w17 3 [0, 0, 0] (by intro x hx; simp at hx; subst hx; exact i64n (by decide)) trivial
    simp only [List.map_cons, List.map_nil] at h
    exact h.below intR_ok (bnew (Below.refl _ _) _)
  have hz2 : SliceR intR 1 All ((w17.alloc (.cells #[.int .i64 0, .int .i64 0, .int .i64 0] 3)).alloc (.cells #[.int .i64 0, .int .i64 1, .int .i64 0] 3)) (some ⟨w17.heap.size + 1, 0, none⟩) [0, 1, 0] := by
    have h := ints_lit (F := All) (G := All) (w17.alloc (.cells #[.int .i64 0, .int .i64 0, .int .i64 0] 3)) 3 [0, 1, 0] (by intro x hx; simp at hx; rcases hx with rfl | rfl | rfl <;> exact i64n (by decide)) trivial
    rw [alloc_size'] at h
    simpa using h
  have hbz : Below w17.heap.size w17 ((w17.alloc (.cells #[.int .i64 0, .int .i64 0, .int .i64 0] 3)).alloc (.cells #[.int .i64 0, .int .i64 1, .int .i64 0] 3)) := bnew (bnew (Below.refl _ _) _) _
  have HBZ := hide hbz
  refine (nrout_any 3 triE (some ⟨g2, 0, none⟩) 3 triA (some ⟨h2, 0, none⟩) 3 All All _ (HE2.out.below edgR_ok hbz) (by decide) (by decide) (HA2.out.below (slcR_ok intR_ok (by decide)) hbz) (by decide) (by decide) (forest triE) hU 0 [0, 0, 0] (some ⟨w17.heap.size, 0, none⟩) 3 All hz1 (by decide) (by decide) [0, 1, 0] (some ⟨w17.heap.size + 1, 0, none⟩) 3 All hz2 (by decide) (by decide)).mono ?_
  rw [tn_rout]
  rintro e w18 ⟨v, rfl, ⟨oz, cz, osz, csz, owz, cwz, hv, h1, h2', h3, hp, hs, ht⟩, hb18⟩
  have hv' : v = .agg #[.slice oz 3 cz, .slice osz 3 csz, .slice owz 3 cwz] := hv
  subst hv'
  have HN18 : Hid (NxAt w18 oz osz owz triZ) := ⟨hp, hs, ht⟩
  have HB18 := hide (HB17.out.trans ((HBZ.out.trans (hb18.mono HBZ.out.size)).mono HB17.out.size))
  obtain ⟨W19, e19⟩ : ∃ W19, w18.alloc (.cells #[.slice oz 3 cz, .slice osz 3 csz, .slice owz 3 cwz] 26) = W19 := ⟨_, rfl⟩
  have hx19 : Box W19 w18.heap.size [.slice oz 3 cz, .slice osz 3 csz, .slice owz 3 cwz] 26 := by rw [← e19]; exact Box.new w18 [.slice oz 3 cz, .slice osz 3 csz, .slice owz 3 cwz] 26
  have hb19 : Below w18.heap.size w18 W19 := by rw [← e19]; exact bnew (Below.refl _ _) _
  have HN19 := hide (HN18.out.below hb19)
  have HB19 := hide (HB18.out.trans (hb19.mono HB18.out.size))
  have k0 := hx19.cell 0
  have k1 := hx19.cell 1
  have k2 := hx19.cell 2
  simp only [List.getElem?_cons_zero, List.getElem?_cons_succ] at k0 k1 k2
  clear hv h1 h2' h3 hp hs ht hb18 hz1 hz2 hbz hx19 hb19
  go_wp2_with fail
  have HNR := hide (nrun_any triZ oz cz osz csz owz cwz [3] (some ⟨W19.heap.size, 0, none⟩) 1 100 All (W19.alloc (.cells #[.int .i64 3] 3)) (HN19.out.below (bnew (Below.refl _ _) _)).1 (HN19.out.below (bnew (Below.refl _ _) _)).2.1 (HN19.out.below (bnew (Below.refl _ _) _)).2.2 tz_ok (intlF W19 3 (i64n (by decide)) trivial) (by decide) (by decide) (by decide) triZ_few)
  obtain ⟨r, hr⟩ : ∃ r, r = runX [3] 100 0 triZ (triZ.procs.map fun p => List.replicate p.letters.toNat (0 : Int)) := ⟨_, rfl⟩
  have hst : r.map (fun r => r.1.state) = some [0, 0, 1] := by rw [hr]; exact tz_run
  rw [← hr] at HNR
  obtain ⟨⟨yz, cz2⟩, hrs, hyst⟩ := Option.map_eq_some_iff.1 hst
  rw [hrs] at HNR
  clear hr hst hrs
  refine HNR.out.mono ?_
  rintro e w20 ⟨v, oc2, cc2, rfl, ⟨oq3, cq3, os3, cs3, ow3, cw3, hv, h1, h2', h3, hp, hs, ht⟩, hcc, hct, hb20⟩
  simp only at hyst
  rw [hyst] at hv h2' hs
  have hv' : v = .agg #[.slice oq3 yz.procs.length cq3, .slice os3 3 cs3, .slice ow3 yz.waiting.length cw3] := hv
  subst hv'
  obtain ⟨np, hnp⟩ : ∃ np, np = yz.procs.length := ⟨_, rfl⟩
  obtain ⟨nw, hnw⟩ : ∃ nw, nw = yz.waiting.length := ⟨_, rfl⟩
  obtain ⟨nc, hnc⟩ : ∃ nc, nc = cz2.length := ⟨_, rfl⟩
  rw [← hnp, ← hnw, ← hnc]
  have HS20 := hide hs
  have HCS3 : Hid (3 ≤ cs3) := h2'
  have HB20 := hide (HB19.out.trans (((bnew (Below.refl _ _) _).trans (hb20.mono (by rw [alloc_size']; omega))).mono HB19.out.size))
  obtain ⟨W21, e21⟩ : ∃ W21, w20.alloc (.cells #[.slice oq3 np cq3, .slice os3 3 cs3, .slice ow3 nw cw3] 26) = W21 := ⟨_, rfl⟩
  have hx21 : Box W21 w20.heap.size [.slice oq3 np cq3, .slice os3 3 cs3, .slice ow3 nw cw3] 26 := by rw [← e21]; exact Box.new w20 [.slice oq3 np cq3, .slice os3 3 cs3, .slice ow3 nw cw3] 26
  have hb21 : Below w20.heap.size w20 W21 := by rw [← e21]; exact bnew (Below.refl _ _) _
  have HS21 := hide (HS20.out.below intR_ok hb21)
  have HB21 := hide (HB20.out.trans (hb21.mono HB20.out.size))
  have m1 := hx21.cell 1
  simp only [List.getElem?_cons_zero, List.getElem?_cons_succ] at m1
  clear hv h1 h2' h3 hp hs ht hb20 hct hcc hyst hx21 hb21 hnp hnw hnc k0 k1 k2
  go_wp2_with fail
  refine (equalInt_any [0, 0, 1] [0, 0, 1] os3 (some ⟨W21.heap.size, 0, none⟩) cs3 3 All _ (HS21.out.below intR_ok (bnew (Below.refl _ _) _)) (by have h := ints_lit (F := All) (G := All) W21 3 [0, 0, 1] (by intro x hx; simp at hx; rcases hx with rfl | rfl | rfl <;> exact i64n (by decide)) trivial; simpa using h) HCS3.out (by decide)).mono ?_
  rintro e w22 ⟨rfl, hb22⟩
  have HB22 := hide (HB21.out.trans (((bnew (Below.refl _ _) _).trans (hb22.mono (by rw [alloc_size']; omega))).mono HB21.out.size))
  rw [show decide (([0, 0, 1] : List Int) = [0, 0, 1]) = true from rfl]
  clear hb22
  go_wp2_with fail
  go_ret
  exact ⟨rfl, HB22.out⟩

end Go.Proofs.YtnigfddanoaonaaGreat

set_option linter.unusedVariables false
namespace Go.Proofs.YtnigfddanoaonaaGreat
open Go.RowKit

def SameB (b : Bool) (w : World) (e : Ending) (w' : World) : Prop := e = .returned (.bool b) ∧ Below w.heap.size w w'

set_option maxRecDepth 100000 in
set_option maxHeartbeats 2000000 in
theorem sameProcs_any (S L S' L' : Int) (rs rs' : List (List Rul)) (oa ob : Option Addr) (c d : Nat) (F G : Foot) (w : World) (hs : SliceR (slcR ruleR 2) 1 F w oa rs) (ht : SliceR (slcR ruleR 2) 1 G w ob rs') (hc2 : rs.length ≤ 9223372036854775807) :
    Calls Tryz.prog 48 #[.agg #[.int .i64 S, .int .i64 L, .slice oa rs.length c], .agg #[.int .i64 S', .int .i64 L', .slice ob rs'.length d]] w (SameB (decide ((⟨S, L, rs⟩ : Prc) = ⟨S', L', rs'⟩)) w) := by
  obtain ⟨W1, e1⟩ : ∃ W1, w.alloc (.cells #[.int .i64 S, .int .i64 L, .slice oa rs.length c] 89) = W1 := ⟨_, rfl⟩
  have bx1 : Box W1 w.heap.size [.int .i64 S, .int .i64 L, .slice oa rs.length c] 89 := by rw [← e1]; exact Box.new w [.int .i64 S, .int .i64 L, .slice oa rs.length c] 89
  have bb1 := bnew (Below.refl w.heap.size w) (.cells #[.int .i64 S, .int .i64 L, .slice oa rs.length c] 89)
  rw [e1] at bb1
  obtain ⟨W2, e2⟩ : ∃ W2, W1.alloc (.cells #[.int .i64 S', .int .i64 L', .slice ob rs'.length d] 89) = W2 := ⟨_, rfl⟩
  have bx2 : Box W2 W1.heap.size [.int .i64 S', .int .i64 L', .slice ob rs'.length d] 89 := by rw [← e2]; exact Box.new W1 [.int .i64 S', .int .i64 L', .slice ob rs'.length d] 89
  have bb2 := bnew (Below.refl W1.heap.size W1) (.cells #[.int .i64 S', .int .i64 L', .slice ob rs'.length d] 89)
  rw [e2] at bb2
  have bx1' := bx1.below bb2
  have hb0 := bb1.trans (bb2.mono bb1.size)
  have d0 := bx1'.cell 0
  have d1 := bx1'.cell 1
  have d2 := bx1'.cell 2
  have f0 := bx2.cell 0
  have f1 := bx2.cell 1
  have f2 := bx2.cell 2
  simp only [List.getElem?_cons_zero, List.getElem?_cons_succ] at d0 d1 d2 f0 f1 f2
  have HX1 := hide bx1'
  have HX2 := hide bx2
  have HB := hide hb0
  have HS := hide (hs.below rowR_ok hb0)
  have HT := hide (ht.below rowR_ok hb0)
  clear bx1 bx1' bx2 bb1 bb2 hb0 hs ht
  by_cases hS : S = S'
  case neg =>
    have q1 : (S != S') = true := by simp [hS]
    have HR : Hid (decide ((⟨S, L, rs⟩ : Prc) = ⟨S', L', rs'⟩) = false) := decide_eq_false fun h => hS (by injection h)
    clear hS
    go_enter Tryz.func48, Tryz.ntmps48
    go_wp2_with fail
    go_ret
    exact ⟨ret_bool HR.out.symm, HB.out⟩
  have q1 : (S != S') = false := by simp [hS]
  have HSS := hide hS
  clear hS
  by_cases hL : L = L'
  case neg =>
    have q2 : (L != L') = true := by simp [hL]
    have HR : Hid (decide ((⟨S, L, rs⟩ : Prc) = ⟨S', L', rs'⟩) = false) := decide_eq_false fun h => hL (by injection h)
    clear hL
    go_enter Tryz.func48, Tryz.ntmps48
    go_wp2_with fail
    go_ret
    exact ⟨ret_bool HR.out.symm, HB.out⟩
  have q2 : (L != L') = false := by simp [hL]
  have HLL := hide hL
  clear hL
  by_cases hlen : rs.length = rs'.length
  case neg =>
    have q3 : ((rs.length : Int) != rs'.length) = true := by simp; omega
    have HR : Hid (decide ((⟨S, L, rs⟩ : Prc) = ⟨S', L', rs'⟩) = false) := decide_eq_false fun h => hlen (by injection h with _ _ h; rw [h])
    clear hlen
    go_enter Tryz.func48, Tryz.ntmps48
    go_wp2_with fail
    go_ret
    exact ⟨ret_bool HR.out.symm, HB.out⟩
  have q3 : ((rs.length : Int) != rs'.length) = false := by simp [hlen]
  have HL := hide hlen
  have HR : Hid (decide ((⟨S, L, rs⟩ : Prc) = ⟨S', L', rs'⟩) = decide (rs = rs')) := by
    show _ = _
    rw [HSS.out, HLL.out]
    by_cases h : rs = rs'
    · simp [h]
    · rw [decide_eq_false h]; exact decide_eq_false fun g => h (by injection g)
  clear hlen
  go_enter Tryz.func48, Tryz.ntmps48
  go_wp2_with fail
  go_loopw [5] (fun i wr => ∃ k : Nat, k ≤ rs.length ∧ i = .int .i64 k ∧ Hid (rs = rs' ↔ rs.drop k = rs'.drop k) ∧ Hid (Below W2.heap.size W2 wr)) (fun i _ => rs.length - (intOf i).toNat)
  case atStart => exact ⟨0, by omega, rfl, Iff.rfl, Below.refl _ _⟩
  case round =>
    obtain ⟨k, hk, rfl, HE, HBk⟩ := hrel
    have d2 := (HX1.out.below HBk.out).cell 2
    have f2 := (HX2.out.below HBk.out).cell 2
    simp only [List.getElem?_cons_zero, List.getElem?_cons_succ] at d2 f2
    by_cases hlt : k < rs.length
    · obtain ⟨row, hd, _, b, off, oa', c', rfl, _, c0, _, hl2, hsx⟩ := (HS.out.below rowR_ok HBk.out).slc_at hlt
      have hlt2 : k < rs'.length := by rw [← HL.out]; exact hlt
      obtain ⟨row', hd', _, b', off', ob', d', rfl, _, c0', _, _, hsx'⟩ := (HT.out.below rowR_ok HBk.out).slc_at hlt2
      have HD := hide hd
      have HD' := hide hd'
      have HSX := hide hsx
      have HSX' := hide hsx'
      obtain ⟨n, hn⟩ : ∃ n, n = row.length := ⟨_, rfl⟩
      obtain ⟨n', hn'⟩ : ∃ n, n = row'.length := ⟨_, rfl⟩
      rw [← hn] at c0 hl2
      rw [← hn'] at c0'
      have HN := hide hn
      have HN' := hide hn'
      clear hd hd' hsx hsx' hn hn'
      by_cases hnn : n = n'
      · have q4 : ((n : Int) != n') = false := by simp [hnn]
        have HNN := hide hnn
        clear hnn
        go_wp2_with fail
        go_quiet (fail)
        have HBq := hide (below_drewN HBk.out nq)
        have HSq := hide (HSX.out.drewN ruleR_ok nq)
        have HSq' := hide (HSX'.out.drewN ruleR_ok nq)
        have c0 : (wr.drewN nq).cell? ⟨b, off + k, none⟩ = some (.slice oa' n c') := c0
        have c0' : (wr.drewN nq).cell? ⟨b', off' + k, none⟩ = some (.slice ob' n' d') := c0'
        generalize wr.drewN nq = wo at *
        go_wp2_with fail
        go_loopg [6] n (fun g i wr => ∃ j : Nat, j ≤ n ∧ g = n - j ∧ i = .int .i64 j ∧ Hid (row = row' ↔ row.drop j = row'.drop j) ∧ Hid (Below wo.heap.size wo wr))
        case atStart => exact ⟨0, by omega, by omega, rfl, Iff.rfl, Below.refl _ _⟩
        case round =>
          obtain ⟨j, hj, hg, rfl, HF, HBj⟩ := hrel
          have HG := hide hg
          clear hg
          have HB2 : Hid (Below W2.heap.size W2 wr) := HBq.out.trans (HBj.out.mono HBq.out.size)
          have d2 := (HX1.out.below HB2.out).cell 2
          have f2 := (HX2.out.below HB2.out).cell 2
          simp only [List.getElem?_cons_zero, List.getElem?_cons_succ] at d2 f2
          have c0 := (HBj.out.cell (World.block_lt_of_cell? _ _ c0)).trans c0
          have c0' := (HBj.out.cell (World.block_lt_of_cell? _ _ c0')).trans c0'
          by_cases hlj : j < n
          · obtain ⟨nx, st, hd, _, _, b2, off2, oa2, c2, rfl, _, c20, c21, hcl, hl22, hss⟩ := (HSq.out.below ruleR_ok HBj.out).rule_at (i := j) (by rw [← HN.out]; exact hlj)
            obtain ⟨nx', st', hd', _, _, b3, off3, ob2, d2', rfl, _, c30, c31, _, _, hss'⟩ := (HSq'.out.below ruleR_ok HBj.out).rule_at (i := j) (by rw [← HN'.out, ← HNN.out]; exact hlj)
            have hlj' : j < n' := by rw [← HNN.out]; exact hlj
            have l0 := World.block_lt_of_cell? _ _ c0
            have l0' := World.block_lt_of_cell? _ _ c0'
            have l2 := World.block_lt_of_cell? _ _ c20
            have l3 := World.block_lt_of_cell? _ _ c30
            simp only at l0 l0' l2 l3
            have HD2 := hide hd
            have HD2' := hide hd'
            have HST := hide hss
            have HST' := hide hss'
            clear hd hd' hss hss'
            go_wp2_with fail
            have l4 : w.heap.size < wr.heap.size := (HX1.out.below HB2.out).lt
            have l5 : W1.heap.size < wr.heap.size := (HX2.out.below HB2.out).lt
            have HBN : Hid (∀ A B, Below wr.heap.size wr ((wr.alloc A).alloc B).drew) := fun A B => below_drewN (bnew (bnew (Below.refl _ _) A) B) 1
            have HCL := hide hcl
            clear hcl
            go_upto_region 11 with fail
            go_cut [6, 7, 8] (fun s6 s7 s8 wx => s6 = .int .i64 (j : Nat) ∧ ∃ b7 b8, s7 = .pointer (some ⟨b7, 0, none⟩) ∧ s8 = .pointer (some ⟨b8, 0, none⟩) ∧ wx.cell? ⟨b7, 0, none⟩ = some (.int .i64 nx) ∧ wx.cell? ⟨b7, 1, none⟩ = some (.slice oa2 st.length c2) ∧ wx.cell? ⟨b8, 0, none⟩ = some (.int .i64 nx') ∧ wx.cell? ⟨b8, 1, none⟩ = some (.slice ob2 st'.length d2') ∧ Hid (Below wr.heap.size wr wx))
            case first =>
              go_wp2_with fail
              go_region
              all_goals (go_wp2_with fail; go_meet; exact ⟨rfl, _, _, rfl, rfl, by simp [go_sem], by simp [go_sem], by simp [go_sem], by simp [go_sem], HBN.out _ _⟩)
            case rest =>
              obtain ⟨rfl, b7, b8, rfl, rfl, x0, x1, y0, y1, HBX⟩ := hcut
              have HC := hide (sameOutputs_any st st' oa2 ob2 c2 d2' All wc ((HST.out.all outR_ok (by omega)).below outR_ok HBX.out) ((HST'.out.all outR_ok (by omega)).below outR_ok HBX.out) HCL.out hl22)
              have HB6 : Hid (Below wo.heap.size wo wc) := HBj.out.trans (HBX.out.mono HBj.out.size)
              by_cases hx : nx = nx'
              · have q5 : (nx != nx') = false := by simp [hx]
                have HXX := hide hx
                clear hx
                by_cases hst : st = st'
                · rw [decide_eq_true hst] at HC
                  have HYY := hide hst
                  clear hst
                  go_wp2_with (go_at_call 94; refine HC.out.mono ?_; rintro e w5 ⟨rfl, h5⟩; have H6 : Hid (Below wo.heap.size wo w5) := HB6.out.trans (h5.mono HB6.out.size); clear h5)
                  go_roundg (n - (j + 1))
                  case measure => have := HG.out; omega
                  case rel =>
                    refine ⟨j + 1, by omega, rfl, by go_num, ?_, H6⟩
                    show _ ↔ _
                    rw [HF.out, HD2.out, HD2'.out, HXX.out, HYY.out]; simp
                · rw [decide_eq_false hst] at HC
                  have HYY := hide hst
                  clear hst
                  go_wp2_with (go_at_call 94; refine HC.out.mono ?_; rintro e w5 ⟨rfl, h5⟩; have H6 : Hid (Below wo.heap.size wo w5) := HB6.out.trans (h5.mono HB6.out.size); clear h5)
                  go_ret
                  refine ⟨ret_bool ?_, HB.out.trans ((HBq.out.trans (H6.out.mono HBq.out.size)).mono HB.out.size)⟩
                  rw [HR.out]
                  symm
                  refine decide_eq_false fun h => HYY.out ?_
                  have h2 := HE.out.1 h
                  rw [HD.out, HD'.out] at h2
                  injection h2 with h2
                  have h3 := HF.out.1 h2
                  rw [HD2.out, HD2'.out] at h3
                  injection h3 with h3
                  injection h3
              · have q5 : (nx != nx') = true := by simp [hx]
                have HXX := hide hx
                clear hx
                go_wp2_with fail
                go_ret
                refine ⟨ret_bool ?_, HB.out.trans ((HBq.out.trans (HB6.out.mono HBq.out.size)).mono HB.out.size)⟩
                rw [HR.out]
                symm
                refine decide_eq_false fun h => HXX.out ?_
                have h2 := HE.out.1 h
                rw [HD.out, HD'.out] at h2
                injection h2 with h2
                have h3 := HF.out.1 h2
                rw [HD2.out, HD2'.out] at h3
                injection h3 with h3
                injection h3
          · go_wp2_with fail
            go_roundw
            case rel =>
              refine ⟨k + 1, by omega, by go_num, ?_, HB2⟩
              show _ ↔ _
              have hr : row = row' := HF.out.2 (by rw [List.drop_eq_nil_of_le (by have := HN.out; omega), List.drop_eq_nil_of_le (by have := HN'.out; have := HNN.out; omega)])
              rw [HE.out, HD.out, HD'.out, hr]; simp
            case measure => simp [intOf]; omega
      · have q4 : ((n : Int) != n') = true := by simp; omega
        have HNN := hide hnn
        clear hnn
        go_wp2_with fail
        go_quiet (fail)
        go_wp2_with fail
        go_ret
        refine ⟨ret_bool ?_, HB.out.trans ((below_drewN HBk.out _).mono HB.out.size)⟩
        rw [HR.out]
        symm
        refine decide_eq_false fun h => HNN.out ?_
        have h2 := HE.out.1 h
        rw [HD.out, HD'.out] at h2
        injection h2 with h2
        rw [HN.out, HN'.out, h2]
    · go_wp2_with fail
      go_ret
      refine ⟨ret_bool ?_, HB.out.trans (HBk.out.mono HB.out.size)⟩
      rw [HR.out]
      symm
      refine decide_eq_true (HE.out.2 ?_)
      rw [List.drop_eq_nil_of_le (by omega), List.drop_eq_nil_of_le (by have := HL.out; omega)]

end Go.Proofs.YtnigfddanoaonaaGreat

set_option linter.unusedVariables false
set_option linter.unusedSimpArgs false
namespace Go.Proofs.YtnigfddanoaonaaGreat
open Go.RowKit

theorem neq_len {a b : Nat} (h : a = b) : ((a : Int) != b) = false := by simp [h]
set_option maxHeartbeats 400000 in
theorem eqRul_any (nx nx' : Int) (st st' : List Out) (oa ob : Option Addr) (c d : Nat) (F G : Foot) (w : World) (hs : SliceR outR 2 F w oa st) (ht : SliceR outR 2 G w ob st') (hc : st.length ≤ c) (hc2 : st.length ≤ 9223372036854775807) :
    Calls Tryz.prog 59 #[.agg #[.int .i64 nx, .slice oa st.length c], .agg #[.int .i64 nx', .slice ob st'.length d]] w (SameB (decide ((⟨nx, st⟩ : Rul) = ⟨nx', st'⟩)) w) := by
  obtain ⟨W1, e1⟩ : ∃ W1, w.alloc (.cells #[.int .i64 nx, .slice oa st.length c] 99) = W1 := ⟨_, rfl⟩
  have bx1 : Box W1 w.heap.size [.int .i64 nx, .slice oa st.length c] 99 := by rw [← e1]; exact Box.new w [.int .i64 nx, .slice oa st.length c] 99
  have bb1 := bnew (Below.refl w.heap.size w) (.cells #[.int .i64 nx, .slice oa st.length c] 99)
  rw [e1] at bb1
  obtain ⟨W2, e2⟩ : ∃ W2, W1.alloc (.cells #[.int .i64 nx', .slice ob st'.length d] 99) = W2 := ⟨_, rfl⟩
  have bx2 : Box W2 W1.heap.size [.int .i64 nx', .slice ob st'.length d] 99 := by rw [← e2]; exact Box.new W1 [.int .i64 nx', .slice ob st'.length d] 99
  have bb2 := bnew (Below.refl W1.heap.size W1) (.cells #[.int .i64 nx', .slice ob st'.length d] 99)
  rw [e2] at bb2
  have hb0 := bb1.trans (bb2.mono bb1.size)
  have HB := hide hb0
  have bx1' := bx1.below bb2
  have d0 := bx1'.cell 0
  have d1 := bx1'.cell 1
  have f0 := bx2.cell 0
  have f1 := bx2.cell 1
  simp only [List.getElem?_cons_zero, List.getElem?_cons_succ] at d0 d1 f0 f1
  have HC := hide (equalOut_any st st' oa ob c d All W2 ((hs.below outR_ok hb0).all outR_ok (by omega)) ((ht.below outR_ok hb0).all outR_ok (by omega)) hc hc2)
  clear bx1 bx2 bx1' bb1 bb2 hb0 hs ht
  by_cases hx : nx = nx'
  · have q1 : (nx == nx') = true := by simp [hx]
    have HR : Hid (decide ((⟨nx, st⟩ : Rul) = ⟨nx', st'⟩) = decide (st = st')) := by
      show _ = _
      subst hx
      by_cases h : st = st'
      · simp [h]
      · rw [decide_eq_false h]; exact decide_eq_false fun g => h (by injection g)
    clear hx
    go_enter Tryz.func59, Tryz.ntmps59
    go_wp2_with (go_at_call 60; refine HC.out.mono ?_; rintro e w5 ⟨rfl, h5⟩)
    go_ret
    exact ⟨ret_bool HR.out.symm, HB.out.trans (h5.mono HB.out.size)⟩
  · have q1 : (nx == nx') = false := by simp [hx]
    have HR : Hid (decide ((⟨nx, st⟩ : Rul) = ⟨nx', st'⟩) = false) := decide_eq_false fun h => hx (by injection h)
    clear hx
    go_enter Tryz.func59, Tryz.ntmps59
    go_wp2_with fail
    go_ret
    exact ⟨ret_bool HR.out.symm, HB.out⟩

set_option maxHeartbeats 800000 in
theorem eqFRul_any (l m : List Rul) (oa ob : Option Addr) (c d : Nat) (F G : Foot) (w : World)  (hs : SliceR ruleR 2 F w oa l) (ht : SliceR ruleR 2 G w ob m) (hc2 : l.length ≤ 9223372036854775807) :
    Calls Tryz.prog 62 #[.slice oa l.length c, .slice ob m.length d, .func (.func 59) #[] #[]] w (SameB (decide (l = m)) w) := by
  by_cases hlen : l.length = m.length
  case neg =>
    have hl' : ((l.length : Int) != m.length) = true := by simp; omega
    have HL : Hid (decide (l = m) = false) := decide_eq_false fun h => hlen (by rw [h])
    clear hlen
    go_enter Tryz.func62, Tryz.ntmps62
    go_wp2_with fail
    go_ret; exact ⟨ret_bool HL.out.symm, Below.refl _ _⟩
  have hl' : ((l.length : Int) != m.length) = false := neq_len hlen
  have HL := hide hlen
  clear hlen
  go_enter Tryz.func62, Tryz.ntmps62
  go_wp2_with fail
  go_loopw [17] (fun i wr => ∃ k : Nat, k ≤ l.length ∧ i = .int .i64 k ∧ Hid (l = m ↔ l.drop k = m.drop k) ∧ Hid (Below w.heap.size w wr)) (fun i _ => l.length - (intOf i).toNat)
  case atStart => exact ⟨0, by omega, rfl, Iff.rfl, Below.refl _ _⟩
  case round =>
    obtain ⟨k, hk, rfl, HE, hb⟩ := hrel
    by_cases hlt : k < l.length
    · obtain ⟨nx, st, hd, _, _, b, off, oa2, c2, rfl, _, c20, c21, hcl, hl22, hss⟩ := (hs.below ruleR_ok hb.out).rule_at hlt
      have hlt2 : k < m.length := by rw [← HL.out]; exact hlt
      obtain ⟨nx', st', hd', _, _, b', off', ob2, d2, rfl, _, c30, c31, _, _, hss'⟩ := (ht.below ruleR_ok hb.out).rule_at hlt2
      have HD := hide hd
      have HD' := hide hd'
      have HBN : Hid (∀ A B, Below w.heap.size w ((wr.alloc A).alloc B)) := fun A B => bnew (bnew hb.out A) B
      have l3 := World.block_lt_of_cell? _ _ c30
      simp only at l3
      have HC := hide (fun A B => eqRul_any nx nx' st st' oa2 ob2 c2 d2 F G ((wr.alloc A).alloc B) (hss.below outR_ok (bnew (bnew (Below.refl _ _) A) B)) (hss'.below outR_ok (bnew (bnew (Below.refl _ _) A) B)) hcl hl22)
      clear hd hd' hs ht hss hss'
      by_cases hx : (⟨nx, st⟩ : Rul) = ⟨nx', st'⟩
      · rw [decide_eq_true hx] at HC
        have HX := hide hx
        obtain ⟨n0, hn0⟩ : ∃ n, n = st.length := ⟨_, rfl⟩
        rw [← hn0] at c21 HC
        clear hn0
        obtain ⟨n1, hn1⟩ : ∃ n, n = st'.length := ⟨_, rfl⟩
        rw [← hn1] at c31 HC
        clear hn1
        clear hx
        go_wp2_with (go_at_call 59; refine (HC.out _ _).mono ?_; rintro e w5 ⟨rfl, h5⟩; have HB5 := hide ((HBN.out _ _).trans (h5.mono (HBN.out _ _).size)); clear h5)
        go_roundw
        case rel =>
          refine ⟨k + 1, by omega, by go_num, ?_, HB5⟩
          show _ ↔ _
          rw [HE.out, HD.out, HD'.out, HX.out]; simp
        case measure => simp [intOf]; omega
      · rw [decide_eq_false hx] at HC
        have HX := hide hx
        obtain ⟨n0, hn0⟩ : ∃ n, n = st.length := ⟨_, rfl⟩
        rw [← hn0] at c21 HC
        clear hn0
        obtain ⟨n1, hn1⟩ : ∃ n, n = st'.length := ⟨_, rfl⟩
        rw [← hn1] at c31 HC
        clear hn1
        clear hx
        go_wp2_with (go_at_call 59; refine (HC.out _ _).mono ?_; rintro e w5 ⟨rfl, h5⟩; have HB5 := hide ((HBN.out _ _).trans (h5.mono (HBN.out _ _).size)); clear h5)
        go_ret
        refine ⟨ret_bool ?_, HB5.out⟩
        symm
        refine decide_eq_false fun h => HX.out ?_
        have h2 := HE.out.1 h
        rw [HD.out, HD'.out] at h2
        injection h2
    · go_wp2_with fail
      go_ret
      refine ⟨ret_bool ?_, hb.out⟩
      symm
      refine decide_eq_true (HE.out.2 ?_)
      rw [List.drop_eq_nil_of_le (by omega), List.drop_eq_nil_of_le (by have := HL.out; omega)]

theorem eqRow_any (l m : List Rul) (oa ob : Option Addr) (c d p : Nat) (F G : Foot) (w : World) (hp : w.cell? ⟨p, 0, none⟩ = some (.func (.func 59) #[] #[])) (hs : SliceR ruleR 2 F w oa l) (ht : SliceR ruleR 2 G w ob m) (hc2 : l.length ≤ 9223372036854775807) :
    Calls Tryz.prog 61 #[.slice oa l.length c, .slice ob m.length d, .pointer (some ⟨p, 0, none⟩)] w (SameB (decide (l = m)) w) := by
  have HC := hide (eqFRul_any l m oa ob c d F G w hs ht hc2)
  clear hs ht
  go_enter Tryz.func61, Tryz.ntmps61
  go_wp2_with (go_at_call 62; refine HC.out.mono ?_; rintro e w5 ⟨rfl, h5⟩)
  go_ret
  exact ⟨rfl, h5⟩

set_option maxHeartbeats 800000 in
theorem eqFRow_any (l m : List (List Rul)) (oa ob : Option Addr) (c d : Nat) (F G : Foot) (w : World) (p : Nat) (hp : w.cell? ⟨p, 0, none⟩ = some (.func (.func 59) #[] #[])) (hs : SliceR (slcR ruleR 2) 1 F w oa l) (ht : SliceR (slcR ruleR 2) 1 G w ob m) (hc2 : l.length ≤ 9223372036854775807) :
    Calls Tryz.prog 64 #[.slice oa l.length c, .slice ob m.length d, .func (.func 61) #[] #[.pointer (some ⟨p, 0, none⟩)]] w (SameB (decide (l = m)) w) := by
  by_cases hlen : l.length = m.length
  case neg =>
    have hl' : ((l.length : Int) != m.length) = true := by simp; omega
    have HL : Hid (decide (l = m) = false) := decide_eq_false fun h => hlen (by rw [h])
    clear hlen
    go_enter Tryz.func64, Tryz.ntmps64
    go_wp2_with fail
    go_ret; exact ⟨ret_bool HL.out.symm, Below.refl _ _⟩
  have hl' : ((l.length : Int) != m.length) = false := neq_len hlen
  have HL := hide hlen
  clear hlen
  go_enter Tryz.func64, Tryz.ntmps64
  go_wp2_with fail
  go_loopw [17] (fun i wr => ∃ k : Nat, k ≤ l.length ∧ i = .int .i64 k ∧ Hid (l = m ↔ l.drop k = m.drop k) ∧ Hid (Below w.heap.size w wr)) (fun i _ => l.length - (intOf i).toNat)
  case atStart => exact ⟨0, by omega, rfl, Iff.rfl, Below.refl _ _⟩
  case round =>
    obtain ⟨k, hk, rfl, HE, hb⟩ := hrel
    by_cases hlt : k < l.length
    · have hpk := (hb.out.cell (World.block_lt_of_cell? _ _ hp)).trans hp
      obtain ⟨x, hd, _, b, off, oa', c', rfl, _, c0, _, hl2, hss⟩ := (hs.below rowR_ok hb.out).slc_at hlt
      have hlt2 : k < m.length := by rw [← HL.out]; exact hlt
      obtain ⟨x', hd', _, b', off', ob', d', rfl, _, c0', _, _, hss'⟩ := (ht.below rowR_ok hb.out).slc_at hlt2
      have HD := hide hd
      have HD' := hide hd'
      have HC := hide (eqRow_any x x' oa' ob' c' d' p F G wr hpk hss hss' hl2)
      clear hd hd' hs ht hss hss'
      by_cases hx : x = x'
      · rw [decide_eq_true hx] at HC
        have HX := hide hx
        obtain ⟨n0, hn0⟩ : ∃ n, n = x.length := ⟨_, rfl⟩
        rw [← hn0] at c0 HC
        clear hn0
        obtain ⟨n1, hn1⟩ : ∃ n, n = x'.length := ⟨_, rfl⟩
        rw [← hn1] at c0' HC
        clear hn1
        clear hx
        go_wp2_with (go_at_call 61; refine (HC.out).mono ?_; rintro e w5 ⟨rfl, h5⟩; have HB5 := hide (hb.out.trans (h5.mono hb.out.size)); clear h5)
        go_roundw
        case rel =>
          refine ⟨k + 1, by omega, by go_num, ?_, HB5⟩
          show _ ↔ _
          rw [HE.out, HD.out, HD'.out, HX.out]; simp
        case measure => simp [intOf]; omega
      · rw [decide_eq_false hx] at HC
        have HX := hide hx
        obtain ⟨n0, hn0⟩ : ∃ n, n = x.length := ⟨_, rfl⟩
        rw [← hn0] at c0 HC
        clear hn0
        obtain ⟨n1, hn1⟩ : ∃ n, n = x'.length := ⟨_, rfl⟩
        rw [← hn1] at c0' HC
        clear hn1
        clear hx
        go_wp2_with (go_at_call 61; refine (HC.out).mono ?_; rintro e w5 ⟨rfl, h5⟩; have HB5 := hide (hb.out.trans (h5.mono hb.out.size)); clear h5)
        go_ret
        refine ⟨ret_bool ?_, HB5.out⟩
        symm
        refine decide_eq_false fun h => HX.out ?_
        have h2 := HE.out.1 h
        rw [HD.out, HD'.out] at h2
        injection h2
    · go_wp2_with fail
      go_ret
      refine ⟨ret_bool ?_, hb.out⟩
      symm
      refine decide_eq_true (HE.out.2 ?_)
      rw [List.drop_eq_nil_of_le (by omega), List.drop_eq_nil_of_le (by have := HL.out; omega)]

set_option maxHeartbeats 800000 in
theorem eqPrc_any (S S' L L' : Int) (rs rs' : List (List Rul)) (oa ob : Option Addr) (c d p1 p2 : Nat) (F G : Foot) (w : World) (hp1 : w.cell? ⟨p1, 0, none⟩ = some (.func (.func 59) #[] #[])) (hp2 : w.cell? ⟨p2, 0, none⟩ = some (.func (.func 61) #[] #[.pointer (some ⟨p1, 0, none⟩)]))
    (hs : SliceR (slcR ruleR 2) 1 F w oa rs) (ht : SliceR (slcR ruleR 2) 1 G w ob rs') (hc2 : rs.length ≤ 9223372036854775807) :
    Calls Tryz.prog 63 #[.agg #[.int .i64 S, .int .i64 L, .slice oa rs.length c], .agg #[.int .i64 S', .int .i64 L', .slice ob rs'.length d], .pointer (some ⟨p2, 0, none⟩)] w (SameB (decide ((⟨S, L, rs⟩ : Prc) = ⟨S', L', rs'⟩)) w) := by
  obtain ⟨W1, e1⟩ : ∃ W1, w.alloc (.cells #[.int .i64 S, .int .i64 L, .slice oa rs.length c] 89) = W1 := ⟨_, rfl⟩
  have bx1 : Box W1 w.heap.size [.int .i64 S, .int .i64 L, .slice oa rs.length c] 89 := by rw [← e1]; exact Box.new w [.int .i64 S, .int .i64 L, .slice oa rs.length c] 89
  have bb1 := bnew (Below.refl w.heap.size w) (.cells #[.int .i64 S, .int .i64 L, .slice oa rs.length c] 89)
  rw [e1] at bb1
  obtain ⟨W2, e2⟩ : ∃ W2, W1.alloc (.cells #[.int .i64 S', .int .i64 L', .slice ob rs'.length d] 89) = W2 := ⟨_, rfl⟩
  have bx2 : Box W2 W1.heap.size [.int .i64 S', .int .i64 L', .slice ob rs'.length d] 89 := by rw [← e2]; exact Box.new W1 [.int .i64 S', .int .i64 L', .slice ob rs'.length d] 89
  have bb2 := bnew (Below.refl W1.heap.size W1) (.cells #[.int .i64 S', .int .i64 L', .slice ob rs'.length d] 89)
  rw [e2] at bb2
  have hb0 := bb1.trans (bb2.mono bb1.size)
  have HB := hide hb0
  have bx1' := bx1.below bb2
  have d0 := bx1'.cell 0
  have d1 := bx1'.cell 1
  have d2 := bx1'.cell 2
  have f0 := bx2.cell 0
  have f1 := bx2.cell 1
  have f2 := bx2.cell 2
  simp only [List.getElem?_cons_zero, List.getElem?_cons_succ] at d0 d1 d2 f0 f1 f2
  have k1 := (hb0.cell (World.block_lt_of_cell? _ _ hp1)).trans hp1
  have k2 := (hb0.cell (World.block_lt_of_cell? _ _ hp2)).trans hp2
  have HC := hide (eqFRow_any rs rs' oa ob c d F G W2 p1 k1 (hs.below rowR_ok hb0) (ht.below rowR_ok hb0) hc2)
  clear bx1 bx2 bx1' bb1 bb2 hb0 hs ht hp1 hp2 k1
  by_cases hx : S = S'
  · have q1 : (S == S') = true := by simp [hx]
    by_cases hy : L = L'
    · have q2 : (L == L') = true := by simp [hy]
      have HR : Hid (decide ((⟨S, L, rs⟩ : Prc) = ⟨S', L', rs'⟩) = decide (rs = rs')) := by
        show _ = _
        subst hx hy
        by_cases h : rs = rs'
        · simp [h]
        · rw [decide_eq_false h]; exact decide_eq_false fun g => h (by injection g)
      clear hx hy
      go_enter Tryz.func63, Tryz.ntmps63
      go_wp2_with (go_at_call 64; refine HC.out.mono ?_; rintro e w5 ⟨rfl, h5⟩)
      go_ret
      exact ⟨ret_bool HR.out.symm, HB.out.trans (h5.mono HB.out.size)⟩
    · have q2 : (L == L') = false := by simp [hy]
      have HR : Hid (decide ((⟨S, L, rs⟩ : Prc) = ⟨S', L', rs'⟩) = false) := decide_eq_false fun h => hy (by injection h)
      clear hx hy
      go_enter Tryz.func63, Tryz.ntmps63
      go_wp2_with fail
      go_ret
      exact ⟨ret_bool HR.out.symm, HB.out⟩
  · have q1 : (S == S') = false := by simp [hx]
    have HR : Hid (decide ((⟨S, L, rs⟩ : Prc) = ⟨S', L', rs'⟩) = false) := decide_eq_false fun h => hx (by injection h)
    clear hx
    go_enter Tryz.func63, Tryz.ntmps63
    go_wp2_with fail
    go_ret
    exact ⟨ret_bool HR.out.symm, HB.out⟩

set_option maxHeartbeats 800000 in
theorem eqFPrc_any (l m : List Prc) (oa ob : Option Addr) (c d : Nat) (F G : Foot) (w : World) (p1 p2 : Nat) (hp1 : w.cell? ⟨p1, 0, none⟩ = some (.func (.func 59) #[] #[])) (hp2 : w.cell? ⟨p2, 0, none⟩ = some (.func (.func 61) #[] #[.pointer (some ⟨p1, 0, none⟩)])) (hs : SliceR prcR 3 F w oa l) (ht : SliceR prcR 3 G w ob m) (hc2 : l.length ≤ 9223372036854775807) :
    Calls Tryz.prog 65 #[.slice oa l.length c, .slice ob m.length d, .func (.func 63) #[] #[.pointer (some ⟨p2, 0, none⟩)]] w (SameB (decide (l = m)) w) := by
  by_cases hlen : l.length = m.length
  case neg =>
    have hl' : ((l.length : Int) != m.length) = true := by simp; omega
    have HL : Hid (decide (l = m) = false) := decide_eq_false fun h => hlen (by rw [h])
    clear hlen
    go_enter Tryz.func65, Tryz.ntmps65
    go_wp2_with fail
    go_ret; exact ⟨ret_bool HL.out.symm, Below.refl _ _⟩
  have hl' : ((l.length : Int) != m.length) = false := neq_len hlen
  have HL := hide hlen
  clear hlen
  go_enter Tryz.func65, Tryz.ntmps65
  go_wp2_with fail
  go_loopw [17] (fun i wr => ∃ k : Nat, k ≤ l.length ∧ i = .int .i64 k ∧ Hid (l = m ↔ l.drop k = m.drop k) ∧ Hid (Below w.heap.size w wr)) (fun i _ => l.length - (intOf i).toNat)
  case atStart => exact ⟨0, by omega, rfl, Iff.rfl, Below.refl _ _⟩
  case round =>
    obtain ⟨k, hk, rfl, HE, hb⟩ := hrel
    by_cases hlt : k < l.length
    · have hpk := (hb.out.cell (World.block_lt_of_cell? _ _ hp1)).trans hp1
      have hpk2 := (hb.out.cell (World.block_lt_of_cell? _ _ hp2)).trans hp2
      obtain ⟨S5, L5, rs5, b7, off7, oa7, c7, hd, _, rfl, _, y0, y1, y2, _, _, hrc, hrc2, hss⟩ := (hs.below prcR_ok hb.out).prc_at hlt
      have hlt2 : k < m.length := by rw [← HL.out]; exact hlt
      obtain ⟨S6, L6, rs6, b8, off8, oa8, c8, hd', _, rfl, _, z0, z1, z2, _, _, _, _, hss'⟩ := (ht.below prcR_ok hb.out).prc_at hlt2
      have HD := hide hd
      have HD' := hide hd'
      have HBN : Hid (∀ A B, Below w.heap.size w ((wr.alloc A).alloc B)) := fun A B => bnew (bnew hb.out A) B
      have l3 := World.block_lt_of_cell? _ _ z0
      simp only at l3
      have HC := hide (fun A B => eqPrc_any S5 S6 L5 L6 rs5 rs6 oa7 oa8 c7 c8 p1 p2 F G ((wr.alloc A).alloc B) (((bnew (bnew (Below.refl _ _) A) B).cell (World.block_lt_of_cell? _ _ hpk)).trans hpk) (((bnew (bnew (Below.refl _ _) A) B).cell (World.block_lt_of_cell? _ _ hpk2)).trans hpk2) (hss.below rowR_ok (bnew (bnew (Below.refl _ _) A) B)) (hss'.below rowR_ok (bnew (bnew (Below.refl _ _) A) B)) hrc2)
      clear hd hd' hs ht hss hss'
      by_cases hx : (⟨S5, L5, rs5⟩ : Prc) = ⟨S6, L6, rs6⟩
      · rw [decide_eq_true hx] at HC
        have HX := hide hx
        obtain ⟨n0, hn0⟩ : ∃ n, n = rs5.length := ⟨_, rfl⟩
        rw [← hn0] at y2 HC
        clear hn0
        obtain ⟨n1, hn1⟩ : ∃ n, n = rs6.length := ⟨_, rfl⟩
        rw [← hn1] at z2 HC
        clear hn1
        clear hx
        go_wp2_with (go_at_call 63; refine (HC.out _ _).mono ?_; rintro e w5 ⟨rfl, h5⟩; have HB5 := hide ((HBN.out _ _).trans (h5.mono (HBN.out _ _).size)); clear h5)
        go_roundw
        case rel =>
          refine ⟨k + 1, by omega, by go_num, ?_, HB5⟩
          show _ ↔ _
          rw [HE.out, HD.out, HD'.out, HX.out]; simp
        case measure => simp [intOf]; omega
      · rw [decide_eq_false hx] at HC
        have HX := hide hx
        obtain ⟨n0, hn0⟩ : ∃ n, n = rs5.length := ⟨_, rfl⟩
        rw [← hn0] at y2 HC
        clear hn0
        obtain ⟨n1, hn1⟩ : ∃ n, n = rs6.length := ⟨_, rfl⟩
        rw [← hn1] at z2 HC
        clear hn1
        clear hx
        go_wp2_with (go_at_call 63; refine (HC.out _ _).mono ?_; rintro e w5 ⟨rfl, h5⟩; have HB5 := hide ((HBN.out _ _).trans (h5.mono (HBN.out _ _).size)); clear h5)
        go_ret
        refine ⟨ret_bool ?_, HB5.out⟩
        symm
        refine decide_eq_false fun h => HX.out ?_
        have h2 := HE.out.1 h
        rw [HD.out, HD'.out] at h2
        injection h2
    · go_wp2_with fail
      go_ret
      refine ⟨ret_bool ?_, hb.out⟩
      symm
      refine decide_eq_true (HE.out.2 ?_)
      rw [List.drop_eq_nil_of_le (by omega), List.drop_eq_nil_of_le (by have := HL.out; omega)]

set_option maxHeartbeats 800000 in
theorem eqFInt_any (l m : List (List Int)) (oa ob : Option Addr) (c d : Nat) (F G : Foot) (w : World)  (hs : SliceR (slcR intR 1) 1 F w oa l) (ht : SliceR (slcR intR 1) 1 G w ob m) (hc2 : l.length ≤ 9223372036854775807) :
    Calls Tryz.prog 66 #[.slice oa l.length c, .slice ob m.length d, .func (.func 32) #[] #[]] w (SameB (decide (l = m)) w) := by
  by_cases hlen : l.length = m.length
  case neg =>
    have hl' : ((l.length : Int) != m.length) = true := by simp; omega
    have HL : Hid (decide (l = m) = false) := decide_eq_false fun h => hlen (by rw [h])
    clear hlen
    go_enter Tryz.func66, Tryz.ntmps66
    go_wp2_with fail
    go_ret; exact ⟨ret_bool HL.out.symm, Below.refl _ _⟩
  have hl' : ((l.length : Int) != m.length) = false := neq_len hlen
  have HL := hide hlen
  clear hlen
  go_enter Tryz.func66, Tryz.ntmps66
  go_wp2_with fail
  go_loopw [17] (fun i wr => ∃ k : Nat, k ≤ l.length ∧ i = .int .i64 k ∧ Hid (l = m ↔ l.drop k = m.drop k) ∧ Hid (Below w.heap.size w wr)) (fun i _ => l.length - (intOf i).toNat)
  case atStart => exact ⟨0, by omega, rfl, Iff.rfl, Below.refl _ _⟩
  case round =>
    obtain ⟨k, hk, rfl, HE, hb⟩ := hrel
    by_cases hlt : k < l.length
    · obtain ⟨x, hd, _, b, off, oa', c', rfl, _, c0, hl1, hl2, hss⟩ := (hs.below (slcR_ok intR_ok (by decide)) hb.out).slc_at hlt
      have hlt2 : k < m.length := by rw [← HL.out]; exact hlt
      obtain ⟨x', hd', _, b', off', ob', d', rfl, _, c0', _, _, hss'⟩ := (ht.below (slcR_ok intR_ok (by decide)) hb.out).slc_at hlt2
      have HD := hide hd
      have HD' := hide hd'
      have HC := hide (equalInt_any x x' oa' ob' c' d' All wr (hss.all intR_ok (by omega)) (hss'.all intR_ok (by omega)) hl1 hl2)
      clear hd hd' hs ht hss hss'
      by_cases hx : x = x'
      · rw [decide_eq_true hx] at HC
        have HX := hide hx
        obtain ⟨n0, hn0⟩ : ∃ n, n = x.length := ⟨_, rfl⟩
        rw [← hn0] at c0 HC
        clear hn0
        obtain ⟨n1, hn1⟩ : ∃ n, n = x'.length := ⟨_, rfl⟩
        rw [← hn1] at c0' HC
        clear hn1
        clear hx
        go_wp2_with (go_at_call 32; refine (HC.out).mono ?_; rintro e w5 ⟨rfl, h5⟩; have HB5 := hide (hb.out.trans (h5.mono hb.out.size)); clear h5)
        go_roundw
        case rel =>
          refine ⟨k + 1, by omega, by go_num, ?_, HB5⟩
          show _ ↔ _
          rw [HE.out, HD.out, HD'.out, HX.out]; simp
        case measure => simp [intOf]; omega
      · rw [decide_eq_false hx] at HC
        have HX := hide hx
        obtain ⟨n0, hn0⟩ : ∃ n, n = x.length := ⟨_, rfl⟩
        rw [← hn0] at c0 HC
        clear hn0
        obtain ⟨n1, hn1⟩ : ∃ n, n = x'.length := ⟨_, rfl⟩
        rw [← hn1] at c0' HC
        clear hn1
        clear hx
        go_wp2_with (go_at_call 32; refine (HC.out).mono ?_; rintro e w5 ⟨rfl, h5⟩; have HB5 := hide (hb.out.trans (h5.mono hb.out.size)); clear h5)
        go_ret
        refine ⟨ret_bool ?_, HB5.out⟩
        symm
        refine decide_eq_false fun h => HX.out ?_
        have h2 := HE.out.1 h
        rw [HD.out, HD'.out] at h2
        injection h2
    · go_wp2_with fail
      go_ret
      refine ⟨ret_bool ?_, hb.out⟩
      symm
      refine decide_eq_true (HE.out.2 ?_)
      rw [List.drop_eq_nil_of_le (by omega), List.drop_eq_nil_of_le (by have := HL.out; omega)]

end Go.Proofs.YtnigfddanoaonaaGreat

set_option linter.unusedVariables false
set_option linter.unusedSimpArgs false
namespace Go.Proofs.YtnigfddanoaonaaGreat
open Go.RowKit

theorem store_func (w : World) (t : TypeId) (f : Fn) (pre cap : Array Value) : Sem.run Tryz.prog (store ⟨w.heap.size, 0, none⟩ (.func f pre cap)) (w.alloc (.cells #[.nilFunc] t)) = .ok () (w.alloc (.cells #[.func f pre cap] t)) := by
  rw [run_store _ _ _ _ _ rfl]
  simp [go_sem]

set_option maxRecDepth 100000 in
set_option maxHeartbeats 2000000 in
theorem nsame_any (x y : Nwk) (op os ow oq ot ov : Option Addr) (cp cs cw cq ct cv : Nat) (w : World)
    (hp : SliceR prcR 3 All w op x.procs) (hs : SliceR intR 1 All w os x.state) (ht : SliceR (slcR intR 1) 1 All w ow x.waiting) (hq : SliceR prcR 3 All w oq y.procs) (hu0 : SliceR intR 1 All w ot y.state) (hv : SliceR (slcR intR 1) 1 All w ov y.waiting)
    (hp2 : x.procs.length ≤ 9223372036854775807) (hsc : x.state.length ≤ cs) (hs2 : x.state.length ≤ 9223372036854775807) (ht2 : x.waiting.length ≤ 9223372036854775807) :
    Calls Tryz.prog 21 #[.agg #[.slice op x.procs.length cp, .slice os x.state.length cs, .slice ow x.waiting.length cw], .agg #[.slice oq y.procs.length cq, .slice ot y.state.length ct, .slice ov y.waiting.length cv]] w (SameB (decide (x = y)) w) := by
  obtain ⟨ps, st, wt⟩ := x
  obtain ⟨ps', st', wt'⟩ := y
  simp only at hp hs ht hq hu0 hv hp2 hs2 ht2 hsc ⊢
  obtain ⟨W1, e1⟩ : ∃ W1, w.alloc (.cells #[.slice op ps.length cp, .slice os st.length cs, .slice ow wt.length cw] 26) = W1 := ⟨_, rfl⟩
  have bx1 : Box W1 w.heap.size [.slice op ps.length cp, .slice os st.length cs, .slice ow wt.length cw] 26 := by rw [← e1]; exact Box.new w [.slice op ps.length cp, .slice os st.length cs, .slice ow wt.length cw] 26
  have bb1 := bnew (Below.refl w.heap.size w) (.cells #[.slice op ps.length cp, .slice os st.length cs, .slice ow wt.length cw] 26)
  rw [e1] at bb1
  obtain ⟨W2, e2⟩ : ∃ W2, W1.alloc (.cells #[.slice oq ps'.length cq, .slice ot st'.length ct, .slice ov wt'.length cv] 26) = W2 := ⟨_, rfl⟩
  have bx2 : Box W2 W1.heap.size [.slice oq ps'.length cq, .slice ot st'.length ct, .slice ov wt'.length cv] 26 := by rw [← e2]; exact Box.new W1 [.slice oq ps'.length cq, .slice ot st'.length ct, .slice ov wt'.length cv] 26
  have bb2 := bnew (Below.refl W1.heap.size W1) (.cells #[.slice oq ps'.length cq, .slice ot st'.length ct, .slice ov wt'.length cv] 26)
  rw [e2] at bb2
  have HB := hide (bb1.trans (bb2.mono bb1.size))
  have HX1 := hide (bx1.below bb2)
  have HX2 := hide bx2
  have HF : Hid (∀ u, Below W2.heap.size W2 u → u.cell? ⟨w.heap.size, 0, none⟩ = some (.slice op ps.length cp) ∧ u.cell? ⟨w.heap.size, 1, none⟩ = some (.slice os st.length cs) ∧ u.cell? ⟨w.heap.size, 2, none⟩ = some (.slice ow wt.length cw) ∧ u.cell? ⟨W1.heap.size, 0, none⟩ = some (.slice oq ps'.length cq) ∧ u.cell? ⟨W1.heap.size, 1, none⟩ = some (.slice ot st'.length ct) ∧ u.cell? ⟨W1.heap.size, 2, none⟩ = some (.slice ov wt'.length cv)) := fun u hu => by
    have d0 := (HX1.out.below hu).cell 0
    have d1 := (HX1.out.below hu).cell 1
    have d2 := (HX1.out.below hu).cell 2
    have f0 := (HX2.out.below hu).cell 0
    have f1 := (HX2.out.below hu).cell 1
    have f2 := (HX2.out.below hu).cell 2
    simp only [List.getElem?_cons_zero, List.getElem?_cons_succ] at d0 d1 d2 f0 f1 f2
    exact ⟨d0, d1, d2, f0, f1, f2⟩
  have HP : Hid (∀ u p1 p2, Below W2.heap.size W2 u → u.cell? ⟨p1, 0, none⟩ = some (.func (.func 59) #[] #[]) → u.cell? ⟨p2, 0, none⟩ = some (.func (.func 61) #[] #[.pointer (some ⟨p1, 0, none⟩)]) →
      Calls Tryz.prog 65 #[.slice op ps.length cp, .slice oq ps'.length cq, .func (.func 63) #[] #[.pointer (some ⟨p2, 0, none⟩)]] u (SameB (decide (ps = ps')) u)) := fun u p1 p2 hu h1 h2 =>
    eqFPrc_any ps ps' op oq cp cq All All u p1 p2 h1 h2 (hp.below prcR_ok (HB.out.trans (hu.mono HB.out.size))) (hq.below prcR_ok (HB.out.trans (hu.mono HB.out.size))) hp2
  have HS : Hid (∀ u, Below W2.heap.size W2 u → Calls Tryz.prog 32 #[.slice os st.length cs, .slice ot st'.length ct] u fun e w' => e = .returned (.bool (decide (st = st'))) ∧ Below u.heap.size u w') := fun u hu =>
    equalInt_any st st' os ot cs ct All u (hs.below intR_ok (HB.out.trans (hu.mono HB.out.size))) (hu0.below intR_ok (HB.out.trans (hu.mono HB.out.size))) hsc hs2
  have HT : Hid (∀ u, Below W2.heap.size W2 u → Calls Tryz.prog 66 #[.slice ow wt.length cw, .slice ov wt'.length cv, .func (.func 32) #[] #[]] u (SameB (decide (wt = wt')) u)) := fun u hu =>
    eqFInt_any wt wt' ow ov cw cv All All u (ht.below (slcR_ok intR_ok (by decide)) (HB.out.trans (hu.mono HB.out.size))) (hv.below (slcR_ok intR_ok (by decide)) (HB.out.trans (hu.mono HB.out.size))) ht2
  obtain ⟨d0, d1, d2, f0, f1, f2⟩ := HF.out W2 (Below.refl _ _)
  obtain ⟨n, hn⟩ : ∃ n, n = ps.length := ⟨_, rfl⟩
  obtain ⟨n', hn'⟩ : ∃ n, n = ps'.length := ⟨_, rfl⟩
  obtain ⟨m, hm⟩ : ∃ n, n = st.length := ⟨_, rfl⟩
  obtain ⟨m', hm'⟩ : ∃ n, n = st'.length := ⟨_, rfl⟩
  obtain ⟨k, hk⟩ : ∃ n, n = wt.length := ⟨_, rfl⟩
  obtain ⟨k', hk'⟩ : ∃ n, n = wt'.length := ⟨_, rfl⟩
  rw [← hn, ← hm, ← hk, ← hn', ← hm', ← hk'] at HF
  rw [← hn, ← hn'] at HP
  rw [← hm, ← hm'] at HS
  rw [← hk, ← hk'] at HT
  rw [← hn] at d0 ⊢
  rw [← hn'] at f0 ⊢
  rw [← hm] at d1 ⊢
  rw [← hm'] at f1 ⊢
  rw [← hk] at d2 ⊢
  rw [← hk'] at f2 ⊢
  have HW1 := hide e1
  have HW2 := hide e2
  rw [← hn, ← hm, ← hk] at HW1
  rw [← hn', ← hm', ← hk'] at HW2
  clear hp hs ht hq hu0 hv hp2 hs2 ht2 hsc bx1 bx2 bb1 bb2 hn hn' hm hm' hk hk' e1 e2
  have e1 := HW1.out
  have e2 := HW2.out
  clear HW1 HW2
  have HBN : Hid (∀ A B, Below W2.heap.size W2 ((W2.alloc A).alloc B)) := fun A B => bnew (bnew (Below.refl _ _) A) B
  have l1 : w.heap.size < W2.heap.size := HX1.out.lt
  have l2 : W1.heap.size < W2.heap.size := HX2.out.lt
  have g1 := store_func W2 111 (.func 59) #[] #[]
  have g2 := store_func (W2.alloc (.cells #[.func (.func 59) #[] #[]] 111)) 113 (.func 61) #[] #[.pointer (some ⟨W2.heap.size, 0, none⟩)]
  simp only [World.size_alloc] at g2
  by_cases h1 : ps = ps'
  case neg =>
    rw [decide_eq_false h1] at HP
    have HR : Hid (decide ((⟨ps, st, wt⟩ : Nwk) = ⟨ps', st', wt'⟩) = false) := decide_eq_false fun h => h1 (by injection h)
    clear h1
    go_enter Tryz.func21, Tryz.ntmps21
    go_wp2_with (go_at_call 65; refine (HP.out _ W2.heap.size (W2.heap.size + 1) (HBN.out _ _) (by simp [go_sem]) (by simp [go_sem])).mono ?_; rintro e w5 ⟨rfl, h5⟩)
    go_ret
    exact ⟨ret_bool HR.out.symm, HB.out.trans (((HBN.out _ _).trans (h5.mono (HBN.out _ _).size)).mono HB.out.size)⟩
  rw [decide_eq_true h1] at HP
  have H1 := hide h1
  clear h1
  by_cases h2 : st = st'
  case neg =>
    rw [decide_eq_false h2] at HS
    have HR : Hid (decide ((⟨ps, st, wt⟩ : Nwk) = ⟨ps', st', wt'⟩) = false) := decide_eq_false fun h => h2 (by injection h)
    clear h2
    go_enter Tryz.func21, Tryz.ntmps21
    go_wp2_with (first
      | (go_at_call 65; refine (HP.out _ W2.heap.size (W2.heap.size + 1) (HBN.out _ _) (by simp [go_sem]) (by simp [go_sem])).mono ?_; rintro e w5 ⟨rfl, h5⟩; have HB5 := hide ((HBN.out _ _).trans (h5.mono (HBN.out _ _).size)); obtain ⟨_, d1, d2, _, f1, f2⟩ := HF.out _ HB5.out; clear h5)
      | (go_at_call 32; refine (HS.out _ HB5.out).mono ?_; rintro e w6 ⟨rfl, h6⟩))
    go_ret
    exact ⟨ret_bool HR.out.symm, HB.out.trans ((HB5.out.trans (h6.mono HB5.out.size)).mono HB.out.size)⟩
  rw [decide_eq_true h2] at HS
  have HR : Hid (decide ((⟨ps, st, wt⟩ : Nwk) = ⟨ps', st', wt'⟩) = decide (wt = wt')) := by
    show _ = _
    rw [H1.out, h2]
    by_cases h : wt = wt'
    · simp [h]
    · rw [decide_eq_false h]; exact decide_eq_false fun g => h (by injection g)
  clear h2
  go_enter Tryz.func21, Tryz.ntmps21
  go_wp2_with (first
    | (go_at_call 65; refine (HP.out _ W2.heap.size (W2.heap.size + 1) (HBN.out _ _) (by simp [go_sem]) (by simp [go_sem])).mono ?_; rintro e w5 ⟨rfl, h5⟩; have HB5 := hide ((HBN.out _ _).trans (h5.mono (HBN.out _ _).size)); obtain ⟨_, d1, d2, _, f1, f2⟩ := HF.out _ HB5.out; clear h5)
    | (go_at_call 32; refine (HS.out _ HB5.out).mono ?_; rintro e w6 ⟨rfl, h6⟩; have HB6 := hide (HB5.out.trans (h6.mono HB5.out.size)); obtain ⟨_, _, d2, _, _, f2⟩ := HF.out _ HB6.out; clear h6)
    | (go_at_call 66; refine (HT.out _ HB6.out).mono ?_; rintro e w7 ⟨rfl, h7⟩))
  go_ret
  exact ⟨ret_bool HR.out.symm, HB.out.trans ((HB6.out.trans (h7.mono HB6.out.size)).mono HB.out.size)⟩

end Go.Proofs.YtnigfddanoaonaaGreat

set_option linter.unusedVariables false
set_option linter.unusedSimpArgs false
namespace Go.Proofs.YtnigfddanoaonaaGreat
open Go.RowKit

set_option maxRecDepth 100000 in
set_option maxHeartbeats 2000000 in
theorem rsame55_any (x y : Nwk) (op os ow oq ot ov : Option Addr) (cp cs cw cq ct cv : Nat) (F G : Foot) (w : World)
    (hp : SliceR prcR 3 F w op x.procs) (hs : SliceR intR 1 F w os x.state) (ht : SliceR (slcR intR 1) 1 F w ow x.waiting) (hq : SliceR prcR 3 G w oq y.procs) (hu : SliceR intR 1 G w ot y.state) (hv : SliceR (slcR intR 1) 1 G w ov y.waiting)
    (hp2 : x.procs.length ≤ 9223372036854775807) (hs2 : x.state.length ≤ 9223372036854775807) (ht2 : x.waiting.length ≤ 9223372036854775807) :
    Calls Tryz.prog 14 #[.agg #[.slice op x.procs.length cp, .slice os x.state.length cs, .slice ow x.waiting.length cw], .agg #[.slice oq y.procs.length cq, .slice ot y.state.length ct, .slice ov y.waiting.length cv]] w (SameB (decide (x = y)) w) := by
  obtain ⟨ps, st, wt⟩ := x
  obtain ⟨ps', st', wt'⟩ := y
  simp only at hp hs ht hq hu hv hp2 hs2 ht2 ⊢
  obtain ⟨n, hn⟩ : ∃ n, n = ps.length := ⟨_, rfl⟩
  obtain ⟨m, hm⟩ : ∃ n, n = ps'.length := ⟨_, rfl⟩
  have HN := hide hn
  have HM := hide hm
  have HC1 : Hid (∀ W, Below w.heap.size w W → Calls Tryz.prog 47 #[.slice os st.length cs, .slice ot st'.length ct] W (SameB (decide (st = st')) W)) := fun W h => (sameInts08_any st st' os ot cs ct F G W (hs.below intR_ok h) (hu.below intR_ok h) hs2).mono fun e w' h => h.below
  have HC2 : Hid (∀ W, Below w.heap.size w W → Calls Tryz.prog 15 #[.slice ow wt.length cw, .slice ov wt'.length cv] W (SameB (decide (wt = wt')) W)) := fun W h => (sameTables_any wt wt' ow ov cw cv F G W (ht.below tabR_ok h) (hv.below tabR_ok h) ht2).mono fun e w' h => h.below
  obtain ⟨ns, hns⟩ : ∃ n, n = st.length := ⟨_, rfl⟩
  obtain ⟨ns', hns'⟩ : ∃ n, n = st'.length := ⟨_, rfl⟩
  obtain ⟨nw, hnw⟩ : ∃ n, n = wt.length := ⟨_, rfl⟩
  obtain ⟨nw', hnw'⟩ : ∃ n, n = wt'.length := ⟨_, rfl⟩
  rw [← hns, ← hns'] at HC1
  rw [← hnw, ← hnw'] at HC2
  rw [← hn] at hp2 ⊢
  rw [← hm, ← hns, ← hns', ← hnw, ← hnw']
  clear hn hm hns hns' hnw hnw'
  obtain ⟨W1, e1⟩ : ∃ W1, w.alloc (.cells #[.slice op n cp, .slice os ns cs, .slice ow nw cw] 26) = W1 := ⟨_, rfl⟩
  have bx1 : Box W1 w.heap.size [.slice op n cp, .slice os ns cs, .slice ow nw cw] 26 := by rw [← e1]; exact Box.new w [.slice op n cp, .slice os ns cs, .slice ow nw cw] 26
  have bb1 := bnew (Below.refl w.heap.size w) (.cells #[.slice op n cp, .slice os ns cs, .slice ow nw cw] 26)
  rw [e1] at bb1
  obtain ⟨W2, e2⟩ : ∃ W2, W1.alloc (.cells #[.slice oq m cq, .slice ot ns' ct, .slice ov nw' cv] 26) = W2 := ⟨_, rfl⟩
  have bx2 : Box W2 W1.heap.size [.slice oq m cq, .slice ot ns' ct, .slice ov nw' cv] 26 := by rw [← e2]; exact Box.new W1 [.slice oq m cq, .slice ot ns' ct, .slice ov nw' cv] 26
  have bb2 := bnew (Below.refl W1.heap.size W1) (.cells #[.slice oq m cq, .slice ot ns' ct, .slice ov nw' cv] 26)
  rw [e2] at bb2
  have hb0 := bb1.trans (bb2.mono bb1.size)
  have HB := hide hb0
  have HX1 := hide (bx1.below bb2)
  have HX2 := hide bx2
  have HP := hide (hp.below prcR_ok hb0)
  have HQ := hide (hq.below prcR_ok hb0)
  have d0 := HX1.out.cell 0
  have d1 := HX1.out.cell 1
  have d2 := HX1.out.cell 2
  have f0 := HX2.out.cell 0
  have f1 := HX2.out.cell 1
  have f2 := HX2.out.cell 2
  simp only [List.getElem?_cons_zero, List.getElem?_cons_succ] at d0 d1 d2 f0 f1 f2
  clear bx1 bx2 bb1 bb2 hb0 hp hq hs hu ht hv hs2 ht2
  by_cases hl : n = m
  case neg =>
    have q1 : ((n : Int) != m) = true := by simp; omega
    have HR : Hid (decide ((⟨ps, st, wt⟩ : Nwk) = ⟨ps', st', wt'⟩) = false) := decide_eq_false fun h => hl (by injection h with h1; rw [HN.out, HM.out, h1])
    clear hl
    go_enter Tryz.func14, Tryz.ntmps14
    go_wp2_with fail
    go_ret
    exact ⟨ret_bool HR.out.symm, HB.out⟩
  have q1 : ((n : Int) != m) = false := by simp; omega
  have HL := hide hl
  clear hl
  by_cases hst : st = st'
  case neg =>
    rw [decide_eq_false hst] at HC1
    have HR : Hid (decide ((⟨ps, st, wt⟩ : Nwk) = ⟨ps', st', wt'⟩) = false) := decide_eq_false fun h => hst (by injection h)
    clear hst
    go_enter Tryz.func14, Tryz.ntmps14
    go_wp2_with (go_at_call 47; refine (HC1.out _ HB.out).mono ?_; rintro e w5 ⟨rfl, h5⟩)
    go_ret
    exact ⟨ret_bool HR.out.symm, HB.out.trans (h5.mono HB.out.size)⟩
  rw [decide_eq_true hst] at HC1
  have HST := hide hst
  clear hst
  by_cases hwt : wt = wt'
  case neg =>
    rw [decide_eq_false hwt] at HC2
    have HR : Hid (decide ((⟨ps, st, wt⟩ : Nwk) = ⟨ps', st', wt'⟩) = false) := decide_eq_false fun h => hwt (by injection h)
    clear hwt
    go_enter Tryz.func14, Tryz.ntmps14
    go_wp2_with (first
      | (go_at_call 47; refine (HC1.out _ HB.out).mono ?_; rintro e w5 ⟨rfl, h5⟩; have d2 := (HX1.out.below h5).cell 2; have f2 := (HX2.out.below h5).cell 2; simp only [List.getElem?_cons_zero, List.getElem?_cons_succ] at d2 f2; have HB5 := hide (HB.out.trans (h5.mono HB.out.size)); clear h5)
      | (go_at_call 15; refine (HC2.out _ HB5.out).mono ?_; rintro e w6 ⟨rfl, h6⟩))
    go_ret
    exact ⟨ret_bool HR.out.symm, HB5.out.trans (h6.mono HB5.out.size)⟩
  rw [decide_eq_true hwt] at HC2
  have HWT := hide hwt
  clear hwt
  have HR : Hid (decide ((⟨ps, st, wt⟩ : Nwk) = ⟨ps', st', wt'⟩) = decide (ps = ps')) := by
    show _ = _
    rw [HST.out, HWT.out]
    by_cases h : ps = ps'
    · simp [h]
    · rw [decide_eq_false h]; exact decide_eq_false fun g => h (by injection g)
  go_enter Tryz.func14, Tryz.ntmps14
  go_wp2_with (first
    | (go_at_call 47; refine (HC1.out _ HB.out).mono ?_; rintro e w5 ⟨rfl, h5⟩; have d2 := (HX1.out.below h5).cell 2; have f2 := (HX2.out.below h5).cell 2; simp only [List.getElem?_cons_zero, List.getElem?_cons_succ] at d2 f2; have HB5 := hide (HB.out.trans (h5.mono HB.out.size)); have HB25 := hide h5; clear h5)
    | (go_at_call 15; refine (HC2.out _ HB5.out).mono ?_; rintro e w6 ⟨rfl, h6⟩; have HB6 : Hid (Below W2.heap.size W2 w6) := HB25.out.trans (h6.mono HB25.out.size); clear h6))
  clear d0 d1 d2 f0 f1 f2
  go_loopw [5] (fun i wr => ∃ k : Nat, k ≤ n ∧ i = .int .i64 k ∧ Hid (ps = ps' ↔ ps.drop k = ps'.drop k) ∧ Hid (Below W2.heap.size W2 wr)) (fun i _ => n - (intOf i).toNat)
  case atStart => exact ⟨0, by omega, rfl, Iff.rfl, HB6⟩
  case round =>
    obtain ⟨k, hk, rfl, HE, HBk⟩ := hrel
    have d0 := (HX1.out.below HBk.out).cell 0
    have f0 := (HX2.out.below HBk.out).cell 0
    simp only [List.getElem?_cons_zero, List.getElem?_cons_succ] at d0 f0
    by_cases hlt : k < n
    · obtain ⟨S5, Le5, rs5, b7, off7, oa7, c7, hd7, _, rfl, _, y0, y1, y2, _, _, hrc, hrc2, hrs⟩ := (HP.out.below prcR_ok HBk.out).prc_at (i := k) (by have := HN.out; omega)
      have hlt2 : k < m := by have := HL.out; omega
      obtain ⟨S6, Le6, rs6, b8, off8, oa8, c8, hd8, _, rfl, _, z0, z1, z2, _, _, _, _, hrs8⟩ := (HQ.out.below prcR_ok HBk.out).prc_at (i := k) (by have := HM.out; omega)
      have HC := hide (sameProcs_any S5 Le5 S6 Le6 rs5 rs6 oa7 oa8 c7 c8 F G wr.drew (hrs.keep (w' := wr.drew) rowR_ok (fun _ _ _ => rfl)) (hrs8.keep (w' := wr.drew) rowR_ok (fun _ _ _ => rfl)) hrc2)
      have HD := hide hd7
      have HD' := hide hd8
      clear hd7 hd8 hrs hrs8 hrc hrc2
      by_cases hx : (⟨S5, Le5, rs5⟩ : Prc) = ⟨S6, Le6, rs6⟩
      · rw [decide_eq_true hx] at HC
        have HXX := hide hx
        clear hx
        go_wp2_with fail
        go_still_tail 10, (by kernel_rfl)
        change wpList _ _ _ _ _ wr.drew
        go_wp2_with (go_at_call 48; refine HC.out.mono ?_; rintro e w5 ⟨rfl, h5⟩; have HB7 := hide (HBk.out.trans ((Below.refl _ _).drew.trans h5 |>.mono HBk.out.size)); clear h5)
        go_roundw
        case rel =>
          refine ⟨k + 1, by omega, by go_num, ?_, HB7⟩
          show _ ↔ _
          rw [HE.out, HD.out, HD'.out, HXX.out]; simp
        case measure => simp [intOf]; omega
      · rw [decide_eq_false hx] at HC
        have HXX := hide hx
        clear hx
        go_wp2_with fail
        go_still_tail 10, (by kernel_rfl)
        change wpList _ _ _ _ _ wr.drew
        go_wp2_with (go_at_call 48; refine HC.out.mono ?_; rintro e w5 ⟨rfl, h5⟩; have HB7 := hide (HBk.out.trans ((Below.refl _ _).drew.trans h5 |>.mono HBk.out.size)); clear h5)
        go_ret
        refine ⟨ret_bool ?_, HB.out.trans (HB7.out.mono HB.out.size)⟩
        rw [HR.out]
        symm
        refine decide_eq_false fun h => HXX.out ?_
        have h2 := HE.out.1 h
        rw [HD.out, HD'.out] at h2
        injection h2
    · go_wp2_with fail
      go_ret
      refine ⟨ret_bool ?_, HB.out.trans (HBk.out.mono HB.out.size)⟩
      rw [HR.out]
      symm
      refine decide_eq_true (HE.out.2 ?_)
      rw [List.drop_eq_nil_of_le (by have := HN.out; omega), List.drop_eq_nil_of_le (by have := HM.out; have := HL.out; omega)]

end Go.Proofs.YtnigfddanoaonaaGreat

set_option linter.unusedVariables false
set_option linter.unusedSimpArgs false
namespace Go.Proofs.YtnigfddanoaonaaGreat
open Go.RowKit

set_option maxRecDepth 100000 in
theorem rsink_any (w : World) : Calls Tryz.prog 56 #[] w fun e w' => ∃ cs, e = .returned (.agg cs.toArray) ∧ prcR (fun k => w.heap.size < k) w' cs sinkP ∧ Below w.heap.size w w' := by
  obtain ⟨W1, e1⟩ : ∃ W1, w.alloc (.cells #[.int .i64 0, .int .i64 0, .slice none 0 0] 89) = W1 := ⟨_, rfl⟩
  have bx : Box W1 w.heap.size [.int .i64 0, .int .i64 0, .slice none 0 0] 89 := by rw [← e1]; exact Box.new w [.int .i64 0, .int .i64 0, .slice none 0 0] 89
  have bb1 := bnew (Below.refl w.heap.size w) (.cells #[.int .i64 0, .int .i64 0, .slice none 0 0] 89)
  have hz1 : W1.heap.size = w.heap.size + 1 := by rw [← e1, alloc_size']
  rw [e1] at bb1
  obtain ⟨W2, e2⟩ : ∃ W2, W1.alloc (.cells #[.int .i64 0, .slice none 0 0] 99) = W2 := ⟨_, rfl⟩
  have hr2 : SliceR ruleR 2 (fun k => w.heap.size < k) W2 (some ⟨w.heap.size + 1, 0, none⟩) [⟨0, []⟩] := by
    rw [← e2, ← hz1]
    exact ruleF_lit W1 [.int .i64 0, .slice none 0 0] ⟨0, []⟩ ⟨none, 0, rfl, by unfold I64; simp, by simp, by simp, SliceR.nil _ _ _ _ _⟩ (by omega)
  have bb2 := bnew (Below.refl W1.heap.size W1) (.cells #[.int .i64 0, .slice none 0 0] 99)
  have hz2 : W2.heap.size = w.heap.size + 2 := by rw [← e2, alloc_size', hz1]
  rw [e2] at bb2
  obtain ⟨W3, e3⟩ : ∃ W3, W2.alloc (.cells #[.slice (some ⟨w.heap.size + 1, 0, none⟩) 1 1] 100) = W3 := ⟨_, rfl⟩
  have hr3 : SliceR (slcR ruleR 2) 1 (fun k => w.heap.size < k) W3 (some ⟨w.heap.size + 2, 0, none⟩) [[⟨0, []⟩]] := by
    rw [← e3, ← hz2]
    exact rowF_lit W2 [.slice (some ⟨w.heap.size + 1, 0, none⟩) 1 1] [⟨0, []⟩] ⟨_, 1, rfl, by simp, by simp, hr2⟩ (by omega)
  have bb3 := bnew (Below.refl W2.heap.size W2) (.cells #[.slice (some ⟨w.heap.size + 1, 0, none⟩) 1 1] 100)
  rw [e3] at bb3
  have bx3 := (bx.below bb2).below bb3
  have HB := hide ((bb1.trans (bb2.mono bb1.size)).trans (bb3.mono (by omega)))
  have HR := hide hr3
  have HX := hide bx3
  have x0 := bx3.cell 0
  have x1 := bx3.cell 1
  have x2 := bx3.cell 2
  have xf := bx3.free
  simp only [List.getElem?_cons_zero, List.getElem?_cons_succ] at x0 x1 x2
  clear hr2 hr3 bb1 bb2 bb3 bx bx3
  go_enter Tryz.func56, Tryz.ntmps56
  go_wp2_with fail
  have hfin := ((HX.out.put 0 (.int .i64 1)).put 1 (.int .i64 1)).put 2 (.slice (some ⟨w.heap.size + 2, 0, none⟩) 1 1)
  simp only [List.set_cons_zero, List.set_cons_succ] at hfin
  refine bodyPost_ret (results_cell_row rfl _ _ w.heap.size 89 _ (0, 0) _ rfl hfin Tryz.underlying89 rfl (by kernel_rfl)) rfl ?_
  refine ⟨_, rfl, ⟨some ⟨w.heap.size + 2, 0, none⟩, 1, rfl, by unfold I64 sinkP; simp, by unfold I64 sinkP; simp, by simp [sinkP], by simp [sinkP], ?_⟩, ((HB.out.setCell (Nat.le_refl _) _).setCell (Nat.le_refl _) _).setCell (Nat.le_refl _) _⟩
  refine HR.out.keep rowR_ok fun k hk _ => ?_
  rw [Below.heap_setCell _ _ _ k (by simp only; omega), Below.heap_setCell _ _ _ k (by simp only; omega), Below.heap_setCell _ _ _ k (by simp only; omega)]

set_option maxRecDepth 100000 in
set_option maxHeartbeats 1000000 in
theorem rwait_any (d : List Int) (q : Int) (od : Option Addr) (cd : Nat) (F : Foot) (w : World) (hs : SliceR intR 1 F w od d) (hc : d.length ≤ cd) (hc2 : d.length ≤ 1000000) :
    Calls Tryz.prog 55 #[.slice od d.length cd, .int .i64 q] w fun e w' => ∃ v, e = .returned v ∧ OwnS (slcR intR 1) 1 w.heap.size 23 (InF (fun k => w.heap.size ≤ k) v) w' v (waitD d q d.length) ∧ Below w.heap.size w w' := by
  go_enter Tryz.func55, Tryz.ntmps55
  go_wp2_with fail
  go_loopg [5, 6] d.length (fun gm tv iv wr => ∃ i : Nat, i ≤ d.length ∧ gm = d.length - i ∧ iv = .int .i64 i ∧ Hid (OwnS (slcR intR 1) 1 w.heap.size 23 (InF (fun k => w.heap.size ≤ k) tv) wr tv (waitD d q i)) ∧ Hid (Below w.heap.size w wr))
  case atStart => exact ⟨0, by omega, by omega, rfl, OwnS.nil _ _ _ _ _ _, Below.refl _ _⟩
  case round =>
    obtain ⟨i, hi, hgm, rfl, HO, HB⟩ := hrel
    have HGM := hide hgm
    clear hgm
    by_cases hlt : i < d.length
    · obtain ⟨x, hd, hget, hx64, b, off, rfl, _, c0⟩ := (hs.below intR_ok HB.out).int_at hlt
      have HG := hide hget
      have HL : Hid ((waitD d q i).length = i) := waitD_len d q i
      obtain ⟨y, hy⟩ : ∃ y, y = if (i : Int) = q then 0 else x := ⟨_, rfl⟩
      have HY : Hid (waitD d q (i + 1) = waitD d q i ++ [[y]]) := by
        show _ = _
        rw [waitD_succ, hy, getD_some hget]
      have hy64 : I64 y := by
        rw [hy]
        split
        · unfold I64; simp
        · exact hx64
      have HY64 := hide hy64
      have hbase : w.heap.size ≤ wr.heap.size := HB.out.size
      clear hd hget hx64 hy64
      by_cases hq : (i : Int) = q
      · have hye : y = 0 := by rw [hy, if_pos hq]
        subst hye
        have q1 : ((i : Int) == q) = true := by simp [hq]
        clear hy hq
        go_wp2_with (at_builtin; refine wpList_append_in rfl (.tmp 21) (.tmp 24) 24 rfl w.heap.size 23 _ 1 24 Tryz.underlying24 tabInfoN rfl (by decide) (slcR_ok intR_ok (by decide)) (fun k => w.heap.size ≤ k) u5 (waitD d q i) (by simp [Act.eval, Act.put]) ((HO.out.new (slcR_ok intR_ok (by decide)) _).new (slcR_ok intR_ok (by decide)) _) ⟨_, 0, none⟩ 1 [.slice (some ⟨wr.heap.size, 0, none⟩) 1 1] [0] (by simp [Act.eval, Act.put]) (World.news_of_block (heap_alloc_new _ _)) ((slcR_ok intR_ok (by decide)).keep (⟨some ⟨wr.heap.size, 0, none⟩, 1, rfl, by simp, by simp, intlF wr 0 HY64.out ⟨hbase, fun e => by have := (HO.out.block _ e.symm).2; omega⟩⟩ : slcR intR 1 (InF (fun k => w.heap.size ≤ k) u5) (wr.alloc (.cells #[.int .i64 0] 3)) [.slice (some ⟨wr.heap.size, 0, none⟩) 1 1] [0]) (SameOn.of_below (bnew (Below.refl _ _) _))) (by rw [HL.out]; omega) (by rw [HL.out]; unfold maxLen; omega) (by rw [alloc_size', alloc_size']; omega) (fun v' w8 ho hb8 hg8 hat => ?_); have HO8 := hide ho; have HB8 := hide hb8; clear ho hb8 hg8 hat)
        go_roundg (d.length - (i + 1))
        case measure => have := HGM.out; omega
        case rel =>
          have ho := HO8.out
          rw [← HY.out] at ho
          exact ⟨i + 1, by omega, rfl, by go_num, ho, ((HB.out.alloc hbase _).alloc (by rw [alloc_size']; omega) _).trans HB8.out⟩
      · have hye : y = x := by rw [hy, if_neg hq]
        subst hye
        have q1 : ((i : Int) == q) = false := by simp [hq]
        clear hy hq
        go_wp2_with (at_builtin; refine wpList_append_in rfl (.tmp 21) (.tmp 24) 24 rfl w.heap.size 23 _ 1 24 Tryz.underlying24 tabInfoN rfl (by decide) (slcR_ok intR_ok (by decide)) (fun k => w.heap.size ≤ k) u5 (waitD d q i) (by simp [Act.eval, Act.put]) ((HO.out.new (slcR_ok intR_ok (by decide)) _).new (slcR_ok intR_ok (by decide)) _) ⟨_, 0, none⟩ 1 [.slice (some ⟨wr.heap.size, 0, none⟩) 1 1] [y] (by simp [Act.eval, Act.put]) (World.news_of_block (heap_alloc_new _ _)) ((slcR_ok intR_ok (by decide)).keep (⟨some ⟨wr.heap.size, 0, none⟩, 1, rfl, by simp, by simp, intlF wr y HY64.out ⟨hbase, fun e => by have := (HO.out.block _ e.symm).2; omega⟩⟩ : slcR intR 1 (InF (fun k => w.heap.size ≤ k) u5) (wr.alloc (.cells #[.int .i64 y] 3)) [.slice (some ⟨wr.heap.size, 0, none⟩) 1 1] [y]) (SameOn.of_below (bnew (Below.refl _ _) _))) (by rw [HL.out]; omega) (by rw [HL.out]; unfold maxLen; omega) (by rw [alloc_size', alloc_size']; omega) (fun v' w8 ho hb8 hg8 hat => ?_); have HO8 := hide ho; have HB8 := hide hb8; clear ho hb8 hg8 hat)
        go_roundg (d.length - (i + 1))
        case measure => have := HGM.out; omega
        case rel =>
          have ho := HO8.out
          rw [← HY.out] at ho
          exact ⟨i + 1, by omega, rfl, by go_num, ho, ((HB.out.alloc hbase _).alloc (by rw [alloc_size']; omega) _).trans HB8.out⟩
    · have hie : i = d.length := by omega
      subst hie
      go_wp2_with fail
      go_ret
      exact ⟨_, rfl, HO.out, HB.out⟩

end Go.Proofs.YtnigfddanoaonaaGreat

set_option linter.unusedVariables false
set_option linter.unusedSimpArgs false
namespace Go.Proofs.YtnigfddanoaonaaGreat
open Go.RowKit

theorem nbr_len {n : Int} {es : List Edg} (h : gErr n es = 0) (v : Nat) : ∀ i, ((nbrU es v i).length : Int) = valU es v i
  | 0 => rfl
  | i + 1 => by
    rw [nbrU_succ, List.length_append, valU, ← nbr_len h v i]
    by_cases hiv : i = v
    · rw [if_pos hiv, if_pos (by omega)]
      simp
    · rw [if_neg hiv, if_neg (by omega), List.length_replicate, betw_symm es i v]
      have := betw_bound h (v : Int) (i : Int)
      push_cast
      omega
def AggPost (F : Foot) (w : World) (p : Prc) (e : Ending) (w' : World) : Prop := ∃ cs, e = .returned (.agg cs.toArray) ∧ prcR F w' cs p ∧ Below w.heap.size w w'

set_option maxRecDepth 100000 in
set_option maxHeartbeats 8000000 in
theorem rtoppler_any (n : Nat) (es : List Edg) (oe : Option Addr) (c : Nat) (F : Foot) (w : World) (hs : SliceR edgR 3 F w oe es) (hc : es.length ≤ c) (hc2 : es.length ≤ 1000) (hg : gErr n es = 0) (v : Nat) (hv : v < n) (h16 : (nbrU es v n).length ≤ 16) :
    Calls Tryz.prog 58 #[.agg #[.int .i64 n, .slice oe es.length c], .int .i64 v] w (AggPost (fun k => w.heap.size ≤ k) w (topP (nbrU es v n))) := by
  have h12 : 1 ≤ n ∧ n ≤ 12 := by have := (gErr_zero hg).1; omega
  obtain ⟨sent, hsent⟩ : ∃ sent, sent = nbrU es v n := ⟨_, rfl⟩
  obtain ⟨k, hk⟩ : ∃ k, k = sent.length := ⟨_, rfl⟩
  obtain ⟨W1, e1⟩ : ∃ W1, w.alloc (.cells #[.int .i64 n, .slice oe es.length c] 43) = W1 := ⟨_, rfl⟩
  have bx1 : Box W1 w.heap.size [.int .i64 n, .slice oe es.length c] 43 := by rw [← e1]; exact Box.new w [.int .i64 n, .slice oe es.length c] 43
  have bb1 := bnew (Below.refl w.heap.size w) (.cells #[.int .i64 n, .slice oe es.length c] 43)
  rw [e1] at bb1
  obtain ⟨W2, e2⟩ : ∃ W2, W1.alloc (.cells #[.int .i64 0, .int .i64 0, .slice none 0 0] 89) = W2 := ⟨_, rfl⟩
  have bx2 : Box W2 W1.heap.size [.int .i64 0, .int .i64 0, .slice none 0 0] 89 := by rw [← e2]; exact Box.new W1 [.int .i64 0, .int .i64 0, .slice none 0 0] 89
  have bb2 := bnew (Below.refl W1.heap.size W1) (.cells #[.int .i64 0, .int .i64 0, .slice none 0 0] 89)
  rw [e2] at bb2
  have hz1 : w.heap.size ≤ W1.heap.size := bb1.size
  have hz2 : W1.heap.size < W2.heap.size := by rw [← e2, alloc_size']; omega
  have bx1 := bx1.below bb2
  have hb2 := bb1.trans (bb2.mono hz1)
  have HX1 := hide bx1
  have HX2 := hide bx2
  have HB2 := hide hb2
  have HGE := hide hg
  have HLV := hide hsent
  have HK := hide hk
  have d0 := bx1.cell 0
  have d1 := bx1.cell 1
  simp only [List.getElem?_cons_zero, List.getElem?_cons_succ] at d0 d1
  have HBT : Hid (∀ (u : World) (i : Nat), i < n → Below w.heap.size w u → Calls Tryz.prog 99 #[.agg #[.int .i64 n, .slice oe es.length c], .int .i64 v, .int .i64 i] u fun e w' => e = .returned (.int .i64 (betw es v i)) ∧ Below u.heap.size u w') := fun u i hi hu =>
    betw_any n es oe c F u (hs.below edgR_ok hu) hc (by omega) v i
  have HVL : Hid (∀ (u : World), Below w.heap.size w u → Calls Tryz.prog 57 #[.agg #[.int .i64 n, .slice oe es.length c], .int .i64 v] u fun e w' => e = .returned (.int .i64 (k : Int)) ∧ Below u.heap.size u w') := fun u hu => by
    have h := val_any n h12.2 es oe c F u (hs.below edgR_ok hu) hc hc2 (fun x hx => ⟨by have := (gErr_zero hg).2.1 x hx; omega, by have := (gErr_zero hg).2.1 x hx; omega⟩) v
    rw [← nbr_len hg v n, ← hsent, ← hk] at h
    exact h
  rw [← hsent] at h16 ⊢
  rw [← hk] at h16
  clear bx1 bx2 bb1 bb2 hb2 hs hg hsent hk
  go_enter Tryz.func58, Tryz.ntmps58
  go_wp2_with fail
  refine (HVL.out W2 HB2.out).mono ?_
  rintro e w3 ⟨rfl, hb3⟩
  have HB3 := hide hb3
  go_wp2_with fail
  obtain ⟨W3, e3⟩ : ∃ W3, w3.alloc (.cells #[.int .i64 k, .int .i64 1, .slice none 0 0] 89) = W3 := ⟨_, rfl⟩
  have bx3 : Box W3 w3.heap.size [.int .i64 k, .int .i64 1, .slice none 0 0] 89 := by rw [← e3]; exact Box.new w3 [.int .i64 k, .int .i64 1, .slice none 0 0] 89
  have bb3 : Below w3.heap.size w3 W3 := by rw [← e3]; exact bnew (Below.refl _ _) _
  have hz3 : W2.heap.size ≤ w3.heap.size := hb3.size
  have hz4 : W3.heap.size = w3.heap.size + 1 := by rw [← e3, alloc_size']
  have HX3 := hide bx3
  have HBP := hide (hb3.trans (bb3.mono hz3))
  clear hb3 bx3 bb3
  rw [e3]
  obtain ⟨pb, hpb⟩ : ∃ pb, pb = w3.heap.size := ⟨_, rfl⟩
  rw [← hpb] at HX3 hz3 hz4
  rw [← hpb]
  clear hpb e3
  go_loopg [7] k (fun gm sv wx => ∃ (s : Nat) (vq : Value), s ≤ k ∧ gm = k - s ∧ sv = .int .i64 s ∧ Hid (OwnS (slcR ruleR 2) 1 (pb + 1) 100 (InF (fun q => W2.heap.size ≤ q ∧ q ≠ pb) vq) wx vq ((List.range s).map (topRow sent))) ∧ Hid (Box wx pb [.int .i64 k, .int .i64 1, vq] 89) ∧ Hid (Below pb W3 wx))
  case atStart => exact ⟨0, _, by omega, by omega, rfl, OwnS.nil _ _ _ _ _ _, HX3.out, Below.refl _ _⟩
  case round =>
    obtain ⟨s, vq, hs, hgm, rfl, HOq, HXq, HBq⟩ := hrel
    have HGM := hide hgm
    clear hgm
    obtain ⟨wq, hwq⟩ : ∃ wq : World, wq = wr := ⟨_, rfl⟩
    subst hwq
    have hpbl : pb < wq.heap.size := HXq.out.lt
    have HBr : Hid (Below W2.heap.size W2 wq) := HBP.out.trans (HBq.out.mono hz3)
    by_cases hls : s < k
    · obtain ⟨r, hr⟩ : ∃ r, r = (s + 1) % k := ⟨_, rfl⟩
      have hrem : ((s : Int) + 1).tmod (k : Int) = (r : Int) := by rw [hr, Int.tmod_eq_emod_of_nonneg (by omega)]; rfl
      have hr16 : r < k := by rw [hr]; exact Nat.mod_lt _ (by omega)
      have HR := hide hr
      go_wp2_with fail
      obtain ⟨W6, e6⟩ : ∃ W6, wq.alloc (.cells #[.int .i64 r, .slice none 0 0] 99) = W6 := ⟨_, rfl⟩
      have bx6 : Box W6 wq.heap.size [.int .i64 r, .slice none 0 0] 99 := by rw [← e6]; exact Box.new wq [.int .i64 r, .slice none 0 0] 99
      have bb6 : Below wq.heap.size wq W6 := by rw [← e6]; exact bnew (Below.refl _ _) _
      have HZ6 : Hid (W6.heap.size = wq.heap.size + 1) := by show _ = _; rw [← e6, alloc_size']
      have HBX6 := hide bx6
      have HBB6 := hide bb6
      obtain ⟨rb, hrb⟩ : ∃ rb, rb = wq.heap.size := ⟨_, rfl⟩
      clear hr bx6 bb6
      have hrem2 : ((s : Int) + 1) % (k : Int) = (r : Int) := by rw [HR.out]; rfl
      rw [hrem2, e6]
      clear hrem hrem2
      rw [← hrb] at HBX6 HZ6 HBB6 ⊢
      have HRB := hide hrb
      clear e6 hrb
      go_loopg [9] n (fun gm iv wy => ∃ (i : Nat) (vo : Value), i ≤ n ∧ gm = n - i ∧ iv = .int .i64 i ∧ (s + 1 ≠ k → i = 0) ∧ Hid (OwnS outR 2 (rb + 1) 102 Non wy vo (nbrU es v i)) ∧ Hid (Box wy rb [.int .i64 r, vo] 99) ∧ Hid (Below rb W6 wy))
      case atStart => exact ⟨0, _, by omega, by omega, rfl, fun _ => rfl, OwnS.nil _ _ _ _ _ _, HBX6.out, Below.refl _ _⟩
      case round =>
        obtain ⟨i, vo, hi, hgm, rfl, hi0, HO, HXo, HBo⟩ := hrel
        have HGM2 := hide hgm
        clear hgm
        have hrbl : rb < wr.heap.size := HXo.out.lt
        have HBy : Hid (Below W2.heap.size W2 wr) := by
          have h1 := HBB6.out
          have h2 := HRB.out
          exact HBr.out.trans ((h1.mono (by have := hz3; omega)).trans (HBo.out.mono (by omega)))
        have x1 := HX1.out.below HBy.out
        have y0 := x1.cell 0
        have y1 := x1.cell 1
        simp only [List.getElem?_cons_zero, List.getElem?_cons_succ] at y0 y1
        by_cases hgo : i < n ∧ s + 1 = k
        · obtain ⟨hlt, hl⟩ := hgo
          have q2 : ((s : Int) == (k : Int) - 1) = true := by simp; omega
          obtain ⟨m, hm, hmv⟩ : ∃ m : Nat, nbrU es v (i + 1) = nbrU es v i ++ List.replicate m ⟨i, 0⟩ ∧ ((i = v ∧ m = 0) ∨ (i ≠ v ∧ betw es v i = (m : Int))) := by
            by_cases hiv : i = v
            · exact ⟨0, by rw [nbrU_succ, if_pos hiv]; rfl, Or.inl ⟨hiv, rfl⟩⟩
            · exact ⟨(betw es v i).toNat, by rw [nbrU_succ, if_neg hiv], Or.inr ⟨hiv, by have := betw_bound HGE.out (v : Int) (i : Int); omega⟩⟩
          have HMV := hide hmv
          have HN := hide hm
          have hm50 : m ≤ 50 := by
            rcases hmv with h | h
            · omega
            · have := betw_bound HGE.out (v : Int) (i : Int); omega
          have HLN := hide (nbrU_len HGE.out v i)
          have HXo2 := HXo
          clear hm hmv
          go_wp2_with fail
          go_loopg [10] m (fun gm jv wz => ∃ (j : Nat) (vo : Value), j ≤ m ∧ gm = m - j ∧ jv = .int .i64 j ∧ Hid (OwnS outR 2 (rb + 1) 102 Non wz vo (nbrU es v i ++ List.replicate j ⟨i, 0⟩)) ∧ Hid (Box wz rb [.int .i64 r, vo] 99) ∧ Hid (Below rb W6 wz))
          case atStart => exact ⟨0, _, by omega, by omega, rfl, by show OwnS _ _ _ _ _ _ _ _; rw [List.replicate_zero, List.append_nil]; exact HO.out, HXo.out, HBo.out⟩
          case round =>
            obtain ⟨j, vj, hj, hgm, rfl, HOj, HXj, HBj⟩ := hrel
            have HGM3 := hide hgm
            clear hgm
            have hrbl3 : rb < wr.heap.size := HXj.out.lt
            have HBz : Hid (Below W2.heap.size W2 wr) := by
              have h1 := HBB6.out
              have h2 := HRB.out
              exact HBr.out.trans ((h1.mono (by have := hz3; omega)).trans (HBj.out.mono (by omega)))
            have HBzw : Hid (Below w.heap.size w wr) := HB2.out.trans (HBz.out.mono (by omega))
            have x1 := HX1.out.below HBz.out
            have y0 := x1.cell 0
            have y1 := x1.cell 1
            simp only [List.getElem?_cons_zero, List.getElem?_cons_succ] at y0 y1
            obtain ⟨oj, cj, hvj, hcj, _⟩ := HOj.out.slice outR_ok
            rw [List.length_append, List.length_replicate] at hvj
            subst hvj
            clear hcj
            rcases HMV.out with ⟨hiv, hm0⟩ | ⟨hiv, hbm⟩
            · have q3 : ((i : Int) != (v : Int)) = false := by simp; omega
              have HJ0 : Hid (j = m) := by show _ = _; omega
              clear hiv hm0
              go_wp2_with fail
              go_roundg (n - (i + 1))
              case measure => have := HGM2.out; omega
              case rel => exact ⟨i + 1, _, by omega, rfl, by go_num, fun h => absurd hl h, by rw [HN.out]; have := HOj.out; rw [HJ0.out] at this ⊢; exact this, HXj.out, HBj.out⟩
            · have q3 : ((i : Int) != (v : Int)) = true := by simp; omega
              have HBC := hide (HBT.out wr i hlt HBzw.out)
              rw [hbm] at HBC
              clear hiv hbm
              go_wp2_with fail
              refine HBC.out.mono ?_
              rintro e w7 ⟨rfl, hb7⟩
              have HB7 := hide hb7
              have hz7 : wr.heap.size ≤ w7.heap.size := hb7.size
              have HOn := hide (HOj.out.below outR_ok hb7)
              have HXn := hide (HXj.out.below hb7)
              have a1 := HXn.out.cell 1
              have a1b := (HXn.out.next (.cells #[.int .i64 i, .int .i64 0] 102)).cell 1
              have af := HXn.out.free
              simp only [List.getElem?_cons_zero, List.getElem?_cons_succ] at a1 a1b
              clear hb7
              by_cases hjm : j < m
              · have HLJ : Hid ((nbrU es v i ++ List.replicate j (⟨i, 0⟩ : Out)).length = (nbrU es v i).length + j) := by show _ = _; rw [List.length_append, List.length_replicate]
                have q4 : decide ((j : Int) < (m : Int)) = true := by simp; omega
                go_wp2_with (at_builtin; go_loud (refine wpList_append_rep rfl (.tmp 52) (.tmp 55) 97 rfl (rb + 1) 102 _ 2 16 Tryz.underlying97 outInfoN rfl (by decide) outR_ok Non All _ (nbrU es v i ++ List.replicate j ⟨i, 0⟩) (by simp [Act.eval, Act.put]) (HOn.out.new outR_ok _) (some ⟨w7.heap.size, 0, none⟩) 1 [⟨i, 0⟩] (by simp [Act.eval, Act.put]) (out_lit w7 i 0 (by unfold I64; omega) (by unfold I64; omega)) (fun _ _ h => h) (fun _ h => h.elim) (by rw [HLJ.out]; simp only [List.length_cons, List.length_nil]; have := HLN.out; omega) (by rw [HLJ.out]; simp only [List.length_cons, List.length_nil]; have := HLN.out; omega) (by rw [alloc_size']; omega) (fun v' w8 ho hb8 hg8 => ?_); have hbx8 := (HXn.out.next (.cells #[.int .i64 i, .int .i64 0] 102)).grown hg8 (fun e => by have := (HOn.out.block rb e.symm).1; omega); have m2 := hbx8.cell 1; have mf := hbx8.free 1; obtain ⟨o8, c8, hv8, _, _⟩ := ho.slice outR_ok; rw [List.length_append, HLJ.out] at hv8; subst hv8; simp only [List.getElem?_cons_zero, List.getElem?_cons_succ] at m2; have HOW8 := hide ho; have HX8 := hide hbx8; have HB8 := hide hb8; clear ho hb8 hg8 hbx8 a1 a1b))
                go_roundg (m - (j + 1))
                case measure => have := HGM3.out; omega
                case rel =>
                  have hput := HX8.out.put 1 (.slice o8 ((nbrU es v i).length + j + [(⟨i, 0⟩ : Out)].length) c8)
                  simp only [List.set_cons_zero, List.set_cons_succ] at hput
                  refine ⟨j + 1, _, by omega, rfl, by go_num, ?_, hput, ?_⟩
                  · show OwnS _ _ _ _ _ _ _ _
                    rw [List.replicate_succ', ← List.append_assoc]
                    exact HOW8.out.keep outR_ok (fun g hg => Below.heap_setCell _ _ _ g (by have := (HOW8.out.block g hg).1; simp only; omega)) (fun q hq _ => hq.elim)
                  · show Below _ _ _
                    refine Below.setCell (p := ⟨rb, 1, none⟩) ?_ (Nat.le_refl rb) _
                    exact (HBj.out.trans ((HB7.out.mono (by omega)).alloc (by omega) _)).trans (HB8.out.mono (by omega))
              · have q4 : decide ((j : Int) < (m : Int)) = false := by simp; omega
                have HJ0 : Hid (j = m) := by show _ = _; omega
                go_wp2_with fail
                go_roundg (n - (i + 1))
                case measure => have := HGM2.out; omega
                case rel => exact ⟨i + 1, _, by omega, rfl, by go_num, fun h => absurd hl h, by rw [HN.out]; have := HOn.out; rw [HJ0.out] at this ⊢; exact this, HXn.out, HBj.out.trans (HB7.out.mono (by omega))⟩
        · obtain ⟨xs, hxs⟩ : ∃ xs, xs = nbrU es v i := ⟨_, rfl⟩
          have hrow : topRow sent s = [⟨r, xs⟩] := by
            unfold topRow
            rw [← HK.out, ← HR.out]
            by_cases hl : s + 1 = k
            · have : i = n := by have : ¬ i < n := fun h => hgo ⟨h, hl⟩; omega
              rw [if_pos hl, hxs, this, ← HLV.out]
            · rw [if_neg hl, hxs, hi0 hl]
              rfl
          have HLN := hide (nbrU_len HGE.out v i)
          rw [← hxs] at HO HLN
          obtain ⟨ot, ct, hvo, hct, hst⟩ := HO.out.slice outR_ok
          subst hvo
          obtain ⟨oQ, cQ, hvq, hcQ, _⟩ := HOq.out.slice rowR_ok
          rw [List.length_map, List.length_range] at hvq hcQ
          have HOB := hide HOq.out.block
          have HT : Hid ((List.range (s + 1)).map (topRow sent) = (List.range s).map (topRow sent) ++ [topRow sent s]) := topRules_take sent s
          have HLS : Hid (((List.range s).map (topRow sent)).length = s) := by show _ = _; rw [List.length_map, List.length_range]
          have HROW := hide hrow
          subst hvq
          have hq : Below wq.heap.size wq wr := by
            rw [← HRB.out]
            exact HBB6.out.trans HBo.out
          have hrbq := HRB.out
          have hrl : ruleR (InF (fun q => W2.heap.size ≤ q ∧ q ≠ pb) (.slice oQ s cQ)) wr [.int .i64 r, .slice ot xs.length ct] ⟨r, xs⟩ := by
            refine ⟨ot, ct, rfl, by unfold I64; simp only; omega, hct, by have := HLN.out; simp only; omega, ?_⟩
            exact hst.wide outR_ok (by decide) fun q hq _ => by
              rcases hq with h | h
              · exact h.elim
              · exact ⟨⟨by omega, by omega⟩, fun e => by have := (HOB.out q e.symm).2; omega⟩
          have HREP : Hid (slcR ruleR 2 (InF (fun q => W2.heap.size ≤ q ∧ q ≠ pb) (.slice oQ s cQ)) (wr.alloc (.cells #[.int .i64 r, .slice ot xs.length ct] 99)) [.slice (some ⟨wr.heap.size, 0, none⟩) 1 1] (topRow sent s)) := by
            show slcR ruleR 2 _ _ _ _
            rw [HROW.out]
            have h9 := ruleF_lit wr [.int .i64 r, .slice ot xs.length ct] ⟨r, xs⟩ hrl ⟨⟨by omega, by omega⟩, fun e => by have := (HOB.out _ e.symm).2; omega⟩
            exact ⟨_, 1, rfl, by simp, by simp, h9⟩
          have HOW := hide (HOq.out.below rowR_ok hq)
          have HXQ := hide (HXq.out.below hq)
          have HQ := hide hq
          have k60 := HXo.out.cell 0
          have k61 := HXo.out.cell 1
          have kf := HXo.out.free
          have p2 := HXQ.out.cell 2
          have p2a := (HXQ.out.next (.cells #[.int .i64 r, .slice ot xs.length ct] 99)).cell 2
          have p2b := ((HXQ.out.next (.cells #[.int .i64 r, .slice ot xs.length ct] 99)).next (.cells #[.slice (some ⟨wr.heap.size, 0, none⟩) 1 1] 100)).cell 2
          simp only [List.getElem?_cons_zero, List.getElem?_cons_succ] at k60 k61 p2 p2a p2b
          obtain ⟨xl, hxl⟩ : ∃ n, n = xs.length := ⟨_, rfl⟩
          rw [← hxl] at HREP k61 p2a p2b
          have HHI := hide hi0
          have hpr : pb + 1 < wr.heap.size := by omega
          clear hrow hrl hq hxs hst hct hcQ hxl hi0 hrbq
          by_cases hl : s + 1 = k
          · have nlt : ¬ i < n := fun h => hgo ⟨h, hl⟩
            clear hgo hl
            go_wp2_with (at_builtin; go_loud (refine wpList_append_in rfl (.tmp 59) (.tmp 62) 87 rfl (pb + 1) 100 _ 1 24 Tryz.underlying87 rowInfoN rfl (by decide) rowR_ok (fun q => W2.heap.size ≤ q ∧ q ≠ pb) (.slice oQ s cQ) ((List.range s).map (topRow sent)) (by simp [Act.eval, Act.put]) ((HOW.out.new rowR_ok _).new rowR_ok _) ⟨_, 0, none⟩ 1 [.slice (some ⟨wr.heap.size, 0, none⟩) 1 1] (topRow sent s) (by simp [Act.eval, Act.put]) (World.news_of_block (heap_alloc_new _ _)) (rowR_ok.keep HREP.out (SameOn.of_below (bnew (Below.refl _ _) _))) (by rw [HLS.out]; omega) (by rw [HLS.out]; unfold maxLen; omega) (by rw [alloc_size', alloc_size']; omega) (fun v' w8 ho hb8 hg8 hat => ?_); have hbx8 := ((HXQ.out.next (.cells #[.int .i64 r, .slice ot xl ct] 99)).next (.cells #[.slice (some ⟨wr.heap.size, 0, none⟩) 1 1] 100)).grown hg8 (fun e => by have := (HOB.out pb e.symm).1; omega); have m2 := hbx8.cell 2; have mf := hbx8.free 2; obtain ⟨o8, c8, hv8, _, _⟩ := ho.slice rowR_ok; rw [List.length_append, HLS.out] at hv8; simp only [List.length_cons, List.length_nil, Nat.zero_add] at hv8; subst hv8; simp only [List.getElem?_cons_zero, List.getElem?_cons_succ] at m2; have HOW8 := hide ho; have HX8 := hide hbx8; have HB8 := hide hb8; clear ho hb8 hg8 hat hbx8 p2 p2a p2b))
            go_roundg (k - (s + 1))
            case measure => have := HGM.out; omega
            case rel =>
              have hput := HX8.out.put 2 (.slice o8 (s + 1) c8)
              simp only [List.set_cons_zero, List.set_cons_succ] at hput
              refine ⟨s + 1, .slice o8 (s + 1) c8, by omega, rfl, by go_num, ?_, hput, ?_⟩
              · rw [HT.out]
                exact HOW8.out.keep rowR_ok (fun g hg => Below.heap_setCell _ _ _ g (by have := (HOW8.out.block g hg).1; simp only; omega)) (fun q hq _ => Below.heap_setCell _ _ _ q hq.1.2)
              · show Below _ _ _
                refine Below.setCell (p := ⟨pb, 2, none⟩) ?_ (Nat.le_refl pb) _
                exact (HBq.out.trans ((HQ.out.mono (by omega)).alloc (by omega) _)).trans ((bnew (Below.refl _ _) _).mono (by rw [alloc_size']; omega) |>.trans (HB8.out.mono (by omega)))
          · have hlt : i < n := by have := HHI.out hl; omega
            have q2 : ((s : Int) == (k : Int) - 1) = false := by simp; omega
            clear hgo hl
            go_wp2_with (at_builtin; go_loud (refine wpList_append_in rfl (.tmp 59) (.tmp 62) 87 rfl (pb + 1) 100 _ 1 24 Tryz.underlying87 rowInfoN rfl (by decide) rowR_ok (fun q => W2.heap.size ≤ q ∧ q ≠ pb) (.slice oQ s cQ) ((List.range s).map (topRow sent)) (by simp [Act.eval, Act.put]) ((HOW.out.new rowR_ok _).new rowR_ok _) ⟨_, 0, none⟩ 1 [.slice (some ⟨wr.heap.size, 0, none⟩) 1 1] (topRow sent s) (by simp [Act.eval, Act.put]) (World.news_of_block (heap_alloc_new _ _)) (rowR_ok.keep HREP.out (SameOn.of_below (bnew (Below.refl _ _) _))) (by rw [HLS.out]; omega) (by rw [HLS.out]; unfold maxLen; omega) (by rw [alloc_size', alloc_size']; omega) (fun v' w8 ho hb8 hg8 hat => ?_); have hbx8 := ((HXQ.out.next (.cells #[.int .i64 r, .slice ot xl ct] 99)).next (.cells #[.slice (some ⟨wr.heap.size, 0, none⟩) 1 1] 100)).grown hg8 (fun e => by have := (HOB.out pb e.symm).1; omega); have m2 := hbx8.cell 2; have mf := hbx8.free 2; obtain ⟨o8, c8, hv8, _, _⟩ := ho.slice rowR_ok; rw [List.length_append, HLS.out] at hv8; simp only [List.length_cons, List.length_nil, Nat.zero_add] at hv8; subst hv8; simp only [List.getElem?_cons_zero, List.getElem?_cons_succ] at m2; have HOW8 := hide ho; have HX8 := hide hbx8; have HB8 := hide hb8; clear ho hb8 hg8 hat hbx8 p2 p2a p2b))
            go_roundg (k - (s + 1))
            case measure => have := HGM.out; omega
            case rel =>
              have hput := HX8.out.put 2 (.slice o8 (s + 1) c8)
              simp only [List.set_cons_zero, List.set_cons_succ] at hput
              refine ⟨s + 1, .slice o8 (s + 1) c8, by omega, rfl, by go_num, ?_, hput, ?_⟩
              · rw [HT.out]
                exact HOW8.out.keep rowR_ok (fun g hg => Below.heap_setCell _ _ _ g (by have := (HOW8.out.block g hg).1; simp only; omega)) (fun q hq _ => Below.heap_setCell _ _ _ q hq.1.2)
              · show Below _ _ _
                refine Below.setCell (p := ⟨pb, 2, none⟩) ?_ (Nat.le_refl pb) _
                exact (HBq.out.trans ((HQ.out.mono (by omega)).alloc (by omega) _)).trans ((bnew (Below.refl _ _) _).mono (by rw [alloc_size']; omega) |>.trans (HB8.out.mono (by omega)))
    · have hse : s = k := by omega
      subst hse
      obtain ⟨oQ, cQ, hvq, hcQ, hsQ⟩ := HOq.out.slice rowR_ok
      rw [List.length_map, List.length_range] at hvq hcQ
      subst hvq
      have x2 := HX2.out.under HBr.out (by omega)
      have r0 := x2.cell 0
      have r1 := x2.cell 1
      have r2 := x2.cell 2
      have rf := x2.free
      have p0 := HXq.out.cell 0
      have p1 := HXq.out.cell 1
      have p2 := HXq.out.cell 2
      simp only [List.getElem?_cons_zero, List.getElem?_cons_succ] at r0 r1 r2 p0 p1 p2
      have HX2w := hide x2
      have HSQ := hide hsQ
      have hbz : Below w.heap.size w wq := HB2.out.trans (HBr.out.mono (by omega))
      have HBZ := hide hbz
      clear x2 hsQ hbz
      go_wp2_with fail
      have hfin := ((HX2w.out.put 0 (.int .i64 s)).put 1 (.int .i64 1)).put 2 (.slice oQ s cQ)
      simp only [List.set_cons_zero, List.set_cons_succ] at hfin
      refine bodyPost_ret (results_cell_row rfl _ _ W1.heap.size 89 _ (0, 0) _ rfl hfin Tryz.underlying89 rfl (by kernel_rfl)) rfl ?_
      refine ⟨_, rfl, ⟨oQ, cQ, ?_, ?_, ?_, ?_, ?_, ?_⟩, ((HBZ.out.setCell hz1 _).setCell hz1 _).setCell hz1 _⟩
      · simp only [topP, List.length_map, List.length_range, ← HK.out]
      · unfold I64 topP; simp only; rw [← HK.out]; omega
      · unfold I64 topP; simp
      · simp only [topP, List.length_map, List.length_range, ← HK.out]; exact hcQ
      · simp only [topP, List.length_map, List.length_range, ← HK.out]; omega
      · show SliceR (slcR ruleR 2) 1 _ _ _ ((List.range sent.length).map (topRow sent))
        rw [← HK.out]
        refine (HSQ.out.keep rowR_ok fun q hq _ => ?_).wide rowR_ok (by decide) fun q hq _ => ?_
        · have hq2 : W1.heap.size < q := by
            rcases hq with h | h
            · have := h.1.1; omega
            · omega
          rw [Below.heap_setCell _ _ _ q (by simp only; omega), Below.heap_setCell _ _ _ q (by simp only; omega), Below.heap_setCell _ _ _ q (by simp only; omega)]
        · rcases hq with h | h
          · have := h.1.1; omega
          · omega

end Go.Proofs.YtnigfddanoaonaaGreat

set_option linter.unusedVariables false
set_option linter.unusedSimpArgs false
set_option linter.unnecessarySimpa false
namespace Go.Proofs.YtnigfddanoaonaaGreat
open Go.RowKit

theorem rIn_any (k : Int) (w : World) : Calls Tryz.prog 116 #[.int .i64 k] w fun e w' => e = .returned (.bool (inChips k)) ∧ w = w' := by
  by_cases h1 : -1048576 ≤ k
  · by_cases h2 : k ≤ 1048576
    · have HR : Hid (inChips k = true) := by show _ = _; simp [inChips, h1, h2]
      have q1 : decide ((-1048576 : Int) ≤ k) = true := by simp [h1]
      have q2 : decide (k ≤ (1048576 : Int)) = true := by simp [h2]
      clear h1 h2
      go_enter Tryz.func116, Tryz.ntmps116
      go_wp2_with fail
      go_ret
      exact ⟨ret_bool HR.out.symm, rfl⟩
    · have HR : Hid (inChips k = false) := by show _ = _; simp [inChips]; omega
      have q1 : decide ((-1048576 : Int) ≤ k) = true := by simp [h1]
      have q2 : decide (k ≤ (1048576 : Int)) = false := by simp; omega
      clear h1 h2
      go_enter Tryz.func116, Tryz.ntmps116
      go_wp2_with fail
      go_ret
      exact ⟨ret_bool HR.out.symm, rfl⟩
  · have HR : Hid (inChips k = false) := by show _ = _; simp [inChips]; omega
    have q1 : decide ((-1048576 : Int) ≤ k) = false := by simp; omega
    clear h1
    go_enter Tryz.func116, Tryz.ntmps116
    go_wp2_with fail
    go_ret
    exact ⟨ret_bool HR.out.symm, rfl⟩

set_option maxRecDepth 100000 in
set_option maxHeartbeats 2000000 in
theorem rdcheck_any (n : Int) (d : List Int) (od : Option Addr) (cd : Nat) (F : Foot) (w : World) (hd : SliceR intR 1 F w od d) (hc : d.length ≤ cd) (hc2 : d.length ≤ 9223372036854775807) :
    Calls Tryz.prog 82 #[.slice od d.length cd, .int .i64 n] w fun e w' => e = .returned (.int .i64 (dErr n d)) ∧ w = w' := by
  by_cases h1 : 1 ≤ n
  · have q1 : decide (n < (1 : Int)) = false := by simp; omega
    by_cases h3 : n ≤ 12
    · have q2 : decide ((12 : Int) < n) = false := by simp; omega
      by_cases h2 : (d.length : Int) = n
      · have HR : Hid (dErr n d = dScan d) := by show _ = _; unfold dErr; rw [if_pos ⟨h1, h3⟩, if_pos h2]
        have q3 : ((d.length : Int) != n) = false := by simp [h2]
        have hn := hide h2
        clear h1 h3 h2
        go_enter Tryz.func82, Tryz.ntmps82
        go_wp2_with fail
        go_loopw [5] (fun iv wr => ∃ k : Nat, k ≤ d.length ∧ iv = .int .i64 k ∧ Hid (dErr n d = dScan (d.drop k)) ∧ wr = w) (fun iv _ => d.length - (intOf iv).toNat)
        case atStart => exact ⟨0, by omega, rfl, HR, rfl⟩
        case round =>
          obtain ⟨k, hk, rfl, HS, rfl⟩ := hrel
          by_cases hlt : k < d.length
          · have q4 : decide ((k : Int) < n) = true := by have := hn.out; simp; omega
            obtain ⟨x, hdr, _, ix, b, off, hod, _, c0⟩ := hd.int_at hlt
            subst hod
            have HS2 : Hid (dErr n d = if inChips x = true then dScan (d.drop (k + 1)) else 2) := by show _ = _; rw [HS.out, hdr]; rfl
            clear hdr
            by_cases hx : inChips x = true
            · have HS3 : Hid (dErr n d = dScan (d.drop (k + 1))) := by show _ = _; rw [HS2.out, if_pos hx]
              have hI := rIn_any x wr
              rw [hx] at hI
              clear hx
              go_wp2_with fail
              refine hI.mono ?_
              rintro e w3 ⟨rfl, rfl⟩
              go_wp2_with fail
              go_roundw
              case rel => exact ⟨k + 1, by omega, by go_num, HS3, by first | rfl | trivial⟩
              case measure => simp [intOf]; omega
            · have HS3 : Hid (dErr n d = 2) := by show _ = _; rw [HS2.out, if_neg hx]
              have hx2 : inChips x = false := by simpa using hx
              have hI := rIn_any x wr
              rw [hx2] at hI
              clear hx hx2
              go_wp2_with fail
              refine hI.mono ?_
              rintro e w3 ⟨rfl, rfl⟩
              go_wp2_with fail
              go_ret
              exact ⟨ret_int HS3.out.symm, rfl⟩
          · have q4 : decide ((k : Int) < n) = false := by have := hn.out; simp; omega
            have hke : k = d.length := by omega
            have HS3 : Hid (dErr n d = 0) := by show _ = _; rw [HS.out, hke, List.drop_length]; rfl
            clear hke
            go_wp2_with fail
            go_ret
            exact ⟨ret_int HS3.out.symm, rfl⟩
      · have HR : Hid (dErr n d = 8) := by show _ = _; unfold dErr; rw [if_pos ⟨h1, h3⟩, if_neg h2]
        have q3 : ((d.length : Int) != n) = true := by simp [h2]
        clear h1 h3 h2
        go_enter Tryz.func82, Tryz.ntmps82
        go_wp2_with fail
        go_ret
        exact ⟨ret_int HR.out.symm, rfl⟩
    · have HR : Hid (dErr n d = 2) := if_neg (by omega)
      have q2 : decide ((12 : Int) < n) = true := by simp; omega
      clear h1 h3
      go_enter Tryz.func82, Tryz.ntmps82
      go_wp2_with fail
      go_ret
      exact ⟨ret_int HR.out.symm, rfl⟩
  · have HR : Hid (dErr n d = 2) := if_neg (by omega)
    have q1 : decide (n < (1 : Int)) = true := by simp; omega
    clear h1
    go_enter Tryz.func82, Tryz.ntmps82
    go_wp2_with fail
    go_ret
    exact ⟨ret_int HR.out.symm, rfl⟩

/-- The error of the chips alone. -/
def chE (n q : Int) (d : List Int) : Int := if dErr n d = 0 then gScan q 0 d else dErr n d

end Go.Proofs.YtnigfddanoaonaaGreat

set_option linter.unusedVariables false
set_option linter.unusedSimpArgs false
namespace Go.Proofs.YtnigfddanoaonaaGreat
open Go.RowKit

set_option maxRecDepth 100000 in
set_option maxHeartbeats 1000000 in
theorem rrooted_any (n : Int) (es : List Edg) (oe : Option Addr) (c : Nat) (F : Foot) (w : World) (hs : SliceR edgR 3 F w oe es) (hc : es.length ≤ c) (hc2 : es.length ≤ 9223372036854775807)
    (f : List Nat) (hU : Hid (gErr n es = 0 → Uf f (eL es))) (q : Int) : Calls Tryz.prog 81 #[.agg #[.int .i64 n, .slice oe es.length c], .int .i64 q] w (ErrPost w (rootE n es f q)) := by
  go_enter Tryz.func81, Tryz.ntmps81
  go_wp2_with fail
  have hb0 := box_refl w (.cells #[.int .i64 n, .slice oe es.length c] 43)
  refine (rgcheck_any n es oe c F _ (hs.below edgR_ok (below_box hb0)) hc hc2).mono ?_
  rintro e w2 ⟨rfl, hb2⟩
  have hx2 := hb2.mono (B' := w.heap.size + 1) (by simp)
  have d0 := box_cell hx2 0
  have d1 := box_cell hx2 1
  simp at d0 d1
  clear hb2 hb0
  have hs2 := hs.below edgR_ok (below_box hx2)
  by_cases hV : gErr n es = 0
  · have HP : Hid (partsN n es f = cnt f n.toNat) := if_pos hV
    have HJ : Hid (jErr n es f = if partsN n es f = 1 then 0 else 13) := if_pos hV
    have HV := hide hV
    have hn := (gErr_zero hV).1
    rw [hV]
    clear hV
    obtain ⟨N, rfl⟩ := Int.eq_ofNat_of_zero_le (show 0 ≤ n by omega)
    have HUF := hide (hU.out HV.out)
    go_wp2_with fail
    refine (rconn_any N es oe c F _ hs2 hc hc2 HV f HUF).mono ?_
    rintro e w3 ⟨rfl, hb3⟩
    have hx3 := hx2.trans (hb3.mono (box_lt hx2))
    have HX := hide (below_box hx3)
    have d0 := box_cell hx3 0
    have d1 := box_cell hx3 1
    simp at d0 d1
    clear hb3 hs2 hx2 hx3
    by_cases hp : cnt f N = 1
    · have hJ : jErr (N : Int) es f = 0 := by rw [HJ.out, HP.out]; exact if_pos hp
      have HR : Hid (rootE (N : Int) es f q = if vtxB (N : Int) q = true then 0 else 2) := if_pos hJ
      have hq : (cnt f N == 1) = true := by simpa using hp
      clear hp hJ
      go_wp2_with fail
      refine (rvertex_any (N : Int) q oe es.length c w3).mono ?_
      rintro e w4 ⟨rfl, hb4⟩
      have HX4 := hide (HX.out.trans (hb4.mono HX.out.size))
      clear hb4
      obtain ⟨b, hb⟩ : ∃ b, b = vtxB (N : Int) q := ⟨_, rfl⟩
      rw [← hb] at HR ⊢
      clear hb
      cases b
      · go_wp2_with fail
        go_ret
        exact ⟨ret_int HR.out.symm, HX4.out⟩
      · go_wp2_with fail
        go_ret
        exact ⟨ret_int HR.out.symm, HX4.out⟩
    · have hJ : jErr (N : Int) es f = 13 := by rw [HJ.out, HP.out]; exact if_neg hp
      have HR : Hid (rootE (N : Int) es f q = 13) := by show _ = _; unfold rootE; rw [hJ]; rfl
      have hq : (cnt f N == 1) = false := by simpa using hp
      clear hp hJ
      go_wp2_with fail
      go_ret
      exact ⟨ret_int HR.out.symm, HX.out⟩
  · have hJ : jErr n es f = gErr n es := if_neg hV
    have HR : Hid (rootE n es f q = gErr n es) := by show _ = _; unfold rootE; rw [hJ, if_neg hV]
    have hx := hide (below_box hx2)
    have hq : (gErr n es != 0) = true := by simpa using hV
    clear hJ hV
    go_wp2_with fail
    go_ret
    exact ⟨ret_int HR.out.symm, hx.out⟩

set_option maxRecDepth 100000 in
set_option maxHeartbeats 2000000 in
theorem rcfg_any (n : Int) (es : List Edg) (oe : Option Addr) (c : Nat) (F : Foot) (w : World) (hs : SliceR edgR 3 F w oe es) (hc : es.length ≤ c) (hc2 : es.length ≤ 9223372036854775807)
    (f : List Nat) (hU : Hid (gErr n es = 0 → Uf f (eL es))) (q : Int) (d : List Int) (od : Option Addr) (cd : Nat) (D : Foot) (hd : SliceR intR 1 D w od d) (hdc : d.length ≤ cd) (hdl : d.length ≤ 9223372036854775807) :
    Calls Tryz.prog 34 #[.agg #[.int .i64 n, .slice oe es.length c], .int .i64 q, .slice od d.length cd] w (ErrPost w (cfgE n es f q d)) := by
  go_enter Tryz.func34, Tryz.ntmps34
  go_wp2_with fail
  have hb0 := box_refl w (.cells #[.int .i64 n, .slice oe es.length c] 43)
  refine (rrooted_any n es oe c F _ (hs.below edgR_ok (below_box hb0)) hc hc2 f hU q).mono ?_
  rintro e w2 ⟨rfl, hb2⟩
  have hx2 := hb2.mono (B' := w.heap.size + 1) (by simp)
  have d0 := box_cell hx2 0
  simp at d0
  have HX := hide (below_box hx2)
  clear hb2 hb0 hx2
  by_cases hR : rootE n es f q = 0
  · have HG : Hid (cfgE n es f q d = if dErr n d = 0 then gScan q 0 d else dErr n d) := if_pos hR
    have hd2 := hd.below intR_ok HX.out
    rw [hR]
    clear hR
    go_wp2_with fail
    refine (rdcheck_any n d od cd D w2 hd2 hdc hdl).mono ?_
    rintro e w3 ⟨rfl, rfl⟩
    by_cases hE : dErr n d = 0
    · have HG2 : Hid (cfgE n es f q d = gScan q 0 d) := by show _ = _; rw [HG.out, if_pos hE]
      have hdn : (d.length : Int) = n := by
        unfold dErr at hE
        split at hE
        · split at hE
          · assumption
          · cases hE
        · cases hE
      rw [hE]
      clear hE hd2
      go_wp2_with fail
      go_loopw [9] (fun iv wr => ∃ k : Nat, k ≤ d.length ∧ iv = .int .i64 k ∧ Hid (cfgE n es f q d = gScan q k (d.drop k)) ∧ wr = w2) (fun iv _ => d.length - (intOf iv).toNat)
      case atStart => exact ⟨0, by omega, rfl, HG2, rfl⟩
      case round =>
        obtain ⟨k, hk, rfl, HS, rfl⟩ := hrel
        by_cases hlt : k < d.length
        · obtain ⟨x, hdr, _, ix, b, off, hod, _, c0⟩ := (hd.below intR_ok HX.out).int_at hlt
          subst hod
          have HS2 : Hid (cfgE n es f q d = if (k : Int) ≠ q ∧ x < 0 then 2 else gScan q (k + 1) (d.drop (k + 1))) := by show _ = _; rw [HS.out, hdr]; rfl
          have qn : decide ((k : Int) < n) = true := by simp; omega
          clear hdr
          by_cases hkq : (k : Int) = q
          · have q1 : ((k : Int) != q) = false := by simp [hkq]
            have HS3 : Hid (cfgE n es f q d = gScan q (k + 1) (d.drop (k + 1))) := by show _ = _; rw [HS2.out, if_neg (by intro h; exact h.1 hkq)]
            clear hkq
            go_wp2_with fail
            go_roundw
            case rel => exact ⟨k + 1, by omega, by go_num, HS3, by first | rfl | trivial⟩
            case measure => simp [intOf]; omega
          · have q1 : ((k : Int) != q) = true := by simp [hkq]
            by_cases hx : x < 0
            · have q2 : decide (x < 0) = true := by simp [hx]
              have HS3 : Hid (cfgE n es f q d = 2) := by show _ = _; rw [HS2.out, if_pos ⟨hkq, hx⟩]
              clear hkq hx
              go_wp2_with fail
              go_ret
              exact ⟨ret_int HS3.out.symm, HX.out⟩
            · have q2 : decide (x < 0) = false := by simp; omega
              have HS3 : Hid (cfgE n es f q d = gScan q (k + 1) (d.drop (k + 1))) := by show _ = _; rw [HS2.out, if_neg (by intro h; exact hx h.2)]
              clear hkq hx
              go_wp2_with fail
              go_roundw
              case rel => exact ⟨k + 1, by omega, by go_num, HS3, by first | rfl | trivial⟩
              case measure => simp [intOf]; omega
        · have hke : k = d.length := by omega
          have qn : decide ((k : Int) < n) = false := by simp; omega
          have HS3 : Hid (cfgE n es f q d = 0) := by show _ = _; rw [HS.out, hke, List.drop_length]; rfl
          clear hke
          go_wp2_with fail
          go_ret
          exact ⟨ret_int HS3.out.symm, HX.out⟩
    · have HG2 : Hid (cfgE n es f q d = dErr n d) := by show _ = _; rw [HG.out, if_neg hE]
      have hq : (dErr n d != 0) = true := by simpa using hE
      clear hE hd2
      go_wp2_with fail
      go_ret
      exact ⟨ret_int HG2.out.symm, HX.out⟩
  · have HG : Hid (cfgE n es f q d = rootE n es f q) := if_neg hR
    have hq : (rootE n es f q != 0) = true := by simpa using hR
    clear hR
    go_wp2_with fail
    go_ret
    exact ⟨ret_int HG.out.symm, HX.out⟩

end Go.Proofs.YtnigfddanoaonaaGreat

set_option linter.unusedVariables false
set_option linter.unusedSimpArgs false
namespace Go.Proofs.YtnigfddanoaonaaGreat
open Go.RowKit

set_option maxRecDepth 100000 in
set_option maxHeartbeats 20000000 in
theorem rsand_any (n : Int) (es : List Edg) (oe : Option Addr) (c : Nat) (F : Foot) (w : World) (hs : SliceR edgR 3 F w oe es) (hc : es.length ≤ c) (hc2 : es.length ≤ 1000)
    (f : List Nat) (hU : Hid (gErr n es = 0 → Uf f (eL es))) (q : Int) (d : List Int) (od : Option Addr) (cd : Nat) (D : Foot) (hd : SliceR intR 1 D w od d) (hdc : d.length ≤ cd) (hdl : d.length ≤ 1000000) :
    Calls Tryz.prog 20 #[.agg #[.int .i64 n, .slice oe es.length c], .int .i64 q, .slice od d.length cd] w (NwPost w (sandR n es f q d)) := by
  obtain ⟨W1, e1⟩ : ∃ W1, w.alloc (.cells #[.int .i64 n, .slice oe es.length c] 43) = W1 := ⟨_, rfl⟩
  have bx1 : Box W1 w.heap.size [.int .i64 n, .slice oe es.length c] 43 := by rw [← e1]; exact Box.new w [.int .i64 n, .slice oe es.length c] 43
  have bb1 := bnew (Below.refl w.heap.size w) (.cells #[.int .i64 n, .slice oe es.length c] 43)
  rw [e1] at bb1
  obtain ⟨W2, e2⟩ : ∃ W2, W1.alloc (.cells #[.slice none 0 0, .slice none 0 0, .slice none 0 0] 26) = W2 := ⟨_, rfl⟩
  have bx2 : Box W2 W1.heap.size [.slice none 0 0, .slice none 0 0, .slice none 0 0] 26 := by rw [← e2]; exact Box.new W1 [.slice none 0 0, .slice none 0 0, .slice none 0 0] 26
  have bb2 := bnew (Below.refl W1.heap.size W1) (.cells #[.slice none 0 0, .slice none 0 0, .slice none 0 0] 26)
  rw [e2] at bb2
  have hz1 : w.heap.size ≤ W1.heap.size := bb1.size
  have hz2 : W1.heap.size < W2.heap.size := by rw [← e2, alloc_size']; omega
  have bx1 := bx1.below bb2
  have hb2 := bb1.trans (bb2.mono hz1)
  have HX1 := hide bx1
  have HX2 := hide bx2
  have HB2 := hide hb2
  have d0 := bx1.cell 0
  have d1 := bx1.cell 1
  have r0 := bx2.cell 0
  have r1 := bx2.cell 1
  have r2 := bx2.cell 2
  have rf := bx2.free
  simp only [List.getElem?_cons_zero, List.getElem?_cons_succ] at d0 d1 r0 r1 r2
  have HCK := hide (rcfg_any n es oe c F W2 (hs.below edgR_ok hb2) hc (by omega) f hU q d od cd D (hd.below intR_ok hb2) hdc (by omega))
  by_cases h0 : cfgE n es f q d = 0
  · obtain ⟨hg, h12, hdn, hdb⟩ := gErr_j h0
    obtain ⟨N, rfl⟩ := Int.eq_ofNat_of_zero_le (show 0 ≤ n by omega)
    have hdN : d.length = N := by omega
    have HS : Hid (sandR N es f q d = match pilesU es N q N with
      | some l => (⟨l, List.replicate N 0, waitD d q N⟩, 0)
      | none => (nwk0, 12)) := by
      show _ = _
      unfold sandR
      rw [if_pos h0]
      rfl
    rw [h0] at HCK
    obtain ⟨Zs, hZs, hmk⟩ := mk_ints 23 3 Tryz.underlying23 iInfo N (by omega)
    have HD := hide hd
    have HSS := hide hs
    have HG := hide hg
    have HDN := hide hdN
    have HDB := hide hdb
    have HZS := hide hZs
    clear hZs h0 bx1 bx2 bb1 bb2 hb2 hd hs hg hdn hdN hdb
    go_enter Tryz.func20, Tryz.ntmps20
    go_upto_region 4 with (go_at_call 34; refine HCK.out.mono ?_; rintro e w3 ⟨rfl, hb3⟩; have x1 := HX1.out.below hb3; have HX13 := hide x1; have HX23 := hide (HX2.out.below hb3); have HB3 := hide (HB2.out.trans (hb3.mono (by omega))); have HW3 := hide hb3.size; have y0 := x1.cell 0; have y1 := x1.cell 1; simp only [List.getElem?_cons_zero, List.getElem?_cons_succ] at y0 y1; clear hb3 x1)
    have HD3 := hide (HD.out.below intR_ok HB3.out)
    have hl3 : w.heap.size < w3.heap.size := World.block_lt_of_cell? _ _ y0
    have hn3 : w.heap.size ≠ w3.heap.size := by omega
    have hn4 : w.heap.size ≠ w3.heap.size + 1 := by omega
    go_cut [9] (fun s9 wx => ∃ b, s9 = .pointer (some ⟨b, 0, none⟩) ∧ Hid (SandBox w3 wx b N d q))
    case first =>
     go_region_held3 (fun w' => w'.cell? ⟨w.heap.size, 0, none⟩ = some (.int .i64 N)) (first | with_reducible exact y0 | with_reducible exact cell_drew (cell_next (cell_next y0 _) _) | with_reducible exact cell_drew (cell_next y0 _) | with_reducible exact cell_drew y0 | with_reducible exact cell_next y0 _ | with_reducible exact cell_next (cell_next y0 _) _ | with_reducible exact cell_set3 y0 (by assumption) | with_reducible exact cell_set3 (cell_next y0 _) (by assumption) | with_reducible exact cell_set3 (cell_next (cell_next y0 _) _) (by assumption) | exact y0) (first
      | (go_at_call 55; refine (rwait_any d q od cd D _ (by first | with_reducible exact HD3.out.below intR_ok (bnew (bnew (Below.refl _ _) _) _).drew | with_reducible exact HD3.out.below intR_ok (bnew (Below.refl _ _) _).drew | with_reducible exact HD3.out.below intR_ok (Below.refl _ _).drew) hdc hdl).mono ?_; rintro e w4 ⟨v4, rfl, h4, hb4⟩; obtain ⟨ow, cw, hv4, hcw, hsw⟩ := h4.slice (slcR_ok intR_ok (by decide)); rw [waitD_len] at hv4 hcw; subst hv4; rw [HDN.out] at hcw hsw; have hsw2 := wait_foot hsw; simp only [drew_size, World.size_alloc] at hsw2; have hb34 : Below w3.heap.size w3 w4 := (by first | with_reducible exact (bnew (bnew (Below.refl _ _) _) _).drew.trans (hb4.mono (by simp only [drew_size, World.size_alloc]; omega)) | with_reducible exact (bnew (Below.refl _ _) _).drew.trans (hb4.mono (by simp only [drew_size, World.size_alloc]; omega)) | exact (Below.refl _ _).drew.trans hb4 | exact hb4); (first | (have hz : Box w4 (w3.heap.size + 1) [.slice none 0 0, .slice none 0 0, .slice none 0 0] 26 := (by have h := Box.new (w3.alloc (.cells Zs 3)) [.slice none 0 0, .slice none 0 0, .slice none 0 0] 26; rw [alloc_size'] at h; first | exact h.draw.below hb4 | exact h.below hb4); have z0 := hz.cell 0; have z1 := hz.cell 1; have z2 := hz.cell 2; have zf := hz.free; have hzn := hz.next (.cells Zs 3); have n0 := hzn.cell 0; have n1 := hzn.cell 1; have n2 := hzn.cell 2; have nf := hzn.free; simp only [List.getElem?_cons_zero, List.getElem?_cons_succ] at z0 z1 z2 n0 n1 n2) | (have hz : Box w4 (w3.heap.size) [.slice none 0 0, .slice none 0 0, .slice none 0 0] 26 := (by have h := Box.new w3 [.slice none 0 0, .slice none 0 0, .slice none 0 0] 26; first | exact (h.next (.cells Zs 3)).draw.below hb4 | exact (h.next (.cells Zs 3)).below hb4 | exact h.draw.below hb4 | exact h.below hb4); have z0 := hz.cell 0; have z1 := hz.cell 1; have z2 := hz.cell 2; have zf := hz.free; have hzn := hz.next (.cells Zs 3); have n0 := hzn.cell 0; have n1 := hzn.cell 1; have n2 := hzn.cell 2; have nf := hzn.free; simp only [List.getElem?_cons_zero, List.getElem?_cons_succ] at z0 z1 z2 n0 n1 n2) | skip); have hzm := (Box.new w4 [.slice none 0 0, .slice none 0 0, .slice none 0 0] 26).next (.cells Zs 3); have m0 := hzm.cell 0; have m1 := hzm.cell 1; have m2 := hzm.cell 2; have mf := hzm.free; simp only [List.getElem?_cons_zero, List.getElem?_cons_succ] at m0 m1 m2; have y0 := (by first | exact (hb4.cell (World.block_lt_of_cell? _ _ (cell_next (cell_next y0 _) _))).trans (cell_next (cell_next y0 _) _) | exact (hb4.cell (World.block_lt_of_cell? _ _ (cell_next y0 _))).trans (cell_next y0 _) | exact (hb4.cell (World.block_lt_of_cell? _ _ y0)).trans y0 : w4.cell? ⟨w.heap.size, 0, none⟩ = some (.int .i64 N)); have hl4 : w.heap.size ≠ w4.heap.size := Nat.ne_of_lt (World.block_lt_of_cell? _ _ y0)))
     · go_wp2_with fail
       go_meet
       refine ⟨_, rfl, ?_⟩
       show SandBox _ _ _ _ _ _
       rw [HDN.out]
       exact sbA (by omega) HZS.out ((Below.refl _ _).drew.trans hb4) hsw2 hcw
     · go_wp2_with fail
       go_meet
       refine ⟨_, rfl, ?_⟩
       show SandBox _ _ _ _ _ _
       rw [HDN.out]
       exact sbBC (b := w3.heap.size + 1) (rg := w3.heap.size) hz (((row_new HZS.out w3).new (.cells #[.slice none 0 0, .slice none 0 0, .slice none 0 0] 26)).draw.below hb4) hb34 (by omega) hsw2 hcw (by omega) (by omega) (Nat.le_refl _)
     · go_wp2_with fail
       go_meet
       refine ⟨_, rfl, ?_⟩
       show SandBox _ _ _ _ _ _
       rw [HDN.out]
       exact sbE (by omega) HZS.out hb34 hsw2 hcw
     · go_wp2_with fail
       go_meet
       refine ⟨_, rfl, ?_⟩
       show SandBox _ _ _ _ _ _
       rw [HDN.out]
       exact sbF (by omega) HZS.out hb34 hsw2 hcw
     · go_wp2_with fail
       go_meet
       have h := row_new HZS.out (w3.alloc (.cells #[.slice none 0 0, .slice none 0 0, .slice none 0 0] 26))
       rw [alloc_size'] at h
       refine ⟨_, rfl, ?_⟩
       show SandBox _ _ _ _ _ _
       rw [HDN.out]
       exact sbBC (b := w3.heap.size) (rg := w3.heap.size + 1) hz (h.draw.below hb4) hb34 (by omega) hsw2 hcw (by omega) (Nat.le_refl _) (by omega)
     · go_wp2_with fail
       go_meet
       refine ⟨_, rfl, ?_⟩
       show SandBox _ _ _ _ _ _
       rw [HDN.out]
       exact sbD HZS.out hz hb34 (by omega) hsw2 hcw (by omega) (Nat.le_refl _)
    case rest =>
      obtain ⟨b, rfl, HSB⟩ := hcut
      obtain ⟨rg, ow, cw, hbx, hrow, hsw, hcw, hb3, hrg3, hrgb, hbl⟩ := HSB.out
      have hbl0 := hbx.lt
      have HW := hide (And.intro hrow (And.intro hsw hcw))
      have HBL := hide hbl
      have HBXc := hide hbx
      have x1 := HX13.out.below hbl
      have c0 := x1.cell 0
      have c1 := x1.cell 1
      simp only [List.getElem?_cons_zero, List.getElem?_cons_succ] at c0 c1
      have hw3c : w3.heap.size ≤ wc.heap.size := hbl.size
      have hW1 : W1.heap.size < w3.heap.size := by have := HW3.out; omega
      clear hbx hrow hsw hcw hbl x1 HSB
      go_wp2_with fail
      clear c0 c1 y0 y1 r0 r1 r2 rf
      go_loopg [10] N (fun gm iv wx => ∃ (v : Nat) (vp : Value) (l : List Prc), v ≤ N ∧ gm = N - v ∧ iv = .int .i64 v ∧ Hid (pilesU es N q v = some l) ∧ Hid (OwnS prcR 3 wc.heap.size 89 (InF (fun k => wc.heap.size ≤ k) vp) wx vp l) ∧ Hid (Box wx b [vp, .slice (some ⟨rg, 0, none⟩) N N, .slice ow N cw] 26) ∧ Hid (Below w3.heap.size w3 wx) ∧ Hid (wc.heap.size ≤ wx.heap.size ∧ ∀ k, k < wc.heap.size → k ≠ b → wx.heap[k]? = wc.heap[k]?))
      case atStart => exact ⟨0, _, [], by omega, by omega, rfl, rfl, OwnS.nil _ _ _ _ _ _, HBXc.out, HBL.out, Nat.le_refl _, fun k _ _ => rfl⟩
      case round =>
        obtain ⟨v, vp, l, hv, hgm, rfl, HPU, HO, HBX, HBW, HOFF⟩ := hrel
        have HGM := hide hgm
        have HLL : Hid (l.length = v) := pilesU_len HPU.out
        clear hgm
        have x1 := HX13.out.below HBW.out
        have y0 := x1.cell 0
        have y1 := x1.cell 1
        simp only [List.getElem?_cons_zero, List.getElem?_cons_succ] at y0 y1
        by_cases hlt : v < N
        · obtain ⟨oV, cV, hvp, hcV, _⟩ := HO.out.slice prcR_ok
          rw [HLL.out] at hvp hcV
          subst hvp
          have HOB := hide HO.out.block
          have hwr : wc.heap.size ≤ wr.heap.size := HOFF.out.1
          have hbw0 : Below w.heap.size w wr := HB3.out.trans (HBW.out.mono (by omega))
          have HBW0 := hide hbw0
          clear x1 hbw0
          by_cases hvq : (v : Int) = q
          · have q1 : ((v : Int) == q) = true := by simp [hvq]
            have HN : Hid (pilesU es N q (v + 1) = some (l ++ [sinkP])) := by
              show _ = _
              unfold pilesU
              rw [HPU.out, Option.bind_some, if_pos hvq]
            have HSK := hide (rsink_any wr.drew)
            have b0 := HBX.out.cell 0
            have b0d := HBX.out.draw.cell 0
            simp only [List.getElem?_cons_zero] at b0 b0d
            clear hvq
            go_wp2_with fail
            go_region_law (first
              | (refine step_append_in rfl (.tmp 36) (.tmp 38) 22 rfl wc.heap.size 89 _ 3 40 Tryz.underlying22 prcInfoN rfl (by decide) prcR_ok (fun k => wc.heap.size ≤ k) (.slice oV v cV) l (by simp [Act.eval, Act.put]) (HOW.out.new prcR_ok _) ⟨_, 0, none⟩ 1 [.int .i64 1, .int .i64 1, .slice oT 1 cT] sinkP (by simp [Act.eval, Act.put]) (World.news_of_block (heap_alloc_new _ _)) (prcR_ok.keep HREP.out (SameOn.of_below (bnew (Below.refl _ _) _))) (by rw [HLL.out]; omega) (by rw [HLL.out]; unfold maxLen; omega) (by rw [alloc_size']; have := HWS.out; omega) ?_; intro v' w8 ho hb8 hg8 hat; have hbx8 := (HBXW.out.next (.cells #[.int .i64 1, .int .i64 1, .slice oT 1 cT] 89)).grown hg8 (fun e => by have := (HOB.out b e.symm).1; omega); have m0 := hbx8.cell 0; have mf := hbx8.free 0; obtain ⟨o8, c8, hv8, _, _⟩ := ho.slice prcR_ok; rw [List.length_append, HLL.out] at hv8; simp only [List.length_cons, List.length_nil, Nat.zero_add] at hv8; subst hv8; simp only [List.getElem?_cons_zero] at m0; have HOW8 := hide ho; have HX8 := hide hbx8; have HB8 := hide hb8; have HG8 := hide hg8; clear ho hb8 hg8 hat hbx8)
              | (go_simp; go_at_call 56; refine HSK.out.mono ?_; rintro e w4 ⟨cs, rfl, ⟨oT, cT, hcs, iS, iL, hS1, hS2, hS3⟩, hb4⟩; have hcs' : cs = [.int .i64 1, .int .i64 1, .slice oT 1 cT] := hcs; subst hcs'; have bb5 : Below wr.heap.size wr w4 := (Below.refl _ _).drew.trans hb4; have HREP : Hid (prcR (InF (fun k => wc.heap.size ≤ k) (.slice oV v cV)) w4 [.int .i64 1, .int .i64 1, .slice oT 1 cT] sinkP) := (⟨oT, cT, rfl, iS, iL, hS1, hS2, hS3.wide rowR_ok (by decide) fun k hk _ => ⟨by simp only [drew_size] at hk; omega, fun e => by have := (HOB.out k e.symm).2; simp only [drew_size] at hk; omega⟩⟩ : prcR _ _ _ _); have HOW := hide (HO.out.below prcR_ok bb5); have HBXW := hide (HBX.out.below bb5); have HWS : Hid (wc.heap.size ≤ w4.heap.size) := Nat.le_trans hwr bb5.size; have HBWW : Hid (Below w3.heap.size w3 w4) := HBW.out.trans (bb5.mono (by omega)); have HOFW : Hid (∀ k, k < wc.heap.size → k ≠ b → w4.heap[k]? = wc.heap[k]?) := (fun k hk hkb => (bb5.block k (by omega)).trans (HOFF.out.2 k hk hkb)); have b0 := HBXW.out.cell 0; have b0n := (HBXW.out.next (.cells #[.int .i64 1, .int .i64 1, .slice oT 1 cT] 89)).cell 0; simp only [List.getElem?_cons_zero, List.getElem?_cons_succ] at b0 b0n; clear bb5 hb4 hS1 hS2 hS3 hcs iS iL))
            all_goals
              go_wp2_with fail
              go_roundg (N - (v + 1))
              case measure => have := HGM.out; omega
              case rel =>
                have hput := HX8.out.put 0 (.slice o8 (v + 1) c8)
                simp only [List.set_cons_zero] at hput
                have hwsz := HWS.out
                have hw8 : wc.heap.size ≤ w8.heap.size := by
                  have := HB8.out.size
                  rw [alloc_size'] at this
                  omega
                refine ⟨v + 1, .slice o8 (v + 1) c8, l ++ [sinkP], by omega, rfl, by go_num, HN.out, ?_, hput, ?_, ?_, ?_⟩
                · exact HOW8.out.keep prcR_ok (fun g hg => Below.heap_setCell _ _ _ g (by have := (HOW8.out.block g hg).1; simp only; omega)) (fun k hk _ => Below.heap_setCell _ _ _ k (by have := hk.1; simp only; omega))
                · show Below _ _ _
                  refine Below.setCell (p := ⟨b, 0, none⟩) ?_ hb3 _
                  exact (HBWW.out.alloc (by omega) _).trans (HB8.out.mono hw3c)
                · rw [World.size_setCell]; exact hw8
                · intro k hk hkb
                  rw [Below.heap_setCell _ _ _ k (by simp only; omega), HB8.out.block k hk, Below.heap_alloc _ _ k (by omega)]
                  exact HOFW.out k hk hkb
          · have q1 : ((v : Int) == q) = false := by simp [hvq]
            obtain ⟨sent, hsent⟩ : ∃ sent, sent = nbrU es v N := ⟨_, rfl⟩
            have HSE := hide hsent
            obtain ⟨k, hk⟩ : ∃ k, k = sent.length := ⟨_, rfl⟩
            have HK := hide hk
            have HVL : Hid (Calls Tryz.prog 57 #[.agg #[.int .i64 N, .slice oe es.length c], .int .i64 v] wr fun e w' => e = .returned (.int .i64 (k : Int)) ∧ Below wr.heap.size wr w') := by
              have h := val_any N (by omega) es oe c F wr (HSS.out.below edgR_ok HBW0.out) hc hc2 (fun x hx => ⟨by have := (gErr_zero HG.out).2.1 x hx; omega, by have := (gErr_zero HG.out).2.1 x hx; omega⟩) v
              rw [← nbr_len HG.out v N, ← hsent, ← hk] at h
              exact h
            have hk0 : (0 : Int) ≤ (k : Int) := by omega
            have HNQ := hide hvq
            clear hvq hsent hk
            go_wp2_with fail
            refine HVL.out.mono ?_
            rintro e wv ⟨rfl, hbv⟩
            have HBV := hide hbv
            have HPv := hide (HO.out.below prcR_ok hbv)
            have HBXv := hide (HBX.out.below hbv)
            have HBWv := hide (HBW.out.trans (hbv.mono (by omega)))
            have HOFv : Hid (wc.heap.size ≤ wv.heap.size ∧ ∀ k, k < wc.heap.size → k ≠ b → wv.heap[k]? = wc.heap[k]?) := ⟨Nat.le_trans hwr hbv.size, fun k hk hkb => (hbv.block k (by omega)).trans (HOFF.out.2 k hk hkb)⟩
            have hlo : ∀ g, (Value.slice oV v cV).ownBlock = some g → wc.heap.size ≤ g ∧ g < wv.heap.size := fun g hg => by have := HOB.out g hg; have := hbv.size; omega
            have HLO := hide hlo
            clear HO HBX HBW HOFF HOB hwr hbv HVL hlo
            have hwv : wc.heap.size ≤ wv.heap.size := HOFv.out.1
            have hbw1 : Below w.heap.size w wv := HB3.out.trans (HBWv.out.mono (by omega))
            have HBW1 := hide hbw1
            clear hbw1
            by_cases h16 : k ≤ 16
            · have q16 : decide ((16 : Int) < (k : Int)) = false := by simp; omega
              have HN : Hid (pilesU es N q (v + 1) = some (l ++ [topP sent])) := by
                show _ = _
                unfold pilesU
                rw [HPU.out, Option.bind_some, if_neg HNQ.out, ← HSE.out, if_pos (by rw [← HK.out]; exact h16)]
              have HTOP := hide (rtoppler_any N es oe c F wv.drew (HSS.out.below edgR_ok (HBW1.out.trans ((Below.refl _ _).drew.mono (by have := HBW1.out.size; omega)))) hc hc2 HG.out v hlt (by rw [← HSE.out, ← HK.out]; exact h16))
              have hx1v := HX13.out.below HBWv.out
              have g0 := hx1v.cell 0
              have g1 := hx1v.cell 1
              have g0d := hx1v.draw.cell 0
              have g1d := hx1v.draw.cell 1
              have b0 := HBXv.out.cell 0
              have b0d := HBXv.out.draw.cell 0
              simp only [List.getElem?_cons_zero, List.getElem?_cons_succ] at b0 b0d g0 g1 g0d g1d
              clear hx1v y0 y1
              go_wp2_with fail
              go_region_law (first
                | (refine step_append_in rfl (.tmp 47) (.tmp 51) 22 rfl wc.heap.size 89 _ 3 40 Tryz.underlying22 prcInfoN rfl (by decide) prcR_ok (fun k => wc.heap.size ≤ k) (.slice oV v cV) l (by simp [Act.eval, Act.put]) (HOW.out.new prcR_ok _) ⟨_, 0, none⟩ 1 [.int .i64 k, .int .i64 1, .slice oT k cT] (topP sent) (by simp [Act.eval, Act.put]) (World.news_of_block (heap_alloc_new _ _)) (prcR_ok.keep HREP.out (SameOn.of_below (bnew (Below.refl _ _) _))) (by rw [HLL.out]; omega) (by rw [HLL.out]; unfold maxLen; omega) (by rw [alloc_size']; have := HWS.out; omega) ?_; intro v' w8 ho hb8 hg8 hat; have hbx8 := (HBXW.out.next (.cells #[.int .i64 k, .int .i64 1, .slice oT k cT] 89)).grown hg8 (fun e => by have := (HLO.out b e.symm).1; omega); have m0 := hbx8.cell 0; have mf := hbx8.free 0; obtain ⟨o8, c8, hv8, _, _⟩ := ho.slice prcR_ok; rw [List.length_append, HLL.out] at hv8; simp only [List.length_cons, List.length_nil, Nat.zero_add] at hv8; subst hv8; simp only [List.getElem?_cons_zero] at m0; have HOW8 := hide ho; have HX8 := hide hbx8; have HB8 := hide hb8; have HG8 := hide hg8; clear ho hb8 hg8 hat hbx8)
                | (go_simp; go_at_call 58; refine HTOP.out.mono ?_; rintro e w4 ⟨cs, rfl, hT, hb4⟩; rw [← HSE.out] at hT; obtain ⟨oT, cT, hcs, iS, iL, hS1, hS2, hS3⟩ := hT; have hcs' : cs = [.int .i64 k, .int .i64 1, .slice oT k cT] := (by rw [hcs]; simp [topP, HK.out]); subst hcs'; have bb5 : Below wv.heap.size wv w4 := (Below.refl _ _).drew.trans hb4; have HREP : Hid (prcR (InF (fun k => wc.heap.size ≤ k) (.slice oV v cV)) w4 [.int .i64 k, .int .i64 1, .slice oT k cT] (topP sent)) := (⟨oT, cT, by rw [← hcs], iS, iL, hS1, hS2, hS3.wide rowR_ok (by decide) fun k hk _ => ⟨by simp only [drew_size] at hk; omega, fun e => by have := (HLO.out k e.symm).2; simp only [drew_size] at hk; omega⟩⟩ : prcR _ _ _ _); have HOW := hide (HPv.out.below prcR_ok bb5); have HBXW := hide (HBXv.out.below bb5); have HWS : Hid (wc.heap.size ≤ w4.heap.size) := Nat.le_trans hwv bb5.size; have HBWW : Hid (Below w3.heap.size w3 w4) := HBWv.out.trans (bb5.mono (by omega)); have HOFW : Hid (∀ k, k < wc.heap.size → k ≠ b → w4.heap[k]? = wc.heap[k]?) := (fun k hk hkb => (bb5.block k (by omega)).trans (HOFv.out.2 k hk hkb)); have b0 := HBXW.out.cell 0; have b0n := (HBXW.out.next (.cells #[.int .i64 k, .int .i64 1, .slice oT k cT] 89)).cell 0; simp only [List.getElem?_cons_zero, List.getElem?_cons_succ] at b0 b0n; clear bb5 hb4 hS1 hS2 hS3 hcs iS iL))
              all_goals
                go_wp2_with fail
                go_roundg (N - (v + 1))
                case measure => have := HGM.out; omega
                case rel =>
                  have hput := HX8.out.put 0 (.slice o8 (v + 1) c8)
                  simp only [List.set_cons_zero] at hput
                  have hwsz := HWS.out
                  have hw8 : wc.heap.size ≤ w8.heap.size := by
                    have := HB8.out.size
                    rw [alloc_size'] at this
                    omega
                  refine ⟨v + 1, .slice o8 (v + 1) c8, l ++ [(topP sent)], by omega, rfl, by go_num, HN.out, ?_, hput, ?_, ?_, ?_⟩
                  · exact HOW8.out.keep prcR_ok (fun g hg => Below.heap_setCell _ _ _ g (by have := (HOW8.out.block g hg).1; simp only; omega)) (fun k hk _ => Below.heap_setCell _ _ _ k (by have := hk.1; simp only; omega))
                  · show Below _ _ _
                    refine Below.setCell (p := ⟨b, 0, none⟩) ?_ hb3 _
                    exact (HBWW.out.alloc (by omega) _).trans (HB8.out.mono hw3c)
                  · rw [World.size_setCell]; exact hw8
                  · intro k hk hkb
                    rw [Below.heap_setCell _ _ _ k (by simp only; omega), HB8.out.block k hk, Below.heap_alloc _ _ k (by omega)]
                    exact HOFW.out k hk hkb
            · have q16 : decide ((16 : Int) < (k : Int)) = true := by simp; omega
              have HN : Hid (pilesU es N q (v + 1) = none) := by
                show _ = _
                unfold pilesU
                rw [HPU.out, Option.bind_some, if_neg HNQ.out, ← HSE.out, if_neg (by rw [← HK.out]; exact h16)]
              have hx2 := HX23.out.below HBWv.out
              have r0 := hx2.cell 0
              have r1 := hx2.cell 1
              have r2 := hx2.cell 2
              have rf := hx2.free
              simp only [List.getElem?_cons_zero, List.getElem?_cons_succ] at r0 r1 r2
              have HX2w := hide hx2
              clear hx2
              go_wp2_with fail
              have hfin := ((HX2w.out.put 0 (.slice none 0 0)).put 1 (.slice none 0 0)).put 2 (.slice none 0 0)
              simp only [List.set_cons_zero, List.set_cons_succ] at hfin
              refine bodyPost_ret (results_cell_tmp_row rfl _ _ W1.heap.size 26 _ (0, 0) _ rfl hfin Tryz.underlying26 rfl (by kernel_rfl)) rfl ?_
              rw [HS.out, pilesU_none HN.out N (by omega)]
              have hbz : Below w.heap.size w wv := HBW1.out
              exact ⟨_, rfl, ⟨none, 0, none, 0, none, 0, rfl, by simp [nwk0], by simp [nwk0], by simp [nwk0], SliceR.nil _ _ _ _ _, SliceR.nil _ _ _ _ _, SliceR.nil _ _ _ _ _⟩, ((hbz.setCell hz1 _).setCell hz1 _).setCell hz1 _⟩
        · have hve : v = N := by omega
          subst hve
          obtain ⟨oV, cV, hvp, hcV, hsV⟩ := HO.out.slice prcR_ok
          rw [HLL.out] at hvp hcV
          subst hvp
          have HSV := hide hsV
          have b0 := HBX.out.cell 0
          have b1 := HBX.out.cell 1
          have b2 := HBX.out.cell 2
          have hx2 := HX23.out.below HBW.out
          have r0 := hx2.cell 0
          have r1 := hx2.cell 1
          have r2 := hx2.cell 2
          have rf := hx2.free
          simp only [List.getElem?_cons_zero, List.getElem?_cons_succ] at b0 b1 b2 r0 r1 r2
          have HX2w := hide hx2
          clear x1 hx2 hsV
          go_wp2_with fail
          have hfin := ((HX2w.out.put 0 (.slice oV v cV)).put 1 (.slice (some ⟨rg, 0, none⟩) v v)).put 2 (.slice ow v cw)
          simp only [List.set_cons_zero, List.set_cons_succ] at hfin
          refine bodyPost_ret (results_cell_tmp_row rfl _ _ W1.heap.size 26 _ (0, 0) _ rfl hfin Tryz.underlying26 rfl (by kernel_rfl)) rfl ?_
          rw [HS.out, HPU.out]
          obtain ⟨hrow, hsw, hcw⟩ := HW.out
          obtain ⟨hoff1, hoff2⟩ := HOFF.out
          have hne : ∀ k, w3.heap.size ≤ k → (((wr.setCell ⟨W1.heap.size, 0, none⟩ (.slice oV v cV)).setCell ⟨W1.heap.size, 1, none⟩ (.slice (some ⟨rg, 0, none⟩) v v)).setCell ⟨W1.heap.size, 2, none⟩ (.slice ow v cw)).heap[k]? = wr.heap[k]? := fun k hk => set3_heap (by omega)
          refine ⟨_, rfl, ⟨oV, cV, some ⟨rg, 0, none⟩, v, ow, cw, ?_, ?_, ?_, ?_, ?_, ?_, ?_⟩, ?_⟩
          · simp only [HLL.out, List.length_replicate, waitD_len]
          · simp only [HLL.out]; exact hcV
          · simp
          · simp only [waitD_len]; exact hcw
          · exact (HSV.out.keep prcR_ok fun k hk _ => hne k (by rcases hk with h | h; exact Nat.le_trans hw3c h.1; exact Nat.le_trans hw3c h)).all prcR_ok (by decide)
          · have h1 := (hrow.keep (hoff2 rg hrow.lt hrgb)).keep (hne rg hrg3)
            exact h1.ints (fun k hk => by have := List.eq_of_mem_replicate hk; subst this; unfold I64; simp) trivial
          · exact ((hsw.keep (slcR_ok intR_ok (by decide)) fun k hk hkl => (hne k hk.1).trans (hoff2 k hkl hk.2)).all (slcR_ok intR_ok (by decide)) (by decide))
          · have hbz : Below w.heap.size w wr := HB3.out.trans (HBW.out.mono (by omega))
            exact ((hbz.setCell hz1 _).setCell hz1 _).setCell hz1 _
  · have HS : Hid (sandR n es f q d = (nwk0, cfgE n es f q d)) := if_neg h0
    have hq0 : (cfgE n es f q d != 0) = true := by simpa using h0
    clear h0 bx1 bx2 bb1 bb2 hb2 hd hs
    go_enter Tryz.func20, Tryz.ntmps20
    go_wp2_with (go_at_call 34; refine HCK.out.mono ?_; rintro e w3 ⟨rfl, hb3⟩; have hx2 := HX2.out.below hb3; have HX2w := hide hx2; have HB3 := hide (HB2.out.trans (hb3.mono (by omega))); have r0 := hx2.cell 0; have r1 := hx2.cell 1; have r2 := hx2.cell 2; have rf := hx2.free; simp only [List.getElem?_cons_zero, List.getElem?_cons_succ] at r0 r1 r2; clear hb3 hx2)
    have hfin := ((HX2w.out.put 0 (.slice none 0 0)).put 1 (.slice none 0 0)).put 2 (.slice none 0 0)
    simp only [List.set_cons_zero, List.set_cons_succ] at hfin
    refine bodyPost_ret (results_cell_tmp_row rfl _ _ W1.heap.size 26 _ (0, 0) _ rfl hfin Tryz.underlying26 rfl (by kernel_rfl)) rfl ?_
    rw [HS.out]
    exact ⟨_, rfl, ⟨none, 0, none, 0, none, 0, rfl, by simp [nwk0], by simp [nwk0], by simp [nwk0], SliceR.nil _ _ _ _ _, SliceR.nil _ _ _ _ _, SliceR.nil _ _ _ _ _⟩, ((HB3.out.setCell hz1 _).setCell hz1 _).setCell hz1 _⟩

end Go.Proofs.YtnigfddanoaonaaGreat

set_option linter.unusedVariables false
set_option linter.unusedSimpArgs false
set_option linter.unnecessarySimpa false
namespace Go.Proofs.YtnigfddanoaonaaGreat
open Go.RowKit

theorem few17_any (d : List Int) (od : Option Addr) (cd : Nat) (w : World) : Calls Tryz.prog 23 #[.slice od d.length cd] w fun e w' => e = .returned (.bool (decide (d.length ≤ 24))) ∧ Below w.heap.size w w' := by
  have HR : Hid (decide (d.length ≤ 24) = decide ((d.length : Int) ≤ 24)) := by show _ = _; simp; omega
  go_enter Tryz.func23, Tryz.ntmps23
  go_wp2_with fail
  go_ret
  exact ⟨ret_bool HR.out.symm, Below.refl _ _⟩

/-- All chips are from -60 to 60. -/
def smD : List Int → Bool
  | [] => true
  | x :: r => if x < -60 ∨ 60 < x then false else smD r
section
variable {w : World} {n : Int} {es : List Edg} {oe : Option Addr} {c : Nat} {ar : List (List Int)} {oa : Option Addr} {ca : Nat} {q : Int} {rot : List Int} {ot : Option Addr} {ct : Nat} {d : List Int} {od : Option Addr} {cd : Nat} {pk : List Int} {op : Option Addr} {cp : Nat}
end

/-- A right and small game. -/
def smallB (n : Int) (es : List Edg) (ar : List (List Int)) (q : Int) (rot d : List Int) : Bool :=
  if few45 n es ar rot = true then (if d.length ≤ 24 then (if gvE n es (forest es) ar q rot d = 0 then smD d else false) else false) else false
end Go.Proofs.YtnigfddanoaonaaGreat

set_option linter.unusedVariables false
set_option linter.unusedSimpArgs false
namespace Go.Proofs.YtnigfddanoaonaaGreat
open Go.RowKit

def few55 (es : List Edg) (d : List Int) : Bool := decide (es.length ≤ 100) && decide (d.length ≤ 24)
theorem fewChips_any (n : Int) (es : List Edg) (oe : Option Addr) (c : Nat) (d : List Int) (od : Option Addr) (cd : Nat) (w : World) :
    Calls Tryz.prog 18 #[.agg #[.int .i64 n, .slice oe es.length c], .slice od d.length cd] w fun e w' => e = .returned (.bool (few55 es d)) ∧ Below w.heap.size w w' := by
  have hb0 : ∀ o, Below w.heap.size w (w.alloc o) := fun o => bnew (Below.refl _ _) o
  by_cases h : es.length ≤ 100
  · have q1 : decide ((es.length : Int) ≤ 100) = true := by simp; omega
    have HR : Hid (few55 es d = decide (d.length ≤ 24)) := by show _ = _; simp [few55, h]
    clear h
    go_enter Tryz.func18, Tryz.ntmps18
    go_wp2_with (go_at_call 23; refine (few17_any d od cd _).mono ?_; rintro e w5 ⟨rfl, h5⟩)
    go_ret
    exact ⟨ret_bool HR.out.symm, (hb0 _).trans (h5.mono (hb0 _).size)⟩
  · have q1 : decide ((es.length : Int) ≤ 100) = false := by simp; omega
    have HR : Hid (few55 es d = false) := by show _ = _; simp [few55, h]
    clear h
    go_enter Tryz.func18, Tryz.ntmps18
    go_wp2_with fail
    go_ret
    exact ⟨ret_bool HR.out.symm, hb0 _⟩
theorem sandR_len (n : Int) (es : List Edg) (f : List Nat) (q : Int) (d : List Int) : (sandR n es f q d).1.procs.length ≤ 12 ∧ (sandR n es f q d).1.state.length ≤ 12 ∧ (sandR n es f q d).1.waiting.length ≤ 12 := by
  unfold sandR
  split
  · rename_i h
    have hn := (gErr_j h).2.1
    split
    · rename_i l hl
      simp only [pilesU_len hl, List.length_replicate, waitD_len]
      omega
    · simp [nwk0]
  · simp [nwk0]
theorem NwAt.below {w w' : World} {v : Value} {y : Nwk} (h : NwAt All w v y) (hb : Below w.heap.size w w') : NwAt All w' v y := by
  obtain ⟨oq, cq, os, cs, ow, cw, h1, h2, h3, h4, h5, h6, h7⟩ := h
  exact ⟨oq, cq, os, cs, ow, cw, h1, h2, h3, h4, h5.below prcR_ok hb, h6.below intR_ok hb, h7.below (slcR_ok intR_ok (by decide)) hb⟩

set_option maxRecDepth 100000 in
set_option maxHeartbeats 8000000 in
theorem piles_walk (w : World) (n : Int) (es : List Edg) (oe : Option Addr) (c : Nat) (hc : es.length ≤ c) (hc2 : es.length ≤ 9223372036854775807) (hs : SliceR edgR 3 All w oe es) (q : Int) (d : List Int) (od : Option Addr) (cd : Nat) (hdc : d.length ≤ cd) (hdl : d.length ≤ 9223372036854775807) (hd : SliceR intR 1 All w od d) :
    Calls Tryz.prog 5 #[.agg #[.int .i64 n, .slice oe es.length c], .int .i64 q, .slice od d.length cd] w fun r w' => r = .returned (.bool true) ∧ Below w.heap.size w w' := by
  obtain ⟨W1, e1⟩ : ∃ W1, w.alloc (.cells #[.int .i64 n, .slice oe es.length c] 43) = W1 := ⟨_, rfl⟩
  have bx1 : Box W1 w.heap.size [.int .i64 n, .slice oe es.length c] 43 := by rw [← e1]; exact Box.new w [.int .i64 n, .slice oe es.length c] 43
  have bb1 := bnew (Below.refl w.heap.size w) (.cells #[.int .i64 n, .slice oe es.length c] 43)
  rw [e1] at bb1
  have HX1 := hide bx1
  have HB1 := hide bb1
  have HU : Hid (gErr n es = 0 → Uf (forest es) (eL es)) := forest_ok n es
  have d0 := bx1.cell 0
  have d1 := bx1.cell 1
  simp only [List.getElem?_cons_zero, List.getElem?_cons_succ] at d0 d1
  have HFC : Hid (∀ u, Calls Tryz.prog 18 #[.agg #[.int .i64 n, .slice oe es.length c], .slice od d.length cd] u fun e w' => e = .returned (.bool (few55 es d)) ∧ Below u.heap.size u w') := fun u => fewChips_any n es oe c d od cd u
  obtain ⟨r, hr⟩ : ∃ r, r = sandR n es (forest es) q d := ⟨_, rfl⟩
  have HN : Hid (few55 es d = true → ∀ u, Below w.heap.size w u → Calls Tryz.prog 19 #[.agg #[.int .i64 n, .slice oe es.length c], .int .i64 q, .slice od d.length cd] u (NwPost u r)) := fun hf u hu => by
    rw [hr]
    simp only [few55, Bool.and_eq_true, decide_eq_true_eq] at hf
    exact nsand_any n es oe c All u (hs.below edgR_ok hu) hc (by omega) (forest es) HU q d od cd All (hd.below intR_ok hu) hdc (by omega)
  have HM : Hid (few55 es d = true → ∀ u, Below w.heap.size w u → Calls Tryz.prog 20 #[.agg #[.int .i64 n, .slice oe es.length c], .int .i64 q, .slice od d.length cd] u (NwPost u r)) := fun hf u hu => by
    rw [hr]
    simp only [few55, Bool.and_eq_true, decide_eq_true_eq] at hf
    exact rsand_any n es oe c All u (hs.below edgR_ok hu) hc (by omega) (forest es) HU q d od cd All (hd.below intR_ok hu) hdc (by omega)
  have HLEN : Hid (r.1.procs.length ≤ 12 ∧ r.1.state.length ≤ 12 ∧ r.1.waiting.length ≤ 12) := by rw [hr]; exact sandR_len _ _ _ _ _
  obtain ⟨y1, er1⟩ := r
  simp only at HLEN
  obtain ⟨ne, hne⟩ : ∃ k, k = es.length := ⟨_, rfl⟩
  obtain ⟨nd, hnd⟩ : ∃ k, k = d.length := ⟨_, rfl⟩
  obtain ⟨fw, hfw⟩ : ∃ b, b = few55 es d := ⟨_, rfl⟩
  rw [← hne, ← hnd, ← hfw] at HFC HN HM
  rw [← hne] at d1 ⊢
  rw [← hnd]
  rw [← hne] at HX1
  have HE1 := hide e1
  rw [← hne] at HE1
  clear bx1 bb1 e1 hs hd hr hc hc2 hdc hdl hne hnd hfw
  have e1 := HE1.out
  clear HE1
  go_enter Tryz.func5, Tryz.ntmps5
  go_wp2_with fail
  refine (HFC.out _).mono ?_
  rintro e w2 ⟨rfl, hb2⟩
  have HB2 := hide (HB1.out.trans (hb2.mono HB1.out.size))
  have HL2 := hide hb2
  clear hb2 e1
  cases fw
  · clear HN HM
    go_wp2_with fail
    refine (awake55_any _).mono ?_
    rintro r w3 ⟨rfl, hb3⟩
    have HB3 := hide (HB2.out.trans (hb3.mono HB2.out.size))
    clear hb3
    go_wp2_with fail
    go_ret
    exact ⟨rfl, HB3.out⟩
  have hx2 := HX1.out.below HL2.out
  have d0 := hx2.cell 0
  have d1 := hx2.cell 1
  simp only [List.getElem?_cons_zero, List.getElem?_cons_succ] at d0 d1
  clear hx2
  go_wp2_with fail
  refine (HN.out (by first | rfl | trivial) _ HB2.out).mono ?_
  rintro e w3 ⟨v, rfl, ⟨oq1, cq1, os1, cs1, ow1, cw1, rfl, _, hcs1, _, hp1, hs1, ht1⟩, hb3⟩
  have HP1 := hide hp1
  have HS1 := hide hs1
  have HT1 := hide ht1
  have HCS1 := hide hcs1
  have HB3 := hide (HB2.out.trans (hb3.mono HB2.out.size))
  have HL3 := hide (HL2.out.trans (hb3.mono HL2.out.size))
  obtain ⟨np, hnp⟩ : ∃ n, n = y1.procs.length := ⟨_, rfl⟩
  obtain ⟨ns, hns⟩ : ∃ n, n = y1.state.length := ⟨_, rfl⟩
  obtain ⟨nw, hnw⟩ : ∃ n, n = y1.waiting.length := ⟨_, rfl⟩
  simp only [← hnp, ← hns, ← hnw]
  obtain ⟨W4, e4⟩ : ∃ W4, w3.alloc (.cells #[.slice oq1 np cq1, .slice os1 ns cs1, .slice ow1 nw cw1] 26) = W4 := ⟨_, rfl⟩
  have hx4 : Box W4 w3.heap.size [.slice oq1 np cq1, .slice os1 ns cs1, .slice ow1 nw cw1] 26 := by rw [← e4]; exact Box.new w3 [.slice oq1 np cq1, .slice os1 ns cs1, .slice ow1 nw cw1] 26
  have hb4 : Below w3.heap.size w3 W4 := by rw [← e4]; exact bnew (Below.refl _ _) _
  have HL34 := hide hb4
  have HB4 := hide (HB3.out.trans (hb4.mono HB3.out.size))
  have HL4 := hide (HL3.out.trans (hb4.mono HL3.out.size))
  have HX4 := hide hx4
  have hx1 := HX1.out.below HL4.out
  have d0 := hx1.cell 0
  have d1 := hx1.cell 1
  simp only [List.getElem?_cons_zero, List.getElem?_cons_succ] at d0 d1
  have HNUM := hide (And.intro hnp (And.intro hns hnw))
  clear hp1 hs1 ht1 hcs1 hb3 hx4 hb4 hx1 hnp hns hnw
  go_wp2_with fail
  refine (HM.out (by first | rfl | trivial) _ HB4.out).mono ?_
  rintro e w5 ⟨v, rfl, ⟨oq2, cq2, os2, cs2, ow2, cw2, rfl, _, _, _, hp2, hs2, ht2⟩, hb5⟩
  obtain ⟨hnp, hns, hnw⟩ := HNUM.out
  have HP2 := hide hp2
  have HS2 := hide hs2
  have HT2 := hide ht2
  simp only [← hnp, ← hns, ← hnw]
  obtain ⟨W6, e6⟩ : ∃ W6, w5.alloc (.cells #[.slice oq2 np cq2, .slice os2 ns cs2, .slice ow2 nw cw2] 26) = W6 := ⟨_, rfl⟩
  have hx6 : Box W6 w5.heap.size [.slice oq2 np cq2, .slice os2 ns cs2, .slice ow2 nw cw2] 26 := by rw [← e6]; exact Box.new w5 [.slice oq2 np cq2, .slice os2 ns cs2, .slice ow2 nw cw2] 26
  have hb6 : Below w5.heap.size w5 W6 := by rw [← e6]; exact bnew (Below.refl _ _) _
  have HL56 := hide hb6
  have HL46 := hide (hb5.trans (hb6.mono hb5.size))
  have HB6 := hide (HB4.out.trans (HL46.out.mono HB4.out.size))
  have HX6 := hide hx6
  have HF : Hid (∀ u, Below W6.heap.size W6 u → u.cell? ⟨w3.heap.size, 0, none⟩ = some (.slice oq1 np cq1) ∧ u.cell? ⟨w3.heap.size, 1, none⟩ = some (.slice os1 ns cs1) ∧ u.cell? ⟨w3.heap.size, 2, none⟩ = some (.slice ow1 nw cw1) ∧ u.cell? ⟨w5.heap.size, 0, none⟩ = some (.slice oq2 np cq2) ∧ u.cell? ⟨w5.heap.size, 1, none⟩ = some (.slice os2 ns cs2) ∧ u.cell? ⟨w5.heap.size, 2, none⟩ = some (.slice ow2 nw cw2)) := fun u hu => by
    have a0 := ((HX4.out.below HL46.out).below hu).cell 0
    have a1 := ((HX4.out.below HL46.out).below hu).cell 1
    have a2 := ((HX4.out.below HL46.out).below hu).cell 2
    have b0 := (HX6.out.below hu).cell 0
    have b1 := (HX6.out.below hu).cell 1
    have b2 := (HX6.out.below hu).cell 2
    simp only [List.getElem?_cons_zero, List.getElem?_cons_succ] at a0 a1 a2 b0 b1 b2
    exact ⟨a0, a1, a2, b0, b1, b2⟩
  have HAT : Hid (∀ u, Below W6.heap.size W6 u → (SliceR prcR 3 All u oq1 y1.procs ∧ SliceR intR 1 All u os1 y1.state ∧ SliceR (slcR intR 1) 1 All u ow1 y1.waiting) ∧ (SliceR prcR 3 All u oq2 y1.procs ∧ SliceR intR 1 All u os2 y1.state ∧ SliceR (slcR intR 1) 1 All u ow2 y1.waiting)) := fun u hu => by
    have g1 : Below w3.heap.size w3 u := HL34.out.trans ((HL46.out.trans (hu.mono HL46.out.size)).mono HL34.out.size)
    have g2 : Below w5.heap.size w5 u := HL56.out.trans (hu.mono HL56.out.size)
    exact ⟨⟨HP1.out.below prcR_ok g1, HS1.out.below intR_ok g1, HT1.out.below (slcR_ok intR_ok (by decide)) g1⟩, HP2.out.below prcR_ok g2, HS2.out.below intR_ok g2, HT2.out.below (slcR_ok intR_ok (by decide)) g2⟩
  have HR : Hid (∀ u, Below W6.heap.size W6 u → Calls Tryz.prog 14 #[.agg #[.slice oq1 np cq1, .slice os1 ns cs1, .slice ow1 nw cw1], .agg #[.slice oq2 np cq2, .slice os2 ns cs2, .slice ow2 nw cw2]] u (SameB true u)) := fun u hu => by
    obtain ⟨⟨h1, h2, h3⟩, h4, h5, h6⟩ := HAT.out u hu
    have := rsame55_any y1 y1 oq1 os1 ow1 oq2 os2 ow2 cq1 cs1 cw1 cq2 cs2 cw2 All All u h1 h2 h3 h4 h5 h6 (by have := HLEN.out; omega) (by have := HLEN.out; omega) (by have := HLEN.out; omega)
    rw [← hnp, ← hns, ← hnw, show decide (y1 = y1) = true from by simp] at this
    exact this
  have HS : Hid (∀ u, Below W6.heap.size W6 u → Calls Tryz.prog 21 #[.agg #[.slice oq1 np cq1, .slice os1 ns cs1, .slice ow1 nw cw1], .agg #[.slice oq2 np cq2, .slice os2 ns cs2, .slice ow2 nw cw2]] u (SameB true u)) := fun u hu => by
    obtain ⟨⟨h1, h2, h3⟩, h4, h5, h6⟩ := HAT.out u hu
    have := nsame_any y1 y1 oq1 os1 ow1 oq2 os2 ow2 cq1 cs1 cw1 cq2 cs2 cw2 u h1 h2 h3 h4 h5 h6 (by have := HLEN.out; omega) HCS1.out (by have := HLEN.out; omega) (by have := HLEN.out; omega)
    rw [← hnp, ← hns, ← hnw, show decide (y1 = y1) = true from by simp] at this
    exact this
  obtain ⟨a0, a1, a2, b0, b1, b2⟩ := HF.out W6 (Below.refl _ _)
  have q5 : (er1 == er1) = true := by simp
  clear hp2 hs2 ht2 hb5 hx6 hb6 d0 d1 hnp hns hnw
  go_wp2_with fail
  refine (HR.out _ (Below.refl _ _)).mono ?_
  rintro r w7 ⟨rfl, hb7⟩
  have HL7 := hide hb7
  clear hb7
  obtain ⟨a0, a1, a2, b0, b1, b2⟩ := HF.out w7 HL7.out
  go_wp2_with fail
  refine (HS.out _ HL7.out).mono ?_
  rintro r w8 ⟨rfl, hb8⟩
  have HL8 := hide (HL7.out.trans (hb8.mono HL7.out.size))
  clear hb8
  go_wp2_with fail
  refine (awake55_any _).mono ?_
  rintro r wF ⟨rfl, hbF⟩
  have HBF := hide (HB6.out.trans ((HL8.out.trans (hbF.mono HL8.out.size)).mono HB6.out.size))
  clear hbF
  go_wp2_with fail
  go_ret
  exact ⟨rfl, HBF.out⟩

theorem piles_claim (w : World) (n : Int) (es : List Edg) (oe : Option Addr) (c : Nat) (hc : es.length ≤ c) (hc2 : es.length ≤ 9223372036854775807) (hs : SliceR edgR 3 All w oe es) (q : Int) (_ : I64 q) (d : List Int) (od : Option Addr) (cd : Nat) (hdc : d.length ≤ cd) (hdl : d.length ≤ 9223372036854775807) (hd : SliceR intR 1 All w od d) :
    Calls Tryz.prog 5 #[.agg #[.int .i64 n, .slice oe es.length c], .int .i64 q, .slice od d.length cd] w fun r w' => r = .returned (.bool true) ∧ Below w.heap.size w w' :=
  piles_walk w n es oe c hc hc2 hs q d od cd hdc hdl hd

end Go.Proofs.YtnigfddanoaonaaGreat

set_option linter.unusedVariables false
namespace Go.Proofs.YtnigfddanoaonaaGreat
open Go.RowKit Go.ChangeShapes Go.WideShapes Go.ChangeAt Go.Deep

set_option maxRecDepth 100000 in
theorem networkPiles_lifted (os : Os) (started : os.Started) (H : Type) (enc : TypeId × Value → H) :
    ReturnsInHanded {} Tryz.checked os 5 .any (Rows.networkPilesSpec.pre6 enc Tryz.prog Tryz.f5 Rows.networkPilesRow.domain false) (Rows.networkPilesSpec.post enc Tryz.prog Tryz.f5 false true false false) := by
  refine returnsInHanded_of_change (C := Tryz.checked) own_knob started (by kernel_rfl) Tryz.func5
    (ChangeSpec.witness6 (enc := enc) (C := Tryz.checked) false ⟨#[], #[.agg #[.int .i64 0, .slice none 0 0], .int .i64 0, .slice none 0 0], []⟩ 8 (by kernel_rfl) (by kernel_rfl) (by kernel_rfl) (by kernel_rfl)) ?_
  intro W base args ds gs before hval0 hW _ _
  have hval : ∀ (j : Nat) t v, Tryz.f5.params[j]? = some t → args[j]? = some v → Value.okWide Tryz.prog W .any base t v := hval0
  have hW' := hW
  obtain ⟨p, q, hA0, hV, rfl, _, _⟩ := hW
  have hA : DataW.TrodAll enc Tryz.prog W 0 (fun _ => true) true Tryz.f5.params.toList args.toList ds p := hA0
  rw [Tryz.params5] at hA hval
  obtain ⟨v0, v1, v2, d0, d1, d2, p0, p1, p2, rfl, rfl, rfl, h0, h1, h2⟩ := trodAll_three hA
  obtain ⟨rfl, rfl⟩ := trodVars_none hV
  have h0k := h0
  have h1k := h1
  have h2k := h2
  obtain ⟨n0, es0, oe0, c0, rfl, hc0, hl0, he0⟩ := open_graph (hval 0 43 v0 rfl rfl) h0
  obtain ⟨n1, rfl, in1⟩ := open_i64 (hval 1 3 v1 rfl rfl) h1
  obtain ⟨xs2, oa2, c2, rfl, hc2, hd2, hs2⟩ := open_div (hval 2 44 v2 rfl rfl) h2
  clear hA0 hval0
  simp only [List.append_nil] at hW'
  have hlt0 : ∀ y ∈ p0, y.block < W.heap.size := fun y hy => by simpa using hW'.lt y (by simp [hy])
  have hlt1 : ∀ y ∈ p1, y.block < W.heap.size := fun y hy => by simpa using hW'.lt y (by simp [hy])
  have hlt2 : ∀ y ∈ p2, y.block < W.heap.size := fun y hy => by simpa using hW'.lt y (by simp [hy])
  refine (piles_claim W n0 es0 oe0 c0 hc0 hl0 he0 n1 in1 xs2 oa2 c2 hc2 hd2 hs2).mono fun e W' ⟨he, hn⟩ => ?_
  subst he
  exact ⟨_, rfl, _, _, _, [], _, [], hW', trodAll_mk1 (shut_bool Tryz.underlying4 true), trodAll_mk3 (Below.trod laid_out (by kernel_rfl) (of_decide_eq_true (by kernel_rfl)) h0k hn hlt0) (Below.trod laid_out (by kernel_rfl) (of_decide_eq_true (by kernel_rfl)) h1k hn hlt1) (Below.trod laid_out (by kernel_rfl) (of_decide_eq_true (by kernel_rfl)) h2k hn hlt2), rfl, hn.frame _, fun h => by cases h⟩

theorem networkPiles_holds : Rows.NetworkPilesSaid :=
  OpenClaim.holds_of_wide 5 Tryz.f5 rfl rfl rfl rfl rfl rfl rfl ⟨rfl, rfl, rfl, rfl, rfl⟩ rfl rfl rfl rfl rfl (by kernel_rfl) Tryz.func5 (by kernel_rfl)
    (of_decide_eq_true (by kernel_rfl)) (by unfold Func.isWrapper; first | (rw [if_pos (by decide +kernel)]; kernel_rfl) | (rw [if_neg (by decide +kernel)]; exact ⟨rfl, rfl⟩))
    (fun os started H enc _ => networkPiles_lifted os started H enc)

#print axioms networkPiles_holds
end Go.Proofs.YtnigfddanoaonaaGreat

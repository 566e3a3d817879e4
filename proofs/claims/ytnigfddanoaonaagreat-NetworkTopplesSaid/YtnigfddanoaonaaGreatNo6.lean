/-
  NetworkTopples returns true for every graph, sink, divisor and picks: the network of a sandpile is abelian, and halts in the stable configuration of stabilize.Stabilize. No condition.
  The walk of NetworkTopples (printed by mkTopples.py).
  slices.Min of ints: whether it is negative; ref21.Picks, ref21.FewPicks.
  ref19.Rooted, ref19.Check.
  stabilize.Stabilize.
  A game in memory; ref17.Few, ref17.Small; sandpilelaw45.small.
  ref17.In, ref17.Check, ref45.chips, ref45.Given; ref17.Few, ref17.Small, ref45.FewChips.
  The network of a sandpile, in plain Lean: it is right, abelian, and its runs are legal firings.
  Networks of processors with one letter, in plain Lean: right, and abelian.
  A processor of one letter commutes.
  Tables of rows of one number, in plain Lean.
  stabilize: pileOf.
  stabilize: a pile while it is made, in memory.
  How often vertices are joined, counted over single edges, in plain Lean.
  stabilize: settle, settled.
  stabilize: next, fire.
  A pile that is stabilized, in memory.
  Chip-firing with a sink, in plain Lean: legal firings, least action, the valence as a sum.
  ref55.toppler (printed by mkRefTop.py).
  The reference's sandpile as a network: sink, chips.
  The examples of the chapter on networks.
  Two lists of ints, two tables: SameInts of chapter 08, SameTables of chapter 55.
  Networks at the triangle of the examples: numbers; slices.Equal of two moves.
  What the functions give at the triangle: numbers.
  rotor.Acyclic.
  rotor.Acyclic: its closure; deferred marks of many ranges.
  rotor.All.
  (*rotor.board).route with the first vertex that has chips.
-/
import Derived.Test.YtnigfddanoaonaaGreatNo5
import Derived.BigRegionIn
import Derived.Test.YtnigfddanoaonaaGreatProg
import Derived.Deep.QuietTactic
import Derived.BigQuiet
import Derived.StillTailTactics
import Derived.Test.YtnigfddanoaonaaGreatRows

set_option linter.unusedVariables false
set_option linter.unusedSimpArgs false
set_option linter.unnecessarySimpa false
namespace Go.Proofs.YtnigfddanoaonaaGreat
open Go.RowKit

def MovesPost (B : Nat) (w : World) (x : List Int × List Int × Int) (e : Ending) (w' : World) : Prop :=
  ∃ rv cv, e = .returned (.tuple #[rv, cv, .int .i64 x.2.2]) ∧ OwnS intR 1 B 3 Non w' rv x.1 ∧ OwnS intR 1 B 3 Non w' cv x.2.1 ∧ Below B w w'

end Go.Proofs.YtnigfddanoaonaaGreat

set_option linter.unusedVariables false
set_option linter.unusedSimpArgs false
set_option linter.unnecessarySimpa false
namespace Go.Proofs.YtnigfddanoaonaaGreat
open Go.RowKit

def allRes (n : Int) (es : List Edg) (f : List Nat) (ar : List (List Int)) (q : Int) (rot d : List Int) : List Int × List Int × Int :=
  if gvE n es f ar q rot d = 0 then movesOf ar (endsL es) q.toNat pk0 rot d else ([], [], gvE n es f ar q rot d)

end Go.Proofs.YtnigfddanoaonaaGreat

set_option linter.unusedVariables false
set_option linter.unusedSimpArgs false
set_option linter.unnecessarySimpa false
namespace Go.Proofs.YtnigfddanoaonaaGreat
open Go.RowKit Go.Shelf

/-- Where the rotor at u points, and where one is behind i such steps. -/
def stV (ar : List (List Int)) (E : List (Int × Int)) (rot : List Int) (u : Nat) : Nat := (hv E (oppH ((ar.getD u []).getD (rot.getD u 0).toNat 0).toNat)).toNat
def itV (ar : List (List Int)) (E : List (Int × Int)) (rot : List Int) (v : Nat) : Nat → Nat
  | 0 => v
  | i + 1 => stV ar E rot (itV ar E rot v i)
/-- The marks of ranges that are over. -/
def Marks (B : Nat) (ds : List Deferred) (w : World) : Prop := ∃ Ds : List Nat, ds = Ds.map (fun D => ({ target := .collected D, args := #[] } : Deferred)) ∧ Ds.Nodup ∧ ∀ D ∈ Ds, B ≤ D ∧ w.heap[D]? = some (.deferred (some []))
theorem Marks.nil (B : Nat) (w : World) : Marks B [] w := ⟨[], rfl, List.nodup_nil, fun _ h => by cases h⟩
theorem Marks.cons {B D : Nat} {ds : List Deferred} {w w' : World} (h : Marks B ds w) (hb : ∀ k, B ≤ k → k < w.heap.size → w'.heap[k]? = w.heap[k]?) (hD : w.heap.size ≤ D) (hB : B ≤ w.heap.size) (hk : w'.heap[D]? = some (.deferred (some []))) : Marks B ({ target := .collected D, args := #[] } :: ds) w' := by
  obtain ⟨Ds, rfl, h1, h2⟩ := h
  have hl : ∀ D' ∈ Ds, D' < w.heap.size := fun D' hD' => (Array.getElem?_eq_some_iff.1 (h2 D' hD').2).1
  refine ⟨D :: Ds, rfl, List.nodup_cons.2 ⟨fun hm => ?_, h1⟩, fun D' hD' => ?_⟩
  · have := hl D hm; omega
  · rcases List.mem_cons.1 hD' with rfl | hm
    · exact ⟨by omega, hk⟩
    · exact ⟨(h2 D' hm).1, (hb D' (h2 D' hm).1 (hl D' hm)).trans (h2 D' hm).2⟩
theorem Marks.keep {B : Nat} {ds : List Deferred} {w w' : World} (h : Marks B ds w) (hb : ∀ k, B ≤ k → w'.heap[k]? = w.heap[k]?) : Marks B ds w' := by
  obtain ⟨Ds, e, h1, h2⟩ := h
  exact ⟨Ds, e, h1, fun D' hD' => ⟨(h2 D' hD').1, (hb D' (h2 D' hD').1).trans (h2 D' hD').2⟩⟩
theorem Marks.below {B : Nat} {ds : List Deferred} {w w' : World} (h : Marks B ds w) (hb : Below w.heap.size w w') : Marks B ds w' := by
  obtain ⟨Ds, e, h1, h2⟩ := h
  exact ⟨Ds, e, h1, fun D' hD' => ⟨(h2 D' hD').1, (hb.block D' (Array.getElem?_eq_some_iff.1 (h2 D' hD').2).1).trans (h2 D' hD').2⟩⟩
/-- Between the yields of a way that only looks: the count in box b, and what lay before. -/
structure LA (wr : World) (b k : Nat) (W : World) : Prop where
  cnt : Boxed W b 3 (.int .i64 (k : Int))
  low : Below wr.heap.size wr W
theorem LA.from {β : Type} {wr : World} {b B : Nat} (hB : wr.heap.size ≤ B) (k : β → Nat) : OwnFrom B (fun (s : β) W => LA wr b (k s) W) := fun s X Y row h hg hr =>
  ⟨boxed_own b 3 (fun s : β => Value.int .i64 (k s : Nat)) s X Y row h.cnt hg (fun r e => (hr r e).2), ownFrom_below (β := Unit) (Nat.le_refl _) hB () X Y row h.low hg hr⟩
end Go.Proofs.YtnigfddanoaonaaGreat

set_option linter.unusedVariables false
set_option linter.unusedSimpArgs false
set_option linter.unnecessarySimpa false
namespace Go.Proofs.YtnigfddanoaonaaGreat
open Go.RowKit Go.Shelf

attribute [local go_sem] Oper.semAt_some

/-- From each vertex one comes to the sink, before len steps. -/
def acyB (ar : List (List Int)) (E : List (Int × Int)) (q : Nat) (rot : List Int) (m k : Nat) : Bool := (List.range k).all fun v => (firstAt (itV ar E rot v) q m).isSome

def BoolErr (w : World) (b : Bool) (x : Int) (e : Ending) (w' : World) : Prop := e = .returned (.tuple #[.bool b, .int .i64 x]) ∧ Below w.heap.size w w'

section
variable (n : Int) (es : List Edg) (oe : Option Addr) (c : Nat) (ar : List (List Int)) (oa : Option Addr) (ca : Nat) (F G : Foot) (w : World) (hs : SliceR edgR 3 F w oe es) (hc : es.length ≤ c) (hc2 : es.length ≤ 1000)
    (ha : SliceR (slcR intR 1) 1 G w oa ar) (hac : ar.length ≤ ca) (hac2 : ar.length ≤ 9223372036854775807) (f : List Nat) (hU : Hid (gErr n es = 0 → Uf f (eL es)))
    (q : Int) (rot : List Int) (ot : Option Addr) (ct : Nat) (H : Foot) (hr : SliceR intR 1 H w ot rot) (hrc : rot.length ≤ ct) (hrl : rot.length ≤ 9223372036854775807)
include hs hc hc2 ha hac hac2 hU hr hrc hrl

/-- Whether rotors are acyclic, or the error. -/
def acycRes (n : Int) (es : List Edg) (f : List Nat) (ar : List (List Int)) (q : Int) (rot : List Int) : Bool × Int :=
  if rtE n es f ar q rot = 0 then (acyB ar (endsL es) q.toNat rot rot.length rot.length, 0) else (false, rtE n es f ar q rot)
end

end Go.Proofs.YtnigfddanoaonaaGreat

set_option linter.unusedVariables false
set_option linter.unusedSimpArgs false
namespace Go.Proofs.YtnigfddanoaonaaGreat
open Go.RowKit

end Go.Proofs.YtnigfddanoaonaaGreat

set_option linter.unusedVariables false
set_option linter.unusedSimpArgs false
namespace Go.Proofs.YtnigfddanoaonaaGreat
open Go.RowKit

def triN : Nwk := ⟨[sinkP, topP [⟨0, 0⟩, ⟨2, 0⟩], topP [⟨0, 0⟩, ⟨1, 0⟩]], [0, 0, 0], [[0], [2], [1]]⟩
def triM : Nwk := ⟨triN.procs, [0, 1, 0], [[0], [0], [0]]⟩
def triZ : Nwk := ⟨[sinkP, turnP [0, 2], turnP [0, 1]], [0, 0, 0], [[0], [1], [0]]⟩
theorem tn_sand : sandR 3 triE (forest triE) 0 [0, 2, 1] = (triN, 0) := by decide +kernel
theorem tn_ok : netErr triN = 0 := by decide +kernel
theorem tn_moves : movesS triN.waiting = [(1, 0), (2, 0)] := by decide +kernel
theorem tn_run : runX [0] 100 0 triN (triN.procs.map fun p => List.replicate p.letters.toNat (0 : Int)) = some (triM, [[2], [3], [2]]) := by decide +kernel
theorem tn_nab : nabR triN = (true, 0) := by decide +kernel
theorem tn_c1 : compR triN [[2], [3], [2]] = (true, 0) := by decide +kernel
theorem tn_c2 : compR triN [[4], [4], [3]] = (true, 0) := by decide +kernel
theorem tn_c3 : compR triN [[2], [2], [1]] = (false, 0) := by decide +kernel
theorem tn_rout : routR 3 triE (forest triE) triA 0 [0, 0, 0] [0, 1, 0] = (triZ, 0) := by decide +kernel
theorem tz_ok : netErr triZ = 0 := by decide +kernel
theorem tz_run : (runX [3] 100 0 triZ (triZ.procs.map fun p => List.replicate p.letters.toNat (0 : Int))).map (fun r => r.1.state) = some [0, 0, 1] := by decide +kernel

theorem neq_mvC1 (w : World) : (binOp .neq 80 (.agg #[.int .i64 1, .int .i64 0]) (.agg #[.int .i64 1, .int .i64 0])).run Tryz.prog w = .ok (.bool false) w := by kernel_rfl
theorem neq_mvC2 (w : World) : (binOp .neq 80 (.agg #[.int .i64 2, .int .i64 0]) (.agg #[.int .i64 2, .int .i64 0])).run Tryz.prog w = .ok (.bool false) w := by kernel_rfl
theorem neqGuard_mv (op : BinOp) (a b : Operand) (x y : Array Value) (w : World) : (eqGuard op 80 a b (.agg x) (.agg y)).run Tryz.prog w = .ok () w :=
  run_eqGuard_agg w op 80 a b x y (by kernel_rfl)
set_option maxHeartbeats 1000000 in
theorem eqMv2_any (oa ob : Option Addr) (c d : Nat) (F G : Foot) (w : World) (hs : SliceR mvR 2 F w oa [(1, 0), (2, 0)]) (ht : SliceR mvR 2 G w ob [(1, 0), (2, 0)]) :
    Calls Tryz.prog 41 #[.slice oa 2 c, .slice ob 2 d] w fun e w' => e = .returned (.bool true) ∧ Below w.heap.size w w' := by
  go_enter Tryz.func41, Tryz.ntmps41
  go_wp2_with fail
  go_loopw [13] (fun i wr => ∃ k : Nat, k ≤ 2 ∧ i = .int .i64 k ∧ Below w.heap.size w wr) (fun i _ => 2 - (intOf i).toNat)
  case atStart => exact ⟨0, by omega, rfl, Below.refl _ _⟩
  case round =>
    obtain ⟨k, hk, rfl, hb⟩ := hrel
    have q1 := neqGuard_mv
    have q2 := neq_mvC1
    have q3 := neq_mvC2
    by_cases hlt : k < 2
    · obtain ⟨a, b, hg, b1, off1, rfl, _, c0, c1⟩ := (hs.below mvR_ok hb).mv_at (i := k) hlt
      obtain ⟨a', b', hg', b2, off2, rfl, _, e0, e1⟩ := (ht.below mvR_ok hb).mv_at (i := k) hlt
      have HB := hide hb
      rcases (by omega : k = 0 ∨ k = 1) with rfl | rfl
      · simp at hg hg'
        obtain ⟨rfl, rfl⟩ := hg
        obtain ⟨rfl, rfl⟩ := hg'
        simp at c0 c1 e0 e1
        clear hs ht hb
        go_wp2_with fail
        go_quiet (fail)
        go_wp2_with fail
        go_roundw
        case rel => exact ⟨1, by omega, by go_num, below_drewN HB.out _⟩
        case measure => simp [intOf]
      · simp at hg hg'
        obtain ⟨rfl, rfl⟩ := hg
        obtain ⟨rfl, rfl⟩ := hg'
        simp at c0 c1 e0 e1
        clear hs ht hb
        go_wp2_with fail
        go_quiet (fail)
        go_wp2_with fail
        go_roundw
        case rel => exact ⟨2, by omega, by go_num, below_drewN HB.out _⟩
        case measure => simp [intOf]
    · have hk2 : k = 2 := by omega
      subst hk2
      go_wp2_with fail
      go_ret
      exact ⟨rfl, hb⟩

end Go.Proofs.YtnigfddanoaonaaGreat

set_option linter.unusedVariables false
namespace Go.Proofs.YtnigfddanoaonaaGreat
open Go.RowKit

def QuietB (b : Bool) (w : World) (e : Ending) (w' : World) : Prop := e = .returned (.bool b) ∧ ∃ m, w' = w.drewN m
theorem QuietB.below {b : Bool} {w : World} {e : Ending} {w' : World} (h : QuietB b w e w') : e = .returned (.bool b) ∧ Below w.heap.size w w' := by
  obtain ⟨rfl, m, rfl⟩ := h
  exact ⟨rfl, below_drewN (Below.refl _ _) _⟩
theorem drawn_more {w wr : World} (h : Hid (∃ n, wr = w.drewN n)) (k : Nat) : ∃ n, wr.drewN k = w.drewN n := by
  obtain ⟨n, rfl⟩ := h.out
  exact ⟨n + k, by rw [World.drewN_drewN]⟩
theorem drawn_slice {α : Type} {R : Rep α} {sz : Nat} {F : Foot} {oa : Option Addr} {xs : List α} {w wr : World} (h : Hid (∃ n, wr = w.drewN n)) (ok : RepOk R sz) (hs : SliceR R sz F w oa xs) : SliceR R sz F wr oa xs := by
  obtain ⟨n, rfl⟩ := h.out
  exact hs.drewN ok n
theorem tabR_ok : RepOk (slcR intR 1) 1 := slcR_ok intR_ok (by omega)

set_option maxHeartbeats 400000 in
theorem sameInts08_any (l m : List Int) (oa ob : Option Addr) (c d : Nat) (F G : Foot) (w : World) (hs : SliceR intR 1 F w oa l) (ht : SliceR intR 1 G w ob m) (hc2 : l.length ≤ 9223372036854775807) :
    Calls Tryz.prog 47 #[.slice oa l.length c, .slice ob m.length d] w (QuietB (decide (l = m)) w) := by
  by_cases hlen : l.length = m.length
  case neg =>
    have hl' : ((l.length : Int) != m.length) = true := by simp; omega
    have HL : Hid (decide (l = m) = false) := decide_eq_false fun h => hlen (by rw [h])
    clear hlen
    go_enter Tryz.func47, Tryz.ntmps47
    go_wp2_with fail
    go_ret; exact ⟨ret_bool HL.out.symm, 0, rfl⟩
  have hl' : ((l.length : Int) != m.length) = false := by simp [hlen]
  have HL := hide hlen
  clear hlen
  go_enter Tryz.func47, Tryz.ntmps47
  go_wp2_with fail
  go_loopw [5] (fun i wr => ∃ k : Nat, k ≤ l.length ∧ i = .int .i64 k ∧ Hid (l = m ↔ l.drop k = m.drop k) ∧ Hid (∃ n, wr = w.drewN n)) (fun i _ => l.length - (intOf i).toNat)
  case atStart => exact ⟨0, by omega, rfl, Iff.rfl, 0, rfl⟩
  case round =>
    obtain ⟨k, hk, rfl, HE, HW⟩ := hrel
    by_cases hlt : k < l.length
    · obtain ⟨x, hd, _, _, b, off, rfl, _, c0⟩ := (drawn_slice HW intR_ok hs).int_at hlt
      have hlt2 : k < m.length := by rw [← HL.out]; exact hlt
      obtain ⟨x', hd', _, _, b', off', rfl, _, c0'⟩ := (drawn_slice HW intR_ok ht).int_at hlt2
      have HD := hide hd
      have HD' := hide hd'
      clear hd hd' hs ht
      by_cases hx : x = x'
      · obtain rfl := hx
        go_wp2_with fail
        go_quiet (fail)
        go_wp2_with fail
        go_roundw
        case rel =>
          refine ⟨k + 1, by omega, by go_num, ?_, drawn_more HW nq⟩
          show _ ↔ _
          rw [HE.out, HD.out, HD'.out]; simp
        case measure => simp [intOf]; omega
      · have hne : (x != x') = true := by simp [hx]
        have HX := hide hx
        clear hx
        go_wp2_with fail
        go_quiet (fail)
        go_wp2_with fail
        go_ret
        refine ⟨ret_bool ?_, drawn_more HW nq⟩
        symm
        refine decide_eq_false fun h => HX.out ?_
        have h2 := HE.out.1 h
        rw [HD.out, HD'.out] at h2
        simp at h2
        exact h2.1
    · go_wp2_with fail
      go_ret
      refine ⟨ret_bool ?_, HW.out⟩
      symm
      refine decide_eq_true (HE.out.2 ?_)
      rw [List.drop_eq_nil_of_le (by omega), List.drop_eq_nil_of_le (by have := HL.out; omega)]

set_option maxHeartbeats 400000 in
theorem sameTables_any (l m : List (List Int)) (oa ob : Option Addr) (c d : Nat) (F G : Foot) (w : World) (hs : SliceR (slcR intR 1) 1 F w oa l) (ht : SliceR (slcR intR 1) 1 G w ob m) (hc2 : l.length ≤ 9223372036854775807) :
    Calls Tryz.prog 15 #[.slice oa l.length c, .slice ob m.length d] w (QuietB (decide (l = m)) w) := by
  by_cases hlen : l.length = m.length
  case neg =>
    have hl' : ((l.length : Int) != m.length) = true := by simp; omega
    have HL : Hid (decide (l = m) = false) := decide_eq_false fun h => hlen (by rw [h])
    clear hlen
    go_enter Tryz.func15, Tryz.ntmps15
    go_wp2_with fail
    go_ret; exact ⟨ret_bool HL.out.symm, 0, rfl⟩
  have hl' : ((l.length : Int) != m.length) = false := by simp [hlen]
  have HL := hide hlen
  clear hlen
  go_enter Tryz.func15, Tryz.ntmps15
  go_wp2_with fail
  go_loopw [5] (fun i wr => ∃ k : Nat, k ≤ l.length ∧ i = .int .i64 k ∧ Hid (l = m ↔ l.drop k = m.drop k) ∧ Hid (∃ n, wr = w.drewN n)) (fun i _ => l.length - (intOf i).toNat)
  case atStart => exact ⟨0, by omega, rfl, Iff.rfl, 0, rfl⟩
  case round =>
    obtain ⟨k, hk, rfl, HE, HW⟩ := hrel
    by_cases hlt : k < l.length
    · obtain ⟨x, hd, _, b, off, oa', c', rfl, _, c0, _, hl2, hsx⟩ := (drawn_slice HW tabR_ok hs).slc_at hlt
      have hlt2 : k < m.length := by rw [← HL.out]; exact hlt
      obtain ⟨x', hd', _, b', off', ob', d', rfl, _, c0', _, _, hsx'⟩ := (drawn_slice HW tabR_ok ht).slc_at hlt2
      have HD := hide hd
      have HD' := hide hd'
      have HC : Hid (∀ k, Calls Tryz.prog 47 #[.slice oa' x.length c', .slice ob' x'.length d'] (wr.drewN k) (QuietB (decide (x = x')) (wr.drewN k))) := fun k => sameInts08_any x x' oa' ob' c' d' F G _ (hsx.drewN intR_ok k) (hsx'.drewN intR_ok k) hl2
      clear hd hd' hs ht hsx hsx'
      by_cases hx : x = x'
      · rw [decide_eq_true hx] at HC
        obtain ⟨lx, hlx⟩ : ∃ n, n = x.length := ⟨_, rfl⟩
        obtain ⟨ly, hly⟩ : ∃ n, n = x'.length := ⟨_, rfl⟩
        have HX := hide hx
        rw [← hlx] at c0 HC
        rw [← hly] at c0' HC
        clear hx hlx hly
        go_wp2_with fail
        go_quiet ((go_at_call 47; exact Calls.quiet_of (HC.out _)))
        go_wp2_with fail
        go_roundw
        case rel =>
          refine ⟨k + 1, by omega, by go_num, ?_, drawn_more HW nq⟩
          show _ ↔ _
          rw [HE.out, HD.out, HD'.out, HX.out]; simp
        case measure => simp [intOf]; omega
      · rw [decide_eq_false hx] at HC
        obtain ⟨lx, hlx⟩ : ∃ n, n = x.length := ⟨_, rfl⟩
        obtain ⟨ly, hly⟩ : ∃ n, n = x'.length := ⟨_, rfl⟩
        have HX := hide hx
        rw [← hlx] at c0 HC
        rw [← hly] at c0' HC
        clear hx hlx hly
        go_wp2_with fail
        go_quiet ((go_at_call 47; exact Calls.quiet_of (HC.out _)))
        go_wp2_with fail
        go_ret
        refine ⟨ret_bool ?_, drawn_more HW nq⟩
        symm
        refine decide_eq_false fun h => HX.out ?_
        have h2 := HE.out.1 h
        rw [HD.out, HD'.out] at h2
        simp at h2
        exact h2.1
    · go_wp2_with fail
      go_ret
      refine ⟨ret_bool ?_, HW.out⟩
      symm
      refine decide_eq_true (HE.out.2 ?_)
      rw [List.drop_eq_nil_of_le (by omega), List.drop_eq_nil_of_le (by have := HL.out; omega)]

end Go.Proofs.YtnigfddanoaonaaGreat

set_option linter.unusedVariables false
set_option linter.unusedSimpArgs false
namespace Go.Proofs.YtnigfddanoaonaaGreat
open Go.RowKit

theorem i64n {x : Int} (h : 0 ≤ x ∧ x ≤ 100) : I64 x := by unfold I64; omega
/-- A table of three rows of one number each, as a literal lays it. -/
def tab3W (w : World) (x y z : Int) : World := (((w.alloc (.cells #[.int .i64 x] 3)).alloc (.cells #[.int .i64 y] 3)).alloc (.cells #[.int .i64 z] 3)).alloc (.cells #[.slice (some ⟨w.heap.size, 0, none⟩) 1 1, .slice (some ⟨w.heap.size + 1, 0, none⟩) 1 1, .slice (some ⟨w.heap.size + 1 + 1, 0, none⟩) 1 1] 23)
theorem tab3_lit (w : World) (x y z : Int) (hx : I64 x) (hy : I64 y) (hz : I64 z) : SliceR (slcR intR 1) 1 All (tab3W w x y z) (some ⟨w.heap.size + 1 + 1 + 1, 0, none⟩) [[x], [y], [z]] := by
  have a1 := intlF (F := All) w x hx trivial
  have a2 := intlF (F := All) (w.alloc (.cells #[.int .i64 x] 3)) y hy trivial
  have a3 := intlF (F := All) ((w.alloc (.cells #[.int .i64 x] 3)).alloc (.cells #[.int .i64 y] 3)) z hz trivial
  simp only [World.size_alloc] at a1 a2 a3
  have b1 := (a1.below intR_ok (bnew (Below.refl _ _) (.cells #[.int .i64 y] 3))).below intR_ok (bnew (Below.refl _ _) (.cells #[.int .i64 z] 3))
  have b2 := a2.below intR_ok (bnew (Below.refl _ _) (.cells #[.int .i64 z] 3))
  have := SliceR.lit (F := All) (G := All) (slcR_ok intR_ok (by decide)) (((w.alloc (.cells #[.int .i64 x] 3)).alloc (.cells #[.int .i64 y] 3)).alloc (.cells #[.int .i64 z] 3)) 23
    [[.slice (some ⟨w.heap.size, 0, none⟩) 1 1], [.slice (some ⟨w.heap.size + 1, 0, none⟩) 1 1], [.slice (some ⟨w.heap.size + 1 + 1, 0, none⟩) 1 1]] [[x], [y], [z]] (fun i q hq => by
      match i, hq with
      | 0, hq => simp at hq; subst hq; exact ⟨_, rfl, _, _, rfl, by simp, by simp, b1⟩
      | 1, hq => simp at hq; subst hq; exact ⟨_, rfl, _, _, rfl, by simp, by simp, b2⟩
      | 2, hq => simp at hq; subst hq; exact ⟨_, rfl, _, _, rfl, by simp, by simp, a3⟩
      | i + 3, hq => simp at hq) rfl (fun _ h => h) trivial
  unfold tab3W
  simpa using this
theorem tab3_below (w : World) (x y z : Int) : Below w.heap.size w (tab3W w x y z) := bnew (bnew (bnew (bnew (Below.refl _ _) _) _) _) _
def NxAt (W : World) (oq os ow : Option Addr) (x : Nwk) : Prop := SliceR prcR 3 All W oq x.procs ∧ SliceR intR 1 All W os x.state ∧ SliceR (slcR intR 1) 1 All W ow x.waiting
theorem NxAt.below {W W' : World} {oq os ow : Option Addr} {x : Nwk} (h : NxAt W oq os ow x) (hb : Below W.heap.size W W') : NxAt W' oq os ow x := ⟨h.1.below prcR_ok hb, h.2.1.below intR_ok hb, h.2.2.below (slcR_ok intR_ok (by decide)) hb⟩
def mv2Lit (w : World) : World := w.alloc (.cells #[.int .i64 1, .int .i64 0, .int .i64 2, .int .i64 0] 80)
theorem mv2_lit (w : World) : SliceR mvR 2 All (mv2Lit w) (some ⟨w.heap.size, 0, none⟩) [(1, 0), (2, 0)] :=
  SliceR.lit (F := All) mvR_ok w 80 [[.int .i64 1, .int .i64 0], [.int .i64 2, .int .i64 0]] _ (fun i q hq => by
    match i, hq with
    | 0, hq => simp at hq; subst hq; exact ⟨_, rfl, rfl⟩
    | 1, hq => simp at hq; subst hq; exact ⟨_, rfl, rfl⟩
    | i + 2, hq => simp at hq) rfl (fun _ h => h) trivial
/-- Run at three rows' counts. -/
theorem tri_few : ∀ t ∈ triN.waiting, ∀ k ∈ t, k ≤ 40 := by decide
theorem triZ_few : ∀ t ∈ triZ.waiting, ∀ k ∈ t, k ≤ 40 := by decide

set_option maxRecDepth 100000 in
set_option maxHeartbeats 8000000 in
theorem awake55_any (w : World) : Calls Tryz.prog 12 #[] w fun e w' => e = .returned (.bool true) ∧ Below w.heap.size w w' := by
  have hU : Hid (gErr 3 triE = 0 → Uf (forest triE) (eL triE)) := forest_ok 3 triE
  go_enter Tryz.func12, Tryz.ntmps12
  go_wp2_with (first
    | (go_at_call 39; refine (tri18_any _).mono ?_; rintro e w2 ⟨g, rfl, hE, hb2⟩; have HE := hide hE; have HB2 := hide hb2; clear hE hb2)
    | (go_at_call 19; refine (nsand_any 3 triE _ 3 (Ge w.heap.size) _ (HE.out.below edgR_ok (bnew (Below.refl _ _) _)) (by decide) (by decide) (forest triE) hU 0 [0, 2, 1] (some ⟨w2.heap.size, 0, none⟩) 3 All (by have h := ints_lit (F := All) (G := All) w2 3 [0, 2, 1] (by intro x hx; simp at hx; rcases hx with rfl | rfl | rfl <;> exact i64n (by decide)) trivial; simpa using h) (by decide) (by decide)).mono ?_
       rw [tn_sand]
       rintro e w4 ⟨v, rfl, ⟨oq, cq, os, cs, ow, cw, hv, h1, h2, h3, hp, hs, ht⟩, hb4⟩
       have hv' : v = .agg #[.slice oq 3 cq, .slice os 3 cs, .slice ow 3 cw] := hv
       subst hv'
       have HN4 : Hid (NxAt w4 oq os ow triN) := ⟨hp, hs, ht⟩
       have HB4 := hide (HB2.out.trans ((bnew (Below.refl _ _) _).trans (hb4.mono (by rw [alloc_size']; omega)) |>.mono HB2.out.size))
       obtain ⟨W5, e5⟩ : ∃ W5, w4.alloc (.cells #[.slice oq 3 cq, .slice os 3 cs, .slice ow 3 cw] 26) = W5 := ⟨_, rfl⟩
       have hx5 : Box W5 w4.heap.size [.slice oq 3 cq, .slice os 3 cs, .slice ow 3 cw] 26 := (by rw [← e5]; exact Box.new w4 [.slice oq 3 cq, .slice os 3 cs, .slice ow 3 cw] 26)
       have hb5 : Below w4.heap.size w4 W5 := (by rw [← e5]; exact bnew (Below.refl _ _) _)
       have HN5 := hide (HN4.out.below hb5)
       have HB5 := hide (HB4.out.trans (hb5.mono HB4.out.size))
       have HX5 := hide hx5
       have k0 := hx5.cell 0
       have k1 := hx5.cell 1
       have k2 := hx5.cell 2
       simp only [List.getElem?_cons_zero, List.getElem?_cons_succ] at k0 k1 k2
       clear hv h1 h2 h3 hp hs ht hb4 hx5 hb5)
    | (go_at_call 40; refine (nmv_any triN oq cq os cs ow cw All W5 HN5.out.1 HN5.out.2.1 HN5.out.2.2 tn_ok).mono ?_
       rw [tn_moves]
       rintro e w6 ⟨v6, rfl, h6, hb6⟩
       obtain ⟨o6, c6, hv6, _, hs6⟩ := h6.slice mvR_ok
       have hv6' : v6 = .slice o6 2 c6 := hv6
       subst hv6'
       have HM6 : Hid (SliceR mvR 2 All w6 o6 [(1, 0), (2, 0)]) := hs6.all mvR_ok (by decide)
       have HN6 := hide (HN5.out.below hb6)
       have HB6 := hide (HB5.out.trans (hb6.mono HB5.out.size))
       have hx6 := HX5.out.below hb6
       have HX6 := hide hx6
       have k0 := hx6.cell 0
       have k1 := hx6.cell 1
       have k2 := hx6.cell 2
       simp only [List.getElem?_cons_zero, List.getElem?_cons_succ] at k0 k1 k2
       clear h6 hv6 hs6 hb6 hx6)
    | (go_at_call 13; first
       | (refine (nrun_any triN oq cq os cs ow cw [0] (some ⟨w6.heap.size, 0, none⟩) 1 100 All (w6.alloc (.cells #[.int .i64 0] 3)) (HN6.out.below (bnew (Below.refl _ _) _)).1 (HN6.out.below (bnew (Below.refl _ _) _)).2.1 (HN6.out.below (bnew (Below.refl _ _) _)).2.2 tn_ok (intlF w6 0 (i64n (by decide)) trivial) (by decide) (by decide) (by decide) tri_few).mono ?_
          rw [tn_run]
          rintro e w8 ⟨v, oc, cc, rfl, ⟨oq2, cq2, os2, cs2, ow2, cw2, hv, h1, h2, h3, hp, hs, ht⟩, hcc, hct, hb8⟩
          have hv' : v = .agg #[.slice oq2 3 cq2, .slice os2 3 cs2, .slice ow2 3 cw2] := hv
          subst hv'
          have hbb : Below w6.heap.size w6 w8 := (bnew (Below.refl _ _) _).trans (hb8.mono (by rw [alloc_size']; omega))
          have HS8 : Hid (SliceR intR 1 All w8 os2 [0, 1, 0]) := hs
          have HCT8 : Hid (SliceR (slcR intR 1) 1 All w8 oc [[2], [3], [2]]) := hct
          have HC8 : Hid (3 ≤ cc) := hcc
          have HCS2 : Hid (3 ≤ cs2) := h2
          obtain ⟨W9, e9⟩ : ∃ W9, w8.alloc (.cells #[.slice oq2 3 cq2, .slice os2 3 cs2, .slice ow2 3 cw2] 26) = W9 := ⟨_, rfl⟩
          have hx9 : Box W9 w8.heap.size [.slice oq2 3 cq2, .slice os2 3 cs2, .slice ow2 3 cw2] 26 := (by rw [← e9]; exact Box.new w8 [.slice oq2 3 cq2, .slice os2 3 cs2, .slice ow2 3 cw2] 26)
          have hb9 : Below w8.heap.size w8 W9 := (by rw [← e9]; exact bnew (Below.refl _ _) _)
          have hb69 : Below w6.heap.size w6 W9 := hbb.trans (hb9.mono hbb.size)
          have HS9 := hide (HS8.out.below intR_ok hb9)
          have HCT9 := hide (HCT8.out.below (slcR_ok intR_ok (by decide)) hb9)
          have HM9 := hide (HM6.out.below mvR_ok hb69)
          have HN9 := hide (HN6.out.below hb69)
          have HB9 := hide (HB6.out.trans (hb69.mono HB6.out.size))
          have hx1 := HX6.out.below hb69
          have HX9 := hide hx1
          have HY9 := hide hx9
          have k0 := hx1.cell 0
          have k1 := hx1.cell 1
          have k2 := hx1.cell 2
          have l1 := hx9.cell 1
          simp only [List.getElem?_cons_zero, List.getElem?_cons_succ] at k0 k1 k2 l1
          clear hv h1 h2 h3 hp hs ht hb8 hx9 hb9 hbb hb69 hx1 hct hcc))
    | (go_at_call 41; refine (eqMv2_any o6 (some ⟨W9.heap.size, 0, none⟩) c6 2 All All (mv2Lit W9) (HM9.out.below mvR_ok (bnew (Below.refl _ _) _)) (mv2_lit W9)).mono ?_
       rintro e w10 ⟨rfl, hb10⟩
       have hb : Below W9.heap.size W9 w10 := (bnew (Below.refl _ _) _).trans (hb10.mono (by unfold mv2Lit; rw [alloc_size']; omega))
       have hy := HY9.out.below hb
       have l1 := hy.cell 1
       simp only [List.getElem?_cons_zero, List.getElem?_cons_succ] at l1
       have HB10 := hide hb
       clear hb10 hb hy))
  -- the state
  refine (equalInt_any [0, 1, 0] [0, 1, 0] os2 (some ⟨w10.heap.size, 0, none⟩) cs2 3 All _ ((HS9.out.below intR_ok HB10.out).below intR_ok (bnew (Below.refl _ _) _)) (by have h := ints_lit (F := All) (G := All) w10 3 [0, 1, 0] (by intro x hx; simp at hx; rcases hx with rfl | rfl | rfl <;> exact i64n (by decide)) trivial; simpa using h) HCS2.out (by decide)).mono ?_
  rintro e w11 ⟨rfl, hb11⟩
  have hb9_11 : Below W9.heap.size W9 w11 := HB10.out.trans (((bnew (Below.refl _ _) _).trans (hb11.mono (by rw [alloc_size']; omega))).mono HB10.out.size)
  have HB11 := hide hb9_11
  rw [show decide (([0, 1, 0] : List Int) = [0, 1, 0]) = true from rfl]
  clear hb11 hb9_11
  go_wp2_with fail
  refine (sameTables_any [[2], [3], [2]] [[2], [3], [2]] oc (some ⟨w11.heap.size + 1 + 1 + 1, 0, none⟩) cc 3 All All (tab3W w11 2 3 2) ((HCT9.out.below (slcR_ok intR_ok (by decide)) HB11.out).below (slcR_ok intR_ok (by decide)) (tab3_below _ _ _ _)) (tab3_lit w11 2 3 2 (i64n (by decide)) (i64n (by decide)) (i64n (by decide))) (by decide)).mono ?_
  rintro e w12 hq
  obtain ⟨rfl, hb12⟩ := hq.below
  have hb9_12 : Below W9.heap.size W9 w12 := HB11.out.trans (((tab3_below w11 2 3 2).trans (hb12.mono (tab3_below w11 2 3 2).size)).mono HB11.out.size)
  rw [show decide (([[2], [3], [2]] : List (List Int)) = [[2], [3], [2]]) = true from rfl]
  have HB12 := hide hb9_12
  have hx1 := HX9.out.below hb9_12
  have k0 := hx1.cell 0
  have k1 := hx1.cell 1
  have k2 := hx1.cell 2
  simp only [List.getElem?_cons_zero, List.getElem?_cons_succ] at k0 k1 k2
  clear hb12 hb9_12 hq hx1
  go_wp2_with fail
  -- Complete, three times
  have HN12 := hide (HN9.out.below HB12.out)
  refine (ncomplete_any triN oq cq os cs ow cw All w12 HN12.out.1 (by decide) HN12.out.2.1 (by decide) HN12.out.2.2 (by decide) [[2], [3], [2]] oc cc All (HCT9.out.below (slcR_ok intR_ok (by decide)) HB12.out) HC8.out (by decide)).mono ?_
  rw [tn_c1]
  rintro e w13 ⟨rfl, hb13⟩
  have HB13 := hide (HB12.out.trans (hb13.mono HB12.out.size))
  have HN13 := hide (HN12.out.below hb13)
  have hx1 := HX9.out.below HB13.out
  have k0 := hx1.cell 0
  have k1 := hx1.cell 1
  have k2 := hx1.cell 2
  simp only [List.getElem?_cons_zero, List.getElem?_cons_succ] at k0 k1 k2
  clear hb13 hx1
  go_wp2_with fail
  refine (ncomplete_any triN oq cq os cs ow cw All (tab3W w13 4 4 3) (HN13.out.below (tab3_below _ _ _ _)).1 (by decide) (HN13.out.below (tab3_below _ _ _ _)).2.1 (by decide) (HN13.out.below (tab3_below _ _ _ _)).2.2 (by decide) [[4], [4], [3]] (some ⟨w13.heap.size + 1 + 1 + 1, 0, none⟩) 3 All (tab3_lit w13 4 4 3 (i64n (by decide)) (i64n (by decide)) (i64n (by decide))) (by decide) (by decide)).mono ?_
  rw [tn_c2]
  rintro e w14 ⟨rfl, hb14⟩
  have hb1314 : Below w13.heap.size w13 w14 := (tab3_below w13 4 4 3).trans (hb14.mono (tab3_below w13 4 4 3).size)
  have HB14 := hide (HB13.out.trans (hb1314.mono HB13.out.size))
  have HN14 := hide (HN13.out.below hb1314)
  have hx1 := HX9.out.below HB14.out
  have k0 := hx1.cell 0
  have k1 := hx1.cell 1
  have k2 := hx1.cell 2
  simp only [List.getElem?_cons_zero, List.getElem?_cons_succ] at k0 k1 k2
  clear hb14 hb1314 hx1
  go_wp2_with fail
  refine (ncomplete_any triN oq cq os cs ow cw All (tab3W w14 2 2 1) (HN14.out.below (tab3_below _ _ _ _)).1 (by decide) (HN14.out.below (tab3_below _ _ _ _)).2.1 (by decide) (HN14.out.below (tab3_below _ _ _ _)).2.2 (by decide) [[2], [2], [1]] (some ⟨w14.heap.size + 1 + 1 + 1, 0, none⟩) 3 All (tab3_lit w14 2 2 1 (i64n (by decide)) (i64n (by decide)) (i64n (by decide))) (by decide) (by decide)).mono ?_
  rw [tn_c3]
  rintro e w15 ⟨rfl, hb15⟩
  have hb1415 : Below w14.heap.size w14 w15 := (tab3_below w14 2 2 1).trans (hb15.mono (tab3_below w14 2 2 1).size)
  have HB15 := hide (HB14.out.trans (hb1415.mono HB14.out.size))
  have HN15 := hide (HN14.out.below hb1415)
  have hx1 := HX9.out.below HB15.out
  have k0 := hx1.cell 0
  have k1 := hx1.cell 1
  have k2 := hx1.cell 2
  simp only [List.getElem?_cons_zero, List.getElem?_cons_succ] at k0 k1 k2
  clear hb15 hb1415 hx1
  go_wp2_with fail
  refine (nabelian_any triN oq cq os cs ow cw All w15 HN15.out.1 (by decide) HN15.out.2.1 (by decide) HN15.out.2.2 (by decide)).mono ?_
  rw [tn_nab]
  rintro e w16 ⟨rfl, hb16⟩
  have HB16 := hide (HB9.out.trans ((HB15.out.trans (hb16.mono HB15.out.size)).mono HB9.out.size))
  clear hb16 k0 k1 k2
  go_wp2_with fail
  -- the rotors
  refine (tri45_any w16).mono ?_
  rintro e w17 ⟨g2, h2, rfl, hE2, hA2, hb17⟩
  have HE2 := hide hE2
  have HA2 := hide hA2
  have HB17 := hide (HB16.out.trans (hb17.mono HB16.out.size))
  clear hE2 hA2 hb17
  go_wp2_with fail
  have hz1 : SliceR intR 1 All ((w17.alloc (.cells #[.int .i64 0, .int .i64 0, .int .i64 0] 3)).alloc (.cells #[.int .i64 0, .int .i64 1, .int .i64 0] 3)) (some ⟨w17.heap.size, 0, none⟩) [0, 0, 0] := by
    have h := ints_lit (F := All) (G := All) w17 3 [0, 0, 0] (by intro x hx; simp at hx; subst hx; exact i64n (by decide)) trivial
    simp only [List.map_cons, List.map_nil] at h
    exact h.below intR_ok (bnew (Below.refl _ _) _)
  have hz2 : SliceR intR 1 All ((w17.alloc (.cells #[.int .i64 0, .int .i64 0, .int .i64 0] 3)).alloc (.cells #[.int .i64 0, .int .i64 1, .int .i64 0] 3)) (some ⟨w17.heap.size + 1, 0, none⟩) [0, 1, 0] := by
    have h := ints_lit (F := All) (G := All) (w17.alloc (.cells #[.int .i64 0, .int .i64 0, .int .i64 0] 3)) 3 [0, 1, 0] (by intro x hx; simp at hx; rcases hx with rfl | rfl | rfl <;> exact i64n (by decide)) trivial
    rw [alloc_size'] at h
    simpa using h
  have hbz : Below w17.heap.size w17 ((w17.alloc (.cells #[.int .i64 0, .int .i64 0, .int .i64 0] 3)).alloc (.cells #[.int .i64 0, .int .i64 1, .int .i64 0] 3)) := bnew (bnew (Below.refl _ _) _) _
  have HBZ := hide hbz
  refine (nrout_any 3 triE (some ⟨g2, 0, none⟩) 3 triA (some ⟨h2, 0, none⟩) 3 All All _ (HE2.out.below edgR_ok hbz) (by decide) (by decide) (HA2.out.below (slcR_ok intR_ok (by decide)) hbz) (by decide) (by decide) (forest triE) hU 0 [0, 0, 0] (some ⟨w17.heap.size, 0, none⟩) 3 All hz1 (by decide) (by decide) [0, 1, 0] (some ⟨w17.heap.size + 1, 0, none⟩) 3 All hz2 (by decide) (by decide)).mono ?_
  rw [tn_rout]
  rintro e w18 ⟨v, rfl, ⟨oz, cz, osz, csz, owz, cwz, hv, h1, h2', h3, hp, hs, ht⟩, hb18⟩
  have hv' : v = .agg #[.slice oz 3 cz, .slice osz 3 csz, .slice owz 3 cwz] := hv
  subst hv'
  have HN18 : Hid (NxAt w18 oz osz owz triZ) := ⟨hp, hs, ht⟩
  have HB18 := hide (HB17.out.trans ((HBZ.out.trans (hb18.mono HBZ.out.size)).mono HB17.out.size))
  obtain ⟨W19, e19⟩ : ∃ W19, w18.alloc (.cells #[.slice oz 3 cz, .slice osz 3 csz, .slice owz 3 cwz] 26) = W19 := ⟨_, rfl⟩
  have hx19 : Box W19 w18.heap.size [.slice oz 3 cz, .slice osz 3 csz, .slice owz 3 cwz] 26 := by rw [← e19]; exact Box.new w18 [.slice oz 3 cz, .slice osz 3 csz, .slice owz 3 cwz] 26
  have hb19 : Below w18.heap.size w18 W19 := by rw [← e19]; exact bnew (Below.refl _ _) _
  have HN19 := hide (HN18.out.below hb19)
  have HB19 := hide (HB18.out.trans (hb19.mono HB18.out.size))
  have k0 := hx19.cell 0
  have k1 := hx19.cell 1
  have k2 := hx19.cell 2
  simp only [List.getElem?_cons_zero, List.getElem?_cons_succ] at k0 k1 k2
  clear hv h1 h2' h3 hp hs ht hb18 hz1 hz2 hbz hx19 hb19
  go_wp2_with fail
  have HNR := hide (nrun_any triZ oz cz osz csz owz cwz [3] (some ⟨W19.heap.size, 0, none⟩) 1 100 All (W19.alloc (.cells #[.int .i64 3] 3)) (HN19.out.below (bnew (Below.refl _ _) _)).1 (HN19.out.below (bnew (Below.refl _ _) _)).2.1 (HN19.out.below (bnew (Below.refl _ _) _)).2.2 tz_ok (intlF W19 3 (i64n (by decide)) trivial) (by decide) (by decide) (by decide) triZ_few)
  obtain ⟨r, hr⟩ : ∃ r, r = runX [3] 100 0 triZ (triZ.procs.map fun p => List.replicate p.letters.toNat (0 : Int)) := ⟨_, rfl⟩
  have hst : r.map (fun r => r.1.state) = some [0, 0, 1] := by rw [hr]; exact tz_run
  rw [← hr] at HNR
  obtain ⟨⟨yz, cz2⟩, hrs, hyst⟩ := Option.map_eq_some_iff.1 hst
  rw [hrs] at HNR
  clear hr hst hrs
  refine HNR.out.mono ?_
  rintro e w20 ⟨v, oc2, cc2, rfl, ⟨oq3, cq3, os3, cs3, ow3, cw3, hv, h1, h2', h3, hp, hs, ht⟩, hcc, hct, hb20⟩
  simp only at hyst
  rw [hyst] at hv h2' hs
  have hv' : v = .agg #[.slice oq3 yz.procs.length cq3, .slice os3 3 cs3, .slice ow3 yz.waiting.length cw3] := hv
  subst hv'
  obtain ⟨np, hnp⟩ : ∃ np, np = yz.procs.length := ⟨_, rfl⟩
  obtain ⟨nw, hnw⟩ : ∃ nw, nw = yz.waiting.length := ⟨_, rfl⟩
  obtain ⟨nc, hnc⟩ : ∃ nc, nc = cz2.length := ⟨_, rfl⟩
  rw [← hnp, ← hnw, ← hnc]
  have HS20 := hide hs
  have HCS3 : Hid (3 ≤ cs3) := h2'
  have HB20 := hide (HB19.out.trans (((bnew (Below.refl _ _) _).trans (hb20.mono (by rw [alloc_size']; omega))).mono HB19.out.size))
  obtain ⟨W21, e21⟩ : ∃ W21, w20.alloc (.cells #[.slice oq3 np cq3, .slice os3 3 cs3, .slice ow3 nw cw3] 26) = W21 := ⟨_, rfl⟩
  have hx21 : Box W21 w20.heap.size [.slice oq3 np cq3, .slice os3 3 cs3, .slice ow3 nw cw3] 26 := by rw [← e21]; exact Box.new w20 [.slice oq3 np cq3, .slice os3 3 cs3, .slice ow3 nw cw3] 26
  have hb21 : Below w20.heap.size w20 W21 := by rw [← e21]; exact bnew (Below.refl _ _) _
  have HS21 := hide (HS20.out.below intR_ok hb21)
  have HB21 := hide (HB20.out.trans (hb21.mono HB20.out.size))
  have m1 := hx21.cell 1
  simp only [List.getElem?_cons_zero, List.getElem?_cons_succ] at m1
  clear hv h1 h2' h3 hp hs ht hb20 hct hcc hyst hx21 hb21 hnp hnw hnc k0 k1 k2
  go_wp2_with fail
  refine (equalInt_any [0, 0, 1] [0, 0, 1] os3 (some ⟨W21.heap.size, 0, none⟩) cs3 3 All _ (HS21.out.below intR_ok (bnew (Below.refl _ _) _)) (by have h := ints_lit (F := All) (G := All) W21 3 [0, 0, 1] (by intro x hx; simp at hx; rcases hx with rfl | rfl | rfl <;> exact i64n (by decide)) trivial; simpa using h) HCS3.out (by decide)).mono ?_
  rintro e w22 ⟨rfl, hb22⟩
  have HB22 := hide (HB21.out.trans (((bnew (Below.refl _ _) _).trans (hb22.mono (by rw [alloc_size']; omega))).mono HB21.out.size))
  rw [show decide (([0, 0, 1] : List Int) = [0, 0, 1]) = true from rfl]
  clear hb22
  go_wp2_with fail
  go_ret
  exact ⟨rfl, HB22.out⟩

end Go.Proofs.YtnigfddanoaonaaGreat

set_option linter.unusedVariables false
set_option linter.unusedSimpArgs false
namespace Go.Proofs.YtnigfddanoaonaaGreat
open Go.RowKit

end Go.Proofs.YtnigfddanoaonaaGreat

set_option linter.unusedVariables false
set_option linter.unusedSimpArgs false
namespace Go.Proofs.YtnigfddanoaonaaGreat
open Go.RowKit

def AggPost (F : Foot) (w : World) (p : Prc) (e : Ending) (w' : World) : Prop := ∃ cs, e = .returned (.agg cs.toArray) ∧ prcR F w' cs p ∧ Below w.heap.size w w'

end Go.Proofs.YtnigfddanoaonaaGreat

set_option linter.unusedVariables false
set_option linter.unusedSimpArgs false
namespace Go.Proofs.YtnigfddanoaonaaGreat
open Go.RowKit

def sumI (f : Nat → Int) : Nat → Int
  | 0 => 0
  | n + 1 => sumI f n + f n
theorem sumI_le {f g : Nat → Int} : ∀ {n : Nat}, (∀ p, p < n → f p ≤ g p) → sumI f n ≤ sumI g n
  | 0, _ => Int.le_refl _
  | n + 1, h => by
    have h1 := sumI_le (n := n) fun p hp => h p (by omega)
    have h2 := h n (by omega)
    simp only [sumI]
    omega
theorem sumI_eq {f g : Nat → Int} {n : Nat} (h : ∀ p, p < n → f p = g p) : sumI f n = sumI g n :=
  Int.le_antisymm (sumI_le fun p hp => by rw [h p hp]; exact Int.le_refl _) (sumI_le fun p hp => by rw [h p hp]; exact Int.le_refl _)
theorem sumI_one {f g : Nat → Int} {k : Nat} : ∀ {n : Nat}, k < n → (∀ p, p < n → p ≠ k → f p = g p) → sumI f n = sumI g n + (f k - g k)
  | 0, h, _ => by omega
  | n + 1, h, he => by
    simp only [sumI]
    by_cases hk : k = n
    · subst hk
      rw [sumI_eq fun p hp => he p (by omega) (by omega)]
      omega
    · have h1 := sumI_one (n := n) (k := k) (by omega) fun p hp hne => he p (by omega) hne
      rw [he n (by omega) (by omega), h1]
      omega
theorem sumI_nn {f : Nat → Int} {n : Nat} (h : ∀ p, p < n → 0 ≤ f p) : 0 ≤ sumI f n := by
  have h1 := sumI_le (f := fun _ => 0) (g := f) (n := n) h
  have h2 : ∀ n, sumI (fun _ => 0) n = 0 := fun n => by
    induction n with
    | zero => rfl
    | succ n ih => simp only [sumI]; omega
  rw [h2] at h1
  exact h1
theorem sumI_mem {f : Nat → Int} : ∀ {n k : Nat}, (∀ p, p < n → 0 ≤ f p) → k < n → f k ≤ sumI f n
  | 0, k, _, hk => by omega
  | n + 1, k, h, hk => by
    simp only [sumI]
    by_cases e : k = n
    · subst e
      have := sumI_nn (n := k) (f := f) fun p hp => h p (by omega)
      omega
    · have := sumI_mem (n := n) (k := k) (fun p hp => h p (by omega)) (by omega)
      have := h n (by omega)
      omega
theorem sumI_bound {f : Nat → Int} {c : Int} : ∀ {n : Nat}, (∀ p, p < n → f p ≤ c) → sumI f n ≤ n * c
  | 0, _ => by simp [sumI]
  | n + 1, h => by
    have h1 := sumI_bound (n := n) fun p hp => h p (by omega)
    have h2 := h n (by omega)
    have h3 : ((n + 1 : Nat) : Int) * c = (n : Int) * c + c := by push_cast; rw [Int.add_mul, Int.one_mul]
    simp only [sumI]
    omega

section
variable {n q : Nat} {R : Nat → Nat → Int} {D : Nat → Int}
def vlR (n : Nat) (R : Nat → Nat → Int) (v : Nat) : Int := sumI (R v) n
/-- The chips when each vertex w has fired u w times. -/
def cfg (n : Nat) (R : Nat → Nat → Int) (D : Nat → Int) (u : Nat → Nat) (v : Nat) : Int := D v - vlR n R v * (u v : Int) + sumI (fun w => R w v * (u w : Int)) n
def upU (u : Nat → Nat) (x t : Nat) : Nat → Nat := fun v => if v = x then u v + t else u v
theorem upU_at (u : Nat → Nat) (x t : Nat) : upU u x t x = u x + t := if_pos rfl
theorem upU_ne (u : Nat → Nat) {x v : Nat} (t : Nat) (h : v ≠ x) : upU u x t v = u v := if_neg h
theorem upU_zero (u : Nat → Nat) (x : Nat) : upU u x 0 = u := by funext v; unfold upU; split <;> simp
theorem upU_up (u : Nat → Nat) (x t s : Nat) : upU (upU u x t) x s = upU u x (t + s) := by
  funext v
  unfold upU
  split <;> omega
theorem cfg_up (u : Nat → Nat) {x : Nat} (hx : x < n) (t v : Nat) : cfg n R D (upU u x t) v = cfg n R D u v - (if v = x then vlR n R x * (t : Int) else 0) + R x v * (t : Int) := by
  have h1 := sumI_one (f := fun w => R w v * ((upU u x t w : Nat) : Int)) (g := fun w => R w v * (u w : Int)) hx fun p hp hne => by rw [upU_ne u t hne]
  simp only [upU_at] at h1
  unfold cfg
  rw [h1]
  have h2 : R x v * ((u x + t : Nat) : Int) = R x v * (u x : Int) + R x v * (t : Int) := by push_cast; rw [Int.mul_add]
  rw [h2]
  by_cases e : v = x
  · subst e
    rw [upU_at, if_pos rfl]
    have h3 : vlR n R v * ((u v + t : Nat) : Int) = vlR n R v * (u v : Int) + vlR n R v * (t : Int) := by push_cast; rw [Int.mul_add]
    rw [h3]
    omega
  · rw [upU_ne u t e, if_neg e]
    omega
/-- What legal firings come to. -/
inductive Leg (n q : Nat) (R : Nat → Nat → Int) (D : Nat → Int) : (Nat → Nat) → Prop
  | zero : Leg n q R D fun _ => 0
  | fire {u : Nat → Nat} {v : Nat} : Leg n q R D u → v < n → v ≠ q → vlR n R v ≤ cfg n R D u v → Leg n q R D (upU u v 1)
def Stab (n q : Nat) (R : Nat → Nat → Int) (D : Nat → Int) (u : Nat → Nat) : Prop := ∀ v, v < n → v ≠ q → cfg n R D u v < vlR n R v
theorem cfg_mono (hR : ∀ v w, v < n → w < n → 0 ≤ R v w) {u g : Nat → Nat} (h : ∀ v, v < n → u v ≤ g v) {v : Nat} (hv : v < n) (he : u v = g v) : cfg n R D u v ≤ cfg n R D g v := by
  have h1 := sumI_le (f := fun w => R w v * (u w : Int)) (g := fun w => R w v * (g w : Int)) (n := n) fun p hp => Int.mul_le_mul_of_nonneg_left (by have := h p hp; omega) (hR p v hp hv)
  unfold cfg
  rw [he]
  omega
theorem Leg.least (hR : ∀ v w, v < n → w < n → 0 ≤ R v w) {g : Nat → Nat} (hs : Stab n q R D g) {u : Nat → Nat} (h : Leg n q R D u) : ∀ v, v < n → u v ≤ g v := by
  induction h with
  | zero => exact fun v _ => Nat.zero_le _
  | @fire u x hu hx hq hc ih =>
    intro v hv
    by_cases e : v = x
    · subst e
      rw [upU_at]
      have h1 := ih v hv
      by_cases h2 : u v = g v
      · have h3 := cfg_mono hR ih hv h2 (D := D)
        have h4 := hs v hv hq
        omega
      · omega
    · rw [upU_ne u 1 e]
      exact ih v hv
theorem Leg.same (hR : ∀ v w, v < n → w < n → 0 ≤ R v w) {u g : Nat → Nat} (hu : Leg n q R D u) (su : Stab n q R D u) (hg : Leg n q R D g) (sg : Stab n q R D g) : ∀ v, v < n → u v = g v := fun v hv =>
  Nat.le_antisymm (hu.least hR sg v hv) (hg.least hR su v hv)
theorem Leg.many {u : Nat → Nat} (h : Leg n q R D u) {v : Nat} (hv : v < n) (hq : v ≠ q) (h0 : R v v = 0) : ∀ t : Nat, vlR n R v * (t : Int) ≤ cfg n R D u v → 0 ≤ vlR n R v → Leg n q R D (upU u v t)
  | 0, _, _ => by rw [upU_zero]; exact h
  | t + 1, hc, hp => by
    have e : vlR n R v * ((t + 1 : Nat) : Int) = vlR n R v * (t : Int) + vlR n R v := by push_cast; rw [Int.mul_add, Int.mul_one]
    rw [e] at hc
    have ih := Leg.many h hv hq h0 t (by omega) hp
    rw [← upU_up u v t 1]
    refine .fire ih hv hq ?_
    rw [cfg_up u hv, if_pos rfl, h0, Int.zero_mul]
    omega
theorem cfg_same {u g : Nat → Nat} (h : ∀ v, v < n → u v = g v) {v : Nat} (hv : v < n) : cfg n R D u v = cfg n R D g v := by
  unfold cfg
  rw [h v hv, sumI_eq fun w hw => by rw [h w hw]]
theorem sumN_up (u : Nat → Nat) {x : Nat} (hx : x < n) (t : Nat) : sumN (upU u x t) n = sumN u n + t := by
  have h1 := sumN_one (f := upU u x t) (g := u) hx fun p hp hne => upU_ne u t hne
  rw [upU_at] at h1
  omega
theorem cfg_bound (hR : ∀ v w, v < n → w < n → 0 ≤ R v w ∧ R v w ≤ 50) {u : Nat → Nat} {c : Int} (hD : ∀ v, v < n → -c ≤ D v ∧ D v ≤ c) {N : Nat} (hN : sumN u n ≤ N) {v : Nat} (hv : v < n) : cfg n R D u v ≤ c + 50 * N ∧ 0 ≤ vlR n R v ∧ vlR n R v ≤ n * 50 ∧ (u v : Int) ≤ N ∧ -c - vlR n R v * N ≤ cfg n R D u v := by
  have hu : ∀ w, w < n → u w ≤ N := fun w hw => Nat.le_trans (sumN_mem hw) hN
  have h1 : 0 ≤ vlR n R v := sumI_nn fun p hp => (hR v p hv hp).1
  have h2 : vlR n R v ≤ n * 50 := sumI_bound fun p hp => (hR v p hv hp).2
  have h3 : sumI (fun w => R w v * (u w : Int)) n ≤ sumI (fun w => 50 * (u w : Int)) n := sumI_le fun p hp => Int.mul_le_mul_of_nonneg_right (hR p v hp hv).2 (by omega)
  have h4 : ∀ k, sumI (fun w => 50 * (u w : Int)) k = 50 * ((sumN u k : Nat) : Int) := fun k => by
    induction k with
    | zero => rfl
    | succ k ih => simp only [sumI, sumN, ih]; push_cast; omega
  rw [h4] at h3
  have h5 : 0 ≤ sumI (fun w => R w v * (u w : Int)) n := sumI_nn fun p hp => Int.mul_nonneg (hR p v hp hv).1 (by omega)
  have h6 : 0 ≤ vlR n R v * (u v : Int) := Int.mul_nonneg h1 (by omega)
  have h7 : vlR n R v * (u v : Int) ≤ vlR n R v * (N : Int) := Int.mul_le_mul_of_nonneg_left (by have := hu v hv; omega) h1
  have := hD v hv
  have := hu v hv
  unfold cfg
  refine ⟨by omega, h1, h2, by omega, by omega⟩
end

/-- How often two different vertices are joined. -/
def rowR' (es : List Edg) (v w : Nat) : Int := if v = w then 0 else betw es v w
theorem rowR'_range {n : Int} {es : List Edg} (h : gErr n es = 0) (v w : Nat) : 0 ≤ rowR' es v w ∧ rowR' es v w ≤ 50 := by
  unfold rowR'
  split
  · omega
  · exact betw_bound h v w
theorem nbr_sum {n : Int} {es : List Edg} (h : gErr n es = 0) (v : Nat) : ∀ i, ((nbrU es v i).length : Int) = sumI (rowR' es v) i
  | 0 => rfl
  | i + 1 => by
    rw [nbrU_succ, List.length_append, sumI, ← nbr_sum h v i]
    unfold rowR'
    by_cases e : i = v
    · subst e
      simp
    · rw [if_neg e, if_neg (Ne.symm e), List.length_replicate]
      have := betw_bound h (v : Int) (i : Int)
      push_cast
      omega
/-- In a connected graph of two vertices or more each has neighbours. -/
theorem conn_val {N : Nat} {es : List Edg} {f : List Nat} (hU : gErr N es = 0 → Uf f (eL es)) (hj : jErr N es f = 0) {v q : Nat} (hv : v < N) (hq : q < N) (hne : v ≠ q) : 1 ≤ (nbrU es v N).length := by
  have hg : gErr N es = 0 := jErr_zero hj
  have hUf := hU hg
  have h12 := (gErr_zero hg).1
  rcases Nat.eq_zero_or_pos (nbrU es v N).length with h0 | h0
  case inr => exact h0
  exfalso
  have hR := nbr_sum hg v N
  rw [h0] at hR
  have hz : ∀ w, w < N → v ≠ w → betw es v w = 0 := fun w hw hvw => by
    have h1 := sumI_mem (f := rowR' es v) (n := N) (k := w) (fun p _ => (rowR'_range hg v p).1) hw
    have h2 := (rowR'_range hg v w).1
    have h3 : rowR' es v w = betw es v w := if_neg hvw
    omega
  have hiso : ∀ w, w < N → w ≠ v → ¬ Tied (eL es) v w := fun w hw hwv ht => by
    have h1 := ht (fun x => if x = v then 1 else 0) fun x hx => by
      unfold eL at hx
      obtain ⟨y, hy, rfl⟩ := List.mem_map.1 hx
      obtain ⟨ya, yb, ym, _⟩ := (gErr_zero hg).2.1 y hy
      simp only
      by_cases ea : y.a.toNat = v
      · by_cases eb : y.b.toNat = v
        · rw [if_pos ea, if_pos eb]
        · exfalso
          have h2 := (betw_of (gErr_zero hg).2.2 (a := (v : Int)) (b := ((y.b.toNat : Nat) : Int))).1 y hy (by have := (gErr_zero hg).2.1 y hy; omega)
          rw [hz y.b.toNat (by omega) (Ne.symm eb)] at h2
          omega
      · by_cases eb : y.b.toNat = v
        · exfalso
          have h2 := (betw_of (gErr_zero hg).2.2 (a := (v : Int)) (b := ((y.a.toNat : Nat) : Int))).1 y hy (by have := (gErr_zero hg).2.1 y hy; omega)
          rw [hz y.a.toNat (by omega) (Ne.symm ea)] at h2
          omega
        · rw [if_neg ea, if_neg eb]
    simp [hwv] at h1
  have hp : cnt f N = 1 := by
    unfold jErr at hj
    rw [if_pos hg] at hj
    split at hj
    · rename_i h1
      unfold partsN at h1
      rw [if_pos hg] at h1
      simpa using h1
    · cases hj
  have two : ∀ a b, a < N → b < N → rootF f a = a → rootF f b = b → a = b := fun a b ha hb ea eb => by
    unfold cnt at hp
    obtain ⟨x, hx⟩ := List.length_eq_one_iff.1 hp
    have h1 : a ∈ (List.range N).filter fun v => rootF f v == v := List.mem_filter.2 ⟨List.mem_range.2 ha, by simp [ea]⟩
    have h2 : b ∈ (List.range N).filter fun v => rootF f v == v := List.mem_filter.2 ⟨List.mem_range.2 hb, by simp [eb]⟩
    rw [hx, List.mem_singleton] at h1 h2
    rw [h1, h2]
  have r0 : rootF f 0 = 0 := (hUf.least (by omega)).2 fun u hu => by omega
  by_cases h : v = 0
  · subst h
    have r1 : rootF f 1 = 1 := (hUf.least (by omega)).2 fun u hu => by
      have : u = 0 := by omega
      subst this
      exact hiso 1 (by omega) (by omega)
    exact absurd (two 0 1 (by omega) (by omega) r0 r1) (by omega)
  · have rv : rootF f v = v := (hUf.least (by omega)).2 fun u hu ht => hiso u (by omega) (by omega) ht.symm
    exact absurd (two 0 v (by omega) hv r0 rv) (by omega)

end Go.Proofs.YtnigfddanoaonaaGreat

set_option linter.unusedVariables false
set_option linter.unusedSimpArgs false
namespace Go.Proofs.YtnigfddanoaonaaGreat
open Go.RowKit

def lst (n : Nat) (f : Nat → Int) : List Int := (List.range n).map f
theorem lst_len (n : Nat) (f : Nat → Int) : (lst n f).length = n := by simp [lst]
theorem lst_get {n i : Nat} (f : Nat → Int) (h : i < n) : (lst n f)[i]? = some (f i) := by unfold lst; rw [List.getElem?_map, List.getElem?_range h]; rfl
def updF (f : Nat → Int) (i : Nat) (x : Int) : Nat → Int := fun u => if u = i then x else f u
def updW (f : Nat → Bool) (i : Nat) (x : Bool) : Nat → Bool := fun u => if u = i then x else f u
theorem map_set {α : Type} {n i : Nat} (f : Nat → α) (x : α) : ((List.range n).map f).set i x = (List.range n).map fun u => if u = i then x else f u := by
  apply List.ext_getElem?
  intro j
  rw [List.getElem?_set]
  by_cases e : i = j
  · subst e
    rw [if_pos rfl]
    by_cases hi : i < n
    · rw [if_pos (by simp [hi]), List.getElem?_map, List.getElem?_range hi]
      simp
    · rw [if_neg (by simp; omega), List.getElem?_eq_none (by simp; omega)]
  · rw [if_neg e, List.getElem?_map, List.getElem?_map]
    by_cases hj : j < n
    · rw [List.getElem?_range hj]
      show some (f j) = some (if j = i then x else f j)
      rw [if_neg fun e2 : j = i => e e2.symm]
    · rw [List.getElem?_eq_none (by simp; omega)]
      rfl
theorem lst_set {n i : Nat} (f : Nat → Int) (x : Int) : (lst n f).set i x = lst n (updF f i x) := map_set f x
theorem lst_congr {n : Nat} {f g : Nat → Int} (h : ∀ i, i < n → f i = g i) : lst n f = lst n g := List.map_congr_left fun i hi => h i (List.mem_range.1 hi)

structure PLay where
  p : Nat
  gd : Nat
  cd : Nat
  gv : Nat
  gf : Nat
  tv : Value
  rs : List Rw
  rest : List Value
structure PSt where
  d : Nat → Int
  f : Nat → Int
  tot : Int
  w : Nat → Bool
def pCells (N q : Nat) (L : PLay) (s : PSt) : List Value :=
  [.slice (some ⟨L.gd, 0, none⟩) N L.cd, .int .i64 q, L.tv, .slice (some ⟨L.gv, 0, none⟩) N N, .slice (some ⟨L.gf, 0, none⟩) N N, .int .i64 s.tot] ++ (List.range 12).map fun v => Value.bool (s.w v)
/-- The pile in memory. -/
structure PMem (B N q : Nat) (R : Nat → Nat → Int) (vl : Nat → Int) (L : PLay) (s : PSt) (W : World) : Prop where
  box : Box W L.p (pCells N q L s) 140
  rd : Row1 (Value.int .i64) W L.gd 3 (lst N s.d) L.rest
  rv : Row1 (Value.int .i64) W L.gv 3 (lst N vl) []
  rf : Row1 (Value.int .i64) W L.gf 3 (lst N s.f) []
  tab : RTab B L.tv L.rs W
  tabs : tabL L.rs = (List.range N).map fun v => lst N (R v)
  ne : L.gd ≠ L.gv ∧ L.gd ≠ L.gf ∧ L.gv ≠ L.gf ∧ ∀ r ∈ L.rs, r.g ≠ L.gd ∧ r.g ≠ L.gv ∧ r.g ≠ L.gf
  low : B ≤ L.p ∧ B ≤ L.gd ∧ B ≤ L.gv ∧ B ≤ L.gf
  num : (1 ≤ N ∧ N ≤ 12) ∧ q < N ∧ N ≤ L.cd

section
variable {B N q : Nat} {R : Nat → Nat → Int} {vl : Nat → Int} {L : PLay} {s : PSt} {W W' : World}
theorem PMem.below (h : PMem B N q R vl L s W) (hb : Below W.heap.size W W') : PMem B N q R vl L s W' := ⟨h.box.below hb, h.rd.below hb, h.rv.below hb, h.rf.below hb, h.tab.below hb, h.tabs, h.ne, h.low, h.num⟩
theorem PMem.drewN (h : PMem B N q R vl L s W) (n : Nat) : PMem B N q R vl L s (W.drewN n) := h.below (below_drewN (Below.refl _ _) n)
theorem PMem.pne (h : PMem B N q R vl L s W) : L.p ≠ L.gd ∧ L.p ≠ L.gv ∧ L.p ≠ L.gf ∧ ∀ r ∈ L.rs, r.g ≠ L.p := by
  have key : ∀ {g : Nat} {xs : List Int} {rest : List Value}, Row1 (Value.int .i64) W g 3 xs rest → g ≠ L.p := fun hr => ne_type hr h.box (by decide)
  exact ⟨(key h.rd).symm, (key h.rv).symm, (key h.rf).symm, fun r hr => key (h.tab.row r hr).1⟩
theorem PMem.cells (h : PMem B N q R vl L s W) : W.cell? ⟨L.p, 0, none⟩ = some (.slice (some ⟨L.gd, 0, none⟩) N L.cd) ∧ W.cell? ⟨L.p, 1, none⟩ = some (.int .i64 q) ∧ W.cell? ⟨L.p, 2, none⟩ = some L.tv ∧ W.cell? ⟨L.p, 3, none⟩ = some (.slice (some ⟨L.gv, 0, none⟩) N N) ∧ W.cell? ⟨L.p, 4, none⟩ = some (.slice (some ⟨L.gf, 0, none⟩) N N) ∧ W.cell? ⟨L.p, 5, none⟩ = some (.int .i64 s.tot) := by
  have c0 := h.box.cell 0
  have c1 := h.box.cell 1
  have c2 := h.box.cell 2
  have c3 := h.box.cell 3
  have c4 := h.box.cell 4
  have c5 := h.box.cell 5
  exact ⟨c0, c1, c2, c3, c4, c5⟩
theorem PMem.wait (h : PMem B N q R vl L s W) {v : Nat} (hv : v < 12) : W.cell? ⟨L.p, 6 + v, none⟩ = some (.bool (s.w v)) := by
  have c := h.box.cell (6 + v)
  rw [c]
  unfold pCells
  rw [List.getElem?_append_right (by simp)]
  simp [hv]
theorem PMem.dAt (h : PMem B N q R vl L s W) {v : Nat} (hv : v < N) : W.cell? ⟨L.gd, v, none⟩ = some (.int .i64 (s.d v)) := h.rd.cell (lst_get s.d hv)
theorem PMem.vAt (h : PMem B N q R vl L s W) {v : Nat} (hv : v < N) : W.cell? ⟨L.gv, v, none⟩ = some (.int .i64 (vl v)) := h.rv.cell (lst_get vl hv)
theorem PMem.fAt (h : PMem B N q R vl L s W) {v : Nat} (hv : v < N) : W.cell? ⟨L.gf, v, none⟩ = some (.int .i64 (s.f v)) := h.rf.cell (lst_get s.f hv)
theorem PMem.rsLen (h : PMem B N q R vl L s W) : L.rs.length = N := by
  have := congrArg List.length h.tabs
  unfold tabL at this
  simpa using this
theorem PMem.row (h : PMem B N q R vl L s W) {v : Nat} (hv : v < N) : ∃ r gt ct, L.rs[v]? = some r ∧ L.tv = .slice (some ⟨gt, 0, none⟩) N ct ∧ N ≤ ct ∧ W.cell? ⟨gt, v, none⟩ = some (.slice (some ⟨r.g, 0, none⟩) N r.c) ∧ N ≤ r.c ∧ ∀ u, u < N → W.cell? ⟨r.g, u, none⟩ = some (.int .i64 (R v u)) := by
  have hl := h.rsLen
  obtain ⟨r, hr⟩ : ∃ r, L.rs[v]? = some r := ⟨_, List.getElem?_eq_getElem (by omega)⟩
  have hrl : r.l = lst N (R v) := by
    have h1 : (tabL L.rs)[v]? = some r.l := by unfold tabL; rw [List.getElem?_map, hr]; rfl
    rw [h.tabs, List.getElem?_map, List.getElem?_range hv] at h1
    injection h1 with h1
    exact h1.symm
  obtain ⟨g, cap, ht, hc, _, hcell, hrow, _, hrc, _⟩ := h.tab.get hr
  rw [hl] at ht hc
  rw [hrl, lst_len] at hcell hrc
  rw [hrl] at hrow
  exact ⟨r, g, cap, hr, ht, hc, hcell, hrc, fun u hu => hrow.cell (lst_get (R v) hu)⟩
theorem PMem.tabNe (h : PMem B N q R vl L s W) : ∀ g, L.tv.ownBlock = some g → g ≠ L.p ∧ g ≠ L.gd ∧ g ≠ L.gf := fun g hg => by
  obtain ⟨cur, hcur⟩ := own_heap h.tab.tab hg
  exact ⟨ne_type hcur h.box (by decide), ne_type hcur h.rd (by decide), ne_type hcur h.rf (by decide)⟩
theorem PMem.putD (h : PMem B N q R vl L s W) {i : Nat} (hi : i < N) (x : Int) : PMem B N q R vl L { s with d := updF s.d i x } (W.setCell ⟨L.gd, i, none⟩ (.int .i64 x)) := by
  obtain ⟨n1, n2, n3, n4⟩ := h.ne
  obtain ⟨p1, p2, p3, p4⟩ := h.pne
  refine ⟨h.box.other (by simpa using p1) _, ?_, h.rv.other (by simpa using n1.symm) _, h.rf.other (by simpa using n2.symm) _, h.tab.keep (fun g hg => Below.heap_setCell _ _ _ g (by simpa using (h.tabNe g hg).2.1)) (fun r hr => Below.heap_setCell _ _ _ r.g (by simpa using (n4 r hr).1)), h.tabs, h.ne, h.low, h.num⟩
  have := h.rd.put (i := i) (by rw [lst_len]; exact hi) x
  rw [lst_set] at this
  exact this
theorem PMem.putF (h : PMem B N q R vl L s W) {i : Nat} (hi : i < N) (x : Int) : PMem B N q R vl L { s with f := updF s.f i x } (W.setCell ⟨L.gf, i, none⟩ (.int .i64 x)) := by
  obtain ⟨n1, n2, n3, n4⟩ := h.ne
  obtain ⟨p1, p2, p3, p4⟩ := h.pne
  refine ⟨h.box.other (by simpa using p3) _, h.rd.other (by simpa using n2) _, h.rv.other (by simpa using n3) _, ?_, h.tab.keep (fun g hg => Below.heap_setCell _ _ _ g (by simpa using (h.tabNe g hg).2.2)) (fun r hr => Below.heap_setCell _ _ _ r.g (by simpa using (n4 r hr).2.2)), h.tabs, h.ne, h.low, h.num⟩
  have := h.rf.put (i := i) (by rw [lst_len]; exact hi) x
  rw [lst_set] at this
  exact this
theorem PMem.putP (h : PMem B N q R vl L s W) {s' : PSt} {k : Nat} {x : Value} (hd : s'.d = s.d) (hf : s'.f = s.f) (hc : (pCells N q L s).set k x = pCells N q L s') : PMem B N q R vl L s' (W.setCell ⟨L.p, k, none⟩ x) := by
  obtain ⟨p1, p2, p3, p4⟩ := h.pne
  refine ⟨?_, ?_, h.rv.other (by simpa using p2.symm) _, ?_, h.tab.keep (fun g hg => Below.heap_setCell _ _ _ g (by simpa using (h.tabNe g hg).1)) (fun r hr => Below.heap_setCell _ _ _ r.g (by simpa using p4 r hr)), h.tabs, h.ne, h.low, h.num⟩
  · rw [← hc]; exact h.box.put k x
  · rw [hd]; exact h.rd.other (by simpa using p1.symm) _
  · rw [hf]; exact h.rf.other (by simpa using p3.symm) _
theorem PMem.putW (h : PMem B N q R vl L s W) (i : Nat) (x : Bool) : PMem B N q R vl L { s with w := updW s.w i x } (W.setCell ⟨L.p, 6 + i, none⟩ (.bool x)) := by
  refine h.putP rfl rfl ?_
  unfold pCells
  rw [List.set_append_right _ _ (by simp)]
  simp only [List.length_cons, List.length_nil, Nat.zero_add, Nat.add_sub_cancel_left]
  congr 1
  rw [map_set (fun v => Value.bool (s.w v)) (Value.bool x)]
  refine List.map_congr_left fun j _ => ?_
  unfold updW
  split <;> rfl
theorem PMem.putT (h : PMem B N q R vl L s W) (x : Int) : PMem B N q R vl L { s with tot := x } (W.setCell ⟨L.p, 5, none⟩ (.int .i64 x)) := h.putP rfl rfl rfl

/-- Whether a vertex is unstable. -/
def unst (q : Nat) (vl d : Nat → Int) (v : Nat) : Bool := decide (v ≠ q ∧ vl v ≤ d v)
theorem punst_any (h : PMem B N q R vl L s W) {v : Nat} (hv : v < N) : Calls Tryz.prog 161 #[.pointer (some ⟨L.p, 0, none⟩), .int .i64 v] W (QuietB (unst q vl s.d v) W) := by
  obtain ⟨c0, c1, _, c3, _, _⟩ := h.cells
  have e0 := h.dAt hv
  have e1 := h.vAt hv
  have hcd := h.num.2.2
  have hN : (v : Int) < (N : Int) := by omega
  have h0 : (0 : Int) ≤ (v : Int) := by omega
  by_cases hq : v = q
  · have q1 : ((v : Int) != (q : Int)) = false := by simp [hq]
    have HR : Hid (unst q vl s.d v = false) := decide_eq_false fun hh => hh.1 hq
    clear h hq
    go_enter Tryz.func161, Tryz.ntmps161
    go_wp2_with fail
    go_quiet (fail)
    go_wp2_with fail
    go_ret
    exact ⟨ret_bool HR.out.symm, _, rfl⟩
  · have q1 : ((v : Int) != (q : Int)) = true := by simp; omega
    by_cases hx : vl v ≤ s.d v
    · have q2 : decide (vl v ≤ s.d v) = true := by simp [hx]
      have q3 : decide (s.d v < vl v) = false := by simp; omega
      have HR : Hid (unst q vl s.d v = true) := decide_eq_true ⟨hq, hx⟩
      clear h hq hx
      generalize vl v = x at *
      generalize s.d v = y at *
      go_enter Tryz.func161, Tryz.ntmps161
      go_wp2_with fail
      go_quiet (fail)
      go_wp2_with fail
      go_ret
      exact ⟨ret_bool HR.out.symm, _, rfl⟩
    · have q2 : decide (vl v ≤ s.d v) = false := by simp; omega
      have q3 : decide (s.d v < vl v) = true := by simp; omega
      have HR : Hid (unst q vl s.d v = false) := decide_eq_false fun hh => hx hh.2
      clear h hq hx
      generalize vl v = x at *
      generalize s.d v = y at *
      go_enter Tryz.func161, Tryz.ntmps161
      go_wp2_with fail
      go_quiet (fail)
      go_wp2_with fail
      go_ret
      exact ⟨ret_bool HR.out.symm, _, rfl⟩

def WaitPost (B N q : Nat) (R : Nat → Nat → Int) (vl : Nat → Int) (L : PLay) (s : PSt) (v : Nat) (W : World) (e : Ending) (W' : World) : Prop := e = .returned (.tuple #[]) ∧ PMem B N q R vl L { s with w := updW s.w v (unst q vl s.d v) } W' ∧ Below B W W'
theorem pwait_any (h : PMem B N q R vl L s W) {v : Nat} (hv : v < N) : Calls Tryz.prog 140 #[.pointer (some ⟨L.p, 0, none⟩), .int .i64 v] W (WaitPost B N q R vl L s v W) := by
  have HM := hide h
  have h12 := h.num.1
  have hBW : B ≤ W.heap.size := by have := h.low.1; have := h.box.lt; omega
  have HU : Hid (∀ n, Calls Tryz.prog 161 #[.pointer (some ⟨L.p, 0, none⟩), .int .i64 v] (W.drewN n) (QuietB (unst q vl s.d v) (W.drewN n))) := fun n => punst_any (h.drewN n) hv
  have cw : ∀ n, (W.drewN n).cell? ⟨L.p, 6 + v, none⟩ = some (.bool (s.w v)) := fun n => (h.drewN n).wait (by omega)
  have cf : ∀ n, (W.drewN n).frozen? ⟨L.p, 6 + v, none⟩ = false := fun n => (h.drewN n).box.free (6 + v)
  have c0 := cw 1
  have f0 := cf 1
  have hv12 : (v : Int) < 12 := by omega
  have h0 : (0 : Int) ≤ (v : Int) := by omega
  obtain ⟨b, hb⟩ : ∃ b, unst q vl s.d v = b := ⟨_, rfl⟩
  rw [hb] at HU
  have HBB := hide hb
  clear h hb
  go_enter Tryz.func140, Tryz.ntmps140
  go_wp2_with fail
  go_region_with (go_at_call 161; refine (HU.out 1).mono ?_; rintro e w5 ⟨rfl, m, rfl⟩)
  all_goals
    go_end0
    refine ⟨rfl, by rw [HBB.out]; exact (HM.out.drewN (1 + m)).putW v b, ?_⟩
    exact (below_drewN (Below.refl B W) (1 + m)).setCell HM.out.low.1 _
end

end Go.Proofs.YtnigfddanoaonaaGreat

set_option linter.unusedVariables false
set_option linter.unusedSimpArgs false
namespace Go.Proofs.YtnigfddanoaonaaGreat
open Go.RowKit

section
variable {B N q : Nat} {R : Nat → Nat → Int} {vl : Nat → Int} {L : PLay} {s : PSt} {W W' : World}
/-- The first vertex that waits, or -1. -/
def NextV (w : Nat → Bool) (r : Int) : Prop := (r = -1 ∧ ∀ v, v < 12 → w v = false) ∨ ∃ v : Nat, r = v ∧ v < 12 ∧ w v = true ∧ ∀ u, u < v → w u = false
theorem bidx_any (p : Nat) (f : Nat → Bool) (hc : ∀ v, v < 12 → W.cell? ⟨p, 6 + v, none⟩ = some (.bool (f v))) :
    Calls Tryz.prog 162 #[.slice (some ⟨p, 6, none⟩) 12 12, .bool true] W fun e w' => ∃ r : Int, e = .returned (.int .i64 r) ∧ NextV f r ∧ W = w' := by
  go_enter Tryz.func162, Tryz.ntmps162
  go_wp2_with fail
  go_loop [8] (fun i => ∃ k : Nat, k ≤ 12 ∧ i = .int .i64 k ∧ Hid (∀ u, u < k → f u = false)) (fun i => 12 - (intOf i).toNat)
  case atStart => exact ⟨0, by omega, rfl, fun u hu => by omega⟩
  case round =>
    obtain ⟨k, hk, rfl, HE⟩ := hrel
    by_cases hlt : k < 12
    · have c0 := hc k hlt
      cases hf : f k with
      | true =>
        rw [hf] at c0
        have HF := hide hf
        clear hf hc
        go_wp2_with fail
        go_ret
        exact ⟨_, rfl, Or.inr ⟨k, rfl, hlt, HF.out, HE.out⟩, rfl⟩
      | false =>
        rw [hf] at c0
        have HF : Hid (∀ u, u < k + 1 → f u = false) := fun u hu => by
          by_cases e : u = k
          · subst e; exact hf
          · exact HE.out u (by omega)
        clear hf hc
        go_wp2_with fail
        go_round
        case rel => exact ⟨k + 1, by omega, by go_num, HF⟩
        case measure => simp [intOf]; omega
    · go_wp2_with fail
      go_ret
      exact ⟨_, rfl, Or.inl ⟨rfl, fun v hv => HE.out v (by omega)⟩, rfl⟩
theorem pnext_any (h : PMem B N q R vl L s W) : Calls Tryz.prog 142 #[.pointer (some ⟨L.p, 0, none⟩)] W fun e w' => ∃ r : Int, e = .returned (.int .i64 r) ∧ NextV s.w r ∧ W = w' := by
  have HI := hide (bidx_any L.p s.w fun v hv => h.wait hv)
  clear h
  go_enter Tryz.func142, Tryz.ntmps142
  go_wp2_with (go_at_call 162; refine HI.out.mono ?_; rintro e w5 ⟨r, rfl, hn, rfl⟩)
  go_ret
  exact ⟨_, rfl, hn, rfl⟩

/-- The pile behind firing vertex v t times. -/
def fireD (R : Nat → Nat → Int) (vl : Nat → Int) (d : Nat → Int) (v : Nat) (t : Int) : Nat → Int := fun u => d u - (if u = v then t * vl v else 0) + t * R v u
def fireS (N q : Nat) (R : Nat → Nat → Int) (vl : Nat → Int) (s : PSt) (v : Nat) (t : Int) : PSt :=
  { d := fireD R vl s.d v t, f := updF s.f v (s.f v + t), tot := s.tot + t, w := fun u => if u < N then unst q vl (fireD R vl s.d v t) u else s.w u }
theorem PMem.congr {s' : PSt} (h : PMem B N q R vl L s W) (hd : ∀ u, u < N → s.d u = s'.d u) (hf : ∀ u, u < N → s.f u = s'.f u) (ht : s.tot = s'.tot) (hw : ∀ u, u < 12 → s.w u = s'.w u) : PMem B N q R vl L s' W := by
  refine ⟨?_, ?_, h.rv, ?_, h.tab, h.tabs, h.ne, h.low, h.num⟩
  · have e : pCells N q L s = pCells N q L s' := by
      unfold pCells
      rw [ht]
      congr 1
      exact List.map_congr_left fun v hv => by rw [hw v (List.mem_range.1 hv)]
    rw [← e]; exact h.box
  · rw [← lst_congr hd]; exact h.rd
  · rw [← lst_congr hf]; exact h.rf
/-- What is there behind the first j rounds of fire. -/
def fireJ (q : Nat) (R : Nat → Nat → Int) (vl : Nat → Int) (s : PSt) (v : Nat) (t : Int) (j : Nat) : PSt :=
  { d := fun u => if u < j then fireD R vl s.d v t u else (if u = v then s.d v - t * vl v else s.d u), f := s.f, tot := s.tot, w := fun u => if u < j then unst q vl (fireD R vl s.d v t) u else s.w u }
theorem fireJ_at (s : PSt) (v : Nat) (t : Int) (j : Nat) : (fireJ q R vl s v t j).d j + t * R v j = fireD R vl s.d v t j := by
  unfold fireJ fireD
  simp only
  rw [if_neg (Nat.lt_irrefl j)]
  by_cases e : j = v
  · subst e; rw [if_pos rfl, if_pos rfl]
  · rw [if_neg e, if_neg e]; omega
theorem unst_at {d d' : Nat → Int} {v : Nat} (h : d v = d' v) : unst q vl d v = unst q vl d' v := by unfold unst; rw [h]
def FirePost (B N q : Nat) (R : Nat → Nat → Int) (vl : Nat → Int) (L : PLay) (s : PSt) (W : World) (e : Ending) (W' : World) : Prop := e = .returned (.tuple #[]) ∧ PMem B N q R vl L s W' ∧ Below B W W'

set_option maxRecDepth 100000 in
set_option maxHeartbeats 4000000 in
theorem pfire_any (h : PMem B N q R vl L s W) {v : Nat} (hv : v < N) (t : Int) (ht : 0 ≤ t ∧ t ≤ 1000000) (hd : ∀ u, u < N → -1000000000 ≤ s.d u ∧ s.d u ≤ 1000000000) (hvl : 0 ≤ vl v ∧ vl v ≤ 1000) (hR : ∀ u, u < N → 0 ≤ R v u ∧ R v u ≤ 1000) (hf : -1000000000 ≤ s.f v ∧ s.f v ≤ 1000000000) (htot : -1000000000 ≤ s.tot ∧ s.tot ≤ 1000000000) :
    Calls Tryz.prog 141 #[.pointer (some ⟨L.p, 0, none⟩), .int .i64 v, .int .i64 t] W (FirePost B N q R vl L (fireS N q R vl s v t) W) := by
  have HM := hide h
  have hBW : B ≤ W.heap.size := by have := h.low.1; have := h.box.lt; omega
  obtain ⟨c0, c1, c2, c3, c4, c5⟩ := h.cells
  have e0 := h.dAt hv
  have e1 := h.vAt hv
  have fd := h.rd.free
  have hcd := h.num.2.2
  have h12 := h.num.1
  obtain ⟨r, gt, ct, hr, htv, hct, hcell, hrc, hrow⟩ := h.row hv
  have HV0 : Hid (0 ≤ t * vl v ∧ t * vl v ≤ 1000000000) := ⟨Int.mul_nonneg ht.1 hvl.1, by
    have h1 : t * vl v ≤ 1000000 * 1000 := Int.mul_le_mul ht.2 hvl.2 hvl.1 (by omega)
    omega⟩
  have HR0 : Hid (∀ u, u < N → 0 ≤ t * R v u ∧ t * R v u ≤ 1000000000) := fun u hu => ⟨Int.mul_nonneg ht.1 (hR u hu).1, by
    have h1 : t * R v u ≤ 1000000 * 1000 := Int.mul_le_mul ht.2 (hR u hu).2 (hR u hu).1 (by omega)
    omega⟩
  have HD := hide hd
  have HT := hide (And.intro ht (And.intro hf htot))
  have HTV := hide htv
  rw [htv] at c2
  have hN : (v : Int) < (N : Int) := by omega
  have h0 : (0 : Int) ≤ (v : Int) := by omega
  have k1 := hcell
  have k2 := (h.putD hv (s.d v - t * vl v)).row hv
  have w1 : wrap64 (t * vl v) = t * vl v := by have := HV0.out; unfold wrap64; omega
  have w2 : wrap64 (s.d v - t * vl v) = s.d v - t * vl v := by have := HV0.out; have := HD.out v hv; unfold wrap64; omega
  clear h hvl hR hf htot hd ht hr hrow htv hcell k2
  go_enter Tryz.func141, Tryz.ntmps141
  go_wp2_with fail
  go_region
  have hM1 := (HM.out.putD hv (s.d v - t * vl v)).drewN 1
  have hB1 : Below B W ((W.setCell ⟨L.gd, v, none⟩ (.int .i64 (s.d v - t * vl v))).drewN 1) := below_drewN ((Below.refl B W).setCell HM.out.low.2.1 _) 1
  have hM1' : PMem B N q R vl L { s with d := updF s.d v (s.d v - t * vl v) } (W.setCell ⟨L.gd, v, none⟩ (.int .i64 (s.d v - t * vl v))).drew := hM1
  have hB1' : Below B W (W.setCell ⟨L.gd, v, none⟩ (.int .i64 (s.d v - t * vl v))).drew := hB1
  clear hM1 hB1 w1 w2 c0 c1 c2 c3 c4 c5 e0 e1 fd k1 hrc hct
  generalize (W.setCell ⟨L.gd, v, none⟩ (.int .i64 (s.d v - t * vl v))).drew = W1 at *
  have HM1 : Hid (PMem B N q R vl L (fireJ q R vl s v t 0) W1) := hM1'.congr (fun u hu => by unfold fireJ; simp only; rw [if_neg (Nat.not_lt_zero u)]; rfl) (fun u hu => rfl) rfl (fun u hu => by unfold fireJ; simp only; rw [if_neg (Nat.not_lt_zero u)])
  have HB1 := hide hB1'
  obtain ⟨r, gt, ct, hr, htv, hct, hcell, hrc, hrow⟩ := HM1.out.row hv
  obtain ⟨c0, _, c2, _, _, _⟩ := HM1.out.cells
  rw [htv] at c2
  have HRr := hide hr
  clear hM1' hB1' hr htv hrow
  go_wp2_with fail
  clear c0 c2 hcell hct hrc
  go_loopw [34] (fun iv wr => ∃ j : Nat, j ≤ N ∧ iv = .int .i64 j ∧ Hid (PMem B N q R vl L (fireJ q R vl s v t j) wr) ∧ Hid (Below B W wr)) (fun iv _ => N - (intOf iv).toNat)
  case atStart => exact ⟨0, by omega, rfl, HM1.out, HB1.out⟩
  case round =>
    obtain ⟨j, hj, rfl, HMj, HBj⟩ := hrel
    by_cases hlt : j < N
    · obtain ⟨r2, gt2, ct2, hr2, _, _, _, hrc2, hrow2⟩ := HMj.out.row hv
      rw [HRr.out] at hr2
      injection hr2 with hr2
      subst hr2
      have k0 := hrow2 j hlt
      obtain ⟨c0, _, _, _, _, _⟩ := HMj.out.cells
      have e0 := HMj.out.dAt hlt
      have fd := HMj.out.rd.free
      obtain ⟨y, hy⟩ : ∃ y, y = (fireJ q R vl s v t j).d j := ⟨_, rfl⟩
      have hyx := fireJ_at (q := q) (R := R) (vl := vl) s v t j
      have hyb : -3000000000 ≤ y ∧ y ≤ 3000000000 := by
        have h1 := HD.out j hlt
        have h2 := HV0.out
        rw [hy]
        unfold fireJ
        simp only
        rw [if_neg (Nat.lt_irrefl j)]
        split
        · rename_i e; subst e; omega
        · omega
      rw [← hy] at e0 hyx
      have hMp := HMj.out.putD hlt (y + t * R v j)
      have HC := hide (pwait_any hMp hlt)
      have hxb := HR0.out j hlt
      have HYX := hide hyx
      have w1 : wrap64 (t * R v j) = t * R v j := by unfold wrap64; omega
      have w2 : wrap64 (y + t * R v j) = y + t * R v j := by unfold wrap64; omega
      clear hrow2 hMp hyx hyb hxb hy
      go_wp2_with (go_at_call 140; refine HC.out.mono ?_; rintro e w5 ⟨rfl, hM5, hb5⟩; have HM5 := hide hM5; have HB5 := hide (HBj.out.trans (((Below.refl B _).setCell HMj.out.low.2.1 _).trans hb5)); clear hM5 hb5 w1 w2)
      go_roundw
      case rel =>
        refine ⟨j + 1, by omega, by go_num, ?_, HB5.out⟩
        refine HM5.out.congr (fun u hu => ?_) (fun u hu => rfl) rfl (fun u hu => ?_)
        · show updF (fireJ q R vl s v t j).d j (y + t * R v j) u = (fireJ q R vl s v t (j + 1)).d u
          unfold updF
          rw [HYX.out]
          unfold fireJ
          simp only
          by_cases e : u = j
          · subst e; rw [if_pos rfl, if_pos (by omega)]
          · rw [if_neg e]
            by_cases h1 : u < j
            · rw [if_pos h1, if_pos (by omega)]
            · rw [if_neg h1, if_neg (show ¬ u < j + 1 by omega)]
        · show updW (fireJ q R vl s v t j).w j (unst q vl (updF (fireJ q R vl s v t j).d j (y + t * R v j)) j) u = (fireJ q R vl s v t (j + 1)).w u
          have h1 : unst q vl (updF (fireJ q R vl s v t j).d j (y + t * R v j)) j = unst q vl (fireD R vl s.d v t) j := unst_at (by unfold updF; rw [if_pos rfl, HYX.out])
          rw [h1]
          unfold updW fireJ
          simp only
          by_cases e : u = j
          · subst e; rw [if_pos rfl, if_pos (by omega)]
          · rw [if_neg e]
            by_cases h1 : u < j
            · rw [if_pos h1, if_pos (by omega)]
            · rw [if_neg h1, if_neg (show ¬ u < j + 1 by omega)]
      case measure => simp [intOf]; omega
    · have hjN : j = N := by omega
      subst hjN
      have HC := hide (pwait_any HMj.out hv)
      obtain ⟨b, hb⟩ : ∃ b, b = unst q vl (fireJ q R vl s v t j).d v := ⟨_, rfl⟩
      have HBB := hide hb
      clear hb
      go_wp2_with (go_at_call 140; refine HC.out.mono ?_; rintro e w5 ⟨rfl, hM5, hb5⟩; rw [← HBB.out] at hM5; have HM5 := hide hM5; have HB5 := hide (HBj.out.trans hb5); obtain ⟨_, _, _, _, c4, _⟩ := hM5.cells; have e4 : w5.cell? ⟨L.gf, v, none⟩ = some (.int .i64 (s.f v)) := hM5.fAt hv; have ff := hM5.rf.free; have hM6 := hM5.putF hv (s.f v + t); have HM6 := hide hM6; have f5 := hM6.box.free 5; have c5 : (w5.setCell ⟨L.gf, v, none⟩ (.int .i64 (s.f v + t))).cell? ⟨L.p, 5, none⟩ = some (.int .i64 s.tot) := hM6.cells.2.2.2.2.2; have w1 : wrap64 (s.f v + t) = s.f v + t := (by have := HT.out; unfold wrap64; omega); have w2 : wrap64 (s.tot + t) = s.tot + t := (by have := HT.out; unfold wrap64; omega); clear hM5 hb5 hM6)
      go_end0
      refine ⟨rfl, ?_, (HB5.out.setCell HM5.out.low.2.2.2 _).setCell HM5.out.low.1 _⟩
      refine (HM6.out.putT (s.tot + t)).congr (fun u hu => ?_) (fun u hu => rfl) rfl (fun u hu => ?_)
      · show (fireJ q R vl s v t j).d u = fireD R vl s.d v t u
        unfold fireJ
        simp only
        rw [if_pos hu]
      · show updW (fireJ q R vl s v t j).w v b u = if u < j then unst q vl (fireD R vl s.d v t) u else s.w u
        have h1 : b = unst q vl (fireD R vl s.d v t) v := by
          rw [HBB.out]
          refine unst_at ?_
          unfold fireJ
          simp only
          rw [if_pos hv]
        unfold updW fireJ
        simp only
        by_cases e : u = v
        · subst e; rw [if_pos rfl, if_pos hv, h1]
        · rw [if_neg e]
end

end Go.Proofs.YtnigfddanoaonaaGreat

set_option linter.unusedVariables false
set_option linter.unusedSimpArgs false
namespace Go.Proofs.YtnigfddanoaonaaGreat
open Go.RowKit

/-- What is known of a configuration that some firings stabilize. -/
structure PLaw (N q : Nat) (R : Nat → Nat → Int) (vl D : Nat → Int) (f0 : Nat → Nat) : Prop where
  leg : Leg N q R D f0
  stab : Stab N q R D f0
  sum : sumN f0 N ≤ 3000
  rng : ∀ v w, v < N → w < N → 0 ≤ R v w ∧ R v w ≤ 50
  loop : ∀ v, v < N → R v v = 0
  ini : ∀ v, v < N → -1000 ≤ D v ∧ D v ≤ 1000
  val : ∀ v, v < N → vl v = vlR N R v
  one : ∀ v, v < N → v ≠ q → 1 ≤ vlR N R v
structure PInv (N q : Nat) (R : Nat → Nat → Int) (vl D : Nat → Int) (u : Nat → Nat) (s : PSt) : Prop where
  leg : Leg N q R D u
  d : ∀ w, w < N → s.d w = cfg N R D u w
  f : ∀ w, w < N → s.f w = u w
  tot : s.tot = (sumN u N : Nat)
  w : ∀ w, w < 12 → s.w w = if w < N then unst q vl s.d w else false

section
variable {N q : Nat} {R : Nat → Nat → Int} {vl D : Nat → Int} {f0 u : Nat → Nat} {s : PSt}
theorem PInv.small (h : PInv N q R vl D u s) (hL : PLaw N q R vl D f0) : sumN u N ≤ 3000 := by
  have := sumN_le (n := N) fun p hp => h.leg.least (fun v w a b => (hL.rng v w a b).1) hL.stab p hp
  have := hL.sum
  omega
theorem PInv.bound (h : PInv N q R vl D u s) (hL : PLaw N q R vl D f0) (hN : N ≤ 12) {v : Nat} (hv : v < N) : (-2000000 ≤ s.d v ∧ s.d v ≤ 151000) ∧ (0 ≤ vl v ∧ vl v ≤ 600) ∧ (0 ≤ s.f v ∧ s.f v ≤ 3000) := by
  obtain ⟨b1, b2, b3, b4, b5⟩ := cfg_bound hL.rng hL.ini (h.small hL) hv
  have h1 := h.d v hv
  have h2 := h.f v hv
  have h3 := hL.val v hv
  have h4 : vlR N R v * ((3000 : Nat) : Int) ≤ 600 * 3000 := by
    have : vlR N R v ≤ 600 := by have : ((N : Nat) : Int) * 50 ≤ 12 * 50 := by omega
                                 omega
    rw [show ((3000 : Nat) : Int) = 3000 from rfl]
    omega
  rw [show ((3000 : Nat) : Int) = 3000 from rfl] at b1 b4 b5 h4
  refine ⟨⟨by omega, by omega⟩, ⟨by omega, by have : ((N : Nat) : Int) * 50 ≤ 12 * 50 := by omega
                                              omega⟩, by omega, by omega⟩
/-- Where no vertex waits, the firings are the ones that were known. -/
theorem PInv.done (h : PInv N q R vl D u s) (hL : PLaw N q R vl D f0) (hN : N ≤ 12) (hw : ∀ v, v < 12 → s.w v = false) : ∀ v, v < N → u v = f0 v := by
  have hs : Stab N q R D u := fun v hv hq => by
    have h1 := h.w v (by omega)
    rw [hw v (by omega), if_pos hv] at h1
    have h2 := of_decide_eq_false h1.symm
    have h3 := h.d v hv
    have h4 := hL.val v hv
    omega
  exact Leg.same (fun v w a b => (hL.rng v w a b).1) h.leg hs hL.leg hL.stab
/-- Firing a vertex that waits. -/
theorem PInv.fire (h : PInv N q R vl D u s) (hL : PLaw N q R vl D f0) (hN : N ≤ 12) {v : Nat} (hv12 : v < 12) (hw : s.w v = true) :
    v < N ∧ ∃ t : Nat, 1 ≤ t ∧ t ≤ 3000 ∧ s.d v / vl v = t ∧ 1 ≤ vl v ∧ 0 ≤ s.d v ∧ PInv N q R vl D (upU u v t) (fireS N q R vl s v t) ∧ sumN (upU u v t) N = sumN u N + t := by
  have h1 := h.w v hv12
  rw [hw] at h1
  split at h1
  · rename_i hv
    obtain ⟨h2, h3⟩ := of_decide_eq_true h1.symm
    have h4 := h.d v hv
    have h5 := hL.val v hv
    have h6 := hL.one v hv h2
    have hdn : 0 ≤ s.d v := by omega
    obtain ⟨t, ht⟩ := Int.eq_ofNat_of_zero_le (Int.ediv_nonneg hdn (by omega : 0 ≤ vl v))
    have hm : vl v * (t : Int) ≤ s.d v := by rw [← ht]; exact Int.mul_ediv_self_le (by omega)
    have ht1 : 1 ≤ t := by
      have : (1 : Int) ≤ s.d v / vl v := by rw [Int.le_ediv_iff_mul_le (by omega)]; omega
      omega
    have hleg : Leg N q R D (upU u v t) := h.leg.many hv h2 (hL.loop v hv) t (by rw [← h5, ← h4]; exact hm) (by omega)
    have hle := hleg.least (fun v w a b => (hL.rng v w a b).1) hL.stab v hv
    rw [upU_at] at hle
    have hsm := sumN_mem (f := f0) hv
    have hs3 := hL.sum
    refine ⟨hv, t, ht1, by omega, ht, by omega, hdn, ⟨hleg, fun w hw' => ?_, fun w hw' => ?_, ?_, fun w hw' => ?_⟩, sumN_up u hv t⟩
    · show fireD R vl s.d v t w = _
      rw [cfg_up u hv, ← h.d w hw', ← h5]
      unfold fireD
      rw [Int.mul_comm (t : Int) (vl v), Int.mul_comm (t : Int) (R v w)]
    · show updF s.f v (s.f v + t) w = _
      unfold updF
      by_cases e : w = v
      · subst e
        rw [if_pos rfl, upU_at, h.f w hw']
        push_cast
        rfl
      · rw [if_neg e, upU_ne u t e, h.f w hw']
    · show s.tot + t = _
      rw [h.tot, sumN_up u hv]
      push_cast
      rfl
    · show (if w < N then unst q vl (fireD R vl s.d v t) w else s.w w) = if w < N then unst q vl (fireD R vl s.d v t) w else false
      by_cases e : w < N
      · rw [if_pos e, if_pos e]
      · rw [if_neg e, if_neg e, h.w w hw', if_neg e]
  · cases h1
end

section
variable {B N q : Nat} {R : Nat → Nat → Int} {vl D : Nat → Int} {f0 : Nat → Nat} {L : PLay} {s : PSt} {W W' : World}
def SetPost (B N q : Nat) (R : Nat → Nat → Int) (vl D : Nat → Int) (f0 : Nat → Nat) (L : PLay) (W : World) (e : Ending) (W' : World) : Prop :=
  e = .returned (.int .i64 0) ∧ ∃ s, PMem B N q R vl L s W' ∧ (∀ v, v < N → s.d v = cfg N R D f0 v) ∧ (∀ v, v < N → s.f v = f0 v) ∧ Below B W W'
set_option maxRecDepth 100000 in
set_option maxHeartbeats 4000000 in
theorem psettle_any (hL : PLaw N q R vl D f0) {u : Nat → Nat} (hI : PInv N q R vl D u s) (h : PMem B N q R vl L s W) : Calls Tryz.prog 118 #[.pointer (some ⟨L.p, 0, none⟩)] W (SetPost B N q R vl D f0 L W) := by
  have h12 := h.num.1
  have HN := hide (pnext_any h)
  have HM := hide h
  have HI := hide hI
  have HL := hide hL
  clear h hI hL
  go_enter Tryz.func118, Tryz.ntmps118
  go_wp2_with (go_at_call 142; refine HN.out.mono ?_; rintro e w5 ⟨r, rfl, hn, rfl⟩; have HNX := hide hn; clear hn)
  go_loopg [4] (3000 - sumN u N) (fun gm iv wr => ∃ (u : Nat → Nat) (r : Int) (s : PSt), iv = .int .i64 r ∧ gm = 3000 - sumN u N ∧ Hid (NextV s.w r) ∧ Hid (PInv N q R vl D u s) ∧ Hid (PMem B N q R vl L s wr) ∧ Hid (Below B W wr))
  case atStart => exact ⟨u, r, s, rfl, rfl, HNX.out, HI.out, HM.out, Below.refl _ _⟩
  case round =>
    obtain ⟨u, r, s, rfl, hgm, HX, HIj, HMj, HBj⟩ := hrel
    have HGM := hide hgm
    clear hgm
    rcases HX.out with ⟨hr, hall⟩ | ⟨v, hr, hv12, hwv, _⟩
    · subst hr
      have HE := hide (HIj.out.done HL.out h12.2 hall)
      clear hall
      go_wp2_with fail
      go_ret
      exact ⟨rfl, s, HMj.out, fun v hv => by rw [HIj.out.d v hv]; exact cfg_same HE.out hv, fun v hv => by rw [HIj.out.f v hv, HE.out v hv], HBj.out⟩
    · subst hr
      obtain ⟨hv, t, ht1, ht3, htq, hx1, hy0, hI2, hsum⟩ := HIj.out.fire HL.out h12.2 hv12 hwv
      obtain ⟨c0, _, _, c3, _, _⟩ := HMj.out.cells
      have e0 := HMj.out.dAt hv
      have e1 := HMj.out.vAt hv
      have hcd := HMj.out.num.2.2
      have hbd := fun w (hw : w < N) => HIj.out.bound HL.out h12.2 hw
      have HF := hide (pfire_any (HMj.out.drewN 1) hv (t : Int) (by omega) (fun w hw => by have := hbd w hw; omega) (by have := hbd v hv; omega) (fun w hw => by have := HL.out.rng v w hv hw; omega) (by have := hbd v hv; omega) (by have := HIj.out.tot; have := HIj.out.small HL.out; omega))
      have hs3 := hI2.small HL.out
      have ht0 := hI2.tot
      obtain ⟨x, hx⟩ : ∃ x, x = vl v := ⟨_, rfl⟩
      obtain ⟨y, hy⟩ : ∃ y, y = s.d v := ⟨_, rfl⟩
      rw [← hx, ← hy] at htq
      rw [← hx] at e1 hx1
      rw [← hy] at e0 hy0
      have q1 : y.tdiv x = (t : Int) := by rw [Int.tdiv_eq_ediv_of_nonneg hy0]; exact htq
      have q2 : (x == 0) = false := by simp; omega
      have q3 : x ≠ 0 := by omega
      have q4 : wrap64 (t : Int) = t := by unfold wrap64; omega
      have HSUM := hide (And.intro hsum (And.intro hs3 ht0))
      have HI2 := hide hI2
      have hN : (v : Int) < (N : Int) := by omega
      have h0 : (0 : Int) ≤ (v : Int) := by omega
      clear htq hx hy hbd hI2 hsum hs3 ht0 hwv hx1 hy0
      go_wp2_with fail
      go_still_tail 17, (by kernel_rfl)
      change wpList _ _ _ _ _ wr.drew
      have HF : Hid (Calls Tryz.prog 141 #[.pointer (some ⟨L.p, 0, none⟩), .int .i64 v, .int .i64 t] wr.drew (FirePost B N q R vl L (fireS N q R vl s v t) wr.drew)) := HF
      have q5 : ¬ (1048576 : Int) < (fireS N q R vl s v t).tot := by have h1 := HSUM.out.2.1; have h2 := HSUM.out.2.2; omega
      obtain ⟨tt, htt⟩ : ∃ tt, tt = (fireS N q R vl s v t).tot := ⟨_, rfl⟩
      rw [← htt] at q5
      have HTT := hide htt
      clear htt c0 c3 e0 e1
      go_wp2_with (first
        | (go_at_call 141; refine HF.out.mono ?_; rintro e w5 ⟨rfl, hM5, hb5⟩; have HM5 := hide hM5; have HN5 := hide (pnext_any hM5); have HB5 := hide (HBj.out.trans ((below_drewN (Below.refl B wr) 1).trans hb5)); have c5 : w5.cell? ⟨L.p, 5, none⟩ = some (.int .i64 tt) := (by rw [HTT.out]; exact hM5.cells.2.2.2.2.2); clear hM5 hb5)
        | (go_at_call 142; refine HN5.out.mono ?_; rintro e w6 ⟨r2, rfl, hn2, rfl⟩; have HX2 := hide hn2; clear hn2))
      go_roundg (3000 - sumN (upU u v t) N)
      case measure => have h1 := HSUM.out; have h2 := HGM.out; omega
      case rel => exact ⟨upU u v t, r2, _, rfl, rfl, HX2.out, HI2.out, HM5.out, HB5.out⟩

def SetdPost := SetPost
theorem psettled_any (hL : PLaw N q R vl D f0) {u : Nat → Nat} (hI : PInv N q R vl D u s) (h : PMem B N q R vl L s W) : Calls Tryz.prog 84 #[.pointer (some ⟨L.p, 0, none⟩)] W (SetPost B N q R vl D f0 L W) := by
  have HS := hide (psettle_any hL hI h)
  have h12 := h.num.1
  have HL := hide hL
  clear h hI hL
  go_enter Tryz.func84, Tryz.ntmps84
  go_wp2_with fail
  refine HS.out.mono ?_
  rintro e w5 ⟨rfl, s5, hM5, hd5, hf5, hb5⟩
  have hq := hM5.num.2.1
  obtain ⟨c0, c1, _, _, _, _⟩ := hM5.cells
  have e0 := hM5.dAt hq
  have hcd := hM5.num.2.2
  have hsm : sumN f0 N ≤ 3000 := HL.out.sum
  have hbq := (cfg_bound HL.out.rng HL.out.ini hsm hq).1
  rw [← hd5 q hq] at hbq
  obtain ⟨y, hy⟩ : ∃ y, y = s5.d q := ⟨_, rfl⟩
  rw [← hy] at e0 hbq
  have q1 : ¬ (1048576 : Int) < y := by rw [show ((3000 : Nat) : Int) = 3000 from rfl] at hbq; omega
  have HM5 := hide hM5
  have HD5 := hide hd5
  have HF5 := hide hf5
  have hN : (q : Int) < (N : Int) := by omega
  have h0 : (0 : Int) ≤ (q : Int) := by omega
  clear hM5 hd5 hf5 hy hbq hsm
  go_wp2_with fail
  go_quiet (fail)
  go_wp2_with fail
  go_ret
  exact ⟨rfl, s5, HM5.out.drewN nq, HD5.out, HF5.out, below_drewN hb5 nq⟩
end

end Go.Proofs.YtnigfddanoaonaaGreat

set_option linter.unusedVariables false
set_option linter.unusedSimpArgs false
namespace Go.Proofs.YtnigfddanoaonaaGreat
open Go.RowKit

def cntE (l : List (Int × Int)) (v w : Nat) : Int := if v = w then 0 else ((l.countP fun x => decide ((x.1 = (v : Int) ∧ x.2 = (w : Int)) ∨ (x.1 = (w : Int) ∧ x.2 = (v : Int))) : Nat) : Int)
theorem cntE_nil (v w : Nat) : cntE [] v w = 0 := by unfold cntE; split <;> rfl
theorem cntE_range (l : List (Int × Int)) (v w : Nat) : 0 ≤ cntE l v w ∧ cntE l v w ≤ l.length := by
  unfold cntE
  split
  · omega
  · have := List.countP_le_length (p := fun x : Int × Int => decide ((x.1 = (v : Int) ∧ x.2 = (w : Int)) ∨ (x.1 = (w : Int) ∧ x.2 = (v : Int)))) (l := l)
    omega
theorem cntE_snoc (l : List (Int × Int)) (a b v w : Nat) : cntE (l ++ [((a : Int), (b : Int))]) v w = cntE l v w + if v ≠ w ∧ ((a = v ∧ b = w) ∨ (a = w ∧ b = v)) then 1 else 0 := by
  unfold cntE
  by_cases e : v = w
  · rw [if_pos e, if_pos e, if_neg (fun h => h.1 e)]; rfl
  · rw [if_neg e, if_neg e, List.countP_append, List.countP_singleton]
    by_cases h : (a = v ∧ b = w) ∨ (a = w ∧ b = v)
    · rw [if_pos (by simp only [decide_eq_true_eq]; omega), if_pos ⟨e, h⟩]
      push_cast
      rfl
    · rw [if_neg (by simp only [decide_eq_true_eq]; omega), if_neg (fun hh => h hh.2)]
      push_cast
      rfl
theorem cntE_loop (l : List (Int × Int)) (a v w : Nat) : cntE (l ++ [((a : Int), (a : Int))]) v w = cntE l v w := by
  rw [cntE_snoc, if_neg (fun h => by omega)]
  omega
theorem cnt_ends {v w : Nat} (hvw : v ≠ w) : ∀ {es : List Edg}, (∀ x ∈ es, x.a ≤ x.b ∧ 0 ≤ x.m) → (es.Pairwise fun x y => cmpP (x.a, x.b) (y.a, y.b) < 0) →
    (((endsL es).countP fun x => decide ((x.1 = (v : Int) ∧ x.2 = (w : Int)) ∨ (x.1 = (w : Int) ∧ x.2 = (v : Int))) : Nat) : Int) = betw es v w
  | [], _, _ => rfl
  | x :: r, h, hp => by
    rw [List.pairwise_cons] at hp
    have ih := cnt_ends hvw (es := r) (fun y hy => h y (by simp [hy])) hp.2
    have hx := h x (by simp)
    rw [endsL_cons, List.countP_append, List.countP_replicate]
    simp only [betw]
    by_cases hm : x.a = min (v : Int) w ∧ x.b = max (v : Int) w
    · have h0 : betw r v w = 0 := (betw_of hp.2 (a := (v : Int)) (b := (w : Int))).2 fun y hy he => by
        have h1 := cmpP_neg.1 (hp.1 y hy)
        simp only at h1
        omega
      rw [if_pos hm, if_pos (by simp only [decide_eq_true_eq]; omega)]
      rw [h0] at ih
      push_cast
      omega
    · rw [if_neg hm, if_neg (by simp only [decide_eq_true_eq]; omega)]
      push_cast
      omega
theorem cntE_all {n : Int} {es : List Edg} (hg : gErr n es = 0) (v w : Nat) : cntE (endsL es) v w = rowR' es v w := by
  unfold cntE rowR'
  by_cases e : v = w
  · rw [if_pos e, if_pos e]
  · rw [if_neg e, if_neg e]
    exact cnt_ends e (fun x hx => by have := (gErr_zero hg).2.1 x hx; omega) (gErr_zero hg).2.2
/-- Counting one more. -/
def bumpF (f : Nat → Nat → Int) (a b : Nat) : Nat → Nat → Int := fun v w => if v = a ∧ w = b then f v w + 1 else f v w
theorem cntE_bump (l : List (Int × Int)) {a b : Nat} (h : a ≠ b) (v w : Nat) : bumpF (bumpF (cntE l) a b) b a v w = cntE (l ++ [((a : Int), (b : Int))]) v w := by
  rw [cntE_snoc]
  unfold bumpF
  by_cases h1 : v = a ∧ w = b
  · rw [if_neg (c := v = b ∧ w = a) (by omega), if_pos h1, if_pos ⟨by omega, by omega⟩]
  · by_cases h2 : v = b ∧ w = a
    · rw [if_pos h2, if_neg h1, if_pos ⟨by omega, by omega⟩]
    · rw [if_neg h2, if_neg h1, if_neg (by omega)]
      omega
theorem cntE_sum (l : List (Int × Int)) {a b N : Nat} (h : a ≠ b) (ha : a < N) (hb : b < N) (v : Nat) : sumI (cntE (l ++ [((a : Int), (b : Int))]) v) N = sumI (cntE l v) N + (if v = a then 1 else 0) + if v = b then 1 else 0 := by
  by_cases h1 : v = a
  · subst h1
    have h2 := sumI_one (f := cntE (l ++ [((v : Int), (b : Int))]) v) (g := cntE l v) hb fun p hp hne => by rw [cntE_snoc, if_neg (by omega)]; omega
    rw [h2, cntE_snoc, if_pos (by omega), if_pos rfl, if_neg h]
    omega
  · by_cases h2 : v = b
    · subst h2
      have h3 := sumI_one (f := cntE (l ++ [((a : Int), (v : Int))]) v) (g := cntE l v) ha fun p hp hne => by rw [cntE_snoc, if_neg (by omega)]; omega
      rw [h3, cntE_snoc, if_pos (by omega), if_neg h1, if_pos rfl]
      omega
    · rw [if_neg h1, if_neg h2, sumI_eq (g := cntE l v) fun p hp => by rw [cntE_snoc, if_neg (by omega)]; omega]
      omega

end Go.Proofs.YtnigfddanoaonaaGreat

set_option linter.unusedVariables false
set_option linter.unusedSimpArgs false
namespace Go.Proofs.YtnigfddanoaonaaGreat
open Go.RowKit

def pileCells (gd cd gv gf N q : Nat) (tv : Value) : List Value :=
  [.slice (some ⟨gd, 0, none⟩) N cd, .int .i64 q, tv, .slice (some ⟨gv, 0, none⟩) N N, .slice (some ⟨gf, 0, none⟩) N N, .int .i64 0, .bool false, .bool false, .bool false, .bool false, .bool false, .bool false, .bool false, .bool false, .bool false, .bool false, .bool false, .bool false]
structure PPre (B p gd cd gv gf N q : Nat) (rest : List Value) (d : List Int) (M : Nat) (tv : Value) (rs : List Rw) (F : Nat → Nat → Int) (vm : Nat → Int) (W : World) : Prop where
  box : Box W p (pileCells gd cd gv gf N q tv) 140
  rd : Row1 (Value.int .i64) W gd 3 d rest
  rv : Row1 (Value.int .i64) W gv 3 (lst N vm) []
  rf : Row1 (Value.int .i64) W gf 3 (List.replicate N 0) []
  tab : RTab B tv rs W
  tabs : tabL rs = (List.range M).map fun v => lst N (F v)
  low : p < B ∧ gd < B ∧ gv < B ∧ gf < B
  ne : gd ≠ gv ∧ gd ≠ gf ∧ gv ≠ gf

theorem drew_sz' (w : World) : w.drew.heap.size = w.heap.size := rfl
section
variable {B p gd cd gv gf N q : Nat} {rest : List Value} {d : List Int} {M : Nat} {tv : Value} {rs : List Rw} {F : Nat → Nat → Int} {vm : Nat → Int} {W W' : World}
theorem PPre.below (h : PPre B p gd cd gv gf N q rest d M tv rs F vm W) (hb : Below W.heap.size W W') : PPre B p gd cd gv gf N q rest d M tv rs F vm W' :=
  ⟨h.box.below hb, h.rd.below hb, h.rv.below hb, h.rf.below hb, h.tab.below hb, h.tabs, h.low, h.ne⟩
theorem PPre.rsLen (h : PPre B p gd cd gv gf N q rest d M tv rs F vm W) : rs.length = M := by
  have := congrArg List.length h.tabs
  unfold tabL at this
  simpa using this
theorem PPre.row (h : PPre B p gd cd gv gf N q rest d M tv rs F vm W) {v : Nat} (hv : v < M) : ∃ r gt ct, rs[v]? = some r ∧ tv = .slice (some ⟨gt, 0, none⟩) M ct ∧ M ≤ ct ∧ W.cell? ⟨gt, v, none⟩ = some (.slice (some ⟨r.g, 0, none⟩) N r.c) ∧ N ≤ r.c ∧ r.l = lst N (F v) ∧ B ≤ r.g ∧ Row1 (Value.int .i64) W r.g 3 r.l r.rest ∧ tv.ownBlock = some gt ∧ r.g ≠ gt ∧ B ≤ gt := by
  have hl := h.rsLen
  obtain ⟨r, hr⟩ : ∃ r, rs[v]? = some r := ⟨_, List.getElem?_eq_getElem (by omega)⟩
  have hrl : r.l = lst N (F v) := by
    have h1 : (tabL rs)[v]? = some r.l := by unfold tabL; rw [List.getElem?_map, hr]; rfl
    rw [h.tabs, List.getElem?_map, List.getElem?_range hv] at h1
    injection h1 with h1
    exact h1.symm
  obtain ⟨g, cap, ht, hc, hBg, hcell, hrow, hBr, hrc, hne⟩ := h.tab.get hr
  rw [hl] at ht hc
  rw [hrl, lst_len] at hcell hrc
  exact ⟨r, g, cap, hr, ht, hc, hcell, hrc, hrl, hBr, hrow, by rw [ht]; rfl, hne, hBg⟩
theorem PPre.putRow (h : PPre B p gd cd gv gf N q rest d M tv rs F vm W) {a b : Nat} (hb : b < N) {r : Rw} (hr : rs[a]? = some r) (hrl : r.l = lst N (F a)) :
    PPre B p gd cd gv gf N q rest d M tv (rwSet rs a (r.l.set b (F a b + 1))) (bumpF F a b) vm (W.setCell ⟨r.g, b, none⟩ (.int .i64 (F a b + 1))) := by
  have hBr := (h.tab.row r (List.mem_of_getElem? hr)).2.1
  obtain ⟨l1, l2, l3, l4⟩ := h.low
  refine ⟨h.box.other (by simp only; omega) _, h.rd.other (by simp only; omega) _, h.rv.other (by simp only; omega) _, h.rf.other (by simp only; omega) _, h.tab.put hr (by rw [hrl, lst_len]; exact hb) _, ?_, h.low, h.ne⟩
  rw [tabL_set, h.tabs, hrl, lst_set, map_set]
  refine List.map_congr_left fun v hv => ?_
  by_cases e : v = a
  · subst e
    rw [if_pos rfl]
    refine lst_congr fun w _ => ?_
    unfold updF bumpF
    by_cases ew : w = b
    · subst ew; rw [if_pos rfl, if_pos ⟨rfl, rfl⟩]
    · rw [if_neg ew, if_neg fun hh => ew hh.2]
  · rw [if_neg e]
    refine lst_congr fun w _ => ?_
    unfold bumpF
    rw [if_neg fun hh => e hh.1]
theorem PPre.putV (h : PPre B p gd cd gv gf N q rest d M tv rs F vm W) {a : Nat} (x : Int) : PPre B p gd cd gv gf N q rest d M tv rs F (updF vm a x) (W.setCell ⟨gv, a, none⟩ (.int .i64 x)) := by
  obtain ⟨l1, l2, l3, l4⟩ := h.low
  obtain ⟨n1, n2, n3⟩ := h.ne
  have hp : p ≠ gv := (ne_type h.rv h.box (by decide)).symm
  refine ⟨h.box.other (by simpa using hp) _, h.rd.other (by simpa using n1) _, ?_, h.rf.other (by simpa using n3.symm) _, h.tab.above fun k _ hk => Below.heap_setCell _ _ _ k (by simp only; omega), h.tabs, h.low, h.ne⟩
  by_cases ha : a < N
  · have := h.rv.put (i := a) (by rw [lst_len]; exact ha) x
    rw [lst_set] at this
    exact this
  · have e1 : lst N (updF vm a x) = lst N vm := lst_congr fun i hi => by unfold updF; rw [if_neg (by omega)]
    rw [e1]
    have h2 := heap_set1 W gv a (((lst N vm).map (Value.int .i64)) ++ []) 3 (.int .i64 x) h.rv
    unfold Row1
    rw [h2, List.set_eq_of_length_le (by simp [lst_len]; omega)]
theorem PPre.congr {F' : Nat → Nat → Int} {vm' : Nat → Int} (h : PPre B p gd cd gv gf N q rest d M tv rs F vm W) (hF : ∀ v w, v < M → w < N → F v w = F' v w) (hv : ∀ v, v < N → vm v = vm' v) : PPre B p gd cd gv gf N q rest d M tv rs F' vm' W :=
  ⟨h.box, h.rd, by rw [← lst_congr hv]; exact h.rv, h.rf, h.tab, by rw [h.tabs]; exact List.map_congr_left fun v hvv => lst_congr fun w hw => hF v w (List.mem_range.1 hvv) hw, h.low, h.ne⟩
theorem PPre.vAt (h : PPre B p gd cd gv gf N q rest d M tv rs F vm W) {v : Nat} (hv : v < N) : W.cell? ⟨gv, v, none⟩ = some (.int .i64 (vm v)) := h.rv.cell (lst_get vm hv)
theorem PPre.cells (h : PPre B p gd cd gv gf N q rest d M tv rs F vm W) : W.cell? ⟨p, 2, none⟩ = some tv ∧ W.cell? ⟨p, 3, none⟩ = some (.slice (some ⟨gv, 0, none⟩) N N) ∧ W.cell? ⟨p, 0, none⟩ = some (.slice (some ⟨gd, 0, none⟩) N cd) := ⟨h.box.cell 2, h.box.cell 3, h.box.cell 0⟩
/-- One row more. -/
theorem PPre.push (h : PPre B p gd cd gv gf N q rest d M tv rs (fun _ _ => 0) vm W) {Zs : Array Value} (hZ : Zs.toList = List.replicate N (.int .i64 0)) {o : Obj} {tv' : Value} {w8 : World} (ho : OwnS valR 1 B 23 Non w8 tv' (rs.map Rw.val ++ [slV W.heap.size N N])) (hg : ((W.alloc (.cells Zs 3)).alloc o).drew.grownBy w8 tv.ownBlock) (hB : B ≤ W.heap.size) :
    PPre B p gd cd gv gf N q rest d (M + 1) tv' (rs ++ [⟨W.heap.size, N, List.replicate N 0, []⟩]) (fun _ _ => 0) vm (w8.setCell ⟨p, 2, none⟩ tv') := by
  obtain ⟨l1, l2, l3, l4⟩ := h.low
  have hp : ∀ {g : Nat} {xs : List Int} {rest : List Value}, Row1 (Value.int .i64) W g 3 xs rest → g ≠ p := fun hr => ne_type hr h.box (by decide)
  have hkk : ∀ k, k < W.heap.size → some k ≠ tv.ownBlock → w8.heap[k]? = W.heap[k]? := fun k hk hne => by
    have h1 := hg.block k (by rw [drew_sz', alloc_size', alloc_size']; omega) hne
    rw [h1]
    exact (Below.heap_alloc _ o k (by rw [alloc_size']; omega)).trans (Below.heap_alloc W _ k hk)
  have hown : ∀ k, k < B → some k ≠ tv.ownBlock := fun k hk e => by have := (h.tab.tab.block k e.symm).1; omega
  have low : ∀ k, k < B → w8.heap[k]? = W.heap[k]? := fun k hk => hkk k (by omega) (hown k hk)
  have hrow : Row1 (Value.int .i64) w8 W.heap.size 3 (List.replicate N 0) [] := by
    have h0 : Row1 (Value.int .i64) (W.alloc (.cells Zs 3)) W.heap.size 3 (List.replicate N 0) [] := by
      have h := heap_alloc_new W (.cells Zs 3)
      unfold Row1
      rw [h]
      congr 2
      apply Array.toList_inj.1
      rw [hZ]
      simp
    have h1 := (h0.new o).draw
    exact h1.keep (hg.block W.heap.size h1.lt fun e => by have := (h.tab.tab.block _ e.symm).2; omega)
  have hpush := h.tab.push (r := ⟨W.heap.size, N, List.replicate N 0, []⟩) (W' := w8) (by unfold Rw.val; simp only [List.length_replicate]; exact ho) hkk hrow (Nat.le_refl _) hB (by simp)
  refine ⟨?_, (h.rd.keep (low _ l2)).other (by simpa using hp h.rd) _, (h.rv.keep (low _ l3)).other (by simpa using hp h.rv) _, (h.rf.keep (low _ l4)).other (by simpa using hp h.rf) _, hpush.above fun k _ hk => Below.heap_setCell _ _ _ k (by simp only; omega), ?_, h.low, h.ne⟩
  · have := (h.box.keep (low _ l1)).put 2 tv'
    exact this
  · rw [show tabL (rs ++ [(⟨W.heap.size, N, List.replicate N 0, []⟩ : Rw)]) = tabL rs ++ [List.replicate N 0] from by unfold tabL; rw [List.map_append]; rfl, h.tabs, List.range_succ, List.map_append]
    congr 1
    simp only [List.map_cons, List.map_nil]
    congr 1
    apply List.ext_getElem?
    intro i
    by_cases hi : i < N
    · rw [lst_get _ hi, List.getElem?_replicate, if_pos hi]
    · rw [List.getElem?_eq_none (by simp; omega), List.getElem?_eq_none (by rw [lst_len]; omega)]
/-- What the pile is when it has been made. -/
theorem PPre.mem (h : PPre B p gd cd gv gf N q rest d N tv rs F vm W) {B0 : Nat} (hB : B0 ≤ B) (hlo : B0 ≤ p ∧ B0 ≤ gd ∧ B0 ≤ gv ∧ B0 ≤ gf) (hnum : (1 ≤ N ∧ N ≤ 12) ∧ q < N ∧ N ≤ cd) (hdN : d.length = N) :
    PMem B0 N q F vm ⟨p, gd, cd, gv, gf, tv, rs, rest⟩ ⟨fun v => d.getD v 0, fun _ => 0, 0, fun _ => false⟩ W := by
  obtain ⟨l1, l2, l3, l4⟩ := h.low
  refine ⟨h.box, ?_, h.rv, ?_, ⟨h.tab.tab.rebase hB, fun r hr => ⟨(h.tab.row r hr).1, by have := (h.tab.row r hr).2.1; omega, (h.tab.row r hr).2.2⟩, h.tab.inj⟩, h.tabs, ⟨h.ne.1, h.ne.2.1, h.ne.2.2, fun r hr => by have := (h.tab.row r hr).2.1; simp only; omega⟩, hlo, hnum⟩
  · have e : lst N (fun v => d.getD v 0) = d := by
      apply List.ext_getElem?
      intro i
      by_cases hi : i < N
      · rw [lst_get _ hi, List.getD_eq_getElem?_getD, List.getElem?_eq_getElem (by omega)]
        rfl
      · rw [List.getElem?_eq_none (by rw [lst_len]; omega), List.getElem?_eq_none (by omega)]
    show Row1 _ _ _ _ (lst N fun v => d.getD v 0) _
    rw [e]
    exact h.rd
  · have e : lst N (fun _ => 0) = List.replicate N 0 := by
      apply List.ext_getElem?
      intro i
      by_cases hi : i < N
      · rw [lst_get _ hi, List.getElem?_replicate, if_pos hi]
      · rw [List.getElem?_eq_none (by rw [lst_len]; omega), List.getElem?_eq_none (by simp; omega)]
    show Row1 _ _ _ _ (lst N fun _ => 0) _
    rw [e]
    exact h.rf
end

end Go.Proofs.YtnigfddanoaonaaGreat

set_option linter.unusedVariables false
set_option linter.unusedSimpArgs false
namespace Go.Proofs.YtnigfddanoaonaaGreat
open Go.RowKit

/-- The pile that pileOf begins with, in memory. -/
def PileNew (w3 W : World) (b N q : Nat) (d : List Int) : Prop := ∃ gd cd rest gv gf, Box W b (pileCells gd cd gv gf N q (.slice none 0 0)) 140 ∧ Row1 (Value.int .i64) W gd 3 d rest ∧ N ≤ cd ∧ Row1 (Value.int .i64) W gv 3 (List.replicate N 0) [] ∧ Row1 (Value.int .i64) W gf 3 (List.replicate N 0) [] ∧
  (gd ≠ gv ∧ gd ≠ gf ∧ gv ≠ gf) ∧ (w3.heap.size ≤ b ∧ w3.heap.size ≤ gd ∧ w3.heap.size ≤ gv ∧ w3.heap.size ≤ gf) ∧ Below w3.heap.size w3 W

theorem pn_mk {W1 U : World} {gd cd gv gf N q b : Nat} {rest : List Value} {d : List Int} (hgd : Row1 (Value.int .i64) U gd 3 d rest) (hgv : Row1 (Value.int .i64) U gv 3 (List.replicate N 0) []) (hgf : Row1 (Value.int .i64) U gf 3 (List.replicate N 0) [])
    (hc : N ≤ cd) (hne : gd ≠ gv ∧ gd ≠ gf ∧ gv ≠ gf) (hlo : W1.heap.size ≤ gd ∧ W1.heap.size ≤ gv ∧ W1.heap.size ≤ gf) (hb : Below W1.heap.size W1 U) (he : b = U.heap.size) :
    PileNew W1 (U.alloc (.cells (pileCells gd cd gv gf N q (.slice none 0 0)).toArray 140)) b N q d := by
  subst he
  exact ⟨gd, cd, rest, gv, gf, Box.new U (pileCells gd cd gv gf N q (.slice none 0 0)) 140, hgd.new _, hc, hgv.new _, hgf.new _, hne, ⟨hb.size, hlo⟩, hb.alloc hb.size _⟩
theorem row_new2 {N : Nat} {Zs : Array Value} (hZ : Zs.toList = List.replicate N (.int .i64 0)) (w : World) (o : Obj) : Row1 (Value.int .i64) ((w.alloc o).alloc (.cells Zs 3)) (w.heap.size + 1) 3 (List.replicate N 0) [] := by
  have := row_new hZ (w.alloc o)
  rw [alloc_size'] at this
  exact this

def PileOfPost (N q : Nat) (es : List Edg) (d : List Int) (w : World) (e : Ending) (w' : World) : Prop :=
  ∃ L : PLay, e = .returned (.tuple #[.pointer (some ⟨L.p, 0, none⟩), .int .i64 0]) ∧ PMem w.heap.size N q (rowR' es) (vlR N (rowR' es)) L ⟨fun v => d.getD v 0, fun _ => 0, 0, fun v => if v < N then unst q (vlR N (rowR' es)) (fun v => d.getD v 0) v else false⟩ w' ∧ Below w.heap.size w w'
set_option maxRecDepth 100000 in
set_option maxHeartbeats 8000000 in
theorem ppileOf_any (N : Nat) (es : List Edg) (oe : Option Addr) (c : Nat) (F : Foot) (w : World) (hs : SliceR edgR 3 F w oe es) (hc : es.length ≤ c) (hc2 : es.length ≤ 1000) (hg : gErr N es = 0)
    (q : Nat) (hq : q < N) (d : List Int) (od : Option Addr) (cd : Nat) (D : Foot) (hd : SliceR intR 1 D w od d) (hdc : d.length ≤ cd) (hdN : d.length = N) :
    Calls Tryz.prog 117 #[.agg #[.int .i64 N, .slice oe es.length c], .int .i64 q, .slice od d.length cd] w (PileOfPost N q es d w) := by
  have h12 := (gErr_zero hg).1
  obtain ⟨Zs, hZs, hmk⟩ := mk_ints 23 3 Tryz.underlying23 (by kernel_rfl) N (by omega)
  obtain ⟨W1, e1⟩ : ∃ W1, w.alloc (.cells #[.int .i64 N, .slice oe es.length c] 43) = W1 := ⟨_, rfl⟩
  have bx1 : Box W1 w.heap.size [.int .i64 N, .slice oe es.length c] 43 := by rw [← e1]; exact Box.new w [.int .i64 N, .slice oe es.length c] 43
  have bb1 := bnew (Below.refl w.heap.size w) (.cells #[.int .i64 N, .slice oe es.length c] 43)
  rw [e1] at bb1
  have HX1 := hide bx1
  have HB1 := hide bb1
  have HS := hide hs
  have HD := hide (hd.below intR_ok bb1)
  have HDN := hide hdN
  have HZS := hide hZs
  have HG := hide hg
  have y0 := bx1.cell 0
  have y1 := bx1.cell 1
  simp only [List.getElem?_cons_zero, List.getElem?_cons_succ] at y0 y1
  have HCL : Hid (∀ u, Below W1.heap.size W1 u → Calls Tryz.prog 72 #[.slice od N cd] u fun e w' => ∃ gd c2 rest, e = .returned (.slice (some ⟨gd, 0, none⟩) N c2) ∧ Row1 (Value.int .i64) w' gd 3 d rest ∧ N ≤ c2 ∧ u.heap.size ≤ gd ∧ Below u.heap.size u w') := fun u hu => by
    have h := cloneI_any d od cd D u (HD.out.below intR_ok hu) hdc (by omega)
    rw [hdN] at h
    refine h.mono ?_
    rintro e w' ⟨v, rfl, ho, hb⟩
    obtain ⟨g, cap, rest, rfl, h1, h2, _, h4, _⟩ := ho.row (by intro e; rw [e] at hdN; simp at hdN; omega)
    rw [hdN] at h2 ⊢
    exact ⟨g, cap, rest, rfl, h4, by omega, h1, hb⟩
  rw [hdN] at hdc ⊢
  have hl3 : w.heap.size < W1.heap.size := bx1.lt
  clear bx1 bb1 hs hd hdN hZs hg
  go_enter Tryz.func117, Tryz.ntmps117
  go_upto_region 1 with fail
  go_cut [8] (fun s8 wx => ∃ b, s8 = .pointer (some ⟨b, 0, none⟩) ∧ Hid (PileNew W1 wx b N q d))
  case first =>
    go_region_held3 (fun w' => w'.cell? ⟨w.heap.size, 0, none⟩ = some (.int .i64 N)) (first | with_reducible exact y0 | with_reducible exact cell_drew (cell_next (cell_next y0 _) _) | with_reducible exact cell_drew (cell_next y0 _) | with_reducible exact cell_drew y0 | with_reducible exact cell_next y0 _ | with_reducible exact cell_next (cell_next y0 _) _ | with_reducible exact cell_next (cell_next (cell_next y0 _) _) _ | exact y0) (first
      | (go_at_call 72; refine (HCL.out _ (by first | with_reducible exact (bnew (bnew (Below.refl _ _) _) _).drew | with_reducible exact (bnew (Below.refl _ _) _).drew | with_reducible exact (Below.refl _ _).drew)).mono ?_; rintro e w4 ⟨gd, c2, rest, rfl, hgd, hc2', hgl, hb4⟩; replace y0 := (hb4.cell (by first | with_reducible exact World.block_lt_of_cell? _ _ (cell_drew (cell_next (cell_next y0 _) _)) | with_reducible exact World.block_lt_of_cell? _ _ (cell_drew (cell_next y0 _)) | with_reducible exact World.block_lt_of_cell? _ _ (cell_drew y0))).trans (by first | with_reducible exact cell_drew (cell_next (cell_next y0 _) _) | with_reducible exact cell_drew (cell_next y0 _) | with_reducible exact cell_drew y0)))
    · go_wp2_with fail
      go_meet
      refine ⟨_, rfl, ?_⟩
      have hb40 := hb4
      simp only [drew_size, World.size_alloc] at hb4 hgl
      have hlt := hgd.lt
      have hsz := hb4.size
      simp only [drew_size, World.size_alloc] at hsz
      exact pn_mk ((hgd.new _).new _) ((row_new HZS.out w4).new _) (row_new2 HZS.out w4 _) hc2' ⟨by omega, by omega, by omega⟩ ⟨by omega, by omega, by omega⟩ ((((Below.refl W1.heap.size W1).drew.trans hb4).alloc (by first | omega | (simp only [World.size_alloc]; omega)) (.cells Zs 3)).alloc (by first | omega | (simp only [World.size_alloc]; omega)) (.cells Zs 3)) (by first | rfl | simp only [World.size_alloc])
    · go_wp2_with fail
      go_meet
      refine ⟨_, rfl, ?_⟩
      have hb40 := hb4
      simp only [drew_size, World.size_alloc] at hb4 hgl
      have hlt := hgd.lt
      have hsz := hb4.size
      simp only [drew_size, World.size_alloc] at hsz
      exact pn_mk ((hgd.new _).new _) (row_new2 HZS.out w4 _) ((row_new HZS.out w4).new _) hc2' ⟨by omega, by omega, by omega⟩ ⟨by omega, by omega, by omega⟩ ((((Below.refl W1.heap.size W1).drew.trans hb4).alloc (by first | omega | (simp only [World.size_alloc]; omega)) (.cells Zs 3)).alloc (by first | omega | (simp only [World.size_alloc]; omega)) (.cells Zs 3)) (by first | rfl | simp only [World.size_alloc])
    · go_wp2_with fail
      go_meet
      refine ⟨_, rfl, ?_⟩
      have hb40 := hb4
      simp only [drew_size, World.size_alloc] at hb4 hgl
      have hlt := hgd.lt
      have hsz := hb4.size
      simp only [drew_size, World.size_alloc] at hsz
      exact pn_mk (hgd.new _) ((((row_new HZS.out W1).draw).below hb40).new _) (row_new HZS.out w4) hc2' ⟨by omega, by omega, by omega⟩ ⟨by omega, by omega, by omega⟩ ((((bnew (Below.refl W1.heap.size W1) (.cells Zs 3)).drew.trans (hb4.mono (by omega)))).alloc (by first | omega | (simp only [World.size_alloc]; omega)) (.cells Zs 3)) (by first | rfl | simp only [World.size_alloc])
    · go_wp2_with fail
      go_meet
      refine ⟨_, rfl, ?_⟩
      have hb40 := hb4
      simp only [drew_size, World.size_alloc] at hb4 hgl
      have hlt := hgd.lt
      have hsz := hb4.size
      simp only [drew_size, World.size_alloc] at hsz
      exact pn_mk (hgd) (((row_new HZS.out W1).new _).draw.below hb40) ((row_new2 HZS.out W1 _).draw.below hb40) hc2' ⟨by omega, by omega, by omega⟩ ⟨by omega, by omega, by omega⟩ (((bnew (bnew (Below.refl W1.heap.size W1) (.cells Zs 3)) (.cells Zs 3)).drew.trans (hb4.mono (by omega)))) (by first | rfl | simp only [World.size_alloc])
    · go_wp2_with fail
      go_meet
      refine ⟨_, rfl, ?_⟩
      have hb40 := hb4
      simp only [drew_size, World.size_alloc] at hb4 hgl
      have hlt := hgd.lt
      have hsz := hb4.size
      simp only [drew_size, World.size_alloc] at hsz
      exact pn_mk (hgd.new _) (row_new HZS.out w4) ((((row_new HZS.out W1).draw).below hb40).new _) hc2' ⟨by omega, by omega, by omega⟩ ⟨by omega, by omega, by omega⟩ ((((bnew (Below.refl W1.heap.size W1) (.cells Zs 3)).drew.trans (hb4.mono (by omega)))).alloc (by first | omega | (simp only [World.size_alloc]; omega)) (.cells Zs 3)) (by first | rfl | simp only [World.size_alloc])
    · go_wp2_with fail
      go_meet
      refine ⟨_, rfl, ?_⟩
      have hb40 := hb4
      simp only [drew_size, World.size_alloc] at hb4 hgl
      have hlt := hgd.lt
      have hsz := hb4.size
      simp only [drew_size, World.size_alloc] at hsz
      exact pn_mk (hgd) ((row_new2 HZS.out W1 _).draw.below hb40) (((row_new HZS.out W1).new _).draw.below hb40) hc2' ⟨by omega, by omega, by omega⟩ ⟨by omega, by omega, by omega⟩ (((bnew (bnew (Below.refl W1.heap.size W1) (.cells Zs 3)) (.cells Zs 3)).drew.trans (hb4.mono (by omega)))) (by first | rfl | simp only [World.size_alloc])
  case rest =>
    obtain ⟨b, rfl, hPN⟩ := hcut
    obtain ⟨gd, c2, rest, gv, gf, hbx, hrd, hc2', hrv, hrf, hne, hlo, hbl⟩ := hPN.out
    have e0 : lst N (fun _ => 0) = List.replicate N 0 := by
      apply List.ext_getElem?
      intro i
      by_cases hi : i < N
      · rw [lst_get _ hi, List.getElem?_replicate, if_pos hi]
      · rw [List.getElem?_eq_none (by rw [lst_len]; omega), List.getElem?_eq_none (by simp; omega)]
    obtain ⟨B, hB⟩ : ∃ B, B = wc.heap.size := ⟨_, rfl⟩
    have HP0 : Hid (PPre B b gd c2 gv gf N q rest d 0 (.slice none 0 0) [] (fun _ _ => 0) (fun _ => 0) wc) := ⟨hbx, hrd, by rw [e0]; exact hrv, hrf, RTab.nil _ _, rfl, ⟨by rw [hB]; exact hbx.lt, by rw [hB]; exact hrd.lt, by rw [hB]; exact hrv.lt, by rw [hB]; exact hrf.lt⟩, hne⟩
    have HLO := hide hlo
    have HBL := hide hbl
    have HBB := hide hB
    have y0 := (HX1.out.below hbl).cell 0
    simp only [List.getElem?_cons_zero, List.getElem?_cons_succ] at y0
    have hBs : B ≤ wc.heap.size := by omega
    have hW1B : W1.heap.size ≤ B := by rw [hB]; exact hbl.size
    clear hPN hbx hrd hrv hrf hne hlo hbl e0 hB y1 hl3
    go_wp2_with fail
    clear y0
    go_loopg [29] N (fun gm iv wx => ∃ (i : Nat) (tv : Value) (rs : List Rw), i ≤ N ∧ gm = N - i ∧ iv = .int .i64 i ∧ Hid (PPre B b gd c2 gv gf N q rest d i tv rs (fun _ _ => 0) (fun _ => 0) wx) ∧ Hid (Below W1.heap.size W1 wx) ∧ B ≤ wx.heap.size)
    case atStart => exact ⟨0, _, [], by omega, by omega, rfl, HP0.out, HBL.out, hBs⟩
    case round =>
      obtain ⟨i, tv, rs, hi, hgm, rfl, HPi, HBi, hBi⟩ := hrel
      have HGM := hide hgm
      have HLEN : Hid ((rs.map Rw.val).length = i) := by show _ = _; rw [List.length_map]; exact HPi.out.rsLen
      have y0 := (HX1.out.below HBi.out).cell 0
      have y1 := (HX1.out.below HBi.out).cell 1
      simp only [List.getElem?_cons_zero, List.getElem?_cons_succ] at y0 y1
      obtain ⟨ot, ct_, htv, hct⟩ := HPi.out.tab.len
      rw [HPi.out.rsLen] at htv hct
      subst htv
      have hlo := HLO.out
      clear hgm
      by_cases hlt : i < N
      · obtain ⟨p2, _, _⟩ := HPi.out.cells
        have p2a := cell_next p2 (.cells Zs 3)
        have p2b := cell_next p2a (.cells #[.slice (some ⟨wr.heap.size, 0, none⟩) N N] 23)
        have y0a := cell_next y0
        have pf := HPi.out.box.free
        have hbB := HPi.out.low.1
        go_wp2_with fail
        go_region_law (refine step_append_in rfl (.tmp 35) (.tmp 39) 24 rfl B 23 _ 1 24 Tryz.underlying24 tabInfoN rfl (by decide) valR_ok Non (.slice ot i ct_) (rs.map Rw.val) (by simp [Act.eval, Act.put]) ((((HPi.out.tab.tab.wide valR_ok fun k hk _ => hk.elim).new valR_ok _).new valR_ok _).draw valR_ok) ⟨_, 0, none⟩ 1 [.slice (some ⟨wr.heap.size, 0, none⟩) N N] (.slice (some ⟨wr.heap.size, 0, none⟩) N N) (by simp [Act.eval, Act.put]) (World.news_of_block (heap_alloc_new _ _)) ⟨rfl, rfl⟩ (by rw [HLEN.out]; omega) (by rw [HLEN.out]; unfold maxLen; omega) (by rw [drew_size, alloc_size', alloc_size']; omega) ?_; intro v' w8 ho hb8 hg8 hat; have hbx8 := ((HPi.out.box.next (.cells Zs 3)).next (.cells #[.slice (some ⟨wr.heap.size, 0, none⟩) N N] 23)).draw.grown hg8 (fun e => by have := (HPi.out.tab.tab.block b e.symm).1; omega); have m2 : w8.cell? ⟨b, 2, none⟩ = some (.slice ot i ct_) := hbx8.cell 2; have mf := hbx8.free 2; have hpp := HPi.out.push HZS.out (ho.wide valR_ok fun k hk _ => hk.1.elim) hg8 hBi; obtain ⟨o8, c8, hv8, _, _⟩ := ho.slice valR_ok; rw [List.length_append, HLEN.out] at hv8; simp only [List.length_cons, List.length_nil, Nat.zero_add] at hv8; subst hv8; have HPP := hide hpp; have HB8 := hide hb8; clear ho hb8 hg8 hat hpp hbx8)
        all_goals
          go_wp2_with fail
          go_roundg (N - (i + 1))
          case measure => have := HGM.out; omega
          case rel =>
            refine ⟨i + 1, _, _, by omega, rfl, by go_num, HPP.out, ?_, ?_⟩
            · show Below _ _ _
              refine Below.setCell (p := ⟨b, 2, none⟩) ?_ hlo.1 _
              exact ((((HBi.out.alloc (by omega) (.cells Zs 3)).alloc (by rw [alloc_size']; omega) (.cells #[.slice (some ⟨wr.heap.size, 0, none⟩) N N] 23)).drew).trans (HB8.out.mono (by omega)))
            · rw [World.size_setCell]
              have := HB8.out.size
              rw [drew_size, alloc_size', alloc_size'] at this
              omega
      · have hiN : i = N := by omega
        subst hiN
        have HGE : Hid (Calls Tryz.prog 71 #[.agg #[.int .i64 i, .slice oe es.length c]] wr (PairsPost wr (endsL es, 0))) := by
          have h := gends_any i es oe c F wr (HS.out.below edgR_ok (HB1.out.trans (HBi.out.mono HB1.out.size))) hc hc2
          rw [show endsRes i es = (endsL es, 0) from if_pos HG.out] at h
          exact h
        have hEr : ∀ x ∈ endsL es, (0 ≤ x.1 ∧ x.1 < i) ∧ 0 ≤ x.2 ∧ x.2 < i := fun x hx => by
          obtain ⟨y, hy, rfl⟩ := endsL_mem hx
          have := (gErr_zero HG.out).2.1 y hy
          simp only
          omega
        have hEl : (endsL es).length ≤ 50000 := by
          have := endsL_len (es := es) fun x hx => ((gErr_zero HG.out).2.1 x hx).2.2.2.1
          omega
        have HCA : Hid (∀ v w, cntE (endsL es) v w = rowR' es v w) := cntE_all HG.out
        obtain ⟨E, hE⟩ : ∃ E, E = endsL es := ⟨_, rfl⟩
        rw [← hE] at HGE hEr hEl HCA
        have HER := hide hEr
        clear hE hEr
        go_wp2_with (go_at_call 71; refine HGE.out.mono ?_; rintro e w5 ⟨v5, rfl, h5, hb5⟩; obtain ⟨oE, cE, hv5, hcE, hsE⟩ := h5.slice prR_ok; subst hv5; have HSE := hide (hsE.wide prR_ok (by decide) (F' := fun k => wr.heap.size ≤ k ∧ k < w5.heap.size) (fun k hk hl => ⟨by rcases hk with h | h; exact h.elim; exact h, hl⟩)); have HB5 := hide (HBi.out.trans (hb5.mono HBi.out.size)); have HP5 := hide (HPi.out.below hb5); have hsz5 := hb5.size; clear h5 hb5 hsE)
        have HTO : Hid (∀ g, (Value.slice ot i ct_).ownBlock = some g → g < wr.heap.size) := fun g hg => (HPi.out.tab.tab.block g hg).2
        have HRO : Hid (∀ r ∈ rs, r.g < wr.heap.size) := fun r hr => (HPi.out.tab.row r hr).1.lt
        obtain ⟨S5, hS5⟩ : ∃ S5, S5 = wr.heap.size := ⟨_, rfl⟩
        rw [← hS5] at HSE HTO HRO hsz5
        have hBS : B ≤ S5 := by rw [hS5]; exact hBi
        clear HGE y0 y1 hS5
        go_loopg [54] E.length (fun gm iv wx => ∃ (j : Nat) (rs : List Rw), j ≤ E.length ∧ gm = E.length - j ∧ iv = .int .i64 j ∧ Hid (PPre B b gd c2 gv gf i q rest d i (.slice ot i ct_) rs (cntE (E.take j)) (fun v => sumI (cntE (E.take j) v) i) wx) ∧ Hid (Below W1.heap.size W1 wx) ∧ Hid (∀ k, S5 ≤ k → k < w5.heap.size → wx.heap[k]? = w5.heap[k]?) ∧ Hid (∀ r ∈ rs, r.g < S5) ∧ w5.heap.size ≤ wx.heap.size)
        case atStart => exact ⟨0, rs, by omega, by omega, rfl, HP5.out.congr (fun v w _ _ => by simp [cntE_nil]) (fun v _ => by
          have h2 : ∀ n, sumI (cntE (E.take 0) v) n = 0 := fun n => by
            induction n with
            | zero => rfl
            | succ n ih => simp only [sumI, ih]; simp [cntE_nil]
          exact (h2 i).symm), HB5.out, fun k _ _ => rfl, HRO.out, Nat.le_refl _⟩
        case round =>
          obtain ⟨j, rs, hj, hgm, rfl, HPj, HBj, HKj, HRj, hsz⟩ := hrel
          have HGM2 := hide hgm
          clear hgm
          have hlo := HLO.out
          have hB1 : B ≤ wr.heap.size := by omega
          by_cases hjl : j < E.length
          · obtain ⟨xi, yi, _, hget, iX, iY, bl, off, hoE, _, f1, f2⟩ := (HSE.out.keep prR_ok fun k hk _ => HKj.out k hk.1 hk.2).pr_at hjl
            have hr := HER.out _ (List.mem_of_getElem? hget)
            obtain ⟨x, rfl⟩ := Int.eq_ofNat_of_zero_le hr.1.1
            obtain ⟨y, rfl⟩ := Int.eq_ofNat_of_zero_le hr.2.1
            have hx : x < i := by have := hr.1.2; simp only at this; omega
            have hy : y < i := by have := hr.2.2; simp only at this; omega
            have hoE' := hoE
            subst hoE'
            have HTJ : Hid (E.take (j + 1) = E.take j ++ [((x : Int), (y : Int))]) := by show _ = _; rw [List.take_add_one, hget]; rfl
            have HBox := hide (Box.new wr [.int .i64 x, .int .i64 y] 80)
            have z0 := HBox.out.cell 0
            have z1 := HBox.out.cell 1
            simp only [List.getElem?_cons_zero, List.getElem?_cons_succ] at z0 z1
            have hc5 : E.length ≤ cE := hcE
            have hj1 : (j : Int) < (E.length : Int) := by omega
            clear hr hget hoE iX iY
            go_wp2_with fail
            go_quiet (fail)
            have hbq : Below wr.heap.size wr ((wr.alloc (.cells #[.int .i64 x, .int .i64 y] 80)).drewN nq) := below_drewN (bnew (Below.refl _ _) _) nq
            have HPq := hide (HPj.out.below hbq)
            have HBq := hide (HBj.out.trans (hbq.mono HBj.out.size))
            have HKq : Hid (∀ k, S5 ≤ k → k < w5.heap.size → ((wr.alloc (.cells #[.int .i64 x, .int .i64 y] 80)).drewN nq).heap[k]? = w5.heap[k]?) := fun k h1 h2 => (hbq.block k (by omega)).trans (HKj.out k h1 h2)
            have hsq : w5.heap.size ≤ ((wr.alloc (.cells #[.int .i64 x, .int .i64 y] 80)).drewN nq).heap.size := by have := hbq.size; omega
            clear hbq z0 z1 f1 f2
            generalize ((wr.alloc (.cells #[.int .i64 x, .int .i64 y] 80)).drewN nq) = wq at *
            by_cases hxy : x = y
            · have q1 : ((x : Int) != (y : Int)) = false := by simp [hxy]
              have HXY := hide hxy
              clear hxy
              go_wp2_with fail
              go_roundg (E.length - (j + 1))
              case measure => have := HGM2.out; omega
              case rel =>
                refine ⟨j + 1, rs, by omega, rfl, by go_num, HPq.out.congr (fun v w _ _ => ?_) (fun v _ => ?_), HBq.out, HKq.out, HRj.out, hsq⟩
                · rw [HTJ.out, ← HXY.out, cntE_loop]
                · rw [HTJ.out, ← HXY.out]
                  exact sumI_eq fun w _ => (cntE_loop _ _ _ _).symm
            · have q1 : ((x : Int) != (y : Int)) = true := by simp; omega
              have HXY := hide hxy
              clear hxy
              have hER : (E.take j).length ≤ 50000 := by rw [List.length_take]; omega
              obtain ⟨F, hF⟩ : ∃ F, F = cntE (E.take j) := ⟨_, rfl⟩
              have hFr : ∀ v w, 0 ≤ F v w ∧ F v w ≤ 50000 := fun v w => by rw [hF]; have := cntE_range (E.take j) v w; omega
              obtain ⟨vm, hvm⟩ : ∃ vm : Nat → Int, vm = fun v => sumI (F v) i := ⟨_, rfl⟩
              have hvr : ∀ v, 0 ≤ vm v ∧ vm v ≤ 600000 := fun v => by
                rw [hvm]
                have h1 := sumI_nn (n := i) fun p (_ : p < i) => (hFr v p).1
                have h2 := sumI_bound (n := i) fun p (_ : p < i) => (hFr v p).2
                have h3 : (i : Int) * 50000 ≤ 12 * 50000 := by omega
                simp only
                omega
              rw [← hF] at HPq
              rw [← hvm] at HPq
              have HF := hide (And.intro hF hvm)
              clear hF hvm hER
              -- rows[x][y]++
              obtain ⟨r0, gt, c0, hr0, htv, hct0, k0, hc0, hl0, hB0, hrw0, hown, hne0, hBgt⟩ := HPq.out.row hx
              injection htv with h1 h2 h3
              subst h1 h3
              obtain ⟨p2, p3, _⟩ := HPq.out.cells
              have e0 : wq.cell? ⟨r0.g, y, none⟩ = some (.int .i64 (F x y)) := by rw [hl0] at hrw0; exact hrw0.cell (lst_get (F x) hy)
              have fr0 := hrw0.free
              have hP1 := HPq.out.putRow (a := x) hy hr0 hl0
              have hG1 : ∀ r ∈ rwSet rs x (r0.l.set y (F x y + 1)), r.g < S5 := fun r hr => by
                have h1 : r.g ∈ (rwSet rs x (r0.l.set y (F x y + 1))).map (·.g) := List.mem_map.2 ⟨r, hr, rfl⟩
                rw [rwSet_g] at h1
                obtain ⟨r', h2, h3⟩ := List.mem_map.1 h1
                rw [← h3]
                exact HRj.out r' h2
              have hS0 := HRj.out r0 (List.mem_of_getElem? hr0)
              obtain ⟨F1, hF1⟩ : ∃ F1, F1 = bumpF F x y := ⟨_, rfl⟩
              have hF1r : ∀ v w, 0 ≤ F1 v w ∧ F1 v w ≤ 50001 := fun v w => by
                rw [hF1]
                unfold bumpF
                have := hFr v w
                split <;> omega
              rw [← hF1] at hP1
              obtain ⟨w1, hw1⟩ : ∃ w1, wq.setCell ⟨r0.g, y, none⟩ (.int .i64 (F x y + 1)) = w1 := ⟨_, rfl⟩
              rw [hw1] at hP1
              -- rows[y][x]++
              obtain ⟨r1, gt1, c1, hr1, htv1, _, k1, hc1, hl1, hBr1, hrw1, _, hne1, _⟩ := hP1.row hy
              injection htv1 with h1 h2 h3
              injection h1 with h1
              injection h1 with h1
              subst h1 h3
              obtain ⟨p21, p31, _⟩ := hP1.cells
              have e1 : w1.cell? ⟨r1.g, x, none⟩ = some (.int .i64 (F1 y x)) := by rw [hl1] at hrw1; exact hrw1.cell (lst_get (F1 y) hx)
              have fr1 := hrw1.free
              have hP2 := hP1.putRow (a := y) hx hr1 hl1
              have hS1 := hG1 r1 (List.mem_of_getElem? hr1)
              have hG2 : ∀ r ∈ rwSet (rwSet rs x (r0.l.set y (F x y + 1))) y (r1.l.set x (F1 y x + 1)), r.g < S5 := fun r hr => by
                have h1 : r.g ∈ (rwSet (rwSet rs x (r0.l.set y (F x y + 1))) y (r1.l.set x (F1 y x + 1))).map (·.g) := List.mem_map.2 ⟨r, hr, rfl⟩
                rw [rwSet_g] at h1
                obtain ⟨r', h2, h3⟩ := List.mem_map.1 h1
                rw [← h3]
                exact hG1 r' h2
              obtain ⟨w2, hw2⟩ : ∃ w2, w1.setCell ⟨r1.g, x, none⟩ (.int .i64 (F1 y x + 1)) = w2 := ⟨_, rfl⟩
              rw [hw2] at hP2
              -- valence[x]++
              obtain ⟨_, p32, _⟩ := hP2.cells
              have e2 := hP2.vAt hx
              have fr2 := hP2.rv.free
              have hP3 := hP2.putV (a := x) (vm x + 1)
              obtain ⟨w3, hw3⟩ : ∃ w3, w2.setCell ⟨gv, x, none⟩ (.int .i64 (vm x + 1)) = w3 := ⟨_, rfl⟩
              rw [hw3] at hP3
              obtain ⟨_, p33, _⟩ := hP3.cells
              have e3 : w3.cell? ⟨gv, y, none⟩ = some (.int .i64 (vm y)) := by
                have := hP3.vAt hy
                unfold updF at this
                rw [if_neg (Ne.symm HXY.out)] at this
                exact this
              have fr3 := hP3.rv.free
              have hP4 := hP3.putV (a := y) (vm y + 1)
              have HP4 := hide hP4
              have HG2 := hide hG2
              have b0 := hFr x y
              have b1 := hF1r y x
              have b2 := hvr x
              have b3 := hvr y
              obtain ⟨t0, ht0⟩ : ∃ t, t = F x y := ⟨_, rfl⟩
              obtain ⟨t1, ht1⟩ : ∃ t, t = F1 y x := ⟨_, rfl⟩
              obtain ⟨t2, ht2⟩ : ∃ t, t = vm x := ⟨_, rfl⟩
              obtain ⟨t3, ht3⟩ : ∃ t, t = vm y := ⟨_, rfl⟩
              have HW := hide (And.intro hw1 (And.intro hw2 hw3))
              have HT := hide (And.intro ht0 (And.intro ht1 (And.intro ht2 ht3)))
              have HF1 := hide hF1
              rw [← ht0] at e0 b0 hw1
              rw [← ht1] at e1 b1 hw2
              rw [← ht2] at e2 b2 hw3
              rw [← ht3] at e3 b3
              have u0 : wrap64 (t0 + 1) = t0 + 1 := by unfold wrap64; omega
              have u1 : wrap64 (t1 + 1) = t1 + 1 := by unfold wrap64; omega
              have u2 : wrap64 (t2 + 1) = t2 + 1 := by unfold wrap64; omega
              have u3 : wrap64 (t3 + 1) = t3 + 1 := by unfold wrap64; omega
              have hxi : (x : Int) < (i : Int) := by omega
              have hyi : (y : Int) < (i : Int) := by omega
              have hx0 : (0 : Int) ≤ (x : Int) := by omega
              have hy0 : (0 : Int) ≤ (y : Int) := by omega
              clear hr0 hl0 hrw0 hP1 hG1 hF1 hFr hvr hF1r hr1 hl1 hrw1 hP2 hG2 hP3 hP4 ht0 ht1 ht2 ht3 hown hne0 hne1
              go_wp2_with fail
              go_roundg (E.length - (j + 1))
              case measure => have := HGM2.out; omega
              case rel =>
                obtain ⟨a1, a2, a3⟩ := HW.out
                obtain ⟨_, _, g3, _⟩ := HP4.out.low
                have h4 := HP4.out
                rw [← HT.out.2.2.2] at h4
                refine ⟨j + 1, _, by omega, rfl, by go_num, h4.congr (fun v w _ _ => ?_) (fun v _ => ?_), ?_, ?_, HG2.out, ?_⟩
                · rw [HTJ.out, HF1.out, HF.out.1]
                  exact cntE_bump _ HXY.out v w
                · rw [HTJ.out, cntE_sum _ HXY.out hx hy, ← HF.out.1]
                  have hv : vm v = sumI (F v) i := by rw [HF.out.2]
                  rw [← hv, HT.out.2.2.2]
                  unfold updF
                  by_cases e1 : v = y
                  · subst e1
                    rw [if_pos rfl, if_neg (Ne.symm HXY.out), if_pos rfl]
                    omega
                  · rw [if_neg e1, if_neg e1]
                    by_cases e2 : v = x
                    · subst e2; rw [if_pos rfl, if_pos rfl]; omega
                    · rw [if_neg e2, if_neg e2]; omega
                · show Below _ _ _
                  rw [← a3, ← a2, ← a1]
                  exact (((HBq.out.setCell (by simp only; omega) _).setCell (by simp only; omega) _).setCell (by simp only; omega) _).setCell (by simp only; omega) _
                · show ∀ k, _ → _ → _
                  intro k h1 h2
                  rw [← a3, ← a2, ← a1, Below.heap_setCell _ _ _ k (by simp only; omega), Below.heap_setCell _ _ _ k (by simp only; omega), Below.heap_setCell _ _ _ k (by simp only; omega), Below.heap_setCell _ _ _ k (by simp only; omega)]
                  exact HKq.out k h1 h2
                · rw [← a3, ← a2, ← a1, World.size_setCell, World.size_setCell, World.size_setCell, World.size_setCell]
                  exact hsq
          · have hjE : j = E.length := by omega
            subst hjE
            have hM := (HPj.out.congr (F' := rowR' es) (vm' := vlR i (rowR' es)) (fun v w _ _ => by rw [List.take_length]; exact HCA.out v w) (fun v _ => by rw [List.take_length]; exact sumI_eq fun w _ => HCA.out v w)).mem hW1B hlo ⟨by omega, hq, hc2'⟩ HDN.out
            obtain ⟨L, hL⟩ : ∃ L : PLay, L = ⟨b, gd, c2, gv, gf, .slice ot i ct_, rs, rest⟩ := ⟨_, rfl⟩
            have hLp : L.p = b := by rw [hL]
            have hLd : L.gd = gd := by rw [hL]
            have hLc : L.cd = c2 := by rw [hL]
            rw [← hL] at hM
            have HM := hide hM
            obtain ⟨a0, _⟩ := hM.cells
            rw [hLp, hLd, hLc] at a0
            have HLP := hide hLp
            clear hM hL hLp hLd hLc
            go_wp2_with fail
            go_loopg [113] i (fun gm iv wx => ∃ v : Nat, v ≤ i ∧ gm = i - v ∧ iv = .int .i64 v ∧ Hid (PMem W1.heap.size i q (rowR' es) (vlR i (rowR' es)) L ⟨fun v => d.getD v 0, fun _ => 0, 0, fun u => if u < v then unst q (vlR i (rowR' es)) (fun v => d.getD v 0) u else false⟩ wx) ∧ Hid (Below W1.heap.size W1 wx))
            case atStart => exact ⟨0, by omega, by omega, rfl, HM.out.congr (fun u _ => rfl) (fun u _ => rfl) rfl (fun u _ => by simp), HBj.out⟩
            case round =>
              obtain ⟨v, hv, hgm, rfl, HMv, HBv⟩ := hrel
              have HGM3 := hide hgm
              clear hgm
              by_cases hlv : v < i
              · have HC := hide (pwait_any HMv.out hlv)
                rw [HLP.out] at HC
                go_wp2_with (go_at_call 140; refine HC.out.mono ?_; rintro e w9 ⟨rfl, hM9, hb9⟩; have HM9 := hide hM9; have HB9 := hide (HBv.out.trans hb9); clear hM9 hb9)
                go_roundg (i - (v + 1))
                case measure => have := HGM3.out; omega
                case rel =>
                  refine ⟨v + 1, by omega, rfl, by go_num, HM9.out.congr (fun u _ => rfl) (fun u _ => rfl) rfl (fun u _ => ?_), HB9.out⟩
                  simp only [updW]
                  by_cases e : u = v
                  · subst e; rw [if_pos rfl, if_pos (by omega)]
                  · rw [if_neg e]
                    by_cases h1 : u < v
                    · rw [if_pos h1, if_pos (by omega)]
                    · rw [if_neg h1, if_neg (by omega)]
              · have hvi : v = i := by omega
                subst hvi
                go_wp2_with fail
                go_ret2
                refine ⟨L, by rw [HLP.out]; rfl, ?_, HB1.out.trans (HBv.out.mono HB1.out.size)⟩
                obtain ⟨m1, m2, m3, m4, m5, m6, m7, m8, m9⟩ := HMv.out
                have hsz1 := HB1.out.size
                exact ⟨m1, m2, m3, m4, ⟨m5.tab.rebase hsz1, fun r hr => ⟨(m5.row r hr).1, by have := (m5.row r hr).2.1; omega, (m5.row r hr).2.2⟩, m5.inj⟩, m6, m7, by omega, m9⟩

end Go.Proofs.YtnigfddanoaonaaGreat

set_option linter.unusedVariables false
set_option linter.unusedSimpArgs false
namespace Go.Proofs.YtnigfddanoaonaaGreat
open Go.RowKit

/-- A table of rows of one number. -/
def Rows1 (n : Nat) (t : List (List Int)) (f : Nat → Int) : Prop := t.length = n ∧ ∀ v, v < n → t[v]? = some [f v]
theorem Rows1.up {n : Nat} {t : List (List Int)} {f : Nat → Int} (h : Rows1 n t f) {p : Nat} (hp : p < n) (y : Int) : Rows1 n (bump t p 0 y) (fun v => f v + if v = p then y else 0) := by
  have he : bump t p 0 y = t.set p [f p + y] := bump_eq (h.2 p hp) (z := f p) rfl y
  rw [he]
  refine ⟨by rw [List.length_set]; exact h.1, fun v hv => ?_⟩
  rw [List.getElem?_set]
  by_cases e : p = v
  · subst e
    rw [if_pos rfl, if_pos (by rw [h.1]; exact hp)]
    simp
  · rw [if_neg e, h.2 v hv]
    show _ = some [f v + if v = p then y else 0]
    rw [if_neg fun e2 : v = p => e e2.symm, Int.add_zero]
theorem Rows1.cell {n : Nat} {t : List (List Int)} {f : Nat → Int} (h : Rows1 n t f) {v : Nat} (hv : v < n) : cellT t v 0 = f v := by
  unfold cellT
  rw [getD_some (h.2 v hv)]
  rfl
theorem Rows1.move {n : Nat} {t : List (List Int)} {f : Nat → Int} (h : Rows1 n t f) {m : Nat × Nat} (hm : m ∈ movesS t) : m.1 < n ∧ m.2 = 0 ∧ 0 < f m.1 := by
  obtain ⟨l, y, h1, h2, h3⟩ := mem_moves hm
  have hn : m.1 < n := by rw [← h.1]; exact (List.getElem?_eq_some_iff.1 h1).1
  rw [h.2 _ hn] at h1
  injection h1 with h1
  subst h1
  have h0 : m.2 = 0 := by
    have := (List.getElem?_eq_some_iff.1 h2).1
    simp at this
    exact this
  rw [h0] at h2
  injection h2 with h2
  exact ⟨hn, h0, by rw [show f m.1 = y from h2]; exact h3⟩

theorem Rows1.adds {n : Nat} : ∀ (os : List Out) {t : List (List Int)} {f : Nat → Int}, Rows1 n t f → (∀ o ∈ os, (0 ≤ o.dst ∧ o.dst < n) ∧ o.letter = 0) → Rows1 n ((os.map pairO).foldl addO t) (fun v => f v + ((os.countP fun o => decide (o.dst = (v : Int)) : Nat) : Int))
  | [], t, f, h, _ => by simpa using h
  | o :: r, t, f, h, ho => by
    obtain ⟨h1, h2⟩ := ho o (by simp)
    have hd : o.dst.toNat < n := by omega
    have e : addO t (pairO o) = bump t o.dst.toNat 0 1 := by
      unfold addO pairO
      simp only [h2]
      rfl
    rw [List.map_cons, List.foldl_cons, e]
    have ih := Rows1.adds r (h.up hd 1) fun o ho' => ho o (by simp [ho'])
    have ef : (fun v => f v + ((((o :: r).countP fun o => decide (o.dst = (v : Int))) : Nat) : Int)) = fun v => (f v + if v = o.dst.toNat then 1 else 0) + (((r.countP fun o => decide (o.dst = (v : Int))) : Nat) : Int) := by
      funext v
      rw [List.countP_cons]
      by_cases hv : o.dst = (v : Int)
      · rw [if_pos (by simp [hv]), if_pos (by omega)]
        push_cast
        omega
      · rw [if_neg (by simp [hv]), if_neg (by omega)]
        push_cast
        omega
    rw [ef]
    exact ih

end Go.Proofs.YtnigfddanoaonaaGreat

set_option linter.unusedVariables false
set_option linter.unusedSimpArgs false
namespace Go.Proofs.YtnigfddanoaonaaGreat
open Go.RowKit

theorem comm_self (rs : List (List Rul)) (s a : Int) : commB rs s a a = true := by simp [commB]
theorem witS_one (rs : List (List Rul)) : ∀ n s, witS (commN rs) 1 n s = none
  | 0, s => rfl
  | n + 1, s => by
    have h : commN rs s 0 0 = true := comm_self rs s 0
    simp [witS, witA, witB, h, witS_one rs n]

end Go.Proofs.YtnigfddanoaonaaGreat

set_option linter.unusedVariables false
set_option linter.unusedSimpArgs false
namespace Go.Proofs.YtnigfddanoaonaaGreat
open Go.RowKit

theorem procsErr_of {N : Int} : ∀ {l : List Prc}, (∀ p ∈ l, checkErr p N = 0) → procsErr N l = 0
  | [], _ => rfl
  | x :: r, h => by unfold procsErr; rw [if_pos (h x (by simp))]; exact procsErr_of fun p hp => h p (by simp [hp])
theorem procsOk_of {procs : List Prc} : ∀ {l : List Prc}, (∀ p ∈ l, rowsOk procs p.rules = true) → procsOk procs l = true
  | [], _ => rfl
  | x :: r, h => by unfold procsOk; rw [if_pos (h x (by simp))]; exact procsOk_of fun p hp => h p (by simp [hp])
theorem statesErr_of : ∀ {l : List Int} {ps : List Prc}, (∀ (i : Nat) (s : Int) (p : Prc), l[i]? = some s → ps[i]? = some p → 0 ≤ s ∧ s < p.states) → statesErr l ps = 0
  | [], ps, _ => by cases ps <;> rfl
  | _ :: _, [], _ => rfl
  | x :: r, y :: ps, h => by
    have h0 := h 0 x y rfl rfl
    unfold statesErr
    rw [if_pos (by simpa [belowB] using h0)]
    exact statesErr_of fun i s p h1 h2 => h (i + 1) s p (by simpa using h1) (by simpa using h2)
theorem shapesErr_of : ∀ {l : List (List Int)} {ps : List Prc}, (∀ (i : Nat) (t : List Int) (p : Prc), l[i]? = some t → ps[i]? = some p → (t.length : Int) = p.letters) → shapesErr l ps = 0
  | [], ps, _ => by cases ps <;> rfl
  | _ :: _, [], _ => rfl
  | x :: r, y :: ps, h => by
    unfold shapesErr
    rw [if_pos (h 0 x y rfl rfl)]
    exact shapesErr_of fun i s p h1 h2 => h (i + 1) s p (by simpa using h1) (by simpa using h2)
theorem numsErr_of : ∀ {l : List Int}, (∀ k ∈ l, 0 ≤ k ∧ k ≤ 1048576) → numsErr l = 0
  | [], _ => rfl
  | x :: r, h => by unfold numsErr; rw [if_pos (h x (by simp))]; exact numsErr_of fun p hp => h p (by simp [hp])
theorem tableErr_of : ∀ {l : List (List Int)}, (∀ k ∈ l, numsErr k = 0) → tableErr l = 0
  | [], _ => rfl
  | x :: r, h => by unfold tableErr; rw [if_pos (h x (by simp))]; exact tableErr_of fun p hp => h p (by simp [hp])
theorem netErr_of {x : Nwk} (hr : Right x) : netErr x = 0 := by
  have h1 := hr.n
  unfold netErr
  rw [if_neg (by omega), if_pos (procsErr_of fun p hp => by obtain ⟨i, hi⟩ := List.mem_iff_getElem?.1 hp; exact hr.proc i p hi), if_pos (procsOk_of fun p hp => by obtain ⟨i, hi⟩ := List.mem_iff_getElem?.1 hp; exact hr.und i p hi), if_pos hr.nst, if_pos (statesErr_of hr.st)]
  unfold waitsErr shapedErr
  rw [if_pos hr.nwt, if_pos (shapesErr_of hr.wl)]
  exact tableErr_of fun t ht => numsErr_of (hr.wb t ht)

/-- A right processor of one letter. -/
structure OneP (N : Nat) (p : Prc) : Prop where
  st : 1 ≤ p.states ∧ p.states ≤ 16
  lt : p.letters = 1
  ln : (p.rules.length : Int) = p.states
  row : ∀ row ∈ p.rules, ∃ r, row = [r] ∧ (0 ≤ r.next ∧ r.next < p.states) ∧ r.sent.length ≤ 16 ∧ ∀ o ∈ r.sent, (0 ≤ o.dst ∧ o.dst < N) ∧ o.letter = 0
theorem sentErr_of {N : Int} : ∀ {l : List Out}, (∀ o ∈ l, (0 ≤ o.dst ∧ o.dst < N) ∧ o.letter = 0) → sentErr N l = 0
  | [], _ => rfl
  | x :: r, h => by
    obtain ⟨h1, h2⟩ := h x (by simp)
    unfold sentErr
    rw [if_pos (by simp [belowB, h1, h2]), sentErr_of fun o ho => h o (by simp [ho])]
theorem rowsErr_of {S L N : Int} : ∀ {l : List (List Rul)}, (∀ r ∈ l, (r.length : Int) = L ∧ rowErr S N r = 0) → rowsErr S L N l = 0
  | [], _ => rfl
  | x :: r, h => by
    obtain ⟨h1, h2⟩ := h x (by simp)
    unfold rowsErr
    rw [if_pos h1, if_pos h2, rowsErr_of fun o ho => h o (by simp [ho])]
theorem OneP.check {N : Nat} {p : Prc} (h : OneP N p) (hN : 1 ≤ N ∧ N ≤ 12) : checkErr p N = 0 := by
  have h1 := h.st
  have h2 := h.lt
  unfold checkErr
  rw [if_neg (by omega), if_neg (by omega), if_neg (by simpa using h.ln)]
  refine rowsErr_of fun r hr => ?_
  obtain ⟨x, rfl, hx, hl, ho⟩ := h.row r hr
  refine ⟨by simp [h2], ?_⟩
  have he : ruleErr p.states N x = 0 := by
    unfold ruleErr
    rw [if_pos (by simp [belowB, hx]), if_pos hl, sentErr_of ho]
  unfold rowErr
  rw [if_pos he]
  rfl
theorem outsOk_of {procs : List Prc} : ∀ {l : List Out}, (∀ o ∈ l, o.letter < (procs.getD o.dst.toNat prc0).letters) → outsOk procs l = true
  | [], _ => rfl
  | x :: r, h => by unfold outsOk; rw [if_pos (h x (by simp)), outsOk_of fun o ho => h o (by simp [ho])]
theorem rowsOk_of {procs : List Prc} : ∀ {l : List (List Rul)}, (∀ r ∈ l, rulesOk procs r = true) → rowsOk procs l = true
  | [], _ => rfl
  | x :: r, h => by unfold rowsOk; rw [if_pos (h x (by simp)), rowsOk_of fun o ho => h o (by simp [ho])]
theorem one_right {x : Nwk} (hn : 1 ≤ x.procs.length ∧ x.procs.length ≤ 12) (hp : ∀ p ∈ x.procs, OneP x.procs.length p) (hs : x.state.length = x.procs.length)
    (hst : ∀ (i : Nat) (s : Int) (p : Prc), x.state[i]? = some s → x.procs[i]? = some p → 0 ≤ s ∧ s < p.states) (hw : x.waiting.length = x.procs.length) (hwl : ∀ t ∈ x.waiting, ∃ k, t = [k] ∧ 0 ≤ k ∧ k ≤ 1048576) : Right x where
  n := hn
  proc := fun i p h => (hp p (List.mem_of_getElem? h)).check hn
  und := fun i p h => by
    have h1 := hp p (List.mem_of_getElem? h)
    refine rowsOk_of fun r hr => ?_
    obtain ⟨y, rfl, _, _, ho⟩ := h1.row r hr
    have : outsOk x.procs y.sent = true := outsOk_of fun o hoo => by
      obtain ⟨e1, e2⟩ := ho o hoo
      have hl : o.dst.toNat < x.procs.length := by omega
      rw [List.getD_eq_getElem?_getD, List.getElem?_eq_getElem hl, Option.getD_some, (hp _ (List.getElem_mem hl)).lt, e2]
      omega
    unfold rulesOk
    rw [if_pos this]
    rfl
  nst := hs
  st := hst
  nwt := hw
  wl := fun i t p h1 h2 => by
    obtain ⟨k, rfl, _⟩ := hwl t (List.mem_of_getElem? h1)
    rw [(hp p (List.mem_of_getElem? h2)).lt]
    rfl
  wb := fun t ht k hk => by
    obtain ⟨z, rfl, hz⟩ := hwl t ht
    rw [List.mem_singleton] at hk
    subst hk
    exact hz
theorem one_comm {procs : List Prc} {N : Nat} (hp : ∀ p ∈ procs, OneP N p) : commP procs = true := by
  unfold commP
  rw [List.all_eq_true]
  intro p h
  rw [(hp p h).lt, show (1 : Int).toNat = 1 from rfl, witS_one]
  rfl
theorem one_sink {N : Nat} : OneP N sinkP where
  st := by decide
  lt := rfl
  ln := rfl
  row := fun r hr => ⟨⟨0, []⟩, by simpa [sinkP] using hr, by decide, by decide, fun o ho => by simp at ho⟩
theorem one_top {N : Nat} {l : List Out} (h1 : 1 ≤ l.length ∧ l.length ≤ 16) (hl : ∀ o ∈ l, (0 ≤ o.dst ∧ o.dst < N) ∧ o.letter = 0) : OneP N (topP l) where
  st := by unfold topP; simp only; omega
  lt := rfl
  ln := by simp [topP]
  row := fun r hr => by
    unfold topP at hr
    obtain ⟨s, _, rfl⟩ := List.mem_map.1 hr
    have hm : (s + 1) % l.length < l.length := Nat.mod_lt _ (by omega)
    refine ⟨_, rfl, ⟨by simp only; omega, by unfold topP; simp only; omega⟩, ?_, ?_⟩
    · simp only
      split
      · omega
      · simp
    · simp only
      intro o ho
      split at ho
      · exact hl o ho
      · simp at ho

end Go.Proofs.YtnigfddanoaonaaGreat

set_option linter.unusedVariables false
set_option linter.unusedSimpArgs false
namespace Go.Proofs.YtnigfddanoaonaaGreat
open Go.RowKit

theorem pilesU_get {es : List Edg} {n : Nat} {q : Int} : ∀ {v : Nat} {l : List Prc}, pilesU es n q v = some l → ∀ i, i < v → l[i]? = some (if (i : Int) = q then sinkP else topP (nbrU es i n)) ∧ ((i : Int) ≠ q → (nbrU es i n).length ≤ 16)
  | 0, l, h, i, hi => by omega
  | v + 1, l, h, i, hi => by
    unfold pilesU at h
    rw [Option.bind_eq_some_iff] at h
    obtain ⟨l0, h1, h2⟩ := h
    have hlen := pilesU_len h1
    have ih := pilesU_get h1
    have last : ∀ p : Prc, (l0 ++ [p])[v]? = some p := fun p => by rw [← hlen]; exact List.getElem?_concat_length
    have prev : ∀ p : Prc, i < v → (l0 ++ [p])[i]? = l0[i]? := fun p hv => List.getElem?_append_left (by omega)
    by_cases hiv : i < v
    · split at h2
      · injection h2 with h2
        subst h2
        rw [prev _ hiv]
        exact ih i hiv
      · split at h2
        · injection h2 with h2
          subst h2
          rw [prev _ hiv]
          exact ih i hiv
        · cases h2
    · have : i = v := by omega
      subst this
      split at h2
      · rename_i hq
        injection h2 with h2
        subst h2
        rw [last, if_pos hq]
        exact ⟨rfl, fun hh => absurd hq hh⟩
      · rename_i hq
        split at h2
        · rename_i h16
          injection h2 with h2
          subst h2
          rw [last, if_neg hq]
          exact ⟨rfl, fun _ => h16⟩
        · cases h2
theorem nbr_cnt (es : List Edg) (v w : Nat) : ∀ i, (nbrU es v i).countP (fun o => decide (o.dst = (w : Int))) = if w < i ∧ w ≠ v then (betw es v w).toNat else 0
  | 0 => by simp [nbrU]
  | i + 1 => by
    rw [nbrU_succ, List.countP_append, nbr_cnt es v w i]
    by_cases e : i = v
    · subst e
      rw [if_pos rfl, List.countP_nil, Nat.add_zero]
      by_cases h : w < i
      · rw [if_pos ⟨h, by omega⟩, if_pos ⟨by omega, by omega⟩]
      · rw [if_neg (fun hh => h hh.1), if_neg (fun hh => by omega)]
    · rw [if_neg e, List.countP_replicate]
      by_cases h : w = i
      · subst h
        rw [if_neg (fun hh => by omega), if_pos (by simp), if_pos ⟨by omega, e⟩]
        omega
      · rw [if_neg (c := decide ((⟨(i : Int), 0⟩ : Out).dst = (w : Int)) = true) (by simp; omega)]
        by_cases h2 : w < i ∧ w ≠ v
        · rw [if_pos h2, if_pos ⟨by omega, h2.2⟩]
          omega
        · rw [if_neg h2, if_neg (fun hh => h2 ⟨by omega, hh.2⟩)]
theorem nbr_mem (es : List Edg) (v : Nat) : ∀ i, ∀ o ∈ nbrU es v i, (0 ≤ o.dst ∧ o.dst < i) ∧ o.letter = 0
  | 0, o, h => by simp [nbrU] at h
  | i + 1, o, h => by
    rw [nbrU_succ] at h
    rcases List.mem_append.1 h with h | h
    · have := nbr_mem es v i o h
      refine ⟨⟨this.1.1, by have := this.1.2; push_cast; omega⟩, this.2⟩
    · split at h
      · cases h
      · rw [(List.mem_replicate.1 h).2]
        exact ⟨⟨by simp only; omega, by simp only; push_cast; omega⟩, rfl⟩
theorem top_rule (sent : List Out) {k : Nat} (hk : k < sent.length) : ruleAt (topP sent).rules (k : Int) 0 = ⟨((k + 1) % sent.length : Nat), if k + 1 = sent.length then sent else []⟩ := by
  have h : (topP sent).rules[k]? = some (topRow sent k) := by unfold topP; simp only; rw [List.getElem?_map, List.getElem?_range hk]; rfl
  unfold ruleAt
  rw [Int.toNat_natCast, getD_some h]
  rfl

/-- A network of a sandpile, and the firings so far. -/
structure PSim (N q : Nat) (es : List Edg) (l : List Prc) (D : Nat → Int) (y : Nwk) (u : Nat → Nat) (i : Nat) : Prop where
  procs : y.procs = l
  at_ : ∃ f, ∃ st : Nat → Nat, Rows1 N y.waiting f ∧ (∀ v, v < N → 0 ≤ f v) ∧ y.state = (List.range N).map (fun v => (st v : Int)) ∧ st q = 0 ∧ ∀ v, v < N → v ≠ q → st v < (nbrU es v N).length ∧ f v + (st v : Int) = cfg N (rowR' es) D u v
  leg : Leg N q (rowR' es) D u
  sum : sumN u N ≤ i
theorem PSim.move {N q : Nat} {es : List Edg} {l : List Prc} {D : Nat → Int} {y : Nwk} {u : Nat → Nat} {i : Nat} (hg : gErr N es = 0) (hl : pilesU es N q N = some l) (hqN : q < N) (h : PSim N q es l D y u i) {m : Nat × Nat} (hm : m ∈ movesS y.waiting) :
    ∃ u', PSim N q es l D (moveX y m.1 m.2) u' (i + 1) := by
  obtain ⟨f, st, hf, hf0, hst, hsq, hc⟩ := h.at_
  obtain ⟨p, a⟩ := m
  obtain ⟨hp, ha, h0⟩ := hf.move hm
  simp only at hp ha h0 ⊢
  subst ha
  obtain ⟨hpr, h16⟩ := pilesU_get hl p hp
  have hgp : y.procs.getD p prc0 = if (p : Int) = (q : Int) then sinkP else topP (nbrU es p N) := by rw [h.procs]; exact getD_some hpr
  have hsp : y.state.getD p 0 = (st p : Int) := by
    rw [hst]
    exact getD_some (by rw [List.getElem?_map, List.getElem?_range hp]; rfl)
  have hset : ∀ x : Nat, y.state.set p (x : Int) = (List.range N).map (fun v => ((if v = p then x else st v : Nat) : Int)) := fun x => by
    rw [hst]
    apply List.ext_getElem?
    intro j
    rw [List.getElem?_set]
    by_cases e : p = j
    · subst e
      rw [if_pos rfl, if_pos (by simp [hp]), List.getElem?_map, List.getElem?_range hp]
      simp
    · rw [if_neg e, List.getElem?_map, List.getElem?_map]
      by_cases hj : j < N
      · rw [List.getElem?_range hj]
        show some ((st j : Nat) : Int) = some (((if j = p then x else st j : Nat)) : Int)
        rw [if_neg fun e2 : j = p => e e2.symm]
      · rw [List.getElem?_eq_none (by simp; omega)]
        rfl
  by_cases hq : p = q
  · subst hq
    rw [if_pos rfl] at hgp
    have hrl : ruleP y.procs p (y.state.getD p 0) 0 = ⟨0, []⟩ := by
      unfold ruleP
      rw [hgp, hsp, hsq]
      rfl
    have hn : nextP y.procs p (y.state.getD p 0) 0 = ((0 : Nat) : Int) := by unfold nextP; rw [hrl]; rfl
    have hsn : sentP y.procs p (y.state.getD p 0) 0 = [] := by unfold sentP; rw [hrl]; rfl
    refine ⟨u, ⟨h.procs, ⟨fun v => f v + if v = p then -1 else 0, fun v => if v = p then 0 else st v, ?_, fun v hv => ?_, ?_, by simp, fun v hv hvq => ?_⟩, h.leg, by have := h.sum; omega⟩⟩
    · show Rows1 _ ((sentP y.procs p (y.state.getD p 0) 0).foldl addO (bump y.waiting p 0 (-1))) _
      rw [hsn]
      exact hf.up hp (-1)
    · show 0 ≤ f v + if v = p then -1 else 0
      have := hf0 v hv
      by_cases e : v = p
      · subst e; rw [if_pos rfl]; omega
      · rw [if_neg e]; omega
    · show y.state.set p (nextP y.procs p (y.state.getD p 0) 0) = _
      rw [hn]
      exact hset 0
    · show (if v = p then 0 else st v) < _ ∧ (f v + if v = p then -1 else 0) + (((if v = p then 0 else st v : Nat)) : Int) = _
      rw [if_neg hvq, if_neg hvq]
      have := hc v hv hvq
      exact ⟨this.1, by omega⟩
  · rw [if_neg (by omega)] at hgp
    obtain ⟨h1, h2⟩ := hc p hp hq
    obtain ⟨k, hk⟩ : ∃ k, k = (nbrU es p N).length := ⟨_, rfl⟩
    have hvl : vlR N (rowR' es) p = (k : Int) := by rw [hk, nbr_sum hg p N]; rfl
    have hrl : ruleP y.procs p (y.state.getD p 0) 0 = ⟨((st p + 1) % k : Nat), if st p + 1 = k then nbrU es p N else []⟩ := by
      unfold ruleP
      rw [hgp, hsp, hk]
      exact top_rule _ h1
    have hn : nextP y.procs p (y.state.getD p 0) 0 = (((st p + 1) % k : Nat) : Int) := by unfold nextP; rw [hrl]
    rw [← hk] at h1
    by_cases he : st p + 1 = k
    · have hsn : sentP y.procs p (y.state.getD p 0) 0 = (nbrU es p N).map pairO := by unfold sentP; rw [hrl]; simp only; rw [if_pos he]
      have hmod : (st p + 1) % k = 0 := by rw [he]; exact Nat.mod_self k
      rw [hmod] at hn
      refine ⟨upU u p 1, ⟨h.procs, ⟨fun v => (f v + if v = p then -1 else 0) + (((nbrU es p N).countP fun o => decide (o.dst = (v : Int)) : Nat) : Int), fun v => if v = p then 0 else st v, ?_, fun v hv => ?_, ?_, ?_, fun v hv hvq => ?_⟩, .fire h.leg hp hq (by rw [hvl]; omega), by rw [sumN_up u hp]; have := h.sum; omega⟩⟩
      · show Rows1 _ ((sentP y.procs p (y.state.getD p 0) 0).foldl addO (bump y.waiting p 0 (-1))) _
        rw [hsn]
        exact Rows1.adds _ (hf.up hp (-1)) (nbr_mem es p N)
      · show 0 ≤ (f v + if v = p then -1 else 0) + _
        have := hf0 v hv
        by_cases e : v = p
        · subst e; rw [if_pos rfl]; omega
        · rw [if_neg e]; omega
      · show y.state.set p (nextP y.procs p (y.state.getD p 0) 0) = _
        rw [hn]
        exact hset 0
      · show (if q = p then 0 else st q) = 0
        rw [if_neg (Ne.symm hq), hsq]
      · show (if v = p then 0 else st v) < _ ∧ ((f v + if v = p then -1 else 0) + (((nbrU es p N).countP fun o => decide (o.dst = (v : Int)) : Nat) : Int)) + (((if v = p then 0 else st v : Nat)) : Int) = _
        rw [cfg_up u hp, nbr_cnt es p v N, hvl]
        have hb := betw_bound hg (p : Int) (v : Int)
        by_cases e : v = p
        · subst e
          rw [if_pos rfl, if_pos rfl, if_pos rfl, if_neg (fun hh => hh.2 rfl)]
          have hR0 : rowR' es v v = 0 := if_pos rfl
          rw [hR0]
          refine ⟨by omega, ?_⟩
          simp
          omega
        · rw [if_neg e, if_neg e, if_neg e, if_pos ⟨hv, e⟩]
          have hR0 : rowR' es p v = betw es p v := if_neg (Ne.symm e)
          rw [hR0]
          have := hc v hv hvq
          refine ⟨this.1, ?_⟩
          simp
          omega
    · have hsn : sentP y.procs p (y.state.getD p 0) 0 = [] := by unfold sentP; rw [hrl]; simp only; rw [if_neg he]; rfl
      have hmod : (st p + 1) % k = st p + 1 := Nat.mod_eq_of_lt (by omega)
      rw [hmod] at hn
      refine ⟨u, ⟨h.procs, ⟨fun v => f v + if v = p then -1 else 0, fun v => if v = p then st p + 1 else st v, ?_, fun v hv => ?_, ?_, ?_, fun v hv hvq => ?_⟩, h.leg, by have := h.sum; omega⟩⟩
      · show Rows1 _ ((sentP y.procs p (y.state.getD p 0) 0).foldl addO (bump y.waiting p 0 (-1))) _
        rw [hsn]
        exact hf.up hp (-1)
      · show 0 ≤ f v + if v = p then -1 else 0
        have := hf0 v hv
        by_cases e : v = p
        · subst e; rw [if_pos rfl]; omega
        · rw [if_neg e]; omega
      · show y.state.set p (nextP y.procs p (y.state.getD p 0) 0) = _
        rw [hn]
        exact hset (st p + 1)
      · show (if q = p then st p + 1 else st q) = 0
        rw [if_neg (Ne.symm hq), hsq]
      · show (if v = p then st p + 1 else st v) < _ ∧ (f v + if v = p then -1 else 0) + (((if v = p then st p + 1 else st v : Nat)) : Int) = _
        by_cases e : v = p
        · subst e
          rw [if_pos rfl, if_pos rfl]
          refine ⟨by omega, ?_⟩
          push_cast
          omega
        · rw [if_neg e, if_neg e]
          have := hc v hv hvq
          exact ⟨this.1, by omega⟩
theorem psim_run {N q : Nat} {es : List Edg} {l : List Prc} {D : Nat → Int} (hg : gErr N es = 0) (hl : pilesU es N q N = some l) (hqN : q < N) (picks : List Int) : ∀ (M i j : Nat) (y : Nwk) (ct : List (List Int)) (u : Nat → Nat) (z : Nwk) (cz : List (List Int)), PSim N q es l D y u j → runX picks M i y ct = some (z, cz) →
    ∃ u', PSim N q es l D z u' (j + M) ∧ movesS z.waiting = [] := by
  intro M
  induction M with
  | zero =>
    intro i j y ct u z cz h hr
    unfold runX at hr
    split at hr
    · rename_i hm
      injection hr with hr
      injection hr with e1 e2
      subst e1 e2
      exact ⟨u, h, List.isEmpty_iff.1 hm⟩
    · cases hr
  | succ M ih =>
    intro i j y ct u z cz h hr
    unfold runX at hr
    split at hr
    · rename_i hm
      injection hr with hr
      injection hr with e1 e2
      subst e1 e2
      exact ⟨u, ⟨h.procs, h.at_, h.leg, by have := h.sum; omega⟩, List.isEmpty_iff.1 hm⟩
    · rename_i hm
      have hpk := pickS_mem (picks := picks) (i := i) (l := movesS y.waiting) (by intro e; rw [e] at hm; simp at hm)
      obtain ⟨u2, h2⟩ := h.move hg hl hqN hpk
      obtain ⟨u3, h3, h4⟩ := ih _ _ _ _ _ _ _ h2 hr
      exact ⟨u3, by rw [show j + (M + 1) = j + 1 + M by omega]; exact h3, h4⟩

theorem gScan_nn {q : Int} : ∀ {v0 : Nat} {d : List Int}, gScan q v0 d = 0 → ∀ u, ((v0 + u : Nat) : Int) ≠ q → 0 ≤ d.getD u 0
  | v0, [], _, u, _ => by simp
  | v0, x :: r, h, u, hu => by
    unfold gScan at h
    split at h
    · cases h
    · rename_i h1
      cases u with
      | zero => simp at hu ⊢; omega
      | succ u =>
        have := gScan_nn h u (by intro e; apply hu; rw [← e]; congr 1; omega)
        simpa using this
theorem cfgE_parts {n : Int} {es : List Edg} {f : List Nat} {q : Int} {d : List Int} (h : cfgE n es f q d = 0) : jErr n es f = 0 ∧ (0 ≤ q ∧ q < n) ∧ dErr n d = 0 ∧ ∀ u : Nat, (u : Int) ≠ q → 0 ≤ d.getD u 0 := by
  unfold cfgE at h
  split at h
  · rename_i h1
    unfold rootE at h1
    split at h1
    · rename_i h2
      split at h1
      · rename_i h3
        split at h
        · rename_i h4
          exact ⟨h2, vtxB_iff.1 h3, h4, fun u hu => gScan_nn h u (by simpa using hu)⟩
        · rename_i h4; exact absurd h h4
      · cases h1
    · rename_i h2; exact absurd h1 h2
  · rename_i h1; exact absurd h h1
/-- The network of a sandpile is right, and abelian. -/
theorem sand_right {N : Nat} {es : List Edg} {f : List Nat} {q : Int} {d : List Int} {l : List Prc} (hU : gErr N es = 0 → Uf f (eL es)) (hc : cfgE N es f q d = 0) (hl : pilesU es N q N = some l) :
    Right ⟨l, List.replicate N 0, waitD d q N⟩ ∧ commP l = true ∧ d.length = N ∧ l.length = N := by
  obtain ⟨hj, hq, hd, hnn⟩ := cfgE_parts hc
  obtain ⟨q', rfl⟩ := Int.eq_ofNat_of_zero_le hq.1
  have hg := jErr_zero hj
  have h12 := (gErr_zero hg).1
  obtain ⟨d1, d2, d3⟩ := dErr_zero hd
  have hdl : d.length = N := by omega
  have hll := pilesU_len hl
  have hone : ∀ p ∈ l, OneP l.length p := fun p hp => by
    obtain ⟨i, hi⟩ := List.mem_iff_getElem?.1 hp
    have hil : i < N := by rw [← hll]; exact (List.getElem?_eq_some_iff.1 hi).1
    obtain ⟨g1, g2⟩ := pilesU_get hl i hil
    rw [hi] at g1
    injection g1 with g1
    subst g1
    by_cases hq2 : (i : Int) = (q' : Int)
    · rw [if_pos hq2]; exact one_sink
    · rw [if_neg hq2, hll]
      exact one_top ⟨conn_val (q := q') hU hj hil (by omega) (by omega), g2 hq2⟩ (nbr_mem es i N)
  refine ⟨one_right ⟨by simp only; omega, by simp only; omega⟩ hone (by simp only; rw [List.length_replicate, hll]) (fun i s p h3 h4 => ?_) (by simp only; rw [waitD_len, hll]) (fun t ht => ?_), one_comm hone, hdl, hll⟩
  · simp only at h3 h4
    have hs0 : s = 0 := (List.mem_replicate.1 (List.mem_of_getElem? h3)).2
    subst hs0
    have := (hone p (List.mem_of_getElem? h4)).st
    omega
  · simp only at ht
    unfold waitD at ht
    obtain ⟨v, hv, rfl⟩ := List.mem_map.1 ht
    refine ⟨_, rfl, ?_⟩
    split
    · omega
    · rename_i hq2
      have h5 := hnn v hq2
      have hvl := List.mem_range.1 hv
      have hvd : v < d.length := by omega
      have h6 := d3 d[v] (List.getElem_mem hvd)
      rw [List.getD_eq_getElem?_getD, List.getElem?_eq_getElem hvd, Option.getD_some] at h5 ⊢
      omega
/-- Where the network of a sandpile halts, legal firings have led to the stable configuration. -/
theorem sand_law {N : Nat} {es : List Edg} {f : List Nat} {q : Nat} {d : List Int} {l : List Prc} (hU : gErr N es = 0 → Uf f (eL es)) (hc : cfgE N es f q d = 0) (hl : pilesU es N q N = some l) {picks : List Int} {M : Nat} {y : Nwk} {ct : List (List Int)}
    (h : runX picks M 0 ⟨l, List.replicate N 0, waitD d q N⟩ (l.map fun p => List.replicate p.letters.toNat (0 : Int)) = some (y, ct)) :
    ∃ u, Leg N q (rowR' es) (fun v => d.getD v 0) u ∧ Stab N q (rowR' es) (fun v => d.getD v 0) u ∧ sumN u N ≤ M ∧ y.state.length = N ∧ ∀ v, v < N → v ≠ q → y.state.getD v 0 = cfg N (rowR' es) (fun v => d.getD v 0) u v := by
  obtain ⟨hj, hq, hd, hnn⟩ := cfgE_parts hc
  have hg := jErr_zero hj
  have hqN : q < N := by omega
  have z0 : sumN (fun _ => 0) N = 0 := by
    have h2 : ∀ n, sumN (fun _ => 0) n = 0 := fun n => by
      induction n with
      | zero => rfl
      | succ n ih => simp only [sumN]; omega
    exact h2 N
  have hS : PSim N q es l (fun v => d.getD v 0) ⟨l, List.replicate N 0, waitD d q N⟩ (fun _ => 0) 0 := by
    refine ⟨rfl, ⟨fun v => if (v : Int) = (q : Int) then 0 else d.getD v 0, fun _ => 0, ⟨waitD_len _ _ _, fun v hv => ?_⟩, fun v hv => ?_, ?_, rfl, fun v hv hvq => ?_⟩, .zero, by omega⟩
    · unfold waitD
      rw [List.getElem?_map, List.getElem?_range hv]
      rfl
    · show 0 ≤ if (v : Int) = (q : Int) then 0 else d.getD v 0
      split
      · omega
      · rename_i e; exact hnn v e
    · apply List.ext_getElem?
      intro j
      rw [List.getElem?_map, List.getElem?_replicate]
      by_cases hjN : j < N
      · rw [if_pos hjN, List.getElem?_range hjN]; rfl
      · rw [if_neg hjN, List.getElem?_eq_none (by simp; omega)]; rfl
    · refine ⟨conn_val hU hj hv hqN hvq, ?_⟩
      show (if (v : Int) = (q : Int) then 0 else d.getD v 0) + ((0 : Nat) : Int) = _
      rw [if_neg (by omega)]
      unfold cfg
      have e : sumI (fun w => rowR' es w v * ((0 : Nat) : Int)) N = 0 := by
        have h2 : ∀ n, sumI (fun w => rowR' es w v * ((0 : Nat) : Int)) n = 0 := fun n => by
          induction n with
          | zero => rfl
          | succ n ih => simp only [sumI, ih]; simp
        exact h2 N
      rw [e]
      simp
  obtain ⟨u, hu, hm⟩ := psim_run hg hl hqN picks M 0 0 _ _ _ _ _ hS h
  obtain ⟨g, st, hf, hf0, hst, hsq, hcc⟩ := hu.at_
  have hz : ∀ v, v < N → g v = 0 := fun v hv => by
    have h1 := moves_nil hm (q := v) (a := 0)
    rw [hf.cell hv] at h1
    have := hf0 v hv
    omega
  refine ⟨u, hu.leg, fun v hv hvq => ?_, by have := hu.sum; omega, by rw [hst]; simp, fun v hv hvq => ?_⟩
  · obtain ⟨a1, a2⟩ := hcc v hv hvq
    rw [hz v hv] at a2
    have hvl : vlR N (rowR' es) v = ((nbrU es v N).length : Int) := by rw [nbr_sum hg v N]; rfl
    rw [hvl]
    omega
  · obtain ⟨a1, a2⟩ := hcc v hv hvq
    rw [hz v hv] at a2
    rw [hst, getD_some (show ((List.range N).map fun v => (st v : Int))[v]? = some (st v : Int) from by rw [List.getElem?_map, List.getElem?_range hv]; rfl)]
    omega

end Go.Proofs.YtnigfddanoaonaaGreat

set_option linter.unusedVariables false
set_option linter.unusedSimpArgs false
set_option linter.unnecessarySimpa false
namespace Go.Proofs.YtnigfddanoaonaaGreat
open Go.RowKit

theorem rIn_any (k : Int) (w : World) : Calls Tryz.prog 116 #[.int .i64 k] w fun e w' => e = .returned (.bool (inChips k)) ∧ w = w' := by
  by_cases h1 : -1048576 ≤ k
  · by_cases h2 : k ≤ 1048576
    · have HR : Hid (inChips k = true) := by show _ = _; simp [inChips, h1, h2]
      have q1 : decide ((-1048576 : Int) ≤ k) = true := by simp [h1]
      have q2 : decide (k ≤ (1048576 : Int)) = true := by simp [h2]
      clear h1 h2
      go_enter Tryz.func116, Tryz.ntmps116
      go_wp2_with fail
      go_ret
      exact ⟨ret_bool HR.out.symm, rfl⟩
    · have HR : Hid (inChips k = false) := by show _ = _; simp [inChips]; omega
      have q1 : decide ((-1048576 : Int) ≤ k) = true := by simp [h1]
      have q2 : decide (k ≤ (1048576 : Int)) = false := by simp; omega
      clear h1 h2
      go_enter Tryz.func116, Tryz.ntmps116
      go_wp2_with fail
      go_ret
      exact ⟨ret_bool HR.out.symm, rfl⟩
  · have HR : Hid (inChips k = false) := by show _ = _; simp [inChips]; omega
    have q1 : decide ((-1048576 : Int) ≤ k) = false := by simp; omega
    clear h1
    go_enter Tryz.func116, Tryz.ntmps116
    go_wp2_with fail
    go_ret
    exact ⟨ret_bool HR.out.symm, rfl⟩

set_option maxRecDepth 100000 in
set_option maxHeartbeats 2000000 in
theorem rdcheck_any (n : Int) (d : List Int) (od : Option Addr) (cd : Nat) (F : Foot) (w : World) (hd : SliceR intR 1 F w od d) (hc : d.length ≤ cd) (hc2 : d.length ≤ 9223372036854775807) :
    Calls Tryz.prog 82 #[.slice od d.length cd, .int .i64 n] w fun e w' => e = .returned (.int .i64 (dErr n d)) ∧ w = w' := by
  by_cases h1 : 1 ≤ n
  · have q1 : decide (n < (1 : Int)) = false := by simp; omega
    by_cases h3 : n ≤ 12
    · have q2 : decide ((12 : Int) < n) = false := by simp; omega
      by_cases h2 : (d.length : Int) = n
      · have HR : Hid (dErr n d = dScan d) := by show _ = _; unfold dErr; rw [if_pos ⟨h1, h3⟩, if_pos h2]
        have q3 : ((d.length : Int) != n) = false := by simp [h2]
        have hn := hide h2
        clear h1 h3 h2
        go_enter Tryz.func82, Tryz.ntmps82
        go_wp2_with fail
        go_loopw [5] (fun iv wr => ∃ k : Nat, k ≤ d.length ∧ iv = .int .i64 k ∧ Hid (dErr n d = dScan (d.drop k)) ∧ wr = w) (fun iv _ => d.length - (intOf iv).toNat)
        case atStart => exact ⟨0, by omega, rfl, HR, rfl⟩
        case round =>
          obtain ⟨k, hk, rfl, HS, rfl⟩ := hrel
          by_cases hlt : k < d.length
          · have q4 : decide ((k : Int) < n) = true := by have := hn.out; simp; omega
            obtain ⟨x, hdr, _, ix, b, off, hod, _, c0⟩ := hd.int_at hlt
            subst hod
            have HS2 : Hid (dErr n d = if inChips x = true then dScan (d.drop (k + 1)) else 2) := by show _ = _; rw [HS.out, hdr]; rfl
            clear hdr
            by_cases hx : inChips x = true
            · have HS3 : Hid (dErr n d = dScan (d.drop (k + 1))) := by show _ = _; rw [HS2.out, if_pos hx]
              have hI := rIn_any x wr
              rw [hx] at hI
              clear hx
              go_wp2_with fail
              refine hI.mono ?_
              rintro e w3 ⟨rfl, rfl⟩
              go_wp2_with fail
              go_roundw
              case rel => exact ⟨k + 1, by omega, by go_num, HS3, by first | rfl | trivial⟩
              case measure => simp [intOf]; omega
            · have HS3 : Hid (dErr n d = 2) := by show _ = _; rw [HS2.out, if_neg hx]
              have hx2 : inChips x = false := by simpa using hx
              have hI := rIn_any x wr
              rw [hx2] at hI
              clear hx hx2
              go_wp2_with fail
              refine hI.mono ?_
              rintro e w3 ⟨rfl, rfl⟩
              go_wp2_with fail
              go_ret
              exact ⟨ret_int HS3.out.symm, rfl⟩
          · have q4 : decide ((k : Int) < n) = false := by have := hn.out; simp; omega
            have hke : k = d.length := by omega
            have HS3 : Hid (dErr n d = 0) := by show _ = _; rw [HS.out, hke, List.drop_length]; rfl
            clear hke
            go_wp2_with fail
            go_ret
            exact ⟨ret_int HS3.out.symm, rfl⟩
      · have HR : Hid (dErr n d = 8) := by show _ = _; unfold dErr; rw [if_pos ⟨h1, h3⟩, if_neg h2]
        have q3 : ((d.length : Int) != n) = true := by simp [h2]
        clear h1 h3 h2
        go_enter Tryz.func82, Tryz.ntmps82
        go_wp2_with fail
        go_ret
        exact ⟨ret_int HR.out.symm, rfl⟩
    · have HR : Hid (dErr n d = 2) := if_neg (by omega)
      have q2 : decide ((12 : Int) < n) = true := by simp; omega
      clear h1 h3
      go_enter Tryz.func82, Tryz.ntmps82
      go_wp2_with fail
      go_ret
      exact ⟨ret_int HR.out.symm, rfl⟩
  · have HR : Hid (dErr n d = 2) := if_neg (by omega)
    have q1 : decide (n < (1 : Int)) = true := by simp; omega
    clear h1
    go_enter Tryz.func82, Tryz.ntmps82
    go_wp2_with fail
    go_ret
    exact ⟨ret_int HR.out.symm, rfl⟩

/-- The error of the chips alone. -/
def chE (n q : Int) (d : List Int) : Int := if dErr n d = 0 then gScan q 0 d else dErr n d

end Go.Proofs.YtnigfddanoaonaaGreat

set_option linter.unusedVariables false
set_option linter.unusedSimpArgs false
set_option linter.unnecessarySimpa false
namespace Go.Proofs.YtnigfddanoaonaaGreat
open Go.RowKit

theorem few17_any (d : List Int) (od : Option Addr) (cd : Nat) (w : World) : Calls Tryz.prog 23 #[.slice od d.length cd] w fun e w' => e = .returned (.bool (decide (d.length ≤ 24))) ∧ Below w.heap.size w w' := by
  have HR : Hid (decide (d.length ≤ 24) = decide ((d.length : Int) ≤ 24)) := by show _ = _; simp; omega
  go_enter Tryz.func23, Tryz.ntmps23
  go_wp2_with fail
  go_ret
  exact ⟨ret_bool HR.out.symm, Below.refl _ _⟩

/-- All chips are from -60 to 60. -/
def smD : List Int → Bool
  | [] => true
  | x :: r => if x < -60 ∨ 60 < x then false else smD r
theorem smD_yes : ∀ {d : List Int}, smD d = true → ∀ x ∈ d, -60 ≤ x ∧ x ≤ 60
  | [], _, x, hx => by cases hx
  | y :: r, h, x, hx => by
    unfold smD at h
    split at h
    · cases h
    · rename_i h1
      rcases List.mem_cons.1 hx with rfl | h2
      · omega
      · exact smD_yes h x h2

set_option maxRecDepth 100000 in
set_option maxHeartbeats 2000000 in
theorem smD_any (d : List Int) (od : Option Addr) (cd : Nat) (F : Foot) (w : World) (hd : SliceR intR 1 F w od d) (hc : d.length ≤ cd) (hc2 : d.length ≤ 9223372036854775807) :
    Calls Tryz.prog 29 #[.slice od d.length cd] w fun e w' => e = .returned (.bool (smD d)) ∧ Below w.heap.size w w' := by
  go_enter Tryz.func29, Tryz.ntmps29
  go_wp2_with fail
  go_loopw [3] (fun iv wr => ∃ k : Nat, k ≤ d.length ∧ iv = .int .i64 k ∧ Hid (smD d = smD (d.drop k)) ∧ wr = w) (fun iv _ => d.length - (intOf iv).toNat)
  case atStart => exact ⟨0, by omega, rfl, rfl, rfl⟩
  case round =>
    obtain ⟨k, hk, rfl, HS, rfl⟩ := hrel
    by_cases hlt : k < d.length
    · obtain ⟨x, hdr, _, ix, b, off, hod, _, c0⟩ := hd.int_at hlt
      subst hod
      have HS2 : Hid (smD d = if x < -60 ∨ 60 < x then false else smD (d.drop (k + 1))) := by show _ = _; rw [HS.out, hdr]; rfl
      clear hdr
      by_cases h1 : x < -60
      · have q1 : decide (x < (-60 : Int)) = true := by simp [h1]
        have HS3 : Hid (smD d = false) := by show _ = _; rw [HS2.out, if_pos (.inl h1)]
        clear h1
        go_wp2_with fail
        go_ret
        exact ⟨ret_bool HS3.out.symm, Below.refl _ _⟩
      · have q1 : decide (x < (-60 : Int)) = false := by simp; omega
        by_cases h2 : 60 < x
        · have q2 : decide ((60 : Int) < x) = true := by simp [h2]
          have HS3 : Hid (smD d = false) := by show _ = _; rw [HS2.out, if_pos (.inr h2)]
          clear h1 h2
          go_wp2_with fail
          go_ret
          exact ⟨ret_bool HS3.out.symm, Below.refl _ _⟩
        · have q2 : decide ((60 : Int) < x) = false := by simp; omega
          have HS3 : Hid (smD d = smD (d.drop (k + 1))) := by show _ = _; rw [HS2.out, if_neg (by omega)]
          clear h1 h2
          go_wp2_with fail
          go_roundw
          case rel => exact ⟨k + 1, by omega, by go_num, HS3, by first | rfl | trivial⟩
          case measure => simp [intOf]; omega
    · have hke : k = d.length := by omega
      have HS3 : Hid (smD d = true) := by show _ = _; rw [HS.out, hke, List.drop_length]; rfl
      clear hke
      go_wp2_with fail
      go_ret
      exact ⟨ret_bool HS3.out.symm, Below.refl _ _⟩

section
variable {w : World} {n : Int} {es : List Edg} {oe : Option Addr} {c : Nat} {ar : List (List Int)} {oa : Option Addr} {ca : Nat} {q : Int} {rot : List Int} {ot : Option Addr} {ct : Nat} {d : List Int} {od : Option Addr} {cd : Nat} {pk : List Int} {op : Option Addr} {cp : Nat}
end

/-- A right and small game. -/
def smallB (n : Int) (es : List Edg) (ar : List (List Int)) (q : Int) (rot d : List Int) : Bool :=
  if few45 n es ar rot = true then (if d.length ≤ 24 then (if gvE n es (forest es) ar q rot d = 0 then smD d else false) else false) else false
end Go.Proofs.YtnigfddanoaonaaGreat

set_option linter.unusedVariables false
set_option linter.unusedSimpArgs false
namespace Go.Proofs.YtnigfddanoaonaaGreat
open Go.RowKit

theorem psgiven_any (N : Nat) (es : List Edg) (oe : Option Addr) (c : Nat) (F : Foot) (w : World) (hs : SliceR edgR 3 F w oe es) (hc : es.length ≤ c) (hc2 : es.length ≤ 1000)
    (f : List Nat) (hU : Hid (gErr N es = 0 → Uf f (eL es))) (q : Nat) (d : List Int) (od : Option Addr) (cd : Nat) (D : Foot) (hd : SliceR intR 1 D w od d) (hdc : d.length ≤ cd) (hz : cfgE N es f q d = 0) :
    Calls Tryz.prog 83 #[.agg #[.int .i64 N, .slice oe es.length c], .int .i64 q, .slice od d.length cd] w (PileOfPost N q es d w) := by
  obtain ⟨hj, hq, hdz, _⟩ := cfgE_parts hz
  have hg := jErr_zero hj
  have h12 := (gErr_zero hg).1
  have hdN : d.length = N := by have := (dErr_zero hdz).2.1; omega
  have HBN : Hid (∀ A, Below w.heap.size w (w.alloc A)) := fun A => bnew (Below.refl _ _) A
  have HCK : Hid (∀ u, Below w.heap.size w u → Calls Tryz.prog 51 #[.agg #[.int .i64 N, .slice oe es.length c], .int .i64 q, .slice od d.length cd] u (ErrPost u 0)) := fun u hu => by
    have := scheck_any N es oe c F u (hs.below edgR_ok hu) hc hc2 f hU q d od cd D (hd.below intR_ok hu) hdc (by omega)
    rw [hz] at this
    exact this
  have HPO : Hid (∀ u, Below w.heap.size w u → Calls Tryz.prog 117 #[.agg #[.int .i64 N, .slice oe es.length c], .int .i64 q, .slice od d.length cd] u (PileOfPost N q es d u)) := fun u hu =>
    ppileOf_any N es oe c F u (hs.below edgR_ok hu) hc hc2 hg q (by omega) d od cd D (hd.below intR_ok hu) hdc hdN
  have bx1 := Box.new w [.int .i64 N, .slice oe es.length c] 43
  have HX := hide bx1
  have y0 := bx1.cell 0
  have y1 := bx1.cell 1
  simp only [List.getElem?_cons_zero, List.getElem?_cons_succ] at y0 y1
  clear hs hc hc2 hU hd hdc hz hj hq hdz hg h12 hdN bx1
  go_enter Tryz.func83, Tryz.ntmps83
  go_wp2_with (first
    | (go_at_call 51; refine (HCK.out _ (HBN.out _)).mono ?_; rintro e w3 ⟨rfl, hb3⟩; have x1 := HX.out.below hb3; have y0 := x1.cell 0; have y1 := x1.cell 1; simp only [List.getElem?_cons_zero, List.getElem?_cons_succ] at y0 y1; have HB3 := hide ((HBN.out _).trans (hb3.mono (HBN.out _).size)); clear hb3 x1)
    | (go_at_call 117; refine (HPO.out _ HB3.out).mono ?_; rintro e w4 ⟨L, rfl, hM, hb4⟩; have HM := hide hM; have HB4 := hide (HB3.out.trans (hb4.mono HB3.out.size)); clear hM hb4))
  go_ret2
  have hs3 := HB3.out.size
  obtain ⟨m1, m2, m3, m4, m5, m6, m7, m8, m9⟩ := HM.out
  exact ⟨L, rfl, ⟨m1, m2, m3, m4, ⟨m5.tab.rebase hs3, fun r hr => ⟨(m5.row r hr).1, by have := (m5.row r hr).2.1; omega, (m5.row r hr).2.2⟩, m5.inj⟩, m6, m7, by omega, m9⟩, HB4.out⟩

def StabPost (N : Nat) (g : Nat → Int) (w : World) (e : Ending) (w' : World) : Prop :=
  ∃ (o1 : Option Addr) (k1 : Nat) (o2 : Option Addr) (k2 : Nat), e = .returned (.tuple #[.slice o1 N k1, .slice o2 N k2, .int .i64 0]) ∧ SliceR intR 1 All w' o1 (lst N g) ∧ N ≤ k1 ∧ Below w.heap.size w w'
set_option maxHeartbeats 1000000 in
theorem pstabilize_any (N : Nat) (es : List Edg) (oe : Option Addr) (c : Nat) (F : Foot) (w : World) (hs : SliceR edgR 3 F w oe es) (hc : es.length ≤ c) (hc2 : es.length ≤ 1000)
    (f : List Nat) (hU : Hid (gErr N es = 0 → Uf f (eL es))) (q : Nat) (d : List Int) (od : Option Addr) (cd : Nat) (D : Foot) (hd : SliceR intR 1 D w od d) (hdc : d.length ≤ cd) (hz : cfgE N es f q d = 0)
    (hsm : ∀ x ∈ d, -1000 ≤ x ∧ x ≤ 1000) {f0 : Nat → Nat} (hleg : Leg N q (rowR' es) (fun v => d.getD v 0) f0) (hstab : Stab N q (rowR' es) (fun v => d.getD v 0) f0) (hsum : sumN f0 N ≤ 3000) :
    Calls Tryz.prog 35 #[.agg #[.int .i64 N, .slice oe es.length c], .int .i64 q, .slice od d.length cd] w (StabPost N (cfg N (rowR' es) (fun v => d.getD v 0) f0) w) := by
  obtain ⟨hj, hq, hdz, _⟩ := cfgE_parts hz
  have hg := jErr_zero hj
  have h12 := (gErr_zero hg).1
  have hdN : d.length = N := by have := (dErr_zero hdz).2.1; omega
  have hqN : q < N := by omega
  have hini : ∀ v, v < N → -1000 ≤ d.getD v 0 ∧ d.getD v 0 ≤ 1000 := fun v hv => by
    have hvd : v < d.length := by omega
    rw [List.getD_eq_getElem?_getD, List.getElem?_eq_getElem hvd, Option.getD_some]
    exact hsm _ (List.getElem_mem hvd)
  have HL : Hid (PLaw N q (rowR' es) (vlR N (rowR' es)) (fun v => d.getD v 0) f0) :=
    ⟨hleg, hstab, hsum, fun v w _ _ => rowR'_range hg v w, fun v _ => if_pos rfl, hini, fun v _ => rfl, fun v hv hvq => by
      have h1 := conn_val hU.out hj hv hqN hvq
      have h2 := nbr_sum hg v N
      show 1 ≤ sumI (rowR' es v) N
      omega⟩
  have HBD : Hid (∀ v, v < N → I64 (cfg N (rowR' es) (fun v => d.getD v 0) f0 v)) := fun v hv => by
    obtain ⟨b1, b2, b3, b4, b5⟩ := cfg_bound (fun v w _ _ => rowR'_range hg v w) hini hsum hv
    have h4 : vlR N (rowR' es) v * ((3000 : Nat) : Int) ≤ 600 * 3000 := by
      have : vlR N (rowR' es) v ≤ 600 := by
        have : ((N : Nat) : Int) * 50 ≤ 12 * 50 := by omega
        omega
      rw [show ((3000 : Nat) : Int) = 3000 from rfl]
      omega
    rw [show ((3000 : Nat) : Int) = 3000 from rfl] at b1 b4 b5 h4
    unfold I64
    omega
  have HI : Hid (PInv N q (rowR' es) (vlR N (rowR' es)) (fun v => d.getD v 0) (fun _ => 0) ⟨fun v => d.getD v 0, fun _ => 0, 0, fun v => if v < N then unst q (vlR N (rowR' es)) (fun v => d.getD v 0) v else false⟩) := by
    have z0 : ∀ n, sumN (fun _ => 0) n = 0 := fun n => by
      induction n with
      | zero => rfl
      | succ n ih => simp only [sumN]; omega
    refine ⟨.zero, fun v hv => ?_, fun v hv => rfl, by simp only [z0]; rfl, fun v hv => rfl⟩
    simp only
    unfold cfg
    have e : ∀ n, sumI (fun w => rowR' es w v * ((0 : Nat) : Int)) n = 0 := fun n => by
      induction n with
      | zero => rfl
      | succ n ih => simp only [sumI, ih]; simp
    rw [e]
    simp
  have HBN : Hid (∀ A, Below w.heap.size w (w.alloc A)) := fun A => bnew (Below.refl _ _) A
  have HGV : Hid (∀ u, Below w.heap.size w u → Calls Tryz.prog 83 #[.agg #[.int .i64 N, .slice oe es.length c], .int .i64 q, .slice od d.length cd] u (PileOfPost N q es d u)) := fun u hu =>
    psgiven_any N es oe c F u (hs.below edgR_ok hu) hc hc2 f hU q d od cd D (hd.below intR_ok hu) hdc hz
  have hN12 : N ≤ 12 := by omega
  clear hs hc hc2 hU hd hdc hz hj hq hdz hg h12 hdN hleg hstab hsum hini hsm
  go_enter Tryz.func35, Tryz.ntmps35
  go_wp2_with (first
    | (go_at_call 83; refine (HGV.out _ (HBN.out _)).mono ?_; rintro e w3 ⟨L, rfl, hM, hb3⟩; have HM := hide hM; have HB3 := hide ((HBN.out _).trans (hb3.mono (HBN.out _).size)); have HST := hide (psettled_any HL.out HI.out hM); clear hM hb3)
    | (go_at_call 84; refine HST.out.mono ?_; rintro e w4 ⟨rfl, s4, hM4, hd4, hf4, hb4⟩; have HM4 := hide hM4; have HD4 := hide hd4; have HB4 := hide (HB3.out.trans (hb4.mono (by have := HBN.out; have := HB3.out.size; simp only [World.size_alloc]; omega))); obtain ⟨c0, _, _, _, c4, _⟩ := hM4.cells; clear hM4 hd4 hf4 hb4))
  go_quiet (fail)
  go_wp2_with fail
  go_ret3
  refine ⟨some ⟨L.gd, 0, none⟩, L.cd, some ⟨L.gf, 0, none⟩, N, rfl, ?_, HM4.out.num.2.2, below_drewN HB4.out nq⟩
  have hrow := (HM4.out.drewN nq).rd
  rw [lst_congr HD4.out] at hrow
  refine hrow.ints (fun x hx => ?_) trivial
  unfold lst at hx
  obtain ⟨v, hv, rfl⟩ := List.mem_map.1 hx
  exact HBD.out v (List.mem_range.1 hv)

theorem rfew18_any (n : Int) (es : List Edg) (oe : Option Addr) (c : Nat) (F : Foot) (w : World) (hs : SliceR edgR 3 F w oe es) (hc : es.length ≤ c) (hc2 : es.length ≤ 9223372036854775807) (d : List Int) (od : Option Addr) (cd : Nat) :
    Calls Tryz.prog 33 #[.agg #[.int .i64 n, .slice oe es.length c], .slice od d.length cd] w fun e w' => e = .returned (.bool (smB n es 6 9 && decide (d.length ≤ 24))) ∧ Below w.heap.size w w' := by
  have HBN : Hid (∀ A, Below w.heap.size w (w.alloc A)) := fun A => bnew (Below.refl _ _) A
  have HK : Hid (∀ u, Below w.heap.size w u → Calls Tryz.prog 67 #[.agg #[.int .i64 n, .slice oe es.length c]] u fun e w' => e = .returned (.bool (smB n es 6 9)) ∧ Below u.heap.size u w') := fun u hu => rfew_any n es oe c F u (hs.below edgR_ok hu) hc hc2
  obtain ⟨b, hb⟩ : ∃ b, b = smB n es 6 9 := ⟨_, rfl⟩
  rw [← hb] at HK ⊢
  clear hs hc hc2 hb
  cases b
  · go_enter Tryz.func33, Tryz.ntmps33
    go_wp2_with (go_at_call 67; refine (HK.out _ (HBN.out _)).mono ?_; rintro e w3 ⟨rfl, hb3⟩; have HB3 := hide ((HBN.out _).trans (hb3.mono (HBN.out _).size)); clear hb3)
    go_ret
    exact ⟨ret_bool (by simp), HB3.out⟩
  · go_enter Tryz.func33, Tryz.ntmps33
    go_wp2_with (first
      | (go_at_call 67; refine (HK.out _ (HBN.out _)).mono ?_; rintro e w3 ⟨rfl, hb3⟩; have HB3 := hide ((HBN.out _).trans (hb3.mono (HBN.out _).size)); clear hb3)
      | (go_at_call 23; refine (few17_any d od cd _).mono ?_; rintro e w4 ⟨rfl, hb4⟩; have HB4 := hide (HB3.out.trans (hb4.mono HB3.out.size)); clear hb4))
    go_ret
    exact ⟨ret_bool (by simp), HB4.out⟩

/-- A vertex has no more neighbours than there are single edges. -/
theorem val_few {N : Nat} {es : List Edg} (hg : gErr N es = 0) (v : Nat) : (nbrU es v N).length ≤ (endsL es).length := by
  have h1 := nbr_sum hg v N
  have h2 : ∀ j, j ≤ (endsL es).length → sumI (cntE ((endsL es).take j) v) N ≤ j := fun j => by
    induction j with
    | zero =>
      intro _
      have h3 : ∀ n, sumI (cntE ((endsL es).take 0) v) n = 0 := fun n => by
        induction n with
        | zero => rfl
        | succ n ih => simp only [sumI, ih]; simp [cntE_nil]
      rw [h3]
      omega
    | succ j ih =>
      intro hj
      have ih := ih (by omega)
      have hget : (endsL es)[j]? = some (endsL es)[j] := List.getElem?_eq_getElem (by omega)
      obtain ⟨y, hy, hye⟩ := endsL_mem (List.getElem_mem (show j < (endsL es).length by omega))
      have hr := (gErr_zero hg).2.1 y hy
      rw [List.take_add_one, hget, hye]
      obtain ⟨a, ha⟩ := Int.eq_ofNat_of_zero_le hr.1.1
      obtain ⟨b, hb⟩ := Int.eq_ofNat_of_zero_le hr.2.1.1
      rw [ha, hb]
      show sumI (cntE ((endsL es).take j ++ [((a : Int), (b : Int))]) v) N ≤ _
      by_cases hab : a = b
      · subst hab
        rw [sumI_eq (g := cntE ((endsL es).take j) v) fun p _ => cntE_loop _ _ _ _]
        push_cast
        omega
      · rw [cntE_sum _ hab (by omega) (by omega)]
        push_cast
        split <;> split <;> omega
  have h3 := h2 _ (Nat.le_refl _)
  rw [List.take_length, sumI_eq (g := rowR' es v) fun p _ => cntE_all hg v p] at h3
  omega
theorem pilesU_some {es : List Edg} {n : Nat} {q : Int} (h : ∀ v, v < n → (nbrU es v n).length ≤ 16) : ∀ v, v ≤ n → ∃ l, pilesU es n q v = some l
  | 0, _ => ⟨[], rfl⟩
  | v + 1, hv => by
    obtain ⟨l, hl⟩ := pilesU_some h v (by omega)
    unfold pilesU
    rw [hl, Option.bind_some]
    by_cases e : (v : Int) = q
    · exact ⟨_, if_pos e⟩
    · rw [if_neg e, if_pos (h v (by omega))]
      exact ⟨_, rfl⟩

end Go.Proofs.YtnigfddanoaonaaGreat

set_option linter.unusedVariables false
set_option linter.unusedSimpArgs false
namespace Go.Proofs.YtnigfddanoaonaaGreat
open Go.RowKit

set_option maxRecDepth 100000 in
set_option maxHeartbeats 1000000 in
theorem rrooted_any (n : Int) (es : List Edg) (oe : Option Addr) (c : Nat) (F : Foot) (w : World) (hs : SliceR edgR 3 F w oe es) (hc : es.length ≤ c) (hc2 : es.length ≤ 9223372036854775807)
    (f : List Nat) (hU : Hid (gErr n es = 0 → Uf f (eL es))) (q : Int) : Calls Tryz.prog 81 #[.agg #[.int .i64 n, .slice oe es.length c], .int .i64 q] w (ErrPost w (rootE n es f q)) := by
  go_enter Tryz.func81, Tryz.ntmps81
  go_wp2_with fail
  have hb0 := box_refl w (.cells #[.int .i64 n, .slice oe es.length c] 43)
  refine (rgcheck_any n es oe c F _ (hs.below edgR_ok (below_box hb0)) hc hc2).mono ?_
  rintro e w2 ⟨rfl, hb2⟩
  have hx2 := hb2.mono (B' := w.heap.size + 1) (by simp)
  have d0 := box_cell hx2 0
  have d1 := box_cell hx2 1
  simp at d0 d1
  clear hb2 hb0
  have hs2 := hs.below edgR_ok (below_box hx2)
  by_cases hV : gErr n es = 0
  · have HP : Hid (partsN n es f = cnt f n.toNat) := if_pos hV
    have HJ : Hid (jErr n es f = if partsN n es f = 1 then 0 else 13) := if_pos hV
    have HV := hide hV
    have hn := (gErr_zero hV).1
    rw [hV]
    clear hV
    obtain ⟨N, rfl⟩ := Int.eq_ofNat_of_zero_le (show 0 ≤ n by omega)
    have HUF := hide (hU.out HV.out)
    go_wp2_with fail
    refine (rconn_any N es oe c F _ hs2 hc hc2 HV f HUF).mono ?_
    rintro e w3 ⟨rfl, hb3⟩
    have hx3 := hx2.trans (hb3.mono (box_lt hx2))
    have HX := hide (below_box hx3)
    have d0 := box_cell hx3 0
    have d1 := box_cell hx3 1
    simp at d0 d1
    clear hb3 hs2 hx2 hx3
    by_cases hp : cnt f N = 1
    · have hJ : jErr (N : Int) es f = 0 := by rw [HJ.out, HP.out]; exact if_pos hp
      have HR : Hid (rootE (N : Int) es f q = if vtxB (N : Int) q = true then 0 else 2) := if_pos hJ
      have hq : (cnt f N == 1) = true := by simpa using hp
      clear hp hJ
      go_wp2_with fail
      refine (rvertex_any (N : Int) q oe es.length c w3).mono ?_
      rintro e w4 ⟨rfl, hb4⟩
      have HX4 := hide (HX.out.trans (hb4.mono HX.out.size))
      clear hb4
      obtain ⟨b, hb⟩ : ∃ b, b = vtxB (N : Int) q := ⟨_, rfl⟩
      rw [← hb] at HR ⊢
      clear hb
      cases b
      · go_wp2_with fail
        go_ret
        exact ⟨ret_int HR.out.symm, HX4.out⟩
      · go_wp2_with fail
        go_ret
        exact ⟨ret_int HR.out.symm, HX4.out⟩
    · have hJ : jErr (N : Int) es f = 13 := by rw [HJ.out, HP.out]; exact if_neg hp
      have HR : Hid (rootE (N : Int) es f q = 13) := by show _ = _; unfold rootE; rw [hJ]; rfl
      have hq : (cnt f N == 1) = false := by simpa using hp
      clear hp hJ
      go_wp2_with fail
      go_ret
      exact ⟨ret_int HR.out.symm, HX.out⟩
  · have hJ : jErr n es f = gErr n es := if_neg hV
    have HR : Hid (rootE n es f q = gErr n es) := by show _ = _; unfold rootE; rw [hJ, if_neg hV]
    have hx := hide (below_box hx2)
    have hq : (gErr n es != 0) = true := by simpa using hV
    clear hJ hV
    go_wp2_with fail
    go_ret
    exact ⟨ret_int HR.out.symm, hx.out⟩

set_option maxRecDepth 100000 in
set_option maxHeartbeats 2000000 in
theorem rcfg_any (n : Int) (es : List Edg) (oe : Option Addr) (c : Nat) (F : Foot) (w : World) (hs : SliceR edgR 3 F w oe es) (hc : es.length ≤ c) (hc2 : es.length ≤ 9223372036854775807)
    (f : List Nat) (hU : Hid (gErr n es = 0 → Uf f (eL es))) (q : Int) (d : List Int) (od : Option Addr) (cd : Nat) (D : Foot) (hd : SliceR intR 1 D w od d) (hdc : d.length ≤ cd) (hdl : d.length ≤ 9223372036854775807) :
    Calls Tryz.prog 34 #[.agg #[.int .i64 n, .slice oe es.length c], .int .i64 q, .slice od d.length cd] w (ErrPost w (cfgE n es f q d)) := by
  go_enter Tryz.func34, Tryz.ntmps34
  go_wp2_with fail
  have hb0 := box_refl w (.cells #[.int .i64 n, .slice oe es.length c] 43)
  refine (rrooted_any n es oe c F _ (hs.below edgR_ok (below_box hb0)) hc hc2 f hU q).mono ?_
  rintro e w2 ⟨rfl, hb2⟩
  have hx2 := hb2.mono (B' := w.heap.size + 1) (by simp)
  have d0 := box_cell hx2 0
  simp at d0
  have HX := hide (below_box hx2)
  clear hb2 hb0 hx2
  by_cases hR : rootE n es f q = 0
  · have HG : Hid (cfgE n es f q d = if dErr n d = 0 then gScan q 0 d else dErr n d) := if_pos hR
    have hd2 := hd.below intR_ok HX.out
    rw [hR]
    clear hR
    go_wp2_with fail
    refine (rdcheck_any n d od cd D w2 hd2 hdc hdl).mono ?_
    rintro e w3 ⟨rfl, rfl⟩
    by_cases hE : dErr n d = 0
    · have HG2 : Hid (cfgE n es f q d = gScan q 0 d) := by show _ = _; rw [HG.out, if_pos hE]
      have hdn : (d.length : Int) = n := by
        unfold dErr at hE
        split at hE
        · split at hE
          · assumption
          · cases hE
        · cases hE
      rw [hE]
      clear hE hd2
      go_wp2_with fail
      go_loopw [9] (fun iv wr => ∃ k : Nat, k ≤ d.length ∧ iv = .int .i64 k ∧ Hid (cfgE n es f q d = gScan q k (d.drop k)) ∧ wr = w2) (fun iv _ => d.length - (intOf iv).toNat)
      case atStart => exact ⟨0, by omega, rfl, HG2, rfl⟩
      case round =>
        obtain ⟨k, hk, rfl, HS, rfl⟩ := hrel
        by_cases hlt : k < d.length
        · obtain ⟨x, hdr, _, ix, b, off, hod, _, c0⟩ := (hd.below intR_ok HX.out).int_at hlt
          subst hod
          have HS2 : Hid (cfgE n es f q d = if (k : Int) ≠ q ∧ x < 0 then 2 else gScan q (k + 1) (d.drop (k + 1))) := by show _ = _; rw [HS.out, hdr]; rfl
          have qn : decide ((k : Int) < n) = true := by simp; omega
          clear hdr
          by_cases hkq : (k : Int) = q
          · have q1 : ((k : Int) != q) = false := by simp [hkq]
            have HS3 : Hid (cfgE n es f q d = gScan q (k + 1) (d.drop (k + 1))) := by show _ = _; rw [HS2.out, if_neg (by intro h; exact h.1 hkq)]
            clear hkq
            go_wp2_with fail
            go_roundw
            case rel => exact ⟨k + 1, by omega, by go_num, HS3, by first | rfl | trivial⟩
            case measure => simp [intOf]; omega
          · have q1 : ((k : Int) != q) = true := by simp [hkq]
            by_cases hx : x < 0
            · have q2 : decide (x < 0) = true := by simp [hx]
              have HS3 : Hid (cfgE n es f q d = 2) := by show _ = _; rw [HS2.out, if_pos ⟨hkq, hx⟩]
              clear hkq hx
              go_wp2_with fail
              go_ret
              exact ⟨ret_int HS3.out.symm, HX.out⟩
            · have q2 : decide (x < 0) = false := by simp; omega
              have HS3 : Hid (cfgE n es f q d = gScan q (k + 1) (d.drop (k + 1))) := by show _ = _; rw [HS2.out, if_neg (by intro h; exact hx h.2)]
              clear hkq hx
              go_wp2_with fail
              go_roundw
              case rel => exact ⟨k + 1, by omega, by go_num, HS3, by first | rfl | trivial⟩
              case measure => simp [intOf]; omega
        · have hke : k = d.length := by omega
          have qn : decide ((k : Int) < n) = false := by simp; omega
          have HS3 : Hid (cfgE n es f q d = 0) := by show _ = _; rw [HS.out, hke, List.drop_length]; rfl
          clear hke
          go_wp2_with fail
          go_ret
          exact ⟨ret_int HS3.out.symm, HX.out⟩
    · have HG2 : Hid (cfgE n es f q d = dErr n d) := by show _ = _; rw [HG.out, if_neg hE]
      have hq : (dErr n d != 0) = true := by simpa using hE
      clear hE hd2
      go_wp2_with fail
      go_ret
      exact ⟨ret_int HG2.out.symm, HX.out⟩
  · have HG : Hid (cfgE n es f q d = rootE n es f q) := if_neg hR
    have hq : (rootE n es f q != 0) = true := by simpa using hR
    clear hR
    go_wp2_with fail
    go_ret
    exact ⟨ret_int HG.out.symm, HX.out⟩

end Go.Proofs.YtnigfddanoaonaaGreat

set_option linter.unusedVariables false
set_option linter.unusedSimpArgs false
set_option linter.unnecessarySimpa false
namespace Go.Proofs.YtnigfddanoaonaaGreat
open Go.RowKit



/-- The error of picks. -/
def pkE (l : List Int) : Int := if 4096 < l.length then 5 else if l.length = 0 then 14 else if negB l = true then 2 else 0
def pScan : List Int → Int
  | [] => 0
  | x :: r => if x < 0 then 2 else pScan r
theorem pScan_neg : ∀ l : List Int, pScan l = if negB l = true then 2 else 0
  | [] => rfl
  | x :: r => by
    unfold pScan
    rw [pScan_neg r]
    by_cases h : x < 0 <;> simp [negB, h]

set_option maxHeartbeats 1000000 in
theorem picks_any (l : List Int) (oa : Option Addr) (c : Nat) (F : Foot) (w : World) (hs : SliceR intR 1 F w oa l) (hc : l.length ≤ c) (hc2 : l.length ≤ 9223372036854775807) :
    Calls Tryz.prog 10 #[.slice oa l.length c] w fun e w' => e = .returned (.int .i64 (pkE l)) ∧ Below w.heap.size w w' := by
  by_cases h1 : 4096 < l.length
  · have q1 : decide ((4096 : Int) < (l.length : Int)) = true := by simp; omega
    have HR : Hid (pkE l = 5) := if_pos h1
    clear h1
    go_enter Tryz.func10, Tryz.ntmps10
    go_wp2_with fail
    go_ret
    exact ⟨ret_int HR.out.symm, Below.refl _ _⟩
  · have q1 : decide ((4096 : Int) < (l.length : Int)) = false := by simp; omega
    by_cases h0 : l.length = 0
    · have q2 : ((l.length : Int) == 0) = true := by simp [h0]
      have HR : Hid (pkE l = 14) := by show _ = _; unfold pkE; rw [if_neg h1, if_pos h0]
      clear h1 h0
      go_enter Tryz.func10, Tryz.ntmps10
      go_wp2_with fail
      go_ret
      exact ⟨ret_int HR.out.symm, Below.refl _ _⟩
    · have q2 : ((l.length : Int) == 0) = false := by simpa using h0
      have HR : Hid (pkE l = pScan l) := by show _ = _; unfold pkE; rw [if_neg h1, if_neg h0, pScan_neg]
      clear h1 h0
      go_enter Tryz.func10, Tryz.ntmps10
      go_wp2_with fail
      go_loopw [3] (fun iv wr => ∃ k : Nat, k ≤ l.length ∧ iv = .int .i64 k ∧ Hid (pkE l = pScan (l.drop k)) ∧ wr = w) (fun iv _ => l.length - (intOf iv).toNat)
      case atStart => exact ⟨0, by omega, rfl, HR, rfl⟩
      case round =>
        obtain ⟨k, hk, rfl, HS, rfl⟩ := hrel
        by_cases hlt : k < l.length
        · obtain ⟨x, hdr, _, ix, b, off, hod, _, c0⟩ := hs.int_at hlt
          subst hod
          have HS2 : Hid (pkE l = if x < 0 then 2 else pScan (l.drop (k + 1))) := by show _ = _; rw [HS.out, hdr]; rfl
          clear hdr
          by_cases hx : x < 0
          · have q3 : decide (x < 0) = true := by simp [hx]
            have HS3 : Hid (pkE l = 2) := by show _ = _; rw [HS2.out, if_pos hx]
            clear hx
            go_wp2_with fail
            go_ret
            exact ⟨ret_int HS3.out.symm, Below.refl _ _⟩
          · have q3 : decide (x < 0) = false := by simp; omega
            have HS3 : Hid (pkE l = pScan (l.drop (k + 1))) := by show _ = _; rw [HS2.out, if_neg hx]
            clear hx
            go_wp2_with fail
            go_roundw
            case rel => exact ⟨k + 1, by omega, by go_num, HS3, by first | rfl | trivial⟩
            case measure => simp [intOf]; omega
        · have hke : k = l.length := by omega
          have HS3 : Hid (pkE l = 0) := by show _ = _; rw [HS.out, hke, List.drop_length]; rfl
          clear hke
          go_wp2_with fail
          go_ret
          exact ⟨ret_int HS3.out.symm, Below.refl _ _⟩

def fewP (l : List Int) : Bool := if l.length ≤ 60 then true else if 4096 < l.length then decide (l.length ≤ 8192) else false
theorem fewP_any (l : List Int) (oa : Option Addr) (c : Nat) (w : World) : Calls Tryz.prog 11 #[.slice oa l.length c] w fun e w' => e = .returned (.bool (fewP l)) ∧ Below w.heap.size w w' := by
  by_cases h1 : l.length ≤ 60
  · have q1 : decide ((l.length : Int) ≤ 60) = true := by simp; omega
    have HR : Hid (fewP l = true) := if_pos h1
    clear h1
    go_enter Tryz.func11, Tryz.ntmps11
    go_wp2_with fail
    go_ret
    exact ⟨ret_bool HR.out.symm, Below.refl _ _⟩
  · have q1 : decide ((l.length : Int) ≤ 60) = false := by simp; omega
    by_cases h2 : 4096 < l.length
    · have q2 : decide ((4096 : Int) < (l.length : Int)) = true := by simp; omega
      have HR : Hid (fewP l = decide ((l.length : Int) ≤ 8192)) := by
        show _ = _
        unfold fewP
        rw [if_neg h1, if_pos h2]
        simp
        omega
      clear h1 h2
      go_enter Tryz.func11, Tryz.ntmps11
      go_wp2_with fail
      go_ret
      exact ⟨ret_bool HR.out.symm, Below.refl _ _⟩
    · have q2 : decide ((4096 : Int) < (l.length : Int)) = false := by simp; omega
      have HR : Hid (fewP l = false) := by show _ = _; unfold fewP; rw [if_neg h1, if_neg h2]
      clear h1 h2
      go_enter Tryz.func11, Tryz.ntmps11
      go_wp2_with fail
      go_ret
      exact ⟨ret_bool HR.out.symm, Below.refl _ _⟩

end Go.Proofs.YtnigfddanoaonaaGreat

set_option linter.unusedVariables false
set_option linter.unusedSimpArgs false
namespace Go.Proofs.YtnigfddanoaonaaGreat
open Go.RowKit

/-- What the walk leans on between its calls. -/
structure TopC (w : World) (n : Int) (oe : Option Addr) (nes c : Nat) (od : Option Addr) (nd cd : Nat) (op : Option Addr) (npk cp : Nat) (W : World) : Prop where
  b1 : Box W w.heap.size [.int .i64 n, .slice oe nes c] 43
  b2 : Box W (w.heap.size + 1) [.slice od nd cd, .slice op npk cp] 69
  low : Below w.heap.size w W
theorem TopC.below {w : World} {n : Int} {oe : Option Addr} {nes c : Nat} {od : Option Addr} {nd cd : Nat} {op : Option Addr} {npk cp : Nat} {W W' : World} (h : TopC w n oe nes c od nd cd op npk cp W) (hb : Below W.heap.size W W') : TopC w n oe nes c od nd cd op npk cp W' := ⟨h.b1.below hb, h.b2.below hb, h.low.trans (hb.mono h.low.size)⟩
theorem TopC.new {w : World} {n : Int} {oe : Option Addr} {nes c : Nat} {od : Option Addr} {nd cd : Nat} {op : Option Addr} {npk cp : Nat} : TopC w n oe nes c od nd cd op npk cp ((w.alloc (.cells #[.int .i64 n, .slice oe nes c] 43)).alloc (.cells #[.slice od nd cd, .slice op npk cp] 69)) := by
  have hb := bnew (bnew (Below.refl w.heap.size w) (.cells #[.int .i64 n, .slice oe nes c] 43)) (.cells #[.slice od nd cd, .slice op npk cp] 69)
  refine ⟨(Box.new w [.int .i64 n, .slice oe nes c] 43).next _, ?_, hb⟩
  have := Box.new (w.alloc (.cells #[.int .i64 n, .slice oe nes c] 43)) [.slice od nd cd, .slice op npk cp] 69
  simpa using this
theorem TopC.cells {w : World} {n : Int} {oe : Option Addr} {nes c : Nat} {od : Option Addr} {nd cd : Nat} {op : Option Addr} {npk cp : Nat} {W : World} (h : TopC w n oe nes c od nd cd op npk cp W) : W.cell? ⟨w.heap.size, 0, none⟩ = some (.int .i64 n) ∧ W.cell? ⟨w.heap.size, 1, none⟩ = some (.slice oe nes c) ∧ W.cell? ⟨w.heap.size + 1, 0, none⟩ = some (.slice od nd cd) ∧ W.cell? ⟨w.heap.size + 1, 1, none⟩ = some (.slice op npk cp) := by
  have d0 := h.b1.cell 0
  have d1 := h.b1.cell 1
  have p0 := h.b2.cell 0
  have p1 := h.b2.cell 1
  simp only [List.getElem?_cons_zero, List.getElem?_cons_succ] at d0 d1 p0 p1
  exact ⟨d0, d1, p0, p1⟩

set_option maxRecDepth 100000 in
set_option maxHeartbeats 8000000 in
theorem topples_walk (w : World) (n : Int) (es : List Edg) (oe : Option Addr) (c : Nat) (hc : es.length ≤ c) (hc2 : es.length ≤ 9223372036854775807) (hs : SliceR edgR 3 All w oe es) (q : Int) (_ : I64 q)
    (d : List Int) (od : Option Addr) (cd : Nat) (pk : List Int) (op : Option Addr) (cp : Nat) (hdc : d.length ≤ cd) (hdl : d.length ≤ 9223372036854775807) (hd : SliceR intR 1 All w od d) (hpc : pk.length ≤ cp) (hpl : pk.length ≤ 9223372036854775807) (hp : SliceR intR 1 All w op pk) :
    Calls Tryz.prog 8 #[.agg #[.int .i64 n, .slice oe es.length c], .int .i64 q, .agg #[.slice od d.length cd, .slice op pk.length cp]] w fun r w' => r = .returned (.bool true) ∧ Below w.heap.size w w' := by
  have HU : Hid (gErr n es = 0 → Uf (forest es) (eL es)) := forest_ok n es
  have K1 : Hid (∀ u, Below w.heap.size w u → Calls Tryz.prog 33 #[.agg #[.int .i64 n, .slice oe es.length c], .slice od d.length cd] u fun e w' => e = .returned (.bool (smB n es 6 9 && decide (d.length ≤ 24))) ∧ Below u.heap.size u w') := fun u hu => rfew18_any n es oe c All u (hs.below edgR_ok hu) hc hc2 d od cd
  have K2 : Hid (∀ u, Below w.heap.size w u → Calls Tryz.prog 34 #[.agg #[.int .i64 n, .slice oe es.length c], .int .i64 q, .slice od d.length cd] u (ErrPost u (cfgE n es (forest es) q d))) := fun u hu =>
    rcfg_any n es oe c All u (hs.below edgR_ok hu) hc hc2 (forest es) HU q d od cd All (hd.below intR_ok hu) hdc hdl
  have K4 : Hid (∀ u, Below w.heap.size w u → Calls Tryz.prog 29 #[.slice od d.length cd] u fun e w' => e = .returned (.bool (smD d)) ∧ Below u.heap.size u w') := fun u hu => smD_any d od cd All u (hd.below intR_ok hu) hdc hdl
  have K5 : Hid (∀ u, Below w.heap.size w u → Calls Tryz.prog 10 #[.slice op pk.length cp] u fun e w' => e = .returned (.int .i64 (pkE pk)) ∧ Below u.heap.size u w') := fun u hu => picks_any pk op cp All u (hp.below intR_ok hu) hpc hpl
  have K6 : Hid (∀ u, Calls Tryz.prog 11 #[.slice op pk.length cp] u fun e w' => e = .returned (.bool (fewP pk)) ∧ Below u.heap.size u w') := fun u => fewP_any pk op cp u
  have K7 : Hid ((smB n es 6 9 && decide (d.length ≤ 24)) = true → ∀ u, Below w.heap.size w u → Calls Tryz.prog 19 #[.agg #[.int .i64 n, .slice oe es.length c], .int .i64 q, .slice od d.length cd] u (NwPost u (sandR n es (forest es) q d))) := fun h u hu => by
    simp only [Bool.and_eq_true, decide_eq_true_eq] at h
    have h40 : es.length ≤ 40 := by
      have h1 := h.1
      unfold smB at h1
      split at h1
      · assumption
      · cases h1
    exact nsand_any n es oe c All u (hs.below edgR_ok hu) hc (by omega) (forest es) HU q d od cd All (hd.below intR_ok hu) hdc (by omega)
  have K8 : Hid (∀ (N qn : Nat) (f0 : Nat → Nat), n = N → q = qn → es.length ≤ 1000 → cfgE n es (forest es) q d = 0 → smD d = true → Leg N qn (rowR' es) (fun v => d.getD v 0) f0 → Stab N qn (rowR' es) (fun v => d.getD v 0) f0 → sumN f0 N ≤ 3000 → ∀ u, Below w.heap.size w u → Calls Tryz.prog 35 #[.agg #[.int .i64 n, .slice oe es.length c], .int .i64 q, .slice od d.length cd] u (StabPost N (cfg N (rowR' es) (fun v => d.getD v 0) f0) u)) := fun N qn f0 hn hq h40 hz hsm hl hst hsu u hu => by
    subst hn hq
    exact pstabilize_any N es oe c All u (hs.below edgR_ok hu) hc h40 (forest es) HU qn d od cd All (hd.below intR_ok hu) hdc hz (fun x hx => by have := smD_yes hsm x hx; omega) hl hst hsu
  have HP := hide hp
  have HPC := hide hpc
  obtain ⟨nes, h1⟩ : ∃ k, k = es.length := ⟨_, rfl⟩
  obtain ⟨nd, h4⟩ : ∃ k, k = d.length := ⟨_, rfl⟩
  obtain ⟨npk, h5⟩ : ∃ k, k = pk.length := ⟨_, rfl⟩
  obtain ⟨b1, hb1⟩ : ∃ b, b = (smB n es 6 9 && decide (d.length ≤ 24)) := ⟨_, rfl⟩
  rw [← hb1, ← h1, ← h4] at K1
  rw [← h1, ← h4] at K2
  rw [← h4] at K4
  rw [← h5] at K5
  rw [← h5] at K6
  rw [← hb1, ← h1, ← h4] at K7
  rw [← h1, ← h4] at K8
  rw [← h1, ← h4, ← h5]
  have HNPK := hide h5
  have HB1 := hide hb1
  have HNE := hide h1
  clear h1 h4 h5 hb1 hc hc2 hs hdc hdl hd hpc hpl hp
  obtain ⟨W1, hW1⟩ : ∃ W1, (w.alloc (.cells #[.int .i64 n, .slice oe nes c] 43)).alloc (.cells #[.slice od nd cd, .slice op npk cp] 69) = W1 := ⟨_, rfl⟩
  have C0 := TopC.new (w := w) (n := n) (oe := oe) (nes := nes) (c := c) (od := od) (nd := nd) (cd := cd) (op := op) (npk := npk) (cp := cp)
  rw [hW1] at C0
  have HC := hide C0
  clear C0
  obtain ⟨d0, d1, p0, p1⟩ := HC.out.cells
  go_enter Tryz.func8, Tryz.ntmps8
  go_wp2_with fail
  clear d0 d1 p0 p1
  refine (K1.out _ HC.out.low).mono ?_
  rintro e W2 ⟨rfl, hb⟩
  replace HC := hide (HC.out.below hb)
  clear hb hW1
  obtain ⟨d0, d1, p0, p1⟩ := HC.out.cells
  cases b1
  · clear K7 K8
    clear d0 d1 p0 p1
    go_wp2_with fail
    refine (awake55_any _).mono ?_
    rintro e WF ⟨rfl, hbF⟩
    replace HC := hide (HC.out.below hbF)
    clear hbF
    go_wp2_with fail
    go_ret
    exact ⟨rfl, HC.out.low⟩
  go_wp2_with fail
  clear d0 d1 p0 p1
  refine (K2.out _ HC.out.low).mono ?_
  rintro e W3 ⟨rfl, hb⟩
  replace HC := hide (HC.out.below hb)
  clear hb
  obtain ⟨d0, d1, p0, p1⟩ := HC.out.cells
  by_cases hg : cfgE n es (forest es) q d = 0
  case neg =>
    have q1 : (cfgE n es (forest es) q d != 0) = true := by simpa using hg
    clear hg K7 K8
    clear d0 d1 p0 p1
    go_wp2_with fail
    refine (awake55_any _).mono ?_
    rintro e WF ⟨rfl, hbF⟩
    replace HC := hide (HC.out.below hbF)
    clear hbF
    go_wp2_with fail
    go_ret
    exact ⟨rfl, HC.out.low⟩
  rw [hg]
  have HG := hide hg
  clear hg
  go_wp2_with fail
  clear d0 d1 p0 p1
  refine (K4.out _ HC.out.low).mono ?_
  rintro e W5 ⟨rfl, hb⟩
  replace HC := hide (HC.out.below hb)
  clear hb
  obtain ⟨b4, hb4⟩ : ∃ b, b = smD d := ⟨_, rfl⟩
  rw [← hb4]
  have HSM := hide hb4
  clear hb4
  obtain ⟨d0, d1, p0, p1⟩ := HC.out.cells
  cases b4
  · clear K7 K8
    clear d0 d1 p0 p1
    go_wp2_with fail
    refine (awake55_any _).mono ?_
    rintro e WF ⟨rfl, hbF⟩
    replace HC := hide (HC.out.below hbF)
    clear hbF
    go_wp2_with fail
    go_ret
    exact ⟨rfl, HC.out.low⟩
  go_wp2_with fail
  clear d0 d1 p0 p1
  refine (K5.out _ HC.out.low).mono ?_
  rintro e W6 ⟨rfl, hb⟩
  replace HC := hide (HC.out.below hb)
  clear hb
  obtain ⟨d0, d1, p0, p1⟩ := HC.out.cells
  by_cases hk : pkE pk = 0
  case neg =>
    have q1 : (pkE pk != 0) = true := by simpa using hk
    clear hk K7 K8
    clear d0 d1 p0 p1
    go_wp2_with fail
    refine (awake55_any _).mono ?_
    rintro e WF ⟨rfl, hbF⟩
    replace HC := hide (HC.out.below hbF)
    clear hbF
    go_wp2_with fail
    go_ret
    exact ⟨rfl, HC.out.low⟩
  rw [hk]
  have HK := hide hk
  clear hk
  go_wp2_with fail
  clear d0 d1 p0 p1
  refine (K6.out _).mono ?_
  rintro e W7 ⟨rfl, hb⟩
  replace HC := hide (HC.out.below hb)
  clear hb
  obtain ⟨b6, hb6⟩ : ∃ b, b = fewP pk := ⟨_, rfl⟩
  rw [← hb6]
  clear hb6
  cases b6
  · clear K7 K8
    go_wp2_with fail
    refine (awake55_any _).mono ?_
    rintro e WF ⟨rfl, hbF⟩
    replace HC := hide (HC.out.below hbF)
    clear hbF
    go_wp2_with fail
    go_ret
    exact ⟨rfl, HC.out.low⟩
  clear K1 K2 K4 K5 K6
  obtain ⟨d0, d1, p0, p1⟩ := HC.out.cells
  go_wp2_with fail
  clear d0 d1 p0 p1
  refine (K7.out (by first | rfl | trivial) _ HC.out.low).mono ?_
  rintro e W8 ⟨v, rfl, hat, hb⟩
  replace HC := hide (HC.out.below hb)
  clear hb K7
  obtain ⟨hj, hqr, hdz, _⟩ := cfgE_parts HG.out
  have hgz := jErr_zero hj
  have hn12 := (gErr_zero hgz).1
  obtain ⟨N, hN⟩ := Int.eq_ofNat_of_zero_le (show 0 ≤ n by omega)
  obtain ⟨qn, hqn⟩ := Int.eq_ofNat_of_zero_le hqr.1
  have hb1 := HB1.out
  have hsb : smB n es 6 9 = true := by
    have := hb1.symm
    simp only [Bool.and_eq_true] at this
    exact this.1
  have h40 : es.length ≤ 40 := by
    unfold smB at hsb
    split at hsb
    · assumption
    · cases hsb
  have h9 : ((endsL es).length : Int) ≤ 9 := by
    unfold smB at hsb
    rw [if_pos h40, if_pos hgz] at hsb
    exact (of_decide_eq_true hsb).2
  have hUN : gErr N es = 0 → Uf (forest es) (eL es) := by rw [← hN]; exact HU.out
  have hgN : gErr N es = 0 := by rw [← hN]; exact hgz
  obtain ⟨l, hl⟩ := pilesU_some (es := es) (n := N) (q := q) (fun v hv => by have := val_few hgN v; omega) N (Nat.le_refl _)
  have hRR : sandR n es (forest es) q d = (⟨l, List.replicate N 0, waitD d q N⟩, 0) := by
    unfold sandR
    rw [if_pos HG.out, hN, Int.toNat_natCast, hl]
  rw [hRR] at hat ⊢
  have hcN : cfgE N es (forest es) q d = 0 := by rw [← hN]; exact HG.out
  obtain ⟨hri, hcm, hdl2, hll⟩ := sand_right hUN hcN hl
  have HLAW : Hid (∀ y ct, runX pk 3000 0 ⟨l, List.replicate N 0, waitD d q N⟩ (l.map fun p => List.replicate p.letters.toNat (0 : Int)) = some (y, ct) → ∃ f0, Leg N qn (rowR' es) (fun v => d.getD v 0) f0 ∧ Stab N qn (rowR' es) (fun v => d.getD v 0) f0 ∧ sumN f0 N ≤ 3000 ∧ y.state.length = N ∧ ∀ v, v < N → v ≠ qn → y.state.getD v 0 = cfg N (rowR' es) (fun v => d.getD v 0) f0 v) := by
    rw [hqn] at hcN hl ⊢
    exact fun y ct h => sand_law hUN hcN hl h
  have KST : Hid (∀ f0, Leg N qn (rowR' es) (fun v => d.getD v 0) f0 → Stab N qn (rowR' es) (fun v => d.getD v 0) f0 → sumN f0 N ≤ 3000 → ∀ u, Below w.heap.size w u → Calls Tryz.prog 35 #[.agg #[.int .i64 n, .slice oe nes c], .int .i64 q, .slice od nd cd] u (StabPost N (cfg N (rowR' es) (fun v => d.getD v 0) f0) u)) :=
    fun f0 h1 h2 h3 u hu => K8.out N qn f0 hN hqn (by rw [HNE.out]; omega) HG.out HSM.out.symm h1 h2 h3 u hu
  obtain ⟨oq1, cq1, os1, cs1, ow1, cw1, rfl, _, _, _, hp1, hs1, ht1⟩ := hat
  have hl12 := hri.n.2
  have hnab : nabR ⟨l, List.replicate N 0, waitD d q N⟩ = (true, 0) := by unfold nabR; rw [if_pos (netErr_of hri)]; simp only [hcm]
  have hst := hri.nst
  have hwt := hri.nwt
  have hw60 : ∀ t ∈ (⟨l, List.replicate N 0, waitD d q N⟩ : Nwk).waiting, ∀ k ∈ t, k ≤ 1000 := fun t ht k hk => by
    unfold waitD at ht
    simp only at ht
    obtain ⟨v, hv, rfl⟩ := List.mem_map.1 ht
    rw [List.mem_singleton] at hk
    subst hk
    split
    · omega
    · have hvl := List.mem_range.1 hv
      have hvd : v < d.length := by omega
      have := smD_yes HSM.out.symm d[v] (List.getElem_mem hvd)
      rw [List.getD_eq_getElem?_getD, List.getElem?_eq_getElem hvd, Option.getD_some]
      omega
  have HAB : Hid (∀ u, Below W8.heap.size W8 u → Calls Tryz.prog 30 #[.agg #[.slice oq1 l.length cq1, .slice os1 (List.replicate N (0 : Int)).length cs1, .slice ow1 (waitD d q N).length cw1]] u fun e w' => e = .returned (.tuple #[.bool true, .int .i64 0]) ∧ Below u.heap.size u w') := fun u hu => by
    have := nabelian_any ⟨l, List.replicate N 0, waitD d q N⟩ oq1 cq1 os1 cs1 ow1 cw1 All u (hp1.below prcR_ok hu) (by simp only at hl12 ⊢; omega) (hs1.below intR_ok hu) (by simp only at hl12 hst ⊢; omega) (ht1.below (slcR_ok intR_ok (by decide)) hu) (by simp only at hl12 hwt ⊢; omega)
    rw [hnab] at this
    exact this
  have HRU : Hid (∀ u, Below w.heap.size w u → Below W8.heap.size W8 u → Calls Tryz.prog 13 #[.agg #[.slice oq1 l.length cq1, .slice os1 (List.replicate N (0 : Int)).length cs1, .slice ow1 (waitD d q N).length cw1], .slice op npk cp, .int .i64 3000] u fun e w' => RunNet All u e w' (runX pk 3000 0 ⟨l, List.replicate N 0, waitD d q N⟩ (l.map fun p => List.replicate p.letters.toNat (0 : Int)))) := fun u h0 hu => by
    have := nrun_big ⟨l, List.replicate N 0, waitD d q N⟩ oq1 cq1 os1 cs1 ow1 cw1 pk op cp 3000 All u (hp1.below prcR_ok hu) (hs1.below intR_ok hu) (ht1.below (slcR_ok intR_ok (by decide)) hu) (netErr_of hri) (HP.out.below intR_ok h0) HPC.out HK.out (by omega) hw60
    rw [← HNPK.out] at this
    exact this
  obtain ⟨nl, h1⟩ : ∃ k, k = l.length := ⟨_, rfl⟩
  obtain ⟨nr, h2⟩ : ∃ k, k = (List.replicate N (0 : Int)).length := ⟨_, rfl⟩
  obtain ⟨nw, h3⟩ : ∃ k, k = (waitD d q N).length := ⟨_, rfl⟩
  rw [← h1, ← h2, ← h3] at HAB HRU
  simp only [← h1, ← h2, ← h3]
  obtain ⟨R, hR⟩ : ∃ R, R = runX pk 3000 0 ⟨l, List.replicate N 0, waitD d q N⟩ (l.map fun p => List.replicate p.letters.toNat (0 : Int)) := ⟨_, rfl⟩
  rw [← hR] at HLAW HRU
  have HNN := hide hN
  have HQN := hide hqn
  have HN12 : Hid (N ≤ 12) := by show N ≤ 12; omega
  clear hl hcm hdl2 hll hp1 hs1 ht1 hnab hst hwt hw60 h1 h2 h3 hri hl12 hR hj hqr hdz hgz hn12 hN hqn hb1 hsb h40 h9 hUN hgN hRR hcN K8
  obtain ⟨W9, e9⟩ : ∃ W9, W8.alloc (.cells #[.slice oq1 nl cq1, .slice os1 nr cs1, .slice ow1 nw cw1] 26) = W9 := ⟨_, rfl⟩
  have hx9 : Box W9 W8.heap.size [.slice oq1 nl cq1, .slice os1 nr cs1, .slice ow1 nw cw1] 26 := by rw [← e9]; exact Box.new W8 [.slice oq1 nl cq1, .slice os1 nr cs1, .slice ow1 nw cw1] 26
  have hb9 : Below W8.heap.size W8 W9 := by rw [← e9]; exact bnew (Below.refl _ _) _
  have HX9 := hide hx9
  have HB9 := hide hb9
  replace HC := hide (HC.out.below hb9)
  clear hx9 hb9
  have a0 := HX9.out.cell 0
  have a1 := HX9.out.cell 1
  have a2 := HX9.out.cell 2
  simp only [List.getElem?_cons_zero, List.getElem?_cons_succ] at a0 a1 a2
  go_wp2_with fail
  clear a0 a1 a2
  refine (HAB.out _ HB9.out).mono ?_
  rintro e W10 ⟨rfl, hb⟩
  replace HC := hide (HC.out.below hb)
  have HB10 := hide (HB9.out.trans (hb.mono HB9.out.size))
  have a0 := (HX9.out.below hb).cell 0
  have a1 := (HX9.out.below hb).cell 1
  have a2 := (HX9.out.below hb).cell 2
  simp only [List.getElem?_cons_zero, List.getElem?_cons_succ] at a0 a1 a2
  obtain ⟨d0, d1, p0, p1⟩ := HC.out.cells
  clear hb e9
  go_wp2_with fail
  clear a0 a1 a2 d0 d1 p0 p1
  refine (HRU.out _ HC.out.low HB10.out).mono ?_
  cases R with
  | none =>
    rintro e W11 ⟨rfl, hb⟩
    replace HC := hide (HC.out.below hb)
    clear hb HLAW HRU HAB
    have HBN : Hid (∀ A, Below W11.heap.size W11 (W11.alloc A)) := fun A => bnew (Below.refl _ _) A
    go_wp2_with fail
    refine (awake55_any _).mono ?_
    rintro e WF ⟨rfl, hbF⟩
    replace HC := hide ((HC.out.below (HBN.out _)).below hbF)
    clear hbF
    go_wp2_with fail
    go_ret
    exact ⟨rfl, HC.out.low⟩
  | some yc =>
    obtain ⟨y, cts⟩ := yc
    obtain ⟨f0, g1, g2, g3, hyl, hyv⟩ := HLAW.out y cts rfl
    rintro e W11 ⟨v, oc, cc, rfl, ⟨oq2, cq2, os2, cs2, ow2, cw2, rfl, _, hcs2, _, hp2, hs2, ht2⟩, hcc, hct, hb⟩
    replace HC := hide (HC.out.below hb)
    have HST := hide (KST.out f0 g1 g2 g3)
    have HYV := hide hyv
    obtain ⟨np, h1⟩ : ∃ k, k = y.procs.length := ⟨_, rfl⟩
    obtain ⟨nw2, h3⟩ : ∃ k, k = y.waiting.length := ⟨_, rfl⟩
    obtain ⟨nc, h4⟩ : ∃ k, k = cts.length := ⟨_, rfl⟩
    have HSt := hide hs2
    have HCS2 := hide hcs2
    have HYN := hide hyl
    simp only [← h1, ← h3, ← h4, hyl]
    obtain ⟨W12, e12⟩ : ∃ W12, W11.alloc (.cells #[.slice oq2 np cq2, .slice os2 N cs2, .slice ow2 nw2 cw2] 26) = W12 := ⟨_, rfl⟩
    have hx12 : Box W12 W11.heap.size [.slice oq2 np cq2, .slice os2 N cs2, .slice ow2 nw2 cw2] 26 := by rw [← e12]; exact Box.new W11 [.slice oq2 np cq2, .slice os2 N cs2, .slice ow2 nw2 cw2] 26
    have hb12 : Below W11.heap.size W11 W12 := by rw [← e12]; exact bnew (Below.refl _ _) _
    have HX12 := hide hx12
    have HB12 := hide hb12
    replace HC := hide (HC.out.below hb12)
    clear hb hyl hyv hp2 hs2 ht2 hct hcc hcs2 h1 h3 h4 hx12 hb12 KST HLAW HRU HAB g1 g2 g3
    obtain ⟨d0, d1, p0, p1⟩ := HC.out.cells
    go_wp2_with fail
    clear d0 d1 p0 p1
    refine (HST.out _ HC.out.low).mono ?_
    rintro e W13 ⟨o1, k1, o2, k2, rfl, hs3, hk1, hb⟩
    replace HC := hide (HC.out.below hb)
    have HB13 := hide (HB12.out.trans (hb.mono HB12.out.size))
    have hx13 := HX12.out.below hb
    have a1 := hx13.cell 1
    simp only [List.getElem?_cons_zero, List.getElem?_cons_succ] at a1
    have HX13 := hide hx13
    have HTI := hide hs3
    obtain ⟨d0, d1, p0, p1⟩ := HC.out.cells
    have q7 : ((N : Int) != n) = false := by simp [HNN.out]
    clear hk1 hs3 hb hx13 e12
    go_wp2_with fail
    clear d0 d1 p0 p1 a1
    have hn12 : N ≤ 12 := HN12.out
    have HTs := hide (HSt.out.below intR_ok HB13.out)
    go_loopw [124] (fun iv wr => ∃ k : Nat, k ≤ N ∧ iv = .int .i64 k ∧ Hid (Below W13.heap.size W13 wr)) (fun iv _ => N - (intOf iv).toNat)
    case atStart => exact ⟨0, by omega, rfl, Below.refl _ _⟩
    case round =>
      obtain ⟨k, hk, rfl, HBk⟩ := hrel
      have hx := HX13.out.below HBk.out
      have a1 := hx.cell 1
      simp only [List.getElem?_cons_zero, List.getElem?_cons_succ] at a1
      by_cases hlt : k < N
      · have hcond : decide ((k : Int) < n) = true := by have := HNN.out; simp; omega
        by_cases hkq : (k : Int) = q
        · have q1 : ((k : Int) != q) = false := by simp [hkq]
          clear hkq hx
          go_wp2_with fail
          go_quiet (fail)
          go_wp2_with fail
          go_roundw
          case rel => exact ⟨k + 1, by omega, by go_num, below_drewN HBk.out _⟩
          case measure => simp [intOf]; omega
        · have q1 : ((k : Int) != q) = true := by simpa using hkq
          obtain ⟨z, _, hz, _, b2, off2, hob, _, c1⟩ := (HTs.out.below intR_ok HBk.out).int_at (i := k) (by rw [HYN.out]; exact hlt)
          subst hob
          obtain ⟨z2, _, hz2, _, b3, off3, hoc, _, c2⟩ := (HTI.out.below intR_ok HBk.out).int_at (i := k) (by rw [lst_len]; exact hlt)
          subst hoc
          have hzz : z = z2 := by
            rw [lst_get _ hlt] at hz2
            injection hz2 with hz2
            have h1 := HYV.out k hlt (by have := HQN.out; omega)
            rw [getD_some hz] at h1
            rw [h1, hz2]
          subst hzz
          have q2 : (z != z) = false := by simp
          clear hkq hz hz2 hx
          go_wp2_with fail
          go_quiet (fail)
          go_wp2_with fail
          go_roundw
          case rel => exact ⟨k + 1, by omega, by go_num, below_drewN HBk.out _⟩
          case measure => simp [intOf]; omega
      · have hcond : decide ((k : Int) < n) = false := by have := HNN.out; simp; omega
        go_wp2_with fail
        refine (awake55_any _).mono ?_
        rintro e WF ⟨rfl, hbF⟩
        have HLO := hide (HC.out.low.trans ((HBk.out.trans (hbF.mono HBk.out.size)).mono HC.out.low.size))
        clear hbF
        go_wp2_with fail
        go_ret
        exact ⟨rfl, HLO.out⟩

end Go.Proofs.YtnigfddanoaonaaGreat

set_option linter.unusedVariables false
namespace Go.Proofs.YtnigfddanoaonaaGreat
open Go.RowKit Go.ChangeShapes Go.WideShapes Go.ChangeAt Go.Deep

set_option maxRecDepth 100000 in
theorem networkTopples_lifted (os : Os) (started : os.Started) (H : Type) (enc : TypeId × Value → H) :
    ReturnsInHanded {} Tryz.checked os 8 .any (Rows.networkTopplesSpec.pre6 enc Tryz.prog Tryz.f8 Rows.networkTopplesRow.domain false) (Rows.networkTopplesSpec.post enc Tryz.prog Tryz.f8 false true false false) := by
  refine returnsInHanded_of_change (C := Tryz.checked) own_knob started (by kernel_rfl) Tryz.func8
    (ChangeSpec.witness6 (enc := enc) (C := Tryz.checked) false ⟨#[], #[.agg #[.int .i64 0, .slice none 0 0], .int .i64 0, .agg #[.slice none 0 0, .slice none 0 0]], []⟩ 8 (by kernel_rfl) (by kernel_rfl) (by kernel_rfl) (by kernel_rfl)) ?_
  intro W base args ds gs before hval0 hW _ _
  have hval : ∀ (j : Nat) t v, Tryz.f8.params[j]? = some t → args[j]? = some v → Value.okWide Tryz.prog W .any base t v := hval0
  have hW' := hW
  obtain ⟨p, q, hA0, hV, rfl, _, _⟩ := hW
  have hA : DataW.TrodAll enc Tryz.prog W 0 (fun _ => true) true Tryz.f8.params.toList args.toList ds p := hA0
  rw [Tryz.params8] at hA hval
  obtain ⟨v0, v1, v2, d0, d1, d2, p0, p1, p2, rfl, rfl, rfl, h0, h1, h2⟩ := trodAll_three hA
  obtain ⟨rfl, rfl⟩ := trodVars_none hV
  have h0k := h0
  have h1k := h1
  have h2k := h2
  obtain ⟨n0, es0, oe0, c0, rfl, hc0, hl0, he0⟩ := open_graph (hval 0 43 v0 rfl rfl) h0
  obtain ⟨n1, rfl, in1⟩ := open_i64 (hval 1 3 v1 rfl rfl) h1
  obtain ⟨d2x, od2, cd2, pk2, op2, cp2, rfl, hdc2, hdl2, hd2, hpc2, hpl2, hp2⟩ := open_pile (hval 2 69 v2 rfl rfl) h2
  clear hA0 hval0
  simp only [List.append_nil] at hW'
  have hlt0 : ∀ y ∈ p0, y.block < W.heap.size := fun y hy => by simpa using hW'.lt y (by simp [hy])
  have hlt1 : ∀ y ∈ p1, y.block < W.heap.size := fun y hy => by simpa using hW'.lt y (by simp [hy])
  have hlt2 : ∀ y ∈ p2, y.block < W.heap.size := fun y hy => by simpa using hW'.lt y (by simp [hy])
  refine (topples_walk W n0 es0 oe0 c0 hc0 hl0 he0 n1 in1 d2x od2 cd2 pk2 op2 cp2 hdc2 hdl2 hd2 hpc2 hpl2 hp2).mono fun e W' ⟨he, hn⟩ => ?_
  subst he
  exact ⟨_, rfl, _, _, _, [], _, [], hW', trodAll_mk1 (shut_bool Tryz.underlying4 true), trodAll_mk3 (Below.trod laid_out (by kernel_rfl) (of_decide_eq_true (by kernel_rfl)) h0k hn hlt0) (Below.trod laid_out (by kernel_rfl) (of_decide_eq_true (by kernel_rfl)) h1k hn hlt1) (Below.trod laid_out (by kernel_rfl) (of_decide_eq_true (by kernel_rfl)) h2k hn hlt2), rfl, hn.frame _, fun h => by cases h⟩

theorem networkTopples_holds : Rows.NetworkTopplesSaid :=
  OpenClaim.holds_of_wide 8 Tryz.f8 rfl rfl rfl rfl rfl rfl rfl ⟨rfl, rfl, rfl, rfl, rfl⟩ rfl rfl rfl rfl rfl (by kernel_rfl) Tryz.func8 (by kernel_rfl)
    (of_decide_eq_true (by kernel_rfl)) (by unfold Func.isWrapper; first | (rw [if_pos (by decide +kernel)]; kernel_rfl) | (rw [if_neg (by decide +kernel)]; exact ⟨rfl, rfl⟩))
    (fun os started H enc _ => networkTopples_lifted os started H enc)

#print axioms networkTopples_holds
end Go.Proofs.YtnigfddanoaonaaGreat

/-
  NetworkRouters returns true for every ribbon graph, rotors, chips and network: Router gives the network or the error of the reference; equal networks are the same, and others are not. No condition.
  The walk of NetworkRouters (printed by mkRouters.py).
  The guard of the statements on networks: small.
  A game in memory; ref17.Few, ref17.Small; sandpilelaw45.small.
  Two networks: Same of chapter 55.
  network.Same: whether two networks are equal.
  network.Same: slices.EqualFunc at four types with the closures (printed by mkSame.py).
  Two processors: sameProcessors of chapter 55.
  ref55.Router (printed by mkRefRout.py).
  ref55.toppler (printed by mkRefTop.py).
  The reference's sandpile as a network: sink, chips.
  ref17.In, ref17.Check, ref45.chips, ref45.Given; ref17.Few, ref17.Small, ref45.FewChips.
  The examples of the chapter on networks.
  Two lists of ints, two tables: SameInts of chapter 08, SameTables of chapter 55.
  Networks at the triangle of the examples: numbers; slices.Equal of two moves.
-/
import Derived.Test.YtnigfddanoaonaaGreatNt5
import Derived.Test.YtnigfddanoaonaaGreatProg
import Derived.Deep.QuietTactic
import Derived.BigQuiet
import Derived.Deep.LoopGhost
import Derived.Deep.DeepCutAuto
import Derived.StillTailTactics
import Derived.Deep.RegionHeld3
import Derived.Test.YtnigfddanoaonaaGreatRows

set_option linter.unusedVariables false
set_option linter.unusedSimpArgs false
namespace Go.Proofs.YtnigfddanoaonaaGreat
open Go.RowKit

def triN : Nwk := ⟨[sinkP, topP [⟨0, 0⟩, ⟨2, 0⟩], topP [⟨0, 0⟩, ⟨1, 0⟩]], [0, 0, 0], [[0], [2], [1]]⟩
def triM : Nwk := ⟨triN.procs, [0, 1, 0], [[0], [0], [0]]⟩
def triZ : Nwk := ⟨[sinkP, turnP [0, 2], turnP [0, 1]], [0, 0, 0], [[0], [1], [0]]⟩
theorem tn_sand : sandR 3 triE (forest triE) 0 [0, 2, 1] = (triN, 0) := by decide +kernel
theorem tn_ok : netErr triN = 0 := by decide +kernel
theorem tn_moves : movesS triN.waiting = [(1, 0), (2, 0)] := by decide +kernel
theorem tn_run : runX [0] 100 0 triN (triN.procs.map fun p => List.replicate p.letters.toNat (0 : Int)) = some (triM, [[2], [3], [2]]) := by decide +kernel
theorem tn_nab : nabR triN = (true, 0) := by decide +kernel
theorem tn_c1 : compR triN [[2], [3], [2]] = (true, 0) := by decide +kernel
theorem tn_c2 : compR triN [[4], [4], [3]] = (true, 0) := by decide +kernel
theorem tn_c3 : compR triN [[2], [2], [1]] = (false, 0) := by decide +kernel
theorem tn_rout : routR 3 triE (forest triE) triA 0 [0, 0, 0] [0, 1, 0] = (triZ, 0) := by decide +kernel
theorem tz_ok : netErr triZ = 0 := by decide +kernel
theorem tz_run : (runX [3] 100 0 triZ (triZ.procs.map fun p => List.replicate p.letters.toNat (0 : Int))).map (fun r => r.1.state) = some [0, 0, 1] := by decide +kernel

theorem neq_mvC1 (w : World) : (binOp .neq 80 (.agg #[.int .i64 1, .int .i64 0]) (.agg #[.int .i64 1, .int .i64 0])).run Tryz.prog w = .ok (.bool false) w := by kernel_rfl
theorem neq_mvC2 (w : World) : (binOp .neq 80 (.agg #[.int .i64 2, .int .i64 0]) (.agg #[.int .i64 2, .int .i64 0])).run Tryz.prog w = .ok (.bool false) w := by kernel_rfl
theorem neqGuard_mv (op : BinOp) (a b : Operand) (x y : Array Value) (w : World) : (eqGuard op 80 a b (.agg x) (.agg y)).run Tryz.prog w = .ok () w :=
  run_eqGuard_agg w op 80 a b x y (by kernel_rfl)
set_option maxHeartbeats 1000000 in
theorem eqMv2_any (oa ob : Option Addr) (c d : Nat) (F G : Foot) (w : World) (hs : SliceR mvR 2 F w oa [(1, 0), (2, 0)]) (ht : SliceR mvR 2 G w ob [(1, 0), (2, 0)]) :
    Calls Tryz.prog 41 #[.slice oa 2 c, .slice ob 2 d] w fun e w' => e = .returned (.bool true) ∧ Below w.heap.size w w' := by
  go_enter Tryz.func41, Tryz.ntmps41
  go_wp2_with fail
  go_loopw [13] (fun i wr => ∃ k : Nat, k ≤ 2 ∧ i = .int .i64 k ∧ Below w.heap.size w wr) (fun i _ => 2 - (intOf i).toNat)
  case atStart => exact ⟨0, by omega, rfl, Below.refl _ _⟩
  case round =>
    obtain ⟨k, hk, rfl, hb⟩ := hrel
    have q1 := neqGuard_mv
    have q2 := neq_mvC1
    have q3 := neq_mvC2
    by_cases hlt : k < 2
    · obtain ⟨a, b, hg, b1, off1, rfl, _, c0, c1⟩ := (hs.below mvR_ok hb).mv_at (i := k) hlt
      obtain ⟨a', b', hg', b2, off2, rfl, _, e0, e1⟩ := (ht.below mvR_ok hb).mv_at (i := k) hlt
      have HB := hide hb
      rcases (by omega : k = 0 ∨ k = 1) with rfl | rfl
      · simp at hg hg'
        obtain ⟨rfl, rfl⟩ := hg
        obtain ⟨rfl, rfl⟩ := hg'
        simp at c0 c1 e0 e1
        clear hs ht hb
        go_wp2_with fail
        go_quiet (fail)
        go_wp2_with fail
        go_roundw
        case rel => exact ⟨1, by omega, by go_num, below_drewN HB.out _⟩
        case measure => simp [intOf]
      · simp at hg hg'
        obtain ⟨rfl, rfl⟩ := hg
        obtain ⟨rfl, rfl⟩ := hg'
        simp at c0 c1 e0 e1
        clear hs ht hb
        go_wp2_with fail
        go_quiet (fail)
        go_wp2_with fail
        go_roundw
        case rel => exact ⟨2, by omega, by go_num, below_drewN HB.out _⟩
        case measure => simp [intOf]
    · have hk2 : k = 2 := by omega
      subst hk2
      go_wp2_with fail
      go_ret
      exact ⟨rfl, hb⟩

end Go.Proofs.YtnigfddanoaonaaGreat

set_option linter.unusedVariables false
namespace Go.Proofs.YtnigfddanoaonaaGreat
open Go.RowKit

def QuietB (b : Bool) (w : World) (e : Ending) (w' : World) : Prop := e = .returned (.bool b) ∧ ∃ m, w' = w.drewN m
theorem QuietB.below {b : Bool} {w : World} {e : Ending} {w' : World} (h : QuietB b w e w') : e = .returned (.bool b) ∧ Below w.heap.size w w' := by
  obtain ⟨rfl, m, rfl⟩ := h
  exact ⟨rfl, below_drewN (Below.refl _ _) _⟩
theorem drawn_more {w wr : World} (h : Hid (∃ n, wr = w.drewN n)) (k : Nat) : ∃ n, wr.drewN k = w.drewN n := by
  obtain ⟨n, rfl⟩ := h.out
  exact ⟨n + k, by rw [World.drewN_drewN]⟩
theorem drawn_slice {α : Type} {R : Rep α} {sz : Nat} {F : Foot} {oa : Option Addr} {xs : List α} {w wr : World} (h : Hid (∃ n, wr = w.drewN n)) (ok : RepOk R sz) (hs : SliceR R sz F w oa xs) : SliceR R sz F wr oa xs := by
  obtain ⟨n, rfl⟩ := h.out
  exact hs.drewN ok n
theorem tabR_ok : RepOk (slcR intR 1) 1 := slcR_ok intR_ok (by omega)

set_option maxHeartbeats 400000 in
theorem sameInts08_any (l m : List Int) (oa ob : Option Addr) (c d : Nat) (F G : Foot) (w : World) (hs : SliceR intR 1 F w oa l) (ht : SliceR intR 1 G w ob m) (hc2 : l.length ≤ 9223372036854775807) :
    Calls Tryz.prog 47 #[.slice oa l.length c, .slice ob m.length d] w (QuietB (decide (l = m)) w) := by
  by_cases hlen : l.length = m.length
  case neg =>
    have hl' : ((l.length : Int) != m.length) = true := by simp; omega
    have HL : Hid (decide (l = m) = false) := decide_eq_false fun h => hlen (by rw [h])
    clear hlen
    go_enter Tryz.func47, Tryz.ntmps47
    go_wp2_with fail
    go_ret; exact ⟨ret_bool HL.out.symm, 0, rfl⟩
  have hl' : ((l.length : Int) != m.length) = false := by simp [hlen]
  have HL := hide hlen
  clear hlen
  go_enter Tryz.func47, Tryz.ntmps47
  go_wp2_with fail
  go_loopw [5] (fun i wr => ∃ k : Nat, k ≤ l.length ∧ i = .int .i64 k ∧ Hid (l = m ↔ l.drop k = m.drop k) ∧ Hid (∃ n, wr = w.drewN n)) (fun i _ => l.length - (intOf i).toNat)
  case atStart => exact ⟨0, by omega, rfl, Iff.rfl, 0, rfl⟩
  case round =>
    obtain ⟨k, hk, rfl, HE, HW⟩ := hrel
    by_cases hlt : k < l.length
    · obtain ⟨x, hd, _, _, b, off, rfl, _, c0⟩ := (drawn_slice HW intR_ok hs).int_at hlt
      have hlt2 : k < m.length := by rw [← HL.out]; exact hlt
      obtain ⟨x', hd', _, _, b', off', rfl, _, c0'⟩ := (drawn_slice HW intR_ok ht).int_at hlt2
      have HD := hide hd
      have HD' := hide hd'
      clear hd hd' hs ht
      by_cases hx : x = x'
      · obtain rfl := hx
        go_wp2_with fail
        go_quiet (fail)
        go_wp2_with fail
        go_roundw
        case rel =>
          refine ⟨k + 1, by omega, by go_num, ?_, drawn_more HW nq⟩
          show _ ↔ _
          rw [HE.out, HD.out, HD'.out]; simp
        case measure => simp [intOf]; omega
      · have hne : (x != x') = true := by simp [hx]
        have HX := hide hx
        clear hx
        go_wp2_with fail
        go_quiet (fail)
        go_wp2_with fail
        go_ret
        refine ⟨ret_bool ?_, drawn_more HW nq⟩
        symm
        refine decide_eq_false fun h => HX.out ?_
        have h2 := HE.out.1 h
        rw [HD.out, HD'.out] at h2
        simp at h2
        exact h2.1
    · go_wp2_with fail
      go_ret
      refine ⟨ret_bool ?_, HW.out⟩
      symm
      refine decide_eq_true (HE.out.2 ?_)
      rw [List.drop_eq_nil_of_le (by omega), List.drop_eq_nil_of_le (by have := HL.out; omega)]

set_option maxHeartbeats 400000 in
theorem sameTables_any (l m : List (List Int)) (oa ob : Option Addr) (c d : Nat) (F G : Foot) (w : World) (hs : SliceR (slcR intR 1) 1 F w oa l) (ht : SliceR (slcR intR 1) 1 G w ob m) (hc2 : l.length ≤ 9223372036854775807) :
    Calls Tryz.prog 15 #[.slice oa l.length c, .slice ob m.length d] w (QuietB (decide (l = m)) w) := by
  by_cases hlen : l.length = m.length
  case neg =>
    have hl' : ((l.length : Int) != m.length) = true := by simp; omega
    have HL : Hid (decide (l = m) = false) := decide_eq_false fun h => hlen (by rw [h])
    clear hlen
    go_enter Tryz.func15, Tryz.ntmps15
    go_wp2_with fail
    go_ret; exact ⟨ret_bool HL.out.symm, 0, rfl⟩
  have hl' : ((l.length : Int) != m.length) = false := by simp [hlen]
  have HL := hide hlen
  clear hlen
  go_enter Tryz.func15, Tryz.ntmps15
  go_wp2_with fail
  go_loopw [5] (fun i wr => ∃ k : Nat, k ≤ l.length ∧ i = .int .i64 k ∧ Hid (l = m ↔ l.drop k = m.drop k) ∧ Hid (∃ n, wr = w.drewN n)) (fun i _ => l.length - (intOf i).toNat)
  case atStart => exact ⟨0, by omega, rfl, Iff.rfl, 0, rfl⟩
  case round =>
    obtain ⟨k, hk, rfl, HE, HW⟩ := hrel
    by_cases hlt : k < l.length
    · obtain ⟨x, hd, _, b, off, oa', c', rfl, _, c0, _, hl2, hsx⟩ := (drawn_slice HW tabR_ok hs).slc_at hlt
      have hlt2 : k < m.length := by rw [← HL.out]; exact hlt
      obtain ⟨x', hd', _, b', off', ob', d', rfl, _, c0', _, _, hsx'⟩ := (drawn_slice HW tabR_ok ht).slc_at hlt2
      have HD := hide hd
      have HD' := hide hd'
      have HC : Hid (∀ k, Calls Tryz.prog 47 #[.slice oa' x.length c', .slice ob' x'.length d'] (wr.drewN k) (QuietB (decide (x = x')) (wr.drewN k))) := fun k => sameInts08_any x x' oa' ob' c' d' F G _ (hsx.drewN intR_ok k) (hsx'.drewN intR_ok k) hl2
      clear hd hd' hs ht hsx hsx'
      by_cases hx : x = x'
      · rw [decide_eq_true hx] at HC
        obtain ⟨lx, hlx⟩ : ∃ n, n = x.length := ⟨_, rfl⟩
        obtain ⟨ly, hly⟩ : ∃ n, n = x'.length := ⟨_, rfl⟩
        have HX := hide hx
        rw [← hlx] at c0 HC
        rw [← hly] at c0' HC
        clear hx hlx hly
        go_wp2_with fail
        go_quiet ((go_at_call 47; exact Calls.quiet_of (HC.out _)))
        go_wp2_with fail
        go_roundw
        case rel =>
          refine ⟨k + 1, by omega, by go_num, ?_, drawn_more HW nq⟩
          show _ ↔ _
          rw [HE.out, HD.out, HD'.out, HX.out]; simp
        case measure => simp [intOf]; omega
      · rw [decide_eq_false hx] at HC
        obtain ⟨lx, hlx⟩ : ∃ n, n = x.length := ⟨_, rfl⟩
        obtain ⟨ly, hly⟩ : ∃ n, n = x'.length := ⟨_, rfl⟩
        have HX := hide hx
        rw [← hlx] at c0 HC
        rw [← hly] at c0' HC
        clear hx hlx hly
        go_wp2_with fail
        go_quiet ((go_at_call 47; exact Calls.quiet_of (HC.out _)))
        go_wp2_with fail
        go_ret
        refine ⟨ret_bool ?_, drawn_more HW nq⟩
        symm
        refine decide_eq_false fun h => HX.out ?_
        have h2 := HE.out.1 h
        rw [HD.out, HD'.out] at h2
        simp at h2
        exact h2.1
    · go_wp2_with fail
      go_ret
      refine ⟨ret_bool ?_, HW.out⟩
      symm
      refine decide_eq_true (HE.out.2 ?_)
      rw [List.drop_eq_nil_of_le (by omega), List.drop_eq_nil_of_le (by have := HL.out; omega)]

end Go.Proofs.YtnigfddanoaonaaGreat

set_option linter.unusedVariables false
set_option linter.unusedSimpArgs false
namespace Go.Proofs.YtnigfddanoaonaaGreat
open Go.RowKit

theorem i64n {x : Int} (h : 0 ≤ x ∧ x ≤ 100) : I64 x := by unfold I64; omega
/-- A table of three rows of one number each, as a literal lays it. -/
def tab3W (w : World) (x y z : Int) : World := (((w.alloc (.cells #[.int .i64 x] 3)).alloc (.cells #[.int .i64 y] 3)).alloc (.cells #[.int .i64 z] 3)).alloc (.cells #[.slice (some ⟨w.heap.size, 0, none⟩) 1 1, .slice (some ⟨w.heap.size + 1, 0, none⟩) 1 1, .slice (some ⟨w.heap.size + 1 + 1, 0, none⟩) 1 1] 23)
theorem tab3_lit (w : World) (x y z : Int) (hx : I64 x) (hy : I64 y) (hz : I64 z) : SliceR (slcR intR 1) 1 All (tab3W w x y z) (some ⟨w.heap.size + 1 + 1 + 1, 0, none⟩) [[x], [y], [z]] := by
  have a1 := intlF (F := All) w x hx trivial
  have a2 := intlF (F := All) (w.alloc (.cells #[.int .i64 x] 3)) y hy trivial
  have a3 := intlF (F := All) ((w.alloc (.cells #[.int .i64 x] 3)).alloc (.cells #[.int .i64 y] 3)) z hz trivial
  simp only [World.size_alloc] at a1 a2 a3
  have b1 := (a1.below intR_ok (bnew (Below.refl _ _) (.cells #[.int .i64 y] 3))).below intR_ok (bnew (Below.refl _ _) (.cells #[.int .i64 z] 3))
  have b2 := a2.below intR_ok (bnew (Below.refl _ _) (.cells #[.int .i64 z] 3))
  have := SliceR.lit (F := All) (G := All) (slcR_ok intR_ok (by decide)) (((w.alloc (.cells #[.int .i64 x] 3)).alloc (.cells #[.int .i64 y] 3)).alloc (.cells #[.int .i64 z] 3)) 23
    [[.slice (some ⟨w.heap.size, 0, none⟩) 1 1], [.slice (some ⟨w.heap.size + 1, 0, none⟩) 1 1], [.slice (some ⟨w.heap.size + 1 + 1, 0, none⟩) 1 1]] [[x], [y], [z]] (fun i q hq => by
      match i, hq with
      | 0, hq => simp at hq; subst hq; exact ⟨_, rfl, _, _, rfl, by simp, by simp, b1⟩
      | 1, hq => simp at hq; subst hq; exact ⟨_, rfl, _, _, rfl, by simp, by simp, b2⟩
      | 2, hq => simp at hq; subst hq; exact ⟨_, rfl, _, _, rfl, by simp, by simp, a3⟩
      | i + 3, hq => simp at hq) rfl (fun _ h => h) trivial
  unfold tab3W
  simpa using this
theorem tab3_below (w : World) (x y z : Int) : Below w.heap.size w (tab3W w x y z) := bnew (bnew (bnew (bnew (Below.refl _ _) _) _) _) _
def NxAt (W : World) (oq os ow : Option Addr) (x : Nwk) : Prop := SliceR prcR 3 All W oq x.procs ∧ SliceR intR 1 All W os x.state ∧ SliceR (slcR intR 1) 1 All W ow x.waiting
theorem NxAt.below {W W' : World} {oq os ow : Option Addr} {x : Nwk} (h : NxAt W oq os ow x) (hb : Below W.heap.size W W') : NxAt W' oq os ow x := ⟨h.1.below prcR_ok hb, h.2.1.below intR_ok hb, h.2.2.below (slcR_ok intR_ok (by decide)) hb⟩
def mv2Lit (w : World) : World := w.alloc (.cells #[.int .i64 1, .int .i64 0, .int .i64 2, .int .i64 0] 80)
theorem mv2_lit (w : World) : SliceR mvR 2 All (mv2Lit w) (some ⟨w.heap.size, 0, none⟩) [(1, 0), (2, 0)] :=
  SliceR.lit (F := All) mvR_ok w 80 [[.int .i64 1, .int .i64 0], [.int .i64 2, .int .i64 0]] _ (fun i q hq => by
    match i, hq with
    | 0, hq => simp at hq; subst hq; exact ⟨_, rfl, rfl⟩
    | 1, hq => simp at hq; subst hq; exact ⟨_, rfl, rfl⟩
    | i + 2, hq => simp at hq) rfl (fun _ h => h) trivial
/-- Run at three rows' counts. -/
theorem tri_few : ∀ t ∈ triN.waiting, ∀ k ∈ t, k ≤ 40 := by decide
theorem triZ_few : ∀ t ∈ triZ.waiting, ∀ k ∈ t, k ≤ 40 := by decide

set_option maxRecDepth 100000 in
set_option maxHeartbeats 8000000 in
theorem awake55_any (w : World) : Calls Tryz.prog 12 #[] w fun e w' => e = .returned (.bool true) ∧ Below w.heap.size w w' := by
  have hU : Hid (gErr 3 triE = 0 → Uf (forest triE) (eL triE)) := forest_ok 3 triE
  go_enter Tryz.func12, Tryz.ntmps12
  go_wp2_with (first
    | (go_at_call 39; refine (tri18_any _).mono ?_; rintro e w2 ⟨g, rfl, hE, hb2⟩; have HE := hide hE; have HB2 := hide hb2; clear hE hb2)
    | (go_at_call 19; refine (nsand_any 3 triE _ 3 (Ge w.heap.size) _ (HE.out.below edgR_ok (bnew (Below.refl _ _) _)) (by decide) (by decide) (forest triE) hU 0 [0, 2, 1] (some ⟨w2.heap.size, 0, none⟩) 3 All (by have h := ints_lit (F := All) (G := All) w2 3 [0, 2, 1] (by intro x hx; simp at hx; rcases hx with rfl | rfl | rfl <;> exact i64n (by decide)) trivial; simpa using h) (by decide) (by decide)).mono ?_
       rw [tn_sand]
       rintro e w4 ⟨v, rfl, ⟨oq, cq, os, cs, ow, cw, hv, h1, h2, h3, hp, hs, ht⟩, hb4⟩
       have hv' : v = .agg #[.slice oq 3 cq, .slice os 3 cs, .slice ow 3 cw] := hv
       subst hv'
       have HN4 : Hid (NxAt w4 oq os ow triN) := ⟨hp, hs, ht⟩
       have HB4 := hide (HB2.out.trans ((bnew (Below.refl _ _) _).trans (hb4.mono (by rw [alloc_size']; omega)) |>.mono HB2.out.size))
       obtain ⟨W5, e5⟩ : ∃ W5, w4.alloc (.cells #[.slice oq 3 cq, .slice os 3 cs, .slice ow 3 cw] 26) = W5 := ⟨_, rfl⟩
       have hx5 : Box W5 w4.heap.size [.slice oq 3 cq, .slice os 3 cs, .slice ow 3 cw] 26 := (by rw [← e5]; exact Box.new w4 [.slice oq 3 cq, .slice os 3 cs, .slice ow 3 cw] 26)
       have hb5 : Below w4.heap.size w4 W5 := (by rw [← e5]; exact bnew (Below.refl _ _) _)
       have HN5 := hide (HN4.out.below hb5)
       have HB5 := hide (HB4.out.trans (hb5.mono HB4.out.size))
       have HX5 := hide hx5
       have k0 := hx5.cell 0
       have k1 := hx5.cell 1
       have k2 := hx5.cell 2
       simp only [List.getElem?_cons_zero, List.getElem?_cons_succ] at k0 k1 k2
       clear hv h1 h2 h3 hp hs ht hb4 hx5 hb5)
    | (go_at_call 40; refine (nmv_any triN oq cq os cs ow cw All W5 HN5.out.1 HN5.out.2.1 HN5.out.2.2 tn_ok).mono ?_
       rw [tn_moves]
       rintro e w6 ⟨v6, rfl, h6, hb6⟩
       obtain ⟨o6, c6, hv6, _, hs6⟩ := h6.slice mvR_ok
       have hv6' : v6 = .slice o6 2 c6 := hv6
       subst hv6'
       have HM6 : Hid (SliceR mvR 2 All w6 o6 [(1, 0), (2, 0)]) := hs6.all mvR_ok (by decide)
       have HN6 := hide (HN5.out.below hb6)
       have HB6 := hide (HB5.out.trans (hb6.mono HB5.out.size))
       have hx6 := HX5.out.below hb6
       have HX6 := hide hx6
       have k0 := hx6.cell 0
       have k1 := hx6.cell 1
       have k2 := hx6.cell 2
       simp only [List.getElem?_cons_zero, List.getElem?_cons_succ] at k0 k1 k2
       clear h6 hv6 hs6 hb6 hx6)
    | (go_at_call 13; first
       | (refine (nrun_any triN oq cq os cs ow cw [0] (some ⟨w6.heap.size, 0, none⟩) 1 100 All (w6.alloc (.cells #[.int .i64 0] 3)) (HN6.out.below (bnew (Below.refl _ _) _)).1 (HN6.out.below (bnew (Below.refl _ _) _)).2.1 (HN6.out.below (bnew (Below.refl _ _) _)).2.2 tn_ok (intlF w6 0 (i64n (by decide)) trivial) (by decide) (by decide) (by decide) tri_few).mono ?_
          rw [tn_run]
          rintro e w8 ⟨v, oc, cc, rfl, ⟨oq2, cq2, os2, cs2, ow2, cw2, hv, h1, h2, h3, hp, hs, ht⟩, hcc, hct, hb8⟩
          have hv' : v = .agg #[.slice oq2 3 cq2, .slice os2 3 cs2, .slice ow2 3 cw2] := hv
          subst hv'
          have hbb : Below w6.heap.size w6 w8 := (bnew (Below.refl _ _) _).trans (hb8.mono (by rw [alloc_size']; omega))
          have HS8 : Hid (SliceR intR 1 All w8 os2 [0, 1, 0]) := hs
          have HCT8 : Hid (SliceR (slcR intR 1) 1 All w8 oc [[2], [3], [2]]) := hct
          have HC8 : Hid (3 ≤ cc) := hcc
          have HCS2 : Hid (3 ≤ cs2) := h2
          obtain ⟨W9, e9⟩ : ∃ W9, w8.alloc (.cells #[.slice oq2 3 cq2, .slice os2 3 cs2, .slice ow2 3 cw2] 26) = W9 := ⟨_, rfl⟩
          have hx9 : Box W9 w8.heap.size [.slice oq2 3 cq2, .slice os2 3 cs2, .slice ow2 3 cw2] 26 := (by rw [← e9]; exact Box.new w8 [.slice oq2 3 cq2, .slice os2 3 cs2, .slice ow2 3 cw2] 26)
          have hb9 : Below w8.heap.size w8 W9 := (by rw [← e9]; exact bnew (Below.refl _ _) _)
          have hb69 : Below w6.heap.size w6 W9 := hbb.trans (hb9.mono hbb.size)
          have HS9 := hide (HS8.out.below intR_ok hb9)
          have HCT9 := hide (HCT8.out.below (slcR_ok intR_ok (by decide)) hb9)
          have HM9 := hide (HM6.out.below mvR_ok hb69)
          have HN9 := hide (HN6.out.below hb69)
          have HB9 := hide (HB6.out.trans (hb69.mono HB6.out.size))
          have hx1 := HX6.out.below hb69
          have HX9 := hide hx1
          have HY9 := hide hx9
          have k0 := hx1.cell 0
          have k1 := hx1.cell 1
          have k2 := hx1.cell 2
          have l1 := hx9.cell 1
          simp only [List.getElem?_cons_zero, List.getElem?_cons_succ] at k0 k1 k2 l1
          clear hv h1 h2 h3 hp hs ht hb8 hx9 hb9 hbb hb69 hx1 hct hcc))
    | (go_at_call 41; refine (eqMv2_any o6 (some ⟨W9.heap.size, 0, none⟩) c6 2 All All (mv2Lit W9) (HM9.out.below mvR_ok (bnew (Below.refl _ _) _)) (mv2_lit W9)).mono ?_
       rintro e w10 ⟨rfl, hb10⟩
       have hb : Below W9.heap.size W9 w10 := (bnew (Below.refl _ _) _).trans (hb10.mono (by unfold mv2Lit; rw [alloc_size']; omega))
       have hy := HY9.out.below hb
       have l1 := hy.cell 1
       simp only [List.getElem?_cons_zero, List.getElem?_cons_succ] at l1
       have HB10 := hide hb
       clear hb10 hb hy))
  -- the state
  refine (equalInt_any [0, 1, 0] [0, 1, 0] os2 (some ⟨w10.heap.size, 0, none⟩) cs2 3 All _ ((HS9.out.below intR_ok HB10.out).below intR_ok (bnew (Below.refl _ _) _)) (by have h := ints_lit (F := All) (G := All) w10 3 [0, 1, 0] (by intro x hx; simp at hx; rcases hx with rfl | rfl | rfl <;> exact i64n (by decide)) trivial; simpa using h) HCS2.out (by decide)).mono ?_
  rintro e w11 ⟨rfl, hb11⟩
  have hb9_11 : Below W9.heap.size W9 w11 := HB10.out.trans (((bnew (Below.refl _ _) _).trans (hb11.mono (by rw [alloc_size']; omega))).mono HB10.out.size)
  have HB11 := hide hb9_11
  rw [show decide (([0, 1, 0] : List Int) = [0, 1, 0]) = true from rfl]
  clear hb11 hb9_11
  go_wp2_with fail
  refine (sameTables_any [[2], [3], [2]] [[2], [3], [2]] oc (some ⟨w11.heap.size + 1 + 1 + 1, 0, none⟩) cc 3 All All (tab3W w11 2 3 2) ((HCT9.out.below (slcR_ok intR_ok (by decide)) HB11.out).below (slcR_ok intR_ok (by decide)) (tab3_below _ _ _ _)) (tab3_lit w11 2 3 2 (i64n (by decide)) (i64n (by decide)) (i64n (by decide))) (by decide)).mono ?_
  rintro e w12 hq
  obtain ⟨rfl, hb12⟩ := hq.below
  have hb9_12 : Below W9.heap.size W9 w12 := HB11.out.trans (((tab3_below w11 2 3 2).trans (hb12.mono (tab3_below w11 2 3 2).size)).mono HB11.out.size)
  rw [show decide (([[2], [3], [2]] : List (List Int)) = [[2], [3], [2]]) = true from rfl]
  have HB12 := hide hb9_12
  have hx1 := HX9.out.below hb9_12
  have k0 := hx1.cell 0
  have k1 := hx1.cell 1
  have k2 := hx1.cell 2
  simp only [List.getElem?_cons_zero, List.getElem?_cons_succ] at k0 k1 k2
  clear hb12 hb9_12 hq hx1
  go_wp2_with fail
  -- Complete, three times
  have HN12 := hide (HN9.out.below HB12.out)
  refine (ncomplete_any triN oq cq os cs ow cw All w12 HN12.out.1 (by decide) HN12.out.2.1 (by decide) HN12.out.2.2 (by decide) [[2], [3], [2]] oc cc All (HCT9.out.below (slcR_ok intR_ok (by decide)) HB12.out) HC8.out (by decide)).mono ?_
  rw [tn_c1]
  rintro e w13 ⟨rfl, hb13⟩
  have HB13 := hide (HB12.out.trans (hb13.mono HB12.out.size))
  have HN13 := hide (HN12.out.below hb13)
  have hx1 := HX9.out.below HB13.out
  have k0 := hx1.cell 0
  have k1 := hx1.cell 1
  have k2 := hx1.cell 2
  simp only [List.getElem?_cons_zero, List.getElem?_cons_succ] at k0 k1 k2
  clear hb13 hx1
  go_wp2_with fail
  refine (ncomplete_any triN oq cq os cs ow cw All (tab3W w13 4 4 3) (HN13.out.below (tab3_below _ _ _ _)).1 (by decide) (HN13.out.below (tab3_below _ _ _ _)).2.1 (by decide) (HN13.out.below (tab3_below _ _ _ _)).2.2 (by decide) [[4], [4], [3]] (some ⟨w13.heap.size + 1 + 1 + 1, 0, none⟩) 3 All (tab3_lit w13 4 4 3 (i64n (by decide)) (i64n (by decide)) (i64n (by decide))) (by decide) (by decide)).mono ?_
  rw [tn_c2]
  rintro e w14 ⟨rfl, hb14⟩
  have hb1314 : Below w13.heap.size w13 w14 := (tab3_below w13 4 4 3).trans (hb14.mono (tab3_below w13 4 4 3).size)
  have HB14 := hide (HB13.out.trans (hb1314.mono HB13.out.size))
  have HN14 := hide (HN13.out.below hb1314)
  have hx1 := HX9.out.below HB14.out
  have k0 := hx1.cell 0
  have k1 := hx1.cell 1
  have k2 := hx1.cell 2
  simp only [List.getElem?_cons_zero, List.getElem?_cons_succ] at k0 k1 k2
  clear hb14 hb1314 hx1
  go_wp2_with fail
  refine (ncomplete_any triN oq cq os cs ow cw All (tab3W w14 2 2 1) (HN14.out.below (tab3_below _ _ _ _)).1 (by decide) (HN14.out.below (tab3_below _ _ _ _)).2.1 (by decide) (HN14.out.below (tab3_below _ _ _ _)).2.2 (by decide) [[2], [2], [1]] (some ⟨w14.heap.size + 1 + 1 + 1, 0, none⟩) 3 All (tab3_lit w14 2 2 1 (i64n (by decide)) (i64n (by decide)) (i64n (by decide))) (by decide) (by decide)).mono ?_
  rw [tn_c3]
  rintro e w15 ⟨rfl, hb15⟩
  have hb1415 : Below w14.heap.size w14 w15 := (tab3_below w14 2 2 1).trans (hb15.mono (tab3_below w14 2 2 1).size)
  have HB15 := hide (HB14.out.trans (hb1415.mono HB14.out.size))
  have HN15 := hide (HN14.out.below hb1415)
  have hx1 := HX9.out.below HB15.out
  have k0 := hx1.cell 0
  have k1 := hx1.cell 1
  have k2 := hx1.cell 2
  simp only [List.getElem?_cons_zero, List.getElem?_cons_succ] at k0 k1 k2
  clear hb15 hb1415 hx1
  go_wp2_with fail
  refine (nabelian_any triN oq cq os cs ow cw All w15 HN15.out.1 (by decide) HN15.out.2.1 (by decide) HN15.out.2.2 (by decide)).mono ?_
  rw [tn_nab]
  rintro e w16 ⟨rfl, hb16⟩
  have HB16 := hide (HB9.out.trans ((HB15.out.trans (hb16.mono HB15.out.size)).mono HB9.out.size))
  clear hb16 k0 k1 k2
  go_wp2_with fail
  -- the rotors
  refine (tri45_any w16).mono ?_
  rintro e w17 ⟨g2, h2, rfl, hE2, hA2, hb17⟩
  have HE2 := hide hE2
  have HA2 := hide hA2
  have HB17 := hide (HB16.out.trans (hb17.mono HB16.out.size))
  clear hE2 hA2 hb17
  go_wp2_with fail
  have hz1 : SliceR intR 1 All ((w17.alloc (.cells #[.int .i64 0, .int .i64 0, .int .i64 0] 3)).alloc (.cells #[.int .i64 0, .int .i64 1, .int .i64 0] 3)) (some ⟨w17.heap.size, 0, none⟩) [0, 0, 0] := by
    have h := ints_lit (F := All) (G := All) w17 3 [0, 0, 0] (by intro x hx; simp at hx; subst hx; exact i64n (by decide)) trivial
    simp only [List.map_cons, List.map_nil] at h
    exact h.below intR_ok (bnew (Below.refl _ _) _)
  have hz2 : SliceR intR 1 All ((w17.alloc (.cells #[.int .i64 0, .int .i64 0, .int .i64 0] 3)).alloc (.cells #[.int .i64 0, .int .i64 1, .int .i64 0] 3)) (some ⟨w17.heap.size + 1, 0, none⟩) [0, 1, 0] := by
    have h := ints_lit (F := All) (G := All) (w17.alloc (.cells #[.int .i64 0, .int .i64 0, .int .i64 0] 3)) 3 [0, 1, 0] (by intro x hx; simp at hx; rcases hx with rfl | rfl | rfl <;> exact i64n (by decide)) trivial
    rw [alloc_size'] at h
    simpa using h
  have hbz : Below w17.heap.size w17 ((w17.alloc (.cells #[.int .i64 0, .int .i64 0, .int .i64 0] 3)).alloc (.cells #[.int .i64 0, .int .i64 1, .int .i64 0] 3)) := bnew (bnew (Below.refl _ _) _) _
  have HBZ := hide hbz
  refine (nrout_any 3 triE (some ⟨g2, 0, none⟩) 3 triA (some ⟨h2, 0, none⟩) 3 All All _ (HE2.out.below edgR_ok hbz) (by decide) (by decide) (HA2.out.below (slcR_ok intR_ok (by decide)) hbz) (by decide) (by decide) (forest triE) hU 0 [0, 0, 0] (some ⟨w17.heap.size, 0, none⟩) 3 All hz1 (by decide) (by decide) [0, 1, 0] (some ⟨w17.heap.size + 1, 0, none⟩) 3 All hz2 (by decide) (by decide)).mono ?_
  rw [tn_rout]
  rintro e w18 ⟨v, rfl, ⟨oz, cz, osz, csz, owz, cwz, hv, h1, h2', h3, hp, hs, ht⟩, hb18⟩
  have hv' : v = .agg #[.slice oz 3 cz, .slice osz 3 csz, .slice owz 3 cwz] := hv
  subst hv'
  have HN18 : Hid (NxAt w18 oz osz owz triZ) := ⟨hp, hs, ht⟩
  have HB18 := hide (HB17.out.trans ((HBZ.out.trans (hb18.mono HBZ.out.size)).mono HB17.out.size))
  obtain ⟨W19, e19⟩ : ∃ W19, w18.alloc (.cells #[.slice oz 3 cz, .slice osz 3 csz, .slice owz 3 cwz] 26) = W19 := ⟨_, rfl⟩
  have hx19 : Box W19 w18.heap.size [.slice oz 3 cz, .slice osz 3 csz, .slice owz 3 cwz] 26 := by rw [← e19]; exact Box.new w18 [.slice oz 3 cz, .slice osz 3 csz, .slice owz 3 cwz] 26
  have hb19 : Below w18.heap.size w18 W19 := by rw [← e19]; exact bnew (Below.refl _ _) _
  have HN19 := hide (HN18.out.below hb19)
  have HB19 := hide (HB18.out.trans (hb19.mono HB18.out.size))
  have k0 := hx19.cell 0
  have k1 := hx19.cell 1
  have k2 := hx19.cell 2
  simp only [List.getElem?_cons_zero, List.getElem?_cons_succ] at k0 k1 k2
  clear hv h1 h2' h3 hp hs ht hb18 hz1 hz2 hbz hx19 hb19
  go_wp2_with fail
  have HNR := hide (nrun_any triZ oz cz osz csz owz cwz [3] (some ⟨W19.heap.size, 0, none⟩) 1 100 All (W19.alloc (.cells #[.int .i64 3] 3)) (HN19.out.below (bnew (Below.refl _ _) _)).1 (HN19.out.below (bnew (Below.refl _ _) _)).2.1 (HN19.out.below (bnew (Below.refl _ _) _)).2.2 tz_ok (intlF W19 3 (i64n (by decide)) trivial) (by decide) (by decide) (by decide) triZ_few)
  obtain ⟨r, hr⟩ : ∃ r, r = runX [3] 100 0 triZ (triZ.procs.map fun p => List.replicate p.letters.toNat (0 : Int)) := ⟨_, rfl⟩
  have hst : r.map (fun r => r.1.state) = some [0, 0, 1] := by rw [hr]; exact tz_run
  rw [← hr] at HNR
  obtain ⟨⟨yz, cz2⟩, hrs, hyst⟩ := Option.map_eq_some_iff.1 hst
  rw [hrs] at HNR
  clear hr hst hrs
  refine HNR.out.mono ?_
  rintro e w20 ⟨v, oc2, cc2, rfl, ⟨oq3, cq3, os3, cs3, ow3, cw3, hv, h1, h2', h3, hp, hs, ht⟩, hcc, hct, hb20⟩
  simp only at hyst
  rw [hyst] at hv h2' hs
  have hv' : v = .agg #[.slice oq3 yz.procs.length cq3, .slice os3 3 cs3, .slice ow3 yz.waiting.length cw3] := hv
  subst hv'
  obtain ⟨np, hnp⟩ : ∃ np, np = yz.procs.length := ⟨_, rfl⟩
  obtain ⟨nw, hnw⟩ : ∃ nw, nw = yz.waiting.length := ⟨_, rfl⟩
  obtain ⟨nc, hnc⟩ : ∃ nc, nc = cz2.length := ⟨_, rfl⟩
  rw [← hnp, ← hnw, ← hnc]
  have HS20 := hide hs
  have HCS3 : Hid (3 ≤ cs3) := h2'
  have HB20 := hide (HB19.out.trans (((bnew (Below.refl _ _) _).trans (hb20.mono (by rw [alloc_size']; omega))).mono HB19.out.size))
  obtain ⟨W21, e21⟩ : ∃ W21, w20.alloc (.cells #[.slice oq3 np cq3, .slice os3 3 cs3, .slice ow3 nw cw3] 26) = W21 := ⟨_, rfl⟩
  have hx21 : Box W21 w20.heap.size [.slice oq3 np cq3, .slice os3 3 cs3, .slice ow3 nw cw3] 26 := by rw [← e21]; exact Box.new w20 [.slice oq3 np cq3, .slice os3 3 cs3, .slice ow3 nw cw3] 26
  have hb21 : Below w20.heap.size w20 W21 := by rw [← e21]; exact bnew (Below.refl _ _) _
  have HS21 := hide (HS20.out.below intR_ok hb21)
  have HB21 := hide (HB20.out.trans (hb21.mono HB20.out.size))
  have m1 := hx21.cell 1
  simp only [List.getElem?_cons_zero, List.getElem?_cons_succ] at m1
  clear hv h1 h2' h3 hp hs ht hb20 hct hcc hyst hx21 hb21 hnp hnw hnc k0 k1 k2
  go_wp2_with fail
  refine (equalInt_any [0, 0, 1] [0, 0, 1] os3 (some ⟨W21.heap.size, 0, none⟩) cs3 3 All _ (HS21.out.below intR_ok (bnew (Below.refl _ _) _)) (by have h := ints_lit (F := All) (G := All) W21 3 [0, 0, 1] (by intro x hx; simp at hx; rcases hx with rfl | rfl | rfl <;> exact i64n (by decide)) trivial; simpa using h) HCS3.out (by decide)).mono ?_
  rintro e w22 ⟨rfl, hb22⟩
  have HB22 := hide (HB21.out.trans (((bnew (Below.refl _ _) _).trans (hb22.mono (by rw [alloc_size']; omega))).mono HB21.out.size))
  rw [show decide (([0, 0, 1] : List Int) = [0, 0, 1]) = true from rfl]
  clear hb22
  go_wp2_with fail
  go_ret
  exact ⟨rfl, HB22.out⟩

end Go.Proofs.YtnigfddanoaonaaGreat

set_option linter.unusedVariables false
set_option linter.unusedSimpArgs false
set_option linter.unnecessarySimpa false
namespace Go.Proofs.YtnigfddanoaonaaGreat
open Go.RowKit

theorem rIn_any (k : Int) (w : World) : Calls Tryz.prog 116 #[.int .i64 k] w fun e w' => e = .returned (.bool (inChips k)) ∧ w = w' := by
  by_cases h1 : -1048576 ≤ k
  · by_cases h2 : k ≤ 1048576
    · have HR : Hid (inChips k = true) := by show _ = _; simp [inChips, h1, h2]
      have q1 : decide ((-1048576 : Int) ≤ k) = true := by simp [h1]
      have q2 : decide (k ≤ (1048576 : Int)) = true := by simp [h2]
      clear h1 h2
      go_enter Tryz.func116, Tryz.ntmps116
      go_wp2_with fail
      go_ret
      exact ⟨ret_bool HR.out.symm, rfl⟩
    · have HR : Hid (inChips k = false) := by show _ = _; simp [inChips]; omega
      have q1 : decide ((-1048576 : Int) ≤ k) = true := by simp [h1]
      have q2 : decide (k ≤ (1048576 : Int)) = false := by simp; omega
      clear h1 h2
      go_enter Tryz.func116, Tryz.ntmps116
      go_wp2_with fail
      go_ret
      exact ⟨ret_bool HR.out.symm, rfl⟩
  · have HR : Hid (inChips k = false) := by show _ = _; simp [inChips]; omega
    have q1 : decide ((-1048576 : Int) ≤ k) = false := by simp; omega
    clear h1
    go_enter Tryz.func116, Tryz.ntmps116
    go_wp2_with fail
    go_ret
    exact ⟨ret_bool HR.out.symm, rfl⟩

set_option maxRecDepth 100000 in
set_option maxHeartbeats 2000000 in
theorem rdcheck_any (n : Int) (d : List Int) (od : Option Addr) (cd : Nat) (F : Foot) (w : World) (hd : SliceR intR 1 F w od d) (hc : d.length ≤ cd) (hc2 : d.length ≤ 9223372036854775807) :
    Calls Tryz.prog 82 #[.slice od d.length cd, .int .i64 n] w fun e w' => e = .returned (.int .i64 (dErr n d)) ∧ w = w' := by
  by_cases h1 : 1 ≤ n
  · have q1 : decide (n < (1 : Int)) = false := by simp; omega
    by_cases h3 : n ≤ 12
    · have q2 : decide ((12 : Int) < n) = false := by simp; omega
      by_cases h2 : (d.length : Int) = n
      · have HR : Hid (dErr n d = dScan d) := by show _ = _; unfold dErr; rw [if_pos ⟨h1, h3⟩, if_pos h2]
        have q3 : ((d.length : Int) != n) = false := by simp [h2]
        have hn := hide h2
        clear h1 h3 h2
        go_enter Tryz.func82, Tryz.ntmps82
        go_wp2_with fail
        go_loopw [5] (fun iv wr => ∃ k : Nat, k ≤ d.length ∧ iv = .int .i64 k ∧ Hid (dErr n d = dScan (d.drop k)) ∧ wr = w) (fun iv _ => d.length - (intOf iv).toNat)
        case atStart => exact ⟨0, by omega, rfl, HR, rfl⟩
        case round =>
          obtain ⟨k, hk, rfl, HS, rfl⟩ := hrel
          by_cases hlt : k < d.length
          · have q4 : decide ((k : Int) < n) = true := by have := hn.out; simp; omega
            obtain ⟨x, hdr, _, ix, b, off, hod, _, c0⟩ := hd.int_at hlt
            subst hod
            have HS2 : Hid (dErr n d = if inChips x = true then dScan (d.drop (k + 1)) else 2) := by show _ = _; rw [HS.out, hdr]; rfl
            clear hdr
            by_cases hx : inChips x = true
            · have HS3 : Hid (dErr n d = dScan (d.drop (k + 1))) := by show _ = _; rw [HS2.out, if_pos hx]
              have hI := rIn_any x wr
              rw [hx] at hI
              clear hx
              go_wp2_with fail
              refine hI.mono ?_
              rintro e w3 ⟨rfl, rfl⟩
              go_wp2_with fail
              go_roundw
              case rel => exact ⟨k + 1, by omega, by go_num, HS3, by first | rfl | trivial⟩
              case measure => simp [intOf]; omega
            · have HS3 : Hid (dErr n d = 2) := by show _ = _; rw [HS2.out, if_neg hx]
              have hx2 : inChips x = false := by simpa using hx
              have hI := rIn_any x wr
              rw [hx2] at hI
              clear hx hx2
              go_wp2_with fail
              refine hI.mono ?_
              rintro e w3 ⟨rfl, rfl⟩
              go_wp2_with fail
              go_ret
              exact ⟨ret_int HS3.out.symm, rfl⟩
          · have q4 : decide ((k : Int) < n) = false := by have := hn.out; simp; omega
            have hke : k = d.length := by omega
            have HS3 : Hid (dErr n d = 0) := by show _ = _; rw [HS.out, hke, List.drop_length]; rfl
            clear hke
            go_wp2_with fail
            go_ret
            exact ⟨ret_int HS3.out.symm, rfl⟩
      · have HR : Hid (dErr n d = 8) := by show _ = _; unfold dErr; rw [if_pos ⟨h1, h3⟩, if_neg h2]
        have q3 : ((d.length : Int) != n) = true := by simp [h2]
        clear h1 h3 h2
        go_enter Tryz.func82, Tryz.ntmps82
        go_wp2_with fail
        go_ret
        exact ⟨ret_int HR.out.symm, rfl⟩
    · have HR : Hid (dErr n d = 2) := if_neg (by omega)
      have q2 : decide ((12 : Int) < n) = true := by simp; omega
      clear h1 h3
      go_enter Tryz.func82, Tryz.ntmps82
      go_wp2_with fail
      go_ret
      exact ⟨ret_int HR.out.symm, rfl⟩
  · have HR : Hid (dErr n d = 2) := if_neg (by omega)
    have q1 : decide (n < (1 : Int)) = true := by simp; omega
    clear h1
    go_enter Tryz.func82, Tryz.ntmps82
    go_wp2_with fail
    go_ret
    exact ⟨ret_int HR.out.symm, rfl⟩

/-- The error of the chips alone. -/
def chE (n q : Int) (d : List Int) : Int := if dErr n d = 0 then gScan q 0 d else dErr n d

set_option maxRecDepth 100000 in
set_option maxHeartbeats 2000000 in
theorem rchips_any (n : Int) (oe : Option Addr) (k c : Nat) (oa : Option Addr) (l ca : Nat) (q : Int) (d : List Int) (od : Option Addr) (cd : Nat) (F : Foot) (w : World) (hd : SliceR intR 1 F w od d) (hc : d.length ≤ cd) (hc2 : d.length ≤ 9223372036854775807) :
    Calls Tryz.prog 76 #[.agg #[.int .i64 n, .slice oe k c, .slice oa l ca], .int .i64 q, .slice od d.length cd] w (ErrPost w (chE n q d)) := by
  have hb0 := bnew (Below.refl w.heap.size w) (.cells #[.int .i64 n, .slice oe k c, .slice oa l ca] 52)
  have HK := hide (rdcheck_any n d od cd F _ (hd.below intR_ok hb0) hc hc2)
  have HD := hide (hd.below intR_ok hb0)
  have HB := hide hb0
  clear hb0 hd
  go_enter Tryz.func76, Tryz.ntmps76
  go_wp2_with fail
  refine HK.out.mono ?_
  rintro e w2 ⟨rfl, rfl⟩
  by_cases hE : dErr n d = 0
  · have HG : Hid (chE n q d = gScan q 0 d) := if_pos hE
    rw [hE]
    clear hE
    go_wp2_with fail
    obtain ⟨W1, hW1⟩ : ∃ W1, w.alloc (.cells #[.int .i64 n, .slice oe k c, .slice oa l ca] 52) = W1 := ⟨_, rfl⟩
    rw [hW1] at HD HB ⊢
    clear hW1 HK
    go_loopw [8] (fun iv wr => ∃ k : Nat, k ≤ d.length ∧ iv = .int .i64 k ∧ Hid (chE n q d = gScan q k (d.drop k)) ∧ wr = W1) (fun iv _ => d.length - (intOf iv).toNat)
    case atStart => exact ⟨0, by omega, rfl, HG, rfl⟩
    case round =>
      obtain ⟨k, hk, rfl, HS, rfl⟩ := hrel
      by_cases hlt : k < d.length
      · obtain ⟨x, hdr, _, ix, b, off, hod, _, c0⟩ := HD.out.int_at hlt
        subst hod
        have HS2 : Hid (chE n q d = if (k : Int) ≠ q ∧ x < 0 then 2 else gScan q (k + 1) (d.drop (k + 1))) := by show _ = _; rw [HS.out, hdr]; rfl
        clear hdr
        by_cases hkq : (k : Int) = q
        · have q1 : ((k : Int) != q) = false := by simp [hkq]
          have HS3 : Hid (chE n q d = gScan q (k + 1) (d.drop (k + 1))) := by show _ = _; rw [HS2.out, if_neg (by intro h; exact h.1 hkq)]
          clear hkq
          go_wp2_with fail
          go_roundw
          case rel => exact ⟨k + 1, by omega, by go_num, HS3, by first | rfl | trivial⟩
          case measure => simp [intOf]; omega
        · have q1 : ((k : Int) != q) = true := by simp [hkq]
          by_cases hx : x < 0
          · have q2 : decide (x < 0) = true := by simp [hx]
            have HS3 : Hid (chE n q d = 2) := by show _ = _; rw [HS2.out, if_pos ⟨hkq, hx⟩]
            clear hkq hx
            go_wp2_with fail
            go_ret
            exact ⟨ret_int HS3.out.symm, HB.out⟩
          · have q2 : decide (x < 0) = false := by simp; omega
            have HS3 : Hid (chE n q d = gScan q (k + 1) (d.drop (k + 1))) := by show _ = _; rw [HS2.out, if_neg (by intro h; exact hx h.2)]
            clear hkq hx
            go_wp2_with fail
            go_roundw
            case rel => exact ⟨k + 1, by omega, by go_num, HS3, by first | rfl | trivial⟩
            case measure => simp [intOf]; omega
      · have hke : k = d.length := by omega
        have HS3 : Hid (chE n q d = 0) := by show _ = _; rw [HS.out, hke, List.drop_length]; rfl
        clear hke
        go_wp2_with fail
        go_ret
        exact ⟨ret_int HS3.out.symm, HB.out⟩
  · have HG : Hid (chE n q d = dErr n d) := if_neg hE
    have hq : (dErr n d != 0) = true := by simpa using hE
    clear hE
    go_wp2_with fail
    go_ret
    exact ⟨ret_int HG.out.symm, HB.out⟩

set_option maxRecDepth 100000 in
set_option maxHeartbeats 2000000 in
theorem rgiven_any (n : Int) (es : List Edg) (oe : Option Addr) (c : Nat) (ar : List (List Int)) (oa : Option Addr) (ca : Nat) (F G : Foot) (w : World) (hs : SliceR edgR 3 F w oe es) (hc : es.length ≤ c) (hc2 : es.length ≤ 1000)
    (ha : SliceR (slcR intR 1) 1 G w oa ar) (hac : ar.length ≤ ca) (hac2 : ar.length ≤ 9223372036854775807) (f : List Nat) (hU : Hid (gErr n es = 0 → Uf f (eL es)))
    (q : Int) (rot : List Int) (ot : Option Addr) (ct : Nat) (H : Foot) (hr : SliceR intR 1 H w ot rot) (hrc : rot.length ≤ ct) (hrl : rot.length ≤ 9223372036854775807)
    (d : List Int) (od : Option Addr) (cd : Nat) (D : Foot) (hd : SliceR intR 1 D w od d) (hdc : d.length ≤ cd) (hdl : d.length ≤ 9223372036854775807) :
    Calls Tryz.prog 28 #[.agg #[.int .i64 n, .slice oe es.length c, .slice oa ar.length ca], .int .i64 q, .slice ot rot.length ct, .slice od d.length cd] w (ErrPost w (gvE n es f ar q rot d)) := by
  go_enter Tryz.func28, Tryz.ntmps28
  go_wp2_with fail
  have hb0 := box_refl w (.cells #[.int .i64 n, .slice oe es.length c, .slice oa ar.length ca] 52)
  refine (r45check_any n es oe c ar oa ca F G _ (hs.below edgR_ok (below_box hb0)) hc hc2 (ha.below (slcR_ok intR_ok (by decide)) (below_box hb0)) hac hac2 f hU q rot ot ct H (hr.below intR_ok (below_box hb0)) hrc hrl).mono ?_
  rintro e w2 ⟨rfl, hb2⟩
  have hx2 := hb2.mono (B' := w.heap.size + 1) (by simp)
  have d0 := box_cell hx2 0
  have d1 := box_cell hx2 1
  have d2 := box_cell hx2 2
  simp at d0 d1 d2
  have HX := hide (below_box hx2)
  clear hb2 hb0 hx2
  by_cases hR : rtE n es f ar q rot = 0
  · have HG : Hid (gvE n es f ar q rot d = chE n q d) := if_pos hR
    rw [hR]
    clear hR
    go_wp2_with fail
    refine (rchips_any n oe es.length c oa ar.length ca q d od cd D w2 (hd.below intR_ok HX.out) hdc hdl).mono ?_
    rintro e w3 ⟨rfl, hb3⟩
    have HB := hide (HX.out.trans (hb3.mono HX.out.size))
    clear hb3
    go_wp2_with fail
    go_ret
    exact ⟨ret_int HG.out.symm, HB.out⟩
  · have HG : Hid (gvE n es f ar q rot d = rtE n es f ar q rot) := if_neg hR
    have hq : (rtE n es f ar q rot != 0) = true := by simpa using hR
    clear hR
    go_wp2_with fail
    go_ret
    exact ⟨ret_int HG.out.symm, HX.out⟩

end Go.Proofs.YtnigfddanoaonaaGreat

set_option linter.unusedVariables false
set_option linter.unusedSimpArgs false
namespace Go.Proofs.YtnigfddanoaonaaGreat
open Go.RowKit

set_option maxRecDepth 100000 in
theorem rsink_any (w : World) : Calls Tryz.prog 56 #[] w fun e w' => ∃ cs, e = .returned (.agg cs.toArray) ∧ prcR (fun k => w.heap.size < k) w' cs sinkP ∧ Below w.heap.size w w' := by
  obtain ⟨W1, e1⟩ : ∃ W1, w.alloc (.cells #[.int .i64 0, .int .i64 0, .slice none 0 0] 89) = W1 := ⟨_, rfl⟩
  have bx : Box W1 w.heap.size [.int .i64 0, .int .i64 0, .slice none 0 0] 89 := by rw [← e1]; exact Box.new w [.int .i64 0, .int .i64 0, .slice none 0 0] 89
  have bb1 := bnew (Below.refl w.heap.size w) (.cells #[.int .i64 0, .int .i64 0, .slice none 0 0] 89)
  have hz1 : W1.heap.size = w.heap.size + 1 := by rw [← e1, alloc_size']
  rw [e1] at bb1
  obtain ⟨W2, e2⟩ : ∃ W2, W1.alloc (.cells #[.int .i64 0, .slice none 0 0] 99) = W2 := ⟨_, rfl⟩
  have hr2 : SliceR ruleR 2 (fun k => w.heap.size < k) W2 (some ⟨w.heap.size + 1, 0, none⟩) [⟨0, []⟩] := by
    rw [← e2, ← hz1]
    exact ruleF_lit W1 [.int .i64 0, .slice none 0 0] ⟨0, []⟩ ⟨none, 0, rfl, by unfold I64; simp, by simp, by simp, SliceR.nil _ _ _ _ _⟩ (by omega)
  have bb2 := bnew (Below.refl W1.heap.size W1) (.cells #[.int .i64 0, .slice none 0 0] 99)
  have hz2 : W2.heap.size = w.heap.size + 2 := by rw [← e2, alloc_size', hz1]
  rw [e2] at bb2
  obtain ⟨W3, e3⟩ : ∃ W3, W2.alloc (.cells #[.slice (some ⟨w.heap.size + 1, 0, none⟩) 1 1] 100) = W3 := ⟨_, rfl⟩
  have hr3 : SliceR (slcR ruleR 2) 1 (fun k => w.heap.size < k) W3 (some ⟨w.heap.size + 2, 0, none⟩) [[⟨0, []⟩]] := by
    rw [← e3, ← hz2]
    exact rowF_lit W2 [.slice (some ⟨w.heap.size + 1, 0, none⟩) 1 1] [⟨0, []⟩] ⟨_, 1, rfl, by simp, by simp, hr2⟩ (by omega)
  have bb3 := bnew (Below.refl W2.heap.size W2) (.cells #[.slice (some ⟨w.heap.size + 1, 0, none⟩) 1 1] 100)
  rw [e3] at bb3
  have bx3 := (bx.below bb2).below bb3
  have HB := hide ((bb1.trans (bb2.mono bb1.size)).trans (bb3.mono (by omega)))
  have HR := hide hr3
  have HX := hide bx3
  have x0 := bx3.cell 0
  have x1 := bx3.cell 1
  have x2 := bx3.cell 2
  have xf := bx3.free
  simp only [List.getElem?_cons_zero, List.getElem?_cons_succ] at x0 x1 x2
  clear hr2 hr3 bb1 bb2 bb3 bx bx3
  go_enter Tryz.func56, Tryz.ntmps56
  go_wp2_with fail
  have hfin := ((HX.out.put 0 (.int .i64 1)).put 1 (.int .i64 1)).put 2 (.slice (some ⟨w.heap.size + 2, 0, none⟩) 1 1)
  simp only [List.set_cons_zero, List.set_cons_succ] at hfin
  refine bodyPost_ret (results_cell_row rfl _ _ w.heap.size 89 _ (0, 0) _ rfl hfin Tryz.underlying89 rfl (by kernel_rfl)) rfl ?_
  refine ⟨_, rfl, ⟨some ⟨w.heap.size + 2, 0, none⟩, 1, rfl, by unfold I64 sinkP; simp, by unfold I64 sinkP; simp, by simp [sinkP], by simp [sinkP], ?_⟩, ((HB.out.setCell (Nat.le_refl _) _).setCell (Nat.le_refl _) _).setCell (Nat.le_refl _) _⟩
  refine HR.out.keep rowR_ok fun k hk _ => ?_
  rw [Below.heap_setCell _ _ _ k (by simp only; omega), Below.heap_setCell _ _ _ k (by simp only; omega), Below.heap_setCell _ _ _ k (by simp only; omega)]

set_option maxRecDepth 100000 in
set_option maxHeartbeats 1000000 in
theorem rwait_any (d : List Int) (q : Int) (od : Option Addr) (cd : Nat) (F : Foot) (w : World) (hs : SliceR intR 1 F w od d) (hc : d.length ≤ cd) (hc2 : d.length ≤ 1000000) :
    Calls Tryz.prog 55 #[.slice od d.length cd, .int .i64 q] w fun e w' => ∃ v, e = .returned v ∧ OwnS (slcR intR 1) 1 w.heap.size 23 (InF (fun k => w.heap.size ≤ k) v) w' v (waitD d q d.length) ∧ Below w.heap.size w w' := by
  go_enter Tryz.func55, Tryz.ntmps55
  go_wp2_with fail
  go_loopg [5, 6] d.length (fun gm tv iv wr => ∃ i : Nat, i ≤ d.length ∧ gm = d.length - i ∧ iv = .int .i64 i ∧ Hid (OwnS (slcR intR 1) 1 w.heap.size 23 (InF (fun k => w.heap.size ≤ k) tv) wr tv (waitD d q i)) ∧ Hid (Below w.heap.size w wr))
  case atStart => exact ⟨0, by omega, by omega, rfl, OwnS.nil _ _ _ _ _ _, Below.refl _ _⟩
  case round =>
    obtain ⟨i, hi, hgm, rfl, HO, HB⟩ := hrel
    have HGM := hide hgm
    clear hgm
    by_cases hlt : i < d.length
    · obtain ⟨x, hd, hget, hx64, b, off, rfl, _, c0⟩ := (hs.below intR_ok HB.out).int_at hlt
      have HG := hide hget
      have HL : Hid ((waitD d q i).length = i) := waitD_len d q i
      obtain ⟨y, hy⟩ : ∃ y, y = if (i : Int) = q then 0 else x := ⟨_, rfl⟩
      have HY : Hid (waitD d q (i + 1) = waitD d q i ++ [[y]]) := by
        show _ = _
        rw [waitD_succ, hy, getD_some hget]
      have hy64 : I64 y := by
        rw [hy]
        split
        · unfold I64; simp
        · exact hx64
      have HY64 := hide hy64
      have hbase : w.heap.size ≤ wr.heap.size := HB.out.size
      clear hd hget hx64 hy64
      by_cases hq : (i : Int) = q
      · have hye : y = 0 := by rw [hy, if_pos hq]
        subst hye
        have q1 : ((i : Int) == q) = true := by simp [hq]
        clear hy hq
        go_wp2_with (at_builtin; refine wpList_append_in rfl (.tmp 21) (.tmp 24) 24 rfl w.heap.size 23 _ 1 24 Tryz.underlying24 tabInfoN rfl (by decide) (slcR_ok intR_ok (by decide)) (fun k => w.heap.size ≤ k) u5 (waitD d q i) (by simp [Act.eval, Act.put]) ((HO.out.new (slcR_ok intR_ok (by decide)) _).new (slcR_ok intR_ok (by decide)) _) ⟨_, 0, none⟩ 1 [.slice (some ⟨wr.heap.size, 0, none⟩) 1 1] [0] (by simp [Act.eval, Act.put]) (World.news_of_block (heap_alloc_new _ _)) ((slcR_ok intR_ok (by decide)).keep (⟨some ⟨wr.heap.size, 0, none⟩, 1, rfl, by simp, by simp, intlF wr 0 HY64.out ⟨hbase, fun e => by have := (HO.out.block _ e.symm).2; omega⟩⟩ : slcR intR 1 (InF (fun k => w.heap.size ≤ k) u5) (wr.alloc (.cells #[.int .i64 0] 3)) [.slice (some ⟨wr.heap.size, 0, none⟩) 1 1] [0]) (SameOn.of_below (bnew (Below.refl _ _) _))) (by rw [HL.out]; omega) (by rw [HL.out]; unfold maxLen; omega) (by rw [alloc_size', alloc_size']; omega) (fun v' w8 ho hb8 hg8 hat => ?_); have HO8 := hide ho; have HB8 := hide hb8; clear ho hb8 hg8 hat)
        go_roundg (d.length - (i + 1))
        case measure => have := HGM.out; omega
        case rel =>
          have ho := HO8.out
          rw [← HY.out] at ho
          exact ⟨i + 1, by omega, rfl, by go_num, ho, ((HB.out.alloc hbase _).alloc (by rw [alloc_size']; omega) _).trans HB8.out⟩
      · have hye : y = x := by rw [hy, if_neg hq]
        subst hye
        have q1 : ((i : Int) == q) = false := by simp [hq]
        clear hy hq
        go_wp2_with (at_builtin; refine wpList_append_in rfl (.tmp 21) (.tmp 24) 24 rfl w.heap.size 23 _ 1 24 Tryz.underlying24 tabInfoN rfl (by decide) (slcR_ok intR_ok (by decide)) (fun k => w.heap.size ≤ k) u5 (waitD d q i) (by simp [Act.eval, Act.put]) ((HO.out.new (slcR_ok intR_ok (by decide)) _).new (slcR_ok intR_ok (by decide)) _) ⟨_, 0, none⟩ 1 [.slice (some ⟨wr.heap.size, 0, none⟩) 1 1] [y] (by simp [Act.eval, Act.put]) (World.news_of_block (heap_alloc_new _ _)) ((slcR_ok intR_ok (by decide)).keep (⟨some ⟨wr.heap.size, 0, none⟩, 1, rfl, by simp, by simp, intlF wr y HY64.out ⟨hbase, fun e => by have := (HO.out.block _ e.symm).2; omega⟩⟩ : slcR intR 1 (InF (fun k => w.heap.size ≤ k) u5) (wr.alloc (.cells #[.int .i64 y] 3)) [.slice (some ⟨wr.heap.size, 0, none⟩) 1 1] [y]) (SameOn.of_below (bnew (Below.refl _ _) _))) (by rw [HL.out]; omega) (by rw [HL.out]; unfold maxLen; omega) (by rw [alloc_size', alloc_size']; omega) (fun v' w8 ho hb8 hg8 hat => ?_); have HO8 := hide ho; have HB8 := hide hb8; clear ho hb8 hg8 hat)
        go_roundg (d.length - (i + 1))
        case measure => have := HGM.out; omega
        case rel =>
          have ho := HO8.out
          rw [← HY.out] at ho
          exact ⟨i + 1, by omega, rfl, by go_num, ho, ((HB.out.alloc hbase _).alloc (by rw [alloc_size']; omega) _).trans HB8.out⟩
    · have hie : i = d.length := by omega
      subst hie
      go_wp2_with fail
      go_ret
      exact ⟨_, rfl, HO.out, HB.out⟩

end Go.Proofs.YtnigfddanoaonaaGreat

set_option linter.unusedVariables false
set_option linter.unusedSimpArgs false
namespace Go.Proofs.YtnigfddanoaonaaGreat
open Go.RowKit

def AggPost (F : Foot) (w : World) (p : Prc) (e : Ending) (w' : World) : Prop := ∃ cs, e = .returned (.agg cs.toArray) ∧ prcR F w' cs p ∧ Below w.heap.size w w'

end Go.Proofs.YtnigfddanoaonaaGreat

set_option linter.unusedVariables false
set_option linter.unusedSimpArgs false
namespace Go.Proofs.YtnigfddanoaonaaGreat
open Go.RowKit

theorem gvE_parts {n : Int} {es : List Edg} {f : List Nat} {ar : List (List Int)} {q : Int} {rot d : List Int} (h : gvE n es f ar q rot d = 0) : rtE n es f ar q rot = 0 ∧ dErr n d = 0 := by
  unfold gvE at h
  split at h
  · rename_i h1
    split at h
    · rename_i h2; exact ⟨h1, h2⟩
    · rename_i h2; exact absurd h h2
  · rename_i h1; exact absurd h h1

section
variable (n : Int) (es : List Edg) (oe : Option Addr) (c : Nat) (ar : List (List Int)) (oa : Option Addr) (ca : Nat) (F G : Foot) (w : World) (hs : SliceR edgR 3 F w oe es) (hc : es.length ≤ c) (hc2 : es.length ≤ 1000)
  (ha : SliceR (slcR intR 1) 1 G w oa ar) (hac : ar.length ≤ ca) (hac2 : ar.length ≤ 9223372036854775807) (f : List Nat) (hU : Hid (gErr n es = 0 → Uf f (eL es)))
  (q : Int) (rot : List Int) (ot : Option Addr) (ct : Nat) (H : Foot) (hr : SliceR intR 1 H w ot rot) (hrc : rot.length ≤ ct) (hrl : rot.length ≤ 1000000)
  (d : List Int) (od : Option Addr) (cd : Nat) (D : Foot) (hd : SliceR intR 1 D w od d) (hdc : d.length ≤ cd) (hdl : d.length ≤ 1000000)
include hs hc hc2 ha hac hac2 hU hr hrc hrl hd hdc hdl
set_option maxRecDepth 100000 in
set_option maxHeartbeats 8000000 in
theorem rrout_any : Calls Tryz.prog 26 #[.agg #[.int .i64 n, .slice oe es.length c, .slice oa ar.length ca], .int .i64 q, .slice ot rot.length ct, .slice od d.length cd] w (NwPost w (routR n es f ar q rot d)) := by
  obtain ⟨W1, e1⟩ : ∃ W1, w.alloc (.cells #[.int .i64 n, .slice oe es.length c, .slice oa ar.length ca] 52) = W1 := ⟨_, rfl⟩
  have bx1 : Box W1 w.heap.size [.int .i64 n, .slice oe es.length c, .slice oa ar.length ca] 52 := by rw [← e1]; exact Box.new w [.int .i64 n, .slice oe es.length c, .slice oa ar.length ca] 52
  have bb1 := bnew (Below.refl w.heap.size w) (.cells #[.int .i64 n, .slice oe es.length c, .slice oa ar.length ca] 52)
  rw [e1] at bb1
  obtain ⟨W2, e2⟩ : ∃ W2, W1.alloc (.cells #[.slice none 0 0, .slice none 0 0, .slice none 0 0] 26) = W2 := ⟨_, rfl⟩
  have bx2 : Box W2 W1.heap.size [.slice none 0 0, .slice none 0 0, .slice none 0 0] 26 := by rw [← e2]; exact Box.new W1 [.slice none 0 0, .slice none 0 0, .slice none 0 0] 26
  have bb2 := bnew (Below.refl W1.heap.size W1) (.cells #[.slice none 0 0, .slice none 0 0, .slice none 0 0] 26)
  rw [e2] at bb2
  have hz1 : w.heap.size ≤ W1.heap.size := bb1.size
  have hz2 : W1.heap.size < W2.heap.size := by rw [← e2, alloc_size']; omega
  have bx1 := bx1.below bb2
  have hb2 := bb1.trans (bb2.mono hz1)
  have HX1 := hide bx1
  have HX2 := hide bx2
  have HB2 := hide hb2
  have d0 := bx1.cell 0
  have d1 := bx1.cell 1
  have d2 := bx1.cell 2
  have r0 := bx2.cell 0
  have r1 := bx2.cell 1
  have r2 := bx2.cell 2
  have rf := bx2.free
  simp only [List.getElem?_cons_zero, List.getElem?_cons_succ] at d0 d1 d2 r0 r1 r2
  have HGV := hide (rgiven_any n es oe c ar oa ca F G W2 (hs.below edgR_ok hb2) hc hc2 (ha.below (slcR_ok intR_ok (by decide)) hb2) hac hac2 f hU q rot ot ct H (hr.below intR_ok hb2) hrc (by omega) d od cd D (hd.below intR_ok hb2) hdc (by omega))
  have HFIN : Hid (∀ wr : World, Below W2.heap.size W2 wr → Box (((wr.setCell ⟨W1.heap.size, 0, none⟩ (.slice none 0 0)).setCell ⟨W1.heap.size, 1, none⟩ (.slice none 0 0)).setCell ⟨W1.heap.size, 2, none⟩ (.slice none 0 0)) W1.heap.size [.slice none 0 0, .slice none 0 0, .slice none 0 0] 26 ∧ Below w.heap.size w (((wr.setCell ⟨W1.heap.size, 0, none⟩ (.slice none 0 0)).setCell ⟨W1.heap.size, 1, none⟩ (.slice none 0 0)).setCell ⟨W1.heap.size, 2, none⟩ (.slice none 0 0))) := fun wr hb => by
    have hfin := (((bx2.below hb).put 0 (.slice none 0 0)).put 1 (.slice none 0 0)).put 2 (.slice none 0 0)
    simp only [List.set_cons_zero, List.set_cons_succ] at hfin
    exact ⟨hfin, (((hb2.trans (hb.mono (by omega))).setCell hz1 _).setCell hz1 _).setCell hz1 _⟩
  have HNW0 : Hid (∀ W : World, NwAt All W (.agg #[.slice none 0 0, .slice none 0 0, .slice none 0 0]) nwk0) := fun W => ⟨none, 0, none, 0, none, 0, rfl, by simp [nwk0], by simp [nwk0], by simp [nwk0], SliceR.nil _ _ _ _ _, SliceR.nil _ _ _ _ _, SliceR.nil _ _ _ _ _⟩
  by_cases hg : gvE n es f ar q rot d = 0
  case neg =>
    have HS : Hid (routR n es f ar q rot d = (nwk0, gvE n es f ar q rot d)) := if_neg hg
    have hq0 : (gvE n es f ar q rot d != 0) = true := by simpa using hg
    clear hg bx1 bx2 bb1 bb2 hb2 hs ha hr hd
    go_enter Tryz.func26, Tryz.ntmps26
    go_wp2_with (go_at_call 28; refine HGV.out.mono ?_; rintro e w3 ⟨rfl, hb3⟩; have HL3 := hide hb3; have hx2 := HX2.out.below hb3; have r0 := hx2.cell 0; have r1 := hx2.cell 1; have r2 := hx2.cell 2; have rf := hx2.free; simp only [List.getElem?_cons_zero, List.getElem?_cons_succ] at r0 r1 r2; clear hb3 hx2)
    refine bodyPost_ret (results_cell_tmp_row rfl _ _ W1.heap.size 26 _ (0, 0) _ rfl (HFIN.out _ HL3.out).1 Tryz.underlying26 rfl (by kernel_rfl)) rfl ?_
    rw [HS.out]
    exact ⟨_, rfl, HNW0.out _, (HFIN.out _ HL3.out).2⟩
  obtain ⟨h0, hD0⟩ := gvE_parts hg
  obtain ⟨q', rfl, hok⟩ := RtOk.of h0 hc2
  have hV : gErr n es = 0 := jErr_zero (chkE_zero (rtE_zero h0).1).1
  have hdl2 : (d.length : Int) = n := (dErr_zero hD0).2.1
  have hnar : n = (ar.length : Int) := hok.nar.symm
  have hdar : d.length = ar.length := by omega
  have hrotl : rot.length = ar.length := by have := (rtE_zero h0).2.2.1; omega
  have hn12 : ar.length ≤ 12 := hok.n12
  have hmm : Hid (∀ x ∈ es, x.m ≤ 50) := fun x hx => ((gErr_zero hV).2.1 x hx).2.2.2.1
  have HTG := hide (fun (u : World) (hu : Below w.heap.size w u) => targets_any n es oe c ar oa ca F G u (hs.below edgR_ok hu) hc hc2 (ha.below (slcR_ok intR_ok (by decide)) hu) hac hac2 hmm q' rot hok)
  have HS : Hid (routR n es f ar q' rot d = match routU ar (endsL es) q' ar.length with
      | some l => (⟨l, rot, waitD d q' d.length⟩, 0)
      | none => (nwk0, 12)) := if_pos hg
  have hE0 : Hid (endsL es = endsL es) := rfl
  obtain ⟨E, hEE⟩ : ∃ E, E = endsL es := ⟨_, rfl⟩
  rw [← hEE] at HTG HS
  have hrows : ∀ v (l : List Int), ar[v]? = some l → l.length ≤ 200000 ∧ ∀ x ∈ l, I64 (hv E (oppH x.toNat)) := fun v l h => by
    obtain ⟨h1, h2⟩ := hok.rows v l h
    have := hok.cap
    refine ⟨by omega, fun x hx => ?_⟩
    obtain ⟨g, rfl, hg2, _⟩ := h2 x hx
    rw [hEE]
    exact hv_i64 hV (by rw [Int.toNat_natCast]; exact oppH_lt hg2)
  have HROWS := hide hrows
  have HD := hide hd
  have HRR := hide hr
  have HDAR := hide hdar
  have HROTL := hide hrotl
  have HNAR := hide hnar
  rw [hg] at HGV
  rw [hdar] at hdc
  clear bx1 bx2 bb1 bb2 hb2 hs ha hr hd hok hV h0 hD0 hdl2 hrotl hg hmm hEE hrows hdl hdar hnar
  have hlit : ∀ u : World, OwnS intR 1 u.heap.size 3 Non (u.alloc (.cells #[] 3)) (.slice (some ⟨u.heap.size, 0, none⟩) 0 0) [] := fun u => by
    have := OwnS.ints u 3 [] (by intro x hx; cases hx) (by simp)
    simpa using this
  have hbt : (([] : List Int).length + rot.length) * 8 ≤ 140737488355328 := by simp; have := HROTL.out; omega
  have hbl : ([] : List Int).length + rot.length ≤ 9223372036854775807 := by simp; have := HROTL.out; omega
  go_enter Tryz.func26, Tryz.ntmps26
  go_wp2_with (first
    | (go_at_call 28; refine HGV.out.mono ?_; rintro e w3 ⟨rfl, hb3⟩; have x1 := HX1.out.below hb3; have HX13 := hide x1; have HX23 := hide (HX2.out.below hb3); have HB3 := hide (HB2.out.trans (hb3.mono (by omega))); have HL3 := hide hb3; have y0 := x1.cell 0; have y1 := x1.cell 1; have y2 := x1.cell 2; simp only [List.getElem?_cons_zero, List.getElem?_cons_succ] at y0 y1 y2; clear hb3 x1)
    | (go_at_call 74; refine (HTG.out w3 HB3.out).mono ?_; rintro e w4 ⟨tg, tc, rfl, htc, hTT, hb4⟩; have HTT := hide (hTT.loc (slcR_ok intR_ok (by decide)) (by decide)); have HX14 := hide (HX13.out.below hb4); have HX24 := hide (HX23.out.below hb4); have HB4 := hide (HB3.out.trans (hb4.mono HB3.out.size)); have HL4 := hide (HL3.out.trans (hb4.mono HL3.out.size)); have hr5 := (HRR.out.below intR_ok HB4.out).below intR_ok (bnew (Below.refl _ w4) (.cells #[] 3)); have hli4 := hlit w4; have HTC := hide htc; clear hb4 hTT htc)
    | (at_builtin; refine wpList_append_rep rfl (.tmp 29) (.tmp 30) 23 rfl w4.heap.size 3 _ 1 8 Tryz.underlying23 iInfo rfl (by decide) intR_ok Non H _ [] rfl hli4 ot ct rot rfl hr5 (fun _ _ h => h) (fun _ h => h.elim) hbt hbl (by simp) ?_; intro v6 w6 ho hb6 hg6; rw [List.nil_append] at ho; obtain ⟨o6, c6, hv6, hc6, hs6⟩ := ho.slice intR_ok; rw [HROTL.out] at hv6 hc6; subst hv6; have hb46 : Below w4.heap.size w4 w6 := (bnew (Below.refl _ w4) (.cells #[] 3)).trans hb6; have HS6 := hide (hs6.wide intR_ok (by decide) (F' := fun k => w4.heap.size ≤ k ∧ k < w6.heap.size) (fun k hk hl => ⟨by rcases hk with h | h; exact h.elim; exact h, hl⟩)); have HB6 := hide (HB4.out.trans (hb46.mono HB4.out.size)); have HL6 := hide (HL4.out.trans (hb46.mono HL4.out.size)); have HTT6 := hide (HTT.out.below (slcR_ok intR_ok (by decide)) hb46); have HX16 := hide (HX14.out.below hb46); have hE46 := hb46.size; clear ho hb6 hg6 hb46 hs6 hr5 hli4)
    | (go_at_call 55; refine (rwait_any d q' od cd D _ (HD.out.below intR_ok HB6.out) (by rw [HDAR.out]; exact hdc) (by have := HDAR.out; omega)).mono ?_; rintro e w7 ⟨v7, rfl, h7, hb7⟩; obtain ⟨o7, c7, hv7, hc7, hs7⟩ := h7.slice (slcR_ok intR_ok (by decide)); rw [waitD_len] at hv7 hc7; rw [HDAR.out] at hv7 hc7; subst hv7; have HS7 := hide (wait_foot hs7); have h24 : W2.heap.size ≤ w4.heap.size := HL4.out.size; have h26 : W2.heap.size ≤ w6.heap.size := HL6.out.size; have h67 : w6.heap.size ≤ w7.heap.size := hb7.size; have HB7 := hide (HB6.out.trans (hb7.mono HB6.out.size)); have HL7 := hide (HL6.out.trans (hb7.mono HL6.out.size)); have HTT7 := hide (HTT6.out.below (slcR_ok intR_ok (by decide)) hb7); have HSZ47 : w4.heap.size ≤ w7.heap.size := Nat.le_trans hE46 hb7.size; have HS67 := hide (HS6.out.below intR_ok hb7); have HX17 := hide (HX16.out.below hb7); clear h7 hb7 hs7))
  obtain ⟨b, hb⟩ : ∃ b, b = w7.heap.size := ⟨_, rfl⟩
  obtain ⟨wc, hwc⟩ : ∃ wc, w7.alloc (.cells #[.slice none 0 0, .slice o6 ar.length c6, .slice o7 ar.length c7] 26) = wc := ⟨_, rfl⟩
  have hbx : Box wc b [.slice none 0 0, .slice o6 ar.length c6, .slice o7 ar.length c7] 26 := by rw [hb, ← hwc]; exact Box.new w7 [.slice none 0 0, .slice o6 ar.length c6, .slice o7 ar.length c7] 26
  have hwcs : wc.heap.size = b + 1 := by rw [← hwc, alloc_size', hb]
  have hb7' : w7.heap.size = b := hb.symm
  have hwcb : Below w7.heap.size w7 wc := by rw [← hwc]; exact bnew (Below.refl _ _) _
  have HBXc := hide hbx
  have HBL := hide (HL7.out.trans (hwcb.mono HL7.out.size))
  have HTTc := hide (HTT7.out.below (slcR_ok intR_ok (by decide)) hwcb)
  have HS6c := hide (HS67.out.below intR_ok hwcb)
  have HS7c := hide (HS7.out.below (slcR_ok intR_ok (by decide)) hwcb)
  have h4b : w4.heap.size ≤ b := by
    rw [hb]
    exact HSZ47
  have hbW : W2.heap.size ≤ b := by rw [hb]; exact HL7.out.size
  have hW2c : W2.heap.size ≤ wc.heap.size := by omega
  rw [HDAR.out]
  rw [hwc, ← hb]
  clear hbx hwcb hb hwc y0 y1 y2
  go_loopg [13] ar.length (fun gm iv wx => ∃ (v : Nat) (vp : Value) (l : List Prc), v ≤ ar.length ∧ gm = ar.length - v ∧ iv = .int .i64 v ∧ Hid (routU ar E q' v = some l) ∧ Hid (OwnS prcR 3 wc.heap.size 89 (InF (fun k => wc.heap.size ≤ k) vp) wx vp l) ∧ Hid (Box wx b [vp, .slice o6 ar.length c6, .slice o7 ar.length c7] 26) ∧ Hid (Below W2.heap.size W2 wx) ∧ Hid (wc.heap.size ≤ wx.heap.size ∧ ∀ k, k < wc.heap.size → k ≠ b → wx.heap[k]? = wc.heap[k]?))
  case atStart => exact ⟨0, _, [], by omega, by omega, rfl, rfl, OwnS.nil _ _ _ _ _ _, HBXc.out, HBL.out, Nat.le_refl _, fun k _ _ => rfl⟩
  case round =>
    obtain ⟨v, vp, l, hvn, hgm, rfl, HPU, HO, HBX, HBW, HOFF⟩ := hrel
    have HGM := hide hgm
    have HLL : Hid (l.length = v) := routU_len HPU.out
    clear hgm
    obtain ⟨wo, hwo⟩ : ∃ wo : World, wo = wr := ⟨_, rfl⟩
    subst hwo
    have hx1 := HX1.out.below HBW.out
    have y0 := hx1.cell 0
    simp only [List.getElem?_cons_zero, List.getElem?_cons_succ] at y0
    have hwr : wc.heap.size ≤ wo.heap.size := HOFF.out.1
    clear hx1
    by_cases hlt : v < ar.length
    · have hcond : decide ((v : Int) < n) = true := by have := HNAR.out; simp; omega
      obtain ⟨oV, cV, hvp, hcV, _⟩ := HO.out.slice prcR_ok
      rw [HLL.out] at hvp hcV
      subst hvp
      have HOB := hide HO.out.block
      by_cases hvq : (v : Int) = q'
      · have q1 : ((v : Int) == (q' : Int)) = true := by simp [hvq]
        have HN : Hid (routU ar E q' (v + 1) = some (l ++ [sinkP])) := by
          show _ = _
          unfold routU
          rw [HPU.out, Option.bind_some, if_pos hvq]
        have HSK := hide (rsink_any wo.drew)
        have b0 := HBX.out.cell 0
        have b0d := HBX.out.draw.cell 0
        simp only [List.getElem?_cons_zero] at b0 b0d
        clear hvq
        go_wp2_with fail
        go_region_law (first
          | (refine step_append_in rfl (.tmp 47) (.tmp 49) 22 rfl wc.heap.size 89 _ 3 40 Tryz.underlying22 prcInfoN rfl (by decide) prcR_ok (fun k => wc.heap.size ≤ k) (.slice oV v cV) l (by simp [Act.eval, Act.put]) (HOW.out.new prcR_ok _) ⟨_, 0, none⟩ 1 [.int .i64 1, .int .i64 1, .slice oT 1 cT] sinkP (by simp [Act.eval, Act.put]) (World.news_of_block (heap_alloc_new _ _)) (prcR_ok.keep HREP.out (SameOn.of_below (bnew (Below.refl _ _) _))) (by rw [HLL.out]; omega) (by rw [HLL.out]; unfold maxLen; omega) (by rw [alloc_size']; have := HWS.out; omega) ?_; intro v' w8 ho hb8 hg8 hat; have hbx8 := (HBXW.out.next (.cells #[.int .i64 1, .int .i64 1, .slice oT 1 cT] 89)).grown hg8 (fun e => by have := (HOB.out b e.symm).1; omega); have m0 := hbx8.cell 0; have mf := hbx8.free 0; obtain ⟨o8, c8, hv8, _, _⟩ := ho.slice prcR_ok; rw [List.length_append, HLL.out] at hv8; simp only [List.length_cons, List.length_nil, Nat.zero_add] at hv8; subst hv8; simp only [List.getElem?_cons_zero] at m0; have HOW8 := hide ho; have HX8 := hide hbx8; have HB8 := hide hb8; have HG8 := hide hg8; clear ho hb8 hg8 hat hbx8)
          | (go_simp; go_at_call 56; refine HSK.out.mono ?_; rintro e w4 ⟨cs, rfl, ⟨oT, cT, hcs, iS, iL, hS1, hS2, hS3⟩, hb4⟩; have hcs' : cs = [.int .i64 1, .int .i64 1, .slice oT 1 cT] := hcs; subst hcs'; have bb5 : Below wo.heap.size wo w4 := (Below.refl _ _).drew.trans hb4; have HREP : Hid (prcR (InF (fun k => wc.heap.size ≤ k) (.slice oV v cV)) w4 [.int .i64 1, .int .i64 1, .slice oT 1 cT] sinkP) := (⟨oT, cT, rfl, iS, iL, hS1, hS2, hS3.wide rowR_ok (by decide) fun k hk _ => ⟨by simp only [drew_size] at hk; omega, fun e => by have := (HOB.out k e.symm).2; simp only [drew_size] at hk; omega⟩⟩ : prcR _ _ _ _); have HOW := hide (HO.out.below prcR_ok bb5); have HBXW := hide (HBX.out.below bb5); have HWS : Hid (wc.heap.size ≤ w4.heap.size) := Nat.le_trans hwr bb5.size; have HBWW : Hid (Below W2.heap.size W2 w4) := HBW.out.trans (bb5.mono (by omega)); have HOFW : Hid (∀ k, k < wc.heap.size → k ≠ b → w4.heap[k]? = wc.heap[k]?) := (fun k hk hkb => (bb5.block k (by omega)).trans (HOFF.out.2 k hk hkb)); have b0 := HBXW.out.cell 0; have b0n := (HBXW.out.next (.cells #[.int .i64 1, .int .i64 1, .slice oT 1 cT] 89)).cell 0; simp only [List.getElem?_cons_zero, List.getElem?_cons_succ] at b0 b0n; clear bb5 hb4 hS1 hS2 hS3 hcs iS iL))
        all_goals
          go_wp2_with fail
          go_roundg (ar.length - (v + 1))
          case measure => have := HGM.out; omega
          case rel =>
            have hput := HX8.out.put 0 (.slice o8 (v + 1) c8)
            simp only [List.set_cons_zero] at hput
            have hwsz := HWS.out
            have hw8 : wc.heap.size ≤ w8.heap.size := by
              have := HB8.out.size
              rw [alloc_size'] at this
              omega
            refine ⟨v + 1, .slice o8 (v + 1) c8, l ++ [sinkP], by omega, rfl, by go_num, HN.out, ?_, hput, ?_, ?_, ?_⟩
            · exact HOW8.out.keep prcR_ok (fun g hg => Below.heap_setCell _ _ _ g (by have := (HOW8.out.block g hg).1; simp only; omega)) (fun k hk _ => Below.heap_setCell _ _ _ k (by have := hk.1; simp only; omega))
            · show Below _ _ _
              refine Below.setCell (p := ⟨b, 0, none⟩) ?_ hbW _
              exact (HBWW.out.alloc (by omega) _).trans (HB8.out.mono hW2c)
            · rw [World.size_setCell]; exact hw8
            · intro k hk hkb
              rw [Below.heap_setCell _ _ _ k (by simp only; omega), HB8.out.block k hk, Below.heap_alloc _ _ k (by omega)]
              exact HOFW.out k hk hkb
      · have q1 : ((v : Int) == (q' : Int)) = false := by simp [hvq]
        obtain ⟨row, hrow⟩ : ∃ row, ar[v]? = some row := ⟨_, List.getElem?_eq_getElem hlt⟩
        obtain ⟨hrl9, hr64⟩ := HROWS.out v row hrow
        obtain ⟨T, hT⟩ : ∃ T, T = row.map fun x => hv E (oppH x.toNat) := ⟨_, rfl⟩
        have hTg : tgR ar E v = T := by unfold tgR; rw [getD_some hrow, hT]
        have htg := tgL_get (E := E) hrow
        rw [← hT] at htg
        have hTl : T.length ≤ 200000 := by rw [hT, List.length_map]; exact hrl9
        have HTG2 := hide hTg
        have HVQ := hide hvq
        have htlen : v < (tgL ar E).length := by rw [tgL_len]; exact hlt
        have HTTo := hide (HTTc.out.keep (slcR_ok intR_ok (by decide)) (w' := wo) fun k hk _ => by
          have hk' : k < w4.heap.size := hk
          exact HOFF.out.2 k (by omega) (by omega))
        obtain ⟨x0, _, hx0, bT, offT, oR, cR, hoT, _, cT0, _, _, hsT⟩ := HTTo.out.slc_at htlen
        rw [htg] at hx0
        injection hx0 with hx0
        subst hx0
        subst hoT
        obtain ⟨k, hk⟩ : ∃ k, k = T.length := ⟨_, rfl⟩
        rw [← hk] at cT0
        have HK := hide hk
        have HSR := hide (hsT.loc intR_ok (by decide))
        have htl : (v : Int) < ((tgL ar E).length : Int) := by omega
        have hcl := HTC.out
        clear hvq hrow hr64 hT hTg htg hsT hk htlen
        by_cases h16 : k ≤ 16
        · have q16 : decide ((16 : Int) < (k : Int)) = false := by simp; omega
          have HN : Hid (routU ar E q' (v + 1) = some (l ++ [turnP T])) := by
            show _ = _
            unfold routU
            rw [HPU.out, Option.bind_some, if_neg HVQ.out, HTG2.out, if_pos (by rw [← HK.out]; exact h16)]
          go_wp2_with fail
          obtain ⟨pb, hpb⟩ : ∃ pb, pb = wo.heap.size := ⟨_, rfl⟩
          obtain ⟨W3, e3⟩ : ∃ W3, wo.alloc (.cells #[.int .i64 k, .int .i64 1, .slice none 0 0] 89) = W3 := ⟨_, rfl⟩
          have HXp : Hid (Box W3 pb [.int .i64 k, .int .i64 1, .slice none 0 0] 89) := by show Box _ _ _ _; rw [hpb, ← e3]; exact Box.new wo [.int .i64 k, .int .i64 1, .slice none 0 0] 89
          have HBp : Hid (Below pb wo W3) := by show Below _ _ _; rw [hpb, ← e3]; exact bnew (Below.refl _ _) _
          rw [e3, ← hpb]
          have HPB := hide hpb
          have hbpb : b < pb := by omega
          have HCT0 := hide cT0
          clear e3 hpb cT0
          go_loopg [16] k (fun gm sv wx => ∃ (s : Nat) (vq : Value), s ≤ k ∧ gm = k - s ∧ sv = .int .i64 s ∧ Hid (OwnS (slcR ruleR 2) 1 (pb + 1) 100 (InF (fun q => pb < q) vq) wx vq ((List.range s).map (turnRow T))) ∧ Hid (Box wx pb [.int .i64 k, .int .i64 1, vq] 89) ∧ Hid (Below pb W3 wx))
          case atStart => exact ⟨0, _, by omega, by omega, rfl, OwnS.nil _ _ _ _ _ _, HXp.out, Below.refl _ _⟩
          case round =>
            obtain ⟨s, vq, hs, hgm, rfl, HOq, HXq, HBq⟩ := hrel
            have HGM2 := hide hgm
            clear hgm
            have hpbl : pb < wr.heap.size := HXq.out.lt
            have hpw : Below pb wo wr := HBp.out.trans HBq.out
            obtain ⟨oT, cT, hvq, hcQ, hsQ⟩ := HOq.out.slice rowR_ok
            rw [List.length_map, List.length_range] at hvq hcQ
            by_cases hls : s < k
            · obtain ⟨r, hr⟩ : ∃ r, r = (s + 1) % k := ⟨_, rfl⟩
              have hrem : ((s : Int) + 1).tmod (k : Int) = (r : Int) := by rw [hr, Int.tmod_eq_emod_of_nonneg (by omega)]; rfl
              have hr16 : r < k := by rw [hr]; exact Nat.mod_lt _ (by omega)
              obtain ⟨x, _, hxg, hx64, b1, off1, hot, _, cx⟩ := (HSR.out.keep intR_ok (w' := wr) fun q hq _ => hpw.block q (by rw [HPB.out]; exact hq)).int_at (i := r) (by rw [← HK.out]; exact hr16)
              subst hot
              have c0 := (hpw.cell (by rw [HPB.out]; exact World.block_lt_of_cell? _ _ HCT0.out)).trans HCT0.out
              have hr0 : (0 : Int) ≤ (r : Int) := by omega
              have hr1 : (r : Int) < (k : Int) := by omega
              subst hvq
              have hrow : turnRow T s = [⟨r, [⟨x, 0⟩]⟩] := by
                unfold turnRow
                rw [← HK.out, ← hr, getD_some hxg]
              have HT2 : Hid ((List.range (s + 1)).map (turnRow T) = (List.range s).map (turnRow T) ++ [turnRow T s]) := turnRules_take T s
              have HLS : Hid (((List.range s).map (turnRow T)).length = s) := by show _ = _; rw [List.length_map, List.length_range]
              have HOB2 := hide HOq.out.block
              have HREP : Hid (slcR ruleR 2 (InF (fun q => pb < q) (.slice oT s cT)) ((wr.alloc (.cells #[.int .i64 x, .int .i64 0] 102)).alloc (.cells #[.int .i64 r, .slice (some ⟨wr.heap.size, 0, none⟩) 1 1] 99)) [.slice (some ⟨wr.heap.size + 1, 0, none⟩) 1 1] (turnRow T s)) := by
                show slcR ruleR 2 _ _ _ _
                rw [hrow]
                have h1' : SliceR outR 2 (InF (fun q => pb < q) (.slice oT s cT)) (wr.alloc (.cells #[.int .i64 x, .int .i64 0] 102)) (some ⟨wr.heap.size, 0, none⟩) [⟨x, 0⟩] :=
                  litO (F := InF (fun q => pb < q) (.slice oT s cT)) wr x 0 hx64 (by unfold I64; simp) ⟨hpbl, fun e => by have := (HOB2.out _ e.symm).2; exact absurd this (Nat.lt_irrefl _)⟩
                have h2 := ruleF_lit (F := InF (fun q => pb < q) (.slice oT s cT)) (wr.alloc (.cells #[.int .i64 x, .int .i64 0] 102)) [.int .i64 r, .slice (some ⟨wr.heap.size, 0, none⟩) 1 1] ⟨r, [⟨x, 0⟩]⟩ ⟨_, 1, rfl, by unfold I64; simp only; omega, by simp, by simp, h1'⟩ (by rw [alloc_size']; exact ⟨by omega, fun e => by have := (HOB2.out _ e.symm).2; omega⟩)
                rw [alloc_size'] at h2
                exact ⟨_, 1, rfl, by simp, by simp, h2⟩
              have p2 := HXq.out.cell 2
              have pf := HXq.out.free
              simp only [List.getElem?_cons_zero, List.getElem?_cons_succ] at p2
              have p2a := cell_next p2 (.cells #[.int .i64 x, .int .i64 0] 102)
              have p2b := cell_next p2a (.cells #[.int .i64 r, .slice (some ⟨wr.heap.size, 0, none⟩) 1 1] 99)
              have p2c := cell_next p2b (.cells #[.slice (some ⟨wr.heap.size + 1, 0, none⟩) 1 1] 100)
              have cxa := cell_next cx
              have c0a := cell_next c0
              clear hr hxg hrow hsQ
              go_wp2_with fail
              go_region_law (refine step_append_in rfl (.tmp 72) (.tmp 85) 87 rfl (pb + 1) 100 _ 1 24 Tryz.underlying87 rowInfoN rfl (by decide) rowR_ok (fun q => pb < q) (.slice oT s cT) ((List.range s).map (turnRow T)) (by simp [Act.eval, Act.put]) ((((HOq.out.new rowR_ok _).new rowR_ok _).new rowR_ok _).draw rowR_ok) ⟨_, 0, none⟩ 1 [.slice (some ⟨wr.heap.size + 1, 0, none⟩) 1 1] (turnRow T s) (by simp [Act.eval, Act.put]) (World.news_of_block (heap_alloc_new _ _)) (rowR_ok.keep HREP.out (SameOn.of_below (bnew (Below.refl _ _) _).drew)) (by rw [HLS.out]; omega) (by rw [HLS.out]; unfold maxLen; omega) (by rw [drew_sz, alloc_size', alloc_size', alloc_size']; omega) ?_; intro v' w8 ho hb8 hg8 hat; have hbx8 := (((HXq.out.next (.cells #[.int .i64 x, .int .i64 0] 102)).next (.cells #[.int .i64 r, .slice (some ⟨wr.heap.size, 0, none⟩) 1 1] 99)).next (.cells #[.slice (some ⟨wr.heap.size + 1, 0, none⟩) 1 1] 100)).draw.grown hg8 (fun e => by have := (HOB2.out pb e.symm).1; omega); have m2 := hbx8.cell 2; have mf := hbx8.free 2; obtain ⟨o8, c8, hv8, _, _⟩ := ho.slice rowR_ok; rw [List.length_append, HLS.out] at hv8; simp only [List.length_cons, List.length_nil, Nat.zero_add] at hv8; subst hv8; simp only [List.getElem?_cons_zero, List.getElem?_cons_succ] at m2; have HOW8 := hide ho; have HX8 := hide hbx8; have HB8 := hide hb8; clear ho hb8 hg8 hat hbx8)
              all_goals
                go_wp2_with fail
                go_roundg (k - (s + 1))
                case measure => have := HGM2.out; omega
                case rel =>
                  have hput := HX8.out.put 2 (.slice o8 (s + 1) c8)
                  simp only [List.set_cons_zero, List.set_cons_succ] at hput
                  refine ⟨s + 1, .slice o8 (s + 1) c8, by omega, rfl, by go_num, ?_, hput, ?_⟩
                  · rw [HT2.out]
                    exact HOW8.out.keep rowR_ok (fun g hg => Below.heap_setCell _ _ _ g (by have := (HOW8.out.block g hg).1; simp only; omega)) (fun q hq _ => Below.heap_setCell _ _ _ q (by have := hq.1; simp only; omega))
                  · show Below _ _ _
                    refine Below.setCell (p := ⟨pb, 2, none⟩) ?_ (Nat.le_refl pb) _
                    have h3 := (((HBq.out.alloc (by omega) (.cells #[.int .i64 x, .int .i64 0] 102)).alloc (by rw [alloc_size']; omega) (.cells #[.int .i64 r, .slice (some ⟨wr.heap.size, 0, none⟩) 1 1] 99)).alloc (by rw [alloc_size', alloc_size']; omega) (.cells #[.slice (some ⟨wr.heap.size + 1, 0, none⟩) 1 1] 100)).drew
                    exact h3.trans (HB8.out.mono (by omega))
            · have hse : s = k := by omega
              subst hse
              subst hvq
              have bb5 : Below wo.heap.size wo wr := by rw [← HPB.out]; exact hpw
              have hpo := HPB.out
              have HREP : Hid (prcR (InF (fun j => wc.heap.size ≤ j) (.slice oV v cV)) wr [.int .i64 s, .int .i64 1, .slice oT s cT] (turnP T)) := by
                refine ⟨oT, cT, ?_, ?_, ?_, ?_, ?_, ?_⟩
                · simp only [turnP, List.length_map, List.length_range, ← HK.out]
                · unfold I64 turnP; simp only; rw [← HK.out]; omega
                · unfold I64 turnP; simp
                · simp only [turnP, List.length_map, List.length_range, ← HK.out]; exact hcQ
                · simp only [turnP, List.length_map, List.length_range, ← HK.out]; omega
                · show SliceR (slcR ruleR 2) 1 _ _ _ ((List.range T.length).map (turnRow T))
                  rw [← HK.out]
                  refine hsQ.wide rowR_ok (by decide) fun j hj _ => ?_
                  have hj2 : pb < j := by
                    rcases hj with h | h
                    · have := h.1; omega
                    · omega
                  exact ⟨by omega, fun e => by have := (HOB.out j e.symm).2; omega⟩
              have HOW := hide (HO.out.below prcR_ok bb5)
              have HBXW := hide (HBX.out.below bb5)
              have HWS : Hid (wc.heap.size ≤ wr.heap.size) := Nat.le_trans hwr bb5.size
              have HBWW : Hid (Below W2.heap.size W2 wr) := HBW.out.trans (bb5.mono (by omega))
              have HOFW : Hid (∀ j, j < wc.heap.size → j ≠ b → wr.heap[j]? = wc.heap[j]?) := fun j hj hjb => (bb5.block j (by omega)).trans (HOFF.out.2 j hj hjb)
              have p0 := HXq.out.cell 0
              have p1 := HXq.out.cell 1
              have p2 := HXq.out.cell 2
              have b0 := HBXW.out.cell 0
              have b0n := (HBXW.out.next (.cells #[.int .i64 s, .int .i64 1, .slice oT s cT] 89)).cell 0
              simp only [List.getElem?_cons_zero, List.getElem?_cons_succ] at b0 b0n p0 p1 p2
              clear bb5 hsQ hcQ hpw hpo
              go_wp2_with (at_builtin; refine wpList_append_in rfl (.tmp 89) (.tmp 91) 22 rfl wc.heap.size 89 _ 3 40 Tryz.underlying22 prcInfoN rfl (by decide) prcR_ok (fun k => wc.heap.size ≤ k) (.slice oV v cV) l (by simp [Act.eval, Act.put]) (HOW.out.new prcR_ok _) ⟨_, 0, none⟩ 1 [.int .i64 s, .int .i64 1, .slice oT s cT] (turnP T) (by simp [Act.eval, Act.put]) (World.news_of_block (heap_alloc_new _ _)) (prcR_ok.keep HREP.out (SameOn.of_below (bnew (Below.refl _ _) _))) (by rw [HLL.out]; omega) (by rw [HLL.out]; unfold maxLen; omega) (by rw [alloc_size']; have := HWS.out; omega) (fun v' w8 ho hb8 hg8 hat => ?_); have hbx8 := (HBXW.out.next (.cells #[.int .i64 s, .int .i64 1, .slice oT s cT] 89)).grown hg8 (fun e => by have := (HOB.out b e.symm).1; omega); have m0 := hbx8.cell 0; have mf := hbx8.free 0; obtain ⟨o8, c8, hv8, _, _⟩ := ho.slice prcR_ok; rw [List.length_append, HLL.out] at hv8; simp only [List.length_cons, List.length_nil, Nat.zero_add] at hv8; subst hv8; simp only [List.getElem?_cons_zero] at m0; have HOW8 := hide ho; have HX8 := hide hbx8; have HB8 := hide hb8; have HG8 := hide hg8; clear ho hb8 hg8 hat hbx8)
              go_roundg (ar.length - (v + 1))
              case measure => have := HGM.out; omega
              case rel =>
                have hput := HX8.out.put 0 (.slice o8 (v + 1) c8)
                simp only [List.set_cons_zero] at hput
                have hwsz := HWS.out
                have hw8 : wc.heap.size ≤ w8.heap.size := by
                  have := HB8.out.size
                  rw [alloc_size'] at this
                  omega
                refine ⟨v + 1, .slice o8 (v + 1) c8, l ++ [(turnP T)], by omega, rfl, by go_num, HN.out, ?_, hput, ?_, ?_, ?_⟩
                · exact HOW8.out.keep prcR_ok (fun g hg => Below.heap_setCell _ _ _ g (by have := (HOW8.out.block g hg).1; simp only; omega)) (fun k hk _ => Below.heap_setCell _ _ _ k (by have := hk.1; simp only; omega))
                · show Below _ _ _
                  refine Below.setCell (p := ⟨b, 0, none⟩) ?_ hbW _
                  exact (HBWW.out.alloc (by omega) _).trans (HB8.out.mono hW2c)
                · rw [World.size_setCell]; exact hw8
                · intro k hk hkb
                  rw [Below.heap_setCell _ _ _ k (by simp only; omega), HB8.out.block k hk, Below.heap_alloc _ _ k (by omega)]
                  exact HOFW.out k hk hkb
        · have q16 : decide ((16 : Int) < (k : Int)) = true := by simp; omega
          have HN : Hid (routU ar E q' (v + 1) = none) := by
            show _ = _
            unfold routU
            rw [HPU.out, Option.bind_some, if_neg HVQ.out, HTG2.out, if_neg (by rw [← HK.out]; exact h16)]
          have hx2 := HX2.out.below HBW.out
          have r0 := hx2.cell 0
          have r1 := hx2.cell 1
          have r2 := hx2.cell 2
          have rf := hx2.free
          simp only [List.getElem?_cons_zero, List.getElem?_cons_succ] at r0 r1 r2
          clear hx2
          go_wp2_with fail
          refine bodyPost_ret (results_cell_tmp_row rfl _ _ W1.heap.size 26 _ (0, 0) _ rfl (HFIN.out _ HBW.out).1 Tryz.underlying26 rfl (by kernel_rfl)) rfl ?_
          rw [HS.out, routU_none HN.out ar.length (by omega)]
          exact ⟨_, rfl, HNW0.out _, (HFIN.out _ HBW.out).2⟩
    · have hcond : decide ((v : Int) < n) = false := by have := HNAR.out; simp; omega
      have hve : v = ar.length := by omega
      subst hve
      obtain ⟨oV, cV, hvp, hcV, hsV⟩ := HO.out.slice prcR_ok
      rw [HLL.out] at hvp hcV
      subst hvp
      have HSV := hide hsV
      have b0 := HBX.out.cell 0
      have b1 := HBX.out.cell 1
      have b2 := HBX.out.cell 2
      have hx2 := HX2.out.below HBW.out
      have r0 := hx2.cell 0
      have r1 := hx2.cell 1
      have r2 := hx2.cell 2
      have rf := hx2.free
      simp only [List.getElem?_cons_zero, List.getElem?_cons_succ] at b0 b1 b2 r0 r1 r2
      have HX2w := hide hx2
      clear hx2 hsV
      go_wp2_with fail
      have hfin := ((HX2w.out.put 0 (.slice oV ar.length cV)).put 1 (.slice o6 ar.length c6)).put 2 (.slice o7 ar.length c7)
      simp only [List.set_cons_zero, List.set_cons_succ] at hfin
      refine bodyPost_ret (results_cell_tmp_row rfl _ _ W1.heap.size 26 _ (0, 0) _ rfl hfin Tryz.underlying26 rfl (by kernel_rfl)) rfl ?_
      rw [HS.out, HPU.out]
      obtain ⟨hoff1, hoff2⟩ := HOFF.out
      have hne : ∀ k, W1.heap.size < k → (((wo.setCell ⟨W1.heap.size, 0, none⟩ (.slice oV ar.length cV)).setCell ⟨W1.heap.size, 1, none⟩ (.slice o6 ar.length c6)).setCell ⟨W1.heap.size, 2, none⟩ (.slice o7 ar.length c7)).heap[k]? = wo.heap[k]? := fun k hk => set3_heap (by omega)
      refine ⟨_, rfl, ⟨oV, cV, o6, c6, o7, c7, ?_, ?_, ?_, ?_, ?_, ?_, ?_⟩, ?_⟩
      · simp only [HLL.out, HROTL.out, waitD_len, HDAR.out]
      · simp only [HLL.out]; exact hcV
      · simp only [HROTL.out]; exact hc6
      · simp only [waitD_len, HDAR.out]; exact hc7
      · exact (HSV.out.keep prcR_ok fun k hk _ => hne k (by rcases hk with h | h; have := h.1; omega; omega)).all prcR_ok (by decide)
      · exact ((HS6c.out.keep intR_ok fun k hk _ => (hne k (by have := hk.1; omega)).trans (hoff2 k (by have := hk.2; omega) (by have := hk.2; omega))).all intR_ok (by decide))
      · exact ((HS7c.out.keep (slcR_ok intR_ok (by decide)) fun k hk _ => (hne k (by have := hk.1; omega)).trans (hoff2 k (by have := hk.2; omega) (by have := hk.2; omega))).all (slcR_ok intR_ok (by decide)) (by decide))
      · have hbz : Below w.heap.size w wo := HB2.out.trans (HBW.out.mono (by omega))
        exact ((hbz.setCell hz1 _).setCell hz1 _).setCell hz1 _

end
end Go.Proofs.YtnigfddanoaonaaGreat

set_option linter.unusedVariables false
namespace Go.Proofs.YtnigfddanoaonaaGreat
open Go.RowKit

def SameB (b : Bool) (w : World) (e : Ending) (w' : World) : Prop := e = .returned (.bool b) ∧ Below w.heap.size w w'

set_option maxRecDepth 100000 in
set_option maxHeartbeats 2000000 in
theorem sameProcs_any (S L S' L' : Int) (rs rs' : List (List Rul)) (oa ob : Option Addr) (c d : Nat) (F G : Foot) (w : World) (hs : SliceR (slcR ruleR 2) 1 F w oa rs) (ht : SliceR (slcR ruleR 2) 1 G w ob rs') (hc2 : rs.length ≤ 9223372036854775807) :
    Calls Tryz.prog 48 #[.agg #[.int .i64 S, .int .i64 L, .slice oa rs.length c], .agg #[.int .i64 S', .int .i64 L', .slice ob rs'.length d]] w (SameB (decide ((⟨S, L, rs⟩ : Prc) = ⟨S', L', rs'⟩)) w) := by
  obtain ⟨W1, e1⟩ : ∃ W1, w.alloc (.cells #[.int .i64 S, .int .i64 L, .slice oa rs.length c] 89) = W1 := ⟨_, rfl⟩
  have bx1 : Box W1 w.heap.size [.int .i64 S, .int .i64 L, .slice oa rs.length c] 89 := by rw [← e1]; exact Box.new w [.int .i64 S, .int .i64 L, .slice oa rs.length c] 89
  have bb1 := bnew (Below.refl w.heap.size w) (.cells #[.int .i64 S, .int .i64 L, .slice oa rs.length c] 89)
  rw [e1] at bb1
  obtain ⟨W2, e2⟩ : ∃ W2, W1.alloc (.cells #[.int .i64 S', .int .i64 L', .slice ob rs'.length d] 89) = W2 := ⟨_, rfl⟩
  have bx2 : Box W2 W1.heap.size [.int .i64 S', .int .i64 L', .slice ob rs'.length d] 89 := by rw [← e2]; exact Box.new W1 [.int .i64 S', .int .i64 L', .slice ob rs'.length d] 89
  have bb2 := bnew (Below.refl W1.heap.size W1) (.cells #[.int .i64 S', .int .i64 L', .slice ob rs'.length d] 89)
  rw [e2] at bb2
  have bx1' := bx1.below bb2
  have hb0 := bb1.trans (bb2.mono bb1.size)
  have d0 := bx1'.cell 0
  have d1 := bx1'.cell 1
  have d2 := bx1'.cell 2
  have f0 := bx2.cell 0
  have f1 := bx2.cell 1
  have f2 := bx2.cell 2
  simp only [List.getElem?_cons_zero, List.getElem?_cons_succ] at d0 d1 d2 f0 f1 f2
  have HX1 := hide bx1'
  have HX2 := hide bx2
  have HB := hide hb0
  have HS := hide (hs.below rowR_ok hb0)
  have HT := hide (ht.below rowR_ok hb0)
  clear bx1 bx1' bx2 bb1 bb2 hb0 hs ht
  by_cases hS : S = S'
  case neg =>
    have q1 : (S != S') = true := by simp [hS]
    have HR : Hid (decide ((⟨S, L, rs⟩ : Prc) = ⟨S', L', rs'⟩) = false) := decide_eq_false fun h => hS (by injection h)
    clear hS
    go_enter Tryz.func48, Tryz.ntmps48
    go_wp2_with fail
    go_ret
    exact ⟨ret_bool HR.out.symm, HB.out⟩
  have q1 : (S != S') = false := by simp [hS]
  have HSS := hide hS
  clear hS
  by_cases hL : L = L'
  case neg =>
    have q2 : (L != L') = true := by simp [hL]
    have HR : Hid (decide ((⟨S, L, rs⟩ : Prc) = ⟨S', L', rs'⟩) = false) := decide_eq_false fun h => hL (by injection h)
    clear hL
    go_enter Tryz.func48, Tryz.ntmps48
    go_wp2_with fail
    go_ret
    exact ⟨ret_bool HR.out.symm, HB.out⟩
  have q2 : (L != L') = false := by simp [hL]
  have HLL := hide hL
  clear hL
  by_cases hlen : rs.length = rs'.length
  case neg =>
    have q3 : ((rs.length : Int) != rs'.length) = true := by simp; omega
    have HR : Hid (decide ((⟨S, L, rs⟩ : Prc) = ⟨S', L', rs'⟩) = false) := decide_eq_false fun h => hlen (by injection h with _ _ h; rw [h])
    clear hlen
    go_enter Tryz.func48, Tryz.ntmps48
    go_wp2_with fail
    go_ret
    exact ⟨ret_bool HR.out.symm, HB.out⟩
  have q3 : ((rs.length : Int) != rs'.length) = false := by simp [hlen]
  have HL := hide hlen
  have HR : Hid (decide ((⟨S, L, rs⟩ : Prc) = ⟨S', L', rs'⟩) = decide (rs = rs')) := by
    show _ = _
    rw [HSS.out, HLL.out]
    by_cases h : rs = rs'
    · simp [h]
    · rw [decide_eq_false h]; exact decide_eq_false fun g => h (by injection g)
  clear hlen
  go_enter Tryz.func48, Tryz.ntmps48
  go_wp2_with fail
  go_loopw [5] (fun i wr => ∃ k : Nat, k ≤ rs.length ∧ i = .int .i64 k ∧ Hid (rs = rs' ↔ rs.drop k = rs'.drop k) ∧ Hid (Below W2.heap.size W2 wr)) (fun i _ => rs.length - (intOf i).toNat)
  case atStart => exact ⟨0, by omega, rfl, Iff.rfl, Below.refl _ _⟩
  case round =>
    obtain ⟨k, hk, rfl, HE, HBk⟩ := hrel
    have d2 := (HX1.out.below HBk.out).cell 2
    have f2 := (HX2.out.below HBk.out).cell 2
    simp only [List.getElem?_cons_zero, List.getElem?_cons_succ] at d2 f2
    by_cases hlt : k < rs.length
    · obtain ⟨row, hd, _, b, off, oa', c', rfl, _, c0, _, hl2, hsx⟩ := (HS.out.below rowR_ok HBk.out).slc_at hlt
      have hlt2 : k < rs'.length := by rw [← HL.out]; exact hlt
      obtain ⟨row', hd', _, b', off', ob', d', rfl, _, c0', _, _, hsx'⟩ := (HT.out.below rowR_ok HBk.out).slc_at hlt2
      have HD := hide hd
      have HD' := hide hd'
      have HSX := hide hsx
      have HSX' := hide hsx'
      obtain ⟨n, hn⟩ : ∃ n, n = row.length := ⟨_, rfl⟩
      obtain ⟨n', hn'⟩ : ∃ n, n = row'.length := ⟨_, rfl⟩
      rw [← hn] at c0 hl2
      rw [← hn'] at c0'
      have HN := hide hn
      have HN' := hide hn'
      clear hd hd' hsx hsx' hn hn'
      by_cases hnn : n = n'
      · have q4 : ((n : Int) != n') = false := by simp [hnn]
        have HNN := hide hnn
        clear hnn
        go_wp2_with fail
        go_quiet (fail)
        have HBq := hide (below_drewN HBk.out nq)
        have HSq := hide (HSX.out.drewN ruleR_ok nq)
        have HSq' := hide (HSX'.out.drewN ruleR_ok nq)
        have c0 : (wr.drewN nq).cell? ⟨b, off + k, none⟩ = some (.slice oa' n c') := c0
        have c0' : (wr.drewN nq).cell? ⟨b', off' + k, none⟩ = some (.slice ob' n' d') := c0'
        generalize wr.drewN nq = wo at *
        go_wp2_with fail
        go_loopg [6] n (fun g i wr => ∃ j : Nat, j ≤ n ∧ g = n - j ∧ i = .int .i64 j ∧ Hid (row = row' ↔ row.drop j = row'.drop j) ∧ Hid (Below wo.heap.size wo wr))
        case atStart => exact ⟨0, by omega, by omega, rfl, Iff.rfl, Below.refl _ _⟩
        case round =>
          obtain ⟨j, hj, hg, rfl, HF, HBj⟩ := hrel
          have HG := hide hg
          clear hg
          have HB2 : Hid (Below W2.heap.size W2 wr) := HBq.out.trans (HBj.out.mono HBq.out.size)
          have d2 := (HX1.out.below HB2.out).cell 2
          have f2 := (HX2.out.below HB2.out).cell 2
          simp only [List.getElem?_cons_zero, List.getElem?_cons_succ] at d2 f2
          have c0 := (HBj.out.cell (World.block_lt_of_cell? _ _ c0)).trans c0
          have c0' := (HBj.out.cell (World.block_lt_of_cell? _ _ c0')).trans c0'
          by_cases hlj : j < n
          · obtain ⟨nx, st, hd, _, _, b2, off2, oa2, c2, rfl, _, c20, c21, hcl, hl22, hss⟩ := (HSq.out.below ruleR_ok HBj.out).rule_at (i := j) (by rw [← HN.out]; exact hlj)
            obtain ⟨nx', st', hd', _, _, b3, off3, ob2, d2', rfl, _, c30, c31, _, _, hss'⟩ := (HSq'.out.below ruleR_ok HBj.out).rule_at (i := j) (by rw [← HN'.out, ← HNN.out]; exact hlj)
            have hlj' : j < n' := by rw [← HNN.out]; exact hlj
            have l0 := World.block_lt_of_cell? _ _ c0
            have l0' := World.block_lt_of_cell? _ _ c0'
            have l2 := World.block_lt_of_cell? _ _ c20
            have l3 := World.block_lt_of_cell? _ _ c30
            simp only at l0 l0' l2 l3
            have HD2 := hide hd
            have HD2' := hide hd'
            have HST := hide hss
            have HST' := hide hss'
            clear hd hd' hss hss'
            go_wp2_with fail
            have l4 : w.heap.size < wr.heap.size := (HX1.out.below HB2.out).lt
            have l5 : W1.heap.size < wr.heap.size := (HX2.out.below HB2.out).lt
            have HBN : Hid (∀ A B, Below wr.heap.size wr ((wr.alloc A).alloc B).drew) := fun A B => below_drewN (bnew (bnew (Below.refl _ _) A) B) 1
            have HCL := hide hcl
            clear hcl
            go_upto_region 11 with fail
            go_cut [6, 7, 8] (fun s6 s7 s8 wx => s6 = .int .i64 (j : Nat) ∧ ∃ b7 b8, s7 = .pointer (some ⟨b7, 0, none⟩) ∧ s8 = .pointer (some ⟨b8, 0, none⟩) ∧ wx.cell? ⟨b7, 0, none⟩ = some (.int .i64 nx) ∧ wx.cell? ⟨b7, 1, none⟩ = some (.slice oa2 st.length c2) ∧ wx.cell? ⟨b8, 0, none⟩ = some (.int .i64 nx') ∧ wx.cell? ⟨b8, 1, none⟩ = some (.slice ob2 st'.length d2') ∧ Hid (Below wr.heap.size wr wx))
            case first =>
              go_wp2_with fail
              go_region
              all_goals (go_wp2_with fail; go_meet; exact ⟨rfl, _, _, rfl, rfl, by simp [go_sem], by simp [go_sem], by simp [go_sem], by simp [go_sem], HBN.out _ _⟩)
            case rest =>
              obtain ⟨rfl, b7, b8, rfl, rfl, x0, x1, y0, y1, HBX⟩ := hcut
              have HC := hide (sameOutputs_any st st' oa2 ob2 c2 d2' All wc ((HST.out.all outR_ok (by omega)).below outR_ok HBX.out) ((HST'.out.all outR_ok (by omega)).below outR_ok HBX.out) HCL.out hl22)
              have HB6 : Hid (Below wo.heap.size wo wc) := HBj.out.trans (HBX.out.mono HBj.out.size)
              by_cases hx : nx = nx'
              · have q5 : (nx != nx') = false := by simp [hx]
                have HXX := hide hx
                clear hx
                by_cases hst : st = st'
                · rw [decide_eq_true hst] at HC
                  have HYY := hide hst
                  clear hst
                  go_wp2_with (go_at_call 94; refine HC.out.mono ?_; rintro e w5 ⟨rfl, h5⟩; have H6 : Hid (Below wo.heap.size wo w5) := HB6.out.trans (h5.mono HB6.out.size); clear h5)
                  go_roundg (n - (j + 1))
                  case measure => have := HG.out; omega
                  case rel =>
                    refine ⟨j + 1, by omega, rfl, by go_num, ?_, H6⟩
                    show _ ↔ _
                    rw [HF.out, HD2.out, HD2'.out, HXX.out, HYY.out]; simp
                · rw [decide_eq_false hst] at HC
                  have HYY := hide hst
                  clear hst
                  go_wp2_with (go_at_call 94; refine HC.out.mono ?_; rintro e w5 ⟨rfl, h5⟩; have H6 : Hid (Below wo.heap.size wo w5) := HB6.out.trans (h5.mono HB6.out.size); clear h5)
                  go_ret
                  refine ⟨ret_bool ?_, HB.out.trans ((HBq.out.trans (H6.out.mono HBq.out.size)).mono HB.out.size)⟩
                  rw [HR.out]
                  symm
                  refine decide_eq_false fun h => HYY.out ?_
                  have h2 := HE.out.1 h
                  rw [HD.out, HD'.out] at h2
                  injection h2 with h2
                  have h3 := HF.out.1 h2
                  rw [HD2.out, HD2'.out] at h3
                  injection h3 with h3
                  injection h3
              · have q5 : (nx != nx') = true := by simp [hx]
                have HXX := hide hx
                clear hx
                go_wp2_with fail
                go_ret
                refine ⟨ret_bool ?_, HB.out.trans ((HBq.out.trans (HB6.out.mono HBq.out.size)).mono HB.out.size)⟩
                rw [HR.out]
                symm
                refine decide_eq_false fun h => HXX.out ?_
                have h2 := HE.out.1 h
                rw [HD.out, HD'.out] at h2
                injection h2 with h2
                have h3 := HF.out.1 h2
                rw [HD2.out, HD2'.out] at h3
                injection h3 with h3
                injection h3
          · go_wp2_with fail
            go_roundw
            case rel =>
              refine ⟨k + 1, by omega, by go_num, ?_, HB2⟩
              show _ ↔ _
              have hr : row = row' := HF.out.2 (by rw [List.drop_eq_nil_of_le (by have := HN.out; omega), List.drop_eq_nil_of_le (by have := HN'.out; have := HNN.out; omega)])
              rw [HE.out, HD.out, HD'.out, hr]; simp
            case measure => simp [intOf]; omega
      · have q4 : ((n : Int) != n') = true := by simp; omega
        have HNN := hide hnn
        clear hnn
        go_wp2_with fail
        go_quiet (fail)
        go_wp2_with fail
        go_ret
        refine ⟨ret_bool ?_, HB.out.trans ((below_drewN HBk.out _).mono HB.out.size)⟩
        rw [HR.out]
        symm
        refine decide_eq_false fun h => HNN.out ?_
        have h2 := HE.out.1 h
        rw [HD.out, HD'.out] at h2
        injection h2 with h2
        rw [HN.out, HN'.out, h2]
    · go_wp2_with fail
      go_ret
      refine ⟨ret_bool ?_, HB.out.trans (HBk.out.mono HB.out.size)⟩
      rw [HR.out]
      symm
      refine decide_eq_true (HE.out.2 ?_)
      rw [List.drop_eq_nil_of_le (by omega), List.drop_eq_nil_of_le (by have := HL.out; omega)]

end Go.Proofs.YtnigfddanoaonaaGreat

set_option linter.unusedVariables false
set_option linter.unusedSimpArgs false
namespace Go.Proofs.YtnigfddanoaonaaGreat
open Go.RowKit

theorem neq_len {a b : Nat} (h : a = b) : ((a : Int) != b) = false := by simp [h]
set_option maxHeartbeats 400000 in
theorem eqRul_any (nx nx' : Int) (st st' : List Out) (oa ob : Option Addr) (c d : Nat) (F G : Foot) (w : World) (hs : SliceR outR 2 F w oa st) (ht : SliceR outR 2 G w ob st') (hc : st.length ≤ c) (hc2 : st.length ≤ 9223372036854775807) :
    Calls Tryz.prog 59 #[.agg #[.int .i64 nx, .slice oa st.length c], .agg #[.int .i64 nx', .slice ob st'.length d]] w (SameB (decide ((⟨nx, st⟩ : Rul) = ⟨nx', st'⟩)) w) := by
  obtain ⟨W1, e1⟩ : ∃ W1, w.alloc (.cells #[.int .i64 nx, .slice oa st.length c] 99) = W1 := ⟨_, rfl⟩
  have bx1 : Box W1 w.heap.size [.int .i64 nx, .slice oa st.length c] 99 := by rw [← e1]; exact Box.new w [.int .i64 nx, .slice oa st.length c] 99
  have bb1 := bnew (Below.refl w.heap.size w) (.cells #[.int .i64 nx, .slice oa st.length c] 99)
  rw [e1] at bb1
  obtain ⟨W2, e2⟩ : ∃ W2, W1.alloc (.cells #[.int .i64 nx', .slice ob st'.length d] 99) = W2 := ⟨_, rfl⟩
  have bx2 : Box W2 W1.heap.size [.int .i64 nx', .slice ob st'.length d] 99 := by rw [← e2]; exact Box.new W1 [.int .i64 nx', .slice ob st'.length d] 99
  have bb2 := bnew (Below.refl W1.heap.size W1) (.cells #[.int .i64 nx', .slice ob st'.length d] 99)
  rw [e2] at bb2
  have hb0 := bb1.trans (bb2.mono bb1.size)
  have HB := hide hb0
  have bx1' := bx1.below bb2
  have d0 := bx1'.cell 0
  have d1 := bx1'.cell 1
  have f0 := bx2.cell 0
  have f1 := bx2.cell 1
  simp only [List.getElem?_cons_zero, List.getElem?_cons_succ] at d0 d1 f0 f1
  have HC := hide (equalOut_any st st' oa ob c d All W2 ((hs.below outR_ok hb0).all outR_ok (by omega)) ((ht.below outR_ok hb0).all outR_ok (by omega)) hc hc2)
  clear bx1 bx2 bx1' bb1 bb2 hb0 hs ht
  by_cases hx : nx = nx'
  · have q1 : (nx == nx') = true := by simp [hx]
    have HR : Hid (decide ((⟨nx, st⟩ : Rul) = ⟨nx', st'⟩) = decide (st = st')) := by
      show _ = _
      subst hx
      by_cases h : st = st'
      · simp [h]
      · rw [decide_eq_false h]; exact decide_eq_false fun g => h (by injection g)
    clear hx
    go_enter Tryz.func59, Tryz.ntmps59
    go_wp2_with (go_at_call 60; refine HC.out.mono ?_; rintro e w5 ⟨rfl, h5⟩)
    go_ret
    exact ⟨ret_bool HR.out.symm, HB.out.trans (h5.mono HB.out.size)⟩
  · have q1 : (nx == nx') = false := by simp [hx]
    have HR : Hid (decide ((⟨nx, st⟩ : Rul) = ⟨nx', st'⟩) = false) := decide_eq_false fun h => hx (by injection h)
    clear hx
    go_enter Tryz.func59, Tryz.ntmps59
    go_wp2_with fail
    go_ret
    exact ⟨ret_bool HR.out.symm, HB.out⟩

set_option maxHeartbeats 800000 in
theorem eqFRul_any (l m : List Rul) (oa ob : Option Addr) (c d : Nat) (F G : Foot) (w : World)  (hs : SliceR ruleR 2 F w oa l) (ht : SliceR ruleR 2 G w ob m) (hc2 : l.length ≤ 9223372036854775807) :
    Calls Tryz.prog 62 #[.slice oa l.length c, .slice ob m.length d, .func (.func 59) #[] #[]] w (SameB (decide (l = m)) w) := by
  by_cases hlen : l.length = m.length
  case neg =>
    have hl' : ((l.length : Int) != m.length) = true := by simp; omega
    have HL : Hid (decide (l = m) = false) := decide_eq_false fun h => hlen (by rw [h])
    clear hlen
    go_enter Tryz.func62, Tryz.ntmps62
    go_wp2_with fail
    go_ret; exact ⟨ret_bool HL.out.symm, Below.refl _ _⟩
  have hl' : ((l.length : Int) != m.length) = false := neq_len hlen
  have HL := hide hlen
  clear hlen
  go_enter Tryz.func62, Tryz.ntmps62
  go_wp2_with fail
  go_loopw [17] (fun i wr => ∃ k : Nat, k ≤ l.length ∧ i = .int .i64 k ∧ Hid (l = m ↔ l.drop k = m.drop k) ∧ Hid (Below w.heap.size w wr)) (fun i _ => l.length - (intOf i).toNat)
  case atStart => exact ⟨0, by omega, rfl, Iff.rfl, Below.refl _ _⟩
  case round =>
    obtain ⟨k, hk, rfl, HE, hb⟩ := hrel
    by_cases hlt : k < l.length
    · obtain ⟨nx, st, hd, _, _, b, off, oa2, c2, rfl, _, c20, c21, hcl, hl22, hss⟩ := (hs.below ruleR_ok hb.out).rule_at hlt
      have hlt2 : k < m.length := by rw [← HL.out]; exact hlt
      obtain ⟨nx', st', hd', _, _, b', off', ob2, d2, rfl, _, c30, c31, _, _, hss'⟩ := (ht.below ruleR_ok hb.out).rule_at hlt2
      have HD := hide hd
      have HD' := hide hd'
      have HBN : Hid (∀ A B, Below w.heap.size w ((wr.alloc A).alloc B)) := fun A B => bnew (bnew hb.out A) B
      have l3 := World.block_lt_of_cell? _ _ c30
      simp only at l3
      have HC := hide (fun A B => eqRul_any nx nx' st st' oa2 ob2 c2 d2 F G ((wr.alloc A).alloc B) (hss.below outR_ok (bnew (bnew (Below.refl _ _) A) B)) (hss'.below outR_ok (bnew (bnew (Below.refl _ _) A) B)) hcl hl22)
      clear hd hd' hs ht hss hss'
      by_cases hx : (⟨nx, st⟩ : Rul) = ⟨nx', st'⟩
      · rw [decide_eq_true hx] at HC
        have HX := hide hx
        obtain ⟨n0, hn0⟩ : ∃ n, n = st.length := ⟨_, rfl⟩
        rw [← hn0] at c21 HC
        clear hn0
        obtain ⟨n1, hn1⟩ : ∃ n, n = st'.length := ⟨_, rfl⟩
        rw [← hn1] at c31 HC
        clear hn1
        clear hx
        go_wp2_with (go_at_call 59; refine (HC.out _ _).mono ?_; rintro e w5 ⟨rfl, h5⟩; have HB5 := hide ((HBN.out _ _).trans (h5.mono (HBN.out _ _).size)); clear h5)
        go_roundw
        case rel =>
          refine ⟨k + 1, by omega, by go_num, ?_, HB5⟩
          show _ ↔ _
          rw [HE.out, HD.out, HD'.out, HX.out]; simp
        case measure => simp [intOf]; omega
      · rw [decide_eq_false hx] at HC
        have HX := hide hx
        obtain ⟨n0, hn0⟩ : ∃ n, n = st.length := ⟨_, rfl⟩
        rw [← hn0] at c21 HC
        clear hn0
        obtain ⟨n1, hn1⟩ : ∃ n, n = st'.length := ⟨_, rfl⟩
        rw [← hn1] at c31 HC
        clear hn1
        clear hx
        go_wp2_with (go_at_call 59; refine (HC.out _ _).mono ?_; rintro e w5 ⟨rfl, h5⟩; have HB5 := hide ((HBN.out _ _).trans (h5.mono (HBN.out _ _).size)); clear h5)
        go_ret
        refine ⟨ret_bool ?_, HB5.out⟩
        symm
        refine decide_eq_false fun h => HX.out ?_
        have h2 := HE.out.1 h
        rw [HD.out, HD'.out] at h2
        injection h2
    · go_wp2_with fail
      go_ret
      refine ⟨ret_bool ?_, hb.out⟩
      symm
      refine decide_eq_true (HE.out.2 ?_)
      rw [List.drop_eq_nil_of_le (by omega), List.drop_eq_nil_of_le (by have := HL.out; omega)]

theorem eqRow_any (l m : List Rul) (oa ob : Option Addr) (c d p : Nat) (F G : Foot) (w : World) (hp : w.cell? ⟨p, 0, none⟩ = some (.func (.func 59) #[] #[])) (hs : SliceR ruleR 2 F w oa l) (ht : SliceR ruleR 2 G w ob m) (hc2 : l.length ≤ 9223372036854775807) :
    Calls Tryz.prog 61 #[.slice oa l.length c, .slice ob m.length d, .pointer (some ⟨p, 0, none⟩)] w (SameB (decide (l = m)) w) := by
  have HC := hide (eqFRul_any l m oa ob c d F G w hs ht hc2)
  clear hs ht
  go_enter Tryz.func61, Tryz.ntmps61
  go_wp2_with (go_at_call 62; refine HC.out.mono ?_; rintro e w5 ⟨rfl, h5⟩)
  go_ret
  exact ⟨rfl, h5⟩

set_option maxHeartbeats 800000 in
theorem eqFRow_any (l m : List (List Rul)) (oa ob : Option Addr) (c d : Nat) (F G : Foot) (w : World) (p : Nat) (hp : w.cell? ⟨p, 0, none⟩ = some (.func (.func 59) #[] #[])) (hs : SliceR (slcR ruleR 2) 1 F w oa l) (ht : SliceR (slcR ruleR 2) 1 G w ob m) (hc2 : l.length ≤ 9223372036854775807) :
    Calls Tryz.prog 64 #[.slice oa l.length c, .slice ob m.length d, .func (.func 61) #[] #[.pointer (some ⟨p, 0, none⟩)]] w (SameB (decide (l = m)) w) := by
  by_cases hlen : l.length = m.length
  case neg =>
    have hl' : ((l.length : Int) != m.length) = true := by simp; omega
    have HL : Hid (decide (l = m) = false) := decide_eq_false fun h => hlen (by rw [h])
    clear hlen
    go_enter Tryz.func64, Tryz.ntmps64
    go_wp2_with fail
    go_ret; exact ⟨ret_bool HL.out.symm, Below.refl _ _⟩
  have hl' : ((l.length : Int) != m.length) = false := neq_len hlen
  have HL := hide hlen
  clear hlen
  go_enter Tryz.func64, Tryz.ntmps64
  go_wp2_with fail
  go_loopw [17] (fun i wr => ∃ k : Nat, k ≤ l.length ∧ i = .int .i64 k ∧ Hid (l = m ↔ l.drop k = m.drop k) ∧ Hid (Below w.heap.size w wr)) (fun i _ => l.length - (intOf i).toNat)
  case atStart => exact ⟨0, by omega, rfl, Iff.rfl, Below.refl _ _⟩
  case round =>
    obtain ⟨k, hk, rfl, HE, hb⟩ := hrel
    by_cases hlt : k < l.length
    · have hpk := (hb.out.cell (World.block_lt_of_cell? _ _ hp)).trans hp
      obtain ⟨x, hd, _, b, off, oa', c', rfl, _, c0, _, hl2, hss⟩ := (hs.below rowR_ok hb.out).slc_at hlt
      have hlt2 : k < m.length := by rw [← HL.out]; exact hlt
      obtain ⟨x', hd', _, b', off', ob', d', rfl, _, c0', _, _, hss'⟩ := (ht.below rowR_ok hb.out).slc_at hlt2
      have HD := hide hd
      have HD' := hide hd'
      have HC := hide (eqRow_any x x' oa' ob' c' d' p F G wr hpk hss hss' hl2)
      clear hd hd' hs ht hss hss'
      by_cases hx : x = x'
      · rw [decide_eq_true hx] at HC
        have HX := hide hx
        obtain ⟨n0, hn0⟩ : ∃ n, n = x.length := ⟨_, rfl⟩
        rw [← hn0] at c0 HC
        clear hn0
        obtain ⟨n1, hn1⟩ : ∃ n, n = x'.length := ⟨_, rfl⟩
        rw [← hn1] at c0' HC
        clear hn1
        clear hx
        go_wp2_with (go_at_call 61; refine (HC.out).mono ?_; rintro e w5 ⟨rfl, h5⟩; have HB5 := hide (hb.out.trans (h5.mono hb.out.size)); clear h5)
        go_roundw
        case rel =>
          refine ⟨k + 1, by omega, by go_num, ?_, HB5⟩
          show _ ↔ _
          rw [HE.out, HD.out, HD'.out, HX.out]; simp
        case measure => simp [intOf]; omega
      · rw [decide_eq_false hx] at HC
        have HX := hide hx
        obtain ⟨n0, hn0⟩ : ∃ n, n = x.length := ⟨_, rfl⟩
        rw [← hn0] at c0 HC
        clear hn0
        obtain ⟨n1, hn1⟩ : ∃ n, n = x'.length := ⟨_, rfl⟩
        rw [← hn1] at c0' HC
        clear hn1
        clear hx
        go_wp2_with (go_at_call 61; refine (HC.out).mono ?_; rintro e w5 ⟨rfl, h5⟩; have HB5 := hide (hb.out.trans (h5.mono hb.out.size)); clear h5)
        go_ret
        refine ⟨ret_bool ?_, HB5.out⟩
        symm
        refine decide_eq_false fun h => HX.out ?_
        have h2 := HE.out.1 h
        rw [HD.out, HD'.out] at h2
        injection h2
    · go_wp2_with fail
      go_ret
      refine ⟨ret_bool ?_, hb.out⟩
      symm
      refine decide_eq_true (HE.out.2 ?_)
      rw [List.drop_eq_nil_of_le (by omega), List.drop_eq_nil_of_le (by have := HL.out; omega)]

set_option maxHeartbeats 800000 in
theorem eqPrc_any (S S' L L' : Int) (rs rs' : List (List Rul)) (oa ob : Option Addr) (c d p1 p2 : Nat) (F G : Foot) (w : World) (hp1 : w.cell? ⟨p1, 0, none⟩ = some (.func (.func 59) #[] #[])) (hp2 : w.cell? ⟨p2, 0, none⟩ = some (.func (.func 61) #[] #[.pointer (some ⟨p1, 0, none⟩)]))
    (hs : SliceR (slcR ruleR 2) 1 F w oa rs) (ht : SliceR (slcR ruleR 2) 1 G w ob rs') (hc2 : rs.length ≤ 9223372036854775807) :
    Calls Tryz.prog 63 #[.agg #[.int .i64 S, .int .i64 L, .slice oa rs.length c], .agg #[.int .i64 S', .int .i64 L', .slice ob rs'.length d], .pointer (some ⟨p2, 0, none⟩)] w (SameB (decide ((⟨S, L, rs⟩ : Prc) = ⟨S', L', rs'⟩)) w) := by
  obtain ⟨W1, e1⟩ : ∃ W1, w.alloc (.cells #[.int .i64 S, .int .i64 L, .slice oa rs.length c] 89) = W1 := ⟨_, rfl⟩
  have bx1 : Box W1 w.heap.size [.int .i64 S, .int .i64 L, .slice oa rs.length c] 89 := by rw [← e1]; exact Box.new w [.int .i64 S, .int .i64 L, .slice oa rs.length c] 89
  have bb1 := bnew (Below.refl w.heap.size w) (.cells #[.int .i64 S, .int .i64 L, .slice oa rs.length c] 89)
  rw [e1] at bb1
  obtain ⟨W2, e2⟩ : ∃ W2, W1.alloc (.cells #[.int .i64 S', .int .i64 L', .slice ob rs'.length d] 89) = W2 := ⟨_, rfl⟩
  have bx2 : Box W2 W1.heap.size [.int .i64 S', .int .i64 L', .slice ob rs'.length d] 89 := by rw [← e2]; exact Box.new W1 [.int .i64 S', .int .i64 L', .slice ob rs'.length d] 89
  have bb2 := bnew (Below.refl W1.heap.size W1) (.cells #[.int .i64 S', .int .i64 L', .slice ob rs'.length d] 89)
  rw [e2] at bb2
  have hb0 := bb1.trans (bb2.mono bb1.size)
  have HB := hide hb0
  have bx1' := bx1.below bb2
  have d0 := bx1'.cell 0
  have d1 := bx1'.cell 1
  have d2 := bx1'.cell 2
  have f0 := bx2.cell 0
  have f1 := bx2.cell 1
  have f2 := bx2.cell 2
  simp only [List.getElem?_cons_zero, List.getElem?_cons_succ] at d0 d1 d2 f0 f1 f2
  have k1 := (hb0.cell (World.block_lt_of_cell? _ _ hp1)).trans hp1
  have k2 := (hb0.cell (World.block_lt_of_cell? _ _ hp2)).trans hp2
  have HC := hide (eqFRow_any rs rs' oa ob c d F G W2 p1 k1 (hs.below rowR_ok hb0) (ht.below rowR_ok hb0) hc2)
  clear bx1 bx2 bx1' bb1 bb2 hb0 hs ht hp1 hp2 k1
  by_cases hx : S = S'
  · have q1 : (S == S') = true := by simp [hx]
    by_cases hy : L = L'
    · have q2 : (L == L') = true := by simp [hy]
      have HR : Hid (decide ((⟨S, L, rs⟩ : Prc) = ⟨S', L', rs'⟩) = decide (rs = rs')) := by
        show _ = _
        subst hx hy
        by_cases h : rs = rs'
        · simp [h]
        · rw [decide_eq_false h]; exact decide_eq_false fun g => h (by injection g)
      clear hx hy
      go_enter Tryz.func63, Tryz.ntmps63
      go_wp2_with (go_at_call 64; refine HC.out.mono ?_; rintro e w5 ⟨rfl, h5⟩)
      go_ret
      exact ⟨ret_bool HR.out.symm, HB.out.trans (h5.mono HB.out.size)⟩
    · have q2 : (L == L') = false := by simp [hy]
      have HR : Hid (decide ((⟨S, L, rs⟩ : Prc) = ⟨S', L', rs'⟩) = false) := decide_eq_false fun h => hy (by injection h)
      clear hx hy
      go_enter Tryz.func63, Tryz.ntmps63
      go_wp2_with fail
      go_ret
      exact ⟨ret_bool HR.out.symm, HB.out⟩
  · have q1 : (S == S') = false := by simp [hx]
    have HR : Hid (decide ((⟨S, L, rs⟩ : Prc) = ⟨S', L', rs'⟩) = false) := decide_eq_false fun h => hx (by injection h)
    clear hx
    go_enter Tryz.func63, Tryz.ntmps63
    go_wp2_with fail
    go_ret
    exact ⟨ret_bool HR.out.symm, HB.out⟩

set_option maxHeartbeats 800000 in
theorem eqFPrc_any (l m : List Prc) (oa ob : Option Addr) (c d : Nat) (F G : Foot) (w : World) (p1 p2 : Nat) (hp1 : w.cell? ⟨p1, 0, none⟩ = some (.func (.func 59) #[] #[])) (hp2 : w.cell? ⟨p2, 0, none⟩ = some (.func (.func 61) #[] #[.pointer (some ⟨p1, 0, none⟩)])) (hs : SliceR prcR 3 F w oa l) (ht : SliceR prcR 3 G w ob m) (hc2 : l.length ≤ 9223372036854775807) :
    Calls Tryz.prog 65 #[.slice oa l.length c, .slice ob m.length d, .func (.func 63) #[] #[.pointer (some ⟨p2, 0, none⟩)]] w (SameB (decide (l = m)) w) := by
  by_cases hlen : l.length = m.length
  case neg =>
    have hl' : ((l.length : Int) != m.length) = true := by simp; omega
    have HL : Hid (decide (l = m) = false) := decide_eq_false fun h => hlen (by rw [h])
    clear hlen
    go_enter Tryz.func65, Tryz.ntmps65
    go_wp2_with fail
    go_ret; exact ⟨ret_bool HL.out.symm, Below.refl _ _⟩
  have hl' : ((l.length : Int) != m.length) = false := neq_len hlen
  have HL := hide hlen
  clear hlen
  go_enter Tryz.func65, Tryz.ntmps65
  go_wp2_with fail
  go_loopw [17] (fun i wr => ∃ k : Nat, k ≤ l.length ∧ i = .int .i64 k ∧ Hid (l = m ↔ l.drop k = m.drop k) ∧ Hid (Below w.heap.size w wr)) (fun i _ => l.length - (intOf i).toNat)
  case atStart => exact ⟨0, by omega, rfl, Iff.rfl, Below.refl _ _⟩
  case round =>
    obtain ⟨k, hk, rfl, HE, hb⟩ := hrel
    by_cases hlt : k < l.length
    · have hpk := (hb.out.cell (World.block_lt_of_cell? _ _ hp1)).trans hp1
      have hpk2 := (hb.out.cell (World.block_lt_of_cell? _ _ hp2)).trans hp2
      obtain ⟨S5, L5, rs5, b7, off7, oa7, c7, hd, _, rfl, _, y0, y1, y2, _, _, hrc, hrc2, hss⟩ := (hs.below prcR_ok hb.out).prc_at hlt
      have hlt2 : k < m.length := by rw [← HL.out]; exact hlt
      obtain ⟨S6, L6, rs6, b8, off8, oa8, c8, hd', _, rfl, _, z0, z1, z2, _, _, _, _, hss'⟩ := (ht.below prcR_ok hb.out).prc_at hlt2
      have HD := hide hd
      have HD' := hide hd'
      have HBN : Hid (∀ A B, Below w.heap.size w ((wr.alloc A).alloc B)) := fun A B => bnew (bnew hb.out A) B
      have l3 := World.block_lt_of_cell? _ _ z0
      simp only at l3
      have HC := hide (fun A B => eqPrc_any S5 S6 L5 L6 rs5 rs6 oa7 oa8 c7 c8 p1 p2 F G ((wr.alloc A).alloc B) (((bnew (bnew (Below.refl _ _) A) B).cell (World.block_lt_of_cell? _ _ hpk)).trans hpk) (((bnew (bnew (Below.refl _ _) A) B).cell (World.block_lt_of_cell? _ _ hpk2)).trans hpk2) (hss.below rowR_ok (bnew (bnew (Below.refl _ _) A) B)) (hss'.below rowR_ok (bnew (bnew (Below.refl _ _) A) B)) hrc2)
      clear hd hd' hs ht hss hss'
      by_cases hx : (⟨S5, L5, rs5⟩ : Prc) = ⟨S6, L6, rs6⟩
      · rw [decide_eq_true hx] at HC
        have HX := hide hx
        obtain ⟨n0, hn0⟩ : ∃ n, n = rs5.length := ⟨_, rfl⟩
        rw [← hn0] at y2 HC
        clear hn0
        obtain ⟨n1, hn1⟩ : ∃ n, n = rs6.length := ⟨_, rfl⟩
        rw [← hn1] at z2 HC
        clear hn1
        clear hx
        go_wp2_with (go_at_call 63; refine (HC.out _ _).mono ?_; rintro e w5 ⟨rfl, h5⟩; have HB5 := hide ((HBN.out _ _).trans (h5.mono (HBN.out _ _).size)); clear h5)
        go_roundw
        case rel =>
          refine ⟨k + 1, by omega, by go_num, ?_, HB5⟩
          show _ ↔ _
          rw [HE.out, HD.out, HD'.out, HX.out]; simp
        case measure => simp [intOf]; omega
      · rw [decide_eq_false hx] at HC
        have HX := hide hx
        obtain ⟨n0, hn0⟩ : ∃ n, n = rs5.length := ⟨_, rfl⟩
        rw [← hn0] at y2 HC
        clear hn0
        obtain ⟨n1, hn1⟩ : ∃ n, n = rs6.length := ⟨_, rfl⟩
        rw [← hn1] at z2 HC
        clear hn1
        clear hx
        go_wp2_with (go_at_call 63; refine (HC.out _ _).mono ?_; rintro e w5 ⟨rfl, h5⟩; have HB5 := hide ((HBN.out _ _).trans (h5.mono (HBN.out _ _).size)); clear h5)
        go_ret
        refine ⟨ret_bool ?_, HB5.out⟩
        symm
        refine decide_eq_false fun h => HX.out ?_
        have h2 := HE.out.1 h
        rw [HD.out, HD'.out] at h2
        injection h2
    · go_wp2_with fail
      go_ret
      refine ⟨ret_bool ?_, hb.out⟩
      symm
      refine decide_eq_true (HE.out.2 ?_)
      rw [List.drop_eq_nil_of_le (by omega), List.drop_eq_nil_of_le (by have := HL.out; omega)]

set_option maxHeartbeats 800000 in
theorem eqFInt_any (l m : List (List Int)) (oa ob : Option Addr) (c d : Nat) (F G : Foot) (w : World)  (hs : SliceR (slcR intR 1) 1 F w oa l) (ht : SliceR (slcR intR 1) 1 G w ob m) (hc2 : l.length ≤ 9223372036854775807) :
    Calls Tryz.prog 66 #[.slice oa l.length c, .slice ob m.length d, .func (.func 32) #[] #[]] w (SameB (decide (l = m)) w) := by
  by_cases hlen : l.length = m.length
  case neg =>
    have hl' : ((l.length : Int) != m.length) = true := by simp; omega
    have HL : Hid (decide (l = m) = false) := decide_eq_false fun h => hlen (by rw [h])
    clear hlen
    go_enter Tryz.func66, Tryz.ntmps66
    go_wp2_with fail
    go_ret; exact ⟨ret_bool HL.out.symm, Below.refl _ _⟩
  have hl' : ((l.length : Int) != m.length) = false := neq_len hlen
  have HL := hide hlen
  clear hlen
  go_enter Tryz.func66, Tryz.ntmps66
  go_wp2_with fail
  go_loopw [17] (fun i wr => ∃ k : Nat, k ≤ l.length ∧ i = .int .i64 k ∧ Hid (l = m ↔ l.drop k = m.drop k) ∧ Hid (Below w.heap.size w wr)) (fun i _ => l.length - (intOf i).toNat)
  case atStart => exact ⟨0, by omega, rfl, Iff.rfl, Below.refl _ _⟩
  case round =>
    obtain ⟨k, hk, rfl, HE, hb⟩ := hrel
    by_cases hlt : k < l.length
    · obtain ⟨x, hd, _, b, off, oa', c', rfl, _, c0, hl1, hl2, hss⟩ := (hs.below (slcR_ok intR_ok (by decide)) hb.out).slc_at hlt
      have hlt2 : k < m.length := by rw [← HL.out]; exact hlt
      obtain ⟨x', hd', _, b', off', ob', d', rfl, _, c0', _, _, hss'⟩ := (ht.below (slcR_ok intR_ok (by decide)) hb.out).slc_at hlt2
      have HD := hide hd
      have HD' := hide hd'
      have HC := hide (equalInt_any x x' oa' ob' c' d' All wr (hss.all intR_ok (by omega)) (hss'.all intR_ok (by omega)) hl1 hl2)
      clear hd hd' hs ht hss hss'
      by_cases hx : x = x'
      · rw [decide_eq_true hx] at HC
        have HX := hide hx
        obtain ⟨n0, hn0⟩ : ∃ n, n = x.length := ⟨_, rfl⟩
        rw [← hn0] at c0 HC
        clear hn0
        obtain ⟨n1, hn1⟩ : ∃ n, n = x'.length := ⟨_, rfl⟩
        rw [← hn1] at c0' HC
        clear hn1
        clear hx
        go_wp2_with (go_at_call 32; refine (HC.out).mono ?_; rintro e w5 ⟨rfl, h5⟩; have HB5 := hide (hb.out.trans (h5.mono hb.out.size)); clear h5)
        go_roundw
        case rel =>
          refine ⟨k + 1, by omega, by go_num, ?_, HB5⟩
          show _ ↔ _
          rw [HE.out, HD.out, HD'.out, HX.out]; simp
        case measure => simp [intOf]; omega
      · rw [decide_eq_false hx] at HC
        have HX := hide hx
        obtain ⟨n0, hn0⟩ : ∃ n, n = x.length := ⟨_, rfl⟩
        rw [← hn0] at c0 HC
        clear hn0
        obtain ⟨n1, hn1⟩ : ∃ n, n = x'.length := ⟨_, rfl⟩
        rw [← hn1] at c0' HC
        clear hn1
        clear hx
        go_wp2_with (go_at_call 32; refine (HC.out).mono ?_; rintro e w5 ⟨rfl, h5⟩; have HB5 := hide (hb.out.trans (h5.mono hb.out.size)); clear h5)
        go_ret
        refine ⟨ret_bool ?_, HB5.out⟩
        symm
        refine decide_eq_false fun h => HX.out ?_
        have h2 := HE.out.1 h
        rw [HD.out, HD'.out] at h2
        injection h2
    · go_wp2_with fail
      go_ret
      refine ⟨ret_bool ?_, hb.out⟩
      symm
      refine decide_eq_true (HE.out.2 ?_)
      rw [List.drop_eq_nil_of_le (by omega), List.drop_eq_nil_of_le (by have := HL.out; omega)]

end Go.Proofs.YtnigfddanoaonaaGreat

set_option linter.unusedVariables false
set_option linter.unusedSimpArgs false
namespace Go.Proofs.YtnigfddanoaonaaGreat
open Go.RowKit

theorem store_func (w : World) (t : TypeId) (f : Fn) (pre cap : Array Value) : Sem.run Tryz.prog (store ⟨w.heap.size, 0, none⟩ (.func f pre cap)) (w.alloc (.cells #[.nilFunc] t)) = .ok () (w.alloc (.cells #[.func f pre cap] t)) := by
  rw [run_store _ _ _ _ _ rfl]
  simp [go_sem]

set_option maxRecDepth 100000 in
set_option maxHeartbeats 2000000 in
theorem nsame_any (x y : Nwk) (op os ow oq ot ov : Option Addr) (cp cs cw cq ct cv : Nat) (w : World)
    (hp : SliceR prcR 3 All w op x.procs) (hs : SliceR intR 1 All w os x.state) (ht : SliceR (slcR intR 1) 1 All w ow x.waiting) (hq : SliceR prcR 3 All w oq y.procs) (hu0 : SliceR intR 1 All w ot y.state) (hv : SliceR (slcR intR 1) 1 All w ov y.waiting)
    (hp2 : x.procs.length ≤ 9223372036854775807) (hsc : x.state.length ≤ cs) (hs2 : x.state.length ≤ 9223372036854775807) (ht2 : x.waiting.length ≤ 9223372036854775807) :
    Calls Tryz.prog 21 #[.agg #[.slice op x.procs.length cp, .slice os x.state.length cs, .slice ow x.waiting.length cw], .agg #[.slice oq y.procs.length cq, .slice ot y.state.length ct, .slice ov y.waiting.length cv]] w (SameB (decide (x = y)) w) := by
  obtain ⟨ps, st, wt⟩ := x
  obtain ⟨ps', st', wt'⟩ := y
  simp only at hp hs ht hq hu0 hv hp2 hs2 ht2 hsc ⊢
  obtain ⟨W1, e1⟩ : ∃ W1, w.alloc (.cells #[.slice op ps.length cp, .slice os st.length cs, .slice ow wt.length cw] 26) = W1 := ⟨_, rfl⟩
  have bx1 : Box W1 w.heap.size [.slice op ps.length cp, .slice os st.length cs, .slice ow wt.length cw] 26 := by rw [← e1]; exact Box.new w [.slice op ps.length cp, .slice os st.length cs, .slice ow wt.length cw] 26
  have bb1 := bnew (Below.refl w.heap.size w) (.cells #[.slice op ps.length cp, .slice os st.length cs, .slice ow wt.length cw] 26)
  rw [e1] at bb1
  obtain ⟨W2, e2⟩ : ∃ W2, W1.alloc (.cells #[.slice oq ps'.length cq, .slice ot st'.length ct, .slice ov wt'.length cv] 26) = W2 := ⟨_, rfl⟩
  have bx2 : Box W2 W1.heap.size [.slice oq ps'.length cq, .slice ot st'.length ct, .slice ov wt'.length cv] 26 := by rw [← e2]; exact Box.new W1 [.slice oq ps'.length cq, .slice ot st'.length ct, .slice ov wt'.length cv] 26
  have bb2 := bnew (Below.refl W1.heap.size W1) (.cells #[.slice oq ps'.length cq, .slice ot st'.length ct, .slice ov wt'.length cv] 26)
  rw [e2] at bb2
  have HB := hide (bb1.trans (bb2.mono bb1.size))
  have HX1 := hide (bx1.below bb2)
  have HX2 := hide bx2
  have HF : Hid (∀ u, Below W2.heap.size W2 u → u.cell? ⟨w.heap.size, 0, none⟩ = some (.slice op ps.length cp) ∧ u.cell? ⟨w.heap.size, 1, none⟩ = some (.slice os st.length cs) ∧ u.cell? ⟨w.heap.size, 2, none⟩ = some (.slice ow wt.length cw) ∧ u.cell? ⟨W1.heap.size, 0, none⟩ = some (.slice oq ps'.length cq) ∧ u.cell? ⟨W1.heap.size, 1, none⟩ = some (.slice ot st'.length ct) ∧ u.cell? ⟨W1.heap.size, 2, none⟩ = some (.slice ov wt'.length cv)) := fun u hu => by
    have d0 := (HX1.out.below hu).cell 0
    have d1 := (HX1.out.below hu).cell 1
    have d2 := (HX1.out.below hu).cell 2
    have f0 := (HX2.out.below hu).cell 0
    have f1 := (HX2.out.below hu).cell 1
    have f2 := (HX2.out.below hu).cell 2
    simp only [List.getElem?_cons_zero, List.getElem?_cons_succ] at d0 d1 d2 f0 f1 f2
    exact ⟨d0, d1, d2, f0, f1, f2⟩
  have HP : Hid (∀ u p1 p2, Below W2.heap.size W2 u → u.cell? ⟨p1, 0, none⟩ = some (.func (.func 59) #[] #[]) → u.cell? ⟨p2, 0, none⟩ = some (.func (.func 61) #[] #[.pointer (some ⟨p1, 0, none⟩)]) →
      Calls Tryz.prog 65 #[.slice op ps.length cp, .slice oq ps'.length cq, .func (.func 63) #[] #[.pointer (some ⟨p2, 0, none⟩)]] u (SameB (decide (ps = ps')) u)) := fun u p1 p2 hu h1 h2 =>
    eqFPrc_any ps ps' op oq cp cq All All u p1 p2 h1 h2 (hp.below prcR_ok (HB.out.trans (hu.mono HB.out.size))) (hq.below prcR_ok (HB.out.trans (hu.mono HB.out.size))) hp2
  have HS : Hid (∀ u, Below W2.heap.size W2 u → Calls Tryz.prog 32 #[.slice os st.length cs, .slice ot st'.length ct] u fun e w' => e = .returned (.bool (decide (st = st'))) ∧ Below u.heap.size u w') := fun u hu =>
    equalInt_any st st' os ot cs ct All u (hs.below intR_ok (HB.out.trans (hu.mono HB.out.size))) (hu0.below intR_ok (HB.out.trans (hu.mono HB.out.size))) hsc hs2
  have HT : Hid (∀ u, Below W2.heap.size W2 u → Calls Tryz.prog 66 #[.slice ow wt.length cw, .slice ov wt'.length cv, .func (.func 32) #[] #[]] u (SameB (decide (wt = wt')) u)) := fun u hu =>
    eqFInt_any wt wt' ow ov cw cv All All u (ht.below (slcR_ok intR_ok (by decide)) (HB.out.trans (hu.mono HB.out.size))) (hv.below (slcR_ok intR_ok (by decide)) (HB.out.trans (hu.mono HB.out.size))) ht2
  obtain ⟨d0, d1, d2, f0, f1, f2⟩ := HF.out W2 (Below.refl _ _)
  obtain ⟨n, hn⟩ : ∃ n, n = ps.length := ⟨_, rfl⟩
  obtain ⟨n', hn'⟩ : ∃ n, n = ps'.length := ⟨_, rfl⟩
  obtain ⟨m, hm⟩ : ∃ n, n = st.length := ⟨_, rfl⟩
  obtain ⟨m', hm'⟩ : ∃ n, n = st'.length := ⟨_, rfl⟩
  obtain ⟨k, hk⟩ : ∃ n, n = wt.length := ⟨_, rfl⟩
  obtain ⟨k', hk'⟩ : ∃ n, n = wt'.length := ⟨_, rfl⟩
  rw [← hn, ← hm, ← hk, ← hn', ← hm', ← hk'] at HF
  rw [← hn, ← hn'] at HP
  rw [← hm, ← hm'] at HS
  rw [← hk, ← hk'] at HT
  rw [← hn] at d0 ⊢
  rw [← hn'] at f0 ⊢
  rw [← hm] at d1 ⊢
  rw [← hm'] at f1 ⊢
  rw [← hk] at d2 ⊢
  rw [← hk'] at f2 ⊢
  have HW1 := hide e1
  have HW2 := hide e2
  rw [← hn, ← hm, ← hk] at HW1
  rw [← hn', ← hm', ← hk'] at HW2
  clear hp hs ht hq hu0 hv hp2 hs2 ht2 hsc bx1 bx2 bb1 bb2 hn hn' hm hm' hk hk' e1 e2
  have e1 := HW1.out
  have e2 := HW2.out
  clear HW1 HW2
  have HBN : Hid (∀ A B, Below W2.heap.size W2 ((W2.alloc A).alloc B)) := fun A B => bnew (bnew (Below.refl _ _) A) B
  have l1 : w.heap.size < W2.heap.size := HX1.out.lt
  have l2 : W1.heap.size < W2.heap.size := HX2.out.lt
  have g1 := store_func W2 111 (.func 59) #[] #[]
  have g2 := store_func (W2.alloc (.cells #[.func (.func 59) #[] #[]] 111)) 113 (.func 61) #[] #[.pointer (some ⟨W2.heap.size, 0, none⟩)]
  simp only [World.size_alloc] at g2
  by_cases h1 : ps = ps'
  case neg =>
    rw [decide_eq_false h1] at HP
    have HR : Hid (decide ((⟨ps, st, wt⟩ : Nwk) = ⟨ps', st', wt'⟩) = false) := decide_eq_false fun h => h1 (by injection h)
    clear h1
    go_enter Tryz.func21, Tryz.ntmps21
    go_wp2_with (go_at_call 65; refine (HP.out _ W2.heap.size (W2.heap.size + 1) (HBN.out _ _) (by simp [go_sem]) (by simp [go_sem])).mono ?_; rintro e w5 ⟨rfl, h5⟩)
    go_ret
    exact ⟨ret_bool HR.out.symm, HB.out.trans (((HBN.out _ _).trans (h5.mono (HBN.out _ _).size)).mono HB.out.size)⟩
  rw [decide_eq_true h1] at HP
  have H1 := hide h1
  clear h1
  by_cases h2 : st = st'
  case neg =>
    rw [decide_eq_false h2] at HS
    have HR : Hid (decide ((⟨ps, st, wt⟩ : Nwk) = ⟨ps', st', wt'⟩) = false) := decide_eq_false fun h => h2 (by injection h)
    clear h2
    go_enter Tryz.func21, Tryz.ntmps21
    go_wp2_with (first
      | (go_at_call 65; refine (HP.out _ W2.heap.size (W2.heap.size + 1) (HBN.out _ _) (by simp [go_sem]) (by simp [go_sem])).mono ?_; rintro e w5 ⟨rfl, h5⟩; have HB5 := hide ((HBN.out _ _).trans (h5.mono (HBN.out _ _).size)); obtain ⟨_, d1, d2, _, f1, f2⟩ := HF.out _ HB5.out; clear h5)
      | (go_at_call 32; refine (HS.out _ HB5.out).mono ?_; rintro e w6 ⟨rfl, h6⟩))
    go_ret
    exact ⟨ret_bool HR.out.symm, HB.out.trans ((HB5.out.trans (h6.mono HB5.out.size)).mono HB.out.size)⟩
  rw [decide_eq_true h2] at HS
  have HR : Hid (decide ((⟨ps, st, wt⟩ : Nwk) = ⟨ps', st', wt'⟩) = decide (wt = wt')) := by
    show _ = _
    rw [H1.out, h2]
    by_cases h : wt = wt'
    · simp [h]
    · rw [decide_eq_false h]; exact decide_eq_false fun g => h (by injection g)
  clear h2
  go_enter Tryz.func21, Tryz.ntmps21
  go_wp2_with (first
    | (go_at_call 65; refine (HP.out _ W2.heap.size (W2.heap.size + 1) (HBN.out _ _) (by simp [go_sem]) (by simp [go_sem])).mono ?_; rintro e w5 ⟨rfl, h5⟩; have HB5 := hide ((HBN.out _ _).trans (h5.mono (HBN.out _ _).size)); obtain ⟨_, d1, d2, _, f1, f2⟩ := HF.out _ HB5.out; clear h5)
    | (go_at_call 32; refine (HS.out _ HB5.out).mono ?_; rintro e w6 ⟨rfl, h6⟩; have HB6 := hide (HB5.out.trans (h6.mono HB5.out.size)); obtain ⟨_, _, d2, _, _, f2⟩ := HF.out _ HB6.out; clear h6)
    | (go_at_call 66; refine (HT.out _ HB6.out).mono ?_; rintro e w7 ⟨rfl, h7⟩))
  go_ret
  exact ⟨ret_bool HR.out.symm, HB.out.trans ((HB6.out.trans (h7.mono HB6.out.size)).mono HB.out.size)⟩

end Go.Proofs.YtnigfddanoaonaaGreat

set_option linter.unusedVariables false
set_option linter.unusedSimpArgs false
namespace Go.Proofs.YtnigfddanoaonaaGreat
open Go.RowKit

set_option maxRecDepth 100000 in
set_option maxHeartbeats 2000000 in
theorem rsame55_any (x y : Nwk) (op os ow oq ot ov : Option Addr) (cp cs cw cq ct cv : Nat) (F G : Foot) (w : World)
    (hp : SliceR prcR 3 F w op x.procs) (hs : SliceR intR 1 F w os x.state) (ht : SliceR (slcR intR 1) 1 F w ow x.waiting) (hq : SliceR prcR 3 G w oq y.procs) (hu : SliceR intR 1 G w ot y.state) (hv : SliceR (slcR intR 1) 1 G w ov y.waiting)
    (hp2 : x.procs.length ≤ 9223372036854775807) (hs2 : x.state.length ≤ 9223372036854775807) (ht2 : x.waiting.length ≤ 9223372036854775807) :
    Calls Tryz.prog 14 #[.agg #[.slice op x.procs.length cp, .slice os x.state.length cs, .slice ow x.waiting.length cw], .agg #[.slice oq y.procs.length cq, .slice ot y.state.length ct, .slice ov y.waiting.length cv]] w (SameB (decide (x = y)) w) := by
  obtain ⟨ps, st, wt⟩ := x
  obtain ⟨ps', st', wt'⟩ := y
  simp only at hp hs ht hq hu hv hp2 hs2 ht2 ⊢
  obtain ⟨n, hn⟩ : ∃ n, n = ps.length := ⟨_, rfl⟩
  obtain ⟨m, hm⟩ : ∃ n, n = ps'.length := ⟨_, rfl⟩
  have HN := hide hn
  have HM := hide hm
  have HC1 : Hid (∀ W, Below w.heap.size w W → Calls Tryz.prog 47 #[.slice os st.length cs, .slice ot st'.length ct] W (SameB (decide (st = st')) W)) := fun W h => (sameInts08_any st st' os ot cs ct F G W (hs.below intR_ok h) (hu.below intR_ok h) hs2).mono fun e w' h => h.below
  have HC2 : Hid (∀ W, Below w.heap.size w W → Calls Tryz.prog 15 #[.slice ow wt.length cw, .slice ov wt'.length cv] W (SameB (decide (wt = wt')) W)) := fun W h => (sameTables_any wt wt' ow ov cw cv F G W (ht.below tabR_ok h) (hv.below tabR_ok h) ht2).mono fun e w' h => h.below
  obtain ⟨ns, hns⟩ : ∃ n, n = st.length := ⟨_, rfl⟩
  obtain ⟨ns', hns'⟩ : ∃ n, n = st'.length := ⟨_, rfl⟩
  obtain ⟨nw, hnw⟩ : ∃ n, n = wt.length := ⟨_, rfl⟩
  obtain ⟨nw', hnw'⟩ : ∃ n, n = wt'.length := ⟨_, rfl⟩
  rw [← hns, ← hns'] at HC1
  rw [← hnw, ← hnw'] at HC2
  rw [← hn] at hp2 ⊢
  rw [← hm, ← hns, ← hns', ← hnw, ← hnw']
  clear hn hm hns hns' hnw hnw'
  obtain ⟨W1, e1⟩ : ∃ W1, w.alloc (.cells #[.slice op n cp, .slice os ns cs, .slice ow nw cw] 26) = W1 := ⟨_, rfl⟩
  have bx1 : Box W1 w.heap.size [.slice op n cp, .slice os ns cs, .slice ow nw cw] 26 := by rw [← e1]; exact Box.new w [.slice op n cp, .slice os ns cs, .slice ow nw cw] 26
  have bb1 := bnew (Below.refl w.heap.size w) (.cells #[.slice op n cp, .slice os ns cs, .slice ow nw cw] 26)
  rw [e1] at bb1
  obtain ⟨W2, e2⟩ : ∃ W2, W1.alloc (.cells #[.slice oq m cq, .slice ot ns' ct, .slice ov nw' cv] 26) = W2 := ⟨_, rfl⟩
  have bx2 : Box W2 W1.heap.size [.slice oq m cq, .slice ot ns' ct, .slice ov nw' cv] 26 := by rw [← e2]; exact Box.new W1 [.slice oq m cq, .slice ot ns' ct, .slice ov nw' cv] 26
  have bb2 := bnew (Below.refl W1.heap.size W1) (.cells #[.slice oq m cq, .slice ot ns' ct, .slice ov nw' cv] 26)
  rw [e2] at bb2
  have hb0 := bb1.trans (bb2.mono bb1.size)
  have HB := hide hb0
  have HX1 := hide (bx1.below bb2)
  have HX2 := hide bx2
  have HP := hide (hp.below prcR_ok hb0)
  have HQ := hide (hq.below prcR_ok hb0)
  have d0 := HX1.out.cell 0
  have d1 := HX1.out.cell 1
  have d2 := HX1.out.cell 2
  have f0 := HX2.out.cell 0
  have f1 := HX2.out.cell 1
  have f2 := HX2.out.cell 2
  simp only [List.getElem?_cons_zero, List.getElem?_cons_succ] at d0 d1 d2 f0 f1 f2
  clear bx1 bx2 bb1 bb2 hb0 hp hq hs hu ht hv hs2 ht2
  by_cases hl : n = m
  case neg =>
    have q1 : ((n : Int) != m) = true := by simp; omega
    have HR : Hid (decide ((⟨ps, st, wt⟩ : Nwk) = ⟨ps', st', wt'⟩) = false) := decide_eq_false fun h => hl (by injection h with h1; rw [HN.out, HM.out, h1])
    clear hl
    go_enter Tryz.func14, Tryz.ntmps14
    go_wp2_with fail
    go_ret
    exact ⟨ret_bool HR.out.symm, HB.out⟩
  have q1 : ((n : Int) != m) = false := by simp; omega
  have HL := hide hl
  clear hl
  by_cases hst : st = st'
  case neg =>
    rw [decide_eq_false hst] at HC1
    have HR : Hid (decide ((⟨ps, st, wt⟩ : Nwk) = ⟨ps', st', wt'⟩) = false) := decide_eq_false fun h => hst (by injection h)
    clear hst
    go_enter Tryz.func14, Tryz.ntmps14
    go_wp2_with (go_at_call 47; refine (HC1.out _ HB.out).mono ?_; rintro e w5 ⟨rfl, h5⟩)
    go_ret
    exact ⟨ret_bool HR.out.symm, HB.out.trans (h5.mono HB.out.size)⟩
  rw [decide_eq_true hst] at HC1
  have HST := hide hst
  clear hst
  by_cases hwt : wt = wt'
  case neg =>
    rw [decide_eq_false hwt] at HC2
    have HR : Hid (decide ((⟨ps, st, wt⟩ : Nwk) = ⟨ps', st', wt'⟩) = false) := decide_eq_false fun h => hwt (by injection h)
    clear hwt
    go_enter Tryz.func14, Tryz.ntmps14
    go_wp2_with (first
      | (go_at_call 47; refine (HC1.out _ HB.out).mono ?_; rintro e w5 ⟨rfl, h5⟩; have d2 := (HX1.out.below h5).cell 2; have f2 := (HX2.out.below h5).cell 2; simp only [List.getElem?_cons_zero, List.getElem?_cons_succ] at d2 f2; have HB5 := hide (HB.out.trans (h5.mono HB.out.size)); clear h5)
      | (go_at_call 15; refine (HC2.out _ HB5.out).mono ?_; rintro e w6 ⟨rfl, h6⟩))
    go_ret
    exact ⟨ret_bool HR.out.symm, HB5.out.trans (h6.mono HB5.out.size)⟩
  rw [decide_eq_true hwt] at HC2
  have HWT := hide hwt
  clear hwt
  have HR : Hid (decide ((⟨ps, st, wt⟩ : Nwk) = ⟨ps', st', wt'⟩) = decide (ps = ps')) := by
    show _ = _
    rw [HST.out, HWT.out]
    by_cases h : ps = ps'
    · simp [h]
    · rw [decide_eq_false h]; exact decide_eq_false fun g => h (by injection g)
  go_enter Tryz.func14, Tryz.ntmps14
  go_wp2_with (first
    | (go_at_call 47; refine (HC1.out _ HB.out).mono ?_; rintro e w5 ⟨rfl, h5⟩; have d2 := (HX1.out.below h5).cell 2; have f2 := (HX2.out.below h5).cell 2; simp only [List.getElem?_cons_zero, List.getElem?_cons_succ] at d2 f2; have HB5 := hide (HB.out.trans (h5.mono HB.out.size)); have HB25 := hide h5; clear h5)
    | (go_at_call 15; refine (HC2.out _ HB5.out).mono ?_; rintro e w6 ⟨rfl, h6⟩; have HB6 : Hid (Below W2.heap.size W2 w6) := HB25.out.trans (h6.mono HB25.out.size); clear h6))
  clear d0 d1 d2 f0 f1 f2
  go_loopw [5] (fun i wr => ∃ k : Nat, k ≤ n ∧ i = .int .i64 k ∧ Hid (ps = ps' ↔ ps.drop k = ps'.drop k) ∧ Hid (Below W2.heap.size W2 wr)) (fun i _ => n - (intOf i).toNat)
  case atStart => exact ⟨0, by omega, rfl, Iff.rfl, HB6⟩
  case round =>
    obtain ⟨k, hk, rfl, HE, HBk⟩ := hrel
    have d0 := (HX1.out.below HBk.out).cell 0
    have f0 := (HX2.out.below HBk.out).cell 0
    simp only [List.getElem?_cons_zero, List.getElem?_cons_succ] at d0 f0
    by_cases hlt : k < n
    · obtain ⟨S5, Le5, rs5, b7, off7, oa7, c7, hd7, _, rfl, _, y0, y1, y2, _, _, hrc, hrc2, hrs⟩ := (HP.out.below prcR_ok HBk.out).prc_at (i := k) (by have := HN.out; omega)
      have hlt2 : k < m := by have := HL.out; omega
      obtain ⟨S6, Le6, rs6, b8, off8, oa8, c8, hd8, _, rfl, _, z0, z1, z2, _, _, _, _, hrs8⟩ := (HQ.out.below prcR_ok HBk.out).prc_at (i := k) (by have := HM.out; omega)
      have HC := hide (sameProcs_any S5 Le5 S6 Le6 rs5 rs6 oa7 oa8 c7 c8 F G wr.drew (hrs.keep (w' := wr.drew) rowR_ok (fun _ _ _ => rfl)) (hrs8.keep (w' := wr.drew) rowR_ok (fun _ _ _ => rfl)) hrc2)
      have HD := hide hd7
      have HD' := hide hd8
      clear hd7 hd8 hrs hrs8 hrc hrc2
      by_cases hx : (⟨S5, Le5, rs5⟩ : Prc) = ⟨S6, Le6, rs6⟩
      · rw [decide_eq_true hx] at HC
        have HXX := hide hx
        clear hx
        go_wp2_with fail
        go_still_tail 10, (by kernel_rfl)
        change wpList _ _ _ _ _ wr.drew
        go_wp2_with (go_at_call 48; refine HC.out.mono ?_; rintro e w5 ⟨rfl, h5⟩; have HB7 := hide (HBk.out.trans ((Below.refl _ _).drew.trans h5 |>.mono HBk.out.size)); clear h5)
        go_roundw
        case rel =>
          refine ⟨k + 1, by omega, by go_num, ?_, HB7⟩
          show _ ↔ _
          rw [HE.out, HD.out, HD'.out, HXX.out]; simp
        case measure => simp [intOf]; omega
      · rw [decide_eq_false hx] at HC
        have HXX := hide hx
        clear hx
        go_wp2_with fail
        go_still_tail 10, (by kernel_rfl)
        change wpList _ _ _ _ _ wr.drew
        go_wp2_with (go_at_call 48; refine HC.out.mono ?_; rintro e w5 ⟨rfl, h5⟩; have HB7 := hide (HBk.out.trans ((Below.refl _ _).drew.trans h5 |>.mono HBk.out.size)); clear h5)
        go_ret
        refine ⟨ret_bool ?_, HB.out.trans (HB7.out.mono HB.out.size)⟩
        rw [HR.out]
        symm
        refine decide_eq_false fun h => HXX.out ?_
        have h2 := HE.out.1 h
        rw [HD.out, HD'.out] at h2
        injection h2
    · go_wp2_with fail
      go_ret
      refine ⟨ret_bool ?_, HB.out.trans (HBk.out.mono HB.out.size)⟩
      rw [HR.out]
      symm
      refine decide_eq_true (HE.out.2 ?_)
      rw [List.drop_eq_nil_of_le (by have := HN.out; omega), List.drop_eq_nil_of_le (by have := HM.out; have := HL.out; omega)]

end Go.Proofs.YtnigfddanoaonaaGreat

set_option linter.unusedVariables false
set_option linter.unusedSimpArgs false
set_option linter.unnecessarySimpa false
namespace Go.Proofs.YtnigfddanoaonaaGreat
open Go.RowKit

theorem few17_any (d : List Int) (od : Option Addr) (cd : Nat) (w : World) : Calls Tryz.prog 23 #[.slice od d.length cd] w fun e w' => e = .returned (.bool (decide (d.length ≤ 24))) ∧ Below w.heap.size w w' := by
  have HR : Hid (decide (d.length ≤ 24) = decide ((d.length : Int) ≤ 24)) := by show _ = _; simp; omega
  go_enter Tryz.func23, Tryz.ntmps23
  go_wp2_with fail
  go_ret
  exact ⟨ret_bool HR.out.symm, Below.refl _ _⟩

/-- All chips are from -60 to 60. -/
def smD : List Int → Bool
  | [] => true
  | x :: r => if x < -60 ∨ 60 < x then false else smD r
section
variable {w : World} {n : Int} {es : List Edg} {oe : Option Addr} {c : Nat} {ar : List (List Int)} {oa : Option Addr} {ca : Nat} {q : Int} {rot : List Int} {ot : Option Addr} {ct : Nat} {d : List Int} {od : Option Addr} {cd : Nat} {pk : List Int} {op : Option Addr} {cp : Nat}
end

/-- A right and small game. -/
def smallB (n : Int) (es : List Edg) (ar : List (List Int)) (q : Int) (rot d : List Int) : Bool :=
  if few45 n es ar rot = true then (if d.length ≤ 24 then (if gvE n es (forest es) ar q rot d = 0 then smD d else false) else false) else false
end Go.Proofs.YtnigfddanoaonaaGreat

set_option linter.unusedVariables false
set_option linter.unusedSimpArgs false
namespace Go.Proofs.YtnigfddanoaonaaGreat
open Go.RowKit

structure SmallN (x : Nwk) : Prop where
  net : netErr x = 0
  few : ∀ t ∈ x.waiting, ∀ k ∈ t, k ≤ 40
  comm : commP x.procs = true

end Go.Proofs.YtnigfddanoaonaaGreat

set_option linter.unusedVariables false
set_option linter.unusedSimpArgs false
namespace Go.Proofs.YtnigfddanoaonaaGreat
open Go.RowKit

theorem routR_len (n : Int) (es : List Edg) (f : List Nat) (ar : List (List Int)) (q : Int) (rot d : List Int) (hc2 : es.length ≤ 1000) : (routR n es f ar q rot d).1.procs.length ≤ 12 ∧ (routR n es f ar q rot d).1.state.length ≤ 12 ∧ (routR n es f ar q rot d).1.waiting.length ≤ 12 := by
  unfold routR
  split
  · rename_i h
    obtain ⟨h0, hD0⟩ := gvE_parts h
    obtain ⟨q', _, hok⟩ := RtOk.of h0 hc2
    have h1 := hok.n12
    have h2 := (dErr_zero hD0).2.1
    have h3 := hok.nar
    split
    · rename_i l hl
      simp only [routU_len hl, hok.nrot, waitD_len]
      omega
    · simp [nwk0]
  · simp [nwk0]
/-- What the walk leans on between its calls. -/
structure RouC (w : World) (n : Int) (oe : Option Addr) (nes c : Nat) (oa : Option Addr) (nar ca : Nat) (q : Int) (ot : Option Addr) (nrt ct : Nat) (od : Option Addr) (nd cd : Nat) (o1 : Option Addr) (m1 c1 : Nat) (o2 : Option Addr) (m2 c2 : Nat) (o3 : Option Addr) (m3 c3 : Nat) (W : World) : Prop where
  b1 : Box W w.heap.size [.int .i64 n, .slice oe nes c, .slice oa nar ca] 52
  b2 : Box W (w.heap.size + 1) [.int .i64 q, .slice ot nrt ct, .slice od nd cd] 54
  b3 : Box W (w.heap.size + 2) [.slice o1 m1 c1, .slice o2 m2 c2, .slice o3 m3 c3] 26
  low : Below w.heap.size w W
theorem RouC.below {w : World} {n : Int} {oe : Option Addr} {nes c : Nat} {oa : Option Addr} {nar ca : Nat} {q : Int} {ot : Option Addr} {nrt ct : Nat} {od : Option Addr} {nd cd : Nat} {o1 : Option Addr} {m1 c1 : Nat} {o2 : Option Addr} {m2 c2 : Nat} {o3 : Option Addr} {m3 c3 : Nat} {W W' : World}
    (h : RouC w n oe nes c oa nar ca q ot nrt ct od nd cd o1 m1 c1 o2 m2 c2 o3 m3 c3 W) (hb : Below W.heap.size W W') : RouC w n oe nes c oa nar ca q ot nrt ct od nd cd o1 m1 c1 o2 m2 c2 o3 m3 c3 W' := ⟨h.b1.below hb, h.b2.below hb, h.b3.below hb, h.low.trans (hb.mono h.low.size)⟩
theorem RouC.new {w : World} {n : Int} {oe : Option Addr} {nes c : Nat} {oa : Option Addr} {nar ca : Nat} {q : Int} {ot : Option Addr} {nrt ct : Nat} {od : Option Addr} {nd cd : Nat} {o1 : Option Addr} {m1 c1 : Nat} {o2 : Option Addr} {m2 c2 : Nat} {o3 : Option Addr} {m3 c3 : Nat} :
    RouC w n oe nes c oa nar ca q ot nrt ct od nd cd o1 m1 c1 o2 m2 c2 o3 m3 c3 (((w.alloc (.cells #[.int .i64 n, .slice oe nes c, .slice oa nar ca] 52)).alloc (.cells #[.int .i64 q, .slice ot nrt ct, .slice od nd cd] 54)).alloc (.cells #[.slice o1 m1 c1, .slice o2 m2 c2, .slice o3 m3 c3] 26)) := by
  have hb := bnew (bnew (bnew (Below.refl w.heap.size w) (.cells #[.int .i64 n, .slice oe nes c, .slice oa nar ca] 52)) (.cells #[.int .i64 q, .slice ot nrt ct, .slice od nd cd] 54)) (.cells #[.slice o1 m1 c1, .slice o2 m2 c2, .slice o3 m3 c3] 26)
  refine ⟨((Box.new w [.int .i64 n, .slice oe nes c, .slice oa nar ca] 52).next _).next _, ?_, ?_, hb⟩
  · have := (Box.new (w.alloc (.cells #[.int .i64 n, .slice oe nes c, .slice oa nar ca] 52)) [.int .i64 q, .slice ot nrt ct, .slice od nd cd] 54).next (.cells #[.slice o1 m1 c1, .slice o2 m2 c2, .slice o3 m3 c3] 26)
    simpa using this
  · have := Box.new ((w.alloc (.cells #[.int .i64 n, .slice oe nes c, .slice oa nar ca] 52)).alloc (.cells #[.int .i64 q, .slice ot nrt ct, .slice od nd cd] 54)) [.slice o1 m1 c1, .slice o2 m2 c2, .slice o3 m3 c3] 26
    simpa using this
theorem RouC.cells {w : World} {n : Int} {oe : Option Addr} {nes c : Nat} {oa : Option Addr} {nar ca : Nat} {q : Int} {ot : Option Addr} {nrt ct : Nat} {od : Option Addr} {nd cd : Nat} {o1 : Option Addr} {m1 c1 : Nat} {o2 : Option Addr} {m2 c2 : Nat} {o3 : Option Addr} {m3 c3 : Nat} {W : World}
    (h : RouC w n oe nes c oa nar ca q ot nrt ct od nd cd o1 m1 c1 o2 m2 c2 o3 m3 c3 W) : W.cell? ⟨w.heap.size, 0, none⟩ = some (.int .i64 n) ∧ W.cell? ⟨w.heap.size, 1, none⟩ = some (.slice oe nes c) ∧ W.cell? ⟨w.heap.size, 2, none⟩ = some (.slice oa nar ca) ∧
      W.cell? ⟨w.heap.size + 1, 0, none⟩ = some (.int .i64 q) ∧ W.cell? ⟨w.heap.size + 1, 1, none⟩ = some (.slice ot nrt ct) ∧ W.cell? ⟨w.heap.size + 1, 2, none⟩ = some (.slice od nd cd) ∧
      W.cell? ⟨w.heap.size + 2, 0, none⟩ = some (.slice o1 m1 c1) ∧ W.cell? ⟨w.heap.size + 2, 1, none⟩ = some (.slice o2 m2 c2) ∧ W.cell? ⟨w.heap.size + 2, 2, none⟩ = some (.slice o3 m3 c3) := by
  have d0 := h.b1.cell 0
  have d1 := h.b1.cell 1
  have d2 := h.b1.cell 2
  have p0 := h.b2.cell 0
  have p1 := h.b2.cell 1
  have p2 := h.b2.cell 2
  have x0 := h.b3.cell 0
  have x1 := h.b3.cell 1
  have x2 := h.b3.cell 2
  simp only [List.getElem?_cons_zero, List.getElem?_cons_succ] at d0 d1 d2 p0 p1 p2 x0 x1 x2
  exact ⟨d0, d1, d2, p0, p1, p2, x0, x1, x2⟩

set_option maxRecDepth 100000 in
set_option maxHeartbeats 8000000 in
theorem routers_walk (w : World) (n : Int) (es : List Edg) (oe : Option Addr) (c : Nat) (ar : List (List Int)) (oa : Option Addr) (ca : Nat) (hc : es.length ≤ c) (hc2 : es.length ≤ 9223372036854775807) (hs : SliceR edgR 3 All w oe es) (hac : ar.length ≤ ca) (hac2 : ar.length ≤ 9223372036854775807) (ha : SliceR (slcR intR 1) 1 All w oa ar)
    (q : Int) (rot : List Int) (ot : Option Addr) (ct : Nat) (d : List Int) (od : Option Addr) (cd : Nat) (hrc : rot.length ≤ ct) (hrl : rot.length ≤ 9223372036854775807) (hr : SliceR intR 1 All w ot rot) (hdc : d.length ≤ cd) (hdl : d.length ≤ 9223372036854775807) (hd : SliceR intR 1 All w od d)
    (ps : List Prc) (st : List Int) (wt : List (List Int)) (o1 : Option Addr) (c1 : Nat) (o2 : Option Addr) (c2 : Nat) (o3 : Option Addr) (c3 : Nat) (hn : NetIn w ps st wt o1 c1 o2 c2 o3 c3) :
    Calls Tryz.prog 6 #[.agg #[.int .i64 n, .slice oe es.length c, .slice oa ar.length ca], .agg #[.int .i64 q, .slice ot rot.length ct, .slice od d.length cd], .agg #[.slice o1 ps.length c1, .slice o2 st.length c2, .slice o3 wt.length c3]] w fun r w' => r = .returned (.bool true) ∧ Below w.heap.size w w' := by
  have HU : Hid (gErr n es = 0 → Uf (forest es) (eL es)) := forest_ok n es
  have K1 : Hid (∀ u, Below w.heap.size w u → Calls Tryz.prog 22 #[.agg #[.int .i64 n, .slice oe es.length c, .slice oa ar.length ca]] u fun e w' => e = .returned (.bool (few44 n es ar)) ∧ Below u.heap.size u w') := fun u hu =>
    few44_any n es oe c ar oa ca All All u (hs.below edgR_ok hu) hc hc2 (ha.below (slcR_ok intR_ok (by decide)) hu) hac hac2
  have K2 : Hid (∀ u, Calls Tryz.prog 23 #[.slice od d.length cd] u fun e w' => e = .returned (.bool (decide (d.length ≤ 24))) ∧ Below u.heap.size u w') := fun u => few17_any d od cd u
  have K3 : Hid (∀ u, Below w.heap.size w u → Calls Tryz.prog 24 #[.agg #[.slice o1 ps.length c1, .slice o2 st.length c2, .slice o3 wt.length c3]] u (SomeBool u)) := fun u hu => rfew55_any ps o1 c1 o2 st.length c2 wt o3 c3 All u (hn.p.below prcR_ok hu) hn.pl (hn.t.below (slcR_ok intR_ok (by decide)) hu) hn.wl
  have KES : Hid (few44 n es ar = true → es.length ≤ 40) := fun h => (few45_yes (rot := []) (by unfold few45; rw [if_pos h]; rfl)).1
  have K7 : Hid (few44 n es ar = true → decide ((30 : Int) < rot.length) = false → decide (d.length ≤ 24) = true → ∀ u, Below w.heap.size w u → Calls Tryz.prog 25 #[.agg #[.int .i64 n, .slice oe es.length c, .slice oa ar.length ca], .int .i64 q, .slice ot rot.length ct, .slice od d.length cd] u (NwPost u (routR n es (forest es) ar q rot d))) := fun h h3 h2 u hu => by
    have h1 := KES.out h
    have h4 : d.length ≤ 24 := by simpa using h2
    have h5 : ¬ (30 : Int) < rot.length := by simpa using h3
    exact nrout_any n es oe c ar oa ca All All u (hs.below edgR_ok hu) hc (by omega) (ha.below (slcR_ok intR_ok (by decide)) hu) hac hac2 (forest es) HU q rot ot ct All (hr.below intR_ok hu) hrc (by omega) d od cd All (hd.below intR_ok hu) hdc (by omega)
  have K8 : Hid (few44 n es ar = true → decide ((30 : Int) < rot.length) = false → decide (d.length ≤ 24) = true → ∀ u, Below w.heap.size w u → Calls Tryz.prog 26 #[.agg #[.int .i64 n, .slice oe es.length c, .slice oa ar.length ca], .int .i64 q, .slice ot rot.length ct, .slice od d.length cd] u (NwPost u (routR n es (forest es) ar q rot d))) := fun h h3 h2 u hu => by
    have h1 := KES.out h
    have h4 : d.length ≤ 24 := by simpa using h2
    have h5 : ¬ (30 : Int) < rot.length := by simpa using h3
    exact rrout_any n es oe c ar oa ca All All u (hs.below edgR_ok hu) hc (by omega) (ha.below (slcR_ok intR_ok (by decide)) hu) hac hac2 (forest es) HU q rot ot ct All (hr.below intR_ok hu) hrc (by omega) d od cd All (hd.below intR_ok hu) hdc (by omega)
  obtain ⟨r, hR⟩ : ∃ r, r = routR n es (forest es) ar q rot d := ⟨_, rfl⟩
  have HLEN : Hid (few44 n es ar = true → r.1.procs.length ≤ 12 ∧ r.1.state.length ≤ 12 ∧ r.1.waiting.length ≤ 12) := fun h => by rw [hR]; exact routR_len _ _ _ _ _ _ _ (by have := KES.out h; omega)
  rw [← hR] at K7 K8
  have HNI := hide hn
  obtain ⟨nes, h1⟩ : ∃ k, k = es.length := ⟨_, rfl⟩
  obtain ⟨nar, h2⟩ : ∃ k, k = ar.length := ⟨_, rfl⟩
  obtain ⟨nrt, h3⟩ : ∃ k, k = rot.length := ⟨_, rfl⟩
  obtain ⟨nd, h4⟩ : ∃ k, k = d.length := ⟨_, rfl⟩
  obtain ⟨m1, h5⟩ : ∃ k, k = ps.length := ⟨_, rfl⟩
  obtain ⟨m2, h6⟩ : ∃ k, k = st.length := ⟨_, rfl⟩
  obtain ⟨m3, h7⟩ : ∃ k, k = wt.length := ⟨_, rfl⟩
  obtain ⟨b1, hb1⟩ : ∃ b, b = few44 n es ar := ⟨_, rfl⟩
  obtain ⟨b2, hb2⟩ : ∃ b, b = decide (d.length ≤ 24) := ⟨_, rfl⟩
  obtain ⟨b3, hb3⟩ : ∃ b, b = decide ((30 : Int) < nrt) := ⟨_, rfl⟩
  rw [← hb1, ← h1, ← h2] at K1
  rw [← hb2, ← h4] at K2
  rw [← h5, ← h6, ← h7] at K3
  rw [← hb1, ← hb2, ← h1, ← h2, ← h3, ← h4, ← hb3] at K7 K8
  rw [← hb1] at HLEN
  rw [← h1, ← h2, ← h3, ← h4, ← h5, ← h6, ← h7]
  have HM := hide (And.intro h5 (And.intro h6 h7))
  obtain ⟨y1, er1⟩ := r
  simp only at HLEN
  have q3 := hb3.symm
  clear h1 h2 h3 h4 h5 h6 h7 hb1 hb2 hb3 hR hc hc2 hs hac hac2 ha hrc hrl hr hdc hdl hd hn KES HU
  obtain ⟨W1, hW1⟩ : ∃ W1, ((w.alloc (.cells #[.int .i64 n, .slice oe nes c, .slice oa nar ca] 52)).alloc (.cells #[.int .i64 q, .slice ot nrt ct, .slice od nd cd] 54)).alloc (.cells #[.slice o1 m1 c1, .slice o2 m2 c2, .slice o3 m3 c3] 26) = W1 := ⟨_, rfl⟩
  have C0 := RouC.new (w := w) (n := n) (oe := oe) (nes := nes) (c := c) (oa := oa) (nar := nar) (ca := ca) (q := q) (ot := ot) (nrt := nrt) (ct := ct) (od := od) (nd := nd) (cd := cd) (o1 := o1) (m1 := m1) (c1 := c1) (o2 := o2) (m2 := m2) (c2 := c2) (o3 := o3) (m3 := m3) (c3 := c3)
  rw [hW1] at C0
  have HC := hide C0
  clear C0
  obtain ⟨d0, d1, d2, p0, p1, p2, x0, x1, x2⟩ := HC.out.cells
  go_enter Tryz.func6, Tryz.ntmps6
  go_wp2_with fail
  clear d0 d1 d2 p0 p1 p2 x0 x1 x2
  refine (K1.out _ HC.out.low).mono ?_
  rintro e W2 ⟨rfl, hb⟩
  replace HC := hide (HC.out.below hb)
  clear hb hW1
  obtain ⟨d0, d1, d2, p0, p1, p2, x0, x1, x2⟩ := HC.out.cells
  cases b1
  · clear K7 K8 HLEN
    clear d0 d1 d2 p0 p1 p2 x0 x1 x2
    go_wp2_with fail
    refine (awake55_any _).mono ?_
    rintro e WF ⟨rfl, hbF⟩
    replace HC := hide (HC.out.below hbF)
    clear hbF
    go_wp2_with fail
    go_ret
    exact ⟨rfl, HC.out.low⟩
  cases b3
  case true =>
    clear K7 K8 HLEN
    go_wp2_with fail
    refine (awake55_any _).mono ?_
    rintro e WF ⟨rfl, hbF⟩
    replace HC := hide (HC.out.below hbF)
    clear hbF
    go_wp2_with fail
    go_ret
    exact ⟨rfl, HC.out.low⟩
  go_wp2_with fail
  clear d0 d1 d2 p0 p1 p2 x0 x1 x2
  refine (K2.out _).mono ?_
  rintro e W3 ⟨rfl, hb⟩
  replace HC := hide (HC.out.below hb)
  clear hb
  obtain ⟨d0, d1, d2, p0, p1, p2, x0, x1, x2⟩ := HC.out.cells
  cases b2
  · clear K7 K8 HLEN
    clear d0 d1 d2 p0 p1 p2 x0 x1 x2
    go_wp2_with fail
    refine (awake55_any _).mono ?_
    rintro e WF ⟨rfl, hbF⟩
    replace HC := hide (HC.out.below hbF)
    clear hbF
    go_wp2_with fail
    go_ret
    exact ⟨rfl, HC.out.low⟩
  go_wp2_with fail
  clear d0 d1 d2 p0 p1 p2 x0 x1 x2
  refine (K3.out _ HC.out.low).mono ?_
  rintro e W4 ⟨bf, rfl, hb⟩
  replace HC := hide (HC.out.below hb)
  clear hb
  cases bf
  · clear K7 K8 HLEN
    go_wp2_with fail
    refine (awake55_any _).mono ?_
    rintro e WF ⟨rfl, hbF⟩
    replace HC := hide (HC.out.below hbF)
    clear hbF
    go_wp2_with fail
    go_ret
    exact ⟨rfl, HC.out.low⟩
  clear K1 K2 K3 q3
  replace HLEN := hide (HLEN.out (by first | rfl | trivial))
  obtain ⟨d0, d1, d2, p0, p1, p2, x0, x1, x2⟩ := HC.out.cells
  go_wp2_with fail
  clear d0 d1 d2 p0 p1 p2 x0 x1 x2
  refine (K7.out (by first | rfl | trivial) (by first | rfl | trivial) (by first | rfl | trivial) _ HC.out.low).mono ?_
  rintro e W5 ⟨v, rfl, ⟨oq1, cq1, os1, cs1, ow1, cw1, rfl, _, hcs1, _, hp1, hs1, ht1⟩, hb⟩
  replace HC := hide (HC.out.below hb)
  have HP1 := hide hp1
  have HS1 := hide hs1
  have HT1 := hide ht1
  have HCS1 := hide hcs1
  obtain ⟨np, hnp⟩ : ∃ n, n = y1.procs.length := ⟨_, rfl⟩
  obtain ⟨ns, hns⟩ : ∃ n, n = y1.state.length := ⟨_, rfl⟩
  obtain ⟨nw, hnw⟩ : ∃ n, n = y1.waiting.length := ⟨_, rfl⟩
  simp only [← hnp, ← hns, ← hnw]
  obtain ⟨W6, e6⟩ : ∃ W6, W5.alloc (.cells #[.slice oq1 np cq1, .slice os1 ns cs1, .slice ow1 nw cw1] 26) = W6 := ⟨_, rfl⟩
  have hx6 : Box W6 W5.heap.size [.slice oq1 np cq1, .slice os1 ns cs1, .slice ow1 nw cw1] 26 := by rw [← e6]; exact Box.new W5 [.slice oq1 np cq1, .slice os1 ns cs1, .slice ow1 nw cw1] 26
  have hb6 : Below W5.heap.size W5 W6 := by rw [← e6]; exact bnew (Below.refl _ _) _
  have HL56 := hide hb6
  have HX6 := hide hx6
  have HNUM := hide (And.intro hnp (And.intro hns hnw))
  replace HC := hide (HC.out.below hb6)
  clear hp1 hs1 ht1 hcs1 hb hx6 hb6 hnp hns hnw K7
  obtain ⟨d0, d1, d2, p0, p1, p2, x0, x1, x2⟩ := HC.out.cells
  go_wp2_with fail
  clear d0 d1 d2 p0 p1 p2 x0 x1 x2
  refine (K8.out (by first | rfl | trivial) (by first | rfl | trivial) (by first | rfl | trivial) _ HC.out.low).mono ?_
  rintro e W7 ⟨v, rfl, ⟨oq2, cq2, os2, cs2, ow2, cw2, rfl, _, _, _, hp2, hs2, ht2⟩, hb⟩
  obtain ⟨hnp, hns, hnw⟩ := HNUM.out
  have HP2 := hide hp2
  have HS2 := hide hs2
  have HT2 := hide ht2
  simp only [← hnp, ← hns, ← hnw]
  obtain ⟨W8, e8⟩ : ∃ W8, W7.alloc (.cells #[.slice oq2 np cq2, .slice os2 ns cs2, .slice ow2 nw cw2] 26) = W8 := ⟨_, rfl⟩
  have hx8 : Box W8 W7.heap.size [.slice oq2 np cq2, .slice os2 ns cs2, .slice ow2 nw cw2] 26 := by rw [← e8]; exact Box.new W7 [.slice oq2 np cq2, .slice os2 ns cs2, .slice ow2 nw cw2] 26
  have hb8 : Below W7.heap.size W7 W8 := by rw [← e8]; exact bnew (Below.refl _ _) _
  have HL78 := hide hb8
  have HL68 := hide (hb.trans (hb8.mono hb.size))
  replace HC := hide ((HC.out.below hb).below hb8)
  have HX8 := hide hx8
  have HF : Hid (∀ u, Below W8.heap.size W8 u → u.cell? ⟨W5.heap.size, 0, none⟩ = some (.slice oq1 np cq1) ∧ u.cell? ⟨W5.heap.size, 1, none⟩ = some (.slice os1 ns cs1) ∧ u.cell? ⟨W5.heap.size, 2, none⟩ = some (.slice ow1 nw cw1) ∧ u.cell? ⟨W7.heap.size, 0, none⟩ = some (.slice oq2 np cq2) ∧ u.cell? ⟨W7.heap.size, 1, none⟩ = some (.slice os2 ns cs2) ∧ u.cell? ⟨W7.heap.size, 2, none⟩ = some (.slice ow2 nw cw2) ∧ u.cell? ⟨w.heap.size + 2, 0, none⟩ = some (.slice o1 m1 c1) ∧ u.cell? ⟨w.heap.size + 2, 1, none⟩ = some (.slice o2 m2 c2) ∧ u.cell? ⟨w.heap.size + 2, 2, none⟩ = some (.slice o3 m3 c3)) := fun u hu => by
    have a0 := ((HX6.out.below HL68.out).below hu).cell 0
    have a1 := ((HX6.out.below HL68.out).below hu).cell 1
    have a2 := ((HX6.out.below HL68.out).below hu).cell 2
    have b0 := (HX8.out.below hu).cell 0
    have b1 := (HX8.out.below hu).cell 1
    have b2 := (HX8.out.below hu).cell 2
    simp only [List.getElem?_cons_zero, List.getElem?_cons_succ] at a0 a1 a2 b0 b1 b2
    obtain ⟨_, _, _, _, _, _, x0, x1, x2⟩ := (HC.out.below hu).cells
    exact ⟨a0, a1, a2, b0, b1, b2, x0, x1, x2⟩
  have HAT : Hid (∀ u, Below W8.heap.size W8 u → (SliceR prcR 3 All u oq1 y1.procs ∧ SliceR intR 1 All u os1 y1.state ∧ SliceR (slcR intR 1) 1 All u ow1 y1.waiting) ∧ (SliceR prcR 3 All u oq2 y1.procs ∧ SliceR intR 1 All u os2 y1.state ∧ SliceR (slcR intR 1) 1 All u ow2 y1.waiting) ∧ (SliceR prcR 3 All u o1 ps ∧ SliceR intR 1 All u o2 st ∧ SliceR (slcR intR 1) 1 All u o3 wt)) := fun u hu => by
    have g1 : Below W5.heap.size W5 u := HL56.out.trans ((HL68.out.trans (hu.mono HL68.out.size)).mono HL56.out.size)
    have g2 : Below W7.heap.size W7 u := HL78.out.trans (hu.mono HL78.out.size)
    have g3 : Below w.heap.size w u := HC.out.low.trans (hu.mono HC.out.low.size)
    exact ⟨⟨HP1.out.below prcR_ok g1, HS1.out.below intR_ok g1, HT1.out.below (slcR_ok intR_ok (by decide)) g1⟩, ⟨HP2.out.below prcR_ok g2, HS2.out.below intR_ok g2, HT2.out.below (slcR_ok intR_ok (by decide)) g2⟩, HNI.out.p.below prcR_ok g3, HNI.out.s.below intR_ok g3, HNI.out.t.below (slcR_ok intR_ok (by decide)) g3⟩
  obtain ⟨bo, hbo⟩ : ∃ b, b = decide (y1 = ⟨ps, st, wt⟩) := ⟨_, rfl⟩
  obtain ⟨h5, h6, h7⟩ := HM.out
  have HR : Hid (∀ u, Below W8.heap.size W8 u → Calls Tryz.prog 14 #[.agg #[.slice oq1 np cq1, .slice os1 ns cs1, .slice ow1 nw cw1], .agg #[.slice oq2 np cq2, .slice os2 ns cs2, .slice ow2 nw cw2]] u (SameB true u)) := fun u hu => by
    obtain ⟨⟨h1, h2, h3⟩, ⟨h4, h5, h6⟩, _⟩ := HAT.out u hu
    have := rsame55_any y1 y1 oq1 os1 ow1 oq2 os2 ow2 cq1 cs1 cw1 cq2 cs2 cw2 All All u h1 h2 h3 h4 h5 h6 (by have := HLEN.out; omega) (by have := HLEN.out; omega) (by have := HLEN.out; omega)
    rw [← hnp, ← hns, ← hnw, show decide (y1 = y1) = true from by simp] at this
    exact this
  have HR2 : Hid (∀ u, Below W8.heap.size W8 u → Calls Tryz.prog 14 #[.agg #[.slice oq1 np cq1, .slice os1 ns cs1, .slice ow1 nw cw1], .agg #[.slice o1 m1 c1, .slice o2 m2 c2, .slice o3 m3 c3]] u (SameB bo u)) := fun u hu => by
    obtain ⟨⟨g1, g2, g3⟩, _, g4, g5, g6⟩ := HAT.out u hu
    have := rsame55_any y1 ⟨ps, st, wt⟩ oq1 os1 ow1 o1 o2 o3 cq1 cs1 cw1 c1 c2 c3 All All u g1 g2 g3 g4 g5 g6 (by have := HLEN.out; omega) (by have := HLEN.out; omega) (by have := HLEN.out; omega)
    rw [← hnp, ← hns, ← hnw, ← hbo] at this
    simp only [← h5, ← h6, ← h7] at this
    exact this
  have HS : Hid (∀ u, Below W8.heap.size W8 u → Calls Tryz.prog 21 #[.agg #[.slice oq1 np cq1, .slice os1 ns cs1, .slice ow1 nw cw1], .agg #[.slice o1 m1 c1, .slice o2 m2 c2, .slice o3 m3 c3]] u (SameB bo u)) := fun u hu => by
    obtain ⟨⟨g1, g2, g3⟩, _, g4, g5, g6⟩ := HAT.out u hu
    have := nsame_any y1 ⟨ps, st, wt⟩ oq1 os1 ow1 o1 o2 o3 cq1 cs1 cw1 c1 c2 c3 u g1 g2 g3 g4 g5 g6 (by have := HLEN.out; omega) HCS1.out (by have := HLEN.out; omega) (by have := HLEN.out; omega)
    rw [← hnp, ← hns, ← hnw, ← hbo] at this
    simp only [← h5, ← h6, ← h7] at this
    exact this
  have HSS : Hid (∀ u, Below W8.heap.size W8 u → Calls Tryz.prog 21 #[.agg #[.slice o1 m1 c1, .slice o2 m2 c2, .slice o3 m3 c3], .agg #[.slice o1 m1 c1, .slice o2 m2 c2, .slice o3 m3 c3]] u (SameB true u)) := fun u hu => by
    obtain ⟨_, _, g4, g5, g6⟩ := HAT.out u hu
    have := nsame_any ⟨ps, st, wt⟩ ⟨ps, st, wt⟩ o1 o2 o3 o1 o2 o3 c1 c2 c3 c1 c2 c3 u g4 g5 g6 g4 g5 g6 HNI.out.pl HNI.out.sc HNI.out.sl HNI.out.wl
    simp only [← h5, ← h6, ← h7, decide_true] at this
    exact this
  obtain ⟨a0, a1, a2, b0, b1, b2, x0, x1, x2⟩ := HF.out W8 (Below.refl _ _)
  have q5 : (er1 == er1) = true := by simp
  have q6 : (bo == bo) = true := by simp
  clear hp2 hs2 ht2 hb hx8 hb8 hnp hns hnw h5 h6 h7 hbo K8 HNUM HM
  go_wp2_with fail
  have HL : Hid (Below W8.heap.size W8 W8.drew) := (Below.refl _ _).drew
  have HBW := hide HC.out.low
  clear HC HX6 HX8 HL56 HL68 HL78 HAT HP1 HS1 HT1 HP2 HS2 HT2 HCS1 HNI HLEN e8
  go_region_held3 (fun w' => w'.cell? ⟨W5.heap.size, 0, none⟩ = some (.slice oq1 np cq1) ∧ w'.cell? ⟨W5.heap.size, 1, none⟩ = some (.slice os1 ns cs1) ∧ w'.cell? ⟨W5.heap.size, 2, none⟩ = some (.slice ow1 nw cw1) ∧ w'.cell? ⟨W7.heap.size, 0, none⟩ = some (.slice oq2 np cq2) ∧ w'.cell? ⟨W7.heap.size, 1, none⟩ = some (.slice os2 ns cs2) ∧ w'.cell? ⟨W7.heap.size, 2, none⟩ = some (.slice ow2 nw cw2) ∧ w'.cell? ⟨w.heap.size + 2, 0, none⟩ = some (.slice o1 m1 c1) ∧ w'.cell? ⟨w.heap.size + 2, 1, none⟩ = some (.slice o2 m2 c2) ∧ w'.cell? ⟨w.heap.size + 2, 2, none⟩ = some (.slice o3 m3 c3)) (first | exact ⟨a0, a1, a2, b0, b1, b2, x0, x1, x2⟩) (first
    | (go_at_call 12; refine (awake55_any _).mono ?_; rintro e w5 ⟨rfl, h5⟩; replace HL := hide (HL.out.trans (h5.mono HL.out.size)); clear h5 a0 a1 a2 b0 b1 b2 x0 x1 x2; obtain ⟨a0, a1, a2, b0, b1, b2, x0, x1, x2⟩ := HF.out _ HL.out)
    | (go_at_call 14; (with_reducible refine (HR.out _ HL.out).mono ?_); rintro e w5 ⟨rfl, h5⟩; replace HL := hide (HL.out.trans (h5.mono HL.out.size)); clear h5 a0 a1 a2 b0 b1 b2 x0 x1 x2; obtain ⟨a0, a1, a2, b0, b1, b2, x0, x1, x2⟩ := HF.out _ HL.out)
    | (go_at_call 14; (with_reducible refine (HR2.out _ HL.out).mono ?_); rintro e w5 ⟨rfl, h5⟩; replace HL := hide (HL.out.trans (h5.mono HL.out.size)); clear h5 a0 a1 a2 b0 b1 b2 x0 x1 x2; obtain ⟨a0, a1, a2, b0, b1, b2, x0, x1, x2⟩ := HF.out _ HL.out)
    | (go_at_call 21; (with_reducible refine (HS.out _ HL.out).mono ?_); rintro e w5 ⟨rfl, h5⟩; replace HL := hide (HL.out.trans (h5.mono HL.out.size)); clear h5 a0 a1 a2 b0 b1 b2 x0 x1 x2; obtain ⟨a0, a1, a2, b0, b1, b2, x0, x1, x2⟩ := HF.out _ HL.out)
    | (go_at_call 21; (with_reducible refine (HSS.out _ HL.out).mono ?_); rintro e w5 ⟨rfl, h5⟩; replace HL := hide (HL.out.trans (h5.mono HL.out.size)); clear h5 a0 a1 a2 b0 b1 b2 x0 x1 x2; obtain ⟨a0, a1, a2, b0, b1, b2, x0, x1, x2⟩ := HF.out _ HL.out))
  all_goals
    go_wp2_with fail
    go_ret
    exact ⟨rfl, HBW.out.trans (HL.out.mono HBW.out.size)⟩

end Go.Proofs.YtnigfddanoaonaaGreat

set_option linter.unusedVariables false
namespace Go.Proofs.YtnigfddanoaonaaGreat
open Go.RowKit Go.ChangeShapes Go.WideShapes Go.ChangeAt Go.Deep

set_option maxRecDepth 100000 in
theorem networkRouters_lifted (os : Os) (started : os.Started) (H : Type) (enc : TypeId × Value → H) :
    ReturnsInHanded {} Tryz.checked os 6 .any (Rows.networkRoutersSpec.pre6 enc Tryz.prog Tryz.f6 Rows.networkRoutersRow.domain false) (Rows.networkRoutersSpec.post enc Tryz.prog Tryz.f6 false true false false) := by
  refine returnsInHanded_of_change (C := Tryz.checked) own_knob started (by kernel_rfl) Tryz.func6
    (ChangeSpec.witness6 (enc := enc) (C := Tryz.checked) false ⟨#[], #[.agg #[.int .i64 0, .slice none 0 0, .slice none 0 0], .agg #[.int .i64 0, .slice none 0 0, .slice none 0 0], .agg #[.slice none 0 0, .slice none 0 0, .slice none 0 0]], []⟩ 8 (by kernel_rfl) (by kernel_rfl) (by kernel_rfl) (by kernel_rfl)) ?_
  intro W base args ds gs before hval0 hW _ _
  have hval : ∀ (j : Nat) t v, Tryz.f6.params[j]? = some t → args[j]? = some v → Value.okWide Tryz.prog W .any base t v := hval0
  have hW' := hW
  obtain ⟨p, q, hA0, hV, rfl, _, _⟩ := hW
  have hA : DataW.TrodAll enc Tryz.prog W 0 (fun _ => true) true Tryz.f6.params.toList args.toList ds p := hA0
  rw [Tryz.params6] at hA hval
  obtain ⟨v0, v1, v2, d0, d1, d2, p0, p1, p2, rfl, rfl, rfl, h0, h1, h2⟩ := trodAll_three hA
  obtain ⟨rfl, rfl⟩ := trodVars_none hV
  have h0k := h0
  have h1k := h1
  have h2k := h2
  obtain ⟨n0, es0, oe0, c0, ar0, oa0, ca0, rfl, hc0, hl0, he0, hac0, hal0, ha0⟩ := open_rib (hval 0 52 v0 rfl rfl) h0
  obtain ⟨q1, rot1, ot1, ct1, d1x, od1, cd1, rfl, hrc1, hrl1, hr1, hdc1, hdl1, hd1⟩ := open_game55 (hval 1 54 v1 rfl rfl) h1
  obtain ⟨ps2, st2, wt2, oa2, c2, ob2, e2, oc2, g2, rfl, hn2⟩ := open_net (hval 2 26 v2 rfl rfl) h2
  clear hA0 hval0
  simp only [List.append_nil] at hW'
  have hlt0 : ∀ y ∈ p0, y.block < W.heap.size := fun y hy => by simpa using hW'.lt y (by simp [hy])
  have hlt1 : ∀ y ∈ p1, y.block < W.heap.size := fun y hy => by simpa using hW'.lt y (by simp [hy])
  have hlt2 : ∀ y ∈ p2, y.block < W.heap.size := fun y hy => by simpa using hW'.lt y (by simp [hy])
  refine (routers_walk W n0 es0 oe0 c0 ar0 oa0 ca0 hc0 hl0 he0 hac0 hal0 ha0 q1 rot1 ot1 ct1 d1x od1 cd1 hrc1 hrl1 hr1 hdc1 hdl1 hd1 ps2 st2 wt2 oa2 c2 ob2 e2 oc2 g2 hn2).mono fun e W' ⟨he, hn⟩ => ?_
  subst he
  exact ⟨_, rfl, _, _, _, [], _, [], hW', trodAll_mk1 (shut_bool Tryz.underlying4 true), trodAll_mk3 (Below.trod laid_out (by kernel_rfl) (of_decide_eq_true (by kernel_rfl)) h0k hn hlt0) (Below.trod laid_out (by kernel_rfl) (of_decide_eq_true (by kernel_rfl)) h1k hn hlt1) (Below.trod laid_out (by kernel_rfl) (of_decide_eq_true (by kernel_rfl)) h2k hn hlt2), rfl, hn.frame _, fun h => by cases h⟩

theorem networkRouters_holds : Rows.NetworkRoutersSaid :=
  OpenClaim.holds_of_wide 6 Tryz.f6 rfl rfl rfl rfl rfl rfl rfl ⟨rfl, rfl, rfl, rfl, rfl⟩ rfl rfl rfl rfl rfl (by kernel_rfl) Tryz.func6 (by kernel_rfl)
    (of_decide_eq_true (by kernel_rfl)) (by unfold Func.isWrapper; first | (rw [if_pos (by decide +kernel)]; kernel_rfl) | (rw [if_neg (by decide +kernel)]; exact ⟨rfl, rfl⟩))
    (fun os started H enc _ => networkRouters_lifted os started H enc)

#print axioms networkRouters_holds
end Go.Proofs.YtnigfddanoaonaaGreat

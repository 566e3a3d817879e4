/-
  NetworkLeast returns true for every network and all counts: the counts of a network that halts are complete, and no complete counts are less anywhere. No condition.
  The walk of NetworkLeast.
  ref55.FewCounts.
  Complete counts, in plain Lean: the counts of a network that halts are complete, and no complete counts are less anywhere.
  The walk of NetworkAbelian.
  Two networks: Same of chapter 55.
  Two processors: sameProcessors of chapter 55.
  slices.Min of ints: whether it is negative; ref21.Picks, ref21.FewPicks.
  The guard of the statements on networks: small.
  The examples of the chapter on networks.
  Two lists of ints, two tables: SameInts of chapter 08, SameTables of chapter 55.
  Networks at the triangle of the examples: numbers; slices.Equal of two moves.
  What the functions give at the triangle: numbers.
  rotor.Acyclic.
  rotor.Acyclic: its closure; deferred marks of many ranges.
  rotor.All.
  (*rotor.board).route with the first vertex that has chips.
  Routing chips: plain law.
  The triangle of the examples.
  slices.Equal of ints, ref17.Order, Same, ref18.SameScripts; the sizes that the statements take in (Few).
  ref45.Routed.
  rotor.Edges.
  rotor.Route.
  rotor.Walk.
  The states on a way; the first time at the sink; what the range over a way needs besides.
  The iterator way: with a step that turns, and with one that only looks (printed by wip/mkWay.py).
  A range over a function whose iterator and whose body both write cells: the law.
  There is a forest for every right graph.
  The sizes that the statements take in: ref08.Few, ref44.Few, ref45.Few.
  ref45.Turned, ref45.Step.
  rotor.Step.
  ref44.Opposite, ref45.Targets.
  network.Run: a right network runs by picks.
-/
import Derived.Test.YtnigfddanoaonaaGreatNl5
import Derived.StillTailTactics
import Derived.BigQuiet
import Derived.RangeFuncBox
import Derived.RangeFuncNested
import Derived.RangeFuncLeaves
import Derived.Shelf.Abstract
import Derived.OwnWalkIn
import Derived.TacticsInMore
import Derived.LoopNIn
import Derived.LoopIn
import Derived.Maps.AppendAt
import Derived.BigRegionIn
import Derived.Test.YtnigfddanoaonaaGreatProg
import Derived.Deep.QuietTactic
import Derived.Deep.LoopGhost
import Derived.Deep.DeepCutAuto
import Derived.Test.YtnigfddanoaonaaGreatRows

set_option linter.unusedVariables false
set_option linter.unusedSimpArgs false
namespace Go.Proofs.YtnigfddanoaonaaGreat
open Go.RowKit

theorem wpList_append_one {α : Type} {R : Rep α} {P : Program} {w : World} {ops : Array Oper} {rest : List Oper} {o : Oper} {a : Act} {Q : Exit → Act → World → Prop} (hgd : o.guard = none) (s x : Operand) (t : TypeId)
    (ho : o.op = .call { callee := .builtin .append, args := #[s, x], argTypes := #[t, t] })
    (base : Nat) (e : TypeId) (z : Value) (size bytes : Nat) (ht : P.underlying t = some (.slice e)) (hinfo : (P.info? e).map (fun i => (i.zero, i.size, i.bytes)) = some (some z, size, bytes))
    (hzs : z.cells.size = size) (hsz : 0 < size) (ok : RepOk R size) (v : Value) (xs : List α) (hs : a.eval s = v) (hown : OwnS R size base e Non w v xs)
    (ad : Addr) (c : Nat) (news : List Value) (y : α) (hx : a.eval x = .slice (some ad) 1 c) (hnews : ∀ j u, news[j]? = some u → w.cell? (ad.add j) = some u) (hR : R Non w news y)
    (hbytes : (xs.length + 1) * bytes ≤ 140737488355328) (hm : xs.length + 1 ≤ maxLen) (hbase : base ≤ w.heap.size)
    (hK : ∀ v' w', OwnS R size base e Non w' v' (xs ++ [y]) → Below base w w' → w.grownBy w' v.ownBlock → wpList P ops Q rest (a.put o.dst v') w') : wpList P ops Q (o :: rest) a w :=
  wpList_append_in hgd s x t ho base e z size bytes ht hinfo hzs hsz ok Non v xs hs (hown.wide ok fun k hk _ => hk.elim) ad c news y hx hnews (ok.wide hR fun k hk _ => hk.elim) hbytes hm hbase fun v' w' h1 h2 h3 _ => hK v' w' (h1.wide ok fun k hk _ => hk.1.elim) h2 h3
theorem zero_lit (w : World) : SliceR intR 1 All (w.alloc (.cells #[.int .i64 0] 3)) (some ⟨w.heap.size, 0, none⟩) [0] := by
  simpa using ints_lit (F := All) (G := All) w 3 [0] (by intro x hx; simp at hx; subst hx; unfold I64; omega) trivial
theorem methMv (x : Value) (w : World) : Sem.run Tryz.prog (method 349 147 x "sandpile/network.moves") w = .ok ((198 : Nat), x) w := by kernel_rfl
theorem methMk (x : Value) (w : World) : Sem.run Tryz.prog (method 349 147 x "sandpile/network.make") w = .ok ((197 : Nat), x) w := by kernel_rfl
theorem methNw (x : Value) (w : World) : Sem.run Tryz.prog (method 349 147 x "sandpile/network.network") w = .ok ((199 : Nat), x) w := by kernel_rfl
/-- A network in memory. -/
def NetAt (F : Foot) (w : World) (v : Value) (y : Nwk) : Prop := ∃ oq cq os cs ow cw, v = .agg #[.slice oq y.procs.length cq, .slice os y.state.length cs, .slice ow y.waiting.length cw] ∧ y.procs.length ≤ cq ∧ y.state.length ≤ cs ∧ y.waiting.length ≤ cw ∧ SliceR prcR 3 F w oq y.procs ∧ SliceR intR 1 F w os y.state ∧ SliceR (slcR intR 1) 1 F w ow y.waiting
/-- What a run comes to. -/
def RunNet (F : Foot) (w : World) (e : Ending) (w' : World) : Option (Nwk × List (List Int)) → Prop
  | some (y, ct) => ∃ v oc cc, e = .returned (.tuple #[v, .slice oc ct.length cc, .int .i64 0]) ∧ NetAt F w' v y ∧ ct.length ≤ cc ∧ SliceR (slcR intR 1) 1 F w' oc ct ∧ Below w.heap.size w w'
  | none => e = .returned (.tuple #[.agg #[.slice none 0 0, .slice none 0 0, .slice none 0 0], .slice none 0 0, .int .i64 12]) ∧ Below w.heap.size w w'

section
variable {O : Foot} {B0 K H p gs : Nat} {vp tw : Value} {rs : List Rw} {x : Nwk} {W W' : World}
/-- A store into a block that is none of the machine's. -/
theorem Mach.away (h : Mach O B0 K H p gs vp tw rs x W) {q : Addr} (hq : q.block < B0) (hO : ¬ O q.block) (v : Value) : Mach O B0 K H p gs vp tw rs x (W.setCell q v) := by
  obtain ⟨l1, l2, l3, l4⟩ := h.low
  exact {
    main := h.main.other (by omega) _
    procs := h.procs.keep prcR_ok (fun g hg => Below.heap_setCell _ _ _ g (by have := (h.procs.block g hg).1; omega)) (fun k hk _ => Below.heap_setCell _ _ _ k (fun e => by
      have h1 := hk.1.1
      unfold OldNew at h1
      rcases h1 with h1 | h1
      · exact hO (e ▸ h1.1)
      · omega))
    vlt := h.vlt
    sts := h.sts.other (by omega) _
    tab := h.tab.above fun k _ hk => Below.heap_setCell _ _ _ k (by omega)
    tabs := h.tabs
    low := h.low }
/-- What is laid or changed from block C on does not concern a machine that lies below. -/
theorem Mach.keepC (h : Mach O B0 K H p gs vp tw rs x W) {C : Nat} (hp : p < C) (ht : ∀ g, tw.ownBlock = some g → g < C) (hr : ∀ r ∈ rs, r.g < C) (hk : ∀ k, k < C → W'.heap[k]? = W.heap[k]?) : Mach O B0 K H p gs vp tw rs x W' := by
  obtain ⟨l1, l2, l3, l4⟩ := h.low
  exact {
    main := h.main.keep (hk _ hp)
    procs := h.procs.keep prcR_ok (fun g hg => hk g (by have := h.vlt g hg; omega)) (fun k hkk _ => hk k (by have := hkk.2; omega))
    vlt := h.vlt
    sts := h.sts.keep (hk _ (by omega))
    tab := h.tab.keep (fun g hg => hk g (ht g hg)) fun r hr' => hk _ (hr r hr')
    tabs := h.tabs
    low := h.low }
theorem Mach.netAt (h : Mach O B0 K H p gs vp tw rs x W) (hr : Right x) : NetAt All W (.agg #[vp, .slice (some ⟨gs, 0, none⟩) x.procs.length x.procs.length, tw]) x := by
  obtain ⟨oV, cV, hvp, hcV, hsV⟩ := h.procs.slice prcR_ok
  have hI : ∀ l ∈ x.waiting, l.length ≤ 9223372036854775807 ∧ ∀ k ∈ l, I64 k := fun l hl => by
    refine ⟨?_, fun k hk => by have := hr.wb l hl k hk; unfold I64; omega⟩
    obtain ⟨j, hj, rfl⟩ := List.mem_iff_getElem.1 hl
    obtain ⟨l', h1, h2⟩ := hr.row (p := j) (by rw [← hr.nwt]; exact hj)
    rw [List.getElem?_eq_getElem hj] at h1
    injection h1 with h1
    rw [h1, h2]
    have := (hr.letters j (by rw [← hr.nwt]; exact hj)).2
    omega
  obtain ⟨oT, cT, htw, hcT, hsT⟩ := h.tab.slices fun r hr' => hI r.l (by rw [← h.tabs]; exact List.mem_map.2 ⟨r, hr', rfl⟩)
  rw [h.tabs] at htw hcT hsT
  have hst : ∀ k ∈ x.state, I64 k := fun k hk => by
    obtain ⟨j, hj, rfl⟩ := List.mem_iff_getElem.1 hk
    have hj' : j < x.procs.length := by rw [← hr.nst]; exact hj
    have h1 := hr.st j _ _ (List.getElem?_eq_getElem hj) (List.getElem?_eq_getElem hj')
    have h2 := (check_zero (hr.proc j _ (List.getElem?_eq_getElem hj'))).2.1
    unfold I64
    omega
  have hs := h.sts.ints (F := All) hst trivial
  refine ⟨oV, cV, some ⟨gs, 0, none⟩, x.procs.length, oT, cT, ?_, hcV, by rw [hr.nst]; exact Nat.le_refl _, hcT, hsV.all prcR_ok (by decide), hs, hsT.all (slcR_ok intR_ok (by decide)) (by decide)⟩
  rw [hvp, htw, hr.nst]
end
theorem SliceR.mv_at {F : Foot} {w : World} {oa : Option Addr} {xs : List (Nat × Nat)} (h : SliceR mvR 2 F w oa xs) {i : Nat} (hi : i < xs.length) :
    ∃ a b : Nat, xs[i]? = some (a, b) ∧ ∃ bl off, oa = some ⟨bl, off, none⟩ ∧ F bl ∧ w.cell? ⟨bl, off + i * 2, none⟩ = some (.int .i64 a) ∧ w.cell? ⟨bl, off + i * 2 + 1, none⟩ = some (.int .i64 b) := by
  obtain ⟨⟨a, b⟩, h1, h2, bl, off, cs, h3, h4, rfl, h8⟩ := h.at hi
  exact ⟨a, b, h2, bl, off, h3, h4, by simpa using h8 0 _ rfl, by simpa using h8 1 _ rfl⟩
theorem RTab.away {B : Nat} {tw : Value} {rs : List Rw} {W : World} (h : RTab B tw rs W) {q : Addr} (hq : q.block < B) (v : Value) : RTab B tw rs (W.setCell q v) := h.above fun k _ hk => Below.heap_setCell _ _ _ k (by omega)
theorem tab_bound {x : Nwk} {ct0 ct : List (List Int)} {j : Int} (h0 : ct0 = x.procs.map fun p => List.replicate p.letters.toNat (0 : Int)) (h : Shape ct0 ct j) (hr : Right x) (hj : j ≤ 1000000) : ∀ l ∈ ct, l.length ≤ 9223372036854775807 ∧ ∀ k ∈ l, I64 k := fun l hl => by
  refine ⟨?_, fun k hk => by have := h.num l hl k hk; unfold I64; omega⟩
  obtain ⟨i, hi, rfl⟩ := List.mem_iff_getElem.1 hl
  obtain ⟨l0, h1, h2⟩ := h.row i _ (List.getElem?_eq_getElem hi)
  rw [h0, List.getElem?_map, Option.map_eq_some_iff] at h1
  obtain ⟨p, h3, h4⟩ := h1
  have h5 := (check_zero (hr.proc i p h3)).2.2.1
  rw [h2, ← h4, List.length_replicate]
  omega
theorem tabL_app (rs : List Rw) (r : Rw) : tabL (rs ++ [r]) = tabL rs ++ [r.l] := by unfold tabL; rw [List.map_append]; rfl

set_option maxRecDepth 100000 in
set_option maxHeartbeats 4000000 in
theorem nrun_any (x : Nwk) (op : Option Addr) (cp : Nat) (os : Option Addr) (cs : Nat) (ow : Option Addr) (cw : Nat) (picks : List Int) (oP : Option Addr) (cP : Nat) (limit : Nat) (F : Foot) (w : World)
    (hp : SliceR prcR 3 F w op x.procs) (hs : SliceR intR 1 F w os x.state) (ht : SliceR (slcR intR 1) 1 F w ow x.waiting) (hz : netErr x = 0) (hpk : SliceR intR 1 F w oP picks) (hcP : picks.length ≤ cP) (hpz : picksErr picks = 0) (hl : limit ≤ 4000)
    (hfew : ∀ t ∈ x.waiting, ∀ k ∈ t, k ≤ 40) :
    Calls Tryz.prog 13 #[.agg #[.slice op x.procs.length cp, .slice os x.state.length cs, .slice ow x.waiting.length cw], .slice oP picks.length cP, .int .i64 limit] w fun e w' => RunNet All w e w' (runX picks limit 0 x (x.procs.map fun p => List.replicate p.letters.toNat (0 : Int))) := by
  have hr := netErr_zero hz
  have hst := hr.nst
  have hwt := hr.nwt
  have hpl : 1 ≤ picks.length ∧ picks.length ≤ 4096 := by
    unfold picksErr at hpz
    split at hpz
    · cases hpz
    · split at hpz
      · cases hpz
      · omega
  have HNEG : Hid (∀ k ∈ picks, 0 ≤ k) := fun k hk => by
    unfold picksErr at hpz
    split at hpz
    · cases hpz
    · split at hpz
      · cases hpz
      · split at hpz
        · cases hpz
        · rename_i h3
          unfold negB at h3
          simp at h3
          exact h3 k hk
  obtain ⟨n, hn⟩ : ∃ n, n = x.procs.length := ⟨_, rfl⟩
  have h12 : 1 ≤ n ∧ n ≤ 12 := by rw [hn]; exact hr.n
  obtain ⟨W1, e1⟩ : ∃ W1, w.alloc (.cells #[.slice op n cp, .slice os n cs, .slice ow n cw] 26) = W1 := ⟨_, rfl⟩
  have bx1 : Box W1 w.heap.size [.slice op n cp, .slice os n cs, .slice ow n cw] 26 := by rw [← e1]; exact Box.new w [.slice op n cp, .slice os n cs, .slice ow n cw] 26
  have bb1 := bnew (Below.refl w.heap.size w) (.cells #[.slice op n cp, .slice os n cs, .slice ow n cw] 26)
  rw [e1] at bb1
  obtain ⟨W2, e2⟩ : ∃ W2, W1.alloc (.cells #[.slice none 0 0, .slice none 0 0, .slice none 0 0] 26) = W2 := ⟨_, rfl⟩
  have bx2 : Box W2 W1.heap.size [.slice none 0 0, .slice none 0 0, .slice none 0 0] 26 := by rw [← e2]; exact Box.new W1 [.slice none 0 0, .slice none 0 0, .slice none 0 0] 26
  have bb2 := bnew (Below.refl W1.heap.size W1) (.cells #[.slice none 0 0, .slice none 0 0, .slice none 0 0] 26)
  rw [e2] at bb2
  have bx1 := bx1.below bb2
  have hb2 := bb1.trans (bb2.mono bb1.size)
  have HC1 : Hid (∀ u, Below w.heap.size w u → Calls Tryz.prog 43 #[.agg #[.slice op n cp, .slice os n cs, .slice ow n cw]] u fun e w' => e = .returned (.int .i64 0) ∧ Below u.heap.size u w') := fun u h => by
    have := netCheck_any x.procs op cp x.state os cs x.waiting ow cw F u (hp.below prcR_ok h) (by have := hr.n.2; omega) (hs.below intR_ok h) (by have := hr.n.2; omega) (ht.below (slcR_ok intR_ok (by decide)) h) (by have := hr.n.2; omega)
    rw [hst, hwt, ← hn] at this
    rw [show netErr ⟨x.procs, x.state, x.waiting⟩ = 0 from hz] at this
    exact this
  have HC2 : Hid (∀ u, Below w.heap.size w u → Calls Tryz.prog 44 #[.slice oP picks.length cP] u fun e w' => e = .returned (.int .i64 0) ∧ u = w') := fun u h => by
    have := picked_any picks oP cP F u (hpk.below intR_ok h) hcP (by omega)
    rw [hpz] at this
    exact this
  have HPP := hide (hp.loc prcR_ok (by omega))
  have HSS := hide (hs.loc intR_ok (by omega))
  have HTT := hide (ht.loc (slcR_ok intR_ok (by decide)) (by omega))
  have HPK := hide (hpk.loc intR_ok (by omega))
  have HC3 : Hid (∀ u, Below w.heap.size w u → Calls Tryz.prog 45 #[.agg #[.slice op n cp, .slice os n cs, .slice ow n cw]] u fun e w' => ∃ (B0 K H p gs : Nat) (vp tw : Value) (rs : List Rw), e = .returned (.iface 147 (machV p)) ∧ u.heap.size ≤ B0 ∧ Mach (Lt w.heap.size) B0 K H p gs vp tw rs x w' ∧ Below u.heap.size u w') := fun u h => by
    rw [hn]
    exact nstart_any x op cp os cs ow cw (Lt w.heap.size) u (HPP.out.below prcR_ok h) (HSS.out.below intR_ok h) (HTT.out.below (slcR_ok intR_ok (by decide)) h) hr
  rw [hst, hwt, ← hn]
  have d0 := bx1.cell 0
  have d1 := bx1.cell 1
  have d2 := bx1.cell 2
  simp only [List.getElem?_cons_zero, List.getElem?_cons_succ] at d0 d1 d2
  have HX1 := hide bx1
  have HX2 := hide bx2
  have HB2 := hide hb2
  have HZ1 := hide bb1.size
  have HR := hide hr
  have HN := hide hn
  have HPL := hide hpl
  obtain ⟨np, hnp⟩ : ∃ m, m = picks.length := ⟨_, rfl⟩
  rw [← hnp] at HC2 hpl ⊢
  have HNP := hide hnp
  have hl0 : ¬ (limit : Int) < 0 := by omega
  have hl1 : ¬ (1048576 : Int) < limit := by omega
  clear hr hst hwt hn bx1 bx2 bb1 bb2 hb2 hp hs ht hz hpk hcP hpz hnp
  go_enter Tryz.func13, Tryz.ntmps13
  go_wp2_with (first
    | (go_at_call 43; refine (HC1.out _ HB2.out).mono ?_; rintro e w3 ⟨rfl, h3⟩; have HB3 := hide (HB2.out.trans (h3.mono HB2.out.size)); have x1 := HX1.out.below h3; have y1 := x1.cell 0; have y2 := x1.cell 1; have y3 := x1.cell 2; simp only [List.getElem?_cons_zero, List.getElem?_cons_succ] at y1 y2 y3; have HX3 := hide x1; have HX23 := hide (HX2.out.below h3); clear h3 x1)
    | (go_at_call 44; refine (HC2.out _ HB3.out).mono ?_; rintro e w4 ⟨rfl, rfl⟩)
    | (go_at_call 45; refine (HC3.out _ HB3.out).mono ?_; rintro e w4 ⟨B0, K, H, p, gs, vp, tw, rs, rfl, hB0, hM, h4⟩; have HM := hide hM; have HX2w := hide (HX23.out.below h4); have HW23 := hide (show w3.heap.size ≤ B0 from hB0); have x4 := HX3.out.below h4; have z0 := x4.cell 0; simp only [List.getElem?_cons_zero, List.getElem?_cons_succ] at z0; have HX4 := hide x4; have HB4 := hide (HB3.out.trans (h4.mono HB3.out.size)); clear hM x4))
  obtain ⟨Bc, hBc⟩ : ∃ Bc, Bc = w4.heap.size := ⟨_, rfl⟩
  have HBC := hide hBc
  clear hBc z0
  go_loopg [12, 43] n (fun gm tc iv wx => ∃ (i : Nat) (rcs : List Rw), i ≤ n ∧ gm = n - i ∧ iv = .int .i64 i ∧ Hid (RTab Bc tc rcs wx) ∧ Hid (tabL rcs = ((x.procs.take i).map fun p => List.replicate p.letters.toNat (0 : Int))) ∧ Hid (Below Bc w4 wx))
  case atStart => exact ⟨0, [], by omega, by omega, rfl, RTab.nil _ _, rfl, Below.refl _ _⟩
  case round =>
    obtain ⟨i, rcs, hi, hgm, rfl, HT, HTL, HB⟩ := hrel
    have HGM := hide hgm
    clear hgm
    have hbw : ∀ k, k < w.heap.size → wr.heap[k]? = w.heap[k]? := fun k hk => by
      have h1 := HB4.out.size
      rw [HB.out.block k (by have := HBC.out; omega)]
      exact HB4.out.block k hk
    have hBw : Bc ≤ wr.heap.size := by have := HB.out.size; have := HBC.out; omega
    by_cases hlt : i < n
    · obtain ⟨S, Le, rls, b7, off7, oR, cR, hd7, hpr, hoP, _, y0, y1, y2, iS, iL, hrc, _, _⟩ := (HPP.out.keep (w' := wr) prcR_ok (fun k hk _ => hbw k hk)).prc_at (i := i) (by have := HN.out; omega)
      subst hoP
      have hck := check_zero (HR.out.proc i _ hpr)
      simp only at hck
      obtain ⟨Ln, rfl⟩ := Int.eq_ofNat_of_zero_le (show (0 : Int) ≤ Le by omega)
      have hLn : 1 ≤ Ln ∧ Ln ≤ 8 := by omega
      obtain ⟨ot, ct_, htc, _⟩ := HT.out.len
      have hrl : rcs.length = i := by
        have := congrArg List.length HTL.out
        unfold tabL at this
        rw [List.length_map, List.length_map, List.length_take, Nat.min_eq_left (by have := HN.out; omega)] at this
        exact this
      rw [hrl] at htc
      subst htc
      have HLEN : Hid ((rcs.map Rw.val).length = i) := by show _ = _; rw [List.length_map]; exact hrl
      have HPR := hide hpr
      clear hd7 hpr hck hrc hrl iS
      have hrep := repeat_any 0 Ln 1 (some ⟨wr.heap.size + 1, 0, none⟩) All ((wr.alloc (.cells #[.int .i64 S, .int .i64 Ln, .slice oR rls.length cR] 89)).alloc (.cells #[.int .i64 0] 3)) (by unfold I64; omega) (by omega) (by have := zero_lit (wr.alloc (.cells #[.int .i64 S, .int .i64 Ln, .slice oR rls.length cR] 89)); rw [alloc_size'] at this; exact this)
      have HREP := hide hrep
      clear hrep
      go_wp2_with (first
        | (go_at_call 46; refine HREP.out.mono ?_
           rintro e w6 ⟨v6, rfl, h6, hb6⟩
           obtain ⟨gr, capr, rr, hv6, hgr, hcapr, _, hrow6, _⟩ := h6.row (by intro e; have := congrArg List.length e; simp at this; omega)
           rw [List.length_replicate] at hv6 hcapr
           subst hv6
           rw [alloc_size', alloc_size'] at hgr
           have hbw6 : Below wr.heap.size wr w6 := (bnew (bnew (Below.refl _ _) _) _).trans (hb6.mono (by rw [alloc_size', alloc_size']; omega))
           have HT6 := hide (HT.out.below hbw6)
           have HR6 := hide hrow6
           have HB6 := hide hbw6
           have hcr : Ln ≤ capr := by { omega }
           clear h6 hb6 hrow6 hcapr hbw6)
        | (at_builtin
           refine wpList_append_one rfl (.tmp 47) (.tmp 52) 24 rfl Bc 23 _ 1 24 Tryz.underlying24 tabInfoN rfl (by decide) valR_ok (.slice ot i ct_) (rcs.map Rw.val) (by simp [Act.eval, Act.put]) (OwnS.new valR_ok HT6.out.tab _) ⟨_, 0, none⟩ 1 [.slice (some ⟨gr, 0, none⟩) Ln capr] (.slice (some ⟨gr, 0, none⟩) Ln capr) (by simp [Act.eval, Act.put]) (World.news_of_block (heap_alloc_new _ _)) ⟨rfl, rfl⟩ (by rw [HLEN.out]; omega) (by rw [HLEN.out]; unfold maxLen; omega) (by rw [alloc_size']; have := HB6.out.size; omega) (fun v' w8 ho hb8 hg8 => ?_)
           have HO8 := hide ho
           have HB8 := hide hb8
           have HG8 := hide hg8
           clear ho hb8 hg8))
      go_roundg (n - (i + 1))
      case measure => have := HGM.out; omega
      case rel =>
        have hs6 := HB6.out.size
        have hlt6 := HR6.out.lt
        have hpush := HT.out.push (r := ⟨gr, capr, List.replicate Ln 0, rr⟩) (W' := w8) (by unfold Rw.val slV; rw [List.length_replicate]; exact HO8.out)
          (fun k hk hne => (HG8.out.block k (by rw [alloc_size']; omega) hne).trans ((Below.heap_alloc w6 _ k (by omega)).trans (HB6.out.block k hk)))
          (HR6.out.keep ((HG8.out.block gr (by rw [alloc_size']; omega) (fun e => by obtain ⟨cur, hcur⟩ := own_heap HT6.out.tab e.symm; exact ne_type HR6.out hcur (by decide) rfl)).trans (Below.heap_alloc w6 _ gr hlt6))) (by simp only; omega) hBw (by simp only [List.length_replicate]; exact hcr)
        refine ⟨i + 1, _, by omega, rfl, by go_num, hpush, ?_, ?_⟩
        · show _ = _
          rw [tabL_app, HTL.out, List.take_add_one, HPR.out]
          simp
        · exact ((HB.out.trans (HB6.out.mono hBw)).alloc (by omega) _).trans HB8.out
    · have hie : i = n := by omega
      subst hie
      have hM0 : Mach (Lt w.heap.size) B0 K H p gs vp tw rs x wr := HM.out.below (by rw [← HBC.out]; exact HB.out)
      have HM0 := hide hM0
      clear hM0
      have hmv := methMv
      have hmk := methMk
      have hnw := methNw
      have hl8 : ∀ y : Nwk, Right y → y.procs = x.procs → y.waiting.length ≤ 12 ∧ ∀ l ∈ y.waiting, l.length ≤ 8 := fun y hy he => by
        refine ⟨by rw [hy.nwt]; exact hy.n.2, fun l hl => ?_⟩
        obtain ⟨j, hj, rfl⟩ := List.mem_iff_getElem.1 hl
        obtain ⟨l', h1, h2⟩ := hy.row (p := j) (by rw [← hy.nwt]; exact hj)
        rw [List.getElem?_eq_getElem hj] at h1
        injection h1 with h1
        rw [h1, h2]
        exact (hy.letters j (by rw [← hy.nwt]; exact hj)).2
      have HL8 := hide hl8
      have HMV := hide (nmoves_any HM0.out (hl8 x HR.out rfl).1 (hl8 x HR.out rfl).2)
      clear hl8
      go_wp2_with (go_at_call 198; refine HMV.out.mono ?_; rintro e w5 ⟨v5, rfl, h5, hb5⟩; obtain ⟨o5, c5, hv5, _, _⟩ := h5.slice mvR_ok; subst hv5; have HO5 := hide h5; have HB5 := hide hb5; clear h5 hb5)
      obtain ⟨oc, cc, htc, _⟩ := HT.out.len
      subst htc
      have hct0 : tabL rcs = x.procs.map fun p => List.replicate p.letters.toNat (0 : Int) := by
        have := HTL.out
        rw [List.take_of_length_le (by have := HN.out; omega)] at this
        exact this
      obtain ⟨ct0, hc0⟩ : ∃ ct0, ct0 = x.procs.map fun p => List.replicate p.letters.toNat (0 : Int) := ⟨_, rfl⟩
      rw [← hc0] at hct0
      have HCT0 := hide hct0
      have HC0 := hide hc0
      have hsh0 : Shape ct0 ct0 0 := ⟨rfl, fun j l hj => ⟨l, hj, rfl⟩, fun l hl z hz => by
        rw [hc0] at hl
        obtain ⟨p, _, rfl⟩ := List.mem_map.1 hl
        have := List.eq_of_mem_replicate hz
        omega⟩
      have HSH0 := hide hsh0
      have hB0c : B0 ≤ Bc := by have h1 := HM.out.low; have h2 := HM.out.sts.lt; have := HBC.out; omega
      have hwr : Bc ≤ wr.heap.size := hBw
      have HT5 : Hid (RTab Bc (.slice oc rcs.length cc) rcs w5) := HT.out.below HB5.out
      have HM5 : Hid (Mach (Lt w.heap.size) B0 K H p gs vp tw rs x w5) := HM0.out.below HB5.out
      have HBB5 : Hid (Below B0 w4 w5) := (HB.out.mono hB0c).trans (HB5.out.mono (by omega))
      have HO6 : Hid (OwnS mvR 2 Bc 80 Non w5 (.slice o5 (movesS x.waiting).length c5) (movesS x.waiting)) := HO5.out.rebase hwr
      obtain ⟨nc, hnc⟩ : ∃ m, m = rcs.length := ⟨_, rfl⟩
      have HNC := hide hnc
      rw [← hnc] at HT5 ⊢
      clear hct0 hc0 hsh0 hnc
      go_loopg [15, 16] limit (fun gm jv lv wx => ∃ (j : Nat) (y : Nwk) (ct : List (List Int)) (rs' rcs' : List Rw) (o6 : Option Addr) (c6 : Nat), j ≤ limit ∧ gm = limit - j ∧ jv = .int .i64 j ∧ lv = .slice o6 (movesS y.waiting).length c6 ∧
        Hid (runX picks (limit - j) j y ct = runX picks limit 0 x ct0) ∧ Hid (Right y ∧ y.procs = x.procs ∧ ∀ t ∈ y.waiting, ∀ z ∈ t, z ≤ 40 + 16 * j) ∧ Hid (Mach (Lt w.heap.size) B0 K H p gs vp tw rs' y wx) ∧ Hid (rs'.map (·.g) = rs.map (·.g)) ∧ Hid (RTab Bc (.slice oc nc cc) rcs' wx) ∧ Hid (tabL rcs' = ct) ∧ Hid (Shape ct0 ct j) ∧
        Hid (OwnS mvR 2 Bc 80 Non wx (.slice o6 (movesS y.waiting).length c6) (movesS y.waiting)) ∧ Hid (Below B0 w4 wx))
      case atStart => exact ⟨0, x, ct0, rs, rcs, o5, c5, by omega, by omega, rfl, rfl, rfl, ⟨HR.out, rfl, fun t ht z hz => by have := hfew t ht z hz; omega⟩, HM5.out, rfl, HT5.out, HCT0.out, HSH0.out, HO6.out, HBB5.out⟩
      case round =>
        obtain ⟨j, y, ct, rs', rcs', o6, c6, hj, hgm, rfl, rfl, HRX, HRY, HMy, HRG, HTy, HTLy, HSHy, HOy, HBy⟩ := hrel
        have HGM := hide hgm
        clear hgm
        obtain ⟨ml, hml⟩ : ∃ m, m = (movesS y.waiting).length := ⟨_, rfl⟩
        have HML := hide hml
        rw [← hml]
        clear hml
        have hpo : W1.heap.size < B0 := by have h2 := HX23.out.lt; have h3 := HW23.out; omega
        have hres : Box wr W1.heap.size [.slice none 0 0, .slice none 0 0, .slice none 0 0] 26 := HX2w.out.keep (HBy.out.block _ hpo)
        have r0 := hres.cell 0
        have r1 := hres.cell 1
        have r2 := hres.cell 2
        have rf := hres.free
        simp only [List.getElem?_cons_zero, List.getElem?_cons_succ] at r0 r1 r2
        have HRES := hide hres
        clear hres
        by_cases hme : 0 < ml
        · by_cases hjl : j = limit
          · have HNO : Hid (runX picks limit 0 x ct0 = none) := by
              show _ = _
              rw [← HRX.out, hjl, Nat.sub_self]
              unfold runX
              rw [if_neg]
              intro e
              have e2 := List.isEmpty_iff.1 e
              have h9 := HML.out
              rw [e2, List.length_nil] at h9
              omega
            have q1 : (((j : Nat) : Int) == ((limit : Nat) : Int)) = true := by simp [hjl]
            have q0 : (0 : Int) < ml := by omega
            clear hjl
            have hp1 : w.heap.size ≤ W1.heap.size := HZ1.out
            have hbw4 : Below w.heap.size w wr := HB4.out.trans (HBy.out.mono (by omega))
            go_wp2_with fail
            have hfin := ((HRES.out.put 0 (.slice none 0 0)).put 1 (.slice none 0 0)).put 2 (.slice none 0 0)
            simp only [List.set_cons_zero, List.set_cons_succ] at hfin
            refine bodyPost_ret (results_cell_tmp2_row rfl _ _ W1.heap.size 26 _ (0, 0) _ rfl hfin Tryz.underlying26 rfl (by kernel_rfl)) rfl ?_
            rw [← HC0.out, HNO.out]
            exact ⟨rfl, ((hbw4.setCell hp1 _).setCell hp1 _).setCell hp1 _⟩
          · obtain ⟨hRy, hpy, hby⟩ := HRY.out
            have q1 : (((j : Nat) : Int) == ((limit : Nat) : Int)) = false := by simp; omega
            have q0 : (0 : Int) < ml := by omega
            have hbw4 : Below w.heap.size w wr := HB4.out.trans (HBy.out.mono (by have := HZ1.out; omega))
            obtain ⟨A, hA⟩ : ∃ A, A = j % np := ⟨_, rfl⟩
            have hAl : A < np := by rw [hA]; exact Nat.mod_lt _ (by omega)
            have rem1 : ((j : Int)).tmod (np : Int) = (A : Int) := by rw [hA, Int.tmod_eq_emod_of_nonneg (by omega)]; rfl
            obtain ⟨Yi, _, hYg, _, bP, offP, hoP, _, cY⟩ := (HPK.out.below intR_ok hbw4).int_at (i := A) (by rw [← HNP.out]; exact hAl)
            subst hoP
            obtain ⟨Y, rfl⟩ := Int.eq_ofNat_of_zero_le (HNEG.out Yi (List.mem_of_getElem? hYg))
            obtain ⟨J, hJ⟩ : ∃ J, J = Y % ml := ⟨_, rfl⟩
            have hJl : J < ml := by rw [hJ]; exact Nat.mod_lt _ hme
            have rem2 : ((Y : Int)).tmod (ml : Int) = (J : Int) := by rw [hJ, Int.tmod_eq_emod_of_nonneg (by omega)]; rfl
            obtain ⟨oz, cz, hz1, hz2, hz3⟩ := HOy.out.slice mvR_ok
            injection hz1 with hz1 hz4 hz5
            subst hz1 hz5
            rw [← HML.out] at hz2
            obtain ⟨mp, ma, hmg, bl, offm, hom, _, cm0, cm1⟩ := hz3.mv_at (i := J) (by rw [← HML.out]; exact hJl)
            subst hom
            have HPS : Hid (pickS picks (movesS y.waiting) j = (mp, ma)) := by
              show _ = _
              unfold pickS
              rw [← HNP.out, ← HML.out, ← hA, getD_some hYg, Int.toNat_natCast, ← hJ, getD_some hmg]
            obtain ⟨l, z, hl, hz, hz0⟩ := mem_moves (List.mem_of_getElem? hmg)
            have hmk0 := moveX_right hRy hl hz hz0 hby (by omega)
            have HMK0 := hide hmk0
            obtain ⟨W6, e6⟩ : ∃ W6, wr.alloc (.cells #[.int .i64 mp, .int .i64 ma] 80) = W6 := ⟨_, rfl⟩
            have bx6 : Box W6 wr.heap.size [.int .i64 mp, .int .i64 ma] 80 := by rw [← e6]; exact Box.new wr [.int .i64 mp, .int .i64 ma] 80
            have bb6 := bnew (Below.refl wr.heap.size wr) (.cells #[.int .i64 mp, .int .i64 ma] 80)
            rw [e6] at bb6
            have HMK := hide (nmake_any (HMy.out.below bb6) hRy hl hz hz0 (fun t ht k hk => by have := hby t ht k hk; omega))
            have HBX6 := hide bx6
            have HBB6 := hide bb6
            have k60 := bx6.cell 0
            have k61 := bx6.cell 1
            simp only [List.getElem?_cons_zero, List.getElem?_cons_succ] at k60 k61
            have HLZ := hide (And.intro hl (And.intro hz hz0))
            clear hYg hA hJ hz3 hz4 hmg hmk0 bx6 bb6 hl hz hRy hpy hby
            go_wp2_with (go_at_call 197; refine HMK.out.mono ?_; rintro e w7 ⟨rfl, rs2, hM7, hg7, hk7⟩; have HM7 := hide hM7; have HG7 := hide hg7; have HK7 := hide hk7; clear hM7 hg7 hk7)
            obtain ⟨hl, hz, hz0⟩ := HLZ.out
            obtain ⟨hRn, hbn, hpn⟩ := HMK0.out
            have hB4 : Bc = w4.heap.size := HBC.out
            have hpB : p < Bc := by rw [hB4]; exact HM.out.main.lt
            have hgs : gs < Bc := by have := HM.out.low; omega
            have htB : ∀ g, tw.ownBlock = some g → g < Bc := fun g hg => by rw [hB4]; exact (HM.out.tab.tab.block g hg).2
            have hrs0 : ∀ r ∈ rs, r.g < Bc := fun r hr => by rw [hB4]; exact (HM.out.tab.row r hr).1.lt
            have hgB : ∀ {rz : List Rw}, rz.map (·.g) = rs.map (·.g) → ∀ r ∈ rz, r.g < Bc := fun {rz} he r hr => by
              have h1 : r.g ∈ rz.map (·.g) := List.mem_map.2 ⟨r, hr, rfl⟩
              rw [he] at h1
              obtain ⟨r0, h2, h3⟩ := List.mem_map.1 h1
              rw [← h3]
              exact hrs0 r0 h2
            have hw6 : wr.heap.size ≤ W6.heap.size := HBB6.out.size
            have hBcr : Bc ≤ wr.heap.size := by rw [hB4]; exact HBy.out.size
            have fix7 : ∀ k, k < W6.heap.size → Bc ≤ k → w7.heap[k]? = W6.heap[k]? := fun k hk hk2 => HK7.out.fix k hk (by omega) fun r hr => by have := hgB HRG.out r hr; omega
            have hT7 : RTab Bc (.slice oc nc cc) rcs' w7 := (HTy.out.below HBB6.out).above fix7
            have hX7 : Box w7 wr.heap.size [.int .i64 mp, .int .i64 ma] 80 := HBX6.out.keep (fix7 _ HBX6.out.lt hBcr)
            have hO7 : Hid (Below B0 w4 w7) := HBy.out.trans ((HBB6.out.mono (by omega)).trans HK7.out.low)
            -- the count
            have hmpn : mp < y.waiting.length := (List.getElem?_eq_some_iff.1 hl).1
            have hmpl : mp < ct.length := by
              rw [HSHy.out.len, HC0.out, List.length_map, ← HRY.out.2.1, ← HRY.out.1.nwt]
              exact hmpn
            obtain ⟨cl, hcl⟩ : ∃ cl, ct[mp]? = some cl := ⟨_, List.getElem?_eq_getElem hmpl⟩
            have hcll : cl.length = l.length := by
              obtain ⟨l0, h1, h2⟩ := HSHy.out.row mp cl hcl
              rw [HC0.out, List.getElem?_map, Option.map_eq_some_iff] at h1
              obtain ⟨pr, h3, h4⟩ := h1
              have h5 := HRY.out.1.wl mp l pr hl (by rw [HRY.out.2.1]; exact h3)
              rw [h2, ← h4, List.length_replicate]
              omega
            have hmal : ma < cl.length := by rw [hcll]; exact (List.getElem?_eq_some_iff.1 hz).1
            obtain ⟨zc, hzc⟩ : ∃ zc, cl[ma]? = some zc := ⟨_, List.getElem?_eq_getElem hmal⟩
            have hzcb := HSHy.out.num cl (List.mem_of_getElem? hcl) zc (List.mem_of_getElem? hzc)
            obtain ⟨r, hr, hrl⟩ : ∃ r, rcs'[mp]? = some r ∧ r.l = cl := by
              have h1 := hcl
              rw [← HTLy.out] at h1
              unfold tabL at h1
              rw [List.getElem?_map, Option.map_eq_some_iff] at h1
              exact h1
            obtain ⟨gc, capc, htc, hcc, hBg, c0, hrow7, hBr, hrc, hrne⟩ := hT7.get hr
            injection htc with htc htn htcap
            subst htc htcap
            rw [hrl] at c0 hrow7 hrc
            have c1 := hrow7.cell (i := ma) (x := zc) hzc
            have f1 := hrow7.free ma
            have k70 := hX7.cell 0
            have k71 := hX7.cell 1
            simp only [List.getElem?_cons_zero, List.getElem?_cons_succ] at k70 k71
            have hmpc : mp < nc := by
              have h1 := (List.getElem?_eq_some_iff.1 hr).1
              omega
            have HT7 := hide hT7
            have HCT := hide (And.intro hcl (And.intro hzc (And.intro hr hrl)))
            have HROW7 := hide hrow7
            obtain ⟨cn, hcn⟩ : ∃ cn, cn = cl.length := ⟨_, rfl⟩
            rw [← hcn] at hmal
            unfold slV at c0
            rw [← hcn] at c0 hrc
            have l0 := World.block_lt_of_cell? _ _ c0
            have l1 := World.block_lt_of_cell? _ _ c1
            have l2 := World.block_lt_of_cell? _ _ k70
            simp only at l0 l1 l2
            have HCN := hide hcn
            have HCLL := hide hcll
            have HMAL := hide hmal
            have HMMM := hide (And.intro hRn (And.intro hbn hpn))
            have HGS := hide (And.intro hpB (And.intro htB (And.intro (@hgB) (And.intro hBr hBcr))))
            have hcn8 : cn ≤ 8 := by
              rw [hcn, hcll]
              have h1 := (HL8.out y HRY.out.1 HRY.out.2.1).2 l (List.mem_of_getElem? hl)
              exact h1
            clear hl hz hz0 hRn hbn hpn hgB hrs0 htB hT7 hX7 fix7 hcl hcll hzc hr hrl hrow7 hcn hmpl hmpn htn hcc hBg hBr hrne hB4 hpB hgs hw6 hBcr
            go_wp2_with fail
            go_region
            obtain ⟨W8, e8⟩ : ∃ W8, (w7.setCell ⟨r.g, ma, none⟩ (.int .i64 (zc + 1))).drew = W8 := ⟨_, rfl⟩
            obtain ⟨hcl, hzc, hr, hrl⟩ := HCT.out
            obtain ⟨hpB, htB, hgB, hBr, hBcr⟩ := HGS.out
            obtain ⟨hRn, hbn, hpn⟩ := HMMM.out
            have hrg2 : rs2.map (·.g) = rs.map (·.g) := HG7.out.trans HRG.out
            have HM8 : Hid (Mach (Lt w.heap.size) B0 K H p gs vp tw rs2 (moveX y mp ma) W8) := by
              show Mach _ _ _ _ _ _ _ _ _ _ _
              refine HM7.out.keepC hpB htB (hgB hrg2) fun k hk => ?_
              rw [← e8]
              exact Below.heap_setCell _ _ _ k (by simp only; omega)
            have HT8 : Hid (RTab Bc (.slice (some ⟨gc, 0, none⟩) nc cc) (rwSet rcs' mp (cl.set ma (zc + 1))) W8) := by
              show RTab _ _ _ _
              rw [← e8]
              have := HT7.out.put hr (k := ma) (by rw [hrl, ← HCN.out]; exact HMAL.out) (zc + 1)
              rw [hrl] at this
              exact this.draw
            have hb78 : Below Bc w7 W8 := by rw [← e8]; exact ((Below.refl _ _).setCell hBr _).drew
            have h78 : w7.heap.size = W8.heap.size := by rw [← e8]; simp
            have HO8 : Hid (Below B0 w4 W8) := hO7.out.trans (hb78.mono hB0c)
            have HMV2 := hide (nmoves_any HM8.out (HL8.out _ hRn (hpn.trans HRY.out.2.1)).1 (HL8.out _ hRn (hpn.trans HRY.out.2.1)).2)
            have HS78 : Hid (Bc ≤ W8.heap.size) := by
              show _ ≤ _
              have h1 := HK7.out.size
              have h2 := HBB6.out.size
              omega
            rw [e8]
            clear e8 c0 c1 f1 k70 k71 l0 l1 l2 hcl hzc hr hrl hpB htB hgB hBr hBcr hRn hbn hpn hrg2 hb78 h78
            go_wp2_with (go_at_call 198; refine HMV2.out.mono ?_; rintro e w9 ⟨v9, rfl, h9, hb9⟩; obtain ⟨o9, c9, hv9, _, _⟩ := h9.slice mvR_ok; subst hv9; have HO9 := hide h9; have HB9 := hide hb9; clear h9 hb9)
            go_roundg (limit - (j + 1))
            case measure => have := HGM.out; omega
            case rel =>
              obtain ⟨hcl, hzc, hr, hrl⟩ := HCT.out
              obtain ⟨hRn, hbn, hpn⟩ := HMMM.out
              have hne : ¬ (movesS y.waiting).isEmpty = true := fun e => by
                have e2 := List.isEmpty_iff.1 e
                have h9 := HML.out
                rw [e2, List.length_nil] at h9
                omega
              refine ⟨j + 1, moveX y mp ma, bump ct mp ma 1, rs2, _, o9, c9, by omega, rfl, by go_num, rfl, ?_, ⟨hRn, hpn.trans HRY.out.2.1, fun t ht k hk => by have := hbn t ht k hk; push_cast; omega⟩, HM8.out.below HB9.out, HG7.out.trans HRG.out, HT8.out.below HB9.out, ?_, ?_, HO9.out.rebase HS78.out, HO8.out.trans (HB9.out.mono (by have := HS78.out; omega))⟩
              · show _ = _
                rw [← HRX.out, show limit - j = (limit - (j + 1)) + 1 from by omega, runX, if_neg hne, HPS.out]
              · show _ = _
                rw [tabL_set, HTLy.out, bump_eq hcl hzc]
              · show Shape _ _ _
                rw [bump_eq hcl hzc]
                have hz9 := HSHy.out.num cl (List.mem_of_getElem? hcl) zc (List.mem_of_getElem? hzc)
                exact HSHy.out.put (by push_cast; omega) hcl (by rw [← HCN.out]; exact HMAL.out) (by push_cast; omega)
        · have hme0 : movesS y.waiting = [] := List.length_eq_zero_iff.1 (by have := HML.out; omega)
          have HYE : Hid (runX picks limit 0 x ct0 = some (y, ct)) := by
            show _ = _
            rw [← HRX.out]
            cases (limit - j) <;> (unfold runX; rw [if_pos (by simp [hme0])])
          have q0 : ¬ (0 : Int) < ml := by omega
          have HNN := hide (nnet_any HMy.out)
          obtain ⟨oV, cV, hvp, _, _⟩ := HMy.out.procs.slice prcR_ok
          obtain ⟨oT, cT, htw, _⟩ := HMy.out.tab.len
          subst hvp htw
          have hp1 : w.heap.size ≤ W1.heap.size := HZ1.out
          have hbw4 : Below w.heap.size w wr := HB4.out.trans (HBy.out.mono (by omega))
          obtain ⟨nv, hnv⟩ : ∃ m, m = y.procs.length := ⟨_, rfl⟩
          obtain ⟨nt, hnt⟩ : ∃ m, m = rs'.length := ⟨_, rfl⟩
          have HNV := hide hnv
          have HNT := hide hnt
          rw [← hnv, ← hnt] at HNN
          clear hme hme0 hnv hnt
          go_wp2_with (go_at_call 199; refine HNN.out.mono ?_; rintro e w7 ⟨rfl, hb7⟩; have HB7 := hide hb7; have hr7 := HRES.out.below hb7; have HRES7 := hide hr7; have t0 := hr7.cell 0; have t1 := hr7.cell 1; have t2 := hr7.cell 2; have tf := hr7.free; simp only [List.getElem?_cons_zero, List.getElem?_cons_succ] at t0 t1 t2; clear hb7 hr7 r0 r1 r2 rf)
          have hO : ¬ Lt w.heap.size W1.heap.size := by unfold Lt; omega
          have hfin := ((HRES7.out.put 0 (.slice oV nv cV)).put 1 (.slice (some ⟨gs, 0, none⟩) nv nv)).put 2 (.slice oT nt cT)
          simp only [List.set_cons_zero, List.set_cons_succ] at hfin
          have hM8 := (((HMy.out.below HB7.out).away (q := ⟨W1.heap.size, 0, none⟩) hpo hO (.slice oV nv cV)).away (q := ⟨W1.heap.size, 1, none⟩) hpo hO (.slice (some ⟨gs, 0, none⟩) nv nv)).away (q := ⟨W1.heap.size, 2, none⟩) hpo hO (.slice oT nt cT)
          have hpc : W1.heap.size < Bc := by omega
          have hT8 := (((HTy.out.below HB7.out).away (q := ⟨W1.heap.size, 0, none⟩) hpc (.slice oV nv cV)).away (q := ⟨W1.heap.size, 1, none⟩) hpc (.slice (some ⟨gs, 0, none⟩) nv nv)).away (q := ⟨W1.heap.size, 2, none⟩) hpc (.slice oT nt cT)
          have hb8 : Below w.heap.size w w7 := hbw4.trans (HB7.out.mono hbw4.size)
          refine bodyPost_ret (results_cell_tmp2_row rfl _ _ W1.heap.size 26 _ (0, 0) _ rfl hfin Tryz.underlying26 rfl (by kernel_rfl)) rfl ?_
          rw [← HC0.out, HYE.out]
          have hbd := tab_bound HC0.out HSHy.out HR.out (by omega)
          obtain ⟨oa, cap, e1, e2, e3⟩ := hT8.slices fun r hr => hbd r.l (by rw [← HTLy.out]; exact List.mem_map.2 ⟨r, hr, rfl⟩)
          injection e1 with e1 e4 e5
          subst e1 e5
          rw [HTLy.out] at e2 e3 e4
          refine ⟨_, oc, cc, ?_, hM8.netAt HRY.out.1, e2, e3.all (slcR_ok intR_ok (by decide)) (by decide), ((hb8.setCell hp1 _).setCell hp1 _).setCell hp1 _⟩
          rw [HNV.out, HNT.out, ← e4]
          rfl

end Go.Proofs.YtnigfddanoaonaaGreat

set_option linter.unusedVariables false
set_option linter.unusedSimpArgs false
set_option linter.unnecessarySimpa false
namespace Go.Proofs.YtnigfddanoaonaaGreat
open Go.RowKit

/-- A list of the call's own is put behind: 'out = append(out, row)'. -/
theorem Lists.push {base s0 : Nat} {e lt : TypeId} {w w1 w' : World} {ov ov' v : Value} {vs : List Value} {xss : List (List Int)} {xs : List Int} (h : Lists base e lt w ov vs xss) (hs : w.heap.size = s0) (hb : base ≤ s0) (hb1 : Below s0 w w1) (hv : OwnN s0 e w1 v xs) {o : Obj}
    (hr : w'.ownsRow base lt 1 ov' (vs.length + 1) (vs ++ [v])) (hg : (w1.alloc o).grownBy w' ov.ownBlock)
    (hat : ov'.ownBlock = ov.ownBlock ∨ ov'.ownBlock = some (w1.alloc o).heap.size) : Lists base e lt w' ov' (vs ++ [v]) (xss ++ [xs]) := by
  have hsz := hb1.size
  have key : ∀ (i : Nat) (u : Value), (vs ++ [v])[i]? = some u → (i < vs.length ∧ vs[i]? = some u) ∨ (i = vs.length ∧ u = v) := fun i u hi => by
    rcases Nat.lt_or_ge i vs.length with hj | hj
    · rw [List.getElem?_append_left hj] at hi; exact .inl ⟨hj, hi⟩
    · rw [List.getElem?_append_right hj] at hi
      have h1 := (List.getElem?_eq_some_iff.1 hi).1
      simp at h1
      have : i = vs.length := by omega
      subst this
      simp at hi
      exact .inr ⟨rfl, hi.symm⟩
  have hold : ∀ (i : Nat) (u : Value) (k : Nat), vs[i]? = some u → u.ownBlock = some k → base ≤ k ∧ k < s0 := fun i u k hi hk => by have := h.ms.block hi k hk; omega
  have hovl : ∀ k, ov.ownBlock = some k → k < s0 := fun k hk => by have := (h.row.lt k hk).2; omega
  refine ⟨by rw [List.length_append]; exact hr, ⟨by simp [h.len], fun i u ys hu hy => ?_, fun i j u t k hu ht hku hkt => ?_⟩, fun i u k hi hk he => ?_⟩
  · rcases key i u hu with ⟨a1, a2⟩ | ⟨a1, a2⟩
    · rw [List.getElem?_append_left (by rw [← h.len]; exact a1)] at hy
      refine (h.ms.own i u ys a2 hy).keep fun g hgu => ?_
      have hgl := hold i u g a2 hgu
      rw [hg.block g (by simp; omega) (fun he => h.off i u g a2 hgu he.symm), Below.heap_alloc w1 o g (by omega)]
      exact hb1.block g hgl.2
    · subst a1 a2
      rw [List.getElem?_append_right (by rw [← h.len]; exact Nat.le_refl _), h.len, Nat.sub_self] at hy
      simp at hy
      subst hy
      refine (hv.rebase hb).keep fun g hgu => ?_
      have hgl := hv.block g hgu
      rw [hg.block g (by simp; omega) (fun he => by have := hovl g he.symm; omega), Below.heap_alloc w1 o g (by omega)]
  · rcases key i u hu with ⟨a1, a2⟩ | ⟨a1, a2⟩ <;> rcases key j t ht with ⟨b1, b2⟩ | ⟨b1, b2⟩
    · exact h.ms.apart i j u t k a2 b2 hku hkt
    · subst b2
      have := hold i u k a2 hku
      have := hv.block k hkt
      omega
    · subst a2
      have := hold j t k b2 hkt
      have := hv.block k hku
      omega
    · rw [a1, b1]
  · rcases key i u hi with ⟨a1, a2⟩ | ⟨a1, a2⟩
    · rcases hat with ha | ha
      · exact h.off i u k a2 hk (ha ▸ he)
      · rw [ha] at he
        injection he with he
        have := hold i u k a2 hk
        simp at he
        omega
    · subst a2
      have hkl := hv.block k hk
      rcases hat with ha | ha
      · rw [ha] at he
        have := hovl k he
        omega
      · rw [ha] at he
        injection he with he
        simp at he
        omega

/-- As it is read. -/
theorem Lists.read {base : Nat} {e lt : TypeId} {w : World} {ov : Value} {vs : List Value} {xss : List (List Int)} (h : Lists base e lt w ov vs xss) (hl : ∀ xs ∈ xss, xs.length ≤ 9223372036854775807) : ∃ oa c, ov = .slice oa xss.length c ∧ xss.length ≤ c ∧ SliceR (slcR intR 1) 1 All w oa xss := by
  have hlen := h.len
  rcases h.row.2 with ⟨h1, h2⟩ | ⟨g, c, cur, h1, h2, h3, h4, h5, h6, h7⟩
  · refine ⟨none, 0, by rw [h1, ← hlen, h2], by omega, ?_⟩
    have : xss = [] := List.eq_nil_of_length_eq_zero (by omega)
    subst this
    exact SliceR.nil _ _ _ _ _
  · refine ⟨_, c, by rw [h1, hlen], by omega, fun i xs hx => ?_⟩
    have hil : i < vs.length := by rw [hlen]; exact (List.getElem?_eq_some_iff.1 hx).1
    obtain ⟨oa, c', e1, e2, e3⟩ := (h.ms.own i vs[i] xs (List.getElem?_eq_getElem hil) hx).slice
    refine ⟨g, 0, [vs[i]], rfl, trivial, ⟨oa, c', by rw [e1], e2, hl xs (List.mem_of_getElem? hx), e3.wide intR_ok (by decide) fun _ _ _ => trivial⟩, fun j u hu => ?_⟩
    have hj : j = 0 := by
      have := (List.getElem?_eq_some_iff.1 hu).1
      simp at this
      exact this
    subst hj
    simp at hu
    subst hu
    subst h1
    have := h.row.cellAt i (by omega)
    rw [List.getElem?_eq_getElem hil] at this
    simpa using this

/-- To which vertex each half-edge in the lists leads. -/
def tgL (ar : List (List Int)) (E : List (Int × Int)) : List (List Int) := ar.map fun l => l.map fun x => hv E (oppH x.toNat)

def TgPost (w : World) (t : List (List Int)) (e : Ending) (w' : World) : Prop := ∃ ot c, e = .returned (.slice ot t.length c) ∧ t.length ≤ c ∧ SliceR (slcR intR 1) 1 All w' ot t ∧ Below w.heap.size w w'

end Go.Proofs.YtnigfddanoaonaaGreat

set_option linter.unusedVariables false
set_option linter.unusedSimpArgs false
set_option linter.unnecessarySimpa false
namespace Go.Proofs.YtnigfddanoaonaaGreat
open Go.RowKit

/-- The results of Step. -/
def stepResR (n : Int) (es : List Edg) (f : List Nat) (ar : List (List Int)) (q : Int) (rot : List Int) (v : Int) : List Int × Int × Int :=
  if stE n es f ar q rot v = 0 then (if v = q then ([], 0, 15) else (stpR ar rot v.toNat, ((stpV ar (endsL es) rot v.toNat : Nat) : Int), 0)) else ([], 0, stE n es f ar q rot v)
def StepRes (w : World) (x : List Int × Int × Int) (e : Ending) (w' : World) : Prop := ∃ rv, e = .returned (.tuple #[rv, .int .i64 x.2.1, .int .i64 x.2.2]) ∧ OwnS intR 1 w.heap.size 3 Non w' rv x.1 ∧ Below w.heap.size w w'

theorem Brd.own {B : Nat} {w : World} {p rg cap : Nat} {tv : Value} {q : Int} {av : Value} {tl rot : List Int} {rest : List Value} (h : Brd B w p rg cap tv q av tl rot rest) (hx : ∀ x ∈ rot, I64 x) :
    OwnS intR 1 B 3 Non w (.slice (some ⟨rg, 0, none⟩) rot.length cap) rot := h.row.ownInts hx h.gB h.len h.max
theorem RtOk.i64 {n : Int} {es : List Edg} {ar : List (List Int)} {q : Nat} {rot : List Int} (h : RtOk n es ar q rot) : ∀ x ∈ rot, I64 x := by
  intro x hx
  obtain ⟨i, hi, rfl⟩ := List.getElem_of_mem hx
  have hia : i < ar.length := by rw [← h.nrot]; exact hi
  have h1 := h.rots i _ _ (List.getElem?_eq_getElem hi) (List.getElem?_eq_getElem hia)
  have h2 := (h.rows i _ (List.getElem?_eq_getElem hia)).1
  have h3 := h.cap
  unfold I64
  by_cases e : i = q
  · have := h1.2.1 e; omega
  · have := h1.2.2 e; omega

end Go.Proofs.YtnigfddanoaonaaGreat

set_option linter.unusedVariables false
set_option linter.unusedSimpArgs false
set_option linter.unnecessarySimpa false
namespace Go.Proofs.YtnigfddanoaonaaGreat
open Go.RowKit

section
variable (n : Int) (es : List Edg) (oe : Option Addr) (c : Nat) (ar : List (List Int)) (oa : Option Addr) (ca : Nat) (F G : Foot) (w : World) (hs : SliceR edgR 3 F w oe es) (hc : es.length ≤ c) (hc2 : es.length ≤ 1000)
    (ha : SliceR (slcR intR 1) 1 G w oa ar) (hac : ar.length ≤ ca) (hac2 : ar.length ≤ 9223372036854775807) (f : List Nat) (hU : Hid (gErr n es = 0 → Uf f (eL es)))
    (q : Int) (rot : List Int) (ot : Option Addr) (ct : Nat) (H : Foot) (hr : SliceR intR 1 H w ot rot) (hrc : rot.length ≤ ct) (hrl : rot.length ≤ 9223372036854775807)
include hs hc hc2 ha hac hac2 hU hr hrc hrl

end

end Go.Proofs.YtnigfddanoaonaaGreat

set_option linter.unusedVariables false
set_option linter.unusedSimpArgs false
set_option linter.unnecessarySimpa false
namespace Go.Proofs.YtnigfddanoaonaaGreat
open Go.RowKit

def smB (n : Int) (es : List Edg) (N M : Int) : Bool := if es.length ≤ 40 then (if gErr n es = 0 then decide (n ≤ N ∧ ((endsL es).length : Int) ≤ M) else true) else false

/-- No list is longer than 40. -/
def longB : List (List Int) → Bool
  | [] => true
  | l :: r => if l.length ≤ 40 then longB r else false
def few44 (n : Int) (es : List Edg) (ar : List (List Int)) : Bool := if smB n es 6 9 = true then (if ar.length ≤ 20 then longB ar else false) else false
def few45 (n : Int) (es : List Edg) (ar : List (List Int)) (rot : List Int) : Bool := if few44 n es ar = true then decide (rot.length ≤ 30) else false

end Go.Proofs.YtnigfddanoaonaaGreat

set_option linter.unusedVariables false
set_option linter.unusedSimpArgs false
namespace Go.Proofs.YtnigfddanoaonaaGreat
open Go.RowKit

def forest (es : List Edg) : List Nat := (eL es).foldl (fun f x => joinF f x.1 x.2) (List.range 12)
theorem forest_go : ∀ (l m : List (Nat × Nat)) (f : List Nat), Uf f m → (∀ x ∈ m, x.1 < 12 ∧ x.2 < 12) → (∀ x ∈ l, x.1 < 12 ∧ x.2 < 12) → Uf (l.foldl (fun f x => joinF f x.1 x.2) f) (m ++ l)
  | [], m, f, h, _, _ => by simpa using h
  | x :: l, m, f, h, hm, hl => by
    obtain ⟨h1, h2⟩ := hl x (List.mem_cons_self ..)
    have := forest_go l (m ++ [x]) (joinF f x.1 x.2) (h.join h1 h2 hm) (fun y hy => by
      rcases List.mem_append.1 hy with h3 | h3
      · exact hm y h3
      · simp at h3; subst h3; exact ⟨h1, h2⟩) (fun y hy => hl y (List.mem_cons_of_mem _ hy))
    rw [List.append_assoc] at this
    exact this
theorem forest_ok (n : Int) (es : List Edg) : gErr n es = 0 → Uf (forest es) (eL es) := fun h => by
  have := forest_go (eL es) [] (List.range 12) Uf.begin (by simp) (fun x hx => ?_)
  · unfold forest; simpa using this
  · have h1 := eL_lt h es.length x
    rw [List.take_length] at h1
    exact h1 hx

end Go.Proofs.YtnigfddanoaonaaGreat

set_option linter.unusedVariables false
set_option linter.unusedSimpArgs false
namespace Go.Proofs.YtnigfddanoaonaaGreat
open Go.RowKit

/-- How a round may be left. -/
def jointPost (Jy : World → Prop) (Jx : Code → World → Prop) (W : World) : Exit → Act → World → Prop
  | .normal, _, W' => KeepsOthers W W' ∧ Jy W'
  | .ret, _, W' => KeepsOthers W W' ∧ Jx .ret W'
  | .exit id, _, W' => KeepsOthers W W' ∧ Jx (.exit id) W'
  | .goto t, _, W' => KeepsOthers W W' ∧ Jx (.goto t) W'
  | .panic _, _, _ => False
  | .outgrown, _, _ => False

/-- The iterator's word: J i before the i-th yield, Jy i behind it, Jd at the end. -/
def SeqJoint (F : Fence) (n : Nat) (P : Program) (g : Nat) (lb : Array Value) (encs : Nat → Array Value) (J Jy : Nat → World → Prop) (Jd : World → Prop) : Prop :=
  ∀ (l : Nat) (R X : World → Prop) (W : World), (∀ A B, R A → KeepsOthers A B → R B) →
    (∀ i W1, J i W1 → R W1 → YieldAt F (n - 1) P l (encs i) W1 fun e W' => (e = .returned (.bool true) ∧ Jy i W' ∧ R W') ∨ (e = .returned (.bool false) ∧ X W')) →
    J 0 W → R W → CallsIn F n P g (#[.func (.yield l) #[] #[]] ++ lb) W fun e W' => (∃ v, e = .returned v) ∧ ((Jd W' ∧ R W') ∨ X W')

end Go.Proofs.YtnigfddanoaonaaGreat

set_option linter.unusedVariables false
set_option linter.unusedSimpArgs false
namespace Go.Proofs.YtnigfddanoaonaaGreat
open Go.RowKit Go.Shelf

attribute [local go_sem] Oper.semAt_some

/-- The boxes of a way: where the chip is, the sink, the step. -/
structure WayBox (W : World) (h : Nat) (v q : Nat) (fv : Value) : Prop where
  bv : Boxed W h 3 (.int .i64 v)
  bq : Boxed W (h + 1) 3 (.int .i64 q)
  bs : Boxed W (h + 2) 170 fv
theorem boxed_same {W W' : World} {B : Nat} {t : TypeId} {v : Value} (h : Boxed W B t v) (e : W'.heap[B]? = W.heap[B]?) : Boxed W' B t v := e.trans h
theorem WayBox.keep {W W' : World} {h v q : Nat} {fv : Value} (hb : WayBox W h v q fv) (hk : ∀ k, h ≤ k → k ≤ h + 2 → k < W.heap.size → W'.heap[k]? = W.heap[k]?) : WayBox W' h v q fv :=
  ⟨boxed_same hb.bv (hk _ (by omega) (by omega) hb.bv.lt), boxed_same hb.bq (hk _ (by omega) (by omega) hb.bq.lt), boxed_same hb.bs (hk _ (by omega) (by omega) hb.bs.lt)⟩
theorem WayBox.put {W : World} {h v q : Nat} {fv : Value} (hb : WayBox W h v q fv) (u : Nat) : WayBox (W.setCell ⟨h, 0, none⟩ (.int .i64 u)) h u q fv :=
  ⟨hb.bv.set _, hb.bq.other (by omega) _, hb.bs.other (by omega) _⟩
theorem WayBox.own {β : Type} {h q : Nat} {fv : Value} (v : β → Nat) : Own (fun (s : β) W => WayBox W h (v s) q fv) := fun s X Y row hs hg hr =>
  ⟨boxed_own h _ (fun s : β => Value.int .i64 (v s : Nat)) s X Y row hs.bv hg hr, boxed_own (h + 1) _ (fun _ : Unit => _) () X Y row hs.bq hg hr, boxed_own (h + 2) _ (fun _ : Unit => _) () X Y row hs.bs hg hr⟩
end Go.Proofs.YtnigfddanoaonaaGreat

set_option linter.unusedVariables false
set_option linter.unusedSimpArgs false
namespace Go.Proofs.YtnigfddanoaonaaGreat
open Go.RowKit

/-- The rotors and the chip behind i steps. -/
def rtN (ar : List (List Int)) (E : List (Int × Int)) (rot : List Int) (v : Nat) : Nat → List Int × Nat
  | 0 => (rot, v)
  | i + 1 => (stpR ar (rtN ar E rot v i).1 (rtN ar E rot v i).2, stpV ar E (rtN ar E rot v i).1 (rtN ar E rot v i).2)
/-- The first time at q, before M. -/
def firstAt (v : Nat → Nat) (q M : Nat) : Option Nat := (List.range M).find? (fun i => v i == q)
/-- The vertices on a way. -/
def wayL (v : Nat → Nat) (k : Nat) : List Int := (List.range k).map fun i => ((v i : Nat) : Int)
theorem Brd.owned {β : Type} {B p rg cap : Nat} {tv : Value} {q : Int} {av : Value} {tl : List Int} {rest : List Value} (rot : β → List Int) : Own (fun (s : β) W => Brd B W p rg cap tv q av tl (rot s) rest) := fun s X Y row h hg hr => by
  refine h.keep fun k _ hk hor => ?_
  have hc : ∃ o : Obj, X.heap[k]? = some o ∧ o.isCells = true := by
    rcases hor with rfl | rfl | e
    · exact ⟨_, h.box, rfl⟩
    · exact ⟨_, h.row, rfl⟩
    · obtain ⟨cells, ho, _⟩ := h.tos
      rcases ho.2 with ⟨rfl, _⟩ | ⟨g, c, cur, rfl, _, hg2, _⟩
      · simp [Value.ownBlock] at e
      · simp only [Value.ownBlock, Option.some.injEq] at e
        subst e
        exact ⟨_, hg2, rfl⟩
  obtain ⟨o, ho, hc⟩ := hc
  exact grownBy_keeps_cells hg hr ho hc

def ListErr (w : World) (l : List Int) (x : Int) (e : Ending) (w' : World) : Prop := ∃ rv, e = .returned (.tuple #[rv, .int .i64 x]) ∧ OwnS intR 1 w.heap.size 3 Non w' rv l ∧ Below w.heap.size w w'

def chipV (ar : List (List Int)) (E : List (Int × Int)) (rot : List Int) (v : Nat) (i : Nat) : Nat := (rtN ar E rot v i).2
def rotI (ar : List (List Int)) (E : List (Int × Int)) (rot : List Int) (v : Nat) (i : Nat) : List Int := (rtN ar E rot v i).1

/-- Between the yields of a way whose step turns: the board, what is the caller's own (C), and what lay before. -/
structure WA (w1 : World) (p rg cap : Nat) (tv : Value) (q : Int) (av : Value) (tl : List Int) (rest : List Value) (R : Nat → List Int) (C : Nat → World → Prop) (i k : Nat) (W : World) : Prop where
  brd : Brd w1.heap.size W p rg cap tv q av tl (R i) rest
  own : C k W
  low : Below w1.heap.size w1 W
theorem WA.from {β : Type} {w1 : World} {p rg cap : Nat} {tv : Value} {q : Int} {av : Value} {tl : List Int} {rest : List Value} {R : Nat → List Int} {C : Nat → World → Prop} {B : Nat} (hB : w1.heap.size ≤ B) (hC : OwnFrom B C) (i k : β → Nat) :
    OwnFrom B (fun (s : β) W => WA w1 p rg cap tv q av tl rest R C (i s) (k s) W) := fun s X Y row h hg hr =>
  ⟨(Brd.owned (fun s : β => R (i s))).from B s X Y row h.brd hg hr, hC (k s) X Y row h.own hg hr, ownFrom_below (β := Unit) (Nat.le_refl _) hB () X Y row h.low hg hr⟩

section
variable {w1 : World} {p rg cap : Nat} {tv : Value} {q : Int} {av : Value} {tl : List Int} {rest : List Value} {R : Nat → List Int} {C : Nat → World → Prop} {B : Nat} {h q' : Nat} {fv : Value}
end

end Go.Proofs.YtnigfddanoaonaaGreat

set_option linter.unusedVariables false
set_option linter.unusedSimpArgs false
set_option linter.unnecessarySimpa false
namespace Go.Proofs.YtnigfddanoaonaaGreat
open Go.RowKit Go.Shelf

attribute [local go_sem] Oper.semAt_some

def walkOf (ar : List (List Int)) (E : List (Int × Int)) (q : Nat) (rot : List Int) (v : Nat) : List Int × Int :=
  match firstAt (chipV ar E rot v) q 4096 with
  | some i => (wayL (chipV ar E rot v) (i + 1), 0)
  | none => ([], 12)
/-- The vertices on the way of a chip, or the error. -/
def walkRes (n : Int) (es : List Edg) (f : List Nat) (ar : List (List Int)) (q : Int) (rot : List Int) (v : Int) : List Int × Int :=
  if stE n es f ar q rot v = 0 then walkOf ar (endsL es) q.toNat rot v.toNat else ([], stE n es f ar q rot v)

theorem run_cellAddr {P : Program} {tmps : Array Value} {a : Tmp} {w : World} {x : Addr} (ha : tmps.getD a undef = .pointer (some x)) : (asAddr (tmps.getD a undef)).run P w = .ok x w := by
  rw [ha]; simp [asAddr]
/-- The caller's own of Walk: the vertices that have come. -/
def WOut (b n₀ : Nat) (V : Nat → Nat) (k : Nat) (W : World) : Prop := ∃ u, Boxed W b 23 u ∧ W.ownsRow n₀ 3 1 u k ((wayL V k).map (Value.int .i64)) ∧ True
theorem WOut.from (b n₀ B : Nat) (V : Nat → Nat) : OwnFrom B (WOut b n₀ V) := (holdsRow_own n₀ b 23 3 1 (fun k : Nat => k) (fun k => (wayL V k).map (Value.int .i64)) (fun _ _ => True)).from B
theorem ownsRow_other {W W' : World} {n₀ : Nat} {e : TypeId} {size : Nat} {v : Value} {k : Nat} {xs : List Value} (h : W.ownsRow n₀ e size v k xs) {r : Nat} (hr : r < n₀) (hg : W.grownBy W' (some r)) : W'.ownsRow n₀ e size v k xs :=
  h.kept hg (.inr fun e' => by
    rcases h.2 with ⟨rfl, _⟩ | ⟨g, cap, cur, rfl, hb, _, _⟩
    · simp [Value.ownBlock] at e'
    · simp only [Value.ownBlock, Option.some.injEq] at e'
      omega)
theorem WOut.grown {b n₀ : Nat} {V : Nat → Nat} {k r : Nat} {W W' : World} (h : WOut b n₀ V k W) (hg : W.grownBy W' (some r)) (hb : b ≠ r) (hr : r < n₀) : WOut b n₀ V k W' := by
  obtain ⟨u, h1, h2, h3⟩ := h
  exact ⟨u, h1.kept hg (fun e => hb (by injection e)), ownsRow_other h2 hr hg, h3⟩

section
variable (n : Int) (es : List Edg) (oe : Option Addr) (c : Nat) (ar : List (List Int)) (oa : Option Addr) (ca : Nat) (F G : Foot) (w : World) (hs : SliceR edgR 3 F w oe es) (hc : es.length ≤ c) (hc2 : es.length ≤ 1000)
    (ha : SliceR (slcR intR 1) 1 G w oa ar) (hac : ar.length ≤ ca) (hac2 : ar.length ≤ 9223372036854775807) (f : List Nat) (hU : Hid (gErr n es = 0 → Uf f (eL es)))
    (q : Int) (rot : List Int) (ot : Option Addr) (ct : Nat) (H : Foot) (hr : SliceR intR 1 H w ot rot) (hrc : rot.length ≤ ct) (hrl : rot.length ≤ 9223372036854775807)
include hs hc hc2 ha hac hac2 hU hr hrc hrl

end

end Go.Proofs.YtnigfddanoaonaaGreat

set_option linter.unusedVariables false
set_option linter.unusedSimpArgs false
set_option linter.unnecessarySimpa false
namespace Go.Proofs.YtnigfddanoaonaaGreat
open Go.RowKit Go.Shelf

attribute [local go_sem] Oper.semAt_some

def routeUp (M : Nat) (ar : List (List Int)) (E : List (Int × Int)) (q : Nat) (rot : List Int) (v : Nat) : List Int × Int × Int :=
  match firstAt (chipV ar E rot v) q M with
  | some i => (rotI ar E rot v i, (i : Int), 0)
  | none => ([], 0, 12)
def routeOf (ar : List (List Int)) (E : List (Int × Int)) (q : Nat) (rot : List Int) (v : Nat) : List Int × Int × Int := routeUp 1048577 ar E q rot v
/-- The rotors behind the way of a chip and the number of steps, or the error. -/
def routeRes (n : Int) (es : List Edg) (f : List Nat) (ar : List (List Int)) (q : Int) (rot : List Int) (v : Int) : List Int × Int × Int :=
  if stE n es f ar q rot v = 0 then routeOf ar (endsL es) q.toNat rot v.toNat else ([], 0, stE n es f ar q rot v)

/-- The caller's own of Route: the count. -/
def RCnt (b : Nat) (k : Nat) (W : World) : Prop := Boxed W b 3 (.int .i64 ((k : Int) - 1))
theorem RCnt.from (b B : Nat) : OwnFrom B (RCnt b) := (boxed_own b 3 (fun k : Nat => Value.int .i64 ((k : Int) - 1))).from B

section
variable (n : Int) (es : List Edg) (oe : Option Addr) (c : Nat) (ar : List (List Int)) (oa : Option Addr) (ca : Nat) (F G : Foot) (w : World) (hs : SliceR edgR 3 F w oe es) (hc : es.length ≤ c) (hc2 : es.length ≤ 1000)
    (ha : SliceR (slcR intR 1) 1 G w oa ar) (hac : ar.length ≤ ca) (hac2 : ar.length ≤ 9223372036854775807) (f : List Nat) (hU : Hid (gErr n es = 0 → Uf f (eL es)))
    (q : Int) (rot : List Int) (ot : Option Addr) (ct : Nat) (H : Foot) (hr : SliceR intR 1 H w ot rot) (hrc : rot.length ≤ ct) (hrl : rot.length ≤ 9223372036854775807)
include hs hc hc2 ha hac hac2 hU hr hrc hrl

end

end Go.Proofs.YtnigfddanoaonaaGreat

set_option linter.unusedVariables false
set_option linter.unusedSimpArgs false
set_option linter.unnecessarySimpa false
namespace Go.Proofs.YtnigfddanoaonaaGreat
open Go.RowKit

/-- The single edges along which the rotors of the first k vertices point. -/
def edL (ar : List (List Int)) (q : Nat) (rot : List Int) : Nat → List Int
  | 0 => []
  | k + 1 => edL ar q rot k ++ (if k = q then [] else [((((ar.getD k []).getD (rot.getD k 0).toNat 0).toNat / 2 : Nat) : Int)])
def edR (n : Int) (es : List Edg) (f : List Nat) (ar : List (List Int)) (q : Int) (rot : List Int) : List Int := if rtE n es f ar q rot = 0 then edL ar q.toNat rot rot.length else []
/-- What the rotor at a vertex points to. -/
theorem RtOk.at {n : Int} {es : List Edg} {ar : List (List Int)} {q : Nat} {rot : List Int} (h : RtOk n es ar q rot) {v : Nat} (hv' : v < ar.length) (hvq : v ≠ q) :
    ∃ (l : List Int) (k g : Nat), ar[v]? = some l ∧ rot[v]? = some (k : Int) ∧ k < l.length ∧ l.length ≤ 1000000 ∧ l[k]? = some (g : Int) ∧ g < 2 * (endsL es).length := by
  have hl : ar[v]? = some ar[v] := List.getElem?_eq_getElem hv'
  have hk0 : rot[v]? = some (rot[v]'(by rw [h.nrot]; exact hv')) := List.getElem?_eq_getElem (by rw [h.nrot]; exact hv')
  obtain ⟨r1, _, r3⟩ := h.rots v _ _ hk0 hl
  generalize rot[v]'(by rw [h.nrot]; exact hv') = k at hk0 r1 r3
  generalize ar[v] = l at *
  obtain ⟨k, rfl⟩ := Int.eq_ofNat_of_zero_le r1
  have hkl : k < l.length := by have := r3 hvq; omega
  obtain ⟨w1, w2⟩ := h.rows v l hl
  obtain ⟨g, hg, hg2, _⟩ := w2 _ (List.getElem_mem hkl)
  exact ⟨l, k, g, hl, hk0, hkl, by have := h.cap; omega, by rw [List.getElem?_eq_getElem hkl, hg], hg2⟩
end Go.Proofs.YtnigfddanoaonaaGreat

set_option linter.unusedVariables false
set_option linter.unusedSimpArgs false
set_option linter.unnecessarySimpa false
namespace Go.Proofs.YtnigfddanoaonaaGreat
open Go.RowKit

/-- The vertices that Routed keeps. -/
def keptN (i : Nat) : Nat := if i + 1 ≤ 4096 then i + 1 else 4097

def RoutedPost (w : World) (ar : List (List Int)) (E : List (Int × Int)) (q : Nat) (rot : List Int) (v : Nat) (e : Ending) (w' : World) : Prop :=
  ∃ o1 n1 c1 o2 n2 c2 k o, e = .returned (.agg #[.slice o1 n1 c1, .int .i64 k, .slice o2 n2 c2, .bool o]) ∧ Below w.heap.size w w' ∧
    ((∃ i : Nat, o = false ∧ k = (i : Int) ∧ firstAt (chipV ar E rot v) q 1048577 = some i ∧ i < 1048577 ∧ chipV ar E rot v i = q ∧ (∀ j, j < i → chipV ar E rot v j ≠ q) ∧
        OwnS intR 1 w.heap.size 3 Non w' (.slice o1 n1 c1) (rotI ar E rot v i) ∧ OwnS intR 1 w.heap.size 3 Non w' (.slice o2 n2 c2) (wayL (chipV ar E rot v) (keptN i))) ∨
     (o = true ∧ ∀ j, j < 1048577 → chipV ar E rot v j ≠ q))

theorem results_row1 {fn : Func} {a : Tmp} {ty : TypeId} (h : fn.results = #[.cell a ty]) {P : Program} (tmps : Array Value) (w : World) (g : Nat) (cs : Array Value)
    (ha : tmps.getD a undef = .pointer (some ⟨g, 0, none⟩)) (e2 : (loadVar ty ⟨g, 0, none⟩).run P w = .ok (.agg cs) w) :
    (results fn tmps).run P w = .ok (.agg cs) w := by
  have e1 := run_cellAddr (P := P) (w := w) ha
  have e3 : (asAddr (tmps[a]?.getD undef)).run P w = .ok ⟨g, 0, none⟩ w := by simpa using e1
  simp [results, h, Sem.run_bind, e3, e2, Result.andThen]

def stepsOf (W : World) (xb : Nat) : Nat := match W.cell? ⟨xb, 1, none⟩ with | some v => (intOf v).toNat | none => 0
end Go.Proofs.YtnigfddanoaonaaGreat

set_option linter.unusedVariables false
set_option linter.unusedSimpArgs false
set_option linter.unnecessarySimpa false
namespace Go.Proofs.YtnigfddanoaonaaGreat
open Go.RowKit


/-- The order of two lists of the same length. -/
def ordE : List Int → List Int → Int
  | [], _ => 0
  | _, [] => 0
  | x :: l, y :: m => if x < y then -1 else if y < x then 1 else ordE l m
end Go.Proofs.YtnigfddanoaonaaGreat

set_option linter.unusedVariables false
set_option linter.unusedSimpArgs false
set_option linter.unnecessarySimpa false
namespace Go.Proofs.YtnigfddanoaonaaGreat
open Go.RowKit

def triE : List Edg := [⟨0, 1, 1⟩, ⟨0, 2, 1⟩, ⟨1, 2, 1⟩]
def triA : List (List Int) := [[0, 2], [1, 4], [3, 5]]

theorem i64_s {x : Int} (h : 0 ≤ x ∧ x ≤ 100) : I64 x := by unfold I64; omega
theorem triE_lit (B : Nat) (w : World) (hB : B ≤ w.heap.size) : SliceR edgR 3 (Ge B) (w.alloc (.cells #[.int .i64 0, .int .i64 1, .int .i64 1, .int .i64 0, .int .i64 2, .int .i64 1, .int .i64 1, .int .i64 2, .int .i64 1] 145)) (some ⟨w.heap.size, 0, none⟩) triE :=
  SliceR.lit (F := Ge B) edgR_ok w 145 [[.int .i64 0, .int .i64 1, .int .i64 1], [.int .i64 0, .int .i64 2, .int .i64 1], [.int .i64 1, .int .i64 2, .int .i64 1]] _ (fun i y hy => by
    match i, hy with
    | 0, hy => simp [triE] at hy; subst hy; exact ⟨_, rfl, rfl, i64_s (by decide), i64_s (by decide), i64_s (by decide)⟩
    | 1, hy => simp [triE] at hy; subst hy; exact ⟨_, rfl, rfl, i64_s (by decide), i64_s (by decide), i64_s (by decide)⟩
    | 2, hy => simp [triE] at hy; subst hy; exact ⟨_, rfl, rfl, i64_s (by decide), i64_s (by decide), i64_s (by decide)⟩
    | i + 3, hy => simp [triE] at hy) rfl (fun _ h => h) hB

set_option maxRecDepth 100000 in
theorem tri18_any (w : World) : Calls Tryz.prog 39 #[] w fun e w' => ∃ g, e = .returned (.agg #[.int .i64 3, .slice (some ⟨g, 0, none⟩) 3 3]) ∧ SliceR edgR 3 (Ge w.heap.size) w' (some ⟨g, 0, none⟩) triE ∧ Below w.heap.size w w' := by
  go_enter Tryz.func39, Tryz.ntmps39
  go_wp2_with fail
  have hb := (Box.new w [.int .i64 3, .slice (some ⟨w.heap.size + 1, 0, none⟩) 3 3] 43).next (.cells #[.int .i64 0, .int .i64 1, .int .i64 1, .int .i64 0, .int .i64 2, .int .i64 1, .int .i64 1, .int .i64 2, .int .i64 1] 145)
  have hl := triE_lit w.heap.size (w.alloc (.cells #[.int .i64 3, .slice (some ⟨w.heap.size + 1, 0, none⟩) 3 3] 43)) (by simp)
  rw [World.size_alloc] at hl
  refine bodyPost_ret (results_row1 rfl _ _ w.heap.size #[.int .i64 3, .slice (some ⟨w.heap.size + 1, 0, none⟩) 3 3] rfl (run_loadVar_row _ _ _ _ _ _ _ hb Tryz.underlying43 rfl (by kernel_rfl))) rfl ?_
  exact ⟨_, rfl, hl, bnew (bnew (Below.refl _ _) _) _⟩

set_option maxRecDepth 100000 in
theorem tri45_any (w : World) : Calls Tryz.prog 42 #[] w fun e w' => ∃ g h, e = .returned (.agg #[.int .i64 3, .slice (some ⟨g, 0, none⟩) 3 3, .slice (some ⟨h, 0, none⟩) 3 3]) ∧ SliceR edgR 3 All w' (some ⟨g, 0, none⟩) triE ∧ SliceR (slcR intR 1) 1 All w' (some ⟨h, 0, none⟩) triA ∧ Below w.heap.size w w' := by
  go_enter Tryz.func42, Tryz.ntmps42
  go_wp2_with fail
  refine (tri18_any _).mono ?_
  rintro e w2 ⟨g, rfl, hE, hb2⟩
  have hx2 := hb2.mono (B' := w.heap.size + 1) (by simp)
  have hsz2 := box_lt hx2
  obtain ⟨W3, hW3⟩ : ∃ W3, (((w2.alloc (.cells #[.int .i64 0, .int .i64 2] 3)).alloc (.cells #[.int .i64 1, .int .i64 4] 3)).alloc (.cells #[.int .i64 3, .int .i64 5] 3)).alloc (.cells #[.slice (some ⟨w2.heap.size, 0, none⟩) 2 2, .slice (some ⟨w2.heap.size + 1, 0, none⟩) 2 2, .slice (some ⟨w2.heap.size + 1 + 1, 0, none⟩) 2 2] 23) = W3 := ⟨_, rfl⟩
  have hb3 : Below w2.heap.size w2 W3 := by rw [← hW3]; exact bnew (bnew (bnew (bnew (Below.refl _ _) _) _) _) _
  have hx3 := hx2.trans (hb3.mono (by omega))
  have hA : SliceR (slcR intR 1) 1 (Ge w2.heap.size) W3 (some ⟨w2.heap.size + 1 + 1 + 1, 0, none⟩) triA := by
    rw [← hW3]
    have a1 := (ints_lit (F := Ge w2.heap.size) (G := Ge w2.heap.size) w2 3 [0, 2] (by intro x hx; simp at hx; rcases hx with rfl | rfl <;> exact i64_s (by decide)) (by show _ ≤ _; simp; try omega))
    have a2 := (ints_lit (F := Ge w2.heap.size) (G := Ge w2.heap.size) (w2.alloc (.cells #[.int .i64 0, .int .i64 2] 3)) 3 [1, 4] (by intro x hx; simp at hx; rcases hx with rfl | rfl <;> exact i64_s (by decide)) (by show _ ≤ _; simp; try omega))
    have a3 := (ints_lit (F := Ge w2.heap.size) (G := Ge w2.heap.size) ((w2.alloc (.cells #[.int .i64 0, .int .i64 2] 3)).alloc (.cells #[.int .i64 1, .int .i64 4] 3)) 3 [3, 5] (by intro x hx; simp at hx; rcases hx with rfl | rfl <;> exact i64_s (by decide)) (by show _ ≤ _; simp; try omega))
    simp only [List.map_cons, List.map_nil, World.size_alloc] at a1 a2 a3
    have b1 := (a1.below intR_ok (bnew (Below.refl _ _) (.cells #[.int .i64 1, .int .i64 4] 3))).below intR_ok (bnew (Below.refl _ _) (.cells #[.int .i64 3, .int .i64 5] 3))
    have b2 := a2.below intR_ok (bnew (Below.refl _ _) (.cells #[.int .i64 3, .int .i64 5] 3))
    have := SliceR.lit (F := Ge w2.heap.size) (G := Ge w2.heap.size) (slcR_ok intR_ok (by decide)) (((w2.alloc (.cells #[.int .i64 0, .int .i64 2] 3)).alloc (.cells #[.int .i64 1, .int .i64 4] 3)).alloc (.cells #[.int .i64 3, .int .i64 5] 3)) 23
      [[.slice (some ⟨w2.heap.size, 0, none⟩) 2 2], [.slice (some ⟨w2.heap.size + 1, 0, none⟩) 2 2], [.slice (some ⟨w2.heap.size + 1 + 1, 0, none⟩) 2 2]] triA (fun i y hy => by
        match i, hy with
        | 0, hy => simp [triA] at hy; subst hy; exact ⟨_, rfl, _, _, rfl, by decide, by decide, b1⟩
        | 1, hy => simp [triA] at hy; subst hy; exact ⟨_, rfl, _, _, rfl, by decide, by decide, b2⟩
        | 2, hy => simp [triA] at hy; subst hy; exact ⟨_, rfl, _, _, rfl, by decide, by decide, a3⟩
        | i + 3, hy => simp [triA] at hy) rfl (fun _ h => h) (by show _ ≤ _; simp; try omega)
    simpa using this
  have hbx : Box W3 w.heap.size [.int .i64 0, .slice none 0 0, .slice none 0 0] 52 := (Box.new w [.int .i64 0, .slice none 0 0, .slice none 0 0] 52).under hx3 (by omega)
  have d0 := hbx.cell 0
  have d1 := hbx.cell 1
  have d2 := hbx.cell 2
  simp only [List.getElem?_cons_zero, List.getElem?_cons_succ] at d0 d1 d2
  have f0 := hbx.free 0
  have f1 := hbx.free 1
  have f2 := hbx.free 2
  have HE := hide (hE.below edgR_ok hb3)
  have HX := hide hx3
  have HA := hide hA
  have HBX := hide hbx
  clear hb2 hx2 hE hbx hA hx3 hb3
  go_wp2_with fail
  have hbx := ((HBX.out.put 0 (.int .i64 3)).put 1 (.slice (some ⟨g, 0, none⟩) 3 3)).put 2 (.slice (some ⟨w2.heap.size + 1 + 1 + 1, 0, none⟩) 3 3)
  simp only [List.set_cons_zero, List.set_cons_succ] at hbx
  refine bodyPost_ret (results_row1 rfl _ _ w.heap.size #[.int .i64 3, .slice (some ⟨g, 0, none⟩) 3 3, .slice (some ⟨w2.heap.size + 1 + 1 + 1, 0, none⟩) 3 3] rfl (run_loadVar_row _ _ _ _ _ _ _ hbx Tryz.underlying52 rfl (by kernel_rfl))) rfl ?_
  have hn : ∀ k, w.heap.size < k → (((W3.setCell ⟨w.heap.size, 0, none⟩ (.int .i64 3)).setCell ⟨w.heap.size, 1, none⟩ (.slice (some ⟨g, 0, none⟩) 3 3)).setCell ⟨w.heap.size, 2, none⟩ (.slice (some ⟨w2.heap.size + 1 + 1 + 1, 0, none⟩) 3 3)).heap[k]? = W3.heap[k]? := fun k hk => by
    rw [Below.heap_setCell _ _ _ k (by simp; omega), Below.heap_setCell _ _ _ k (by simp; omega), Below.heap_setCell _ _ _ k (by simp; omega)]
  refine ⟨g, _, rfl, (HE.out.keep edgR_ok fun k hk _ => hn k ?_).all edgR_ok (by decide), (HA.out.keep (slcR_ok intR_ok (by decide)) fun k hk _ => hn k ?_).all (slcR_ok intR_ok (by decide)) (by decide), ?_⟩
  · have h1 : w.heap.size + 1 ≤ k := by simpa [Ge] using hk
    omega
  · have h1 : w2.heap.size ≤ k := hk
    omega
  · exact (((below_box HX.out).setCell (p := ⟨w.heap.size, 0, none⟩) (by simp) _).setCell (p := ⟨w.heap.size, 1, none⟩) (by simp) _).setCell (p := ⟨w.heap.size, 2, none⟩) (by simp) _

end Go.Proofs.YtnigfddanoaonaaGreat

set_option linter.unusedVariables false
set_option linter.unusedSimpArgs false
set_option linter.unnecessarySimpa false
namespace Go.Proofs.YtnigfddanoaonaaGreat
open Go.RowKit

/-- The vertices below k, other than the sink, that have chips. -/
def liveP (q : Nat) (l : List Int) (k : Nat) : List Int := ((List.range k).filter fun v : Nat => decide (v ≠ q ∧ 0 < l.getD v 0)).map fun v : Nat => (v : Int)
def liveL (q : Nat) (l : List Int) : List Int := liveP q l l.length
abbrev MSt := List Int × List Int × List Int
def addL (l : List Int) (v : Nat) (x : Int) : List Int := l.set v (l.getD v 0 + x)
/-- A chip moves from v. -/
def mvS (ar : List (List Int)) (E : List (Int × Int)) (s : MSt) (v : Nat) : MSt := (stpR ar s.1 v, addL (addL s.2.1 v (-1)) (stpV ar E s.1 v) 1, addL s.2.2 v 1)
/-- What there is behind i moves, by picks. -/
def mvN (ar : List (List Int)) (E : List (Int × Int)) (q : Nat) (pk : Nat → List Int → Int) (s : MSt) : Nat → MSt
  | 0 => s
  | i + 1 => mvS ar E (mvN ar E q pk s i) (pk i (liveL q (mvN ar E q pk s i).2.1)).toNat

structure MvOk (n : Int) (es : List Edg) (ar : List (List Int)) (q : Nat) (i : Nat) (s : MSt) : Prop where
  rot : RtOk n es ar q s.1
  ll : s.2.1.length = ar.length
  tl : s.2.2.length = ar.length
  lb : ∀ x ∈ s.2.1, -1048576 - (i : Int) ≤ x ∧ x ≤ 1048576 + (i : Int)
  tb : ∀ x ∈ s.2.2, 0 ≤ x ∧ x ≤ (i : Int)
def Picks (pk : Nat → List Int → Int) : Prop := ∀ i l, l ≠ [] → pk i l ∈ l
/-- The first pick. -/
def pk0 : Nat → List Int → Int := fun _ l => l.headD 0
def start (rot d : List Int) (n : Nat) : MSt := (rot, d, List.replicate n 0)
/-- The rotors and the numbers of steps, or the error. -/
def movesUp (M : Nat) (ar : List (List Int)) (E : List (Int × Int)) (q : Nat) (pk : Nat → List Int → Int) (rot d : List Int) : List Int × List Int × Int :=
  match firstAt (fun i => (liveL q (mvN ar E q pk (start rot d d.length) i).2.1).length) 0 M with
  | some i => ((mvN ar E q pk (start rot d d.length) i).1, (mvN ar E q pk (start rot d d.length) i).2.2, 0)
  | none => ([], [], 12)
def movesOf (ar : List (List Int)) (E : List (Int × Int)) (q : Nat) (pk : Nat → List Int → Int) (rot d : List Int) : List Int × List Int × Int := movesUp 1048577 ar E q pk rot d
end Go.Proofs.YtnigfddanoaonaaGreat

set_option linter.unusedVariables false
set_option linter.unusedSimpArgs false
set_option linter.unnecessarySimpa false
namespace Go.Proofs.YtnigfddanoaonaaGreat
open Go.RowKit

def MovesPost (B : Nat) (w : World) (x : List Int × List Int × Int) (e : Ending) (w' : World) : Prop :=
  ∃ rv cv, e = .returned (.tuple #[rv, cv, .int .i64 x.2.2]) ∧ OwnS intR 1 B 3 Non w' rv x.1 ∧ OwnS intR 1 B 3 Non w' cv x.2.1 ∧ Below B w w'

end Go.Proofs.YtnigfddanoaonaaGreat

set_option linter.unusedVariables false
set_option linter.unusedSimpArgs false
set_option linter.unnecessarySimpa false
namespace Go.Proofs.YtnigfddanoaonaaGreat
open Go.RowKit

def allRes (n : Int) (es : List Edg) (f : List Nat) (ar : List (List Int)) (q : Int) (rot d : List Int) : List Int × List Int × Int :=
  if gvE n es f ar q rot d = 0 then movesOf ar (endsL es) q.toNat pk0 rot d else ([], [], gvE n es f ar q rot d)

end Go.Proofs.YtnigfddanoaonaaGreat

set_option linter.unusedVariables false
set_option linter.unusedSimpArgs false
set_option linter.unnecessarySimpa false
namespace Go.Proofs.YtnigfddanoaonaaGreat
open Go.RowKit Go.Shelf

/-- Where the rotor at u points, and where one is behind i such steps. -/
def stV (ar : List (List Int)) (E : List (Int × Int)) (rot : List Int) (u : Nat) : Nat := (hv E (oppH ((ar.getD u []).getD (rot.getD u 0).toNat 0).toNat)).toNat
def itV (ar : List (List Int)) (E : List (Int × Int)) (rot : List Int) (v : Nat) : Nat → Nat
  | 0 => v
  | i + 1 => stV ar E rot (itV ar E rot v i)
/-- The marks of ranges that are over. -/
def Marks (B : Nat) (ds : List Deferred) (w : World) : Prop := ∃ Ds : List Nat, ds = Ds.map (fun D => ({ target := .collected D, args := #[] } : Deferred)) ∧ Ds.Nodup ∧ ∀ D ∈ Ds, B ≤ D ∧ w.heap[D]? = some (.deferred (some []))
theorem Marks.nil (B : Nat) (w : World) : Marks B [] w := ⟨[], rfl, List.nodup_nil, fun _ h => by cases h⟩
theorem Marks.cons {B D : Nat} {ds : List Deferred} {w w' : World} (h : Marks B ds w) (hb : ∀ k, B ≤ k → k < w.heap.size → w'.heap[k]? = w.heap[k]?) (hD : w.heap.size ≤ D) (hB : B ≤ w.heap.size) (hk : w'.heap[D]? = some (.deferred (some []))) : Marks B ({ target := .collected D, args := #[] } :: ds) w' := by
  obtain ⟨Ds, rfl, h1, h2⟩ := h
  have hl : ∀ D' ∈ Ds, D' < w.heap.size := fun D' hD' => (Array.getElem?_eq_some_iff.1 (h2 D' hD').2).1
  refine ⟨D :: Ds, rfl, List.nodup_cons.2 ⟨fun hm => ?_, h1⟩, fun D' hD' => ?_⟩
  · have := hl D hm; omega
  · rcases List.mem_cons.1 hD' with rfl | hm
    · exact ⟨by omega, hk⟩
    · exact ⟨(h2 D' hm).1, (hb D' (h2 D' hm).1 (hl D' hm)).trans (h2 D' hm).2⟩
theorem Marks.keep {B : Nat} {ds : List Deferred} {w w' : World} (h : Marks B ds w) (hb : ∀ k, B ≤ k → w'.heap[k]? = w.heap[k]?) : Marks B ds w' := by
  obtain ⟨Ds, e, h1, h2⟩ := h
  exact ⟨Ds, e, h1, fun D' hD' => ⟨(h2 D' hD').1, (hb D' (h2 D' hD').1).trans (h2 D' hD').2⟩⟩
theorem Marks.below {B : Nat} {ds : List Deferred} {w w' : World} (h : Marks B ds w) (hb : Below w.heap.size w w') : Marks B ds w' := by
  obtain ⟨Ds, e, h1, h2⟩ := h
  exact ⟨Ds, e, h1, fun D' hD' => ⟨(h2 D' hD').1, (hb.block D' (Array.getElem?_eq_some_iff.1 (h2 D' hD').2).1).trans (h2 D' hD').2⟩⟩
/-- Between the yields of a way that only looks: the count in box b, and what lay before. -/
structure LA (wr : World) (b k : Nat) (W : World) : Prop where
  cnt : Boxed W b 3 (.int .i64 (k : Int))
  low : Below wr.heap.size wr W
theorem LA.from {β : Type} {wr : World} {b B : Nat} (hB : wr.heap.size ≤ B) (k : β → Nat) : OwnFrom B (fun (s : β) W => LA wr b (k s) W) := fun s X Y row h hg hr =>
  ⟨boxed_own b 3 (fun s : β => Value.int .i64 (k s : Nat)) s X Y row h.cnt hg (fun r e => (hr r e).2), ownFrom_below (β := Unit) (Nat.le_refl _) hB () X Y row h.low hg hr⟩
end Go.Proofs.YtnigfddanoaonaaGreat

set_option linter.unusedVariables false
set_option linter.unusedSimpArgs false
set_option linter.unnecessarySimpa false
namespace Go.Proofs.YtnigfddanoaonaaGreat
open Go.RowKit Go.Shelf

attribute [local go_sem] Oper.semAt_some

/-- From each vertex one comes to the sink, before len steps. -/
def acyB (ar : List (List Int)) (E : List (Int × Int)) (q : Nat) (rot : List Int) (m k : Nat) : Bool := (List.range k).all fun v => (firstAt (itV ar E rot v) q m).isSome

def BoolErr (w : World) (b : Bool) (x : Int) (e : Ending) (w' : World) : Prop := e = .returned (.tuple #[.bool b, .int .i64 x]) ∧ Below w.heap.size w w'

section
variable (n : Int) (es : List Edg) (oe : Option Addr) (c : Nat) (ar : List (List Int)) (oa : Option Addr) (ca : Nat) (F G : Foot) (w : World) (hs : SliceR edgR 3 F w oe es) (hc : es.length ≤ c) (hc2 : es.length ≤ 1000)
    (ha : SliceR (slcR intR 1) 1 G w oa ar) (hac : ar.length ≤ ca) (hac2 : ar.length ≤ 9223372036854775807) (f : List Nat) (hU : Hid (gErr n es = 0 → Uf f (eL es)))
    (q : Int) (rot : List Int) (ot : Option Addr) (ct : Nat) (H : Foot) (hr : SliceR intR 1 H w ot rot) (hrc : rot.length ≤ ct) (hrl : rot.length ≤ 9223372036854775807)
include hs hc hc2 ha hac hac2 hU hr hrc hrl

/-- Whether rotors are acyclic, or the error. -/
def acycRes (n : Int) (es : List Edg) (f : List Nat) (ar : List (List Int)) (q : Int) (rot : List Int) : Bool × Int :=
  if rtE n es f ar q rot = 0 then (acyB ar (endsL es) q.toNat rot rot.length rot.length, 0) else (false, rtE n es f ar q rot)
end

end Go.Proofs.YtnigfddanoaonaaGreat

set_option linter.unusedVariables false
set_option linter.unusedSimpArgs false
namespace Go.Proofs.YtnigfddanoaonaaGreat
open Go.RowKit

end Go.Proofs.YtnigfddanoaonaaGreat

set_option linter.unusedVariables false
set_option linter.unusedSimpArgs false
namespace Go.Proofs.YtnigfddanoaonaaGreat
open Go.RowKit

def triN : Nwk := ⟨[sinkP, topP [⟨0, 0⟩, ⟨2, 0⟩], topP [⟨0, 0⟩, ⟨1, 0⟩]], [0, 0, 0], [[0], [2], [1]]⟩
def triM : Nwk := ⟨triN.procs, [0, 1, 0], [[0], [0], [0]]⟩
def triZ : Nwk := ⟨[sinkP, turnP [0, 2], turnP [0, 1]], [0, 0, 0], [[0], [1], [0]]⟩
theorem tn_sand : sandR 3 triE (forest triE) 0 [0, 2, 1] = (triN, 0) := by decide +kernel
theorem tn_ok : netErr triN = 0 := by decide +kernel
theorem tn_moves : movesS triN.waiting = [(1, 0), (2, 0)] := by decide +kernel
theorem tn_run : runX [0] 100 0 triN (triN.procs.map fun p => List.replicate p.letters.toNat (0 : Int)) = some (triM, [[2], [3], [2]]) := by decide +kernel
theorem tn_nab : nabR triN = (true, 0) := by decide +kernel
theorem tn_c1 : compR triN [[2], [3], [2]] = (true, 0) := by decide +kernel
theorem tn_c2 : compR triN [[4], [4], [3]] = (true, 0) := by decide +kernel
theorem tn_c3 : compR triN [[2], [2], [1]] = (false, 0) := by decide +kernel
theorem tn_rout : routR 3 triE (forest triE) triA 0 [0, 0, 0] [0, 1, 0] = (triZ, 0) := by decide +kernel
theorem tz_ok : netErr triZ = 0 := by decide +kernel
theorem tz_run : (runX [3] 100 0 triZ (triZ.procs.map fun p => List.replicate p.letters.toNat (0 : Int))).map (fun r => r.1.state) = some [0, 0, 1] := by decide +kernel

theorem neq_mvC1 (w : World) : (binOp .neq 80 (.agg #[.int .i64 1, .int .i64 0]) (.agg #[.int .i64 1, .int .i64 0])).run Tryz.prog w = .ok (.bool false) w := by kernel_rfl
theorem neq_mvC2 (w : World) : (binOp .neq 80 (.agg #[.int .i64 2, .int .i64 0]) (.agg #[.int .i64 2, .int .i64 0])).run Tryz.prog w = .ok (.bool false) w := by kernel_rfl
theorem neqGuard_mv (op : BinOp) (a b : Operand) (x y : Array Value) (w : World) : (eqGuard op 80 a b (.agg x) (.agg y)).run Tryz.prog w = .ok () w :=
  run_eqGuard_agg w op 80 a b x y (by kernel_rfl)
set_option maxHeartbeats 1000000 in
theorem eqMv2_any (oa ob : Option Addr) (c d : Nat) (F G : Foot) (w : World) (hs : SliceR mvR 2 F w oa [(1, 0), (2, 0)]) (ht : SliceR mvR 2 G w ob [(1, 0), (2, 0)]) :
    Calls Tryz.prog 41 #[.slice oa 2 c, .slice ob 2 d] w fun e w' => e = .returned (.bool true) ∧ Below w.heap.size w w' := by
  go_enter Tryz.func41, Tryz.ntmps41
  go_wp2_with fail
  go_loopw [13] (fun i wr => ∃ k : Nat, k ≤ 2 ∧ i = .int .i64 k ∧ Below w.heap.size w wr) (fun i _ => 2 - (intOf i).toNat)
  case atStart => exact ⟨0, by omega, rfl, Below.refl _ _⟩
  case round =>
    obtain ⟨k, hk, rfl, hb⟩ := hrel
    have q1 := neqGuard_mv
    have q2 := neq_mvC1
    have q3 := neq_mvC2
    by_cases hlt : k < 2
    · obtain ⟨a, b, hg, b1, off1, rfl, _, c0, c1⟩ := (hs.below mvR_ok hb).mv_at (i := k) hlt
      obtain ⟨a', b', hg', b2, off2, rfl, _, e0, e1⟩ := (ht.below mvR_ok hb).mv_at (i := k) hlt
      have HB := hide hb
      rcases (by omega : k = 0 ∨ k = 1) with rfl | rfl
      · simp at hg hg'
        obtain ⟨rfl, rfl⟩ := hg
        obtain ⟨rfl, rfl⟩ := hg'
        simp at c0 c1 e0 e1
        clear hs ht hb
        go_wp2_with fail
        go_quiet (fail)
        go_wp2_with fail
        go_roundw
        case rel => exact ⟨1, by omega, by go_num, below_drewN HB.out _⟩
        case measure => simp [intOf]
      · simp at hg hg'
        obtain ⟨rfl, rfl⟩ := hg
        obtain ⟨rfl, rfl⟩ := hg'
        simp at c0 c1 e0 e1
        clear hs ht hb
        go_wp2_with fail
        go_quiet (fail)
        go_wp2_with fail
        go_roundw
        case rel => exact ⟨2, by omega, by go_num, below_drewN HB.out _⟩
        case measure => simp [intOf]
    · have hk2 : k = 2 := by omega
      subst hk2
      go_wp2_with fail
      go_ret
      exact ⟨rfl, hb⟩

end Go.Proofs.YtnigfddanoaonaaGreat

set_option linter.unusedVariables false
namespace Go.Proofs.YtnigfddanoaonaaGreat
open Go.RowKit

def QuietB (b : Bool) (w : World) (e : Ending) (w' : World) : Prop := e = .returned (.bool b) ∧ ∃ m, w' = w.drewN m
theorem QuietB.below {b : Bool} {w : World} {e : Ending} {w' : World} (h : QuietB b w e w') : e = .returned (.bool b) ∧ Below w.heap.size w w' := by
  obtain ⟨rfl, m, rfl⟩ := h
  exact ⟨rfl, below_drewN (Below.refl _ _) _⟩
theorem drawn_more {w wr : World} (h : Hid (∃ n, wr = w.drewN n)) (k : Nat) : ∃ n, wr.drewN k = w.drewN n := by
  obtain ⟨n, rfl⟩ := h.out
  exact ⟨n + k, by rw [World.drewN_drewN]⟩
theorem drawn_slice {α : Type} {R : Rep α} {sz : Nat} {F : Foot} {oa : Option Addr} {xs : List α} {w wr : World} (h : Hid (∃ n, wr = w.drewN n)) (ok : RepOk R sz) (hs : SliceR R sz F w oa xs) : SliceR R sz F wr oa xs := by
  obtain ⟨n, rfl⟩ := h.out
  exact hs.drewN ok n
theorem tabR_ok : RepOk (slcR intR 1) 1 := slcR_ok intR_ok (by omega)

set_option maxHeartbeats 400000 in
theorem sameInts08_any (l m : List Int) (oa ob : Option Addr) (c d : Nat) (F G : Foot) (w : World) (hs : SliceR intR 1 F w oa l) (ht : SliceR intR 1 G w ob m) (hc2 : l.length ≤ 9223372036854775807) :
    Calls Tryz.prog 47 #[.slice oa l.length c, .slice ob m.length d] w (QuietB (decide (l = m)) w) := by
  by_cases hlen : l.length = m.length
  case neg =>
    have hl' : ((l.length : Int) != m.length) = true := by simp; omega
    have HL : Hid (decide (l = m) = false) := decide_eq_false fun h => hlen (by rw [h])
    clear hlen
    go_enter Tryz.func47, Tryz.ntmps47
    go_wp2_with fail
    go_ret; exact ⟨ret_bool HL.out.symm, 0, rfl⟩
  have hl' : ((l.length : Int) != m.length) = false := by simp [hlen]
  have HL := hide hlen
  clear hlen
  go_enter Tryz.func47, Tryz.ntmps47
  go_wp2_with fail
  go_loopw [5] (fun i wr => ∃ k : Nat, k ≤ l.length ∧ i = .int .i64 k ∧ Hid (l = m ↔ l.drop k = m.drop k) ∧ Hid (∃ n, wr = w.drewN n)) (fun i _ => l.length - (intOf i).toNat)
  case atStart => exact ⟨0, by omega, rfl, Iff.rfl, 0, rfl⟩
  case round =>
    obtain ⟨k, hk, rfl, HE, HW⟩ := hrel
    by_cases hlt : k < l.length
    · obtain ⟨x, hd, _, _, b, off, rfl, _, c0⟩ := (drawn_slice HW intR_ok hs).int_at hlt
      have hlt2 : k < m.length := by rw [← HL.out]; exact hlt
      obtain ⟨x', hd', _, _, b', off', rfl, _, c0'⟩ := (drawn_slice HW intR_ok ht).int_at hlt2
      have HD := hide hd
      have HD' := hide hd'
      clear hd hd' hs ht
      by_cases hx : x = x'
      · obtain rfl := hx
        go_wp2_with fail
        go_quiet (fail)
        go_wp2_with fail
        go_roundw
        case rel =>
          refine ⟨k + 1, by omega, by go_num, ?_, drawn_more HW nq⟩
          show _ ↔ _
          rw [HE.out, HD.out, HD'.out]; simp
        case measure => simp [intOf]; omega
      · have hne : (x != x') = true := by simp [hx]
        have HX := hide hx
        clear hx
        go_wp2_with fail
        go_quiet (fail)
        go_wp2_with fail
        go_ret
        refine ⟨ret_bool ?_, drawn_more HW nq⟩
        symm
        refine decide_eq_false fun h => HX.out ?_
        have h2 := HE.out.1 h
        rw [HD.out, HD'.out] at h2
        simp at h2
        exact h2.1
    · go_wp2_with fail
      go_ret
      refine ⟨ret_bool ?_, HW.out⟩
      symm
      refine decide_eq_true (HE.out.2 ?_)
      rw [List.drop_eq_nil_of_le (by omega), List.drop_eq_nil_of_le (by have := HL.out; omega)]

set_option maxHeartbeats 400000 in
theorem sameTables_any (l m : List (List Int)) (oa ob : Option Addr) (c d : Nat) (F G : Foot) (w : World) (hs : SliceR (slcR intR 1) 1 F w oa l) (ht : SliceR (slcR intR 1) 1 G w ob m) (hc2 : l.length ≤ 9223372036854775807) :
    Calls Tryz.prog 15 #[.slice oa l.length c, .slice ob m.length d] w (QuietB (decide (l = m)) w) := by
  by_cases hlen : l.length = m.length
  case neg =>
    have hl' : ((l.length : Int) != m.length) = true := by simp; omega
    have HL : Hid (decide (l = m) = false) := decide_eq_false fun h => hlen (by rw [h])
    clear hlen
    go_enter Tryz.func15, Tryz.ntmps15
    go_wp2_with fail
    go_ret; exact ⟨ret_bool HL.out.symm, 0, rfl⟩
  have hl' : ((l.length : Int) != m.length) = false := by simp [hlen]
  have HL := hide hlen
  clear hlen
  go_enter Tryz.func15, Tryz.ntmps15
  go_wp2_with fail
  go_loopw [5] (fun i wr => ∃ k : Nat, k ≤ l.length ∧ i = .int .i64 k ∧ Hid (l = m ↔ l.drop k = m.drop k) ∧ Hid (∃ n, wr = w.drewN n)) (fun i _ => l.length - (intOf i).toNat)
  case atStart => exact ⟨0, by omega, rfl, Iff.rfl, 0, rfl⟩
  case round =>
    obtain ⟨k, hk, rfl, HE, HW⟩ := hrel
    by_cases hlt : k < l.length
    · obtain ⟨x, hd, _, b, off, oa', c', rfl, _, c0, _, hl2, hsx⟩ := (drawn_slice HW tabR_ok hs).slc_at hlt
      have hlt2 : k < m.length := by rw [← HL.out]; exact hlt
      obtain ⟨x', hd', _, b', off', ob', d', rfl, _, c0', _, _, hsx'⟩ := (drawn_slice HW tabR_ok ht).slc_at hlt2
      have HD := hide hd
      have HD' := hide hd'
      have HC : Hid (∀ k, Calls Tryz.prog 47 #[.slice oa' x.length c', .slice ob' x'.length d'] (wr.drewN k) (QuietB (decide (x = x')) (wr.drewN k))) := fun k => sameInts08_any x x' oa' ob' c' d' F G _ (hsx.drewN intR_ok k) (hsx'.drewN intR_ok k) hl2
      clear hd hd' hs ht hsx hsx'
      by_cases hx : x = x'
      · rw [decide_eq_true hx] at HC
        obtain ⟨lx, hlx⟩ : ∃ n, n = x.length := ⟨_, rfl⟩
        obtain ⟨ly, hly⟩ : ∃ n, n = x'.length := ⟨_, rfl⟩
        have HX := hide hx
        rw [← hlx] at c0 HC
        rw [← hly] at c0' HC
        clear hx hlx hly
        go_wp2_with fail
        go_quiet ((go_at_call 47; exact Calls.quiet_of (HC.out _)))
        go_wp2_with fail
        go_roundw
        case rel =>
          refine ⟨k + 1, by omega, by go_num, ?_, drawn_more HW nq⟩
          show _ ↔ _
          rw [HE.out, HD.out, HD'.out, HX.out]; simp
        case measure => simp [intOf]; omega
      · rw [decide_eq_false hx] at HC
        obtain ⟨lx, hlx⟩ : ∃ n, n = x.length := ⟨_, rfl⟩
        obtain ⟨ly, hly⟩ : ∃ n, n = x'.length := ⟨_, rfl⟩
        have HX := hide hx
        rw [← hlx] at c0 HC
        rw [← hly] at c0' HC
        clear hx hlx hly
        go_wp2_with fail
        go_quiet ((go_at_call 47; exact Calls.quiet_of (HC.out _)))
        go_wp2_with fail
        go_ret
        refine ⟨ret_bool ?_, drawn_more HW nq⟩
        symm
        refine decide_eq_false fun h => HX.out ?_
        have h2 := HE.out.1 h
        rw [HD.out, HD'.out] at h2
        simp at h2
        exact h2.1
    · go_wp2_with fail
      go_ret
      refine ⟨ret_bool ?_, HW.out⟩
      symm
      refine decide_eq_true (HE.out.2 ?_)
      rw [List.drop_eq_nil_of_le (by omega), List.drop_eq_nil_of_le (by have := HL.out; omega)]

end Go.Proofs.YtnigfddanoaonaaGreat

set_option linter.unusedVariables false
set_option linter.unusedSimpArgs false
namespace Go.Proofs.YtnigfddanoaonaaGreat
open Go.RowKit

theorem i64n {x : Int} (h : 0 ≤ x ∧ x ≤ 100) : I64 x := by unfold I64; omega
/-- A table of three rows of one number each, as a literal lays it. -/
def tab3W (w : World) (x y z : Int) : World := (((w.alloc (.cells #[.int .i64 x] 3)).alloc (.cells #[.int .i64 y] 3)).alloc (.cells #[.int .i64 z] 3)).alloc (.cells #[.slice (some ⟨w.heap.size, 0, none⟩) 1 1, .slice (some ⟨w.heap.size + 1, 0, none⟩) 1 1, .slice (some ⟨w.heap.size + 1 + 1, 0, none⟩) 1 1] 23)
theorem tab3_lit (w : World) (x y z : Int) (hx : I64 x) (hy : I64 y) (hz : I64 z) : SliceR (slcR intR 1) 1 All (tab3W w x y z) (some ⟨w.heap.size + 1 + 1 + 1, 0, none⟩) [[x], [y], [z]] := by
  have a1 := intlF (F := All) w x hx trivial
  have a2 := intlF (F := All) (w.alloc (.cells #[.int .i64 x] 3)) y hy trivial
  have a3 := intlF (F := All) ((w.alloc (.cells #[.int .i64 x] 3)).alloc (.cells #[.int .i64 y] 3)) z hz trivial
  simp only [World.size_alloc] at a1 a2 a3
  have b1 := (a1.below intR_ok (bnew (Below.refl _ _) (.cells #[.int .i64 y] 3))).below intR_ok (bnew (Below.refl _ _) (.cells #[.int .i64 z] 3))
  have b2 := a2.below intR_ok (bnew (Below.refl _ _) (.cells #[.int .i64 z] 3))
  have := SliceR.lit (F := All) (G := All) (slcR_ok intR_ok (by decide)) (((w.alloc (.cells #[.int .i64 x] 3)).alloc (.cells #[.int .i64 y] 3)).alloc (.cells #[.int .i64 z] 3)) 23
    [[.slice (some ⟨w.heap.size, 0, none⟩) 1 1], [.slice (some ⟨w.heap.size + 1, 0, none⟩) 1 1], [.slice (some ⟨w.heap.size + 1 + 1, 0, none⟩) 1 1]] [[x], [y], [z]] (fun i q hq => by
      match i, hq with
      | 0, hq => simp at hq; subst hq; exact ⟨_, rfl, _, _, rfl, by simp, by simp, b1⟩
      | 1, hq => simp at hq; subst hq; exact ⟨_, rfl, _, _, rfl, by simp, by simp, b2⟩
      | 2, hq => simp at hq; subst hq; exact ⟨_, rfl, _, _, rfl, by simp, by simp, a3⟩
      | i + 3, hq => simp at hq) rfl (fun _ h => h) trivial
  unfold tab3W
  simpa using this
theorem tab3_below (w : World) (x y z : Int) : Below w.heap.size w (tab3W w x y z) := bnew (bnew (bnew (bnew (Below.refl _ _) _) _) _) _
def NxAt (W : World) (oq os ow : Option Addr) (x : Nwk) : Prop := SliceR prcR 3 All W oq x.procs ∧ SliceR intR 1 All W os x.state ∧ SliceR (slcR intR 1) 1 All W ow x.waiting
theorem NxAt.below {W W' : World} {oq os ow : Option Addr} {x : Nwk} (h : NxAt W oq os ow x) (hb : Below W.heap.size W W') : NxAt W' oq os ow x := ⟨h.1.below prcR_ok hb, h.2.1.below intR_ok hb, h.2.2.below (slcR_ok intR_ok (by decide)) hb⟩
def mv2Lit (w : World) : World := w.alloc (.cells #[.int .i64 1, .int .i64 0, .int .i64 2, .int .i64 0] 80)
theorem mv2_lit (w : World) : SliceR mvR 2 All (mv2Lit w) (some ⟨w.heap.size, 0, none⟩) [(1, 0), (2, 0)] :=
  SliceR.lit (F := All) mvR_ok w 80 [[.int .i64 1, .int .i64 0], [.int .i64 2, .int .i64 0]] _ (fun i q hq => by
    match i, hq with
    | 0, hq => simp at hq; subst hq; exact ⟨_, rfl, rfl⟩
    | 1, hq => simp at hq; subst hq; exact ⟨_, rfl, rfl⟩
    | i + 2, hq => simp at hq) rfl (fun _ h => h) trivial
/-- Run at three rows' counts. -/
theorem tri_few : ∀ t ∈ triN.waiting, ∀ k ∈ t, k ≤ 40 := by decide
theorem triZ_few : ∀ t ∈ triZ.waiting, ∀ k ∈ t, k ≤ 40 := by decide

set_option maxRecDepth 100000 in
set_option maxHeartbeats 8000000 in
theorem awake55_any (w : World) : Calls Tryz.prog 12 #[] w fun e w' => e = .returned (.bool true) ∧ Below w.heap.size w w' := by
  have hU : Hid (gErr 3 triE = 0 → Uf (forest triE) (eL triE)) := forest_ok 3 triE
  go_enter Tryz.func12, Tryz.ntmps12
  go_wp2_with (first
    | (go_at_call 39; refine (tri18_any _).mono ?_; rintro e w2 ⟨g, rfl, hE, hb2⟩; have HE := hide hE; have HB2 := hide hb2; clear hE hb2)
    | (go_at_call 19; refine (nsand_any 3 triE _ 3 (Ge w.heap.size) _ (HE.out.below edgR_ok (bnew (Below.refl _ _) _)) (by decide) (by decide) (forest triE) hU 0 [0, 2, 1] (some ⟨w2.heap.size, 0, none⟩) 3 All (by have h := ints_lit (F := All) (G := All) w2 3 [0, 2, 1] (by intro x hx; simp at hx; rcases hx with rfl | rfl | rfl <;> exact i64n (by decide)) trivial; simpa using h) (by decide) (by decide)).mono ?_
       rw [tn_sand]
       rintro e w4 ⟨v, rfl, ⟨oq, cq, os, cs, ow, cw, hv, h1, h2, h3, hp, hs, ht⟩, hb4⟩
       have hv' : v = .agg #[.slice oq 3 cq, .slice os 3 cs, .slice ow 3 cw] := hv
       subst hv'
       have HN4 : Hid (NxAt w4 oq os ow triN) := ⟨hp, hs, ht⟩
       have HB4 := hide (HB2.out.trans ((bnew (Below.refl _ _) _).trans (hb4.mono (by rw [alloc_size']; omega)) |>.mono HB2.out.size))
       obtain ⟨W5, e5⟩ : ∃ W5, w4.alloc (.cells #[.slice oq 3 cq, .slice os 3 cs, .slice ow 3 cw] 26) = W5 := ⟨_, rfl⟩
       have hx5 : Box W5 w4.heap.size [.slice oq 3 cq, .slice os 3 cs, .slice ow 3 cw] 26 := (by rw [← e5]; exact Box.new w4 [.slice oq 3 cq, .slice os 3 cs, .slice ow 3 cw] 26)
       have hb5 : Below w4.heap.size w4 W5 := (by rw [← e5]; exact bnew (Below.refl _ _) _)
       have HN5 := hide (HN4.out.below hb5)
       have HB5 := hide (HB4.out.trans (hb5.mono HB4.out.size))
       have HX5 := hide hx5
       have k0 := hx5.cell 0
       have k1 := hx5.cell 1
       have k2 := hx5.cell 2
       simp only [List.getElem?_cons_zero, List.getElem?_cons_succ] at k0 k1 k2
       clear hv h1 h2 h3 hp hs ht hb4 hx5 hb5)
    | (go_at_call 40; refine (nmv_any triN oq cq os cs ow cw All W5 HN5.out.1 HN5.out.2.1 HN5.out.2.2 tn_ok).mono ?_
       rw [tn_moves]
       rintro e w6 ⟨v6, rfl, h6, hb6⟩
       obtain ⟨o6, c6, hv6, _, hs6⟩ := h6.slice mvR_ok
       have hv6' : v6 = .slice o6 2 c6 := hv6
       subst hv6'
       have HM6 : Hid (SliceR mvR 2 All w6 o6 [(1, 0), (2, 0)]) := hs6.all mvR_ok (by decide)
       have HN6 := hide (HN5.out.below hb6)
       have HB6 := hide (HB5.out.trans (hb6.mono HB5.out.size))
       have hx6 := HX5.out.below hb6
       have HX6 := hide hx6
       have k0 := hx6.cell 0
       have k1 := hx6.cell 1
       have k2 := hx6.cell 2
       simp only [List.getElem?_cons_zero, List.getElem?_cons_succ] at k0 k1 k2
       clear h6 hv6 hs6 hb6 hx6)
    | (go_at_call 13; first
       | (refine (nrun_any triN oq cq os cs ow cw [0] (some ⟨w6.heap.size, 0, none⟩) 1 100 All (w6.alloc (.cells #[.int .i64 0] 3)) (HN6.out.below (bnew (Below.refl _ _) _)).1 (HN6.out.below (bnew (Below.refl _ _) _)).2.1 (HN6.out.below (bnew (Below.refl _ _) _)).2.2 tn_ok (intlF w6 0 (i64n (by decide)) trivial) (by decide) (by decide) (by decide) tri_few).mono ?_
          rw [tn_run]
          rintro e w8 ⟨v, oc, cc, rfl, ⟨oq2, cq2, os2, cs2, ow2, cw2, hv, h1, h2, h3, hp, hs, ht⟩, hcc, hct, hb8⟩
          have hv' : v = .agg #[.slice oq2 3 cq2, .slice os2 3 cs2, .slice ow2 3 cw2] := hv
          subst hv'
          have hbb : Below w6.heap.size w6 w8 := (bnew (Below.refl _ _) _).trans (hb8.mono (by rw [alloc_size']; omega))
          have HS8 : Hid (SliceR intR 1 All w8 os2 [0, 1, 0]) := hs
          have HCT8 : Hid (SliceR (slcR intR 1) 1 All w8 oc [[2], [3], [2]]) := hct
          have HC8 : Hid (3 ≤ cc) := hcc
          have HCS2 : Hid (3 ≤ cs2) := h2
          obtain ⟨W9, e9⟩ : ∃ W9, w8.alloc (.cells #[.slice oq2 3 cq2, .slice os2 3 cs2, .slice ow2 3 cw2] 26) = W9 := ⟨_, rfl⟩
          have hx9 : Box W9 w8.heap.size [.slice oq2 3 cq2, .slice os2 3 cs2, .slice ow2 3 cw2] 26 := (by rw [← e9]; exact Box.new w8 [.slice oq2 3 cq2, .slice os2 3 cs2, .slice ow2 3 cw2] 26)
          have hb9 : Below w8.heap.size w8 W9 := (by rw [← e9]; exact bnew (Below.refl _ _) _)
          have hb69 : Below w6.heap.size w6 W9 := hbb.trans (hb9.mono hbb.size)
          have HS9 := hide (HS8.out.below intR_ok hb9)
          have HCT9 := hide (HCT8.out.below (slcR_ok intR_ok (by decide)) hb9)
          have HM9 := hide (HM6.out.below mvR_ok hb69)
          have HN9 := hide (HN6.out.below hb69)
          have HB9 := hide (HB6.out.trans (hb69.mono HB6.out.size))
          have hx1 := HX6.out.below hb69
          have HX9 := hide hx1
          have HY9 := hide hx9
          have k0 := hx1.cell 0
          have k1 := hx1.cell 1
          have k2 := hx1.cell 2
          have l1 := hx9.cell 1
          simp only [List.getElem?_cons_zero, List.getElem?_cons_succ] at k0 k1 k2 l1
          clear hv h1 h2 h3 hp hs ht hb8 hx9 hb9 hbb hb69 hx1 hct hcc))
    | (go_at_call 41; refine (eqMv2_any o6 (some ⟨W9.heap.size, 0, none⟩) c6 2 All All (mv2Lit W9) (HM9.out.below mvR_ok (bnew (Below.refl _ _) _)) (mv2_lit W9)).mono ?_
       rintro e w10 ⟨rfl, hb10⟩
       have hb : Below W9.heap.size W9 w10 := (bnew (Below.refl _ _) _).trans (hb10.mono (by unfold mv2Lit; rw [alloc_size']; omega))
       have hy := HY9.out.below hb
       have l1 := hy.cell 1
       simp only [List.getElem?_cons_zero, List.getElem?_cons_succ] at l1
       have HB10 := hide hb
       clear hb10 hb hy))
  -- the state
  refine (equalInt_any [0, 1, 0] [0, 1, 0] os2 (some ⟨w10.heap.size, 0, none⟩) cs2 3 All _ ((HS9.out.below intR_ok HB10.out).below intR_ok (bnew (Below.refl _ _) _)) (by have h := ints_lit (F := All) (G := All) w10 3 [0, 1, 0] (by intro x hx; simp at hx; rcases hx with rfl | rfl | rfl <;> exact i64n (by decide)) trivial; simpa using h) HCS2.out (by decide)).mono ?_
  rintro e w11 ⟨rfl, hb11⟩
  have hb9_11 : Below W9.heap.size W9 w11 := HB10.out.trans (((bnew (Below.refl _ _) _).trans (hb11.mono (by rw [alloc_size']; omega))).mono HB10.out.size)
  have HB11 := hide hb9_11
  rw [show decide (([0, 1, 0] : List Int) = [0, 1, 0]) = true from rfl]
  clear hb11 hb9_11
  go_wp2_with fail
  refine (sameTables_any [[2], [3], [2]] [[2], [3], [2]] oc (some ⟨w11.heap.size + 1 + 1 + 1, 0, none⟩) cc 3 All All (tab3W w11 2 3 2) ((HCT9.out.below (slcR_ok intR_ok (by decide)) HB11.out).below (slcR_ok intR_ok (by decide)) (tab3_below _ _ _ _)) (tab3_lit w11 2 3 2 (i64n (by decide)) (i64n (by decide)) (i64n (by decide))) (by decide)).mono ?_
  rintro e w12 hq
  obtain ⟨rfl, hb12⟩ := hq.below
  have hb9_12 : Below W9.heap.size W9 w12 := HB11.out.trans (((tab3_below w11 2 3 2).trans (hb12.mono (tab3_below w11 2 3 2).size)).mono HB11.out.size)
  rw [show decide (([[2], [3], [2]] : List (List Int)) = [[2], [3], [2]]) = true from rfl]
  have HB12 := hide hb9_12
  have hx1 := HX9.out.below hb9_12
  have k0 := hx1.cell 0
  have k1 := hx1.cell 1
  have k2 := hx1.cell 2
  simp only [List.getElem?_cons_zero, List.getElem?_cons_succ] at k0 k1 k2
  clear hb12 hb9_12 hq hx1
  go_wp2_with fail
  -- Complete, three times
  have HN12 := hide (HN9.out.below HB12.out)
  refine (ncomplete_any triN oq cq os cs ow cw All w12 HN12.out.1 (by decide) HN12.out.2.1 (by decide) HN12.out.2.2 (by decide) [[2], [3], [2]] oc cc All (HCT9.out.below (slcR_ok intR_ok (by decide)) HB12.out) HC8.out (by decide)).mono ?_
  rw [tn_c1]
  rintro e w13 ⟨rfl, hb13⟩
  have HB13 := hide (HB12.out.trans (hb13.mono HB12.out.size))
  have HN13 := hide (HN12.out.below hb13)
  have hx1 := HX9.out.below HB13.out
  have k0 := hx1.cell 0
  have k1 := hx1.cell 1
  have k2 := hx1.cell 2
  simp only [List.getElem?_cons_zero, List.getElem?_cons_succ] at k0 k1 k2
  clear hb13 hx1
  go_wp2_with fail
  refine (ncomplete_any triN oq cq os cs ow cw All (tab3W w13 4 4 3) (HN13.out.below (tab3_below _ _ _ _)).1 (by decide) (HN13.out.below (tab3_below _ _ _ _)).2.1 (by decide) (HN13.out.below (tab3_below _ _ _ _)).2.2 (by decide) [[4], [4], [3]] (some ⟨w13.heap.size + 1 + 1 + 1, 0, none⟩) 3 All (tab3_lit w13 4 4 3 (i64n (by decide)) (i64n (by decide)) (i64n (by decide))) (by decide) (by decide)).mono ?_
  rw [tn_c2]
  rintro e w14 ⟨rfl, hb14⟩
  have hb1314 : Below w13.heap.size w13 w14 := (tab3_below w13 4 4 3).trans (hb14.mono (tab3_below w13 4 4 3).size)
  have HB14 := hide (HB13.out.trans (hb1314.mono HB13.out.size))
  have HN14 := hide (HN13.out.below hb1314)
  have hx1 := HX9.out.below HB14.out
  have k0 := hx1.cell 0
  have k1 := hx1.cell 1
  have k2 := hx1.cell 2
  simp only [List.getElem?_cons_zero, List.getElem?_cons_succ] at k0 k1 k2
  clear hb14 hb1314 hx1
  go_wp2_with fail
  refine (ncomplete_any triN oq cq os cs ow cw All (tab3W w14 2 2 1) (HN14.out.below (tab3_below _ _ _ _)).1 (by decide) (HN14.out.below (tab3_below _ _ _ _)).2.1 (by decide) (HN14.out.below (tab3_below _ _ _ _)).2.2 (by decide) [[2], [2], [1]] (some ⟨w14.heap.size + 1 + 1 + 1, 0, none⟩) 3 All (tab3_lit w14 2 2 1 (i64n (by decide)) (i64n (by decide)) (i64n (by decide))) (by decide) (by decide)).mono ?_
  rw [tn_c3]
  rintro e w15 ⟨rfl, hb15⟩
  have hb1415 : Below w14.heap.size w14 w15 := (tab3_below w14 2 2 1).trans (hb15.mono (tab3_below w14 2 2 1).size)
  have HB15 := hide (HB14.out.trans (hb1415.mono HB14.out.size))
  have HN15 := hide (HN14.out.below hb1415)
  have hx1 := HX9.out.below HB15.out
  have k0 := hx1.cell 0
  have k1 := hx1.cell 1
  have k2 := hx1.cell 2
  simp only [List.getElem?_cons_zero, List.getElem?_cons_succ] at k0 k1 k2
  clear hb15 hb1415 hx1
  go_wp2_with fail
  refine (nabelian_any triN oq cq os cs ow cw All w15 HN15.out.1 (by decide) HN15.out.2.1 (by decide) HN15.out.2.2 (by decide)).mono ?_
  rw [tn_nab]
  rintro e w16 ⟨rfl, hb16⟩
  have HB16 := hide (HB9.out.trans ((HB15.out.trans (hb16.mono HB15.out.size)).mono HB9.out.size))
  clear hb16 k0 k1 k2
  go_wp2_with fail
  -- the rotors
  refine (tri45_any w16).mono ?_
  rintro e w17 ⟨g2, h2, rfl, hE2, hA2, hb17⟩
  have HE2 := hide hE2
  have HA2 := hide hA2
  have HB17 := hide (HB16.out.trans (hb17.mono HB16.out.size))
  clear hE2 hA2 hb17
  go_wp2_with fail
  have hz1 : SliceR intR 1 All ((w17.alloc (.cells #[.int .i64 0, .int .i64 0, .int .i64 0] 3)).alloc (.cells #[.int .i64 0, .int .i64 1, .int .i64 0] 3)) (some ⟨w17.heap.size, 0, none⟩) [0, 0, 0] := by
    have h := ints_lit (F := All) (G := All) w17 3 [0, 0, 0] (by intro x hx; simp at hx; subst hx; exact i64n (by decide)) trivial
    simp only [List.map_cons, List.map_nil] at h
    exact h.below intR_ok (bnew (Below.refl _ _) _)
  have hz2 : SliceR intR 1 All ((w17.alloc (.cells #[.int .i64 0, .int .i64 0, .int .i64 0] 3)).alloc (.cells #[.int .i64 0, .int .i64 1, .int .i64 0] 3)) (some ⟨w17.heap.size + 1, 0, none⟩) [0, 1, 0] := by
    have h := ints_lit (F := All) (G := All) (w17.alloc (.cells #[.int .i64 0, .int .i64 0, .int .i64 0] 3)) 3 [0, 1, 0] (by intro x hx; simp at hx; rcases hx with rfl | rfl | rfl <;> exact i64n (by decide)) trivial
    rw [alloc_size'] at h
    simpa using h
  have hbz : Below w17.heap.size w17 ((w17.alloc (.cells #[.int .i64 0, .int .i64 0, .int .i64 0] 3)).alloc (.cells #[.int .i64 0, .int .i64 1, .int .i64 0] 3)) := bnew (bnew (Below.refl _ _) _) _
  have HBZ := hide hbz
  refine (nrout_any 3 triE (some ⟨g2, 0, none⟩) 3 triA (some ⟨h2, 0, none⟩) 3 All All _ (HE2.out.below edgR_ok hbz) (by decide) (by decide) (HA2.out.below (slcR_ok intR_ok (by decide)) hbz) (by decide) (by decide) (forest triE) hU 0 [0, 0, 0] (some ⟨w17.heap.size, 0, none⟩) 3 All hz1 (by decide) (by decide) [0, 1, 0] (some ⟨w17.heap.size + 1, 0, none⟩) 3 All hz2 (by decide) (by decide)).mono ?_
  rw [tn_rout]
  rintro e w18 ⟨v, rfl, ⟨oz, cz, osz, csz, owz, cwz, hv, h1, h2', h3, hp, hs, ht⟩, hb18⟩
  have hv' : v = .agg #[.slice oz 3 cz, .slice osz 3 csz, .slice owz 3 cwz] := hv
  subst hv'
  have HN18 : Hid (NxAt w18 oz osz owz triZ) := ⟨hp, hs, ht⟩
  have HB18 := hide (HB17.out.trans ((HBZ.out.trans (hb18.mono HBZ.out.size)).mono HB17.out.size))
  obtain ⟨W19, e19⟩ : ∃ W19, w18.alloc (.cells #[.slice oz 3 cz, .slice osz 3 csz, .slice owz 3 cwz] 26) = W19 := ⟨_, rfl⟩
  have hx19 : Box W19 w18.heap.size [.slice oz 3 cz, .slice osz 3 csz, .slice owz 3 cwz] 26 := by rw [← e19]; exact Box.new w18 [.slice oz 3 cz, .slice osz 3 csz, .slice owz 3 cwz] 26
  have hb19 : Below w18.heap.size w18 W19 := by rw [← e19]; exact bnew (Below.refl _ _) _
  have HN19 := hide (HN18.out.below hb19)
  have HB19 := hide (HB18.out.trans (hb19.mono HB18.out.size))
  have k0 := hx19.cell 0
  have k1 := hx19.cell 1
  have k2 := hx19.cell 2
  simp only [List.getElem?_cons_zero, List.getElem?_cons_succ] at k0 k1 k2
  clear hv h1 h2' h3 hp hs ht hb18 hz1 hz2 hbz hx19 hb19
  go_wp2_with fail
  have HNR := hide (nrun_any triZ oz cz osz csz owz cwz [3] (some ⟨W19.heap.size, 0, none⟩) 1 100 All (W19.alloc (.cells #[.int .i64 3] 3)) (HN19.out.below (bnew (Below.refl _ _) _)).1 (HN19.out.below (bnew (Below.refl _ _) _)).2.1 (HN19.out.below (bnew (Below.refl _ _) _)).2.2 tz_ok (intlF W19 3 (i64n (by decide)) trivial) (by decide) (by decide) (by decide) triZ_few)
  obtain ⟨r, hr⟩ : ∃ r, r = runX [3] 100 0 triZ (triZ.procs.map fun p => List.replicate p.letters.toNat (0 : Int)) := ⟨_, rfl⟩
  have hst : r.map (fun r => r.1.state) = some [0, 0, 1] := by rw [hr]; exact tz_run
  rw [← hr] at HNR
  obtain ⟨⟨yz, cz2⟩, hrs, hyst⟩ := Option.map_eq_some_iff.1 hst
  rw [hrs] at HNR
  clear hr hst hrs
  refine HNR.out.mono ?_
  rintro e w20 ⟨v, oc2, cc2, rfl, ⟨oq3, cq3, os3, cs3, ow3, cw3, hv, h1, h2', h3, hp, hs, ht⟩, hcc, hct, hb20⟩
  simp only at hyst
  rw [hyst] at hv h2' hs
  have hv' : v = .agg #[.slice oq3 yz.procs.length cq3, .slice os3 3 cs3, .slice ow3 yz.waiting.length cw3] := hv
  subst hv'
  obtain ⟨np, hnp⟩ : ∃ np, np = yz.procs.length := ⟨_, rfl⟩
  obtain ⟨nw, hnw⟩ : ∃ nw, nw = yz.waiting.length := ⟨_, rfl⟩
  obtain ⟨nc, hnc⟩ : ∃ nc, nc = cz2.length := ⟨_, rfl⟩
  rw [← hnp, ← hnw, ← hnc]
  have HS20 := hide hs
  have HCS3 : Hid (3 ≤ cs3) := h2'
  have HB20 := hide (HB19.out.trans (((bnew (Below.refl _ _) _).trans (hb20.mono (by rw [alloc_size']; omega))).mono HB19.out.size))
  obtain ⟨W21, e21⟩ : ∃ W21, w20.alloc (.cells #[.slice oq3 np cq3, .slice os3 3 cs3, .slice ow3 nw cw3] 26) = W21 := ⟨_, rfl⟩
  have hx21 : Box W21 w20.heap.size [.slice oq3 np cq3, .slice os3 3 cs3, .slice ow3 nw cw3] 26 := by rw [← e21]; exact Box.new w20 [.slice oq3 np cq3, .slice os3 3 cs3, .slice ow3 nw cw3] 26
  have hb21 : Below w20.heap.size w20 W21 := by rw [← e21]; exact bnew (Below.refl _ _) _
  have HS21 := hide (HS20.out.below intR_ok hb21)
  have HB21 := hide (HB20.out.trans (hb21.mono HB20.out.size))
  have m1 := hx21.cell 1
  simp only [List.getElem?_cons_zero, List.getElem?_cons_succ] at m1
  clear hv h1 h2' h3 hp hs ht hb20 hct hcc hyst hx21 hb21 hnp hnw hnc k0 k1 k2
  go_wp2_with fail
  refine (equalInt_any [0, 0, 1] [0, 0, 1] os3 (some ⟨W21.heap.size, 0, none⟩) cs3 3 All _ (HS21.out.below intR_ok (bnew (Below.refl _ _) _)) (by have h := ints_lit (F := All) (G := All) W21 3 [0, 0, 1] (by intro x hx; simp at hx; rcases hx with rfl | rfl | rfl <;> exact i64n (by decide)) trivial; simpa using h) HCS3.out (by decide)).mono ?_
  rintro e w22 ⟨rfl, hb22⟩
  have HB22 := hide (HB21.out.trans (((bnew (Below.refl _ _) _).trans (hb22.mono (by rw [alloc_size']; omega))).mono HB21.out.size))
  rw [show decide (([0, 0, 1] : List Int) = [0, 0, 1]) = true from rfl]
  clear hb22
  go_wp2_with fail
  go_ret
  exact ⟨rfl, HB22.out⟩

end Go.Proofs.YtnigfddanoaonaaGreat

set_option linter.unusedVariables false
set_option linter.unusedSimpArgs false
namespace Go.Proofs.YtnigfddanoaonaaGreat
open Go.RowKit

structure SmallN (x : Nwk) : Prop where
  net : netErr x = 0
  few : ∀ t ∈ x.waiting, ∀ k ∈ t, k ≤ 40
  comm : commP x.procs = true

set_option maxRecDepth 100000 in
set_option maxHeartbeats 4000000 in
theorem small55_any (w : World) (ps : List Prc) (st : List Int) (wt : List (List Int)) (oa : Option Addr) (c : Nat) (ob : Option Addr) (e : Nat) (oc : Option Addr) (g : Nat) (hn : NetIn w ps st wt oa c ob e oc g) :
    Calls Tryz.prog 9 #[.agg #[.slice oa ps.length c, .slice ob st.length e, .slice oc wt.length g]] w fun r w' => ∃ b, r = .returned (.bool b) ∧ (b = true → SmallN ⟨ps, st, wt⟩) ∧ Below w.heap.size w w' := by
  have HNI := hide hn
  have hb := bnew (Below.refl w.heap.size w) (.cells #[.slice oa ps.length c, .slice ob st.length e, .slice oc wt.length g] 26)
  have bxx := Box.new w [.slice oa ps.length c, .slice ob st.length e, .slice oc wt.length g] 26
  obtain ⟨np, hnp⟩ : ∃ n, n = ps.length := ⟨_, rfl⟩
  obtain ⟨ns, hns⟩ : ∃ n, n = st.length := ⟨_, rfl⟩
  obtain ⟨nw, hnw⟩ : ∃ n, n = wt.length := ⟨_, rfl⟩
  have HC1 : Hid (∀ u, Below w.heap.size w u → Calls Tryz.prog 24 #[.agg #[.slice oa ps.length c, .slice ob st.length e, .slice oc wt.length g]] u (SomeBool u)) := fun u h => rfew55_any ps oa c ob st.length e wt oc g All u (HNI.out.p.below prcR_ok h) HNI.out.pl (HNI.out.t.below tabR' h) HNI.out.wl
  have HC2 : Hid (∀ u, Below w.heap.size w u → Calls Tryz.prog 36 #[.agg #[.slice oa ps.length c, .slice ob st.length e, .slice oc wt.length g]] u fun r w' => r = .returned (.int .i64 (netErr ⟨ps, st, wt⟩)) ∧ Below u.heap.size u w') := fun u h => rnetCheck_any ps oa c st ob e wt oc g All u (HNI.out.p.below prcR_ok h) HNI.out.pl (HNI.out.s.below intR_ok h) HNI.out.sl (HNI.out.t.below tabR' h) HNI.out.wl
  have HC3 : Hid (netErr ⟨ps, st, wt⟩ = 0 → ∀ u, Below w.heap.size w u → Calls Tryz.prog 37 #[.agg #[.slice oa ps.length c, .slice ob st.length e, .slice oc wt.length g]] u fun r w' => ∃ b, r = .returned (.bool b) ∧ (b = true → ∀ t ∈ wt, ∀ k ∈ t, k ≤ 40) ∧ Below u.heap.size u w') := fun hz u h => by
    have hr := netErr_zero hz
    have h12 := hr.n.2
    have hwl := hr.nwt
    try simp only at h12 hwl
    refine rsmall_any ps.length c oa ob st.length e wt oc g All u (HNI.out.t.below tabR' h) (by omega) fun t ht => ⟨?_, fun k hk => (hr.wb t ht k hk).1⟩
    obtain ⟨i, hi, rfl⟩ := List.mem_iff_getElem.1 ht
    have hip : i < ps.length := by omega
    have h1 := hr.wl i _ _ (List.getElem?_eq_getElem hi) (List.getElem?_eq_getElem hip)
    have h2 := (check_zero (hr.proc i _ (List.getElem?_eq_getElem hip))).2.2.1
    try simp only at h1 h2
    omega
  have HC4 : Hid (netErr ⟨ps, st, wt⟩ = 0 → ∀ u, Below w.heap.size w u → Calls Tryz.prog 38 #[.agg #[.slice oa ps.length c, .slice ob st.length e, .slice oc wt.length g]] u fun r w' => r = .returned (.bool (commP ps)) ∧ Below u.heap.size u w') := fun hz u h =>
    rcommutes_any ps oa c ob st.length e oc wt.length g All u (HNI.out.p.below prcR_ok h) (netErr_zero hz).n.2 (netErr_zero hz).proc
  rw [← hnp, ← hns, ← hnw] at HC1 HC2 HC3 HC4 hb bxx
  rw [← hnp, ← hns, ← hnw]
  clear hn hnp hns hnw
  go_enter Tryz.func9, Tryz.ntmps9
  go_wp2_with fail
  refine (HC1.out _ hb).mono ?_
  rintro r w2 ⟨b, rfl, h2⟩
  have bxx := bxx.below h2
  have hb := below_then hb h2
  clear h2
  have d0 := bxx.cell 0
  have d1 := bxx.cell 1
  have d2 := bxx.cell 2
  simp only [List.getElem?_cons_zero, List.getElem?_cons_succ] at d0 d1 d2
  cases b
  · go_wp2_with fail
    go_ret
    exact ⟨_, rfl, (fun h => by cases h), hb⟩
  go_wp2_with fail
  refine (HC2.out _ hb).mono ?_
  rintro r w3 ⟨rfl, h3⟩
  have bxx := bxx.below h3
  have hb := below_then hb h3
  clear h3 d0 d1 d2
  have d0 := bxx.cell 0
  have d1 := bxx.cell 1
  have d2 := bxx.cell 2
  simp only [List.getElem?_cons_zero, List.getElem?_cons_succ] at d0 d1 d2
  by_cases hz : netErr ⟨ps, st, wt⟩ = 0
  case neg =>
    have q1 : (netErr ⟨ps, st, wt⟩ == 0) = false := by simp [hz]
    clear hz
    go_wp2_with fail
    go_ret
    exact ⟨_, rfl, (fun h => by cases h), hb⟩
  have q1 : (netErr ⟨ps, st, wt⟩ == 0) = true := by simp [hz]
  have HC3 := hide (HC3.out hz)
  have HC4 := hide (HC4.out hz)
  have HZ := hide hz
  clear hz
  go_wp2_with fail
  refine (HC3.out _ hb).mono ?_
  rintro r w4 ⟨b, rfl, h40, h4⟩
  have bxx := bxx.below h4
  have hb := below_then hb h4
  clear h4 d0 d1 d2
  have d0 := bxx.cell 0
  have d1 := bxx.cell 1
  have d2 := bxx.cell 2
  simp only [List.getElem?_cons_zero, List.getElem?_cons_succ] at d0 d1 d2
  cases b
  · clear h40
    go_wp2_with fail
    go_ret
    exact ⟨_, rfl, (fun h => by cases h), hb⟩
  have H40 := hide (h40 rfl)
  clear h40
  go_wp2_with fail
  refine (HC4.out _ hb).mono ?_
  rintro r w5 ⟨rfl, h5⟩
  have hb := below_then hb h5
  clear h5 d0 d1 d2
  obtain ⟨cm, hcm⟩ : ∃ cm, cm = commP ps := ⟨_, rfl⟩
  rw [← hcm]
  have HCM := hide hcm
  clear hcm
  cases cm
  · go_wp2_with fail
    go_ret
    exact ⟨_, rfl, (fun h => by cases h), hb⟩
  · go_wp2_with fail
    go_ret
    exact ⟨_, rfl, (fun _ => ⟨HZ.out, H40.out, HCM.out.symm⟩), hb⟩

end Go.Proofs.YtnigfddanoaonaaGreat

set_option linter.unusedVariables false
set_option linter.unusedSimpArgs false
set_option linter.unnecessarySimpa false
namespace Go.Proofs.YtnigfddanoaonaaGreat
open Go.RowKit



/-- The error of picks. -/
def pkE (l : List Int) : Int := if 4096 < l.length then 5 else if l.length = 0 then 14 else if negB l = true then 2 else 0
def pScan : List Int → Int
  | [] => 0
  | x :: r => if x < 0 then 2 else pScan r
def fewP (l : List Int) : Bool := if l.length ≤ 60 then true else if 4096 < l.length then decide (l.length ≤ 8192) else false
end Go.Proofs.YtnigfddanoaonaaGreat

set_option linter.unusedVariables false
namespace Go.Proofs.YtnigfddanoaonaaGreat
open Go.RowKit

def SameB (b : Bool) (w : World) (e : Ending) (w' : World) : Prop := e = .returned (.bool b) ∧ Below w.heap.size w w'

end Go.Proofs.YtnigfddanoaonaaGreat

set_option linter.unusedVariables false
set_option linter.unusedSimpArgs false
namespace Go.Proofs.YtnigfddanoaonaaGreat
open Go.RowKit

end Go.Proofs.YtnigfddanoaonaaGreat

set_option linter.unusedVariables false
set_option linter.unusedSimpArgs false
namespace Go.Proofs.YtnigfddanoaonaaGreat
open Go.RowKit

theorem comm_ab {x : Nwk} (h : commP x.procs = true) (hr : Right x) : AbN x := fun i p hp => by
  unfold commP at h
  rw [List.all_eq_true] at h
  refine abel_yes (S := p.states) (L := p.letters) (rs := p.rules) (checkErr_more (hr.proc i p hp)) ?_
  unfold abelRes
  rw [if_pos (checkErr_more (hr.proc i p hp))]
  exact h p (List.mem_of_getElem? hp)
def runM : Option (Nwk × List (List Int)) → Int × Nwk × List (List Int)
  | some (y, ct) => (0, y, ct)
  | none => (12, nwk0, [])
/-- What Run returns, as the walk needs it. -/
theorem run_len {x : Nwk} (hx : Right x) (hA : AbN x) (hw : ∀ t ∈ x.waiting, ∀ z ∈ t, z ≤ 40) (picks : List Int) {y : Nwk} {ct : List (List Int)} (h : runX picks 300 0 x (x.procs.map fun p => List.replicate p.letters.toNat (0 : Int)) = some (y, ct)) : y.procs.length ≤ 12 ∧ y.state.length ≤ 12 ∧ y.waiting.length ≤ 12 ∧ ct.length ≤ 12 := by
  obtain ⟨hs, z, cz, h1, _, _, h3⟩ := runX_hist hx hA picks 300 0 _ x _ 40 (HistI.begin_ hx) hw (by omega)
  rcases h3 with ⟨a1, _, _⟩ | ⟨a1, _, _⟩
  · rw [a1] at h
    injection h with h
    injection h with e1 e2
    subst e1 e2
    have h12 := hx.n.2
    refine ⟨by rw [h1.procs]; exact h12, by rw [h1.right.nst, h1.procs]; exact h12, by rw [h1.right.nwt, h1.procs]; exact h12, ?_⟩
    rw [h1.ct, List.length_map, List.length_range]
    exact h12
  · rw [a1] at h
    cases h
end Go.Proofs.YtnigfddanoaonaaGreat

set_option linter.unusedVariables false
set_option linter.unusedSimpArgs false
namespace Go.Proofs.YtnigfddanoaonaaGreat
open Go.RowKit

theorem outs_ok {x : Nwk} (hr : Right x) {p : Nat} (hp : p < x.procs.length) : ∀ (h : List Int) (s : Int), 0 ≤ s → s < statesP x.procs p → (∀ a ∈ h, 0 ≤ a ∧ a < (lettersP x.procs p : Int)) → ∀ o ∈ (readSpec (x.procs.getD p prc0).rules s h).2, (0 ≤ o.dst ∧ o.dst < x.procs.length) ∧ 0 ≤ o.letter ∧ o.letter < lettersP x.procs o.dst.toNat
  | [], s, _, _, _, o, ho => by simp [readSpec] at ho
  | a :: r, s, h0, h1, hh, o, ho => by
    have ha := hh a (by simp)
    obtain ⟨k, rfl⟩ := Int.eq_ofNat_of_zero_le ha.1
    obtain ⟨pr, row, rl, q1, q2, q3, q4, q5, q6, q7, q8⟩ := hr.rule (p := p) (k := k) (s := s) hp h0 h1 (by omega)
    have h5 : ruleAt (x.procs.getD p prc0).rules s (k : Int) = rl := q5
    simp only [readSpec, List.mem_append] at ho
    rw [h5] at ho
    rcases ho with ho | ho
    · exact q8 o ho
    · exact outs_ok hr hp r rl.next q6.1 (by unfold statesP; rw [q2]; exact q6.2) (fun a ha => hh a (by simp [ha])) o ho
theorem hist_outs {x : Nwk} (hr : Right x) {p : Nat} (hp : p < x.procs.length) {h : List Int} (hh : ∀ a ∈ h, 0 ≤ a ∧ a < (lettersP x.procs p : Int)) : ∀ o ∈ (histR x p h).2, (0 ≤ o.dst ∧ o.dst < x.procs.length) ∧ 0 ≤ o.letter ∧ o.letter < lettersP x.procs o.dst.toNat :=
  outs_ok hr hp h _ (hr.st0 hp).1 (by have := (hr.st0 hp).2; unfold statesP; exact this) hh
/-- What is there in all, and how much of each letter. -/
theorem totP_cell {x : Nwk} (hr : Right x) {ct : List (List Int)} (hI : InL x (ctW ct)) : ∀ p, p ≤ x.procs.length → (∃ c, Shape x.waiting (totP x ct p) c) ∧ ∀ q a : Nat, cellT (totP x ct p) q a = cellT x.waiting q a + sumN (fun r => cntO (histR x r (ctW ct r)).2 q a) p
  | 0, _ => ⟨⟨1048576, hr.shape fun t ht z hz => (hr.wb t ht z hz).2⟩, fun q a => by simp [totP, sumN]⟩
  | p + 1, hp => by
    obtain ⟨⟨c, hsh⟩, ih⟩ := totP_cell hr hI p (by omega)
    have ho : ∀ o ∈ (histR x p (ctW ct p)).2, 0 ≤ o.dst ∧ 0 ≤ o.letter ∧ ∃ l, x.waiting[o.dst.toNat]? = some l ∧ o.letter.toNat < l.length := fun o ho => by
      obtain ⟨a, b, c⟩ := hist_outs hr (by omega) (hI p (by omega)) o ho
      obtain ⟨l, m1, m2⟩ := hr.row (p := o.dst.toNat) (by omega)
      exact ⟨a.1, b, l, m1, by omega⟩
    refine ⟨⟨c + ((histR x p (ctW ct p)).2.map pairO).length, ?_⟩, fun q a => ?_⟩
    · show Shape _ (addOs _ _) _
      unfold addOs
      refine Shape.adds _ hsh fun o hom => ?_
      obtain ⟨o', h1, rfl⟩ := List.mem_map.1 hom
      obtain ⟨_, _, l, m1, m2⟩ := ho o' h1
      exact ⟨l, m1, m2⟩
    · show cellT (addOs _ _) q a = _
      unfold addOs
      rw [cellT_adds _ hsh ho q a, ih q a]
      simp only [sumN]
      push_cast
      omega
theorem cntErr_in {x : Nwk} (hr : Right x) {ct : List (List Int)} (h : cntErr x ct = 0) : InL x (ctW ct) ∧ ∀ q a : Nat, q < x.procs.length → a < lettersP x.procs q → ((ctW ct q).count (a : Int) : Int) = cellT ct q a := by
  obtain ⟨h1, h2, h3⟩ := cnt_zero h
  have key : ∀ q, q < x.procs.length → ∃ l, ct[q]? = some l ∧ l.length = lettersP x.procs q := fun q hq => by
    have hl := List.getElem?_eq_getElem (show q < ct.length by omega)
    have h4 := h2 q _ _ hl (getD_procs hq)
    rw [hr.let0 hq] at h4
    exact ⟨_, hl, by omega⟩
  refine ⟨fun q hq a ha => ?_, fun q a hq ha => ?_⟩
  · obtain ⟨l, hl, hll⟩ := key q hq
    unfold ctW at ha
    rw [getD_some hl] at ha
    exact word_in hll a ha
  · obtain ⟨l, hl, hll⟩ := key q hq
    unfold ctW cellT
    rw [getD_some hl, wordFrom_count]
    have hz := List.getElem?_eq_getElem (show a < l.length by omega)
    have h0 := (h3 l (List.mem_of_getElem? hl) _ (List.mem_of_getElem? hz)).1
    rw [if_pos (by omega), show ((a : Int) - ((0 : Nat) : Int)).toNat = a from by omega, getD_some hz]
    omega
/-- What Complete says yes to. -/
theorem comp_yes {x : Nwk} (hr : Right x) {ct : List (List Int)} (hc : cntErr x ct = 0) : doneB x ct = true ↔ Compl x (ctW ct) := by
  obtain ⟨hI, hcnt⟩ := cntErr_in hr hc
  obtain ⟨h1, h2, h3⟩ := cnt_zero hc
  have htot : ∀ q a : Nat, cellT (totP x ct ct.length) q a = cellT x.waiting q a + sentN x (ctW ct) q a := fun q a => by
    rw [h1]
    exact (totP_cell hr hI x.procs.length (Nat.le_refl _)).2 q a
  have key : ∀ q, q < x.procs.length → (ct.getD q []).length = lettersP x.procs q := fun q hq => by
    have hl := List.getElem?_eq_getElem (show q < ct.length by omega)
    have h4 := h2 q _ _ hl (getD_procs hq)
    rw [hr.let0 hq] at h4
    rw [getD_some hl]
    omega
  constructor
  · intro h q a hq ha
    rw [← htot, hcnt q a hq ha]
    by_cases hle : cellT (totP x ct ct.length) q a ≤ cellT ct q a
    · exact hle
    · exfalso
      have := doneB_false (x := x) (ct := ct) (p := q) (a := a) (by omega) (by rw [key q hq]; exact ha) hle
      rw [this] at h
      cases h
  · intro h
    refine doneB_true fun q hq a ha => ?_
    have hq' : q < x.procs.length := by omega
    rw [key q hq'] at ha
    rw [htot, ← hcnt q a hq' ha]
    exact h q a hq' ha
theorem sum_pos : ∀ {l : List Int}, (∀ z ∈ l, 0 ≤ z) → 0 ≤ l.sum
  | [], _ => by simp
  | k :: r, h => by
    rw [List.sum_cons]
    have := h k (by simp)
    have := sum_pos (l := r) fun z hz => h z (by simp [hz])
    omega
theorem leftE_ok : ∀ {l : List Int} {left : Int}, (∀ z ∈ l, 0 ≤ z) → l.sum ≤ left → leftE left l = 0
  | [], _, _, _ => rfl
  | k :: r, left, h0, hs => by
    rw [List.sum_cons] at hs
    have hr0 : 0 ≤ r.sum := sum_pos fun z hz => h0 z (by simp [hz])
    unfold leftE
    rw [if_neg (by omega)]
    exact leftE_ok (fun z hz => h0 z (by simp [hz])) (by omega)

theorem word_sum : ∀ (l : List Int) (k : Nat), (∀ z ∈ l, 0 ≤ z) → ((wordFrom k l).length : Int) = l.sum
  | [], _, _ => rfl
  | z :: r, k, h => by
    have h0 := h z (by simp)
    have := word_sum r (k + 1) fun y hy => h y (by simp [hy])
    simp only [wordFrom, List.length_append, List.length_replicate, List.sum_cons]
    push_cast
    omega
theorem tally_mem {L : Nat} {l : List Int} {z : Int} (h : z ∈ tally L l) : 0 ≤ z := by
  unfold tally at h
  obtain ⟨a, _, rfl⟩ := List.mem_map.1 h
  omega
theorem tally_sum {L : Nat} {l : List Int} (hl : ∀ a ∈ l, 0 ≤ a ∧ a < L) : (tally L l).sum = l.length := by
  rw [← word_sum (tally L l) 0 fun z hz => tally_mem hz, (wordFrom_perm hl).length_eq]
theorem shapes_ok : ∀ {t : List (List Int)} {ps : List Prc}, (∀ (p : Nat) (l : List Int) (pr : Prc), t[p]? = some l → ps[p]? = some pr → (l.length : Int) = pr.letters) → shapesErr t ps = 0
  | [], _, _ => by simp [shapesErr]
  | l :: t, [], _ => by simp [shapesErr]
  | l :: t, p :: ps, h => by
    have h0 := h 0 l p rfl rfl
    simp only [shapesErr]
    rw [if_pos h0]
    exact shapes_ok fun k l pr h1 h2 => h (k + 1) l pr h1 h2
theorem flat_sum {x : Nwk} {hs : Nat → List Int} : ∀ (n : Nat), (∀ p, p < n → ∀ a ∈ hs p, 0 ≤ a ∧ a < (lettersP x.procs p : Int)) → (((List.range n).map fun p => tally (lettersP x.procs p) (hs p)).flatten).sum = (sumN (fun p => (hs p).length) n : Nat)
  | 0, _ => rfl
  | n + 1, h => by
    rw [List.range_succ, List.map_append, List.flatten_append, List.sum_append, flat_sum n fun p hp => h p (by omega)]
    simp only [List.map_cons, List.map_nil, List.flatten_cons, List.flatten_nil, List.append_nil, sumN]
    rw [tally_sum (h n (by omega))]
    push_cast
    omega
/-- The own counts of a network that has halted are right counts, and complete. -/
theorem own_ok {x y : Nwk} {hs : Nat → List Int} {m : List (List Int)} (hr : Right x) (hA : AbN x) (h : HistI x hs y m) (hm : movesS y.waiting = []) (ht : totH x hs ≤ 4096) : cntErr x m = 0 ∧ doneB x m = true := by
  have hlen : m.length = x.procs.length := by rw [h.ct, List.length_map, List.length_range]
  have hget : ∀ p, p < x.procs.length → m[p]? = some (tally (lettersP x.procs p) (hs p)) := fun p hp => by rw [h.ct, List.getElem?_map, List.getElem?_range hp]; rfl
  have hz : cntErr x m = 0 := by
    unfold cntErr
    have h1 : shapedErr x.procs m = 0 := by
      unfold shapedErr
      rw [if_pos hlen]
      refine shapes_ok fun p l pr h1 h2 => ?_
      have hp : p < x.procs.length := (List.getElem?_eq_some_iff.1 h2).1
      rw [hget p hp] at h1
      injection h1 with h1
      rw [← h1, tally_len, ← hr.let0 hp, getD_some h2]
    rw [if_pos h1]
    have hnn : ∀ l ∈ m, ∀ z ∈ l, 0 ≤ z := fun l hl z hz => by
      rw [h.ct] at hl
      obtain ⟨p, _, rfl⟩ := List.mem_map.1 hl
      exact tally_mem hz
    have h2 : m.any negB = false := by
      rw [List.any_eq_false]
      intro l hl
      unfold negB
      simp only [List.any_eq_true, decide_eq_true_eq, not_exists, not_and, Int.not_lt]
      exact fun z hz => hnn l hl z hz
    rw [h2, if_neg (by simp)]
    refine leftE_ok (fun z hz => ?_) ?_
    · obtain ⟨l, hl, hzl⟩ := List.mem_flatten.1 hz
      exact hnn l hl z hzl
    · rw [h.ct, flat_sum x.procs.length h.inl]
      have : totH x hs = sumN (fun p => (hs p).length) x.procs.length := rfl
      omega
  refine ⟨hz, (comp_yes hr hz).2 ?_⟩
  have hpm : ∀ p, p < x.procs.length → (ctW m p).Perm (hs p) := fun p hp => by
    unfold ctW
    rw [getD_some (hget p hp)]
    exact wordFrom_perm (h.inl p hp)
  have hc := h.compl hm
  intro q a hq ha
  have h1 : sentN x (ctW m) q a = sentN x hs q a := by
    unfold sentN
    exact sumN_eq fun p hp => cntO_perm (hist_perm hr hA hp ((cntErr_in hr hz).1 p hp) (hpm p hp)).2 q a
  rw [h1, (hpm q hq).count_eq]
  exact hc q a hq ha
/-- The counts of a network that halts are complete, and no complete counts are less anywhere. -/
theorem run_least {x : Nwk} (hx : Right x) (hA : AbN x) (hw : ∀ t ∈ x.waiting, ∀ z ∈ t, z ≤ 40) (picks : List Int) {y : Nwk} {m : List (List Int)} (h : runX picks 300 0 x (x.procs.map fun p => List.replicate p.letters.toNat (0 : Int)) = some (y, m)) :
    (cntErr x m = 0 ∧ doneB x m = true) ∧ ∀ ct, cntErr x ct = 0 → doneB x ct = true → ∀ (p a : Nat) (l k : List Int) (i j : Int), m[p]? = some l → l[a]? = some i → ct[p]? = some k → k[a]? = some j → i ≤ j := by
  obtain ⟨hs, z, cz, h1, _, h2, h3⟩ := runX_hist hx hA picks 300 0 _ x _ 40 (HistI.begin_ hx) hw (by omega)
  rcases h3 with ⟨a1, a2, a3⟩ | ⟨a1, _, _⟩
  · rw [a1] at h
    injection h with h
    injection h with e1 e2
    subst e1 e2
    rw [totH_nil] at a3
    refine ⟨own_ok hx hA h1 a2 (by omega), fun ct hc hd p a l k i j m1 m2 m3 m4 => ?_⟩
    obtain ⟨hI, hcnt⟩ := cntErr_in hx hc
    have hle := h2 _ hI ((comp_yes hx hc).1 hd) (LeH.nil x _)
    rw [h1.ct] at m1
    have hp : p < x.procs.length := by
      have := (List.getElem?_eq_some_iff.1 m1).1
      simpa using this
    rw [List.getElem?_map, List.getElem?_range hp] at m1
    simp only [Option.map_some, Option.some.injEq] at m1
    subst m1
    have ha : a < lettersP x.procs p := by
      have := (List.getElem?_eq_some_iff.1 m2).1
      rwa [tally_len] at this
    rw [tally_get ha] at m2
    injection m2 with m2
    have h5 := hle p hp (a : Int)
    have h6 := hcnt p a hp ha
    unfold cellT at h6
    rw [getD_some m3, getD_some m4] at h6
    omega
  · rw [a1] at h
    cases h

end Go.Proofs.YtnigfddanoaonaaGreat

set_option linter.unusedVariables false
set_option linter.unusedSimpArgs false
namespace Go.Proofs.YtnigfddanoaonaaGreat
open Go.RowKit

def FewLen (n m : Nat) (w : World) (e : Ending) (w' : World) : Prop := ∃ b, e = .returned (.bool b) ∧ (b = true → n ≤ m) ∧ w = w'
theorem fewC_any (l : List (List Int)) (oa : Option Addr) (c : Nat) (F : Foot) (w : World) (hs : SliceR (slcR intR 1) 1 F w oa l) (hc2 : l.length ≤ 9223372036854775807) :
    Calls Tryz.prog 16 #[.slice oa l.length c] w (FewLen l.length 30 w) := by
  by_cases h30 : 30 < l.length
  · go_enter Tryz.func16, Tryz.ntmps16
    go_wp2_with fail
    go_ret
    exact ⟨_, rfl, (fun h => by first | omega | cases h), rfl⟩
  · go_enter Tryz.func16, Tryz.ntmps16
    go_wp2_with fail
    go_loop [3] (fun i => ∃ k : Nat, k ≤ l.length ∧ i = .int .i64 k) (fun i => l.length - (intOf i).toNat)
    case atStart => exact ⟨0, by omega, rfl⟩
    case round =>
      obtain ⟨k, hk, rfl⟩ := hrel
      by_cases hlt : k < l.length
      · obtain ⟨row, hd, hxx, b, off, oa', c', rfl, _, c0, hcl, hrl, hrs⟩ := hs.slc_at hlt
        clear hxx hrs hd
        by_cases hr : 30 < row.length
        · go_wp2_with fail
          go_ret
          exact ⟨_, rfl, (fun h => by first | omega | cases h), rfl⟩
        · go_wp2_with fail
          go_round
          case rel => exact ⟨k + 1, by omega, by go_num⟩
          case measure => simp [intOf]; omega
      · go_wp2_with fail
        go_ret
        exact ⟨_, rfl, (fun h => by first | omega | cases h), rfl⟩

end Go.Proofs.YtnigfddanoaonaaGreat

set_option linter.unusedVariables false
set_option linter.unusedSimpArgs false
namespace Go.Proofs.YtnigfddanoaonaaGreat
open Go.RowKit

/-- What the counts of complete counts and of a run have to do with each other. -/
structure LstN (m ct : List (List Int)) : Prop where
  len : ct.length = m.length
  row : ∀ (p : Nat) (l k : List Int), m[p]? = some l → ct[p]? = some k → k.length = l.length
  le : ∀ (p a : Nat) (l k : List Int) (i j : Int), m[p]? = some l → l[a]? = some i → ct[p]? = some k → k[a]? = some j → i ≤ j
theorem compR_small {x : Nwk} (h : SmallN x) (ct : List (List Int)) : compR x ct = if cntErr x ct = 0 then (doneB x ct, 0) else (false, cntErr x ct) := by
  have hn : nabR x = (true, 0) := by unfold nabR; rw [if_pos h.net, h.comm]
  unfold compR
  rw [hn, if_pos rfl, if_pos rfl]
theorem compR_own {x y : Nwk} {m : List (List Int)} {picks : List Int} (h : SmallN x) (hr : runX picks 300 0 x (x.procs.map fun p => List.replicate p.letters.toNat (0 : Int)) = some (y, m)) : compR x m = (true, 0) := by
  have hx := netErr_zero h.net
  obtain ⟨⟨h1, h2⟩, _⟩ := run_least hx (comm_ab h.comm hx) h.few picks hr
  rw [compR_small h, if_pos h1, h2]
theorem compR_least {x y : Nwk} {m ct : List (List Int)} {picks : List Int} (h : SmallN x) (hr : runX picks 300 0 x (x.procs.map fun p => List.replicate p.letters.toNat (0 : Int)) = some (y, m)) (hc : compR x ct = (true, 0)) : LstN m ct := by
  have hx := netErr_zero h.net
  obtain ⟨⟨h1, h2⟩, h3⟩ := run_least hx (comm_ab h.comm hx) h.few picks hr
  rw [compR_small h] at hc
  split at hc
  · rename_i h0
    injection hc with hd
    obtain ⟨a1, a2, _⟩ := cnt_zero h0
    obtain ⟨b1, b2, _⟩ := cnt_zero h1
    refine ⟨by omega, fun p l k m1 m2 => ?_, h3 ct h0 hd⟩
    have hp : p < x.procs.length := by have := (List.getElem?_eq_some_iff.1 m1).1; omega
    have e1 := a2 p k _ m2 (getD_procs hp)
    have e2 := b2 p l _ m1 (getD_procs hp)
    omega
  · rename_i h0
    injection hc with e1 e2
    exact absurd e2 h0
theorem run_form2 {w w' : World} {e : Ending} {r : Option (Nwk × List (List Int))} (hlen : ∀ y ct, r = some (y, ct) → y.procs.length ≤ 12 ∧ y.state.length ≤ 12 ∧ y.waiting.length ≤ 12 ∧ ct.length ≤ 12) (h : RunNet All w e w' r) : ∃ (oq : Option Addr) (np cq : Nat) (os : Option Addr) (ns cs : Nat) (ow : Option Addr) (nw cw : Nat) (oc : Option Addr) (cc : Nat) (ct : List (List Int)) (er : Int),
    e = .returned (.tuple #[.agg #[.slice oq np cq, .slice os ns cs, .slice ow nw cw], .slice oc ct.length cc, .int .i64 er]) ∧ SliceR (slcR intR 1) 1 All w' oc ct ∧ ct.length ≤ cc ∧ ct.length ≤ 12 ∧ Below w.heap.size w w' ∧ (er = 12 ∨ er = 0 ∧ ∃ y, r = some (y, ct)) := by
  cases r with
  | none =>
    obtain ⟨rfl, hb⟩ := h
    exact ⟨none, 0, 0, none, 0, 0, none, 0, 0, none, 0, [], 12, rfl, SliceR.nil _ _ _ _ _, by simp, by simp, hb, Or.inl rfl⟩
  | some p =>
    obtain ⟨y, ct⟩ := p
    obtain ⟨v, oc, cc, rfl, ⟨oq, cq, os, cs, ow, cw, rfl, _, _, _, hp, hs, ht⟩, hcc, hct, hb⟩ := h
    exact ⟨oq, _, cq, os, _, cs, ow, _, cw, oc, cc, ct, 0, rfl, hct, hcc, (hlen y ct rfl).2.2.2, hb, Or.inr ⟨rfl, y, rfl⟩⟩

set_option maxRecDepth 100000 in
set_option maxHeartbeats 8000000 in
theorem netle_walk (w : World) (ps : List Prc) (st : List Int) (wt : List (List Int)) (oa : Option Addr) (c : Nat) (ob : Option Addr) (e : Nat) (oc : Option Addr) (g : Nat) (hn : NetIn w ps st wt oa c ob e oc g)
    (cts : List (List Int)) (ou : Option Addr) (cu : Nat) (hcu : cts.length ≤ cu) (hdu : cts.length ≤ 9223372036854775807) (hsu : SliceR (slcR intR 1) 1 All w ou cts) :
    Calls Tryz.prog 4 #[.agg #[.slice oa ps.length c, .slice ob st.length e, .slice oc wt.length g], .slice ou cts.length cu] w fun r w' => r = .returned (.bool true) ∧ Below w.heap.size w w' := by
  obtain ⟨W1, e1⟩ : ∃ W1, w.alloc (.cells #[.slice oa ps.length c, .slice ob st.length e, .slice oc wt.length g] 26) = W1 := ⟨_, rfl⟩
  have bx1 : Box W1 w.heap.size [.slice oa ps.length c, .slice ob st.length e, .slice oc wt.length g] 26 := by rw [← e1]; exact Box.new w [.slice oa ps.length c, .slice ob st.length e, .slice oc wt.length g] 26
  have bb1 := bnew (Below.refl w.heap.size w) (.cells #[.slice oa ps.length c, .slice ob st.length e, .slice oc wt.length g] 26)
  rw [e1] at bb1
  have HNI := hide hn
  have HSU := hide hsu
  have HX1 := hide bx1
  have HB1 := hide bb1
  have d0 := bx1.cell 0
  have d1 := bx1.cell 1
  have d2 := bx1.cell 2
  simp only [List.getElem?_cons_zero, List.getElem?_cons_succ] at d0 d1 d2
  have HC1 : Hid (∀ u, Below w.heap.size w u → Calls Tryz.prog 9 #[.agg #[.slice oa ps.length c, .slice ob st.length e, .slice oc wt.length g]] u fun r w' => ∃ b, r = .returned (.bool b) ∧ (b = true → SmallN ⟨ps, st, wt⟩) ∧ Below u.heap.size u w') := fun u hu => small55_any u ps st wt oa c ob e oc g ⟨hn.pc, hn.sc, hn.wc, hn.pl, hn.sl, hn.wl, hn.p.below prcR_ok hu, hn.s.below intR_ok hu, hn.t.below (slcR_ok intR_ok (by decide)) hu⟩
  have HP1 : Hid (∀ u, Below w.heap.size w u → Calls Tryz.prog 16 #[.slice ou cts.length cu] u (FewLen cts.length 30 u)) := fun u hu => fewC_any cts ou cu All u (hsu.below (slcR_ok intR_ok (by decide)) hu) hdu
  clear hn hsu bx1 bb1
  go_enter Tryz.func4, Tryz.ntmps4
  go_wp2_with fail
  refine (HC1.out _ HB1.out).mono ?_
  rintro r w2 ⟨b, rfl, hsm, hb2⟩
  have HB2 := hide (HB1.out.trans (hb2.mono HB1.out.size))
  have HL2 := hide hb2
  clear hb2
  cases b
  · clear hsm
    go_wp2_with fail
    refine (awake55_any _).mono ?_
    rintro r w3 ⟨rfl, hb3⟩
    have HB3 := hide (HB2.out.trans (hb3.mono HB2.out.size))
    clear hb3
    go_wp2_with fail
    go_ret
    exact ⟨rfl, HB3.out⟩
  have HSM := hide (hsm rfl)
  clear hsm
  go_wp2_with fail
  refine (HP1.out _ HB2.out).mono ?_
  rintro r w3 ⟨f1, rfl, hf1, rfl⟩
  cases f1
  · clear hf1
    go_wp2_with fail
    refine (awake55_any _).mono ?_
    rintro r wF ⟨rfl, hbF⟩
    have HBF := hide (HB2.out.trans (hbF.mono HB2.out.size))
    clear hbF
    go_wp2_with fail
    go_ret
    exact ⟨rfl, HBF.out⟩
  have h30 := hf1 rfl
  clear hf1
  have hx6 := HX1.out.below HL2.out
  have d0 := hx6.cell 0
  have d1 := hx6.cell 1
  have d2 := hx6.cell 2
  simp only [List.getElem?_cons_zero, List.getElem?_cons_succ] at d0 d1 d2
  clear hx6
  have HRT := hide (netErr_zero HSM.out.net)
  have HAB := hide (comm_ab HSM.out.comm HRT.out)
  obtain ⟨R, hR⟩ : ∃ R, R = runX [0] 300 0 ⟨ps, st, wt⟩ (ps.map fun p => List.replicate p.letters.toNat (0 : Int)) := ⟨_, rfl⟩
  have HLEN : Hid (∀ y ct, R = some (y, ct) → y.procs.length ≤ 12 ∧ y.state.length ≤ 12 ∧ y.waiting.length ≤ 12 ∧ ct.length ≤ 12) := fun y ct h => by
    rw [hR] at h
    exact run_len HRT.out HAB.out HSM.out.few [0] h
  have HRN1 : Hid (∀ u, Below w.heap.size w u → Calls Tryz.prog 13 #[.agg #[.slice oa ps.length c, .slice ob st.length e, .slice oc wt.length g], .slice (some ⟨u.heap.size, 0, none⟩) 1 1, .int .i64 300] (u.alloc (.cells #[.int .i64 0] 3)) fun r w' => RunNet All (u.alloc (.cells #[.int .i64 0] 3)) r w' R) := fun u hu => by
    have hu1 := hu.trans ((bnew (Below.refl u.heap.size u) (.cells #[.int .i64 0] 3)).mono hu.size)
    have := nrun_any ⟨ps, st, wt⟩ oa c ob e oc g [0] (some ⟨u.heap.size, 0, none⟩) 1 300 All (u.alloc (.cells #[.int .i64 0] 3)) (HNI.out.p.below prcR_ok hu1) (HNI.out.s.below intR_ok hu1) (HNI.out.t.below (slcR_ok intR_ok (by decide)) hu1) HSM.out.net (intlF u 0 (i64n (by decide)) trivial) (by decide) (by decide) (by omega) HSM.out.few
    rw [hR]
    exact this
  have HPL : ps.length ≤ 12 := HRT.out.n.2
  have HSL : st.length ≤ 12 := by have := HRT.out.nst; simp only at this; omega
  have HWL : wt.length ≤ 12 := by have := HRT.out.nwt; simp only at this; omega
  have HCP : Hid (∀ (u : World) (ct : List (List Int)) (ot : Option Addr) (cc : Nat), Below w.heap.size w u → SliceR (slcR intR 1) 1 All u ot ct → ct.length ≤ cc → ct.length ≤ 30 → Calls Tryz.prog 17 #[.agg #[.slice oa ps.length c, .slice ob st.length e, .slice oc wt.length g], .slice ot ct.length cc] u fun r w' => r = .returned (.tuple #[.bool (compR ⟨ps, st, wt⟩ ct).1, .int .i64 (compR ⟨ps, st, wt⟩ ct).2]) ∧ Below u.heap.size u w') := fun u ct ot cc hu hs h1 h2 =>
    ncomplete_any ⟨ps, st, wt⟩ oa c ob e oc g All u (HNI.out.p.below prcR_ok hu) (by simp only; omega) (HNI.out.s.below intR_ok hu) (by simp only; omega) (HNI.out.t.below (slcR_ok intR_ok (by decide)) hu) (by simp only; omega) ct ot cc All hs h1 (by omega)
  have HRR := hide hR
  have HNUM := hide (And.intro HPL (And.intro HSL (And.intro HWL (And.intro h30 hcu))))
  clear hR HPL HSL HWL
  go_wp2_with fail
  refine (HRN1.out _ HB2.out).mono ?_
  intro r w7 h7
  obtain ⟨oq1, np, cq1, os1, ns, cs1, ow1, nw, cw1, oc1, cc1, m, er, rfl, hm, hcc, hm12, hb7, her⟩ := run_form2 HLEN.out h7
  have hbb7 : Below w2.heap.size w2 w7 := (bnew (Below.refl _ _) _).trans (hb7.mono (by rw [alloc_size']; omega))
  obtain ⟨nm, hnm⟩ : ∃ n, n = m.length := ⟨_, rfl⟩
  rw [← hnm]
  obtain ⟨W8, e8⟩ : ∃ W8, w7.alloc (.cells #[.slice oq1 np cq1, .slice os1 ns cs1, .slice ow1 nw cw1] 26) = W8 := ⟨_, rfl⟩
  have hb8 : Below w7.heap.size w7 W8 := by rw [← e8]; exact bnew (Below.refl _ _) _
  have HM8 := hide (hm.below (slcR_ok intR_ok (by decide)) hb8)
  have HB8 := hide (HB2.out.trans ((hbb7.trans (hb8.mono hbb7.size)).mono HB2.out.size))
  have HL8 := hide (HL2.out.trans ((hbb7.trans (hb8.mono hbb7.size)).mono HL2.out.size))
  have hx1 := HX1.out.below HL8.out
  have d0 := hx1.cell 0
  have d1 := hx1.cell 1
  have d2 := hx1.cell 2
  simp only [List.getElem?_cons_zero, List.getElem?_cons_succ] at d0 d1 d2
  have HER := hide her
  have HMN := hide (And.intro hnm (And.intro hcc hm12))
  clear h7 hm hcc hm12 hb7 her hbb7 hb8 hx1 hnm h30
  go_wp2_with fail
  refine (HCP.out W8 cts ou cu HB8.out (HSU.out.below (slcR_ok intR_ok (by decide)) HB8.out) hcu HNUM.out.2.2.2.1).mono ?_
  rintro r w9 ⟨rfl, hb9⟩
  obtain ⟨⟨a, f⟩, haf⟩ : ∃ p, p = compR ⟨ps, st, wt⟩ cts := ⟨_, rfl⟩
  rw [← haf]
  have HAF := hide haf
  have HB9 := hide (HB8.out.trans (hb9.mono HB8.out.size))
  have HL9 := hide (HL8.out.trans (hb9.mono HL8.out.size))
  have HM9 := hide (HM8.out.below (slcR_ok intR_ok (by decide)) hb9)
  have hx1 := HX1.out.below HL9.out
  have d0 := hx1.cell 0
  have d1 := hx1.cell 1
  have d2 := hx1.cell 2
  simp only [List.getElem?_cons_zero, List.getElem?_cons_succ] at d0 d1 d2
  clear hb9 haf hx1
  rcases HER.out with rfl | ⟨rfl, y, hy⟩
  · go_wp2_with fail
    refine (awake55_any _).mono ?_
    rintro r wF ⟨rfl, hbF⟩
    have HBF := hide (HB9.out.trans (hbF.mono HB9.out.size))
    clear hbF
    go_wp2_with fail
    go_ret
    exact ⟨rfl, HBF.out⟩
  have HY := hide (HRR.out.symm.trans hy)
  clear hy
  have HOWN := hide (compR_own HSM.out HY.out)
  go_wp2_with fail
  have hcall := HCP.out w9 m oc1 cc1 HB9.out HM9.out HMN.out.2.1 (by have := HMN.out.2.2; omega)
  rw [← HMN.out.1, HOWN.out] at hcall
  refine hcall.mono ?_
  rintro r w10 ⟨rfl, hb10⟩
  have HB10 := hide (HB9.out.trans (hb10.mono HB9.out.size))
  have HM10 := hide (HM9.out.below (slcR_ok intR_ok (by decide)) hb10)
  clear hb10 hcall
  by_cases hf : f = 0
  case neg =>
    have q1 : (f != 0) = true := by simpa using hf
    have q2 : (f == 0) = false := by simpa using hf
    clear hf
    go_wp2_with fail
    refine (awake55_any _).mono ?_
    rintro r wF ⟨rfl, hbF⟩
    have HBF := hide (HB10.out.trans (hbF.mono HB10.out.size))
    clear hbF
    go_wp2_with fail
    go_ret
    exact ⟨rfl, HBF.out⟩
  subst hf
  cases a
  · go_wp2_with fail
    refine (awake55_any _).mono ?_
    rintro r wF ⟨rfl, hbF⟩
    have HBF := hide (HB10.out.trans (hbF.mono HB10.out.size))
    clear hbF
    go_wp2_with fail
    go_ret
    exact ⟨rfl, HBF.out⟩
  have HLS := hide (compR_least HSM.out HY.out HAF.out.symm)
  have hle := HLS.out.len
  rw [← HMN.out.1] at hle
  have hn12 : nm ≤ 12 := by have := HMN.out; omega
  rw [hle]
  clear hle
  go_wp2_with fail
  go_loopw [86] (fun iv wr => ∃ i : Nat, i ≤ nm ∧ iv = .int .i64 i ∧ Hid (Below w10.heap.size w10 wr)) (fun iv _ => nm - (intOf iv).toNat)
  case atStart => exact ⟨0, by omega, rfl, Below.refl _ _⟩
  case round =>
    obtain ⟨i, hi, rfl, HBi⟩ := hrel
    by_cases hlt : i < nm
    · obtain ⟨l, hd, hl, b2, off2, ol, cl, rfl, _, c0, hcl, hl9, hsl⟩ := (HM10.out.below (slcR_ok intR_ok (by decide)) HBi.out).slc_at (i := i) (by have := HMN.out.1; omega)
      have HT10 := hide ((HSU.out.below (slcR_ok intR_ok (by decide)) HB10.out).below (slcR_ok intR_ok (by decide)) HBi.out)
      obtain ⟨k, hd2, hk, b3, off3, ok, ck, rfl, _, c1, hck, hk9, hsk⟩ := HT10.out.slc_at (i := i) (by have := HLS.out.len; have := HMN.out.1; omega)
      have hkl := HLS.out.row i l k hl hk
      have HLE : Hid (∀ (a : Nat) (x y : Int), l[a]? = some x → k[a]? = some y → x ≤ y) := fun a x y h1 h2 => HLS.out.le i a l k x y hl h1 hk h2
      have HSLi := hide hsl
      have HSK := hide hsk
      obtain ⟨nl, hnl⟩ : ∃ n, n = l.length := ⟨_, rfl⟩
      rw [hkl, ← hnl] at c1
      rw [← hnl] at c0
      have HNL := hide (And.intro hnl hkl)
      have hnl9 : nl ≤ 9223372036854775807 := by omega
      clear hd hd2 hl hk hsl hsk hkl hcl hck hl9 hk9 hnl
      go_wp2_with fail
      go_loopw [94] (fun iv wr2 => ∃ j : Nat, j ≤ nl ∧ iv = .int .i64 j ∧ Hid (Below wr.heap.size wr wr2)) (fun iv _ => nl - (intOf iv).toNat)
      case atStart => exact ⟨0, by omega, rfl, Below.refl _ _⟩
      case round =>
        obtain ⟨j, hj, rfl, HBj⟩ := hrel
        by_cases hlj : j < nl
        · have c0 := (HBj.out.cell (World.block_lt_of_cell? _ _ c0)).trans c0
          have c1 := (HBj.out.cell (World.block_lt_of_cell? _ _ c1)).trans c1
          obtain ⟨x, _, hx, ix, b4, off4, rfl, _, c2⟩ := (HSLi.out.below intR_ok HBj.out).int_at (i := j) (by have := HNL.out.1; omega)
          obtain ⟨z, _, hz, iz, b5, off5, rfl, _, c3⟩ := (HSK.out.below intR_ok HBj.out).int_at (i := j) (by have := HNL.out; omega)
          have hxz := HLE.out j x z hx hz
          have q1 : decide ((j : Int) < (nl : Int)) = true := by simp; omega
          have q2 : decide (z < x) = false := by simp; omega
          clear hx hz hxz
          go_wp2_with fail
          go_quiet (fail)
          go_wp2_with fail
          go_roundw
          case rel => exact ⟨j + 1, by omega, by go_num, below_drewN HBj.out _⟩
          case measure => simp [intOf]; omega
        · go_wp2_with fail
          go_roundw
          case rel => exact ⟨i + 1, by omega, by go_num, HBi.out.trans (HBj.out.mono HBi.out.size)⟩
          case measure => simp [intOf]; omega
    · have HBW := hide (HB10.out.trans (HBi.out.mono HB10.out.size))
      go_wp2_with fail
      refine (awake55_any _).mono ?_
      rintro r wF ⟨rfl, hbF⟩
      have HBF := hide (HBW.out.trans (hbF.mono HBW.out.size))
      clear hbF
      go_wp2_with fail
      go_ret
      exact ⟨rfl, HBF.out⟩

end Go.Proofs.YtnigfddanoaonaaGreat

set_option linter.unusedVariables false
namespace Go.Proofs.YtnigfddanoaonaaGreat
open Go.RowKit Go.ChangeShapes Go.WideShapes Go.ChangeAt Go.Deep

set_option maxRecDepth 100000 in
theorem networkLeast_lifted (os : Os) (started : os.Started) (H : Type) (enc : TypeId × Value → H) :
    ReturnsInHanded {} Tryz.checked os 4 .any (Rows.networkLeastSpec.pre6 enc Tryz.prog Tryz.f4 Rows.networkLeastRow.domain false) (Rows.networkLeastSpec.post enc Tryz.prog Tryz.f4 false true false false) := by
  refine returnsInHanded_of_change (C := Tryz.checked) own_knob started (by kernel_rfl) Tryz.func4
    (ChangeSpec.witness6 (enc := enc) (C := Tryz.checked) false ⟨#[], #[.agg #[.slice none 0 0, .slice none 0 0, .slice none 0 0], .slice none 0 0], []⟩ 8 (by kernel_rfl) (by kernel_rfl) (by kernel_rfl) (by kernel_rfl)) ?_
  intro W base args ds gs before hval0 hW _ _
  have hval : ∀ (j : Nat) t v, Tryz.f4.params[j]? = some t → args[j]? = some v → Value.okWide Tryz.prog W .any base t v := hval0
  have hW' := hW
  obtain ⟨p, q, hA0, hV, rfl, _, _⟩ := hW
  have hA : DataW.TrodAll enc Tryz.prog W 0 (fun _ => true) true Tryz.f4.params.toList args.toList ds p := hA0
  rw [Tryz.params4] at hA hval
  obtain ⟨v0, v1, d0, d1, p0, p1, rfl, rfl, rfl, h0, h1⟩ := trodAll_two hA
  obtain ⟨rfl, rfl⟩ := trodVars_none hV
  have h0k := h0
  have h1k := h1
  obtain ⟨ps0, st0, wt0, oa0, c0, ob0, e0, oc0, g0, rfl, hn0⟩ := open_net (hval 0 26 v0 rfl rfl) h0
  obtain ⟨xs1, oa1, c1, rfl, hc1, hd1, hs1⟩ := open_tab (hval 1 24 v1 rfl rfl) h1
  clear hA0 hval0
  simp only [List.append_nil] at hW'
  have hlt0 : ∀ y ∈ p0, y.block < W.heap.size := fun y hy => by simpa using hW'.lt y (by simp [hy])
  have hlt1 : ∀ y ∈ p1, y.block < W.heap.size := fun y hy => by simpa using hW'.lt y (by simp [hy])
  refine (netle_walk W ps0 st0 wt0 oa0 c0 ob0 e0 oc0 g0 hn0 xs1 oa1 c1 hc1 hd1 hs1).mono fun e W' ⟨he, hn⟩ => ?_
  subst he
  exact ⟨_, rfl, _, _, _, [], _, [], hW', trodAll_mk1 (shut_bool Tryz.underlying4 true), trodAll_mk2 (Below.trod laid_out (by kernel_rfl) (of_decide_eq_true (by kernel_rfl)) h0k hn hlt0) (Below.trod laid_out (by kernel_rfl) (of_decide_eq_true (by kernel_rfl)) h1k hn hlt1), rfl, hn.frame _, fun h => by cases h⟩

theorem networkLeast_holds : Rows.NetworkLeastSaid :=
  OpenClaim.holds_of_wide 4 Tryz.f4 rfl rfl rfl rfl rfl rfl rfl ⟨rfl, rfl, rfl, rfl, rfl⟩ rfl rfl rfl rfl rfl (by kernel_rfl) Tryz.func4 (by kernel_rfl)
    (of_decide_eq_true (by kernel_rfl)) (by unfold Func.isWrapper; first | (rw [if_pos (by decide +kernel)]; kernel_rfl) | (rw [if_neg (by decide +kernel)]; exact ⟨rfl, rfl⟩))
    (fun os started H enc _ => networkLeast_lifted os started H enc)

#print axioms networkLeast_holds
end Go.Proofs.YtnigfddanoaonaaGreat

/-
  NetworkRotates returns true for every ribbon graph, rotors, chips and picks: the network of rotors is abelian, and halts with the rotors and the steps of rotor.All. No condition.
  The walk of NetworkRotates (printed by mkRotates.py).
  The walk of RotorSteps.
  ref45.Walk, ref45.Route (printed by wip/mkRefWalk.py).
  awake: the examples of chapter 45 hold.
  slices.Min of ints: whether it is negative; ref21.Picks, ref21.FewPicks.
  A game in memory; ref17.Few, ref17.Small; sandpilelaw45.small.
  ref17.In, ref17.Check, ref45.chips, ref45.Given; ref17.Few, ref17.Small, ref45.FewChips.
  network.Run of a network that is not right.
  The network of rotors, in plain Lean: it is right, abelian, and its runs are runs of chips, with the rotors and the steps of rotor.All.
  What RotorAdds leans on: plain law.
  Chips one by one, and all at once: plain law.
  The order in which chips are moved does not matter: plain law.
  Networks of processors with one letter, in plain Lean: right, and abelian.
  A processor of one letter commutes.
  The examples of the chapter on networks.
  Two lists of ints, two tables: SameInts of chapter 08, SameTables of chapter 55.
  Networks at the triangle of the examples: numbers; slices.Equal of two moves.
  What the functions give at the triangle: numbers.
  rotor.Acyclic.
  rotor.Acyclic: its closure; deferred marks of many ranges.
  rotor.All.
  (*rotor.board).route with the first vertex that has chips.
  Routing chips: plain law.
  The triangle of the examples.
  slices.Equal of ints, ref17.Order, Same, ref18.SameScripts; the sizes that the statements take in (Few).
  ref45.Routed.
  rotor.Edges.
  rotor.Route.
  rotor.Walk.
  The states on a way; the first time at the sink; what the range over a way needs besides.
  The iterator way: with a step that turns, and with one that only looks (printed by wip/mkWay.py).
  A range over a function whose iterator and whose body both write cells: the law.
  There is a forest for every right graph.
  The sizes that the statements take in: ref08.Few, ref44.Few, ref45.Few.
  ref45.Turned, ref45.Step.
  rotor.Step.
  ref44.Opposite, ref45.Targets.
  network.Run: a right network runs by picks.
-/
import Derived.Test.YtnigfddanoaonaaGreatNr5
import Derived.StillTailTactics
import Derived.BigQuiet
import Derived.RangeFuncBox
import Derived.RangeFuncNested
import Derived.RangeFuncLeaves
import Derived.Shelf.Abstract
import Derived.OwnWalkIn
import Derived.TacticsInMore
import Derived.LoopNIn
import Derived.LoopIn
import Derived.Maps.AppendAt
import Derived.BigRegionIn
import Derived.Test.YtnigfddanoaonaaGreatProg
import Derived.Deep.QuietTactic
import Derived.Deep.RegionHeld3
import Derived.Test.YtnigfddanoaonaaGreatRows

set_option linter.unusedVariables false
set_option linter.unusedSimpArgs false
namespace Go.Proofs.YtnigfddanoaonaaGreat
open Go.RowKit

theorem wpList_append_one {α : Type} {R : Rep α} {P : Program} {w : World} {ops : Array Oper} {rest : List Oper} {o : Oper} {a : Act} {Q : Exit → Act → World → Prop} (hgd : o.guard = none) (s x : Operand) (t : TypeId)
    (ho : o.op = .call { callee := .builtin .append, args := #[s, x], argTypes := #[t, t] })
    (base : Nat) (e : TypeId) (z : Value) (size bytes : Nat) (ht : P.underlying t = some (.slice e)) (hinfo : (P.info? e).map (fun i => (i.zero, i.size, i.bytes)) = some (some z, size, bytes))
    (hzs : z.cells.size = size) (hsz : 0 < size) (ok : RepOk R size) (v : Value) (xs : List α) (hs : a.eval s = v) (hown : OwnS R size base e Non w v xs)
    (ad : Addr) (c : Nat) (news : List Value) (y : α) (hx : a.eval x = .slice (some ad) 1 c) (hnews : ∀ j u, news[j]? = some u → w.cell? (ad.add j) = some u) (hR : R Non w news y)
    (hbytes : (xs.length + 1) * bytes ≤ 140737488355328) (hm : xs.length + 1 ≤ maxLen) (hbase : base ≤ w.heap.size)
    (hK : ∀ v' w', OwnS R size base e Non w' v' (xs ++ [y]) → Below base w w' → w.grownBy w' v.ownBlock → wpList P ops Q rest (a.put o.dst v') w') : wpList P ops Q (o :: rest) a w :=
  wpList_append_in hgd s x t ho base e z size bytes ht hinfo hzs hsz ok Non v xs hs (hown.wide ok fun k hk _ => hk.elim) ad c news y hx hnews (ok.wide hR fun k hk _ => hk.elim) hbytes hm hbase fun v' w' h1 h2 h3 _ => hK v' w' (h1.wide ok fun k hk _ => hk.1.elim) h2 h3
theorem zero_lit (w : World) : SliceR intR 1 All (w.alloc (.cells #[.int .i64 0] 3)) (some ⟨w.heap.size, 0, none⟩) [0] := by
  simpa using ints_lit (F := All) (G := All) w 3 [0] (by intro x hx; simp at hx; subst hx; unfold I64; omega) trivial
theorem methMv (x : Value) (w : World) : Sem.run Tryz.prog (method 349 147 x "sandpile/network.moves") w = .ok ((198 : Nat), x) w := by kernel_rfl
theorem methMk (x : Value) (w : World) : Sem.run Tryz.prog (method 349 147 x "sandpile/network.make") w = .ok ((197 : Nat), x) w := by kernel_rfl
theorem methNw (x : Value) (w : World) : Sem.run Tryz.prog (method 349 147 x "sandpile/network.network") w = .ok ((199 : Nat), x) w := by kernel_rfl
/-- A network in memory. -/
def NetAt (F : Foot) (w : World) (v : Value) (y : Nwk) : Prop := ∃ oq cq os cs ow cw, v = .agg #[.slice oq y.procs.length cq, .slice os y.state.length cs, .slice ow y.waiting.length cw] ∧ y.procs.length ≤ cq ∧ y.state.length ≤ cs ∧ y.waiting.length ≤ cw ∧ SliceR prcR 3 F w oq y.procs ∧ SliceR intR 1 F w os y.state ∧ SliceR (slcR intR 1) 1 F w ow y.waiting
/-- What a run comes to. -/
def RunNet (F : Foot) (w : World) (e : Ending) (w' : World) : Option (Nwk × List (List Int)) → Prop
  | some (y, ct) => ∃ v oc cc, e = .returned (.tuple #[v, .slice oc ct.length cc, .int .i64 0]) ∧ NetAt F w' v y ∧ ct.length ≤ cc ∧ SliceR (slcR intR 1) 1 F w' oc ct ∧ Below w.heap.size w w'
  | none => e = .returned (.tuple #[.agg #[.slice none 0 0, .slice none 0 0, .slice none 0 0], .slice none 0 0, .int .i64 12]) ∧ Below w.heap.size w w'

section
variable {O : Foot} {B0 K H p gs : Nat} {vp tw : Value} {rs : List Rw} {x : Nwk} {W W' : World}
/-- A store into a block that is none of the machine's. -/
theorem Mach.away (h : Mach O B0 K H p gs vp tw rs x W) {q : Addr} (hq : q.block < B0) (hO : ¬ O q.block) (v : Value) : Mach O B0 K H p gs vp tw rs x (W.setCell q v) := by
  obtain ⟨l1, l2, l3, l4⟩ := h.low
  exact {
    main := h.main.other (by omega) _
    procs := h.procs.keep prcR_ok (fun g hg => Below.heap_setCell _ _ _ g (by have := (h.procs.block g hg).1; omega)) (fun k hk _ => Below.heap_setCell _ _ _ k (fun e => by
      have h1 := hk.1.1
      unfold OldNew at h1
      rcases h1 with h1 | h1
      · exact hO (e ▸ h1.1)
      · omega))
    vlt := h.vlt
    sts := h.sts.other (by omega) _
    tab := h.tab.above fun k _ hk => Below.heap_setCell _ _ _ k (by omega)
    tabs := h.tabs
    low := h.low }
/-- What is laid or changed from block C on does not concern a machine that lies below. -/
theorem Mach.keepC (h : Mach O B0 K H p gs vp tw rs x W) {C : Nat} (hp : p < C) (ht : ∀ g, tw.ownBlock = some g → g < C) (hr : ∀ r ∈ rs, r.g < C) (hk : ∀ k, k < C → W'.heap[k]? = W.heap[k]?) : Mach O B0 K H p gs vp tw rs x W' := by
  obtain ⟨l1, l2, l3, l4⟩ := h.low
  exact {
    main := h.main.keep (hk _ hp)
    procs := h.procs.keep prcR_ok (fun g hg => hk g (by have := h.vlt g hg; omega)) (fun k hkk _ => hk k (by have := hkk.2; omega))
    vlt := h.vlt
    sts := h.sts.keep (hk _ (by omega))
    tab := h.tab.keep (fun g hg => hk g (ht g hg)) fun r hr' => hk _ (hr r hr')
    tabs := h.tabs
    low := h.low }
theorem Mach.netAt (h : Mach O B0 K H p gs vp tw rs x W) (hr : Right x) : NetAt All W (.agg #[vp, .slice (some ⟨gs, 0, none⟩) x.procs.length x.procs.length, tw]) x := by
  obtain ⟨oV, cV, hvp, hcV, hsV⟩ := h.procs.slice prcR_ok
  have hI : ∀ l ∈ x.waiting, l.length ≤ 9223372036854775807 ∧ ∀ k ∈ l, I64 k := fun l hl => by
    refine ⟨?_, fun k hk => by have := hr.wb l hl k hk; unfold I64; omega⟩
    obtain ⟨j, hj, rfl⟩ := List.mem_iff_getElem.1 hl
    obtain ⟨l', h1, h2⟩ := hr.row (p := j) (by rw [← hr.nwt]; exact hj)
    rw [List.getElem?_eq_getElem hj] at h1
    injection h1 with h1
    rw [h1, h2]
    have := (hr.letters j (by rw [← hr.nwt]; exact hj)).2
    omega
  obtain ⟨oT, cT, htw, hcT, hsT⟩ := h.tab.slices fun r hr' => hI r.l (by rw [← h.tabs]; exact List.mem_map.2 ⟨r, hr', rfl⟩)
  rw [h.tabs] at htw hcT hsT
  have hst : ∀ k ∈ x.state, I64 k := fun k hk => by
    obtain ⟨j, hj, rfl⟩ := List.mem_iff_getElem.1 hk
    have hj' : j < x.procs.length := by rw [← hr.nst]; exact hj
    have h1 := hr.st j _ _ (List.getElem?_eq_getElem hj) (List.getElem?_eq_getElem hj')
    have h2 := (check_zero (hr.proc j _ (List.getElem?_eq_getElem hj'))).2.1
    unfold I64
    omega
  have hs := h.sts.ints (F := All) hst trivial
  refine ⟨oV, cV, some ⟨gs, 0, none⟩, x.procs.length, oT, cT, ?_, hcV, by rw [hr.nst]; exact Nat.le_refl _, hcT, hsV.all prcR_ok (by decide), hs, hsT.all (slcR_ok intR_ok (by decide)) (by decide)⟩
  rw [hvp, htw, hr.nst]
end
theorem SliceR.mv_at {F : Foot} {w : World} {oa : Option Addr} {xs : List (Nat × Nat)} (h : SliceR mvR 2 F w oa xs) {i : Nat} (hi : i < xs.length) :
    ∃ a b : Nat, xs[i]? = some (a, b) ∧ ∃ bl off, oa = some ⟨bl, off, none⟩ ∧ F bl ∧ w.cell? ⟨bl, off + i * 2, none⟩ = some (.int .i64 a) ∧ w.cell? ⟨bl, off + i * 2 + 1, none⟩ = some (.int .i64 b) := by
  obtain ⟨⟨a, b⟩, h1, h2, bl, off, cs, h3, h4, rfl, h8⟩ := h.at hi
  exact ⟨a, b, h2, bl, off, h3, h4, by simpa using h8 0 _ rfl, by simpa using h8 1 _ rfl⟩
theorem RTab.away {B : Nat} {tw : Value} {rs : List Rw} {W : World} (h : RTab B tw rs W) {q : Addr} (hq : q.block < B) (v : Value) : RTab B tw rs (W.setCell q v) := h.above fun k _ hk => Below.heap_setCell _ _ _ k (by omega)
theorem tab_bound {x : Nwk} {ct0 ct : List (List Int)} {j : Int} (h0 : ct0 = x.procs.map fun p => List.replicate p.letters.toNat (0 : Int)) (h : Shape ct0 ct j) (hr : Right x) (hj : j ≤ 1000000) : ∀ l ∈ ct, l.length ≤ 9223372036854775807 ∧ ∀ k ∈ l, I64 k := fun l hl => by
  refine ⟨?_, fun k hk => by have := h.num l hl k hk; unfold I64; omega⟩
  obtain ⟨i, hi, rfl⟩ := List.mem_iff_getElem.1 hl
  obtain ⟨l0, h1, h2⟩ := h.row i _ (List.getElem?_eq_getElem hi)
  rw [h0, List.getElem?_map, Option.map_eq_some_iff] at h1
  obtain ⟨p, h3, h4⟩ := h1
  have h5 := (check_zero (hr.proc i p h3)).2.2.1
  rw [h2, ← h4, List.length_replicate]
  omega
theorem tabL_app (rs : List Rw) (r : Rw) : tabL (rs ++ [r]) = tabL rs ++ [r.l] := by unfold tabL; rw [List.map_append]; rfl

set_option maxRecDepth 100000 in
set_option maxHeartbeats 4000000 in
theorem nrun_big (x : Nwk) (op : Option Addr) (cp : Nat) (os : Option Addr) (cs : Nat) (ow : Option Addr) (cw : Nat) (picks : List Int) (oP : Option Addr) (cP : Nat) (limit : Nat) (F : Foot) (w : World)
    (hp : SliceR prcR 3 F w op x.procs) (hs : SliceR intR 1 F w os x.state) (ht : SliceR (slcR intR 1) 1 F w ow x.waiting) (hz : netErr x = 0) (hpk : SliceR intR 1 F w oP picks) (hcP : picks.length ≤ cP) (hpz : picksErr picks = 0) (hl : limit ≤ 4000)
    (hfew : ∀ t ∈ x.waiting, ∀ k ∈ t, k ≤ 1000) :
    Calls Tryz.prog 13 #[.agg #[.slice op x.procs.length cp, .slice os x.state.length cs, .slice ow x.waiting.length cw], .slice oP picks.length cP, .int .i64 limit] w fun e w' => RunNet All w e w' (runX picks limit 0 x (x.procs.map fun p => List.replicate p.letters.toNat (0 : Int))) := by
  have hr := netErr_zero hz
  have hst := hr.nst
  have hwt := hr.nwt
  have hpl : 1 ≤ picks.length ∧ picks.length ≤ 4096 := by
    unfold picksErr at hpz
    split at hpz
    · cases hpz
    · split at hpz
      · cases hpz
      · omega
  have HNEG : Hid (∀ k ∈ picks, 0 ≤ k) := fun k hk => by
    unfold picksErr at hpz
    split at hpz
    · cases hpz
    · split at hpz
      · cases hpz
      · split at hpz
        · cases hpz
        · rename_i h3
          unfold negB at h3
          simp at h3
          exact h3 k hk
  obtain ⟨n, hn⟩ : ∃ n, n = x.procs.length := ⟨_, rfl⟩
  have h12 : 1 ≤ n ∧ n ≤ 12 := by rw [hn]; exact hr.n
  obtain ⟨W1, e1⟩ : ∃ W1, w.alloc (.cells #[.slice op n cp, .slice os n cs, .slice ow n cw] 26) = W1 := ⟨_, rfl⟩
  have bx1 : Box W1 w.heap.size [.slice op n cp, .slice os n cs, .slice ow n cw] 26 := by rw [← e1]; exact Box.new w [.slice op n cp, .slice os n cs, .slice ow n cw] 26
  have bb1 := bnew (Below.refl w.heap.size w) (.cells #[.slice op n cp, .slice os n cs, .slice ow n cw] 26)
  rw [e1] at bb1
  obtain ⟨W2, e2⟩ : ∃ W2, W1.alloc (.cells #[.slice none 0 0, .slice none 0 0, .slice none 0 0] 26) = W2 := ⟨_, rfl⟩
  have bx2 : Box W2 W1.heap.size [.slice none 0 0, .slice none 0 0, .slice none 0 0] 26 := by rw [← e2]; exact Box.new W1 [.slice none 0 0, .slice none 0 0, .slice none 0 0] 26
  have bb2 := bnew (Below.refl W1.heap.size W1) (.cells #[.slice none 0 0, .slice none 0 0, .slice none 0 0] 26)
  rw [e2] at bb2
  have bx1 := bx1.below bb2
  have hb2 := bb1.trans (bb2.mono bb1.size)
  have HC1 : Hid (∀ u, Below w.heap.size w u → Calls Tryz.prog 43 #[.agg #[.slice op n cp, .slice os n cs, .slice ow n cw]] u fun e w' => e = .returned (.int .i64 0) ∧ Below u.heap.size u w') := fun u h => by
    have := netCheck_any x.procs op cp x.state os cs x.waiting ow cw F u (hp.below prcR_ok h) (by have := hr.n.2; omega) (hs.below intR_ok h) (by have := hr.n.2; omega) (ht.below (slcR_ok intR_ok (by decide)) h) (by have := hr.n.2; omega)
    rw [hst, hwt, ← hn] at this
    rw [show netErr ⟨x.procs, x.state, x.waiting⟩ = 0 from hz] at this
    exact this
  have HC2 : Hid (∀ u, Below w.heap.size w u → Calls Tryz.prog 44 #[.slice oP picks.length cP] u fun e w' => e = .returned (.int .i64 0) ∧ u = w') := fun u h => by
    have := picked_any picks oP cP F u (hpk.below intR_ok h) hcP (by omega)
    rw [hpz] at this
    exact this
  have HPP := hide (hp.loc prcR_ok (by omega))
  have HSS := hide (hs.loc intR_ok (by omega))
  have HTT := hide (ht.loc (slcR_ok intR_ok (by decide)) (by omega))
  have HPK := hide (hpk.loc intR_ok (by omega))
  have HC3 : Hid (∀ u, Below w.heap.size w u → Calls Tryz.prog 45 #[.agg #[.slice op n cp, .slice os n cs, .slice ow n cw]] u fun e w' => ∃ (B0 K H p gs : Nat) (vp tw : Value) (rs : List Rw), e = .returned (.iface 147 (machV p)) ∧ u.heap.size ≤ B0 ∧ Mach (Lt w.heap.size) B0 K H p gs vp tw rs x w' ∧ Below u.heap.size u w') := fun u h => by
    rw [hn]
    exact nstart_any x op cp os cs ow cw (Lt w.heap.size) u (HPP.out.below prcR_ok h) (HSS.out.below intR_ok h) (HTT.out.below (slcR_ok intR_ok (by decide)) h) hr
  rw [hst, hwt, ← hn]
  have d0 := bx1.cell 0
  have d1 := bx1.cell 1
  have d2 := bx1.cell 2
  simp only [List.getElem?_cons_zero, List.getElem?_cons_succ] at d0 d1 d2
  have HX1 := hide bx1
  have HX2 := hide bx2
  have HB2 := hide hb2
  have HZ1 := hide bb1.size
  have HR := hide hr
  have HN := hide hn
  have HPL := hide hpl
  obtain ⟨np, hnp⟩ : ∃ m, m = picks.length := ⟨_, rfl⟩
  rw [← hnp] at HC2 hpl ⊢
  have HNP := hide hnp
  have hl0 : ¬ (limit : Int) < 0 := by omega
  have hl1 : ¬ (1048576 : Int) < limit := by omega
  clear hr hst hwt hn bx1 bx2 bb1 bb2 hb2 hp hs ht hz hpk hcP hpz hnp
  go_enter Tryz.func13, Tryz.ntmps13
  go_wp2_with (first
    | (go_at_call 43; refine (HC1.out _ HB2.out).mono ?_; rintro e w3 ⟨rfl, h3⟩; have HB3 := hide (HB2.out.trans (h3.mono HB2.out.size)); have x1 := HX1.out.below h3; have y1 := x1.cell 0; have y2 := x1.cell 1; have y3 := x1.cell 2; simp only [List.getElem?_cons_zero, List.getElem?_cons_succ] at y1 y2 y3; have HX3 := hide x1; have HX23 := hide (HX2.out.below h3); clear h3 x1)
    | (go_at_call 44; refine (HC2.out _ HB3.out).mono ?_; rintro e w4 ⟨rfl, rfl⟩)
    | (go_at_call 45; refine (HC3.out _ HB3.out).mono ?_; rintro e w4 ⟨B0, K, H, p, gs, vp, tw, rs, rfl, hB0, hM, h4⟩; have HM := hide hM; have HX2w := hide (HX23.out.below h4); have HW23 := hide (show w3.heap.size ≤ B0 from hB0); have x4 := HX3.out.below h4; have z0 := x4.cell 0; simp only [List.getElem?_cons_zero, List.getElem?_cons_succ] at z0; have HX4 := hide x4; have HB4 := hide (HB3.out.trans (h4.mono HB3.out.size)); clear hM x4))
  obtain ⟨Bc, hBc⟩ : ∃ Bc, Bc = w4.heap.size := ⟨_, rfl⟩
  have HBC := hide hBc
  clear hBc z0
  go_loopg [12, 43] n (fun gm tc iv wx => ∃ (i : Nat) (rcs : List Rw), i ≤ n ∧ gm = n - i ∧ iv = .int .i64 i ∧ Hid (RTab Bc tc rcs wx) ∧ Hid (tabL rcs = ((x.procs.take i).map fun p => List.replicate p.letters.toNat (0 : Int))) ∧ Hid (Below Bc w4 wx))
  case atStart => exact ⟨0, [], by omega, by omega, rfl, RTab.nil _ _, rfl, Below.refl _ _⟩
  case round =>
    obtain ⟨i, rcs, hi, hgm, rfl, HT, HTL, HB⟩ := hrel
    have HGM := hide hgm
    clear hgm
    have hbw : ∀ k, k < w.heap.size → wr.heap[k]? = w.heap[k]? := fun k hk => by
      have h1 := HB4.out.size
      rw [HB.out.block k (by have := HBC.out; omega)]
      exact HB4.out.block k hk
    have hBw : Bc ≤ wr.heap.size := by have := HB.out.size; have := HBC.out; omega
    by_cases hlt : i < n
    · obtain ⟨S, Le, rls, b7, off7, oR, cR, hd7, hpr, hoP, _, y0, y1, y2, iS, iL, hrc, _, _⟩ := (HPP.out.keep (w' := wr) prcR_ok (fun k hk _ => hbw k hk)).prc_at (i := i) (by have := HN.out; omega)
      subst hoP
      have hck := check_zero (HR.out.proc i _ hpr)
      simp only at hck
      obtain ⟨Ln, rfl⟩ := Int.eq_ofNat_of_zero_le (show (0 : Int) ≤ Le by omega)
      have hLn : 1 ≤ Ln ∧ Ln ≤ 8 := by omega
      obtain ⟨ot, ct_, htc, _⟩ := HT.out.len
      have hrl : rcs.length = i := by
        have := congrArg List.length HTL.out
        unfold tabL at this
        rw [List.length_map, List.length_map, List.length_take, Nat.min_eq_left (by have := HN.out; omega)] at this
        exact this
      rw [hrl] at htc
      subst htc
      have HLEN : Hid ((rcs.map Rw.val).length = i) := by show _ = _; rw [List.length_map]; exact hrl
      have HPR := hide hpr
      clear hd7 hpr hck hrc hrl iS
      have hrep := repeat_any 0 Ln 1 (some ⟨wr.heap.size + 1, 0, none⟩) All ((wr.alloc (.cells #[.int .i64 S, .int .i64 Ln, .slice oR rls.length cR] 89)).alloc (.cells #[.int .i64 0] 3)) (by unfold I64; omega) (by omega) (by have := zero_lit (wr.alloc (.cells #[.int .i64 S, .int .i64 Ln, .slice oR rls.length cR] 89)); rw [alloc_size'] at this; exact this)
      have HREP := hide hrep
      clear hrep
      go_wp2_with (first
        | (go_at_call 46; refine HREP.out.mono ?_
           rintro e w6 ⟨v6, rfl, h6, hb6⟩
           obtain ⟨gr, capr, rr, hv6, hgr, hcapr, _, hrow6, _⟩ := h6.row (by intro e; have := congrArg List.length e; simp at this; omega)
           rw [List.length_replicate] at hv6 hcapr
           subst hv6
           rw [alloc_size', alloc_size'] at hgr
           have hbw6 : Below wr.heap.size wr w6 := (bnew (bnew (Below.refl _ _) _) _).trans (hb6.mono (by rw [alloc_size', alloc_size']; omega))
           have HT6 := hide (HT.out.below hbw6)
           have HR6 := hide hrow6
           have HB6 := hide hbw6
           have hcr : Ln ≤ capr := by { omega }
           clear h6 hb6 hrow6 hcapr hbw6)
        | (at_builtin
           refine wpList_append_one rfl (.tmp 47) (.tmp 52) 24 rfl Bc 23 _ 1 24 Tryz.underlying24 tabInfoN rfl (by decide) valR_ok (.slice ot i ct_) (rcs.map Rw.val) (by simp [Act.eval, Act.put]) (OwnS.new valR_ok HT6.out.tab _) ⟨_, 0, none⟩ 1 [.slice (some ⟨gr, 0, none⟩) Ln capr] (.slice (some ⟨gr, 0, none⟩) Ln capr) (by simp [Act.eval, Act.put]) (World.news_of_block (heap_alloc_new _ _)) ⟨rfl, rfl⟩ (by rw [HLEN.out]; omega) (by rw [HLEN.out]; unfold maxLen; omega) (by rw [alloc_size']; have := HB6.out.size; omega) (fun v' w8 ho hb8 hg8 => ?_)
           have HO8 := hide ho
           have HB8 := hide hb8
           have HG8 := hide hg8
           clear ho hb8 hg8))
      go_roundg (n - (i + 1))
      case measure => have := HGM.out; omega
      case rel =>
        have hs6 := HB6.out.size
        have hlt6 := HR6.out.lt
        have hpush := HT.out.push (r := ⟨gr, capr, List.replicate Ln 0, rr⟩) (W' := w8) (by unfold Rw.val slV; rw [List.length_replicate]; exact HO8.out)
          (fun k hk hne => (HG8.out.block k (by rw [alloc_size']; omega) hne).trans ((Below.heap_alloc w6 _ k (by omega)).trans (HB6.out.block k hk)))
          (HR6.out.keep ((HG8.out.block gr (by rw [alloc_size']; omega) (fun e => by obtain ⟨cur, hcur⟩ := own_heap HT6.out.tab e.symm; exact ne_type HR6.out hcur (by decide) rfl)).trans (Below.heap_alloc w6 _ gr hlt6))) (by simp only; omega) hBw (by simp only [List.length_replicate]; exact hcr)
        refine ⟨i + 1, _, by omega, rfl, by go_num, hpush, ?_, ?_⟩
        · show _ = _
          rw [tabL_app, HTL.out, List.take_add_one, HPR.out]
          simp
        · exact ((HB.out.trans (HB6.out.mono hBw)).alloc (by omega) _).trans HB8.out
    · have hie : i = n := by omega
      subst hie
      have hM0 : Mach (Lt w.heap.size) B0 K H p gs vp tw rs x wr := HM.out.below (by rw [← HBC.out]; exact HB.out)
      have HM0 := hide hM0
      clear hM0
      have hmv := methMv
      have hmk := methMk
      have hnw := methNw
      have hl8 : ∀ y : Nwk, Right y → y.procs = x.procs → y.waiting.length ≤ 12 ∧ ∀ l ∈ y.waiting, l.length ≤ 8 := fun y hy he => by
        refine ⟨by rw [hy.nwt]; exact hy.n.2, fun l hl => ?_⟩
        obtain ⟨j, hj, rfl⟩ := List.mem_iff_getElem.1 hl
        obtain ⟨l', h1, h2⟩ := hy.row (p := j) (by rw [← hy.nwt]; exact hj)
        rw [List.getElem?_eq_getElem hj] at h1
        injection h1 with h1
        rw [h1, h2]
        exact (hy.letters j (by rw [← hy.nwt]; exact hj)).2
      have HL8 := hide hl8
      have HMV := hide (nmoves_any HM0.out (hl8 x HR.out rfl).1 (hl8 x HR.out rfl).2)
      clear hl8
      go_wp2_with (go_at_call 198; refine HMV.out.mono ?_; rintro e w5 ⟨v5, rfl, h5, hb5⟩; obtain ⟨o5, c5, hv5, _, _⟩ := h5.slice mvR_ok; subst hv5; have HO5 := hide h5; have HB5 := hide hb5; clear h5 hb5)
      obtain ⟨oc, cc, htc, _⟩ := HT.out.len
      subst htc
      have hct0 : tabL rcs = x.procs.map fun p => List.replicate p.letters.toNat (0 : Int) := by
        have := HTL.out
        rw [List.take_of_length_le (by have := HN.out; omega)] at this
        exact this
      obtain ⟨ct0, hc0⟩ : ∃ ct0, ct0 = x.procs.map fun p => List.replicate p.letters.toNat (0 : Int) := ⟨_, rfl⟩
      rw [← hc0] at hct0
      have HCT0 := hide hct0
      have HC0 := hide hc0
      have hsh0 : Shape ct0 ct0 0 := ⟨rfl, fun j l hj => ⟨l, hj, rfl⟩, fun l hl z hz => by
        rw [hc0] at hl
        obtain ⟨p, _, rfl⟩ := List.mem_map.1 hl
        have := List.eq_of_mem_replicate hz
        omega⟩
      have HSH0 := hide hsh0
      have hB0c : B0 ≤ Bc := by have h1 := HM.out.low; have h2 := HM.out.sts.lt; have := HBC.out; omega
      have hwr : Bc ≤ wr.heap.size := hBw
      have HT5 : Hid (RTab Bc (.slice oc rcs.length cc) rcs w5) := HT.out.below HB5.out
      have HM5 : Hid (Mach (Lt w.heap.size) B0 K H p gs vp tw rs x w5) := HM0.out.below HB5.out
      have HBB5 : Hid (Below B0 w4 w5) := (HB.out.mono hB0c).trans (HB5.out.mono (by omega))
      have HO6 : Hid (OwnS mvR 2 Bc 80 Non w5 (.slice o5 (movesS x.waiting).length c5) (movesS x.waiting)) := HO5.out.rebase hwr
      obtain ⟨nc, hnc⟩ : ∃ m, m = rcs.length := ⟨_, rfl⟩
      have HNC := hide hnc
      rw [← hnc] at HT5 ⊢
      clear hct0 hc0 hsh0 hnc
      go_loopg [15, 16] limit (fun gm jv lv wx => ∃ (j : Nat) (y : Nwk) (ct : List (List Int)) (rs' rcs' : List Rw) (o6 : Option Addr) (c6 : Nat), j ≤ limit ∧ gm = limit - j ∧ jv = .int .i64 j ∧ lv = .slice o6 (movesS y.waiting).length c6 ∧
        Hid (runX picks (limit - j) j y ct = runX picks limit 0 x ct0) ∧ Hid (Right y ∧ y.procs = x.procs ∧ ∀ t ∈ y.waiting, ∀ z ∈ t, z ≤ 1000 + 16 * j) ∧ Hid (Mach (Lt w.heap.size) B0 K H p gs vp tw rs' y wx) ∧ Hid (rs'.map (·.g) = rs.map (·.g)) ∧ Hid (RTab Bc (.slice oc nc cc) rcs' wx) ∧ Hid (tabL rcs' = ct) ∧ Hid (Shape ct0 ct j) ∧
        Hid (OwnS mvR 2 Bc 80 Non wx (.slice o6 (movesS y.waiting).length c6) (movesS y.waiting)) ∧ Hid (Below B0 w4 wx))
      case atStart => exact ⟨0, x, ct0, rs, rcs, o5, c5, by omega, by omega, rfl, rfl, rfl, ⟨HR.out, rfl, fun t ht z hz => by have := hfew t ht z hz; omega⟩, HM5.out, rfl, HT5.out, HCT0.out, HSH0.out, HO6.out, HBB5.out⟩
      case round =>
        obtain ⟨j, y, ct, rs', rcs', o6, c6, hj, hgm, rfl, rfl, HRX, HRY, HMy, HRG, HTy, HTLy, HSHy, HOy, HBy⟩ := hrel
        have HGM := hide hgm
        clear hgm
        obtain ⟨ml, hml⟩ : ∃ m, m = (movesS y.waiting).length := ⟨_, rfl⟩
        have HML := hide hml
        rw [← hml]
        clear hml
        have hpo : W1.heap.size < B0 := by have h2 := HX23.out.lt; have h3 := HW23.out; omega
        have hres : Box wr W1.heap.size [.slice none 0 0, .slice none 0 0, .slice none 0 0] 26 := HX2w.out.keep (HBy.out.block _ hpo)
        have r0 := hres.cell 0
        have r1 := hres.cell 1
        have r2 := hres.cell 2
        have rf := hres.free
        simp only [List.getElem?_cons_zero, List.getElem?_cons_succ] at r0 r1 r2
        have HRES := hide hres
        clear hres
        by_cases hme : 0 < ml
        · by_cases hjl : j = limit
          · have HNO : Hid (runX picks limit 0 x ct0 = none) := by
              show _ = _
              rw [← HRX.out, hjl, Nat.sub_self]
              unfold runX
              rw [if_neg]
              intro e
              have e2 := List.isEmpty_iff.1 e
              have h9 := HML.out
              rw [e2, List.length_nil] at h9
              omega
            have q1 : (((j : Nat) : Int) == ((limit : Nat) : Int)) = true := by simp [hjl]
            have q0 : (0 : Int) < ml := by omega
            clear hjl
            have hp1 : w.heap.size ≤ W1.heap.size := HZ1.out
            have hbw4 : Below w.heap.size w wr := HB4.out.trans (HBy.out.mono (by omega))
            go_wp2_with fail
            have hfin := ((HRES.out.put 0 (.slice none 0 0)).put 1 (.slice none 0 0)).put 2 (.slice none 0 0)
            simp only [List.set_cons_zero, List.set_cons_succ] at hfin
            refine bodyPost_ret (results_cell_tmp2_row rfl _ _ W1.heap.size 26 _ (0, 0) _ rfl hfin Tryz.underlying26 rfl (by kernel_rfl)) rfl ?_
            rw [← HC0.out, HNO.out]
            exact ⟨rfl, ((hbw4.setCell hp1 _).setCell hp1 _).setCell hp1 _⟩
          · obtain ⟨hRy, hpy, hby⟩ := HRY.out
            have q1 : (((j : Nat) : Int) == ((limit : Nat) : Int)) = false := by simp; omega
            have q0 : (0 : Int) < ml := by omega
            have hbw4 : Below w.heap.size w wr := HB4.out.trans (HBy.out.mono (by have := HZ1.out; omega))
            obtain ⟨A, hA⟩ : ∃ A, A = j % np := ⟨_, rfl⟩
            have hAl : A < np := by rw [hA]; exact Nat.mod_lt _ (by omega)
            have rem1 : ((j : Int)).tmod (np : Int) = (A : Int) := by rw [hA, Int.tmod_eq_emod_of_nonneg (by omega)]; rfl
            obtain ⟨Yi, _, hYg, _, bP, offP, hoP, _, cY⟩ := (HPK.out.below intR_ok hbw4).int_at (i := A) (by rw [← HNP.out]; exact hAl)
            subst hoP
            obtain ⟨Y, rfl⟩ := Int.eq_ofNat_of_zero_le (HNEG.out Yi (List.mem_of_getElem? hYg))
            obtain ⟨J, hJ⟩ : ∃ J, J = Y % ml := ⟨_, rfl⟩
            have hJl : J < ml := by rw [hJ]; exact Nat.mod_lt _ hme
            have rem2 : ((Y : Int)).tmod (ml : Int) = (J : Int) := by rw [hJ, Int.tmod_eq_emod_of_nonneg (by omega)]; rfl
            obtain ⟨oz, cz, hz1, hz2, hz3⟩ := HOy.out.slice mvR_ok
            injection hz1 with hz1 hz4 hz5
            subst hz1 hz5
            rw [← HML.out] at hz2
            obtain ⟨mp, ma, hmg, bl, offm, hom, _, cm0, cm1⟩ := hz3.mv_at (i := J) (by rw [← HML.out]; exact hJl)
            subst hom
            have HPS : Hid (pickS picks (movesS y.waiting) j = (mp, ma)) := by
              show _ = _
              unfold pickS
              rw [← HNP.out, ← HML.out, ← hA, getD_some hYg, Int.toNat_natCast, ← hJ, getD_some hmg]
            obtain ⟨l, z, hl, hz, hz0⟩ := mem_moves (List.mem_of_getElem? hmg)
            have hmk0 := moveX_right hRy hl hz hz0 hby (by omega)
            have HMK0 := hide hmk0
            obtain ⟨W6, e6⟩ : ∃ W6, wr.alloc (.cells #[.int .i64 mp, .int .i64 ma] 80) = W6 := ⟨_, rfl⟩
            have bx6 : Box W6 wr.heap.size [.int .i64 mp, .int .i64 ma] 80 := by rw [← e6]; exact Box.new wr [.int .i64 mp, .int .i64 ma] 80
            have bb6 := bnew (Below.refl wr.heap.size wr) (.cells #[.int .i64 mp, .int .i64 ma] 80)
            rw [e6] at bb6
            have HMK := hide (nmake_any (HMy.out.below bb6) hRy hl hz hz0 (fun t ht k hk => by have := hby t ht k hk; omega))
            have HBX6 := hide bx6
            have HBB6 := hide bb6
            have k60 := bx6.cell 0
            have k61 := bx6.cell 1
            simp only [List.getElem?_cons_zero, List.getElem?_cons_succ] at k60 k61
            have HLZ := hide (And.intro hl (And.intro hz hz0))
            clear hYg hA hJ hz3 hz4 hmg hmk0 bx6 bb6 hl hz hRy hpy hby
            go_wp2_with (go_at_call 197; refine HMK.out.mono ?_; rintro e w7 ⟨rfl, rs2, hM7, hg7, hk7⟩; have HM7 := hide hM7; have HG7 := hide hg7; have HK7 := hide hk7; clear hM7 hg7 hk7)
            obtain ⟨hl, hz, hz0⟩ := HLZ.out
            obtain ⟨hRn, hbn, hpn⟩ := HMK0.out
            have hB4 : Bc = w4.heap.size := HBC.out
            have hpB : p < Bc := by rw [hB4]; exact HM.out.main.lt
            have hgs : gs < Bc := by have := HM.out.low; omega
            have htB : ∀ g, tw.ownBlock = some g → g < Bc := fun g hg => by rw [hB4]; exact (HM.out.tab.tab.block g hg).2
            have hrs0 : ∀ r ∈ rs, r.g < Bc := fun r hr => by rw [hB4]; exact (HM.out.tab.row r hr).1.lt
            have hgB : ∀ {rz : List Rw}, rz.map (·.g) = rs.map (·.g) → ∀ r ∈ rz, r.g < Bc := fun {rz} he r hr => by
              have h1 : r.g ∈ rz.map (·.g) := List.mem_map.2 ⟨r, hr, rfl⟩
              rw [he] at h1
              obtain ⟨r0, h2, h3⟩ := List.mem_map.1 h1
              rw [← h3]
              exact hrs0 r0 h2
            have hw6 : wr.heap.size ≤ W6.heap.size := HBB6.out.size
            have hBcr : Bc ≤ wr.heap.size := by rw [hB4]; exact HBy.out.size
            have fix7 : ∀ k, k < W6.heap.size → Bc ≤ k → w7.heap[k]? = W6.heap[k]? := fun k hk hk2 => HK7.out.fix k hk (by omega) fun r hr => by have := hgB HRG.out r hr; omega
            have hT7 : RTab Bc (.slice oc nc cc) rcs' w7 := (HTy.out.below HBB6.out).above fix7
            have hX7 : Box w7 wr.heap.size [.int .i64 mp, .int .i64 ma] 80 := HBX6.out.keep (fix7 _ HBX6.out.lt hBcr)
            have hO7 : Hid (Below B0 w4 w7) := HBy.out.trans ((HBB6.out.mono (by omega)).trans HK7.out.low)
            -- the count
            have hmpn : mp < y.waiting.length := (List.getElem?_eq_some_iff.1 hl).1
            have hmpl : mp < ct.length := by
              rw [HSHy.out.len, HC0.out, List.length_map, ← HRY.out.2.1, ← HRY.out.1.nwt]
              exact hmpn
            obtain ⟨cl, hcl⟩ : ∃ cl, ct[mp]? = some cl := ⟨_, List.getElem?_eq_getElem hmpl⟩
            have hcll : cl.length = l.length := by
              obtain ⟨l0, h1, h2⟩ := HSHy.out.row mp cl hcl
              rw [HC0.out, List.getElem?_map, Option.map_eq_some_iff] at h1
              obtain ⟨pr, h3, h4⟩ := h1
              have h5 := HRY.out.1.wl mp l pr hl (by rw [HRY.out.2.1]; exact h3)
              rw [h2, ← h4, List.length_replicate]
              omega
            have hmal : ma < cl.length := by rw [hcll]; exact (List.getElem?_eq_some_iff.1 hz).1
            obtain ⟨zc, hzc⟩ : ∃ zc, cl[ma]? = some zc := ⟨_, List.getElem?_eq_getElem hmal⟩
            have hzcb := HSHy.out.num cl (List.mem_of_getElem? hcl) zc (List.mem_of_getElem? hzc)
            obtain ⟨r, hr, hrl⟩ : ∃ r, rcs'[mp]? = some r ∧ r.l = cl := by
              have h1 := hcl
              rw [← HTLy.out] at h1
              unfold tabL at h1
              rw [List.getElem?_map, Option.map_eq_some_iff] at h1
              exact h1
            obtain ⟨gc, capc, htc, hcc, hBg, c0, hrow7, hBr, hrc, hrne⟩ := hT7.get hr
            injection htc with htc htn htcap
            subst htc htcap
            rw [hrl] at c0 hrow7 hrc
            have c1 := hrow7.cell (i := ma) (x := zc) hzc
            have f1 := hrow7.free ma
            have k70 := hX7.cell 0
            have k71 := hX7.cell 1
            simp only [List.getElem?_cons_zero, List.getElem?_cons_succ] at k70 k71
            have hmpc : mp < nc := by
              have h1 := (List.getElem?_eq_some_iff.1 hr).1
              omega
            have HT7 := hide hT7
            have HCT := hide (And.intro hcl (And.intro hzc (And.intro hr hrl)))
            have HROW7 := hide hrow7
            obtain ⟨cn, hcn⟩ : ∃ cn, cn = cl.length := ⟨_, rfl⟩
            rw [← hcn] at hmal
            unfold slV at c0
            rw [← hcn] at c0 hrc
            have l0 := World.block_lt_of_cell? _ _ c0
            have l1 := World.block_lt_of_cell? _ _ c1
            have l2 := World.block_lt_of_cell? _ _ k70
            simp only at l0 l1 l2
            have HCN := hide hcn
            have HCLL := hide hcll
            have HMAL := hide hmal
            have HMMM := hide (And.intro hRn (And.intro hbn hpn))
            have HGS := hide (And.intro hpB (And.intro htB (And.intro (@hgB) (And.intro hBr hBcr))))
            have hcn8 : cn ≤ 8 := by
              rw [hcn, hcll]
              have h1 := (HL8.out y HRY.out.1 HRY.out.2.1).2 l (List.mem_of_getElem? hl)
              exact h1
            clear hl hz hz0 hRn hbn hpn hgB hrs0 htB hT7 hX7 fix7 hcl hcll hzc hr hrl hrow7 hcn hmpl hmpn htn hcc hBg hBr hrne hB4 hpB hgs hw6 hBcr
            go_wp2_with fail
            go_region
            obtain ⟨W8, e8⟩ : ∃ W8, (w7.setCell ⟨r.g, ma, none⟩ (.int .i64 (zc + 1))).drew = W8 := ⟨_, rfl⟩
            obtain ⟨hcl, hzc, hr, hrl⟩ := HCT.out
            obtain ⟨hpB, htB, hgB, hBr, hBcr⟩ := HGS.out
            obtain ⟨hRn, hbn, hpn⟩ := HMMM.out
            have hrg2 : rs2.map (·.g) = rs.map (·.g) := HG7.out.trans HRG.out
            have HM8 : Hid (Mach (Lt w.heap.size) B0 K H p gs vp tw rs2 (moveX y mp ma) W8) := by
              show Mach _ _ _ _ _ _ _ _ _ _ _
              refine HM7.out.keepC hpB htB (hgB hrg2) fun k hk => ?_
              rw [← e8]
              exact Below.heap_setCell _ _ _ k (by simp only; omega)
            have HT8 : Hid (RTab Bc (.slice (some ⟨gc, 0, none⟩) nc cc) (rwSet rcs' mp (cl.set ma (zc + 1))) W8) := by
              show RTab _ _ _ _
              rw [← e8]
              have := HT7.out.put hr (k := ma) (by rw [hrl, ← HCN.out]; exact HMAL.out) (zc + 1)
              rw [hrl] at this
              exact this.draw
            have hb78 : Below Bc w7 W8 := by rw [← e8]; exact ((Below.refl _ _).setCell hBr _).drew
            have h78 : w7.heap.size = W8.heap.size := by rw [← e8]; simp
            have HO8 : Hid (Below B0 w4 W8) := hO7.out.trans (hb78.mono hB0c)
            have HMV2 := hide (nmoves_any HM8.out (HL8.out _ hRn (hpn.trans HRY.out.2.1)).1 (HL8.out _ hRn (hpn.trans HRY.out.2.1)).2)
            have HS78 : Hid (Bc ≤ W8.heap.size) := by
              show _ ≤ _
              have h1 := HK7.out.size
              have h2 := HBB6.out.size
              omega
            rw [e8]
            clear e8 c0 c1 f1 k70 k71 l0 l1 l2 hcl hzc hr hrl hpB htB hgB hBr hBcr hRn hbn hpn hrg2 hb78 h78
            go_wp2_with (go_at_call 198; refine HMV2.out.mono ?_; rintro e w9 ⟨v9, rfl, h9, hb9⟩; obtain ⟨o9, c9, hv9, _, _⟩ := h9.slice mvR_ok; subst hv9; have HO9 := hide h9; have HB9 := hide hb9; clear h9 hb9)
            go_roundg (limit - (j + 1))
            case measure => have := HGM.out; omega
            case rel =>
              obtain ⟨hcl, hzc, hr, hrl⟩ := HCT.out
              obtain ⟨hRn, hbn, hpn⟩ := HMMM.out
              have hne : ¬ (movesS y.waiting).isEmpty = true := fun e => by
                have e2 := List.isEmpty_iff.1 e
                have h9 := HML.out
                rw [e2, List.length_nil] at h9
                omega
              refine ⟨j + 1, moveX y mp ma, bump ct mp ma 1, rs2, _, o9, c9, by omega, rfl, by go_num, rfl, ?_, ⟨hRn, hpn.trans HRY.out.2.1, fun t ht k hk => by have := hbn t ht k hk; push_cast; omega⟩, HM8.out.below HB9.out, HG7.out.trans HRG.out, HT8.out.below HB9.out, ?_, ?_, HO9.out.rebase HS78.out, HO8.out.trans (HB9.out.mono (by have := HS78.out; omega))⟩
              · show _ = _
                rw [← HRX.out, show limit - j = (limit - (j + 1)) + 1 from by omega, runX, if_neg hne, HPS.out]
              · show _ = _
                rw [tabL_set, HTLy.out, bump_eq hcl hzc]
              · show Shape _ _ _
                rw [bump_eq hcl hzc]
                have hz9 := HSHy.out.num cl (List.mem_of_getElem? hcl) zc (List.mem_of_getElem? hzc)
                exact HSHy.out.put (by push_cast; omega) hcl (by rw [← HCN.out]; exact HMAL.out) (by push_cast; omega)
        · have hme0 : movesS y.waiting = [] := List.length_eq_zero_iff.1 (by have := HML.out; omega)
          have HYE : Hid (runX picks limit 0 x ct0 = some (y, ct)) := by
            show _ = _
            rw [← HRX.out]
            cases (limit - j) <;> (unfold runX; rw [if_pos (by simp [hme0])])
          have q0 : ¬ (0 : Int) < ml := by omega
          have HNN := hide (nnet_any HMy.out)
          obtain ⟨oV, cV, hvp, _, _⟩ := HMy.out.procs.slice prcR_ok
          obtain ⟨oT, cT, htw, _⟩ := HMy.out.tab.len
          subst hvp htw
          have hp1 : w.heap.size ≤ W1.heap.size := HZ1.out
          have hbw4 : Below w.heap.size w wr := HB4.out.trans (HBy.out.mono (by omega))
          obtain ⟨nv, hnv⟩ : ∃ m, m = y.procs.length := ⟨_, rfl⟩
          obtain ⟨nt, hnt⟩ : ∃ m, m = rs'.length := ⟨_, rfl⟩
          have HNV := hide hnv
          have HNT := hide hnt
          rw [← hnv, ← hnt] at HNN
          clear hme hme0 hnv hnt
          go_wp2_with (go_at_call 199; refine HNN.out.mono ?_; rintro e w7 ⟨rfl, hb7⟩; have HB7 := hide hb7; have hr7 := HRES.out.below hb7; have HRES7 := hide hr7; have t0 := hr7.cell 0; have t1 := hr7.cell 1; have t2 := hr7.cell 2; have tf := hr7.free; simp only [List.getElem?_cons_zero, List.getElem?_cons_succ] at t0 t1 t2; clear hb7 hr7 r0 r1 r2 rf)
          have hO : ¬ Lt w.heap.size W1.heap.size := by unfold Lt; omega
          have hfin := ((HRES7.out.put 0 (.slice oV nv cV)).put 1 (.slice (some ⟨gs, 0, none⟩) nv nv)).put 2 (.slice oT nt cT)
          simp only [List.set_cons_zero, List.set_cons_succ] at hfin
          have hM8 := (((HMy.out.below HB7.out).away (q := ⟨W1.heap.size, 0, none⟩) hpo hO (.slice oV nv cV)).away (q := ⟨W1.heap.size, 1, none⟩) hpo hO (.slice (some ⟨gs, 0, none⟩) nv nv)).away (q := ⟨W1.heap.size, 2, none⟩) hpo hO (.slice oT nt cT)
          have hpc : W1.heap.size < Bc := by omega
          have hT8 := (((HTy.out.below HB7.out).away (q := ⟨W1.heap.size, 0, none⟩) hpc (.slice oV nv cV)).away (q := ⟨W1.heap.size, 1, none⟩) hpc (.slice (some ⟨gs, 0, none⟩) nv nv)).away (q := ⟨W1.heap.size, 2, none⟩) hpc (.slice oT nt cT)
          have hb8 : Below w.heap.size w w7 := hbw4.trans (HB7.out.mono hbw4.size)
          refine bodyPost_ret (results_cell_tmp2_row rfl _ _ W1.heap.size 26 _ (0, 0) _ rfl hfin Tryz.underlying26 rfl (by kernel_rfl)) rfl ?_
          rw [← HC0.out, HYE.out]
          have hbd := tab_bound HC0.out HSHy.out HR.out (by omega)
          obtain ⟨oa, cap, e1, e2, e3⟩ := hT8.slices fun r hr => hbd r.l (by rw [← HTLy.out]; exact List.mem_map.2 ⟨r, hr, rfl⟩)
          injection e1 with e1 e4 e5
          subst e1 e5
          rw [HTLy.out] at e2 e3 e4
          refine ⟨_, oc, cc, ?_, hM8.netAt HRY.out.1, e2, e3.all (slcR_ok intR_ok (by decide)) (by decide), ((hb8.setCell hp1 _).setCell hp1 _).setCell hp1 _⟩
          rw [HNV.out, HNT.out, ← e4]
          rfl

theorem nrun_any (x : Nwk) (op : Option Addr) (cp : Nat) (os : Option Addr) (cs : Nat) (ow : Option Addr) (cw : Nat) (picks : List Int) (oP : Option Addr) (cP : Nat) (limit : Nat) (F : Foot) (w : World)
    (hp : SliceR prcR 3 F w op x.procs) (hs : SliceR intR 1 F w os x.state) (ht : SliceR (slcR intR 1) 1 F w ow x.waiting) (hz : netErr x = 0) (hpk : SliceR intR 1 F w oP picks) (hcP : picks.length ≤ cP) (hpz : picksErr picks = 0) (hl : limit ≤ 4000)
    (hfew : ∀ t ∈ x.waiting, ∀ k ∈ t, k ≤ 40) :
    Calls Tryz.prog 13 #[.agg #[.slice op x.procs.length cp, .slice os x.state.length cs, .slice ow x.waiting.length cw], .slice oP picks.length cP, .int .i64 limit] w fun e w' => RunNet All w e w' (runX picks limit 0 x (x.procs.map fun p => List.replicate p.letters.toNat (0 : Int))) :=
  nrun_big x op cp os cs ow cw picks oP cP limit F w hp hs ht hz hpk hcP hpz hl fun t ht k hk => by
    have := hfew t ht k hk
    omega

end Go.Proofs.YtnigfddanoaonaaGreat

set_option linter.unusedVariables false
set_option linter.unusedSimpArgs false
set_option linter.unnecessarySimpa false
namespace Go.Proofs.YtnigfddanoaonaaGreat
open Go.RowKit

/-- A list of the call's own is put behind: 'out = append(out, row)'. -/
theorem Lists.push {base s0 : Nat} {e lt : TypeId} {w w1 w' : World} {ov ov' v : Value} {vs : List Value} {xss : List (List Int)} {xs : List Int} (h : Lists base e lt w ov vs xss) (hs : w.heap.size = s0) (hb : base ≤ s0) (hb1 : Below s0 w w1) (hv : OwnN s0 e w1 v xs) {o : Obj}
    (hr : w'.ownsRow base lt 1 ov' (vs.length + 1) (vs ++ [v])) (hg : (w1.alloc o).grownBy w' ov.ownBlock)
    (hat : ov'.ownBlock = ov.ownBlock ∨ ov'.ownBlock = some (w1.alloc o).heap.size) : Lists base e lt w' ov' (vs ++ [v]) (xss ++ [xs]) := by
  have hsz := hb1.size
  have key : ∀ (i : Nat) (u : Value), (vs ++ [v])[i]? = some u → (i < vs.length ∧ vs[i]? = some u) ∨ (i = vs.length ∧ u = v) := fun i u hi => by
    rcases Nat.lt_or_ge i vs.length with hj | hj
    · rw [List.getElem?_append_left hj] at hi; exact .inl ⟨hj, hi⟩
    · rw [List.getElem?_append_right hj] at hi
      have h1 := (List.getElem?_eq_some_iff.1 hi).1
      simp at h1
      have : i = vs.length := by omega
      subst this
      simp at hi
      exact .inr ⟨rfl, hi.symm⟩
  have hold : ∀ (i : Nat) (u : Value) (k : Nat), vs[i]? = some u → u.ownBlock = some k → base ≤ k ∧ k < s0 := fun i u k hi hk => by have := h.ms.block hi k hk; omega
  have hovl : ∀ k, ov.ownBlock = some k → k < s0 := fun k hk => by have := (h.row.lt k hk).2; omega
  refine ⟨by rw [List.length_append]; exact hr, ⟨by simp [h.len], fun i u ys hu hy => ?_, fun i j u t k hu ht hku hkt => ?_⟩, fun i u k hi hk he => ?_⟩
  · rcases key i u hu with ⟨a1, a2⟩ | ⟨a1, a2⟩
    · rw [List.getElem?_append_left (by rw [← h.len]; exact a1)] at hy
      refine (h.ms.own i u ys a2 hy).keep fun g hgu => ?_
      have hgl := hold i u g a2 hgu
      rw [hg.block g (by simp; omega) (fun he => h.off i u g a2 hgu he.symm), Below.heap_alloc w1 o g (by omega)]
      exact hb1.block g hgl.2
    · subst a1 a2
      rw [List.getElem?_append_right (by rw [← h.len]; exact Nat.le_refl _), h.len, Nat.sub_self] at hy
      simp at hy
      subst hy
      refine (hv.rebase hb).keep fun g hgu => ?_
      have hgl := hv.block g hgu
      rw [hg.block g (by simp; omega) (fun he => by have := hovl g he.symm; omega), Below.heap_alloc w1 o g (by omega)]
  · rcases key i u hu with ⟨a1, a2⟩ | ⟨a1, a2⟩ <;> rcases key j t ht with ⟨b1, b2⟩ | ⟨b1, b2⟩
    · exact h.ms.apart i j u t k a2 b2 hku hkt
    · subst b2
      have := hold i u k a2 hku
      have := hv.block k hkt
      omega
    · subst a2
      have := hold j t k b2 hkt
      have := hv.block k hku
      omega
    · rw [a1, b1]
  · rcases key i u hi with ⟨a1, a2⟩ | ⟨a1, a2⟩
    · rcases hat with ha | ha
      · exact h.off i u k a2 hk (ha ▸ he)
      · rw [ha] at he
        injection he with he
        have := hold i u k a2 hk
        simp at he
        omega
    · subst a2
      have hkl := hv.block k hk
      rcases hat with ha | ha
      · rw [ha] at he
        have := hovl k he
        omega
      · rw [ha] at he
        injection he with he
        simp at he
        omega

/-- To which vertex each half-edge in the lists leads. -/
def tgL (ar : List (List Int)) (E : List (Int × Int)) : List (List Int) := ar.map fun l => l.map fun x => hv E (oppH x.toNat)

def TgPost (w : World) (t : List (List Int)) (e : Ending) (w' : World) : Prop := ∃ ot c, e = .returned (.slice ot t.length c) ∧ t.length ≤ c ∧ SliceR (slcR intR 1) 1 All w' ot t ∧ Below w.heap.size w w'

end Go.Proofs.YtnigfddanoaonaaGreat

set_option linter.unusedVariables false
set_option linter.unusedSimpArgs false
set_option linter.unnecessarySimpa false
namespace Go.Proofs.YtnigfddanoaonaaGreat
open Go.RowKit

/-- The results of Step. -/
def stepResR (n : Int) (es : List Edg) (f : List Nat) (ar : List (List Int)) (q : Int) (rot : List Int) (v : Int) : List Int × Int × Int :=
  if stE n es f ar q rot v = 0 then (if v = q then ([], 0, 15) else (stpR ar rot v.toNat, ((stpV ar (endsL es) rot v.toNat : Nat) : Int), 0)) else ([], 0, stE n es f ar q rot v)
def StepRes (w : World) (x : List Int × Int × Int) (e : Ending) (w' : World) : Prop := ∃ rv, e = .returned (.tuple #[rv, .int .i64 x.2.1, .int .i64 x.2.2]) ∧ OwnS intR 1 w.heap.size 3 Non w' rv x.1 ∧ Below w.heap.size w w'

theorem Brd.own {B : Nat} {w : World} {p rg cap : Nat} {tv : Value} {q : Int} {av : Value} {tl rot : List Int} {rest : List Value} (h : Brd B w p rg cap tv q av tl rot rest) (hx : ∀ x ∈ rot, I64 x) :
    OwnS intR 1 B 3 Non w (.slice (some ⟨rg, 0, none⟩) rot.length cap) rot := h.row.ownInts hx h.gB h.len h.max
theorem RtOk.i64 {n : Int} {es : List Edg} {ar : List (List Int)} {q : Nat} {rot : List Int} (h : RtOk n es ar q rot) : ∀ x ∈ rot, I64 x := by
  intro x hx
  obtain ⟨i, hi, rfl⟩ := List.getElem_of_mem hx
  have hia : i < ar.length := by rw [← h.nrot]; exact hi
  have h1 := h.rots i _ _ (List.getElem?_eq_getElem hi) (List.getElem?_eq_getElem hia)
  have h2 := (h.rows i _ (List.getElem?_eq_getElem hia)).1
  have h3 := h.cap
  unfold I64
  by_cases e : i = q
  · have := h1.2.1 e; omega
  · have := h1.2.2 e; omega

end Go.Proofs.YtnigfddanoaonaaGreat

set_option linter.unusedVariables false
set_option linter.unusedSimpArgs false
set_option linter.unnecessarySimpa false
namespace Go.Proofs.YtnigfddanoaonaaGreat
open Go.RowKit

section
variable (n : Int) (es : List Edg) (oe : Option Addr) (c : Nat) (ar : List (List Int)) (oa : Option Addr) (ca : Nat) (F G : Foot) (w : World) (hs : SliceR edgR 3 F w oe es) (hc : es.length ≤ c) (hc2 : es.length ≤ 1000)
    (ha : SliceR (slcR intR 1) 1 G w oa ar) (hac : ar.length ≤ ca) (hac2 : ar.length ≤ 9223372036854775807) (f : List Nat) (hU : Hid (gErr n es = 0 → Uf f (eL es)))
    (q : Int) (rot : List Int) (ot : Option Addr) (ct : Nat) (H : Foot) (hr : SliceR intR 1 H w ot rot) (hrc : rot.length ≤ ct) (hrl : rot.length ≤ 9223372036854775807)
include hs hc hc2 ha hac hac2 hU hr hrc hrl

end

end Go.Proofs.YtnigfddanoaonaaGreat

set_option linter.unusedVariables false
set_option linter.unusedSimpArgs false
set_option linter.unnecessarySimpa false
namespace Go.Proofs.YtnigfddanoaonaaGreat
open Go.RowKit

def smB (n : Int) (es : List Edg) (N M : Int) : Bool := if es.length ≤ 40 then (if gErr n es = 0 then decide (n ≤ N ∧ ((endsL es).length : Int) ≤ M) else true) else false

set_option maxRecDepth 100000 in
set_option maxHeartbeats 2000000 in
theorem small_any (n : Int) (es : List Edg) (oe : Option Addr) (c : Nat) (F : Foot) (w : World) (hs : SliceR edgR 3 F w oe es) (hc : es.length ≤ c) (hc2 : es.length ≤ 9223372036854775807) (N M : Int) :
    Calls Tryz.prog 100 #[.agg #[.int .i64 n, .slice oe es.length c], .int .i64 N, .int .i64 M] w fun e w' => e = .returned (.bool (smB n es N M)) ∧ Below w.heap.size w w' := by
  have hb0 := box_refl w (.cells #[.int .i64 n, .slice oe es.length c] 43)
  by_cases h40 : es.length ≤ 40
  · have q1 : decide ((40 : Int) < (es.length : Int)) = false := by simp; omega
    have hc3 : es.length ≤ 1000 := by omega
    have HS : Hid (smB n es N M = if gErr n es = 0 then decide (n ≤ N ∧ ((endsL es).length : Int) ≤ M) else true) := if_pos h40
    have HK := hide (rgcheck_any n es oe c F _ (hs.below edgR_ok (below_box hb0)) hc hc2)
    clear h40
    go_enter Tryz.func100, Tryz.ntmps100
    go_wp2_with fail
    refine HK.out.mono ?_
    rintro e w2 ⟨rfl, hb2⟩
    have hx2 := hb2.mono (B' := w.heap.size + 1) (by simp)
    have d0 := box_cell hx2 0
    have d1 := box_cell hx2 1
    simp at d0 d1
    have HX := hide hx2
    clear hb0 hb2 hx2
    by_cases hE : gErr n es = 0
    · have HS2 : Hid (smB n es N M = decide (n ≤ N ∧ ((endsL es).length : Int) ≤ M)) := by show _ = _; rw [HS.out, if_pos hE]
      have HM : Hid (∀ x ∈ es, x.m ≤ 50) := fun x hx => ((gErr_zero hE).2.1 x hx).2.2.2.1
      rw [hE]
      clear hE
      by_cases hN : n ≤ N
      · have q2 : decide (n ≤ N) = true := by simp [hN]
        by_cases hM : ((endsL es).length : Int) ≤ M
        · have q3 : decide (((endsL es).length : Int) ≤ M) = true := by simp [hM]
          have HS3 : Hid (smB n es N M = true) := by show _ = _; rw [HS2.out]; exact decide_eq_true ⟨hN, hM⟩
          clear hN hM
          go_wp2_with fail
          refine (rsize_any n es oe c F w2 (hs.below edgR_ok (below_box HX.out)) hc hc3 HM).mono ?_
          rintro e w3 ⟨rfl, hb3⟩
          go_wp2_with fail
          go_ret
          exact ⟨ret_bool HS3.out.symm, (below_box HX.out).trans (hb3.mono (below_box HX.out).size)⟩
        · have q3 : decide (((endsL es).length : Int) ≤ M) = false := by simp; omega
          have HS3 : Hid (smB n es N M = false) := by show _ = _; rw [HS2.out]; exact decide_eq_false (fun h => hM h.2)
          clear hN hM
          go_wp2_with fail
          refine (rsize_any n es oe c F w2 (hs.below edgR_ok (below_box HX.out)) hc hc3 HM).mono ?_
          rintro e w3 ⟨rfl, hb3⟩
          go_wp2_with fail
          go_ret
          exact ⟨ret_bool HS3.out.symm, (below_box HX.out).trans (hb3.mono (below_box HX.out).size)⟩
      · have q2 : decide (n ≤ N) = false := by simp; omega
        have HS3 : Hid (smB n es N M = false) := by show _ = _; rw [HS2.out]; exact decide_eq_false (fun h => hN h.1)
        clear hN
        go_wp2_with fail
        go_ret
        exact ⟨ret_bool HS3.out.symm, below_box HX.out⟩
    · have HS2 : Hid (smB n es N M = true) := by show _ = _; rw [HS.out, if_neg hE]
      have q2 : (gErr n es != 0) = true := by simpa using hE
      clear hE
      go_wp2_with fail
      go_ret
      exact ⟨ret_bool HS2.out.symm, below_box HX.out⟩
  · have q1 : decide ((40 : Int) < (es.length : Int)) = true := by simp; omega
    have HS : Hid (smB n es N M = false) := if_neg h40
    clear h40
    go_enter Tryz.func100, Tryz.ntmps100
    go_wp2_with fail
    go_ret
    exact ⟨ret_bool HS.out.symm, below_box hb0⟩

theorem rfew_any (n : Int) (es : List Edg) (oe : Option Addr) (c : Nat) (F : Foot) (w : World) (hs : SliceR edgR 3 F w oe es) (hc : es.length ≤ c) (hc2 : es.length ≤ 9223372036854775807) :
    Calls Tryz.prog 67 #[.agg #[.int .i64 n, .slice oe es.length c]] w fun e w' => e = .returned (.bool (smB n es 6 9)) ∧ Below w.heap.size w w' := by
  have hb0 := box_refl w (.cells #[.int .i64 n, .slice oe es.length c] 43)
  have HK := hide (small_any n es oe c F _ (hs.below edgR_ok (below_box hb0)) hc hc2 6 9)
  go_enter Tryz.func67, Tryz.ntmps67
  go_wp2_with fail
  refine HK.out.mono ?_
  rintro e w2 ⟨rfl, hb2⟩
  go_wp2_with fail
  go_ret
  exact ⟨rfl, below_box (hb2.mono (B' := w.heap.size + 1) (by simp))⟩

/-- No list is longer than 40. -/
def longB : List (List Int) → Bool
  | [] => true
  | l :: r => if l.length ≤ 40 then longB r else false
def few44 (n : Int) (es : List Edg) (ar : List (List Int)) : Bool := if smB n es 6 9 = true then (if ar.length ≤ 20 then longB ar else false) else false
def few45 (n : Int) (es : List Edg) (ar : List (List Int)) (rot : List Int) : Bool := if few44 n es ar = true then decide (rot.length ≤ 30) else false

set_option maxRecDepth 100000 in
set_option maxHeartbeats 2000000 in
theorem few44_any (n : Int) (es : List Edg) (oe : Option Addr) (c : Nat) (ar : List (List Int)) (oa : Option Addr) (ca : Nat) (F G : Foot) (w : World) (hs : SliceR edgR 3 F w oe es) (hc : es.length ≤ c) (hc2 : es.length ≤ 9223372036854775807)
    (ha : SliceR (slcR intR 1) 1 G w oa ar) (hac : ar.length ≤ ca) (hac2 : ar.length ≤ 9223372036854775807) :
    Calls Tryz.prog 22 #[.agg #[.int .i64 n, .slice oe es.length c, .slice oa ar.length ca]] w fun e w' => e = .returned (.bool (few44 n es ar)) ∧ Below w.heap.size w w' := by
  have hb0 := box_refl w (.cells #[.int .i64 n, .slice oe es.length c, .slice oa ar.length ca] 52)
  have HK := hide (rfew_any n es oe c F _ (hs.below edgR_ok (below_box hb0)) hc hc2)
  go_enter Tryz.func22, Tryz.ntmps22
  go_wp2_with fail
  refine HK.out.mono ?_
  rintro e w2 ⟨rfl, hb2⟩
  have hx2 := hb2.mono (B' := w.heap.size + 1) (by simp)
  have d2 := box_cell hx2 2
  simp at d2
  have HX := hide hx2
  clear hb0 hb2 hx2
  by_cases hS : smB n es 6 9 = true
  · have HF : Hid (few44 n es ar = if ar.length ≤ 20 then longB ar else false) := if_pos hS
    rw [hS]
    clear hS
    by_cases h20 : ar.length ≤ 20
    · have HF2 : Hid (few44 n es ar = longB ar) := by show _ = _; rw [HF.out, if_pos h20]
      have q1 : decide ((20 : Int) < (ar.length : Int)) = false := by simp; omega
      go_wp2_with fail
      go_loopw [3] (fun iv wr => ∃ k : Nat, k ≤ ar.length ∧ iv = .int .i64 k ∧ Hid (few44 n es ar = longB (ar.drop k)) ∧ wr = w2) (fun iv _ => ar.length - (intOf iv).toNat)
      case atStart => exact ⟨0, by omega, rfl, HF2, rfl⟩
      case round =>
        obtain ⟨k, hk, rfl, HS, rfl⟩ := hrel
        by_cases hlt : k < ar.length
        · obtain ⟨l, hd, _, b, off, ol, cl, hoa, _, c0, hll, _, _⟩ := (ha.below (slcR_ok intR_ok (by decide)) (below_box HX.out)).slc_at hlt
          subst hoa
          have HS2 : Hid (few44 n es ar = if l.length ≤ 40 then longB (ar.drop (k + 1)) else false) := by show _ = _; rw [HS.out, hd]; rfl
          clear hd
          by_cases hl : l.length ≤ 40
          · have q2 : decide ((40 : Int) < (l.length : Int)) = false := by simp; omega
            have HS3 : Hid (few44 n es ar = longB (ar.drop (k + 1))) := by show _ = _; rw [HS2.out, if_pos hl]
            clear hl
            go_wp2_with fail
            go_roundw
            case rel => exact ⟨k + 1, by omega, by go_num, HS3, by first | rfl | trivial⟩
            case measure => simp [intOf]; omega
          · have q2 : decide ((40 : Int) < (l.length : Int)) = true := by simp; omega
            have HS3 : Hid (few44 n es ar = false) := by show _ = _; rw [HS2.out, if_neg hl]
            clear hl
            go_wp2_with fail
            go_ret
            exact ⟨ret_bool HS3.out.symm, below_box HX.out⟩
        · have hke : k = ar.length := by omega
          have HS3 : Hid (few44 n es ar = true) := by show _ = _; rw [HS.out, hke, List.drop_length]; rfl
          clear hke
          go_wp2_with fail
          go_ret
          exact ⟨ret_bool HS3.out.symm, below_box HX.out⟩
    · have HF2 : Hid (few44 n es ar = false) := by show _ = _; rw [HF.out, if_neg h20]
      have q1 : decide ((20 : Int) < (ar.length : Int)) = true := by simp; omega
      clear h20
      go_wp2_with fail
      go_ret
      exact ⟨ret_bool HF2.out.symm, below_box HX.out⟩
  · have HF : Hid (few44 n es ar = false) := if_neg hS
    have q1 : smB n es 6 9 = false := by simpa using hS
    rw [q1]
    clear hS q1
    go_wp2_with fail
    go_ret
    exact ⟨ret_bool HF.out.symm, below_box HX.out⟩

set_option maxHeartbeats 1000000 in
theorem few45_any (n : Int) (es : List Edg) (oe : Option Addr) (c : Nat) (ar : List (List Int)) (oa : Option Addr) (ca : Nat) (F G : Foot) (w : World) (hs : SliceR edgR 3 F w oe es) (hc : es.length ≤ c) (hc2 : es.length ≤ 9223372036854775807)
    (ha : SliceR (slcR intR 1) 1 G w oa ar) (hac : ar.length ≤ ca) (hac2 : ar.length ≤ 9223372036854775807) (rot : List Int) (ot : Option Addr) (ct : Nat) :
    Calls Tryz.prog 27 #[.agg #[.int .i64 n, .slice oe es.length c, .slice oa ar.length ca], .slice ot rot.length ct] w fun e w' => e = .returned (.bool (few45 n es ar rot)) ∧ Below w.heap.size w w' := by
  have hb0 := box_refl w (.cells #[.int .i64 n, .slice oe es.length c, .slice oa ar.length ca] 52)
  have HK := hide (few44_any n es oe c ar oa ca F G _ (hs.below edgR_ok (below_box hb0)) hc hc2 (ha.below (slcR_ok intR_ok (by decide)) (below_box hb0)) hac hac2)
  by_cases hF : few44 n es ar = true
  · have HF : Hid (few45 n es ar rot = decide (rot.length ≤ 30)) := if_pos hF
    rw [hF] at HK
    clear hF
    by_cases h30 : rot.length ≤ 30
    · have q1 : decide ((rot.length : Int) ≤ 30) = true := by simp; omega
      have HF2 : Hid (few45 n es ar rot = true) := by show _ = _; rw [HF.out]; exact decide_eq_true h30
      clear h30
      go_enter Tryz.func27, Tryz.ntmps27
      go_wp2_with fail
      refine HK.out.mono ?_
      rintro e w2 ⟨rfl, hb2⟩
      go_wp2_with fail
      go_ret
      exact ⟨ret_bool HF2.out.symm, below_box (hb2.mono (B' := w.heap.size + 1) (by simp))⟩
    · have q1 : decide ((rot.length : Int) ≤ 30) = false := by simp; omega
      have HF2 : Hid (few45 n es ar rot = false) := by show _ = _; rw [HF.out]; exact decide_eq_false h30
      clear h30
      go_enter Tryz.func27, Tryz.ntmps27
      go_wp2_with fail
      refine HK.out.mono ?_
      rintro e w2 ⟨rfl, hb2⟩
      go_wp2_with fail
      go_ret
      exact ⟨ret_bool HF2.out.symm, below_box (hb2.mono (B' := w.heap.size + 1) (by simp))⟩
  · have HF : Hid (few45 n es ar rot = false) := if_neg hF
    have q1 : few44 n es ar = false := by simpa using hF
    rw [q1] at HK
    clear hF q1
    go_enter Tryz.func27, Tryz.ntmps27
    go_wp2_with fail
    refine HK.out.mono ?_
    rintro e w2 ⟨rfl, hb2⟩
    go_wp2_with fail
    go_ret
    exact ⟨ret_bool HF.out.symm, below_box (hb2.mono (B' := w.heap.size + 1) (by simp))⟩
theorem few45_yes {n : Int} {es : List Edg} {ar : List (List Int)} {rot : List Int} (h : few45 n es ar rot = true) : es.length ≤ 40 ∧ ar.length ≤ 20 ∧ rot.length ≤ 30 := by
  unfold few45 at h
  split at h
  · rename_i h1
    unfold few44 at h1
    split at h1
    · rename_i h2
      unfold smB at h2
      split at h2
      · rename_i h3
        split at h1
        · rename_i h4; exact ⟨h3, h4, by simpa using h⟩
        · cases h1
      · cases h2
    · cases h1
  · cases h

end Go.Proofs.YtnigfddanoaonaaGreat

set_option linter.unusedVariables false
set_option linter.unusedSimpArgs false
namespace Go.Proofs.YtnigfddanoaonaaGreat
open Go.RowKit

def forest (es : List Edg) : List Nat := (eL es).foldl (fun f x => joinF f x.1 x.2) (List.range 12)
theorem forest_go : ∀ (l m : List (Nat × Nat)) (f : List Nat), Uf f m → (∀ x ∈ m, x.1 < 12 ∧ x.2 < 12) → (∀ x ∈ l, x.1 < 12 ∧ x.2 < 12) → Uf (l.foldl (fun f x => joinF f x.1 x.2) f) (m ++ l)
  | [], m, f, h, _, _ => by simpa using h
  | x :: l, m, f, h, hm, hl => by
    obtain ⟨h1, h2⟩ := hl x (List.mem_cons_self ..)
    have := forest_go l (m ++ [x]) (joinF f x.1 x.2) (h.join h1 h2 hm) (fun y hy => by
      rcases List.mem_append.1 hy with h3 | h3
      · exact hm y h3
      · simp at h3; subst h3; exact ⟨h1, h2⟩) (fun y hy => hl y (List.mem_cons_of_mem _ hy))
    rw [List.append_assoc] at this
    exact this
theorem forest_ok (n : Int) (es : List Edg) : gErr n es = 0 → Uf (forest es) (eL es) := fun h => by
  have := forest_go (eL es) [] (List.range 12) Uf.begin (by simp) (fun x hx => ?_)
  · unfold forest; simpa using this
  · have h1 := eL_lt h es.length x
    rw [List.take_length] at h1
    exact h1 hx

end Go.Proofs.YtnigfddanoaonaaGreat

set_option linter.unusedVariables false
set_option linter.unusedSimpArgs false
namespace Go.Proofs.YtnigfddanoaonaaGreat
open Go.RowKit

/-- How a round may be left. -/
def jointPost (Jy : World → Prop) (Jx : Code → World → Prop) (W : World) : Exit → Act → World → Prop
  | .normal, _, W' => KeepsOthers W W' ∧ Jy W'
  | .ret, _, W' => KeepsOthers W W' ∧ Jx .ret W'
  | .exit id, _, W' => KeepsOthers W W' ∧ Jx (.exit id) W'
  | .goto t, _, W' => KeepsOthers W W' ∧ Jx (.goto t) W'
  | .panic _, _, _ => False
  | .outgrown, _, _ => False

/-- The iterator's word: J i before the i-th yield, Jy i behind it, Jd at the end. -/
def SeqJoint (F : Fence) (n : Nat) (P : Program) (g : Nat) (lb : Array Value) (encs : Nat → Array Value) (J Jy : Nat → World → Prop) (Jd : World → Prop) : Prop :=
  ∀ (l : Nat) (R X : World → Prop) (W : World), (∀ A B, R A → KeepsOthers A B → R B) →
    (∀ i W1, J i W1 → R W1 → YieldAt F (n - 1) P l (encs i) W1 fun e W' => (e = .returned (.bool true) ∧ Jy i W' ∧ R W') ∨ (e = .returned (.bool false) ∧ X W')) →
    J 0 W → R W → CallsIn F n P g (#[.func (.yield l) #[] #[]] ++ lb) W fun e W' => (∃ v, e = .returned v) ∧ ((Jd W' ∧ R W') ∨ X W')

end Go.Proofs.YtnigfddanoaonaaGreat

set_option linter.unusedVariables false
set_option linter.unusedSimpArgs false
namespace Go.Proofs.YtnigfddanoaonaaGreat
open Go.RowKit Go.Shelf

attribute [local go_sem] Oper.semAt_some

/-- The boxes of a way: where the chip is, the sink, the step. -/
structure WayBox (W : World) (h : Nat) (v q : Nat) (fv : Value) : Prop where
  bv : Boxed W h 3 (.int .i64 v)
  bq : Boxed W (h + 1) 3 (.int .i64 q)
  bs : Boxed W (h + 2) 170 fv
theorem boxed_same {W W' : World} {B : Nat} {t : TypeId} {v : Value} (h : Boxed W B t v) (e : W'.heap[B]? = W.heap[B]?) : Boxed W' B t v := e.trans h
theorem WayBox.keep {W W' : World} {h v q : Nat} {fv : Value} (hb : WayBox W h v q fv) (hk : ∀ k, h ≤ k → k ≤ h + 2 → k < W.heap.size → W'.heap[k]? = W.heap[k]?) : WayBox W' h v q fv :=
  ⟨boxed_same hb.bv (hk _ (by omega) (by omega) hb.bv.lt), boxed_same hb.bq (hk _ (by omega) (by omega) hb.bq.lt), boxed_same hb.bs (hk _ (by omega) (by omega) hb.bs.lt)⟩
theorem WayBox.put {W : World} {h v q : Nat} {fv : Value} (hb : WayBox W h v q fv) (u : Nat) : WayBox (W.setCell ⟨h, 0, none⟩ (.int .i64 u)) h u q fv :=
  ⟨hb.bv.set _, hb.bq.other (by omega) _, hb.bs.other (by omega) _⟩
theorem WayBox.own {β : Type} {h q : Nat} {fv : Value} (v : β → Nat) : Own (fun (s : β) W => WayBox W h (v s) q fv) := fun s X Y row hs hg hr =>
  ⟨boxed_own h _ (fun s : β => Value.int .i64 (v s : Nat)) s X Y row hs.bv hg hr, boxed_own (h + 1) _ (fun _ : Unit => _) () X Y row hs.bq hg hr, boxed_own (h + 2) _ (fun _ : Unit => _) () X Y row hs.bs hg hr⟩
end Go.Proofs.YtnigfddanoaonaaGreat

set_option linter.unusedVariables false
set_option linter.unusedSimpArgs false
namespace Go.Proofs.YtnigfddanoaonaaGreat
open Go.RowKit

/-- The rotors and the chip behind i steps. -/
def rtN (ar : List (List Int)) (E : List (Int × Int)) (rot : List Int) (v : Nat) : Nat → List Int × Nat
  | 0 => (rot, v)
  | i + 1 => (stpR ar (rtN ar E rot v i).1 (rtN ar E rot v i).2, stpV ar E (rtN ar E rot v i).1 (rtN ar E rot v i).2)
theorem RtOk.along {n : Int} {es : List Edg} {ar : List (List Int)} {q : Nat} {rot : List Int} (h : RtOk n es ar q rot) {v : Nat} (hv : v < ar.length) :
    ∀ i, (∀ j, j < i → (rtN ar (endsL es) rot v j).2 ≠ q) → RtOk n es ar q (rtN ar (endsL es) rot v i).1 ∧ (rtN ar (endsL es) rot v i).2 < ar.length
  | 0, _ => ⟨h, hv⟩
  | i + 1, hp => by
    obtain ⟨h1, h2⟩ := h.along hv i fun j hj => hp j (by omega)
    exact (h1.step h2 (hp i (by omega))).2

/-- The first time at q, before M. -/
def firstAt (v : Nat → Nat) (q M : Nat) : Option Nat := (List.range M).find? (fun i => v i == q)
theorem firstAt_some {v : Nat → Nat} {q M i : Nat} (hi : i < M) (h1 : v i = q) (h2 : ∀ j, j < i → v j ≠ q) : firstAt v q M = some i := by
  unfold firstAt
  rw [List.find?_eq_some_iff_getElem]
  refine ⟨by simp [h1], i, by simpa using hi, by simp, fun j hj => ?_⟩
  simp
  exact h2 j hj
theorem firstAt_none {v : Nat → Nat} {q M : Nat} (h2 : ∀ j, j < M → v j ≠ q) : firstAt v q M = none := by
  unfold firstAt
  rw [List.find?_eq_none]
  intro j hj
  simp at hj ⊢
  exact h2 j hj

/-- The vertices on a way. -/
def wayL (v : Nat → Nat) (k : Nat) : List Int := (List.range k).map fun i => ((v i : Nat) : Int)
theorem Brd.owned {β : Type} {B p rg cap : Nat} {tv : Value} {q : Int} {av : Value} {tl : List Int} {rest : List Value} (rot : β → List Int) : Own (fun (s : β) W => Brd B W p rg cap tv q av tl (rot s) rest) := fun s X Y row h hg hr => by
  refine h.keep fun k _ hk hor => ?_
  have hc : ∃ o : Obj, X.heap[k]? = some o ∧ o.isCells = true := by
    rcases hor with rfl | rfl | e
    · exact ⟨_, h.box, rfl⟩
    · exact ⟨_, h.row, rfl⟩
    · obtain ⟨cells, ho, _⟩ := h.tos
      rcases ho.2 with ⟨rfl, _⟩ | ⟨g, c, cur, rfl, _, hg2, _⟩
      · simp [Value.ownBlock] at e
      · simp only [Value.ownBlock, Option.some.injEq] at e
        subst e
        exact ⟨_, hg2, rfl⟩
  obtain ⟨o, ho, hc⟩ := hc
  exact grownBy_keeps_cells hg hr ho hc

def ListErr (w : World) (l : List Int) (x : Int) (e : Ending) (w' : World) : Prop := ∃ rv, e = .returned (.tuple #[rv, .int .i64 x]) ∧ OwnS intR 1 w.heap.size 3 Non w' rv l ∧ Below w.heap.size w w'

def chipV (ar : List (List Int)) (E : List (Int × Int)) (rot : List Int) (v : Nat) (i : Nat) : Nat := (rtN ar E rot v i).2
def rotI (ar : List (List Int)) (E : List (Int × Int)) (rot : List Int) (v : Nat) (i : Nat) : List Int := (rtN ar E rot v i).1

/-- Between the yields of a way whose step turns: the board, what is the caller's own (C), and what lay before. -/
structure WA (w1 : World) (p rg cap : Nat) (tv : Value) (q : Int) (av : Value) (tl : List Int) (rest : List Value) (R : Nat → List Int) (C : Nat → World → Prop) (i k : Nat) (W : World) : Prop where
  brd : Brd w1.heap.size W p rg cap tv q av tl (R i) rest
  own : C k W
  low : Below w1.heap.size w1 W
theorem WA.from {β : Type} {w1 : World} {p rg cap : Nat} {tv : Value} {q : Int} {av : Value} {tl : List Int} {rest : List Value} {R : Nat → List Int} {C : Nat → World → Prop} {B : Nat} (hB : w1.heap.size ≤ B) (hC : OwnFrom B C) (i k : β → Nat) :
    OwnFrom B (fun (s : β) W => WA w1 p rg cap tv q av tl rest R C (i s) (k s) W) := fun s X Y row h hg hr =>
  ⟨(Brd.owned (fun s : β => R (i s))).from B s X Y row h.brd hg hr, hC (k s) X Y row h.own hg hr, ownFrom_below (β := Unit) (Nat.le_refl _) hB () X Y row h.low hg hr⟩

section
variable {w1 : World} {p rg cap : Nat} {tv : Value} {q : Int} {av : Value} {tl : List Int} {rest : List Value} {R : Nat → List Int} {C : Nat → World → Prop} {B : Nat} {h q' : Nat} {fv : Value}
end

end Go.Proofs.YtnigfddanoaonaaGreat

set_option linter.unusedVariables false
set_option linter.unusedSimpArgs false
set_option linter.unnecessarySimpa false
namespace Go.Proofs.YtnigfddanoaonaaGreat
open Go.RowKit Go.Shelf

attribute [local go_sem] Oper.semAt_some

def walkOf (ar : List (List Int)) (E : List (Int × Int)) (q : Nat) (rot : List Int) (v : Nat) : List Int × Int :=
  match firstAt (chipV ar E rot v) q 4096 with
  | some i => (wayL (chipV ar E rot v) (i + 1), 0)
  | none => ([], 12)
/-- The vertices on the way of a chip, or the error. -/
def walkRes (n : Int) (es : List Edg) (f : List Nat) (ar : List (List Int)) (q : Int) (rot : List Int) (v : Int) : List Int × Int :=
  if stE n es f ar q rot v = 0 then walkOf ar (endsL es) q.toNat rot v.toNat else ([], stE n es f ar q rot v)

theorem run_cellAddr {P : Program} {tmps : Array Value} {a : Tmp} {w : World} {x : Addr} (ha : tmps.getD a undef = .pointer (some x)) : (asAddr (tmps.getD a undef)).run P w = .ok x w := by
  rw [ha]; simp [asAddr]
/-- The caller's own of Walk: the vertices that have come. -/
def WOut (b n₀ : Nat) (V : Nat → Nat) (k : Nat) (W : World) : Prop := ∃ u, Boxed W b 23 u ∧ W.ownsRow n₀ 3 1 u k ((wayL V k).map (Value.int .i64)) ∧ True
theorem WOut.from (b n₀ B : Nat) (V : Nat → Nat) : OwnFrom B (WOut b n₀ V) := (holdsRow_own n₀ b 23 3 1 (fun k : Nat => k) (fun k => (wayL V k).map (Value.int .i64)) (fun _ _ => True)).from B
theorem ownsRow_other {W W' : World} {n₀ : Nat} {e : TypeId} {size : Nat} {v : Value} {k : Nat} {xs : List Value} (h : W.ownsRow n₀ e size v k xs) {r : Nat} (hr : r < n₀) (hg : W.grownBy W' (some r)) : W'.ownsRow n₀ e size v k xs :=
  h.kept hg (.inr fun e' => by
    rcases h.2 with ⟨rfl, _⟩ | ⟨g, cap, cur, rfl, hb, _, _⟩
    · simp [Value.ownBlock] at e'
    · simp only [Value.ownBlock, Option.some.injEq] at e'
      omega)
theorem WOut.grown {b n₀ : Nat} {V : Nat → Nat} {k r : Nat} {W W' : World} (h : WOut b n₀ V k W) (hg : W.grownBy W' (some r)) (hb : b ≠ r) (hr : r < n₀) : WOut b n₀ V k W' := by
  obtain ⟨u, h1, h2, h3⟩ := h
  exact ⟨u, h1.kept hg (fun e => hb (by injection e)), ownsRow_other h2 hr hg, h3⟩

section
variable (n : Int) (es : List Edg) (oe : Option Addr) (c : Nat) (ar : List (List Int)) (oa : Option Addr) (ca : Nat) (F G : Foot) (w : World) (hs : SliceR edgR 3 F w oe es) (hc : es.length ≤ c) (hc2 : es.length ≤ 1000)
    (ha : SliceR (slcR intR 1) 1 G w oa ar) (hac : ar.length ≤ ca) (hac2 : ar.length ≤ 9223372036854775807) (f : List Nat) (hU : Hid (gErr n es = 0 → Uf f (eL es)))
    (q : Int) (rot : List Int) (ot : Option Addr) (ct : Nat) (H : Foot) (hr : SliceR intR 1 H w ot rot) (hrc : rot.length ≤ ct) (hrl : rot.length ≤ 9223372036854775807)
include hs hc hc2 ha hac hac2 hU hr hrc hrl

end

end Go.Proofs.YtnigfddanoaonaaGreat

set_option linter.unusedVariables false
set_option linter.unusedSimpArgs false
set_option linter.unnecessarySimpa false
namespace Go.Proofs.YtnigfddanoaonaaGreat
open Go.RowKit Go.Shelf

attribute [local go_sem] Oper.semAt_some

def routeUp (M : Nat) (ar : List (List Int)) (E : List (Int × Int)) (q : Nat) (rot : List Int) (v : Nat) : List Int × Int × Int :=
  match firstAt (chipV ar E rot v) q M with
  | some i => (rotI ar E rot v i, (i : Int), 0)
  | none => ([], 0, 12)
def routeOf (ar : List (List Int)) (E : List (Int × Int)) (q : Nat) (rot : List Int) (v : Nat) : List Int × Int × Int := routeUp 1048577 ar E q rot v
/-- The rotors behind the way of a chip and the number of steps, or the error. -/
def routeRes (n : Int) (es : List Edg) (f : List Nat) (ar : List (List Int)) (q : Int) (rot : List Int) (v : Int) : List Int × Int × Int :=
  if stE n es f ar q rot v = 0 then routeOf ar (endsL es) q.toNat rot v.toNat else ([], 0, stE n es f ar q rot v)

/-- The caller's own of Route: the count. -/
def RCnt (b : Nat) (k : Nat) (W : World) : Prop := Boxed W b 3 (.int .i64 ((k : Int) - 1))
theorem sized_set (W : World) (a : Addr) (v : Value) : (W.setCell a v).heap.size = W.heap.size := by show (W.heap.modify _ _).size = _; rw [Array.size_modify]
theorem RCnt.from (b B : Nat) : OwnFrom B (RCnt b) := (boxed_own b 3 (fun k : Nat => Value.int .i64 ((k : Int) - 1))).from B

section
variable (n : Int) (es : List Edg) (oe : Option Addr) (c : Nat) (ar : List (List Int)) (oa : Option Addr) (ca : Nat) (F G : Foot) (w : World) (hs : SliceR edgR 3 F w oe es) (hc : es.length ≤ c) (hc2 : es.length ≤ 1000)
    (ha : SliceR (slcR intR 1) 1 G w oa ar) (hac : ar.length ≤ ca) (hac2 : ar.length ≤ 9223372036854775807) (f : List Nat) (hU : Hid (gErr n es = 0 → Uf f (eL es)))
    (q : Int) (rot : List Int) (ot : Option Addr) (ct : Nat) (H : Foot) (hr : SliceR intR 1 H w ot rot) (hrc : rot.length ≤ ct) (hrl : rot.length ≤ 9223372036854775807)
include hs hc hc2 ha hac hac2 hU hr hrc hrl

end

end Go.Proofs.YtnigfddanoaonaaGreat

set_option linter.unusedVariables false
set_option linter.unusedSimpArgs false
set_option linter.unnecessarySimpa false
namespace Go.Proofs.YtnigfddanoaonaaGreat
open Go.RowKit

/-- The single edges along which the rotors of the first k vertices point. -/
def edL (ar : List (List Int)) (q : Nat) (rot : List Int) : Nat → List Int
  | 0 => []
  | k + 1 => edL ar q rot k ++ (if k = q then [] else [((((ar.getD k []).getD (rot.getD k 0).toNat 0).toNat / 2 : Nat) : Int)])
def edR (n : Int) (es : List Edg) (f : List Nat) (ar : List (List Int)) (q : Int) (rot : List Int) : List Int := if rtE n es f ar q rot = 0 then edL ar q.toNat rot rot.length else []
/-- What the rotor at a vertex points to. -/
theorem RtOk.at {n : Int} {es : List Edg} {ar : List (List Int)} {q : Nat} {rot : List Int} (h : RtOk n es ar q rot) {v : Nat} (hv' : v < ar.length) (hvq : v ≠ q) :
    ∃ (l : List Int) (k g : Nat), ar[v]? = some l ∧ rot[v]? = some (k : Int) ∧ k < l.length ∧ l.length ≤ 1000000 ∧ l[k]? = some (g : Int) ∧ g < 2 * (endsL es).length := by
  have hl : ar[v]? = some ar[v] := List.getElem?_eq_getElem hv'
  have hk0 : rot[v]? = some (rot[v]'(by rw [h.nrot]; exact hv')) := List.getElem?_eq_getElem (by rw [h.nrot]; exact hv')
  obtain ⟨r1, _, r3⟩ := h.rots v _ _ hk0 hl
  generalize rot[v]'(by rw [h.nrot]; exact hv') = k at hk0 r1 r3
  generalize ar[v] = l at *
  obtain ⟨k, rfl⟩ := Int.eq_ofNat_of_zero_le r1
  have hkl : k < l.length := by have := r3 hvq; omega
  obtain ⟨w1, w2⟩ := h.rows v l hl
  obtain ⟨g, hg, hg2, _⟩ := w2 _ (List.getElem_mem hkl)
  exact ⟨l, k, g, hl, hk0, hkl, by have := h.cap; omega, by rw [List.getElem?_eq_getElem hkl, hg], hg2⟩
end Go.Proofs.YtnigfddanoaonaaGreat

set_option linter.unusedVariables false
set_option linter.unusedSimpArgs false
set_option linter.unnecessarySimpa false
namespace Go.Proofs.YtnigfddanoaonaaGreat
open Go.RowKit

/-- The vertices that Routed keeps. -/
def keptN (i : Nat) : Nat := if i + 1 ≤ 4096 then i + 1 else 4097

def RoutedPost (w : World) (ar : List (List Int)) (E : List (Int × Int)) (q : Nat) (rot : List Int) (v : Nat) (e : Ending) (w' : World) : Prop :=
  ∃ o1 n1 c1 o2 n2 c2 k o, e = .returned (.agg #[.slice o1 n1 c1, .int .i64 k, .slice o2 n2 c2, .bool o]) ∧ Below w.heap.size w w' ∧
    ((∃ i : Nat, o = false ∧ k = (i : Int) ∧ firstAt (chipV ar E rot v) q 1048577 = some i ∧ i < 1048577 ∧ chipV ar E rot v i = q ∧ (∀ j, j < i → chipV ar E rot v j ≠ q) ∧
        OwnS intR 1 w.heap.size 3 Non w' (.slice o1 n1 c1) (rotI ar E rot v i) ∧ OwnS intR 1 w.heap.size 3 Non w' (.slice o2 n2 c2) (wayL (chipV ar E rot v) (keptN i))) ∨
     (o = true ∧ ∀ j, j < 1048577 → chipV ar E rot v j ≠ q))

theorem results_row1 {fn : Func} {a : Tmp} {ty : TypeId} (h : fn.results = #[.cell a ty]) {P : Program} (tmps : Array Value) (w : World) (g : Nat) (cs : Array Value)
    (ha : tmps.getD a undef = .pointer (some ⟨g, 0, none⟩)) (e2 : (loadVar ty ⟨g, 0, none⟩).run P w = .ok (.agg cs) w) :
    (results fn tmps).run P w = .ok (.agg cs) w := by
  have e1 := run_cellAddr (P := P) (w := w) ha
  have e3 : (asAddr (tmps[a]?.getD undef)).run P w = .ok ⟨g, 0, none⟩ w := by simpa using e1
  simp [results, h, Sem.run_bind, e3, e2, Result.andThen]

def stepsOf (W : World) (xb : Nat) : Nat := match W.cell? ⟨xb, 1, none⟩ with | some v => (intOf v).toNat | none => 0
end Go.Proofs.YtnigfddanoaonaaGreat

set_option linter.unusedVariables false
set_option linter.unusedSimpArgs false
set_option linter.unnecessarySimpa false
namespace Go.Proofs.YtnigfddanoaonaaGreat
open Go.RowKit


/-- The order of two lists of the same length. -/
def ordE : List Int → List Int → Int
  | [], _ => 0
  | _, [] => 0
  | x :: l, y :: m => if x < y then -1 else if y < x then 1 else ordE l m
end Go.Proofs.YtnigfddanoaonaaGreat

set_option linter.unusedVariables false
set_option linter.unusedSimpArgs false
set_option linter.unnecessarySimpa false
namespace Go.Proofs.YtnigfddanoaonaaGreat
open Go.RowKit

def triE : List Edg := [⟨0, 1, 1⟩, ⟨0, 2, 1⟩, ⟨1, 2, 1⟩]
def triA : List (List Int) := [[0, 2], [1, 4], [3, 5]]

theorem i64_s {x : Int} (h : 0 ≤ x ∧ x ≤ 100) : I64 x := by unfold I64; omega
theorem triE_lit (B : Nat) (w : World) (hB : B ≤ w.heap.size) : SliceR edgR 3 (Ge B) (w.alloc (.cells #[.int .i64 0, .int .i64 1, .int .i64 1, .int .i64 0, .int .i64 2, .int .i64 1, .int .i64 1, .int .i64 2, .int .i64 1] 145)) (some ⟨w.heap.size, 0, none⟩) triE :=
  SliceR.lit (F := Ge B) edgR_ok w 145 [[.int .i64 0, .int .i64 1, .int .i64 1], [.int .i64 0, .int .i64 2, .int .i64 1], [.int .i64 1, .int .i64 2, .int .i64 1]] _ (fun i y hy => by
    match i, hy with
    | 0, hy => simp [triE] at hy; subst hy; exact ⟨_, rfl, rfl, i64_s (by decide), i64_s (by decide), i64_s (by decide)⟩
    | 1, hy => simp [triE] at hy; subst hy; exact ⟨_, rfl, rfl, i64_s (by decide), i64_s (by decide), i64_s (by decide)⟩
    | 2, hy => simp [triE] at hy; subst hy; exact ⟨_, rfl, rfl, i64_s (by decide), i64_s (by decide), i64_s (by decide)⟩
    | i + 3, hy => simp [triE] at hy) rfl (fun _ h => h) hB

set_option maxRecDepth 100000 in
theorem tri18_any (w : World) : Calls Tryz.prog 39 #[] w fun e w' => ∃ g, e = .returned (.agg #[.int .i64 3, .slice (some ⟨g, 0, none⟩) 3 3]) ∧ SliceR edgR 3 (Ge w.heap.size) w' (some ⟨g, 0, none⟩) triE ∧ Below w.heap.size w w' := by
  go_enter Tryz.func39, Tryz.ntmps39
  go_wp2_with fail
  have hb := (Box.new w [.int .i64 3, .slice (some ⟨w.heap.size + 1, 0, none⟩) 3 3] 43).next (.cells #[.int .i64 0, .int .i64 1, .int .i64 1, .int .i64 0, .int .i64 2, .int .i64 1, .int .i64 1, .int .i64 2, .int .i64 1] 145)
  have hl := triE_lit w.heap.size (w.alloc (.cells #[.int .i64 3, .slice (some ⟨w.heap.size + 1, 0, none⟩) 3 3] 43)) (by simp)
  rw [World.size_alloc] at hl
  refine bodyPost_ret (results_row1 rfl _ _ w.heap.size #[.int .i64 3, .slice (some ⟨w.heap.size + 1, 0, none⟩) 3 3] rfl (run_loadVar_row _ _ _ _ _ _ _ hb Tryz.underlying43 rfl (by kernel_rfl))) rfl ?_
  exact ⟨_, rfl, hl, bnew (bnew (Below.refl _ _) _) _⟩

set_option maxRecDepth 100000 in
theorem tri45_any (w : World) : Calls Tryz.prog 42 #[] w fun e w' => ∃ g h, e = .returned (.agg #[.int .i64 3, .slice (some ⟨g, 0, none⟩) 3 3, .slice (some ⟨h, 0, none⟩) 3 3]) ∧ SliceR edgR 3 All w' (some ⟨g, 0, none⟩) triE ∧ SliceR (slcR intR 1) 1 All w' (some ⟨h, 0, none⟩) triA ∧ Below w.heap.size w w' := by
  go_enter Tryz.func42, Tryz.ntmps42
  go_wp2_with fail
  refine (tri18_any _).mono ?_
  rintro e w2 ⟨g, rfl, hE, hb2⟩
  have hx2 := hb2.mono (B' := w.heap.size + 1) (by simp)
  have hsz2 := box_lt hx2
  obtain ⟨W3, hW3⟩ : ∃ W3, (((w2.alloc (.cells #[.int .i64 0, .int .i64 2] 3)).alloc (.cells #[.int .i64 1, .int .i64 4] 3)).alloc (.cells #[.int .i64 3, .int .i64 5] 3)).alloc (.cells #[.slice (some ⟨w2.heap.size, 0, none⟩) 2 2, .slice (some ⟨w2.heap.size + 1, 0, none⟩) 2 2, .slice (some ⟨w2.heap.size + 1 + 1, 0, none⟩) 2 2] 23) = W3 := ⟨_, rfl⟩
  have hb3 : Below w2.heap.size w2 W3 := by rw [← hW3]; exact bnew (bnew (bnew (bnew (Below.refl _ _) _) _) _) _
  have hx3 := hx2.trans (hb3.mono (by omega))
  have hA : SliceR (slcR intR 1) 1 (Ge w2.heap.size) W3 (some ⟨w2.heap.size + 1 + 1 + 1, 0, none⟩) triA := by
    rw [← hW3]
    have a1 := (ints_lit (F := Ge w2.heap.size) (G := Ge w2.heap.size) w2 3 [0, 2] (by intro x hx; simp at hx; rcases hx with rfl | rfl <;> exact i64_s (by decide)) (by show _ ≤ _; simp; try omega))
    have a2 := (ints_lit (F := Ge w2.heap.size) (G := Ge w2.heap.size) (w2.alloc (.cells #[.int .i64 0, .int .i64 2] 3)) 3 [1, 4] (by intro x hx; simp at hx; rcases hx with rfl | rfl <;> exact i64_s (by decide)) (by show _ ≤ _; simp; try omega))
    have a3 := (ints_lit (F := Ge w2.heap.size) (G := Ge w2.heap.size) ((w2.alloc (.cells #[.int .i64 0, .int .i64 2] 3)).alloc (.cells #[.int .i64 1, .int .i64 4] 3)) 3 [3, 5] (by intro x hx; simp at hx; rcases hx with rfl | rfl <;> exact i64_s (by decide)) (by show _ ≤ _; simp; try omega))
    simp only [List.map_cons, List.map_nil, World.size_alloc] at a1 a2 a3
    have b1 := (a1.below intR_ok (bnew (Below.refl _ _) (.cells #[.int .i64 1, .int .i64 4] 3))).below intR_ok (bnew (Below.refl _ _) (.cells #[.int .i64 3, .int .i64 5] 3))
    have b2 := a2.below intR_ok (bnew (Below.refl _ _) (.cells #[.int .i64 3, .int .i64 5] 3))
    have := SliceR.lit (F := Ge w2.heap.size) (G := Ge w2.heap.size) (slcR_ok intR_ok (by decide)) (((w2.alloc (.cells #[.int .i64 0, .int .i64 2] 3)).alloc (.cells #[.int .i64 1, .int .i64 4] 3)).alloc (.cells #[.int .i64 3, .int .i64 5] 3)) 23
      [[.slice (some ⟨w2.heap.size, 0, none⟩) 2 2], [.slice (some ⟨w2.heap.size + 1, 0, none⟩) 2 2], [.slice (some ⟨w2.heap.size + 1 + 1, 0, none⟩) 2 2]] triA (fun i y hy => by
        match i, hy with
        | 0, hy => simp [triA] at hy; subst hy; exact ⟨_, rfl, _, _, rfl, by decide, by decide, b1⟩
        | 1, hy => simp [triA] at hy; subst hy; exact ⟨_, rfl, _, _, rfl, by decide, by decide, b2⟩
        | 2, hy => simp [triA] at hy; subst hy; exact ⟨_, rfl, _, _, rfl, by decide, by decide, a3⟩
        | i + 3, hy => simp [triA] at hy) rfl (fun _ h => h) (by show _ ≤ _; simp; try omega)
    simpa using this
  have hbx : Box W3 w.heap.size [.int .i64 0, .slice none 0 0, .slice none 0 0] 52 := (Box.new w [.int .i64 0, .slice none 0 0, .slice none 0 0] 52).under hx3 (by omega)
  have d0 := hbx.cell 0
  have d1 := hbx.cell 1
  have d2 := hbx.cell 2
  simp only [List.getElem?_cons_zero, List.getElem?_cons_succ] at d0 d1 d2
  have f0 := hbx.free 0
  have f1 := hbx.free 1
  have f2 := hbx.free 2
  have HE := hide (hE.below edgR_ok hb3)
  have HX := hide hx3
  have HA := hide hA
  have HBX := hide hbx
  clear hb2 hx2 hE hbx hA hx3 hb3
  go_wp2_with fail
  have hbx := ((HBX.out.put 0 (.int .i64 3)).put 1 (.slice (some ⟨g, 0, none⟩) 3 3)).put 2 (.slice (some ⟨w2.heap.size + 1 + 1 + 1, 0, none⟩) 3 3)
  simp only [List.set_cons_zero, List.set_cons_succ] at hbx
  refine bodyPost_ret (results_row1 rfl _ _ w.heap.size #[.int .i64 3, .slice (some ⟨g, 0, none⟩) 3 3, .slice (some ⟨w2.heap.size + 1 + 1 + 1, 0, none⟩) 3 3] rfl (run_loadVar_row _ _ _ _ _ _ _ hbx Tryz.underlying52 rfl (by kernel_rfl))) rfl ?_
  have hn : ∀ k, w.heap.size < k → (((W3.setCell ⟨w.heap.size, 0, none⟩ (.int .i64 3)).setCell ⟨w.heap.size, 1, none⟩ (.slice (some ⟨g, 0, none⟩) 3 3)).setCell ⟨w.heap.size, 2, none⟩ (.slice (some ⟨w2.heap.size + 1 + 1 + 1, 0, none⟩) 3 3)).heap[k]? = W3.heap[k]? := fun k hk => by
    rw [Below.heap_setCell _ _ _ k (by simp; omega), Below.heap_setCell _ _ _ k (by simp; omega), Below.heap_setCell _ _ _ k (by simp; omega)]
  refine ⟨g, _, rfl, (HE.out.keep edgR_ok fun k hk _ => hn k ?_).all edgR_ok (by decide), (HA.out.keep (slcR_ok intR_ok (by decide)) fun k hk _ => hn k ?_).all (slcR_ok intR_ok (by decide)) (by decide), ?_⟩
  · have h1 : w.heap.size + 1 ≤ k := by simpa [Ge] using hk
    omega
  · have h1 : w2.heap.size ≤ k := hk
    omega
  · exact (((below_box HX.out).setCell (p := ⟨w.heap.size, 0, none⟩) (by simp) _).setCell (p := ⟨w.heap.size, 1, none⟩) (by simp) _).setCell (p := ⟨w.heap.size, 2, none⟩) (by simp) _

end Go.Proofs.YtnigfddanoaonaaGreat

set_option linter.unusedVariables false
set_option linter.unusedSimpArgs false
set_option linter.unnecessarySimpa false
namespace Go.Proofs.YtnigfddanoaonaaGreat
open Go.RowKit

/-- The vertices below k, other than the sink, that have chips. -/
def liveP (q : Nat) (l : List Int) (k : Nat) : List Int := ((List.range k).filter fun v : Nat => decide (v ≠ q ∧ 0 < l.getD v 0)).map fun v : Nat => (v : Int)
def liveL (q : Nat) (l : List Int) : List Int := liveP q l l.length
theorem liveP_yes {q : Nat} {l : List Int} {k : Nat} {x : Int} (hx : l[k]? = some x) (h1 : k ≠ q) (h2 : 0 < x) : liveP q l (k + 1) = liveP q l k ++ [(k : Int)] := by
  have : l.getD k 0 = x := getD_of hx
  simp only [liveP, List.range_succ, List.filter_append, List.map_append]
  congr 1
  simp only [List.filter_cons, List.filter_nil, this]
  simp [h1, h2]
theorem liveP_no {q : Nat} {l : List Int} {k : Nat} {x : Int} (hx : l[k]? = some x) (h : ¬ (k ≠ q ∧ 0 < x)) : liveP q l (k + 1) = liveP q l k := by
  have : l.getD k 0 = x := getD_of hx
  simp only [liveP, List.range_succ, List.filter_append, List.map_append]
  simp only [List.filter_cons, List.filter_nil, this]
  simp [h]
theorem liveP_len (q : Nat) (l : List Int) (k : Nat) : (liveP q l k).length ≤ k := by
  have := List.length_filter_le (fun v => decide (v ≠ q ∧ 0 < l.getD v 0)) (List.range k)
  simp [liveP]
  simpa using this
theorem live_mem {q : Nat} {l : List Int} {x : Int} (h : x ∈ liveL q l) : ∃ v : Nat, x = v ∧ v < l.length ∧ v ≠ q ∧ 0 < l.getD v 0 := by
  unfold liveL liveP at h
  obtain ⟨v, hv, rfl⟩ := List.mem_map.1 h
  simp only [List.mem_filter, List.mem_range, decide_eq_true_eq] at hv
  exact ⟨v, rfl, hv.1, hv.2.1, hv.2.2⟩

abbrev MSt := List Int × List Int × List Int
def addL (l : List Int) (v : Nat) (x : Int) : List Int := l.set v (l.getD v 0 + x)
theorem addL_len (l : List Int) (v : Nat) (x : Int) : (addL l v x).length = l.length := by simp [addL]
theorem addL_mem {l : List Int} {v : Nat} {x y : Int} (h : y ∈ addL l v x) (hv : v < l.length) : y ∈ l ∨ ∃ z ∈ l, y = z + x := by
  unfold addL at h
  rcases List.mem_or_eq_of_mem_set h with h1 | h1
  · exact .inl h1
  · refine .inr ⟨l[v], List.getElem_mem hv, ?_⟩
    rw [h1, getD_of (List.getElem?_eq_getElem hv)]
/-- A chip moves from v. -/
def mvS (ar : List (List Int)) (E : List (Int × Int)) (s : MSt) (v : Nat) : MSt := (stpR ar s.1 v, addL (addL s.2.1 v (-1)) (stpV ar E s.1 v) 1, addL s.2.2 v 1)
/-- What there is behind i moves, by picks. -/
def mvN (ar : List (List Int)) (E : List (Int × Int)) (q : Nat) (pk : Nat → List Int → Int) (s : MSt) : Nat → MSt
  | 0 => s
  | i + 1 => mvS ar E (mvN ar E q pk s i) (pk i (liveL q (mvN ar E q pk s i).2.1)).toNat

structure MvOk (n : Int) (es : List Edg) (ar : List (List Int)) (q : Nat) (i : Nat) (s : MSt) : Prop where
  rot : RtOk n es ar q s.1
  ll : s.2.1.length = ar.length
  tl : s.2.2.length = ar.length
  lb : ∀ x ∈ s.2.1, -1048576 - (i : Int) ≤ x ∧ x ≤ 1048576 + (i : Int)
  tb : ∀ x ∈ s.2.2, 0 ≤ x ∧ x ≤ (i : Int)
theorem MvOk.step {n : Int} {es : List Edg} {ar : List (List Int)} {q i : Nat} {s : MSt} (h : MvOk n es ar q i s) {v : Nat} (hv : v < ar.length) (hq : v ≠ q) : MvOk n es ar q (i + 1) (mvS ar (endsL es) s v) ∧ stpV ar (endsL es) s.1 v < ar.length := by
  obtain ⟨_, h1, h2⟩ := h.rot.step hv hq
  refine ⟨⟨h1, by simp [mvS, addL_len, h.ll], by simp [mvS, addL_len, h.tl], fun x hx => ?_, fun x hx => ?_⟩, h2⟩
  · rcases addL_mem hx (by rw [addL_len, h.ll]; exact h2) with h3 | ⟨z, h3, rfl⟩
    · rcases addL_mem h3 (by rw [h.ll]; exact hv) with h4 | ⟨y, h4, rfl⟩
      · have := h.lb x h4; omega
      · have := h.lb y h4; omega
    · rcases addL_mem h3 (by rw [h.ll]; exact hv) with h4 | ⟨y, h4, rfl⟩
      · have := h.lb z h4; omega
      · have := h.lb y h4; omega
  · rcases addL_mem hx (by rw [h.tl]; exact hv) with h4 | ⟨y, h4, rfl⟩
    · have := h.tb x h4; omega
    · have := h.tb y h4; omega

def Picks (pk : Nat → List Int → Int) : Prop := ∀ i l, l ≠ [] → pk i l ∈ l
theorem mv_ok {n : Int} {es : List Edg} {ar : List (List Int)} {q : Nat} {s : MSt} {pk : Nat → List Int → Int} (hpk : Picks pk) (h : MvOk n es ar q 0 s) : ∀ i, (∀ j, j < i → (liveL q (mvN ar (endsL es) q pk s j).2.1).length ≠ 0) → MvOk n es ar q i (mvN ar (endsL es) q pk s i)
  | 0, _ => h
  | i + 1, hp => by
    have ih := mv_ok hpk h i fun j hj => hp j (by omega)
    have h1 := hpk i (liveL q (mvN ar (endsL es) q pk s i).2.1) (by intro e; exact hp i (by omega) (by rw [e]; rfl))
    obtain ⟨v, h2, h3, h4, _⟩ := live_mem h1
    unfold mvN
    rw [h2]
    exact (ih.step (by rw [← ih.ll]; simpa using h3) (by simpa using h4)).1

/-- The first pick. -/
def pk0 : Nat → List Int → Int := fun _ l => l.headD 0
theorem pk0_ok : Picks pk0 := fun i l h => by
  cases l with
  | nil => exact absurd rfl h
  | cons x r => simp [pk0]
def start (rot d : List Int) (n : Nat) : MSt := (rot, d, List.replicate n 0)
theorem start_ok {n : Int} {es : List Edg} {ar : List (List Int)} {q : Nat} {rot d : List Int} (h : RtOk n es ar q rot) (hd : d.length = ar.length) (hb : ∀ x ∈ d, -1048576 ≤ x ∧ x ≤ 1048576) : MvOk n es ar q 0 (start rot d d.length) :=
  ⟨h, hd, by simp [start, hd], fun x hx => by have := hb x hx; omega, fun x hx => by
    simp [start] at hx
    omega⟩

/-- The rotors and the numbers of steps, or the error. -/
def movesUp (M : Nat) (ar : List (List Int)) (E : List (Int × Int)) (q : Nat) (pk : Nat → List Int → Int) (rot d : List Int) : List Int × List Int × Int :=
  match firstAt (fun i => (liveL q (mvN ar E q pk (start rot d d.length) i).2.1).length) 0 M with
  | some i => ((mvN ar E q pk (start rot d d.length) i).1, (mvN ar E q pk (start rot d d.length) i).2.2, 0)
  | none => ([], [], 12)
theorem movesUp_hit {M : Nat} {ar : List (List Int)} {E : List (Int × Int)} {q : Nat} {pk : Nat → List Int → Int} {rot d : List Int} {i : Nat} {s : MSt} (hi : i < M) (hs : mvN ar E q pk (start rot d d.length) i = s) (h1 : (liveL q s.2.1).length = 0)
    (h2 : ∀ j, j < i → (liveL q (mvN ar E q pk (start rot d d.length) j).2.1).length ≠ 0) : movesUp M ar E q pk rot d = (s.1, s.2.2, 0) := by
  have h3 : firstAt (fun i => (liveL q (mvN ar E q pk (start rot d d.length) i).2.1).length) 0 M = some i := firstAt_some hi (by rw [hs]; exact h1) h2
  unfold movesUp
  rw [h3]
  simp only [hs]
theorem movesUp_none {M : Nat} {ar : List (List Int)} {E : List (Int × Int)} {q : Nat} {pk : Nat → List Int → Int} {rot d : List Int} (h2 : ∀ j, j < M → (liveL q (mvN ar E q pk (start rot d d.length) j).2.1).length ≠ 0) : movesUp M ar E q pk rot d = ([], [], 12) := by
  have h3 : firstAt (fun i => (liveL q (mvN ar E q pk (start rot d d.length) i).2.1).length) 0 M = none := firstAt_none h2
  unfold movesUp
  rw [h3]
def movesOf (ar : List (List Int)) (E : List (Int × Int)) (q : Nat) (pk : Nat → List Int → Int) (rot d : List Int) : List Int × List Int × Int := movesUp 1048577 ar E q pk rot d
theorem movesOf_hit {ar : List (List Int)} {E : List (Int × Int)} {q : Nat} {pk : Nat → List Int → Int} {rot d : List Int} {i : Nat} {s : MSt} (hi : i < 1048577) (hs : mvN ar E q pk (start rot d d.length) i = s) (h1 : (liveL q s.2.1).length = 0)
    (h2 : ∀ j, j < i → (liveL q (mvN ar E q pk (start rot d d.length) j).2.1).length ≠ 0) : movesOf ar E q pk rot d = (s.1, s.2.2, 0) := movesUp_hit hi hs h1 h2
theorem movesOf_none {ar : List (List Int)} {E : List (Int × Int)} {q : Nat} {pk : Nat → List Int → Int} {rot d : List Int} (h2 : ∀ j, j < 1048577 → (liveL q (mvN ar E q pk (start rot d d.length) j).2.1).length ≠ 0) : movesOf ar E q pk rot d = ([], [], 12) := movesUp_none h2

end Go.Proofs.YtnigfddanoaonaaGreat

set_option linter.unusedVariables false
set_option linter.unusedSimpArgs false
set_option linter.unnecessarySimpa false
namespace Go.Proofs.YtnigfddanoaonaaGreat
open Go.RowKit

def MovesPost (B : Nat) (w : World) (x : List Int × List Int × Int) (e : Ending) (w' : World) : Prop :=
  ∃ rv cv, e = .returned (.tuple #[rv, cv, .int .i64 x.2.2]) ∧ OwnS intR 1 B 3 Non w' rv x.1 ∧ OwnS intR 1 B 3 Non w' cv x.2.1 ∧ Below B w w'

theorem pick0_any (l : List Int) (oa : Option Addr) (c : Nat) (F : Foot) (w : World) (hs : SliceR intR 1 F w oa l) (hl : l ≠ []) (hc : l.length ≤ c) : Calls Tryz.prog 80 #[.slice oa l.length c] w fun e w' => e = .returned (.int .i64 (l.headD 0)) ∧ w = w' := by
  have h0 : 0 < l.length := List.length_pos_iff.2 hl
  obtain ⟨x, _, hx, ix, b, off, rfl, _, c0⟩ := hs.int_at h0
  have HX : Hid (l.headD 0 = x) := by
    show _ = _
    cases l with
    | nil => exact absurd rfl hl
    | cons y r => simpa using hx
  have hlp : (0 : Int) < l.length := by omega
  simp only [Nat.add_zero] at c0
  clear hx hl
  go_enter Tryz.func80, Tryz.ntmps80
  go_wp2_with fail
  go_ret
  exact ⟨ret_int HX.out.symm, rfl⟩

set_option maxRecDepth 100000 in
set_option maxHeartbeats 4000000 in
theorem routeC_any (B : Nat) (w : World) (p rg cap : Nat) (tv : Value) (q : Nat) (n : Int) (es : List Edg) (ar : List (List Int)) (rot : List Int) (rest : List Value) (oa : Option Addr) (ca : Nat)
    (hD : Brd B w p rg cap tv q (.slice oa ar.length ca) (toL (endsL es)) rot rest) (ha : SliceR (slcR intR 1) 1 (Lt B) w oa ar) (hok : RtOk n es ar q rot) (hBw : B ≤ w.heap.size)
    (d : List Int) (od : Option Addr) (cd : Nat) (D : Foot) (hd : SliceR intR 1 D w od d) (hdc : d.length ≤ cd) (hdn : d.length = ar.length) (hdb : ∀ x ∈ d, -1048576 ≤ x ∧ x ≤ 1048576) :
    Calls Tryz.prog 79 #[.pointer (some ⟨p, 0, none⟩), .slice od d.length cd, .func (.func 80) #[] #[]] w (MovesPost B w (movesOf ar (endsL es) q pk0 rot d)) := by
  obtain ⟨S, hS⟩ : ∃ S, S = mvN ar (endsL es) q pk0 (start rot d d.length) := ⟨_, rfl⟩
  have HS := hide hS
  have hst := start_ok hok hdn hdb
  have HST := hide hst
  have hn12 := hok.n12
  have hq := hok.hq
  have hd0 : d ≠ [] := by intro e; rw [e] at hdn; simp at hdn; omega
  have hdl : d.length ≤ 12 := by omega
  replace hdn := hide hdn
  clear hS hst
  go_enter Tryz.func79, Tryz.ntmps79
  go_wp2_with (first
    | (go_at_call 112; refine (cloneD_any d od cd D w hd hdc (by omega)).mono ?_; rintro e w2 ⟨dv, rfl, hdv, hb2⟩; obtain ⟨dg, dcap, drest, rfl, hdg, hdcap, hdm, hdrow, hd64⟩ := hdv.row hd0; replace hdcap := hide hdcap; replace hd64 := hide hd64)
    | (at_make; refine wpList_make_row w2 rfl _ _ 63 rfl 3 (0 : Int) 8 Tryz.underlying63 iInfo rfl .i64 .i64 _ _ d.length rfl rfl rfl rfl (by omega) (by unfold maxLen; omega) ?_; intro w3 hcrow hb3 hg3)
    | fail)
  have hb23 := hb2.trans (hb3.mono hb2.size)
  have hD3 := hide ((hD.below hb2).below hb3)
  have hsz2 := hb2.size
  have hsz3 := hb3.size
  have hp1 := hD.box.lt
  have hrg1 := hD.row.lt
  have hpB := hD.pB
  have hgB := hD.gB
  have htv : ∀ g, tv.ownBlock = some g → B ≤ g ∧ g < w.heap.size := fun g hg => hD.tos.block g hg
  have hdrow3 := hdrow.below hb3
  have hdgl := hdrow.lt
  have hcgl := hcrow.lt
  have HB23 := hide hb23
  have hl0 : (S 0).1 = rot ∧ (S 0).2.1 = d ∧ (S 0).2.2 = List.replicate d.length 0 := by rw [HS.out]; exact ⟨rfl, rfl, rfl⟩
  have hS1 : ∀ i, S (i + 1) = mvS ar (endsL es) (S i) (pk0 i (liveL q (S i).2.1)).toNat := fun i => by rw [HS.out]; rfl
  have HS1 := hide hS1
  have hmv : ∀ i, (∀ j, j < i → (liveL q (S j).2.1).length ≠ 0) → MvOk n es ar q i (S i) := by
    rw [HS.out]
    exact mv_ok pk0_ok HST.out
  have HMV := hide hmv
  have hd3 := hD3
  obtain ⟨P, hP⟩ : ∃ P : Nat → World → Prop, P = fun i wr => Brd B wr p rg cap tv q (.slice oa ar.length ca) (toL (endsL es)) (S i).1 rest ∧ Row1 (Value.int .i64) wr dg 3 (S i).2.1 drest ∧ Row1 (Value.int .i64) wr w2.heap.size 3 (S i).2.2 [] ∧ Below B w wr ∧ w3.heap.size ≤ wr.heap.size ∧ (∀ j, j < i → (liveL q (S j).2.1).length ≠ 0) := ⟨_, rfl⟩
  have HPP := hide hP
  have h0 : P 0 w3 := by
    rw [hP]
    refine ⟨by rw [hl0.1]; exact hD3.out, by rw [hl0.2.1]; exact hdrow3, by rw [hl0.2.2]; exact hcrow, hb23.mono hBw, Nat.le_refl _, fun j hj => absurd hj (by omega)⟩
  clear hP hl0 hS1 hmv hd3 hD3 hdrow3 hdrow hcrow hb2 hb3 hb23 hg3 hdv hD
  go_wp2_with fail
  go_loopw [10] (fun nv wr => ∃ i : Nat, i ≤ 1048576 ∧ nv = .int .i64 i ∧ P i wr) (fun nv _ => 1048577 - (intOf nv).toNat)
  case atStart => exact ⟨0, by omega, rfl, h0⟩
  case round =>
    clear h0
    obtain ⟨i, hi, rfl, hPi⟩ := hrel
    rw [HPP.out] at hPi
    obtain ⟨hD, hdr, hcr, hlow, hsw, hno⟩ := hPi
    have hMV := HMV.out i hno
    have hll : (S i).2.1.length = d.length := by rw [hMV.ll, hdn.out]
    have htl : (S i).2.2.length = d.length := by rw [hMV.tl, hdn.out]
    have HNO := hide hno
    have HMVI := hide hMV
    have HDI := hide hD
    have HLL := hide hll
    have HTL := hide htl
    have HDR := hide hdr
    have HCR := hide hcr
    have HLOW := hide hlow
    have d0 := hD.box.cell 0
    simp only [List.getElem?_cons_zero] at d0
    clear hno hMV hD hll htl hdr hcr hlow
    go_wp2_with fail
    obtain ⟨wo, hwo⟩ : ∃ wo : World, wo = wr := ⟨_, rfl⟩
    subst hwo
    go_loopw [24, 11] (fun kv lv wi => ∃ k : Nat, k ≤ d.length ∧ kv = .int .i64 k ∧ OwnN wo.heap.size 3 wi lv (liveP q (S i).2.1 k) ∧ Below wo.heap.size wo wi) (fun kv _ _ => d.length - (intOf kv).toNat)
    case atStart => exact ⟨0, by omega, rfl, OwnN.nil, Below.refl _ _⟩
    case round =>
      clear d0
      obtain ⟨k, hk, rfl, hown, hbi⟩ := hrel
      have hsi := hbi.size
      have hDi := HDI.out.below hbi
      have d0 := hDi.box.cell 0
      simp only [List.getElem?_cons_zero] at d0
      have hpl := hDi.box.lt
      by_cases hlt : k < d.length
      · obtain ⟨x, hx⟩ : ∃ x, (S i).2.1[k]? = some x := ⟨_, List.getElem?_eq_getElem (by rw [HLL.out]; exact hlt)⟩
        have c0 := (HDR.out.below hbi).cell hx
        have hlp := liveP_len q (S i).2.1 k
        by_cases hkq : k = q
        · have q1 : ((k : Int) != (q : Int)) = false := by simp [hkq]
          have HL1 : Hid (liveP q (S i).2.1 (k + 1) = liveP q (S i).2.1 k) := liveP_no hx (by intro h; exact h.1 hkq)
          clear hkq hx hDi
          go_wp2_with fail
          go_roundw
          case rel => exact ⟨k + 1, by omega, by go_num, by rw [HL1.out]; exact hown, hbi⟩
          case measure => simp [intOf]; omega
        · have q1 : ((k : Int) != (q : Int)) = true := by simp; omega
          by_cases hxp : 0 < x
          · have q2 : decide ((0 : Int) < x) = true := by simp [hxp]
            have HL1 : Hid (liveP q (S i).2.1 (k + 1) = liveP q (S i).2.1 k ++ [(k : Int)]) := liveP_yes hx hkq hxp
            have hone := one_cell (w := wr) (t := 3) (v := .int .i64 (k : Nat)) (j := 0) rfl
            have HBI := hide hbi
            clear hkq hx hxp hDi hbi
            generalize liveP q (S i).2.1 k = T at hown HL1 hlp
            go_wp2_with (first
              | (at_builtin; refine wpList_append_n rfl (.tmp 39) (.tmp 41) 23 rfl wo.heap.size 3 _ Tryz.underlying23 intInfo8 rfl _ T rfl (hown.new _) ⟨wr.heap.size, 0, none⟩ 1 (k : Int) rfl hone (by constructor <;> omega) (by omega) (by simp; omega) ?_; intro v' w6 ho6 hb6 hg6 hv6)
              | fail)
            go_roundw
            case rel => exact ⟨k + 1, by omega, by go_num, by rw [HL1.out]; exact ho6, (HBI.out.alloc (by omega) _).trans hb6⟩
            case measure => simp [intOf]; omega
          · have q2 : decide ((0 : Int) < x) = false := by simp; omega
            have HL1 : Hid (liveP q (S i).2.1 (k + 1) = liveP q (S i).2.1 k) := liveP_no hx (by intro h; exact hxp h.2)
            clear hkq hx hxp hDi
            go_wp2_with fail
            go_roundw
            case rel => exact ⟨k + 1, by omega, by go_num, by rw [HL1.out]; exact hown, hbi⟩
            case measure => simp [intOf]; omega
      · have hke : k = d.length := by omega
        have hlq : liveP q (S i).2.1 k = liveL q (S i).2.1 := by unfold liveL; rw [hke, HLL.out]
        rw [hlq] at hown
        have HBI := hide hbi
        obtain ⟨lo, lc, rfl, hlc, hls⟩ := hown.slice
        have hTL : (liveL q (S i).2.1).length ≤ 12 := by have h1 := liveP_len q (S i).2.1 (S i).2.1.length; have h2 := HLL.out; unfold liveL; omega
        obtain ⟨T, hT⟩ : ∃ T, T = liveL q (S i).2.1 := ⟨_, rfl⟩
        have HT := hide hT
        rw [← hT] at hown hlc hls hTL ⊢
        have d3 := hDi.box.cell 3
        simp only [List.getElem?_cons_zero, List.getElem?_cons_succ] at d3
        have HDW := hide hDi
        have HDRW := hide (HDR.out.below hbi)
        have HCRW := hide (HCR.out.below hbi)
        have HLW := hide (HLOW.out.trans (hbi.mono (by omega)))
        clear hke hlq hT hDi hbi
        by_cases hT0 : T.length = 0
        · have q1 : ((T.length : Int) == 0) = true := by simp [hT0]
          have HR : Hid (movesOf ar (endsL es) q pk0 rot d = ((S i).1, (S i).2.2, 0)) := by
            refine movesOf_hit (i := i) (s := S i) (by omega) (by rw [HS.out]) (by rw [← HT.out]; exact hT0) ?_
            rw [← HS.out]
            exact HNO.out
          have HT0 := hide hT0
          clear hT0
          go_wp2_with fail
          refine bodyPost_ret (results_tmp3 rfl _ _ _) rfl ⟨_, _, by rw [HR.out]; rfl, ?_, ?_, ?_⟩
          · rw [HR.out]
            exact HDW.out.own HMVI.out.rot.i64
          · rw [HR.out]
            have := HCRW.out.ownInts (base := B) (F := Non) (fun x hx => by have := HMVI.out.tb x hx; unfold I64; omega) (cap := d.length) (by omega) (by rw [HTL.out]; simp) (by unfold maxLen; omega)
            rw [HTL.out] at this
            exact this
          · exact HLW.out
        · have q1 : ((T.length : Int) == 0) = false := by simpa using hT0
          have HT0 := hide hT0
          have hTne : T ≠ [] := fun e => hT0 (by rw [e]; rfl)
          clear hT0
          by_cases hi2 : i = 1048576
          · have q2 : ((i : Int) == 1048576) = true := by simp; omega
            have HR : Hid (movesOf ar (endsL es) q pk0 rot d = ([], [], 12)) := by
              refine movesOf_none ?_
              rw [← HS.out]
              intro j hj
              by_cases hji : j = i
              · rw [hji, ← HT.out]; exact HT0.out
              · exact HNO.out j (by omega)
            replace hi2 := hide hi2
            clear hTne
            go_wp2_with fail
            refine bodyPost_ret (results_tmp3 rfl _ _ _) rfl ⟨_, _, by rw [HR.out]; rfl, ?_, ?_, ?_⟩
            · rw [HR.out]; exact OwnS.nil _ _ _ _ _ _
            · rw [HR.out]; exact OwnS.nil _ _ _ _ _ _
            · exact HLW.out
          · have q2 : ((i : Int) == 1048576) = false := by simp; omega
            have hi3 : i < 1048576 := by omega
            clear hi2
            have hmem : T.headD 0 ∈ T := by
              cases hTc : T with
              | nil => exact absurd hTc hTne
              | cons y r => simp
            rw [HT.out] at hmem
            obtain ⟨V, hV, hVl, hVq, hVp⟩ := live_mem hmem
            rw [← HT.out] at hV
            have hVd : V < d.length := by rw [← HLL.out]; exact hVl
            have HSN : Hid (S (i + 1) = mvS ar (endsL es) (S i) V) := by
              show _ = _
              rw [HS1.out i, ← HT.out]
              show mvS ar (endsL es) (S i) (T.headD 0).toNat = _
              rw [hV]
              rfl
            obtain ⟨xc, hxc⟩ : ∃ x, (S i).2.2[V]? = some x := ⟨_, List.getElem?_eq_getElem (by rw [HTL.out]; exact hVd)⟩
            obtain ⟨xd, hxd⟩ : ∃ x, (S i).2.1[V]? = some x := ⟨_, List.getElem?_eq_getElem hVl⟩
            have hcb := HMVI.out.tb xc (List.mem_of_getElem? hxc)
            have hdb2 := HMVI.out.lb xd (List.mem_of_getElem? hxd)
            have hVar : V < ar.length := by rw [← HMVI.out.ll]; exact hVl
            obtain ⟨hM2, hTo⟩ := HMVI.out.step hVar hVq
            have HNO2 : Hid (∀ j, j < i + 1 → (liveL q (S j).2.1).length ≠ 0) := fun j hj => by
              by_cases hji : j = i
              · rw [hji, ← HT.out]; exact HT0.out
              · exact HNO.out j (by omega)
            have cc0 := HCRW.out.cell hxc
            have cf0 := HCRW.out.free V
            have dd0 := HDRW.out.cell hxd
            have df0 := HDRW.out.free V
            have hpk := pick0_any T lo lc _ wr hls hTne hlc
            rw [hV] at hpk
            obtain ⟨W5, hW5⟩ : ∃ W5, wr.setCell ⟨w2.heap.size, V, none⟩ (.int .i64 (xc + 1)) = W5 := ⟨_, rfl⟩
            have hcr5 : Row1 (Value.int .i64) W5 w2.heap.size 3 (addL (S i).2.2 V 1) [] := by
              rw [← hW5]
              have := HCRW.out.put (i := V) (by rw [HTL.out]; exact hVd) (xc + 1)
              unfold addL
              rw [getD_of hxc]
              exact this
            have hdr5 : Row1 (Value.int .i64) W5 dg 3 (S i).2.1 drest := by rw [← hW5]; exact HDRW.out.other (by simp; omega) _
            have hD5 : Brd B W5 p rg cap tv q (.slice oa ar.length ca) (toL (endsL es)) (S i).1 rest := by
              rw [← hW5]
              refine HDW.out.keep fun j hj1 hj2 hor => Below.heap_setCell _ _ _ j ?_
              rcases hor with rfl | rfl | e
              · simp; omega
              · simp; omega
              · have := htv j e; simp; omega
            have hl5 : Below B w W5 := by rw [← hW5]; exact HLW.out.setCell (p := ⟨w2.heap.size, V, none⟩) (by simp; omega) _
            have hs5 : W5.heap.size = wr.heap.size := by rw [← hW5]; exact sized_set _ _ _
            have e5 := hdr5.cell hxd
            have g5 := hdr5.free V
            obtain ⟨W6, hW6⟩ : ∃ W6, W5.setCell ⟨dg, V, none⟩ (.int .i64 (xd - 1)) = W6 := ⟨_, rfl⟩
            have hcr6 : Row1 (Value.int .i64) W6 w2.heap.size 3 (addL (S i).2.2 V 1) [] := by rw [← hW6]; exact hcr5.other (by simp; omega) _
            have hdr6 : Row1 (Value.int .i64) W6 dg 3 (addL (S i).2.1 V (-1)) drest := by
              rw [← hW6]
              have := hdr5.put (i := V) hVl (xd - 1)
              unfold addL
              rw [getD_of hxd]
              exact this
            have hD6 : Brd B W6 p rg cap tv q (.slice oa ar.length ca) (toL (endsL es)) (S i).1 rest := by
              rw [← hW6]
              refine hD5.keep fun j hj1 hj2 hor => Below.heap_setCell _ _ _ j ?_
              rcases hor with rfl | rfl | e
              · simp; omega
              · simp; omega
              · have := htv j e; simp; omega
            have hl6 : Below B w W6 := by rw [← hW6]; exact hl5.setCell (p := ⟨dg, V, none⟩) (by simp; omega) _
            have hs6 : W6.heap.size = wr.heap.size := by rw [← hW6, sized_set]; exact hs5
            have hstep := step_okR hD6 (ha.keep (slcR_ok intR_ok (by decide)) (SameOn.of_lt hl6)) HMVI.out.rot hVar hVq
            obtain ⟨U, hU⟩ : ∃ U, U = stpV ar (endsL es) (S i).1 V := ⟨_, rfl⟩
            rw [← hU] at hstep hTo
            have HU := hide hU
            have hUd : U < (addL (S i).2.1 V (-1)).length := by rw [addL_len, HMVI.out.ll]; exact hTo
            obtain ⟨xu, hxu⟩ : ∃ x, (addL (S i).2.1 V (-1))[U]? = some x := ⟨_, List.getElem?_eq_getElem hUd⟩
            have hub : -4000000 ≤ xu ∧ xu ≤ 4000000 := by
              rcases addL_mem (List.mem_of_getElem? hxu) hVl with h4 | ⟨y, h4, e⟩
              · have := HMVI.out.lb xu h4; omega
              · have := HMVI.out.lb y h4; omega
            have hUdl : U < d.length := by rw [← hdn.out] at hTo; exact hTo
            have HM2 := hide hM2
            have HC6 := hide hcr6
            have HD6' := hide hdr6
            have HL6 := hide hl6
            have HHU := hide hxu
            clear hM2 hcr5 hdr5 hD5 hl5 hcr6 hdr6 hD6 hl6 hU hxc hxd hmem hVp hls hown hTne hxu
            go_wp2_with (first
              | (go_at_call 80; refine hpk.mono ?_; rintro e w' ⟨rfl, rfl⟩)
              | (go_at_call 113; refine hstep.mono ?_; rintro e W7 ⟨rfl, hD7, hg7⟩; have hdr7 := HD6'.out.keep (hg7.block dg (by omega) (fun e => by injection e; omega)); have hcr7 := HC6.out.keep (hg7.block w2.heap.size (by omega) (fun e => by injection e; omega)); have hl7 := HL6.out.grown hg7 (by omega) (fun j hj => by injection hj with hj; omega); have dd7 := hdr7.cell HHU.out; have df7 := hdr7.free U; have hs7 := hg7.size; replace hdr7 := hide hdr7; replace hcr7 := hide hcr7; replace hl7 := hide hl7; replace hD7 := hide hD7; replace hg7 := hide hg7)
              | fail)
            have hci : ((i + 1 : Nat) : Int) = (i : Int) + 1 := by omega
            refine ⟨⟨i + 1, by omega, by rw [hci], ?_⟩, by simp [intOf]; omega⟩
            rw [HPP.out]
            have hUl : U < (addL (S i).2.1 V (-1)).length := hUd
            have e1 : (S (i + 1)).1 = stpR ar (S i).1 V := by rw [HSN.out]; rfl
            have e2 : (S (i + 1)).2.1 = (addL (S i).2.1 V (-1)).set U (xu + 1) := by
              rw [HSN.out]
              show addL (addL (S i).2.1 V (-1)) (stpV ar (endsL es) (S i).1 V) 1 = _
              rw [← HU.out]
              unfold addL
              rw [show (((S i).2.1.set V ((S i).2.1.getD V 0 + -1)).getD U 0) = xu from getD_of HHU.out]
            have e3 : (S (i + 1)).2.2 = addL (S i).2.2 V 1 := by rw [HSN.out]; rfl
            refine ⟨?_, ?_, ?_, ?_, ?_, HNO2.out⟩
            · rw [e1]
              refine hD7.out.keep fun j hj1 hj2 hor => Below.heap_setCell _ _ _ j ?_
              rcases hor with rfl | rfl | e
              · simp; omega
              · simp; omega
              · have := htv j e; simp; omega
            · rw [e2]; exact hdr7.out.put hUl (xu + 1)
            · rw [e3]; exact hcr7.out.other (by simp; omega) _
            · exact hl7.out.setCell (p := ⟨dg, U, none⟩) (by simp; omega) _
            · rw [sized_set]; omega

end Go.Proofs.YtnigfddanoaonaaGreat

set_option linter.unusedVariables false
set_option linter.unusedSimpArgs false
set_option linter.unnecessarySimpa false
namespace Go.Proofs.YtnigfddanoaonaaGreat
open Go.RowKit

def allRes (n : Int) (es : List Edg) (f : List Nat) (ar : List (List Int)) (q : Int) (rot d : List Int) : List Int × List Int × Int :=
  if gvE n es f ar q rot d = 0 then movesOf ar (endsL es) q.toNat pk0 rot d else ([], [], gvE n es f ar q rot d)

theorem gvE_zero {n : Int} {es : List Edg} {f : List Nat} {ar : List (List Int)} {q : Int} {rot d : List Int} (h : gvE n es f ar q rot d = 0) : rtE n es f ar q rot = 0 ∧ dErr n d = 0 := by
  unfold gvE at h
  split at h
  · rename_i h1
    split at h
    · rename_i h2; exact ⟨h1, h2⟩
    · rename_i h2; exact absurd h h2
  · rename_i h1; exact absurd h h1

set_option maxRecDepth 100000 in
set_option maxHeartbeats 4000000 in
theorem rotAll_any (n : Int) (es : List Edg) (oe : Option Addr) (c : Nat) (ar : List (List Int)) (oa : Option Addr) (ca : Nat) (F G : Foot) (w : World) (hs : SliceR edgR 3 F w oe es) (hc : es.length ≤ c) (hc2 : es.length ≤ 1000)
    (ha : SliceR (slcR intR 1) 1 G w oa ar) (hac : ar.length ≤ ca) (hac2 : ar.length ≤ 9223372036854775807) (f : List Nat) (hU : Hid (gErr n es = 0 → Uf f (eL es)))
    (q : Int) (rot : List Int) (ot : Option Addr) (ct : Nat) (H : Foot) (hr : SliceR intR 1 H w ot rot) (hrc : rot.length ≤ ct) (hrl : rot.length ≤ 9223372036854775807)
    (d : List Int) (od : Option Addr) (cd : Nat) (D : Foot) (hd : SliceR intR 1 D w od d) (hdc : d.length ≤ cd) (hdl : d.length ≤ 9223372036854775807) :
    Calls Tryz.prog 31 #[.agg #[.int .i64 n, .slice oe es.length c, .slice oa ar.length ca], .int .i64 q, .slice ot rot.length ct, .slice od d.length cd] w (MovesPost w.heap.size w (allRes n es f ar q rot d)) := by
  go_enter Tryz.func31, Tryz.ntmps31
  go_wp2_with fail
  have hb0 := box_refl w (.cells #[.int .i64 n, .slice oe es.length c, .slice oa ar.length ca] 52)
  have haB : SliceR (slcR intR 1) 1 (Lt (w.heap.size + 1)) (w.alloc (.cells #[.int .i64 n, .slice oe es.length c, .slice oa ar.length ca] 52)) oa ar := by
    have := (ha.below (slcR_ok intR_ok (by decide)) (below_box hb0)).loc (slcR_ok intR_ok (by decide)) (by decide)
    simpa using this
  refine (given_any n es oe c ar oa ca F G _ (hs.below edgR_ok (below_box hb0)) hc hc2 (ha.below (slcR_ok intR_ok (by decide)) (below_box hb0)) hac hac2 f hU q rot ot ct H (hr.below intR_ok (below_box hb0)) hrc hrl d od cd D (hd.below intR_ok (below_box hb0)) hdc hdl).mono ?_
  rintro e w2 (⟨hG, p, rg, cap, tv, rest, rfl, hD, hb2⟩ | ⟨hG, rfl, hb2⟩)
  · have hx2 := hb2.mono (B' := w.heap.size + 1) (by simp)
    have HX := hide (below_box hx2)
    have hD2 : Brd (w.heap.size + 1) w2 p rg cap tv q (.slice oa ar.length ca) (toL (endsL es)) rot rest := hD.rebase (by simp)
    have ha2 : SliceR (slcR intR 1) 1 (Lt (w.heap.size + 1)) w2 oa ar := haB.below (slcR_ok intR_ok (by decide)) hb2
    have hsz2 := box_lt hx2
    obtain ⟨h1, h2⟩ := gvE_zero hG
    obtain ⟨q', rfl, hok⟩ := RtOk.of h1 hc2
    obtain ⟨k1, k2, k3⟩ := dErr_zero h2
    have HR : Hid (allRes n es f ar q' rot d = movesOf ar (endsL es) q' pk0 rot d) := if_pos hG
    have hrt := routeC_any (w.heap.size + 1) w2 p rg cap tv q' n es ar rot rest oa ca hD2 ha2 hok (by omega) d od cd D (hd.below intR_ok HX.out) hdc (by have := hok.nar; omega) k3
    have HRT := hide hrt
    clear hb2 hb0 hx2 hD hD2 haB ha2 h1 h2 hok k1 k2 k3 hG hrt
    go_wp2_with fail
    refine HRT.out.mono ?_
    rintro e w3 ⟨rv, cv, rfl, ho1, ho2, hb3⟩
    have HF : Hid (OwnS intR 1 w.heap.size 3 Non w3 rv (movesOf ar (endsL es) q' pk0 rot d).1 ∧ OwnS intR 1 w.heap.size 3 Non w3 cv (movesOf ar (endsL es) q' pk0 rot d).2.1 ∧ Below w.heap.size w w3) := ⟨ho1.rebase (by omega), ho2.rebase (by omega), HX.out.trans (hb3.mono (by omega))⟩
    clear ho1 ho2 hb3
    go_wp2_with fail
    refine bodyPost_ret (results_tmp3 rfl _ _ _) rfl ⟨_, _, by rw [HR.out]; rfl, ?_⟩
    rw [HR.out]
    exact HF.out
  · have HX := hide (below_box (hb2.mono (B' := w.heap.size + 1) (by simp)))
    have HR : Hid (allRes n es f ar q rot d = ([], [], gvE n es f ar q rot d)) := if_neg hG
    have hq : (gvE n es f ar q rot d != 0) = true := by simpa using hG
    clear hb2 hb0 haB hG
    go_wp2_with fail
    refine bodyPost_ret (results_tmp3 rfl _ _ _) rfl ⟨_, _, by rw [HR.out]; rfl, ?_⟩
    rw [HR.out]
    exact ⟨OwnS.nil _ _ _ _ _ _, OwnS.nil _ _ _ _ _ _, HX.out⟩

end Go.Proofs.YtnigfddanoaonaaGreat

set_option linter.unusedVariables false
set_option linter.unusedSimpArgs false
set_option linter.unnecessarySimpa false
namespace Go.Proofs.YtnigfddanoaonaaGreat
open Go.RowKit Go.Shelf

/-- Where the rotor at u points, and where one is behind i such steps. -/
def stV (ar : List (List Int)) (E : List (Int × Int)) (rot : List Int) (u : Nat) : Nat := (hv E (oppH ((ar.getD u []).getD (rot.getD u 0).toNat 0).toNat)).toNat
def itV (ar : List (List Int)) (E : List (Int × Int)) (rot : List Int) (v : Nat) : Nat → Nat
  | 0 => v
  | i + 1 => stV ar E rot (itV ar E rot v i)
/-- The marks of ranges that are over. -/
def Marks (B : Nat) (ds : List Deferred) (w : World) : Prop := ∃ Ds : List Nat, ds = Ds.map (fun D => ({ target := .collected D, args := #[] } : Deferred)) ∧ Ds.Nodup ∧ ∀ D ∈ Ds, B ≤ D ∧ w.heap[D]? = some (.deferred (some []))
theorem Marks.nil (B : Nat) (w : World) : Marks B [] w := ⟨[], rfl, List.nodup_nil, fun _ h => by cases h⟩
theorem Marks.cons {B D : Nat} {ds : List Deferred} {w w' : World} (h : Marks B ds w) (hb : ∀ k, B ≤ k → k < w.heap.size → w'.heap[k]? = w.heap[k]?) (hD : w.heap.size ≤ D) (hB : B ≤ w.heap.size) (hk : w'.heap[D]? = some (.deferred (some []))) : Marks B ({ target := .collected D, args := #[] } :: ds) w' := by
  obtain ⟨Ds, rfl, h1, h2⟩ := h
  have hl : ∀ D' ∈ Ds, D' < w.heap.size := fun D' hD' => (Array.getElem?_eq_some_iff.1 (h2 D' hD').2).1
  refine ⟨D :: Ds, rfl, List.nodup_cons.2 ⟨fun hm => ?_, h1⟩, fun D' hD' => ?_⟩
  · have := hl D hm; omega
  · rcases List.mem_cons.1 hD' with rfl | hm
    · exact ⟨by omega, hk⟩
    · exact ⟨(h2 D' hm).1, (hb D' (h2 D' hm).1 (hl D' hm)).trans (h2 D' hm).2⟩
theorem Marks.keep {B : Nat} {ds : List Deferred} {w w' : World} (h : Marks B ds w) (hb : ∀ k, B ≤ k → w'.heap[k]? = w.heap[k]?) : Marks B ds w' := by
  obtain ⟨Ds, e, h1, h2⟩ := h
  exact ⟨Ds, e, h1, fun D' hD' => ⟨(h2 D' hD').1, (hb D' (h2 D' hD').1).trans (h2 D' hD').2⟩⟩
theorem Marks.below {B : Nat} {ds : List Deferred} {w w' : World} (h : Marks B ds w) (hb : Below w.heap.size w w') : Marks B ds w' := by
  obtain ⟨Ds, e, h1, h2⟩ := h
  exact ⟨Ds, e, h1, fun D' hD' => ⟨(h2 D' hD').1, (hb.block D' (Array.getElem?_eq_some_iff.1 (h2 D' hD').2).1).trans (h2 D' hD').2⟩⟩
/-- Between the yields of a way that only looks: the count in box b, and what lay before. -/
structure LA (wr : World) (b k : Nat) (W : World) : Prop where
  cnt : Boxed W b 3 (.int .i64 (k : Int))
  low : Below wr.heap.size wr W
theorem LA.from {β : Type} {wr : World} {b B : Nat} (hB : wr.heap.size ≤ B) (k : β → Nat) : OwnFrom B (fun (s : β) W => LA wr b (k s) W) := fun s X Y row h hg hr =>
  ⟨boxed_own b 3 (fun s : β => Value.int .i64 (k s : Nat)) s X Y row h.cnt hg (fun r e => (hr r e).2), ownFrom_below (β := Unit) (Nat.le_refl _) hB () X Y row h.low hg hr⟩
end Go.Proofs.YtnigfddanoaonaaGreat

set_option linter.unusedVariables false
set_option linter.unusedSimpArgs false
set_option linter.unnecessarySimpa false
namespace Go.Proofs.YtnigfddanoaonaaGreat
open Go.RowKit Go.Shelf

attribute [local go_sem] Oper.semAt_some

/-- From each vertex one comes to the sink, before len steps. -/
def acyB (ar : List (List Int)) (E : List (Int × Int)) (q : Nat) (rot : List Int) (m k : Nat) : Bool := (List.range k).all fun v => (firstAt (itV ar E rot v) q m).isSome

def BoolErr (w : World) (b : Bool) (x : Int) (e : Ending) (w' : World) : Prop := e = .returned (.tuple #[.bool b, .int .i64 x]) ∧ Below w.heap.size w w'

section
variable (n : Int) (es : List Edg) (oe : Option Addr) (c : Nat) (ar : List (List Int)) (oa : Option Addr) (ca : Nat) (F G : Foot) (w : World) (hs : SliceR edgR 3 F w oe es) (hc : es.length ≤ c) (hc2 : es.length ≤ 1000)
    (ha : SliceR (slcR intR 1) 1 G w oa ar) (hac : ar.length ≤ ca) (hac2 : ar.length ≤ 9223372036854775807) (f : List Nat) (hU : Hid (gErr n es = 0 → Uf f (eL es)))
    (q : Int) (rot : List Int) (ot : Option Addr) (ct : Nat) (H : Foot) (hr : SliceR intR 1 H w ot rot) (hrc : rot.length ≤ ct) (hrl : rot.length ≤ 9223372036854775807)
include hs hc hc2 ha hac hac2 hU hr hrc hrl

/-- Whether rotors are acyclic, or the error. -/
def acycRes (n : Int) (es : List Edg) (f : List Nat) (ar : List (List Int)) (q : Int) (rot : List Int) : Bool × Int :=
  if rtE n es f ar q rot = 0 then (acyB ar (endsL es) q.toNat rot rot.length rot.length, 0) else (false, rtE n es f ar q rot)
end

end Go.Proofs.YtnigfddanoaonaaGreat

set_option linter.unusedVariables false
set_option linter.unusedSimpArgs false
namespace Go.Proofs.YtnigfddanoaonaaGreat
open Go.RowKit

end Go.Proofs.YtnigfddanoaonaaGreat

set_option linter.unusedVariables false
set_option linter.unusedSimpArgs false
namespace Go.Proofs.YtnigfddanoaonaaGreat
open Go.RowKit

def triN : Nwk := ⟨[sinkP, topP [⟨0, 0⟩, ⟨2, 0⟩], topP [⟨0, 0⟩, ⟨1, 0⟩]], [0, 0, 0], [[0], [2], [1]]⟩
def triM : Nwk := ⟨triN.procs, [0, 1, 0], [[0], [0], [0]]⟩
def triZ : Nwk := ⟨[sinkP, turnP [0, 2], turnP [0, 1]], [0, 0, 0], [[0], [1], [0]]⟩
theorem tn_sand : sandR 3 triE (forest triE) 0 [0, 2, 1] = (triN, 0) := by decide +kernel
theorem tn_ok : netErr triN = 0 := by decide +kernel
theorem tn_moves : movesS triN.waiting = [(1, 0), (2, 0)] := by decide +kernel
theorem tn_run : runX [0] 100 0 triN (triN.procs.map fun p => List.replicate p.letters.toNat (0 : Int)) = some (triM, [[2], [3], [2]]) := by decide +kernel
theorem tn_nab : nabR triN = (true, 0) := by decide +kernel
theorem tn_c1 : compR triN [[2], [3], [2]] = (true, 0) := by decide +kernel
theorem tn_c2 : compR triN [[4], [4], [3]] = (true, 0) := by decide +kernel
theorem tn_c3 : compR triN [[2], [2], [1]] = (false, 0) := by decide +kernel
theorem tn_rout : routR 3 triE (forest triE) triA 0 [0, 0, 0] [0, 1, 0] = (triZ, 0) := by decide +kernel
theorem tz_ok : netErr triZ = 0 := by decide +kernel
theorem tz_run : (runX [3] 100 0 triZ (triZ.procs.map fun p => List.replicate p.letters.toNat (0 : Int))).map (fun r => r.1.state) = some [0, 0, 1] := by decide +kernel

theorem neq_mvC1 (w : World) : (binOp .neq 80 (.agg #[.int .i64 1, .int .i64 0]) (.agg #[.int .i64 1, .int .i64 0])).run Tryz.prog w = .ok (.bool false) w := by kernel_rfl
theorem neq_mvC2 (w : World) : (binOp .neq 80 (.agg #[.int .i64 2, .int .i64 0]) (.agg #[.int .i64 2, .int .i64 0])).run Tryz.prog w = .ok (.bool false) w := by kernel_rfl
theorem neqGuard_mv (op : BinOp) (a b : Operand) (x y : Array Value) (w : World) : (eqGuard op 80 a b (.agg x) (.agg y)).run Tryz.prog w = .ok () w :=
  run_eqGuard_agg w op 80 a b x y (by kernel_rfl)
set_option maxHeartbeats 1000000 in
theorem eqMv2_any (oa ob : Option Addr) (c d : Nat) (F G : Foot) (w : World) (hs : SliceR mvR 2 F w oa [(1, 0), (2, 0)]) (ht : SliceR mvR 2 G w ob [(1, 0), (2, 0)]) :
    Calls Tryz.prog 41 #[.slice oa 2 c, .slice ob 2 d] w fun e w' => e = .returned (.bool true) ∧ Below w.heap.size w w' := by
  go_enter Tryz.func41, Tryz.ntmps41
  go_wp2_with fail
  go_loopw [13] (fun i wr => ∃ k : Nat, k ≤ 2 ∧ i = .int .i64 k ∧ Below w.heap.size w wr) (fun i _ => 2 - (intOf i).toNat)
  case atStart => exact ⟨0, by omega, rfl, Below.refl _ _⟩
  case round =>
    obtain ⟨k, hk, rfl, hb⟩ := hrel
    have q1 := neqGuard_mv
    have q2 := neq_mvC1
    have q3 := neq_mvC2
    by_cases hlt : k < 2
    · obtain ⟨a, b, hg, b1, off1, rfl, _, c0, c1⟩ := (hs.below mvR_ok hb).mv_at (i := k) hlt
      obtain ⟨a', b', hg', b2, off2, rfl, _, e0, e1⟩ := (ht.below mvR_ok hb).mv_at (i := k) hlt
      have HB := hide hb
      rcases (by omega : k = 0 ∨ k = 1) with rfl | rfl
      · simp at hg hg'
        obtain ⟨rfl, rfl⟩ := hg
        obtain ⟨rfl, rfl⟩ := hg'
        simp at c0 c1 e0 e1
        clear hs ht hb
        go_wp2_with fail
        go_quiet (fail)
        go_wp2_with fail
        go_roundw
        case rel => exact ⟨1, by omega, by go_num, below_drewN HB.out _⟩
        case measure => simp [intOf]
      · simp at hg hg'
        obtain ⟨rfl, rfl⟩ := hg
        obtain ⟨rfl, rfl⟩ := hg'
        simp at c0 c1 e0 e1
        clear hs ht hb
        go_wp2_with fail
        go_quiet (fail)
        go_wp2_with fail
        go_roundw
        case rel => exact ⟨2, by omega, by go_num, below_drewN HB.out _⟩
        case measure => simp [intOf]
    · have hk2 : k = 2 := by omega
      subst hk2
      go_wp2_with fail
      go_ret
      exact ⟨rfl, hb⟩

end Go.Proofs.YtnigfddanoaonaaGreat

set_option linter.unusedVariables false
namespace Go.Proofs.YtnigfddanoaonaaGreat
open Go.RowKit

def QuietB (b : Bool) (w : World) (e : Ending) (w' : World) : Prop := e = .returned (.bool b) ∧ ∃ m, w' = w.drewN m
theorem QuietB.below {b : Bool} {w : World} {e : Ending} {w' : World} (h : QuietB b w e w') : e = .returned (.bool b) ∧ Below w.heap.size w w' := by
  obtain ⟨rfl, m, rfl⟩ := h
  exact ⟨rfl, below_drewN (Below.refl _ _) _⟩
theorem drawn_more {w wr : World} (h : Hid (∃ n, wr = w.drewN n)) (k : Nat) : ∃ n, wr.drewN k = w.drewN n := by
  obtain ⟨n, rfl⟩ := h.out
  exact ⟨n + k, by rw [World.drewN_drewN]⟩
theorem drawn_slice {α : Type} {R : Rep α} {sz : Nat} {F : Foot} {oa : Option Addr} {xs : List α} {w wr : World} (h : Hid (∃ n, wr = w.drewN n)) (ok : RepOk R sz) (hs : SliceR R sz F w oa xs) : SliceR R sz F wr oa xs := by
  obtain ⟨n, rfl⟩ := h.out
  exact hs.drewN ok n
theorem tabR_ok : RepOk (slcR intR 1) 1 := slcR_ok intR_ok (by omega)

set_option maxHeartbeats 400000 in
theorem sameInts08_any (l m : List Int) (oa ob : Option Addr) (c d : Nat) (F G : Foot) (w : World) (hs : SliceR intR 1 F w oa l) (ht : SliceR intR 1 G w ob m) (hc2 : l.length ≤ 9223372036854775807) :
    Calls Tryz.prog 47 #[.slice oa l.length c, .slice ob m.length d] w (QuietB (decide (l = m)) w) := by
  by_cases hlen : l.length = m.length
  case neg =>
    have hl' : ((l.length : Int) != m.length) = true := by simp; omega
    have HL : Hid (decide (l = m) = false) := decide_eq_false fun h => hlen (by rw [h])
    clear hlen
    go_enter Tryz.func47, Tryz.ntmps47
    go_wp2_with fail
    go_ret; exact ⟨ret_bool HL.out.symm, 0, rfl⟩
  have hl' : ((l.length : Int) != m.length) = false := by simp [hlen]
  have HL := hide hlen
  clear hlen
  go_enter Tryz.func47, Tryz.ntmps47
  go_wp2_with fail
  go_loopw [5] (fun i wr => ∃ k : Nat, k ≤ l.length ∧ i = .int .i64 k ∧ Hid (l = m ↔ l.drop k = m.drop k) ∧ Hid (∃ n, wr = w.drewN n)) (fun i _ => l.length - (intOf i).toNat)
  case atStart => exact ⟨0, by omega, rfl, Iff.rfl, 0, rfl⟩
  case round =>
    obtain ⟨k, hk, rfl, HE, HW⟩ := hrel
    by_cases hlt : k < l.length
    · obtain ⟨x, hd, _, _, b, off, rfl, _, c0⟩ := (drawn_slice HW intR_ok hs).int_at hlt
      have hlt2 : k < m.length := by rw [← HL.out]; exact hlt
      obtain ⟨x', hd', _, _, b', off', rfl, _, c0'⟩ := (drawn_slice HW intR_ok ht).int_at hlt2
      have HD := hide hd
      have HD' := hide hd'
      clear hd hd' hs ht
      by_cases hx : x = x'
      · obtain rfl := hx
        go_wp2_with fail
        go_quiet (fail)
        go_wp2_with fail
        go_roundw
        case rel =>
          refine ⟨k + 1, by omega, by go_num, ?_, drawn_more HW nq⟩
          show _ ↔ _
          rw [HE.out, HD.out, HD'.out]; simp
        case measure => simp [intOf]; omega
      · have hne : (x != x') = true := by simp [hx]
        have HX := hide hx
        clear hx
        go_wp2_with fail
        go_quiet (fail)
        go_wp2_with fail
        go_ret
        refine ⟨ret_bool ?_, drawn_more HW nq⟩
        symm
        refine decide_eq_false fun h => HX.out ?_
        have h2 := HE.out.1 h
        rw [HD.out, HD'.out] at h2
        simp at h2
        exact h2.1
    · go_wp2_with fail
      go_ret
      refine ⟨ret_bool ?_, HW.out⟩
      symm
      refine decide_eq_true (HE.out.2 ?_)
      rw [List.drop_eq_nil_of_le (by omega), List.drop_eq_nil_of_le (by have := HL.out; omega)]

set_option maxHeartbeats 400000 in
theorem sameTables_any (l m : List (List Int)) (oa ob : Option Addr) (c d : Nat) (F G : Foot) (w : World) (hs : SliceR (slcR intR 1) 1 F w oa l) (ht : SliceR (slcR intR 1) 1 G w ob m) (hc2 : l.length ≤ 9223372036854775807) :
    Calls Tryz.prog 15 #[.slice oa l.length c, .slice ob m.length d] w (QuietB (decide (l = m)) w) := by
  by_cases hlen : l.length = m.length
  case neg =>
    have hl' : ((l.length : Int) != m.length) = true := by simp; omega
    have HL : Hid (decide (l = m) = false) := decide_eq_false fun h => hlen (by rw [h])
    clear hlen
    go_enter Tryz.func15, Tryz.ntmps15
    go_wp2_with fail
    go_ret; exact ⟨ret_bool HL.out.symm, 0, rfl⟩
  have hl' : ((l.length : Int) != m.length) = false := by simp [hlen]
  have HL := hide hlen
  clear hlen
  go_enter Tryz.func15, Tryz.ntmps15
  go_wp2_with fail
  go_loopw [5] (fun i wr => ∃ k : Nat, k ≤ l.length ∧ i = .int .i64 k ∧ Hid (l = m ↔ l.drop k = m.drop k) ∧ Hid (∃ n, wr = w.drewN n)) (fun i _ => l.length - (intOf i).toNat)
  case atStart => exact ⟨0, by omega, rfl, Iff.rfl, 0, rfl⟩
  case round =>
    obtain ⟨k, hk, rfl, HE, HW⟩ := hrel
    by_cases hlt : k < l.length
    · obtain ⟨x, hd, _, b, off, oa', c', rfl, _, c0, _, hl2, hsx⟩ := (drawn_slice HW tabR_ok hs).slc_at hlt
      have hlt2 : k < m.length := by rw [← HL.out]; exact hlt
      obtain ⟨x', hd', _, b', off', ob', d', rfl, _, c0', _, _, hsx'⟩ := (drawn_slice HW tabR_ok ht).slc_at hlt2
      have HD := hide hd
      have HD' := hide hd'
      have HC : Hid (∀ k, Calls Tryz.prog 47 #[.slice oa' x.length c', .slice ob' x'.length d'] (wr.drewN k) (QuietB (decide (x = x')) (wr.drewN k))) := fun k => sameInts08_any x x' oa' ob' c' d' F G _ (hsx.drewN intR_ok k) (hsx'.drewN intR_ok k) hl2
      clear hd hd' hs ht hsx hsx'
      by_cases hx : x = x'
      · rw [decide_eq_true hx] at HC
        obtain ⟨lx, hlx⟩ : ∃ n, n = x.length := ⟨_, rfl⟩
        obtain ⟨ly, hly⟩ : ∃ n, n = x'.length := ⟨_, rfl⟩
        have HX := hide hx
        rw [← hlx] at c0 HC
        rw [← hly] at c0' HC
        clear hx hlx hly
        go_wp2_with fail
        go_quiet ((go_at_call 47; exact Calls.quiet_of (HC.out _)))
        go_wp2_with fail
        go_roundw
        case rel =>
          refine ⟨k + 1, by omega, by go_num, ?_, drawn_more HW nq⟩
          show _ ↔ _
          rw [HE.out, HD.out, HD'.out, HX.out]; simp
        case measure => simp [intOf]; omega
      · rw [decide_eq_false hx] at HC
        obtain ⟨lx, hlx⟩ : ∃ n, n = x.length := ⟨_, rfl⟩
        obtain ⟨ly, hly⟩ : ∃ n, n = x'.length := ⟨_, rfl⟩
        have HX := hide hx
        rw [← hlx] at c0 HC
        rw [← hly] at c0' HC
        clear hx hlx hly
        go_wp2_with fail
        go_quiet ((go_at_call 47; exact Calls.quiet_of (HC.out _)))
        go_wp2_with fail
        go_ret
        refine ⟨ret_bool ?_, drawn_more HW nq⟩
        symm
        refine decide_eq_false fun h => HX.out ?_
        have h2 := HE.out.1 h
        rw [HD.out, HD'.out] at h2
        simp at h2
        exact h2.1
    · go_wp2_with fail
      go_ret
      refine ⟨ret_bool ?_, HW.out⟩
      symm
      refine decide_eq_true (HE.out.2 ?_)
      rw [List.drop_eq_nil_of_le (by omega), List.drop_eq_nil_of_le (by have := HL.out; omega)]

end Go.Proofs.YtnigfddanoaonaaGreat

set_option linter.unusedVariables false
set_option linter.unusedSimpArgs false
namespace Go.Proofs.YtnigfddanoaonaaGreat
open Go.RowKit

theorem i64n {x : Int} (h : 0 ≤ x ∧ x ≤ 100) : I64 x := by unfold I64; omega
/-- A table of three rows of one number each, as a literal lays it. -/
def tab3W (w : World) (x y z : Int) : World := (((w.alloc (.cells #[.int .i64 x] 3)).alloc (.cells #[.int .i64 y] 3)).alloc (.cells #[.int .i64 z] 3)).alloc (.cells #[.slice (some ⟨w.heap.size, 0, none⟩) 1 1, .slice (some ⟨w.heap.size + 1, 0, none⟩) 1 1, .slice (some ⟨w.heap.size + 1 + 1, 0, none⟩) 1 1] 23)
theorem tab3_lit (w : World) (x y z : Int) (hx : I64 x) (hy : I64 y) (hz : I64 z) : SliceR (slcR intR 1) 1 All (tab3W w x y z) (some ⟨w.heap.size + 1 + 1 + 1, 0, none⟩) [[x], [y], [z]] := by
  have a1 := intlF (F := All) w x hx trivial
  have a2 := intlF (F := All) (w.alloc (.cells #[.int .i64 x] 3)) y hy trivial
  have a3 := intlF (F := All) ((w.alloc (.cells #[.int .i64 x] 3)).alloc (.cells #[.int .i64 y] 3)) z hz trivial
  simp only [World.size_alloc] at a1 a2 a3
  have b1 := (a1.below intR_ok (bnew (Below.refl _ _) (.cells #[.int .i64 y] 3))).below intR_ok (bnew (Below.refl _ _) (.cells #[.int .i64 z] 3))
  have b2 := a2.below intR_ok (bnew (Below.refl _ _) (.cells #[.int .i64 z] 3))
  have := SliceR.lit (F := All) (G := All) (slcR_ok intR_ok (by decide)) (((w.alloc (.cells #[.int .i64 x] 3)).alloc (.cells #[.int .i64 y] 3)).alloc (.cells #[.int .i64 z] 3)) 23
    [[.slice (some ⟨w.heap.size, 0, none⟩) 1 1], [.slice (some ⟨w.heap.size + 1, 0, none⟩) 1 1], [.slice (some ⟨w.heap.size + 1 + 1, 0, none⟩) 1 1]] [[x], [y], [z]] (fun i q hq => by
      match i, hq with
      | 0, hq => simp at hq; subst hq; exact ⟨_, rfl, _, _, rfl, by simp, by simp, b1⟩
      | 1, hq => simp at hq; subst hq; exact ⟨_, rfl, _, _, rfl, by simp, by simp, b2⟩
      | 2, hq => simp at hq; subst hq; exact ⟨_, rfl, _, _, rfl, by simp, by simp, a3⟩
      | i + 3, hq => simp at hq) rfl (fun _ h => h) trivial
  unfold tab3W
  simpa using this
theorem tab3_below (w : World) (x y z : Int) : Below w.heap.size w (tab3W w x y z) := bnew (bnew (bnew (bnew (Below.refl _ _) _) _) _) _
def NxAt (W : World) (oq os ow : Option Addr) (x : Nwk) : Prop := SliceR prcR 3 All W oq x.procs ∧ SliceR intR 1 All W os x.state ∧ SliceR (slcR intR 1) 1 All W ow x.waiting
theorem NxAt.below {W W' : World} {oq os ow : Option Addr} {x : Nwk} (h : NxAt W oq os ow x) (hb : Below W.heap.size W W') : NxAt W' oq os ow x := ⟨h.1.below prcR_ok hb, h.2.1.below intR_ok hb, h.2.2.below (slcR_ok intR_ok (by decide)) hb⟩
def mv2Lit (w : World) : World := w.alloc (.cells #[.int .i64 1, .int .i64 0, .int .i64 2, .int .i64 0] 80)
theorem mv2_lit (w : World) : SliceR mvR 2 All (mv2Lit w) (some ⟨w.heap.size, 0, none⟩) [(1, 0), (2, 0)] :=
  SliceR.lit (F := All) mvR_ok w 80 [[.int .i64 1, .int .i64 0], [.int .i64 2, .int .i64 0]] _ (fun i q hq => by
    match i, hq with
    | 0, hq => simp at hq; subst hq; exact ⟨_, rfl, rfl⟩
    | 1, hq => simp at hq; subst hq; exact ⟨_, rfl, rfl⟩
    | i + 2, hq => simp at hq) rfl (fun _ h => h) trivial
/-- Run at three rows' counts. -/
theorem tri_few : ∀ t ∈ triN.waiting, ∀ k ∈ t, k ≤ 40 := by decide
theorem triZ_few : ∀ t ∈ triZ.waiting, ∀ k ∈ t, k ≤ 40 := by decide

set_option maxRecDepth 100000 in
set_option maxHeartbeats 8000000 in
theorem awake55_any (w : World) : Calls Tryz.prog 12 #[] w fun e w' => e = .returned (.bool true) ∧ Below w.heap.size w w' := by
  have hU : Hid (gErr 3 triE = 0 → Uf (forest triE) (eL triE)) := forest_ok 3 triE
  go_enter Tryz.func12, Tryz.ntmps12
  go_wp2_with (first
    | (go_at_call 39; refine (tri18_any _).mono ?_; rintro e w2 ⟨g, rfl, hE, hb2⟩; have HE := hide hE; have HB2 := hide hb2; clear hE hb2)
    | (go_at_call 19; refine (nsand_any 3 triE _ 3 (Ge w.heap.size) _ (HE.out.below edgR_ok (bnew (Below.refl _ _) _)) (by decide) (by decide) (forest triE) hU 0 [0, 2, 1] (some ⟨w2.heap.size, 0, none⟩) 3 All (by have h := ints_lit (F := All) (G := All) w2 3 [0, 2, 1] (by intro x hx; simp at hx; rcases hx with rfl | rfl | rfl <;> exact i64n (by decide)) trivial; simpa using h) (by decide) (by decide)).mono ?_
       rw [tn_sand]
       rintro e w4 ⟨v, rfl, ⟨oq, cq, os, cs, ow, cw, hv, h1, h2, h3, hp, hs, ht⟩, hb4⟩
       have hv' : v = .agg #[.slice oq 3 cq, .slice os 3 cs, .slice ow 3 cw] := hv
       subst hv'
       have HN4 : Hid (NxAt w4 oq os ow triN) := ⟨hp, hs, ht⟩
       have HB4 := hide (HB2.out.trans ((bnew (Below.refl _ _) _).trans (hb4.mono (by rw [alloc_size']; omega)) |>.mono HB2.out.size))
       obtain ⟨W5, e5⟩ : ∃ W5, w4.alloc (.cells #[.slice oq 3 cq, .slice os 3 cs, .slice ow 3 cw] 26) = W5 := ⟨_, rfl⟩
       have hx5 : Box W5 w4.heap.size [.slice oq 3 cq, .slice os 3 cs, .slice ow 3 cw] 26 := (by rw [← e5]; exact Box.new w4 [.slice oq 3 cq, .slice os 3 cs, .slice ow 3 cw] 26)
       have hb5 : Below w4.heap.size w4 W5 := (by rw [← e5]; exact bnew (Below.refl _ _) _)
       have HN5 := hide (HN4.out.below hb5)
       have HB5 := hide (HB4.out.trans (hb5.mono HB4.out.size))
       have HX5 := hide hx5
       have k0 := hx5.cell 0
       have k1 := hx5.cell 1
       have k2 := hx5.cell 2
       simp only [List.getElem?_cons_zero, List.getElem?_cons_succ] at k0 k1 k2
       clear hv h1 h2 h3 hp hs ht hb4 hx5 hb5)
    | (go_at_call 40; refine (nmv_any triN oq cq os cs ow cw All W5 HN5.out.1 HN5.out.2.1 HN5.out.2.2 tn_ok).mono ?_
       rw [tn_moves]
       rintro e w6 ⟨v6, rfl, h6, hb6⟩
       obtain ⟨o6, c6, hv6, _, hs6⟩ := h6.slice mvR_ok
       have hv6' : v6 = .slice o6 2 c6 := hv6
       subst hv6'
       have HM6 : Hid (SliceR mvR 2 All w6 o6 [(1, 0), (2, 0)]) := hs6.all mvR_ok (by decide)
       have HN6 := hide (HN5.out.below hb6)
       have HB6 := hide (HB5.out.trans (hb6.mono HB5.out.size))
       have hx6 := HX5.out.below hb6
       have HX6 := hide hx6
       have k0 := hx6.cell 0
       have k1 := hx6.cell 1
       have k2 := hx6.cell 2
       simp only [List.getElem?_cons_zero, List.getElem?_cons_succ] at k0 k1 k2
       clear h6 hv6 hs6 hb6 hx6)
    | (go_at_call 13; first
       | (refine (nrun_any triN oq cq os cs ow cw [0] (some ⟨w6.heap.size, 0, none⟩) 1 100 All (w6.alloc (.cells #[.int .i64 0] 3)) (HN6.out.below (bnew (Below.refl _ _) _)).1 (HN6.out.below (bnew (Below.refl _ _) _)).2.1 (HN6.out.below (bnew (Below.refl _ _) _)).2.2 tn_ok (intlF w6 0 (i64n (by decide)) trivial) (by decide) (by decide) (by decide) tri_few).mono ?_
          rw [tn_run]
          rintro e w8 ⟨v, oc, cc, rfl, ⟨oq2, cq2, os2, cs2, ow2, cw2, hv, h1, h2, h3, hp, hs, ht⟩, hcc, hct, hb8⟩
          have hv' : v = .agg #[.slice oq2 3 cq2, .slice os2 3 cs2, .slice ow2 3 cw2] := hv
          subst hv'
          have hbb : Below w6.heap.size w6 w8 := (bnew (Below.refl _ _) _).trans (hb8.mono (by rw [alloc_size']; omega))
          have HS8 : Hid (SliceR intR 1 All w8 os2 [0, 1, 0]) := hs
          have HCT8 : Hid (SliceR (slcR intR 1) 1 All w8 oc [[2], [3], [2]]) := hct
          have HC8 : Hid (3 ≤ cc) := hcc
          have HCS2 : Hid (3 ≤ cs2) := h2
          obtain ⟨W9, e9⟩ : ∃ W9, w8.alloc (.cells #[.slice oq2 3 cq2, .slice os2 3 cs2, .slice ow2 3 cw2] 26) = W9 := ⟨_, rfl⟩
          have hx9 : Box W9 w8.heap.size [.slice oq2 3 cq2, .slice os2 3 cs2, .slice ow2 3 cw2] 26 := (by rw [← e9]; exact Box.new w8 [.slice oq2 3 cq2, .slice os2 3 cs2, .slice ow2 3 cw2] 26)
          have hb9 : Below w8.heap.size w8 W9 := (by rw [← e9]; exact bnew (Below.refl _ _) _)
          have hb69 : Below w6.heap.size w6 W9 := hbb.trans (hb9.mono hbb.size)
          have HS9 := hide (HS8.out.below intR_ok hb9)
          have HCT9 := hide (HCT8.out.below (slcR_ok intR_ok (by decide)) hb9)
          have HM9 := hide (HM6.out.below mvR_ok hb69)
          have HN9 := hide (HN6.out.below hb69)
          have HB9 := hide (HB6.out.trans (hb69.mono HB6.out.size))
          have hx1 := HX6.out.below hb69
          have HX9 := hide hx1
          have HY9 := hide hx9
          have k0 := hx1.cell 0
          have k1 := hx1.cell 1
          have k2 := hx1.cell 2
          have l1 := hx9.cell 1
          simp only [List.getElem?_cons_zero, List.getElem?_cons_succ] at k0 k1 k2 l1
          clear hv h1 h2 h3 hp hs ht hb8 hx9 hb9 hbb hb69 hx1 hct hcc))
    | (go_at_call 41; refine (eqMv2_any o6 (some ⟨W9.heap.size, 0, none⟩) c6 2 All All (mv2Lit W9) (HM9.out.below mvR_ok (bnew (Below.refl _ _) _)) (mv2_lit W9)).mono ?_
       rintro e w10 ⟨rfl, hb10⟩
       have hb : Below W9.heap.size W9 w10 := (bnew (Below.refl _ _) _).trans (hb10.mono (by unfold mv2Lit; rw [alloc_size']; omega))
       have hy := HY9.out.below hb
       have l1 := hy.cell 1
       simp only [List.getElem?_cons_zero, List.getElem?_cons_succ] at l1
       have HB10 := hide hb
       clear hb10 hb hy))
  -- the state
  refine (equalInt_any [0, 1, 0] [0, 1, 0] os2 (some ⟨w10.heap.size, 0, none⟩) cs2 3 All _ ((HS9.out.below intR_ok HB10.out).below intR_ok (bnew (Below.refl _ _) _)) (by have h := ints_lit (F := All) (G := All) w10 3 [0, 1, 0] (by intro x hx; simp at hx; rcases hx with rfl | rfl | rfl <;> exact i64n (by decide)) trivial; simpa using h) HCS2.out (by decide)).mono ?_
  rintro e w11 ⟨rfl, hb11⟩
  have hb9_11 : Below W9.heap.size W9 w11 := HB10.out.trans (((bnew (Below.refl _ _) _).trans (hb11.mono (by rw [alloc_size']; omega))).mono HB10.out.size)
  have HB11 := hide hb9_11
  rw [show decide (([0, 1, 0] : List Int) = [0, 1, 0]) = true from rfl]
  clear hb11 hb9_11
  go_wp2_with fail
  refine (sameTables_any [[2], [3], [2]] [[2], [3], [2]] oc (some ⟨w11.heap.size + 1 + 1 + 1, 0, none⟩) cc 3 All All (tab3W w11 2 3 2) ((HCT9.out.below (slcR_ok intR_ok (by decide)) HB11.out).below (slcR_ok intR_ok (by decide)) (tab3_below _ _ _ _)) (tab3_lit w11 2 3 2 (i64n (by decide)) (i64n (by decide)) (i64n (by decide))) (by decide)).mono ?_
  rintro e w12 hq
  obtain ⟨rfl, hb12⟩ := hq.below
  have hb9_12 : Below W9.heap.size W9 w12 := HB11.out.trans (((tab3_below w11 2 3 2).trans (hb12.mono (tab3_below w11 2 3 2).size)).mono HB11.out.size)
  rw [show decide (([[2], [3], [2]] : List (List Int)) = [[2], [3], [2]]) = true from rfl]
  have HB12 := hide hb9_12
  have hx1 := HX9.out.below hb9_12
  have k0 := hx1.cell 0
  have k1 := hx1.cell 1
  have k2 := hx1.cell 2
  simp only [List.getElem?_cons_zero, List.getElem?_cons_succ] at k0 k1 k2
  clear hb12 hb9_12 hq hx1
  go_wp2_with fail
  -- Complete, three times
  have HN12 := hide (HN9.out.below HB12.out)
  refine (ncomplete_any triN oq cq os cs ow cw All w12 HN12.out.1 (by decide) HN12.out.2.1 (by decide) HN12.out.2.2 (by decide) [[2], [3], [2]] oc cc All (HCT9.out.below (slcR_ok intR_ok (by decide)) HB12.out) HC8.out (by decide)).mono ?_
  rw [tn_c1]
  rintro e w13 ⟨rfl, hb13⟩
  have HB13 := hide (HB12.out.trans (hb13.mono HB12.out.size))
  have HN13 := hide (HN12.out.below hb13)
  have hx1 := HX9.out.below HB13.out
  have k0 := hx1.cell 0
  have k1 := hx1.cell 1
  have k2 := hx1.cell 2
  simp only [List.getElem?_cons_zero, List.getElem?_cons_succ] at k0 k1 k2
  clear hb13 hx1
  go_wp2_with fail
  refine (ncomplete_any triN oq cq os cs ow cw All (tab3W w13 4 4 3) (HN13.out.below (tab3_below _ _ _ _)).1 (by decide) (HN13.out.below (tab3_below _ _ _ _)).2.1 (by decide) (HN13.out.below (tab3_below _ _ _ _)).2.2 (by decide) [[4], [4], [3]] (some ⟨w13.heap.size + 1 + 1 + 1, 0, none⟩) 3 All (tab3_lit w13 4 4 3 (i64n (by decide)) (i64n (by decide)) (i64n (by decide))) (by decide) (by decide)).mono ?_
  rw [tn_c2]
  rintro e w14 ⟨rfl, hb14⟩
  have hb1314 : Below w13.heap.size w13 w14 := (tab3_below w13 4 4 3).trans (hb14.mono (tab3_below w13 4 4 3).size)
  have HB14 := hide (HB13.out.trans (hb1314.mono HB13.out.size))
  have HN14 := hide (HN13.out.below hb1314)
  have hx1 := HX9.out.below HB14.out
  have k0 := hx1.cell 0
  have k1 := hx1.cell 1
  have k2 := hx1.cell 2
  simp only [List.getElem?_cons_zero, List.getElem?_cons_succ] at k0 k1 k2
  clear hb14 hb1314 hx1
  go_wp2_with fail
  refine (ncomplete_any triN oq cq os cs ow cw All (tab3W w14 2 2 1) (HN14.out.below (tab3_below _ _ _ _)).1 (by decide) (HN14.out.below (tab3_below _ _ _ _)).2.1 (by decide) (HN14.out.below (tab3_below _ _ _ _)).2.2 (by decide) [[2], [2], [1]] (some ⟨w14.heap.size + 1 + 1 + 1, 0, none⟩) 3 All (tab3_lit w14 2 2 1 (i64n (by decide)) (i64n (by decide)) (i64n (by decide))) (by decide) (by decide)).mono ?_
  rw [tn_c3]
  rintro e w15 ⟨rfl, hb15⟩
  have hb1415 : Below w14.heap.size w14 w15 := (tab3_below w14 2 2 1).trans (hb15.mono (tab3_below w14 2 2 1).size)
  have HB15 := hide (HB14.out.trans (hb1415.mono HB14.out.size))
  have HN15 := hide (HN14.out.below hb1415)
  have hx1 := HX9.out.below HB15.out
  have k0 := hx1.cell 0
  have k1 := hx1.cell 1
  have k2 := hx1.cell 2
  simp only [List.getElem?_cons_zero, List.getElem?_cons_succ] at k0 k1 k2
  clear hb15 hb1415 hx1
  go_wp2_with fail
  refine (nabelian_any triN oq cq os cs ow cw All w15 HN15.out.1 (by decide) HN15.out.2.1 (by decide) HN15.out.2.2 (by decide)).mono ?_
  rw [tn_nab]
  rintro e w16 ⟨rfl, hb16⟩
  have HB16 := hide (HB9.out.trans ((HB15.out.trans (hb16.mono HB15.out.size)).mono HB9.out.size))
  clear hb16 k0 k1 k2
  go_wp2_with fail
  -- the rotors
  refine (tri45_any w16).mono ?_
  rintro e w17 ⟨g2, h2, rfl, hE2, hA2, hb17⟩
  have HE2 := hide hE2
  have HA2 := hide hA2
  have HB17 := hide (HB16.out.trans (hb17.mono HB16.out.size))
  clear hE2 hA2 hb17
  go_wp2_with fail
  have hz1 : SliceR intR 1 All ((w17.alloc (.cells #[.int .i64 0, .int .i64 0, .int .i64 0] 3)).alloc (.cells #[.int .i64 0, .int .i64 1, .int .i64 0] 3)) (some ⟨w17.heap.size, 0, none⟩) [0, 0, 0] := by
    have h := ints_lit (F := All) (G := All) w17 3 [0, 0, 0] (by intro x hx; simp at hx; subst hx; exact i64n (by decide)) trivial
    simp only [List.map_cons, List.map_nil] at h
    exact h.below intR_ok (bnew (Below.refl _ _) _)
  have hz2 : SliceR intR 1 All ((w17.alloc (.cells #[.int .i64 0, .int .i64 0, .int .i64 0] 3)).alloc (.cells #[.int .i64 0, .int .i64 1, .int .i64 0] 3)) (some ⟨w17.heap.size + 1, 0, none⟩) [0, 1, 0] := by
    have h := ints_lit (F := All) (G := All) (w17.alloc (.cells #[.int .i64 0, .int .i64 0, .int .i64 0] 3)) 3 [0, 1, 0] (by intro x hx; simp at hx; rcases hx with rfl | rfl | rfl <;> exact i64n (by decide)) trivial
    rw [alloc_size'] at h
    simpa using h
  have hbz : Below w17.heap.size w17 ((w17.alloc (.cells #[.int .i64 0, .int .i64 0, .int .i64 0] 3)).alloc (.cells #[.int .i64 0, .int .i64 1, .int .i64 0] 3)) := bnew (bnew (Below.refl _ _) _) _
  have HBZ := hide hbz
  refine (nrout_any 3 triE (some ⟨g2, 0, none⟩) 3 triA (some ⟨h2, 0, none⟩) 3 All All _ (HE2.out.below edgR_ok hbz) (by decide) (by decide) (HA2.out.below (slcR_ok intR_ok (by decide)) hbz) (by decide) (by decide) (forest triE) hU 0 [0, 0, 0] (some ⟨w17.heap.size, 0, none⟩) 3 All hz1 (by decide) (by decide) [0, 1, 0] (some ⟨w17.heap.size + 1, 0, none⟩) 3 All hz2 (by decide) (by decide)).mono ?_
  rw [tn_rout]
  rintro e w18 ⟨v, rfl, ⟨oz, cz, osz, csz, owz, cwz, hv, h1, h2', h3, hp, hs, ht⟩, hb18⟩
  have hv' : v = .agg #[.slice oz 3 cz, .slice osz 3 csz, .slice owz 3 cwz] := hv
  subst hv'
  have HN18 : Hid (NxAt w18 oz osz owz triZ) := ⟨hp, hs, ht⟩
  have HB18 := hide (HB17.out.trans ((HBZ.out.trans (hb18.mono HBZ.out.size)).mono HB17.out.size))
  obtain ⟨W19, e19⟩ : ∃ W19, w18.alloc (.cells #[.slice oz 3 cz, .slice osz 3 csz, .slice owz 3 cwz] 26) = W19 := ⟨_, rfl⟩
  have hx19 : Box W19 w18.heap.size [.slice oz 3 cz, .slice osz 3 csz, .slice owz 3 cwz] 26 := by rw [← e19]; exact Box.new w18 [.slice oz 3 cz, .slice osz 3 csz, .slice owz 3 cwz] 26
  have hb19 : Below w18.heap.size w18 W19 := by rw [← e19]; exact bnew (Below.refl _ _) _
  have HN19 := hide (HN18.out.below hb19)
  have HB19 := hide (HB18.out.trans (hb19.mono HB18.out.size))
  have k0 := hx19.cell 0
  have k1 := hx19.cell 1
  have k2 := hx19.cell 2
  simp only [List.getElem?_cons_zero, List.getElem?_cons_succ] at k0 k1 k2
  clear hv h1 h2' h3 hp hs ht hb18 hz1 hz2 hbz hx19 hb19
  go_wp2_with fail
  have HNR := hide (nrun_any triZ oz cz osz csz owz cwz [3] (some ⟨W19.heap.size, 0, none⟩) 1 100 All (W19.alloc (.cells #[.int .i64 3] 3)) (HN19.out.below (bnew (Below.refl _ _) _)).1 (HN19.out.below (bnew (Below.refl _ _) _)).2.1 (HN19.out.below (bnew (Below.refl _ _) _)).2.2 tz_ok (intlF W19 3 (i64n (by decide)) trivial) (by decide) (by decide) (by decide) triZ_few)
  obtain ⟨r, hr⟩ : ∃ r, r = runX [3] 100 0 triZ (triZ.procs.map fun p => List.replicate p.letters.toNat (0 : Int)) := ⟨_, rfl⟩
  have hst : r.map (fun r => r.1.state) = some [0, 0, 1] := by rw [hr]; exact tz_run
  rw [← hr] at HNR
  obtain ⟨⟨yz, cz2⟩, hrs, hyst⟩ := Option.map_eq_some_iff.1 hst
  rw [hrs] at HNR
  clear hr hst hrs
  refine HNR.out.mono ?_
  rintro e w20 ⟨v, oc2, cc2, rfl, ⟨oq3, cq3, os3, cs3, ow3, cw3, hv, h1, h2', h3, hp, hs, ht⟩, hcc, hct, hb20⟩
  simp only at hyst
  rw [hyst] at hv h2' hs
  have hv' : v = .agg #[.slice oq3 yz.procs.length cq3, .slice os3 3 cs3, .slice ow3 yz.waiting.length cw3] := hv
  subst hv'
  obtain ⟨np, hnp⟩ : ∃ np, np = yz.procs.length := ⟨_, rfl⟩
  obtain ⟨nw, hnw⟩ : ∃ nw, nw = yz.waiting.length := ⟨_, rfl⟩
  obtain ⟨nc, hnc⟩ : ∃ nc, nc = cz2.length := ⟨_, rfl⟩
  rw [← hnp, ← hnw, ← hnc]
  have HS20 := hide hs
  have HCS3 : Hid (3 ≤ cs3) := h2'
  have HB20 := hide (HB19.out.trans (((bnew (Below.refl _ _) _).trans (hb20.mono (by rw [alloc_size']; omega))).mono HB19.out.size))
  obtain ⟨W21, e21⟩ : ∃ W21, w20.alloc (.cells #[.slice oq3 np cq3, .slice os3 3 cs3, .slice ow3 nw cw3] 26) = W21 := ⟨_, rfl⟩
  have hx21 : Box W21 w20.heap.size [.slice oq3 np cq3, .slice os3 3 cs3, .slice ow3 nw cw3] 26 := by rw [← e21]; exact Box.new w20 [.slice oq3 np cq3, .slice os3 3 cs3, .slice ow3 nw cw3] 26
  have hb21 : Below w20.heap.size w20 W21 := by rw [← e21]; exact bnew (Below.refl _ _) _
  have HS21 := hide (HS20.out.below intR_ok hb21)
  have HB21 := hide (HB20.out.trans (hb21.mono HB20.out.size))
  have m1 := hx21.cell 1
  simp only [List.getElem?_cons_zero, List.getElem?_cons_succ] at m1
  clear hv h1 h2' h3 hp hs ht hb20 hct hcc hyst hx21 hb21 hnp hnw hnc k0 k1 k2
  go_wp2_with fail
  refine (equalInt_any [0, 0, 1] [0, 0, 1] os3 (some ⟨W21.heap.size, 0, none⟩) cs3 3 All _ (HS21.out.below intR_ok (bnew (Below.refl _ _) _)) (by have h := ints_lit (F := All) (G := All) W21 3 [0, 0, 1] (by intro x hx; simp at hx; rcases hx with rfl | rfl | rfl <;> exact i64n (by decide)) trivial; simpa using h) HCS3.out (by decide)).mono ?_
  rintro e w22 ⟨rfl, hb22⟩
  have HB22 := hide (HB21.out.trans (((bnew (Below.refl _ _) _).trans (hb22.mono (by rw [alloc_size']; omega))).mono HB21.out.size))
  rw [show decide (([0, 0, 1] : List Int) = [0, 0, 1]) = true from rfl]
  clear hb22
  go_wp2_with fail
  go_ret
  exact ⟨rfl, HB22.out⟩

end Go.Proofs.YtnigfddanoaonaaGreat

set_option linter.unusedVariables false
set_option linter.unusedSimpArgs false
namespace Go.Proofs.YtnigfddanoaonaaGreat
open Go.RowKit

theorem comm_self (rs : List (List Rul)) (s a : Int) : commB rs s a a = true := by simp [commB]
theorem witS_one (rs : List (List Rul)) : ∀ n s, witS (commN rs) 1 n s = none
  | 0, s => rfl
  | n + 1, s => by
    have h : commN rs s 0 0 = true := comm_self rs s 0
    simp [witS, witA, witB, h, witS_one rs n]

end Go.Proofs.YtnigfddanoaonaaGreat

set_option linter.unusedVariables false
set_option linter.unusedSimpArgs false
namespace Go.Proofs.YtnigfddanoaonaaGreat
open Go.RowKit

theorem procsErr_of {N : Int} : ∀ {l : List Prc}, (∀ p ∈ l, checkErr p N = 0) → procsErr N l = 0
  | [], _ => rfl
  | x :: r, h => by unfold procsErr; rw [if_pos (h x (by simp))]; exact procsErr_of fun p hp => h p (by simp [hp])
theorem procsOk_of {procs : List Prc} : ∀ {l : List Prc}, (∀ p ∈ l, rowsOk procs p.rules = true) → procsOk procs l = true
  | [], _ => rfl
  | x :: r, h => by unfold procsOk; rw [if_pos (h x (by simp))]; exact procsOk_of fun p hp => h p (by simp [hp])
theorem statesErr_of : ∀ {l : List Int} {ps : List Prc}, (∀ (i : Nat) (s : Int) (p : Prc), l[i]? = some s → ps[i]? = some p → 0 ≤ s ∧ s < p.states) → statesErr l ps = 0
  | [], ps, _ => by cases ps <;> rfl
  | _ :: _, [], _ => rfl
  | x :: r, y :: ps, h => by
    have h0 := h 0 x y rfl rfl
    unfold statesErr
    rw [if_pos (by simpa [belowB] using h0)]
    exact statesErr_of fun i s p h1 h2 => h (i + 1) s p (by simpa using h1) (by simpa using h2)
theorem shapesErr_of : ∀ {l : List (List Int)} {ps : List Prc}, (∀ (i : Nat) (t : List Int) (p : Prc), l[i]? = some t → ps[i]? = some p → (t.length : Int) = p.letters) → shapesErr l ps = 0
  | [], ps, _ => by cases ps <;> rfl
  | _ :: _, [], _ => rfl
  | x :: r, y :: ps, h => by
    unfold shapesErr
    rw [if_pos (h 0 x y rfl rfl)]
    exact shapesErr_of fun i s p h1 h2 => h (i + 1) s p (by simpa using h1) (by simpa using h2)
theorem numsErr_of : ∀ {l : List Int}, (∀ k ∈ l, 0 ≤ k ∧ k ≤ 1048576) → numsErr l = 0
  | [], _ => rfl
  | x :: r, h => by unfold numsErr; rw [if_pos (h x (by simp))]; exact numsErr_of fun p hp => h p (by simp [hp])
theorem tableErr_of : ∀ {l : List (List Int)}, (∀ k ∈ l, numsErr k = 0) → tableErr l = 0
  | [], _ => rfl
  | x :: r, h => by unfold tableErr; rw [if_pos (h x (by simp))]; exact tableErr_of fun p hp => h p (by simp [hp])
theorem netErr_of {x : Nwk} (hr : Right x) : netErr x = 0 := by
  have h1 := hr.n
  unfold netErr
  rw [if_neg (by omega), if_pos (procsErr_of fun p hp => by obtain ⟨i, hi⟩ := List.mem_iff_getElem?.1 hp; exact hr.proc i p hi), if_pos (procsOk_of fun p hp => by obtain ⟨i, hi⟩ := List.mem_iff_getElem?.1 hp; exact hr.und i p hi), if_pos hr.nst, if_pos (statesErr_of hr.st)]
  unfold waitsErr shapedErr
  rw [if_pos hr.nwt, if_pos (shapesErr_of hr.wl)]
  exact tableErr_of fun t ht => numsErr_of (hr.wb t ht)

/-- A right processor of one letter. -/
structure OneP (N : Nat) (p : Prc) : Prop where
  st : 1 ≤ p.states ∧ p.states ≤ 16
  lt : p.letters = 1
  ln : (p.rules.length : Int) = p.states
  row : ∀ row ∈ p.rules, ∃ r, row = [r] ∧ (0 ≤ r.next ∧ r.next < p.states) ∧ r.sent.length ≤ 16 ∧ ∀ o ∈ r.sent, (0 ≤ o.dst ∧ o.dst < N) ∧ o.letter = 0
theorem sentErr_of {N : Int} : ∀ {l : List Out}, (∀ o ∈ l, (0 ≤ o.dst ∧ o.dst < N) ∧ o.letter = 0) → sentErr N l = 0
  | [], _ => rfl
  | x :: r, h => by
    obtain ⟨h1, h2⟩ := h x (by simp)
    unfold sentErr
    rw [if_pos (by simp [belowB, h1, h2]), sentErr_of fun o ho => h o (by simp [ho])]
theorem rowsErr_of {S L N : Int} : ∀ {l : List (List Rul)}, (∀ r ∈ l, (r.length : Int) = L ∧ rowErr S N r = 0) → rowsErr S L N l = 0
  | [], _ => rfl
  | x :: r, h => by
    obtain ⟨h1, h2⟩ := h x (by simp)
    unfold rowsErr
    rw [if_pos h1, if_pos h2, rowsErr_of fun o ho => h o (by simp [ho])]
theorem OneP.check {N : Nat} {p : Prc} (h : OneP N p) (hN : 1 ≤ N ∧ N ≤ 12) : checkErr p N = 0 := by
  have h1 := h.st
  have h2 := h.lt
  unfold checkErr
  rw [if_neg (by omega), if_neg (by omega), if_neg (by simpa using h.ln)]
  refine rowsErr_of fun r hr => ?_
  obtain ⟨x, rfl, hx, hl, ho⟩ := h.row r hr
  refine ⟨by simp [h2], ?_⟩
  have he : ruleErr p.states N x = 0 := by
    unfold ruleErr
    rw [if_pos (by simp [belowB, hx]), if_pos hl, sentErr_of ho]
  unfold rowErr
  rw [if_pos he]
  rfl
theorem outsOk_of {procs : List Prc} : ∀ {l : List Out}, (∀ o ∈ l, o.letter < (procs.getD o.dst.toNat prc0).letters) → outsOk procs l = true
  | [], _ => rfl
  | x :: r, h => by unfold outsOk; rw [if_pos (h x (by simp)), outsOk_of fun o ho => h o (by simp [ho])]
theorem rowsOk_of {procs : List Prc} : ∀ {l : List (List Rul)}, (∀ r ∈ l, rulesOk procs r = true) → rowsOk procs l = true
  | [], _ => rfl
  | x :: r, h => by unfold rowsOk; rw [if_pos (h x (by simp)), rowsOk_of fun o ho => h o (by simp [ho])]
theorem one_right {x : Nwk} (hn : 1 ≤ x.procs.length ∧ x.procs.length ≤ 12) (hp : ∀ p ∈ x.procs, OneP x.procs.length p) (hs : x.state.length = x.procs.length)
    (hst : ∀ (i : Nat) (s : Int) (p : Prc), x.state[i]? = some s → x.procs[i]? = some p → 0 ≤ s ∧ s < p.states) (hw : x.waiting.length = x.procs.length) (hwl : ∀ t ∈ x.waiting, ∃ k, t = [k] ∧ 0 ≤ k ∧ k ≤ 1048576) : Right x where
  n := hn
  proc := fun i p h => (hp p (List.mem_of_getElem? h)).check hn
  und := fun i p h => by
    have h1 := hp p (List.mem_of_getElem? h)
    refine rowsOk_of fun r hr => ?_
    obtain ⟨y, rfl, _, _, ho⟩ := h1.row r hr
    have : outsOk x.procs y.sent = true := outsOk_of fun o hoo => by
      obtain ⟨e1, e2⟩ := ho o hoo
      have hl : o.dst.toNat < x.procs.length := by omega
      rw [List.getD_eq_getElem?_getD, List.getElem?_eq_getElem hl, Option.getD_some, (hp _ (List.getElem_mem hl)).lt, e2]
      omega
    unfold rulesOk
    rw [if_pos this]
    rfl
  nst := hs
  st := hst
  nwt := hw
  wl := fun i t p h1 h2 => by
    obtain ⟨k, rfl, _⟩ := hwl t (List.mem_of_getElem? h1)
    rw [(hp p (List.mem_of_getElem? h2)).lt]
    rfl
  wb := fun t ht k hk => by
    obtain ⟨z, rfl, hz⟩ := hwl t ht
    rw [List.mem_singleton] at hk
    subst hk
    exact hz
theorem one_comm {procs : List Prc} {N : Nat} (hp : ∀ p ∈ procs, OneP N p) : commP procs = true := by
  unfold commP
  rw [List.all_eq_true]
  intro p h
  rw [(hp p h).lt, show (1 : Int).toNat = 1 from rfl, witS_one]
  rfl
theorem one_sink {N : Nat} : OneP N sinkP where
  st := by decide
  lt := rfl
  ln := rfl
  row := fun r hr => ⟨⟨0, []⟩, by simpa [sinkP] using hr, by decide, by decide, fun o ho => by simp at ho⟩
theorem one_turn {N : Nat} {l : List Int} (h1 : 1 ≤ l.length ∧ l.length ≤ 16) (hl : ∀ x ∈ l, 0 ≤ x ∧ x < N) : OneP N (turnP l) where
  st := by unfold turnP; simp only; omega
  lt := rfl
  ln := by simp [turnP]
  row := fun r hr => by
    unfold turnP at hr
    obtain ⟨s, _, rfl⟩ := List.mem_map.1 hr
    have hm : (s + 1) % l.length < l.length := Nat.mod_lt _ (by omega)
    refine ⟨_, rfl, ⟨by simp only; omega, by unfold turnP; simp only; omega⟩, by simp, fun o ho => ?_⟩
    simp only [List.mem_singleton] at ho
    subst ho
    refine ⟨?_, rfl⟩
    simp only
    rw [List.getD_eq_getElem?_getD, List.getElem?_eq_getElem hm, Option.getD_some]
    exact hl _ (List.getElem_mem hm)
end Go.Proofs.YtnigfddanoaonaaGreat

set_option linter.unusedVariables false
set_option linter.unusedSimpArgs false
set_option linter.unnecessarySimpa false
namespace Go.Proofs.YtnigfddanoaonaaGreat
open Go.RowKit

theorem addL_get (l : List Int) (a b : Nat) (x : Int) : (addL l a x).getD b 0 = if a = b ∧ a < l.length then l.getD b 0 + x else l.getD b 0 := by
  unfold addL
  rw [List.getD_eq_getElem?_getD, List.getElem?_set]
  by_cases h : a = b
  · subst h
    by_cases h2 : a < l.length
    · simp [h2]
    · rw [if_pos rfl, if_neg h2, if_neg (by intro hh; exact h2 hh.2), List.getD_eq_getElem?_getD, List.getElem?_eq_none (by omega)]
  · rw [if_neg h, if_neg (by intro hh; exact h hh.1), List.getD_eq_getElem?_getD]
theorem addL_ext {l m : List Int} (h : l.length = m.length) (hg : ∀ b, l.getD b 0 = m.getD b 0) : l = m := by
  apply List.ext_getElem h
  intro i h1 h2
  have := hg i
  rw [getD_of (List.getElem?_eq_getElem h1), getD_of (List.getElem?_eq_getElem h2)] at this
  exact this
theorem addL_comm (l : List Int) (a b : Nat) (x y : Int) : addL (addL l a x) b y = addL (addL l b y) a x := by
  refine addL_ext (by simp [addL_len]) fun c => ?_
  rw [addL_get, addL_get, addL_get, addL_get, addL_len, addL_len]
  split <;> split <;> omega
theorem stpK_set (ar : List (List Int)) (rot : List Int) {u v : Nat} (h : u ≠ v) (k : Int) : stpK ar (rot.set u k) v = stpK ar rot v := by
  unfold stpK
  rw [List.getD_eq_getElem?_getD, List.getElem?_set_ne h, ← List.getD_eq_getElem?_getD]
theorem stpV_set (ar : List (List Int)) (E : List (Int × Int)) (rot : List Int) {u v : Nat} (h : u ≠ v) (k : Int) : stpV ar E (rot.set u k) v = stpV ar E rot v := by
  unfold stpV
  rw [stpK_set ar rot h]
/-- Two moves at different vertices, in either order. -/
theorem mvS_comm (ar : List (List Int)) (E : List (Int × Int)) (s : MSt) {u v : Nat} (h : u ≠ v) : mvS ar E (mvS ar E s u) v = mvS ar E (mvS ar E s v) u := by
  unfold mvS stpR
  simp only
  rw [stpK_set ar s.1 h, stpK_set ar s.1 (Ne.symm h), stpV_set ar E s.1 h, stpV_set ar E s.1 (Ne.symm h), List.set_comm _ _ h, addL_comm s.2.2 u v]
  congr 2
  rw [addL_comm (addL s.2.1 u (-1)) (stpV ar E s.1 u) v 1 (-1), addL_comm s.2.1 u v (-1) (-1), addL_comm (addL (addL s.2.1 v (-1)) u (-1)) (stpV ar E s.1 u) (stpV ar E s.1 v) 1 1, addL_comm (addL s.2.1 v (-1)) u (stpV ar E s.1 v) (-1) 1]

def Can (q : Nat) (s : MSt) (v : Nat) : Prop := v < s.2.1.length ∧ v ≠ q ∧ 0 < s.2.1.getD v 0
inductive Run (ar : List (List Int)) (E : List (Int × Int)) (q : Nat) : MSt → List Nat → MSt → Prop
  | nil (s : MSt) : Run ar E q s [] s
  | cons {s t : MSt} {v : Nat} {l : List Nat} : Can q s v → Run ar E q (mvS ar E s v) l t → Run ar E q s (v :: l) t
theorem Can.keep {ar : List (List Int)} {E : List (Int × Int)} {q u v : Nat} {s : MSt} (h : Can q s v) (hne : u ≠ v) : Can q (mvS ar E s u) v := by
  obtain ⟨h1, h2, h3⟩ := h
  refine ⟨by simp [mvS, addL_len]; exact h1, h2, ?_⟩
  show 0 < (addL (addL s.2.1 u (-1)) (stpV ar E s.1 u) 1).getD v 0
  rw [addL_get, addL_get, if_neg (c := u = v ∧ u < s.2.1.length) (by intro hh; exact hne hh.1)]
  split <;> omega
/-- Whoever can move may move first. -/
theorem Run.front {ar : List (List Int)} {E : List (Int × Int)} {q : Nat} {s t : MSt} {m : List Nat} (h : Run ar E q s m t) (hd : ∀ v, ¬ Can q t v) : ∀ v, Can q s v → ∃ m', Run ar E q (mvS ar E s v) m' t ∧ m.length = m'.length + 1 := by
  induction h with
  | nil s => exact fun v hv => absurd hv (hd v)
  | @cons s t u l hu hr ih =>
    intro v hv
    by_cases e : u = v
    · subst e
      exact ⟨l, hr, by simp⟩
    · obtain ⟨m', h1, h2⟩ := ih hd v (hv.keep e)
      rw [mvS_comm ar E s e] at h1
      exact ⟨u :: m', .cons (hu.keep (Ne.symm e)) h1, by simp [h2]⟩
/-- A run that ends is as long as every other one that ends, and ends in the same state; no run is longer. -/
theorem Run.rest {ar : List (List Int)} {E : List (Int × Int)} {q : Nat} {s t2 : MSt} {m2 : List Nat} (h2 : Run ar E q s m2 t2) : ∀ {t : MSt} {m : List Nat}, Run ar E q s m t → (∀ v, ¬ Can q t v) → ∃ m3, Run ar E q t2 m3 t ∧ m.length = m2.length + m3.length := by
  induction h2 with
  | nil s => exact fun h hd => ⟨_, h, by simp⟩
  | @cons s t2 v l hv hr ih =>
    intro t m h hd
    obtain ⟨m', h1, h3⟩ := h.front hd v hv
    obtain ⟨m3, h4, h5⟩ := ih h1 hd
    exact ⟨m3, h4, by simp; omega⟩
theorem Run.same {ar : List (List Int)} {E : List (Int × Int)} {q : Nat} {s t t2 : MSt} {m m2 : List Nat} (h : Run ar E q s m t) (hd : ∀ v, ¬ Can q t v) (h2 : Run ar E q s m2 t2) (hd2 : ∀ v, ¬ Can q t2 v) : t2 = t ∧ m2.length = m.length := by
  obtain ⟨m3, h3, h4⟩ := h2.rest h hd
  cases h3 with
  | nil => exact ⟨rfl, by simp at h4; omega⟩
  | cons hv _ => exact absurd hv (hd2 _)
theorem Run.append {ar : List (List Int)} {E : List (Int × Int)} {q : Nat} {s t u : MSt} {m l : List Nat} (h : Run ar E q s m t) (h2 : Run ar E q t l u) : Run ar E q s (m ++ l) u := by
  induction h with
  | nil s => simpa using h2
  | cons hv _ ih => exact .cons hv (ih h2)

end Go.Proofs.YtnigfddanoaonaaGreat

set_option linter.unusedVariables false
set_option linter.unusedSimpArgs false
set_option linter.unnecessarySimpa false
namespace Go.Proofs.YtnigfddanoaonaaGreat
open Go.RowKit

theorem first_or (f : Nat → Nat) (q : Nat) : ∀ M, (∃ i, i < M ∧ f i = q ∧ ∀ j, j < i → f j ≠ q) ∨ ∀ j, j < M → f j ≠ q
  | 0 => .inr fun j hj => absurd hj (by omega)
  | M + 1 => by
    rcases first_or f q M with ⟨i, h1, h2, h3⟩ | h
    · exact .inl ⟨i, by omega, h2, h3⟩
    · by_cases hM : f M = q
      · exact .inl ⟨M, by omega, hM, h⟩
      · refine .inr fun j hj => ?_
        rcases Nat.lt_or_ge j M with h1 | h1
        · exact h j h1
        · rw [show j = M by omega]; exact hM

theorem addL_undo {l : List Int} {v : Nat} {x y : Int} (h : x + y = 0) : addL (addL l v x) v y = l := by
  refine addL_ext (by simp [addL_len]) fun b => ?_
  rw [addL_get, addL_get, addL_len]
  split <;> omega

section
variable {ar : List (List Int)} {E : List (Int × Int)} {q : Nat}

theorem Run.len {s t : MSt} {m : List Nat} (h : Run ar E q s m t) : t.2.1.length = s.2.1.length ∧ t.2.2.length = s.2.2.length := by
  induction h with
  | nil s => exact ⟨rfl, rfl⟩
  | cons hv _ ih => exact ⟨by rw [ih.1]; simp [mvS, addL_len], by rw [ih.2]; simp [mvS, addL_len]⟩
theorem live_none {s : MSt} : (liveL q s.2.1).length = 0 ↔ ∀ v, ¬ Can q s v := by
  unfold liveL liveP
  rw [List.length_map, List.length_eq_zero_iff, List.filter_eq_nil_iff]
  constructor
  · intro h v hv
    exact h v (by simpa using hv.1) (by simp only [decide_eq_true_eq]; exact ⟨hv.2.1, hv.2.2⟩)
  · intro h v hv hh
    simp only [decide_eq_true_eq] at hh
    exact h v ⟨by simpa using hv, hh.1, hh.2⟩
theorem mvN_run {pk : Nat → List Int → Int} (hpk : Picks pk) (s : MSt) : ∀ i, (∀ j, j < i → (liveL q (mvN ar E q pk s j).2.1).length ≠ 0) → ∃ m, Run ar E q s m (mvN ar E q pk s i) ∧ m.length = i
  | 0, _ => ⟨[], .nil _, rfl⟩
  | i + 1, h => by
    obtain ⟨m, h1, h2⟩ := mvN_run hpk s i fun j hj => h j (by omega)
    have hm := hpk i _ (by intro e; exact h i (by omega) (by rw [e]; rfl) : liveL q (mvN ar E q pk s i).2.1 ≠ [])
    obtain ⟨v, h3, h4, h5, h6⟩ := live_mem hm
    refine ⟨m ++ [v], h1.append (.cons ⟨h4, h5, h6⟩ ?_), by simp [h2]⟩
    have e : mvN ar E q pk s (i + 1) = mvS ar E (mvN ar E q pk s i) v := by
      show mvS ar E (mvN ar E q pk s i) (pk i (liveL q (mvN ar E q pk s i).2.1)).toNat = _
      rw [h3]; rfl
    rw [e]
    exact .nil _

/-- A chip that is routed. -/
theorem chip_run {rot d t : List Int} {v : Nat} (hn : ∀ u, u ≠ q → 0 ≤ d.getD u 0) (hv : v < d.length) (hp : v ≠ q → 0 < d.getD v 0) (hb : ∀ i, (∀ j, j < i → chipV ar E rot v j ≠ q) → chipV ar E rot v i < d.length) :
    ∀ i, (∀ j, j < i → chipV ar E rot v j ≠ q) → ∃ m t', Run ar E q (rot, d, t) m (rotI ar E rot v i, addL (addL d v (-1)) (chipV ar E rot v i) 1, t') ∧ m.length = i
  | 0, _ => ⟨[], t, by
    show Run ar E q (rot, d, t) [] (rot, addL (addL d v (-1)) v 1, t)
    rw [addL_undo (by omega)]
    exact .nil _, rfl⟩
  | i + 1, h => by
    obtain ⟨m, t', h1, h2⟩ := chip_run (t := t) hn hv hp hb i fun j hj => h j (by omega)
    have hq := h i (by omega)
    have hvq : v ≠ q := h 0 (by omega)
    refine ⟨m ++ [chipV ar E rot v i], addL t' (chipV ar E rot v i) 1, h1.append (.cons ⟨?_, hq, ?_⟩ ?_), by simp [h2]⟩
    · simp only [addL_len]
      exact hb i fun j hj => h j (by omega)
    · have := hb i fun j hj => h j (by omega)
      have h3 := hn _ hq
      have h4 := hp hvq
      show 0 < (addL (addL d v (-1)) (chipV ar E rot v i) 1).getD (chipV ar E rot v i) 0
      rw [addL_get, addL_len, if_pos ⟨rfl, this⟩, addL_get]
      split
      · rename_i h5
        rw [← h5.1]
        omega
      · omega
    · have : mvS ar E (rotI ar E rot v i, addL (addL d v (-1)) (chipV ar E rot v i) 1, t') (chipV ar E rot v i) = (rotI ar E rot v (i + 1), addL (addL d v (-1)) (chipV ar E rot v (i + 1)) 1, addL t' (chipV ar E rot v i) 1) := by
        unfold mvS
        simp only
        rw [addL_undo (l := addL d v (-1)) (v := chipV ar E rot v i) (x := 1) (y := -1) (by omega)]
        rfl
      rw [this]
      exact .nil _

end

/-- Behind the chips of the vertices below v, and j chips of v. -/
def AddSt (n : Int) (es : List Edg) (ar : List (List Int)) (q : Nat) (rot d : List Int) (v j : Nat) (now : List Int) (steps : Nat) : Prop :=
  ∃ m D t', Run ar (endsL es) q (start rot d d.length) m (now, D, t') ∧ m.length = steps ∧ RtOk n es ar q now ∧ D.length = d.length ∧ (∀ u, u ≠ q → 0 ≤ D.getD u 0) ∧
    (∀ u, u ≠ q → u < v → D.getD u 0 = 0) ∧ (∀ u, u ≠ q → v < u → D.getD u 0 = d.getD u 0) ∧ (v ≠ q → D.getD v 0 = d.getD v 0 - j)
theorem AddSt.rotors {n : Int} {es : List Edg} {ar : List (List Int)} {q : Nat} {rot d : List Int} {v j : Nat} {now : List Int} {steps : Nat} (h : AddSt n es ar q rot d v j now steps) : RtOk n es ar q now := by
  obtain ⟨_, _, _, _, _, h3, _⟩ := h
  exact h3
theorem AddSt.begin {n : Int} {es : List Edg} {ar : List (List Int)} {q : Nat} {rot d : List Int} (h : RtOk n es ar q rot) (hn : ∀ u, u ≠ q → 0 ≤ d.getD u 0) : AddSt n es ar q rot d 0 0 rot 0 :=
  ⟨[], d, _, .nil _, rfl, h, rfl, hn, fun u _ hu => absurd hu (by omega), fun _ _ _ => rfl, fun _ => by simp⟩
theorem AddSt.next {n : Int} {es : List Edg} {ar : List (List Int)} {q : Nat} {rot d : List Int} {v j : Nat} {now : List Int} {steps : Nat} (h : AddSt n es ar q rot d v j now steps) (hj : v ≠ q → (d.getD v 0) ≤ j) : AddSt n es ar q rot d (v + 1) 0 now steps := by
  obtain ⟨m, D, t', h1, h2, h3, h4, h5, h6, h7, h8⟩ := h
  refine ⟨m, D, t', h1, h2, h3, h4, h5, fun u hu hlt => ?_, fun u hu hlt => h7 u hu (by omega), fun hu => by rw [h7 (v + 1) hu (by omega)]; simp⟩
  rcases Nat.lt_or_ge u v with hl | hl
  · exact h6 u hu hl
  · have : u = v := by omega
    subst this
    have a1 := h8 hu
    have a2 := h5 u hu
    have a3 := hj hu
    omega
theorem AddSt.step {n : Int} {es : List Edg} {ar : List (List Int)} {q : Nat} {rot d : List Int} {v j : Nat} {now : List Int} {steps M : Nat} {mm : List Nat} {tt : MSt} (h : AddSt n es ar q rot d v j now steps) (hd : d.length = ar.length) (hv : v < d.length) (hj : (j : Int) < d.getD v 0)
    (hr : Run ar (endsL es) q (start rot d d.length) mm tt) (ht : ∀ u, ¬ Can q tt u) (hM : mm.length < M) :
    ∃ i, i < M ∧ chipV ar (endsL es) now v i = q ∧ (∀ k, k < i → chipV ar (endsL es) now v k ≠ q) ∧ AddSt n es ar q rot d v (j + 1) (rotI ar (endsL es) now v i) (steps + i) ∧ RtOk n es ar q (rotI ar (endsL es) now v i) ∧ steps + i ≤ mm.length := by
  obtain ⟨m, D, t', h1, h2, h3, h4, h5, h6, h7, h8⟩ := h
  have hb : ∀ i, (∀ k, k < i → chipV ar (endsL es) now v k ≠ q) → chipV ar (endsL es) now v i < D.length := fun i hi => by
    have := (h3.along (by omega : v < ar.length) i hi).2
    rw [h4, hd]; exact this
  have hR := chip_run (t := t') h5 (by omega : v < D.length) (fun hq => by have := h8 hq; omega) hb
  rcases first_or (chipV ar (endsL es) now v) q M with ⟨i, i1, i2, i3⟩ | hn
  · obtain ⟨m2, t2, r1, r2⟩ := hR i i3
    rw [i2] at r1
    have hrun := h1.append r1
    have hrt := (h3.along (by omega : v < ar.length) i i3).1
    refine ⟨i, i1, i2, i3, ⟨m ++ m2, _, t2, hrun, by simp; omega, hrt, by simp [addL_len, h4], fun u hu => ?_, fun u hu hl => ?_, fun u hu hl => ?_, fun hu => ?_⟩, hrt, ?_⟩
    · rw [addL_get, addL_get, if_neg (c := q = u ∧ _) (by intro hh; exact hu hh.1.symm)]
      split
      · rename_i h9
        have := h8 (by rw [h9.1]; exact hu)
        rw [← h9.1]
        omega
      · exact h5 u hu
    · rw [addL_get, addL_get, if_neg (c := q = u ∧ _) (by intro hh; exact hu hh.1.symm), if_neg (by omega)]
      exact h6 u hu hl
    · rw [addL_get, addL_get, if_neg (c := q = u ∧ _) (by intro hh; exact hu hh.1.symm), if_neg (by omega)]
      exact h7 u hu hl
    · rw [addL_get, addL_get, if_neg (c := q = v ∧ _) (by intro hh; exact hu hh.1.symm), if_pos ⟨rfl, by omega⟩, h8 hu]
      omega
    · obtain ⟨m3, _, e⟩ := hrun.rest hr ht
      simp at e
      omega
  · obtain ⟨m2, t2, r1, r2⟩ := hR M hn
    obtain ⟨m3, _, e⟩ := (h1.append r1).rest hr ht
    simp at e
    omega
end Go.Proofs.YtnigfddanoaonaaGreat

set_option linter.unusedVariables false
set_option linter.unusedSimpArgs false
set_option linter.unnecessarySimpa false
namespace Go.Proofs.YtnigfddanoaonaaGreat
open Go.RowKit

theorem gScan_zero {q : Int} : ∀ {v0 : Nat} {d : List Int}, gScan q v0 d = 0 → ∀ u, ((v0 + u : Nat) : Int) ≠ q → 0 ≤ d.getD u 0
  | v0, [], _, u, _ => by simp
  | v0, x :: r, h, u, hu => by
    unfold gScan at h
    split at h
    · cases h
    · rename_i h1
      cases u with
      | zero => simp at hu ⊢; omega
      | succ u =>
        have := gScan_zero h u (by intro e; apply hu; rw [← e]; congr 1; omega)
        simpa using this
theorem gvE_nonneg {n : Int} {es : List Edg} {f : List Nat} {ar : List (List Int)} {q : Nat} {rot d : List Int} (h : gvE n es f ar q rot d = 0) : ∀ u, u ≠ q → 0 ≤ d.getD u 0 := by
  obtain ⟨h1, h2⟩ := gvE_zero h
  unfold gvE at h
  rw [if_pos h1, if_pos h2] at h
  exact fun u hu => gScan_zero h u (by simp; omega)
end Go.Proofs.YtnigfddanoaonaaGreat

set_option linter.unusedVariables false
set_option linter.unusedSimpArgs false
namespace Go.Proofs.YtnigfddanoaonaaGreat
open Go.RowKit

theorem routU_get {ar : List (List Int)} {E : List (Int × Int)} {q : Int} : ∀ {v : Nat} {l : List Prc}, routU ar E q v = some l → ∀ i, i < v → l[i]? = some (if (i : Int) = q then sinkP else turnP (tgR ar E i)) ∧ ((i : Int) ≠ q → (tgR ar E i).length ≤ 16)
  | 0, l, h, i, hi => by omega
  | v + 1, l, h, i, hi => by
    unfold routU at h
    rw [Option.bind_eq_some_iff] at h
    obtain ⟨l0, h1, h2⟩ := h
    have hlen := routU_len h1
    have ih := routU_get h1
    have last : ∀ p : Prc, (l0 ++ [p])[v]? = some p := fun p => by rw [← hlen]; exact List.getElem?_concat_length
    have prev : ∀ p : Prc, i < v → (l0 ++ [p])[i]? = l0[i]? := fun p hv => List.getElem?_append_left (by omega)
    by_cases hiv : i < v
    · split at h2
      · injection h2 with h2
        subst h2
        rw [prev _ hiv]
        exact ih i hiv
      · split at h2
        · injection h2 with h2
          subst h2
          rw [prev _ hiv]
          exact ih i hiv
        · cases h2
    · have : i = v := by omega
      subst this
      split at h2
      · rename_i hq
        injection h2 with h2
        subst h2
        rw [last, if_pos hq]
        exact ⟨rfl, fun hh => absurd hq hh⟩
      · rename_i hq
        split at h2
        · rename_i h16
          injection h2 with h2
          subst h2
          rw [last, if_neg hq]
          exact ⟨rfl, fun _ => h16⟩
        · cases h2

/-- A table of rows of one number. -/
def Rows1 (n : Nat) (t : List (List Int)) (f : Nat → Int) : Prop := t.length = n ∧ ∀ v, v < n → t[v]? = some [f v]
theorem Rows1.up {n : Nat} {t : List (List Int)} {f : Nat → Int} (h : Rows1 n t f) {p : Nat} (hp : p < n) (y : Int) : Rows1 n (bump t p 0 y) (fun v => f v + if v = p then y else 0) := by
  have he : bump t p 0 y = t.set p [f p + y] := bump_eq (h.2 p hp) (z := f p) rfl y
  rw [he]
  refine ⟨by rw [List.length_set]; exact h.1, fun v hv => ?_⟩
  rw [List.getElem?_set]
  by_cases e : p = v
  · subst e
    rw [if_pos rfl, if_pos (by rw [h.1]; exact hp)]
    simp
  · rw [if_neg e, h.2 v hv]
    show _ = some [f v + if v = p then y else 0]
    rw [if_neg fun e2 : v = p => e e2.symm, Int.add_zero]
theorem Rows1.cell {n : Nat} {t : List (List Int)} {f : Nat → Int} (h : Rows1 n t f) {v : Nat} (hv : v < n) : cellT t v 0 = f v := by
  unfold cellT
  rw [getD_some (h.2 v hv)]
  rfl
theorem Rows1.move {n : Nat} {t : List (List Int)} {f : Nat → Int} (h : Rows1 n t f) {m : Nat × Nat} (hm : m ∈ movesS t) : m.1 < n ∧ m.2 = 0 ∧ 0 < f m.1 := by
  obtain ⟨l, y, h1, h2, h3⟩ := mem_moves hm
  have hn : m.1 < n := by rw [← h.1]; exact (List.getElem?_eq_some_iff.1 h1).1
  rw [h.2 _ hn] at h1
  injection h1 with h1
  subst h1
  have h0 : m.2 = 0 := by
    have := (List.getElem?_eq_some_iff.1 h2).1
    simp at this
    exact this
  rw [h0] at h2
  injection h2 with h2
  exact ⟨hn, h0, by rw [show f m.1 = y from h2]; exact h3⟩

/-- A network of rotors, and chips with rotors. -/
structure Sim (l : List Prc) (q n : Nat) (y : Nwk) (ct : List (List Int)) (s : MSt) : Prop where
  procs : y.procs = l
  st : y.state = s.1
  wt : ∃ f, Rows1 n y.waiting f ∧ ∀ v, v < n → v ≠ q → f v = s.2.1.getD v 0
  ct : ∃ f, Rows1 n ct f ∧ ∀ v, v < n → v ≠ q → f v = s.2.2.getD v 0
  nd : s.2.1.length = n
  nt : s.2.2.length = n

theorem set_same {l : List Int} {i : Nat} {x : Int} (h : l[i]? = some x) : l.set i x = l := by
  apply List.ext_getElem?
  intro j
  rw [List.getElem?_set]
  split
  · rename_i e
    subst e
    rw [if_pos (List.getElem?_eq_some_iff.1 h).1, h]
  · rfl
theorem tgR_len (ar : List (List Int)) (E : List (Int × Int)) (v : Nat) : (tgR ar E v).length = (ar.getD v []).length := by simp [tgR]
theorem turn_rule (to_ : List Int) {k : Nat} (hk : k < to_.length) : ruleAt (turnP to_).rules (k : Int) 0 = ⟨((k + 1) % to_.length : Nat), [⟨to_.getD ((k + 1) % to_.length) 0, 0⟩]⟩ := by
  have h : (turnP to_).rules[k]? = some (turnRow to_ k) := by unfold turnP; simp only; rw [List.getElem?_map, List.getElem?_range hk]; rfl
  unfold ruleAt
  rw [Int.toNat_natCast, getD_some h]
  rfl
theorem Sim.move {n : Int} {es : List Edg} {ar : List (List Int)} {q : Nat} {l : List Prc} {y : Nwk} {ct : List (List Int)} {s : MSt} (hl : routU ar (endsL es) q ar.length = some l) (h : Sim l q ar.length y ct s) (hR : RtOk n es ar q s.1) {m : Nat × Nat} (hm : m ∈ movesS y.waiting) :
    Sim l q ar.length (moveX y m.1 m.2) (bump ct m.1 m.2 1) s ∨ (Can q s m.1 ∧ Sim l q ar.length (moveX y m.1 m.2) (bump ct m.1 m.2 1) (mvS ar (endsL es) s m.1) ∧ RtOk n es ar q (mvS ar (endsL es) s m.1).1) := by
  obtain ⟨f, hf, hf2⟩ := h.wt
  obtain ⟨g, hg, hg2⟩ := h.ct
  obtain ⟨p, a⟩ := m
  obtain ⟨hp, ha, h0⟩ := hf.move hm
  simp only at hp ha h0 ⊢
  subst ha
  obtain ⟨hpr, h16⟩ := routU_get hl p hp
  have hgp : y.procs.getD p prc0 = if (p : Int) = (q : Int) then sinkP else turnP (tgR ar (endsL es) p) := by rw [h.procs]; exact getD_some hpr
  by_cases hq : p = q
  · subst hq
    left
    rw [if_pos rfl] at hgp
    have hs0 : s.1[p]? = some 0 := by
      have h1 := List.getElem?_eq_getElem (show p < s.1.length by rw [hR.nrot]; exact hp)
      rw [h1, (hR.rots p _ _ h1 (List.getElem?_eq_getElem hp)).2.1 rfl]
    have hrl : ruleP y.procs p (y.state.getD p 0) 0 = ⟨0, []⟩ := by
      unfold ruleP
      rw [hgp, h.st, getD_some hs0]
      rfl
    have hn : nextP y.procs p (y.state.getD p 0) 0 = 0 := by unfold nextP; rw [hrl]
    have hsn : sentP y.procs p (y.state.getD p 0) 0 = [] := by unfold sentP; rw [hrl]; rfl
    refine ⟨h.procs, ?_, ⟨fun v => f v + if v = p then -1 else 0, ?_, fun v hv hvq => ?_⟩, ⟨_, hg.up hp 1, fun v hv hvq => ?_⟩, h.nd, h.nt⟩
    · show y.state.set p (nextP y.procs p (y.state.getD p 0) 0) = s.1
      rw [hn, h.st]
      exact set_same hs0
    · show Rows1 _ ((sentP y.procs p (y.state.getD p 0) 0).foldl addO (bump y.waiting p 0 (-1))) _
      rw [hsn]
      exact hf.up hp (-1)
    · show (f v + if v = p then -1 else 0) = _
      rw [if_neg hvq, hf2 v hv hvq]; omega
    · show (g v + if v = p then 1 else 0) = _
      rw [if_neg hvq, hg2 v hv hvq]; omega
  · right
    rw [if_neg (by omega)] at hgp
    have hcan : Can q s p := ⟨by rw [h.nd]; exact hp, hq, by rw [← hf2 p hp hq]; exact h0⟩
    obtain ⟨⟨l5, k, g5, e1, e2, e3, _, e5, e6, _⟩, hR2, hV⟩ := hR.step hp hq
    have hlen : (tgR ar (endsL es) p).length = l5.length := by rw [tgR_len, getD_some e1]
    have hrl : ruleP y.procs p (y.state.getD p 0) 0 = ⟨(stpK ar s.1 p : Nat), [⟨(tgR ar (endsL es) p).getD (stpK ar s.1 p) 0, 0⟩]⟩ := by
      unfold ruleP
      rw [hgp, h.st, getD_some e2]
      have := turn_rule (tgR ar (endsL es) p) (k := k) (by omega)
      rw [hlen] at this
      rw [e5]
      exact this
    have hn : nextP y.procs p (y.state.getD p 0) 0 = (stpK ar s.1 p : Nat) := by unfold nextP; rw [hrl]
    have hto : ((tgR ar (endsL es) p).getD (stpK ar s.1 p) 0).toNat = stpV ar (endsL es) s.1 p := by
      unfold stpV
      congr 1
      unfold tgR
      rw [getD_some e1, e5, List.getD_eq_getElem?_getD, List.getElem?_map, e6, getD_some e6]
      rfl
    have hsn : sentP y.procs p (y.state.getD p 0) 0 = [((tgR ar (endsL es) p).getD (stpK ar s.1 p) 0, 0)] := by unfold sentP; rw [hrl]; rfl
    refine ⟨hcan, ⟨h.procs, ?_, ⟨fun v => (f v + if v = p then -1 else 0) + if v = stpV ar (endsL es) s.1 p then 1 else 0, ?_, fun v hv hvq => ?_⟩, ⟨_, hg.up hp 1, fun v hv hvq => ?_⟩, by simp [mvS, addL_len, h.nd], by simp [mvS, addL_len, h.nt]⟩, hR2⟩
    · show y.state.set p (nextP y.procs p (y.state.getD p 0) 0) = stpR ar s.1 p
      rw [hn, h.st]
      rfl
    · show Rows1 _ ((sentP y.procs p (y.state.getD p 0) 0).foldl addO (bump y.waiting p 0 (-1))) _
      rw [hsn]
      show Rows1 _ (bump (bump y.waiting p 0 (-1)) ((tgR ar (endsL es) p).getD (stpK ar s.1 p) 0).toNat 0 1) _
      rw [hto]
      exact (hf.up hp (-1)).up hV 1
    · show (f v + if v = p then -1 else 0) + (if v = stpV ar (endsL es) s.1 p then 1 else 0) = (addL (addL s.2.1 p (-1)) (stpV ar (endsL es) s.1 p) 1).getD v 0
      rw [addL_get, addL_get, addL_len, h.nd, hf2 v hv hvq]
      generalize stpV ar (endsL es) s.1 p = u at *
      generalize s.2.1.getD v 0 = X
      split <;> split <;> split <;> (try split) <;> omega
    · show g v + (if v = p then 1 else 0) = (addL s.2.2 p 1).getD v 0
      rw [addL_get, h.nt, hg2 v hv hvq]
      generalize s.2.2.getD v 0 = X
      split <;> split <;> omega

/-- A run of the network is a run of chips. -/
theorem sim_run {n : Int} {es : List Edg} {ar : List (List Int)} {q : Nat} {l : List Prc} (hl : routU ar (endsL es) q ar.length = some l) (picks : List Int) : ∀ (N i : Nat) (y : Nwk) (ct : List (List Int)) (s : MSt) (z : Nwk) (cz : List (List Int)), Sim l q ar.length y ct s → RtOk n es ar q s.1 → runX picks N i y ct = some (z, cz) →
    ∃ m t, Run ar (endsL es) q s m t ∧ m.length ≤ N ∧ Sim l q ar.length z cz t ∧ ∀ v, ¬ Can q t v := by
  have stop : ∀ (y : Nwk) (ct : List (List Int)) (s : MSt), Sim l q ar.length y ct s → (movesS y.waiting).isEmpty = true → ∀ v, ¬ Can q s v := fun y ct s h hm v hv => by
    obtain ⟨h1, h2, h3⟩ := hv
    obtain ⟨f, hf, hf2⟩ := h.wt
    have hvn : v < ar.length := by rw [← h.nd]; exact h1
    have h4 := moves_nil (List.isEmpty_iff.1 hm) (q := v) (a := 0)
    rw [hf.cell hvn, hf2 v hvn h2] at h4
    omega
  intro N
  induction N with
  | zero =>
    intro i y ct s z cz h hR hr
    unfold runX at hr
    split at hr
    · rename_i hm
      injection hr with hr
      injection hr with e1 e2
      subst e1 e2
      exact ⟨[], s, .nil _, by simp, h, stop _ _ _ h hm⟩
    · cases hr
  | succ N ih =>
    intro i y ct s z cz h hR hr
    unfold runX at hr
    split at hr
    · rename_i hm
      injection hr with hr
      injection hr with e1 e2
      subst e1 e2
      exact ⟨[], s, .nil _, by simp, h, stop _ _ _ h hm⟩
    · rename_i hm
      have hpk := pickS_mem (picks := picks) (i := i) (l := movesS y.waiting) (by intro e; rw [e] at hm; simp at hm)
      rcases h.move hl hR hpk with h1 | ⟨h1, h2, h3⟩
      · obtain ⟨m, t, a1, a2, a3, a4⟩ := ih _ _ _ _ _ _ h1 hR hr
        exact ⟨m, t, a1, by omega, a3, a4⟩
      · obtain ⟨m, t, a1, a2, a3, a4⟩ := ih _ _ _ _ _ _ h2 h3 hr
        exact ⟨_ :: m, t, .cons h1 a1, by simp; omega, a3, a4⟩

/-- The network of rotors is right, and abelian. -/
theorem rout_right {n : Int} {es : List Edg} {f : List Nat} {ar : List (List Int)} {q : Int} {rot d : List Int} {l : List Prc} (hg : gvE n es f ar q rot d = 0) (hc2 : es.length ≤ 1000) (hl : routU ar (endsL es) q ar.length = some l) :
    Right ⟨l, rot, waitD d q d.length⟩ ∧ commP l = true ∧ d.length = ar.length ∧ l.length = ar.length := by
  obtain ⟨h1, h2⟩ := gvE_zero hg
  obtain ⟨q', rfl, hR⟩ := RtOk.of h1 hc2
  obtain ⟨d1, d2, d3⟩ := dErr_zero h2
  have hnn := gvE_nonneg hg
  have hdl : d.length = ar.length := by have := hR.nar; omega
  have hll := routU_len hl
  have h1' : 1 ≤ ar.length := by have := hR.hq; omega
  have hone : ∀ p ∈ l, OneP l.length p := fun p hp => by
    obtain ⟨i, hi⟩ := List.mem_iff_getElem?.1 hp
    have hil : i < ar.length := by rw [← hll]; exact (List.getElem?_eq_some_iff.1 hi).1
    obtain ⟨g1, g2⟩ := routU_get hl i hil
    rw [hi] at g1
    injection g1 with g1
    subst g1
    by_cases hq : (i : Int) = (q' : Int)
    · rw [if_pos hq]; exact one_sink
    · rw [if_neg hq]
      obtain ⟨⟨l5, k, g5, e1, e2, e3, _⟩, _⟩ := hR.step hil (by omega)
      have hlen : (tgR ar (endsL es) i).length = l5.length := by rw [tgR_len, getD_some e1]
      refine one_turn ⟨by omega, g2 hq⟩ fun x hx => ?_
      unfold tgR at hx
      obtain ⟨z, hz, rfl⟩ := List.mem_map.1 hx
      rw [getD_some e1] at hz
      obtain ⟨g, rfl, hg2, _⟩ := (hR.rows i _ e1).2 z hz
      have := hR.rng _ (oppH_lt hg2)
      rw [Int.toNat_natCast, hll, hR.nar]
      exact this
  refine ⟨one_right ⟨by simp only; omega, by simp only; have := hR.n12; omega⟩ hone (by simp only; rw [hR.nrot, hll]) (fun i s p h3 h4 => ?_) (by simp only; rw [waitD_len]; omega) (fun t ht => ?_), one_comm hone, hdl, hll⟩
  · simp only at h3 h4
    have hil : i < ar.length := by rw [← hll]; exact (List.getElem?_eq_some_iff.1 h4).1
    obtain ⟨g1, g2⟩ := routU_get hl i hil
    rw [h4] at g1
    injection g1 with g1
    subst g1
    have hal := List.getElem?_eq_getElem hil
    obtain ⟨r1, r2, r3⟩ := hR.rots i s _ h3 hal
    by_cases hq : (i : Int) = (q' : Int)
    · rw [if_pos hq, r2 (by omega)]
      decide
    · rw [if_neg hq]
      refine ⟨r1, ?_⟩
      unfold turnP
      simp only
      rw [tgR_len, getD_some hal]
      exact r3 (by omega)
  · simp only at ht
    unfold waitD at ht
    obtain ⟨v, hv, rfl⟩ := List.mem_map.1 ht
    refine ⟨_, rfl, ?_⟩
    split
    · omega
    · rename_i hq
      have h5 := hnn v (by omega)
      have hvl := List.mem_range.1 hv
      have h6 := d3 d[v] (List.getElem_mem hvl)
      rw [List.getD_eq_getElem?_getD, List.getElem?_eq_getElem hvl, Option.getD_some] at h5 ⊢
      omega

/-- The rotors and the steps of rotor.All, where the network halts. -/
theorem rot_law {n : Int} {es : List Edg} {f : List Nat} {ar : List (List Int)} {q : Int} {rot d : List Int} {l : List Prc} (hg : gvE n es f ar q rot d = 0) (hc2 : es.length ≤ 1000) (hl : routU ar (endsL es) q ar.length = some l) {picks : List Int} {N : Nat} (hN : N ≤ 4000) {y : Nwk} {ct : List (List Int)}
    (h : runX picks N 0 ⟨l, rot, waitD d q d.length⟩ (l.map fun p => List.replicate p.letters.toNat (0 : Int)) = some (y, ct)) :
    ∃ times, allRes n es f ar q rot d = (y.state, times, 0) ∧ y.state.length = ar.length ∧ ct.length = ar.length ∧ times.length = ar.length ∧ ∀ v, v < ar.length → (v : Int) ≠ q → ct[v]? = some [times.getD v 0] := by
  obtain ⟨h1, h2⟩ := gvE_zero hg
  obtain ⟨q', rfl, hR⟩ := RtOk.of h1 hc2
  obtain ⟨d1, d2, d3⟩ := dErr_zero h2
  have hdl : d.length = ar.length := by have := hR.nar; omega
  have hll := routU_len hl
  have hS : Sim l q' ar.length ⟨l, rot, waitD d q' d.length⟩ (l.map fun p => List.replicate p.letters.toNat (0 : Int)) (start rot d d.length) := by
    refine ⟨rfl, rfl, ⟨fun v => if v = q' then 0 else d.getD v 0, ⟨by simp only; rw [waitD_len, hdl], fun v hv => ?_⟩, fun v hv hq => by simp [hq, start]⟩, ⟨fun _ => 0, ⟨by rw [List.length_map, hll], fun v hv => ?_⟩, fun v hv hq => ?_⟩, hdl, by simp [start, hdl]⟩
    · simp only
      unfold waitD
      rw [List.getElem?_map, List.getElem?_range (by omega)]
      simp only [Option.map_some]
      congr 2
      by_cases e : v = q'
      · subst e; simp
      · rw [if_neg e, if_neg (by omega)]
    · obtain ⟨g1, _⟩ := routU_get hl v hv
      rw [List.getElem?_map, g1]
      split <;> rfl
    · simp only [start]
      rw [List.getD_eq_getElem?_getD, List.getElem?_replicate]
      split <;> rfl
  obtain ⟨m, t, r1, r2, r3, r4⟩ := sim_run hl picks N 0 _ _ _ _ _ hS hR h
  have hall : allRes n es f ar q' rot d = (t.1, t.2.2, 0) := by
    unfold allRes
    rw [if_pos hg, Int.toNat_natCast]
    rcases first_or (fun i => (liveL q' (mvN ar (endsL es) q' pk0 (start rot d d.length) i).2.1).length) 0 5000 with ⟨i, i1, i2, i3⟩ | hno
    · obtain ⟨m2, s1, s2⟩ := mvN_run pk0_ok _ i i3
      have e := (r1.same r4 s1 (live_none.1 i2)).1
      exact movesOf_hit (by omega) e (by rw [← e]; exact i2) i3
    · obtain ⟨m2, s1, s2⟩ := mvN_run pk0_ok _ 5000 hno
      obtain ⟨m3, _, e⟩ := s1.rest r1 r4
      omega
  obtain ⟨fc, hc, hc3⟩ := r3.ct
  refine ⟨t.2.2, by rw [hall, r3.st], ?_, hc.1, r3.nt, fun v hv hq => ?_⟩
  · have : t.1.length = ar.length := by
      have hk : ∀ {s u : MSt} {m : List Nat}, Run ar (endsL es) q' s m u → u.1.length = s.1.length := fun {s u m} hr => by
        induction hr with
        | nil s => rfl
        | cons _ _ ih => rw [ih]; simp [mvS, stpR]
      rw [hk r1]
      exact hR.nrot
    rw [r3.st, this]
  · rw [hc.2 v hv, hc3 v hv (by omega)]

end Go.Proofs.YtnigfddanoaonaaGreat

set_option linter.unusedVariables false
set_option linter.unusedSimpArgs false
namespace Go.Proofs.YtnigfddanoaonaaGreat
open Go.RowKit

set_option maxRecDepth 100000 in
set_option maxHeartbeats 2000000 in
theorem nrun_bad (x : Nwk) (op : Option Addr) (cp : Nat) (os : Option Addr) (cs : Nat) (ow : Option Addr) (cw : Nat) (oP : Option Addr) (nP cP : Nat) (limit : Int) (w : World) (hp : SliceR prcR 3 All w op x.procs) (hs : SliceR intR 1 All w os x.state) (ht : SliceR (slcR intR 1) 1 All w ow x.waiting)
    (hl : x.procs.length ≤ 1000000 ∧ x.state.length ≤ 1000000 ∧ x.waiting.length ≤ 1000000) {z : Int} (hz : netErr x = z) (hz0 : z ≠ 0) :
    Calls Tryz.prog 13 #[.agg #[.slice op x.procs.length cp, .slice os x.state.length cs, .slice ow x.waiting.length cw], .slice oP nP cP, .int .i64 limit] w fun e w' => e = .returned (.tuple #[.agg #[.slice none 0 0, .slice none 0 0, .slice none 0 0], .slice none 0 0, .int .i64 z]) ∧ Below w.heap.size w w' := by
  obtain ⟨np, hnp⟩ : ∃ n, n = x.procs.length := ⟨_, rfl⟩
  obtain ⟨ns, hns⟩ : ∃ n, n = x.state.length := ⟨_, rfl⟩
  obtain ⟨nw, hnw⟩ : ∃ n, n = x.waiting.length := ⟨_, rfl⟩
  have HCK : Hid (∀ u, Below w.heap.size w u → Calls Tryz.prog 43 #[.agg #[.slice op np cp, .slice os ns cs, .slice ow nw cw]] u fun e w' => e = .returned (.int .i64 z) ∧ Below u.heap.size u w') := fun u hu => by
    have h := netCheck_any x.procs op cp x.state os cs x.waiting ow cw All u (hp.below prcR_ok hu) (by omega) (hs.below intR_ok hu) (by omega) (ht.below (slcR_ok intR_ok (by decide)) hu) (by omega)
    rw [show (⟨x.procs, x.state, x.waiting⟩ : Nwk) = x from rfl, hz, ← hnp, ← hns, ← hnw] at h
    exact h
  rw [← hnp, ← hns, ← hnw]
  have q1 : (z != 0) = true := by simpa using hz0
  obtain ⟨W1, e1⟩ : ∃ W1, w.alloc (.cells #[.slice op np cp, .slice os ns cs, .slice ow nw cw] 26) = W1 := ⟨_, rfl⟩
  have bx1 : Box W1 w.heap.size [.slice op np cp, .slice os ns cs, .slice ow nw cw] 26 := by rw [← e1]; exact Box.new w [.slice op np cp, .slice os ns cs, .slice ow nw cw] 26
  have bb1 := bnew (Below.refl w.heap.size w) (.cells #[.slice op np cp, .slice os ns cs, .slice ow nw cw] 26)
  rw [e1] at bb1
  obtain ⟨W2, e2⟩ : ∃ W2, W1.alloc (.cells #[.slice none 0 0, .slice none 0 0, .slice none 0 0] 26) = W2 := ⟨_, rfl⟩
  have bx2 : Box W2 W1.heap.size [.slice none 0 0, .slice none 0 0, .slice none 0 0] 26 := by rw [← e2]; exact Box.new W1 [.slice none 0 0, .slice none 0 0, .slice none 0 0] 26
  have bb2 := bnew (Below.refl W1.heap.size W1) (.cells #[.slice none 0 0, .slice none 0 0, .slice none 0 0] 26)
  rw [e2] at bb2
  have HZ1 := hide bb1.size
  have bx1 := bx1.below bb2
  have HB2 := hide (bb1.trans (bb2.mono bb1.size))
  have HX2 := hide bx2
  have d0 := bx1.cell 0
  have d1 := bx1.cell 1
  have d2 := bx1.cell 2
  simp only [List.getElem?_cons_zero, List.getElem?_cons_succ] at d0 d1 d2
  clear hp hs ht hl hz hz0 hnp hns hnw bx1 bb1 bb2 bx2
  go_enter Tryz.func13, Tryz.ntmps13
  go_wp2_with fail
  refine (HCK.out _ HB2.out).mono ?_
  rintro e w3 ⟨rfl, h3⟩
  have hr := HX2.out.below h3
  have r0 := hr.cell 0
  have r1 := hr.cell 1
  have r2 := hr.cell 2
  have rf := hr.free
  simp only [List.getElem?_cons_zero, List.getElem?_cons_succ] at r0 r1 r2
  have HR := hide hr
  have HB3 := hide (HB2.out.trans (h3.mono HB2.out.size))
  clear hr h3 d0 d1 d2 e1 e2
  go_wp2_with fail
  have hfin := ((HR.out.put 0 (.slice none 0 0)).put 1 (.slice none 0 0)).put 2 (.slice none 0 0)
  simp only [List.set_cons_zero, List.set_cons_succ] at hfin
  refine bodyPost_ret (results_cell_tmp2_row rfl _ _ W1.heap.size 26 _ (0, 0) _ rfl hfin Tryz.underlying26 rfl (by kernel_rfl)) rfl ?_
  exact ⟨rfl, ((HB3.out.setCell HZ1.out _).setCell HZ1.out _).setCell HZ1.out _⟩

end Go.Proofs.YtnigfddanoaonaaGreat

set_option linter.unusedVariables false
set_option linter.unusedSimpArgs false
set_option linter.unnecessarySimpa false
namespace Go.Proofs.YtnigfddanoaonaaGreat
open Go.RowKit

theorem rIn_any (k : Int) (w : World) : Calls Tryz.prog 116 #[.int .i64 k] w fun e w' => e = .returned (.bool (inChips k)) ∧ w = w' := by
  by_cases h1 : -1048576 ≤ k
  · by_cases h2 : k ≤ 1048576
    · have HR : Hid (inChips k = true) := by show _ = _; simp [inChips, h1, h2]
      have q1 : decide ((-1048576 : Int) ≤ k) = true := by simp [h1]
      have q2 : decide (k ≤ (1048576 : Int)) = true := by simp [h2]
      clear h1 h2
      go_enter Tryz.func116, Tryz.ntmps116
      go_wp2_with fail
      go_ret
      exact ⟨ret_bool HR.out.symm, rfl⟩
    · have HR : Hid (inChips k = false) := by show _ = _; simp [inChips]; omega
      have q1 : decide ((-1048576 : Int) ≤ k) = true := by simp [h1]
      have q2 : decide (k ≤ (1048576 : Int)) = false := by simp; omega
      clear h1 h2
      go_enter Tryz.func116, Tryz.ntmps116
      go_wp2_with fail
      go_ret
      exact ⟨ret_bool HR.out.symm, rfl⟩
  · have HR : Hid (inChips k = false) := by show _ = _; simp [inChips]; omega
    have q1 : decide ((-1048576 : Int) ≤ k) = false := by simp; omega
    clear h1
    go_enter Tryz.func116, Tryz.ntmps116
    go_wp2_with fail
    go_ret
    exact ⟨ret_bool HR.out.symm, rfl⟩

set_option maxRecDepth 100000 in
set_option maxHeartbeats 2000000 in
theorem rdcheck_any (n : Int) (d : List Int) (od : Option Addr) (cd : Nat) (F : Foot) (w : World) (hd : SliceR intR 1 F w od d) (hc : d.length ≤ cd) (hc2 : d.length ≤ 9223372036854775807) :
    Calls Tryz.prog 82 #[.slice od d.length cd, .int .i64 n] w fun e w' => e = .returned (.int .i64 (dErr n d)) ∧ w = w' := by
  by_cases h1 : 1 ≤ n
  · have q1 : decide (n < (1 : Int)) = false := by simp; omega
    by_cases h3 : n ≤ 12
    · have q2 : decide ((12 : Int) < n) = false := by simp; omega
      by_cases h2 : (d.length : Int) = n
      · have HR : Hid (dErr n d = dScan d) := by show _ = _; unfold dErr; rw [if_pos ⟨h1, h3⟩, if_pos h2]
        have q3 : ((d.length : Int) != n) = false := by simp [h2]
        have hn := hide h2
        clear h1 h3 h2
        go_enter Tryz.func82, Tryz.ntmps82
        go_wp2_with fail
        go_loopw [5] (fun iv wr => ∃ k : Nat, k ≤ d.length ∧ iv = .int .i64 k ∧ Hid (dErr n d = dScan (d.drop k)) ∧ wr = w) (fun iv _ => d.length - (intOf iv).toNat)
        case atStart => exact ⟨0, by omega, rfl, HR, rfl⟩
        case round =>
          obtain ⟨k, hk, rfl, HS, rfl⟩ := hrel
          by_cases hlt : k < d.length
          · have q4 : decide ((k : Int) < n) = true := by have := hn.out; simp; omega
            obtain ⟨x, hdr, _, ix, b, off, hod, _, c0⟩ := hd.int_at hlt
            subst hod
            have HS2 : Hid (dErr n d = if inChips x = true then dScan (d.drop (k + 1)) else 2) := by show _ = _; rw [HS.out, hdr]; rfl
            clear hdr
            by_cases hx : inChips x = true
            · have HS3 : Hid (dErr n d = dScan (d.drop (k + 1))) := by show _ = _; rw [HS2.out, if_pos hx]
              have hI := rIn_any x wr
              rw [hx] at hI
              clear hx
              go_wp2_with fail
              refine hI.mono ?_
              rintro e w3 ⟨rfl, rfl⟩
              go_wp2_with fail
              go_roundw
              case rel => exact ⟨k + 1, by omega, by go_num, HS3, by first | rfl | trivial⟩
              case measure => simp [intOf]; omega
            · have HS3 : Hid (dErr n d = 2) := by show _ = _; rw [HS2.out, if_neg hx]
              have hx2 : inChips x = false := by simpa using hx
              have hI := rIn_any x wr
              rw [hx2] at hI
              clear hx hx2
              go_wp2_with fail
              refine hI.mono ?_
              rintro e w3 ⟨rfl, rfl⟩
              go_wp2_with fail
              go_ret
              exact ⟨ret_int HS3.out.symm, rfl⟩
          · have q4 : decide ((k : Int) < n) = false := by have := hn.out; simp; omega
            have hke : k = d.length := by omega
            have HS3 : Hid (dErr n d = 0) := by show _ = _; rw [HS.out, hke, List.drop_length]; rfl
            clear hke
            go_wp2_with fail
            go_ret
            exact ⟨ret_int HS3.out.symm, rfl⟩
      · have HR : Hid (dErr n d = 8) := by show _ = _; unfold dErr; rw [if_pos ⟨h1, h3⟩, if_neg h2]
        have q3 : ((d.length : Int) != n) = true := by simp [h2]
        clear h1 h3 h2
        go_enter Tryz.func82, Tryz.ntmps82
        go_wp2_with fail
        go_ret
        exact ⟨ret_int HR.out.symm, rfl⟩
    · have HR : Hid (dErr n d = 2) := if_neg (by omega)
      have q2 : decide ((12 : Int) < n) = true := by simp; omega
      clear h1 h3
      go_enter Tryz.func82, Tryz.ntmps82
      go_wp2_with fail
      go_ret
      exact ⟨ret_int HR.out.symm, rfl⟩
  · have HR : Hid (dErr n d = 2) := if_neg (by omega)
    have q1 : decide (n < (1 : Int)) = true := by simp; omega
    clear h1
    go_enter Tryz.func82, Tryz.ntmps82
    go_wp2_with fail
    go_ret
    exact ⟨ret_int HR.out.symm, rfl⟩

/-- The error of the chips alone. -/
def chE (n q : Int) (d : List Int) : Int := if dErr n d = 0 then gScan q 0 d else dErr n d

set_option maxRecDepth 100000 in
set_option maxHeartbeats 2000000 in
theorem rchips_any (n : Int) (oe : Option Addr) (k c : Nat) (oa : Option Addr) (l ca : Nat) (q : Int) (d : List Int) (od : Option Addr) (cd : Nat) (F : Foot) (w : World) (hd : SliceR intR 1 F w od d) (hc : d.length ≤ cd) (hc2 : d.length ≤ 9223372036854775807) :
    Calls Tryz.prog 76 #[.agg #[.int .i64 n, .slice oe k c, .slice oa l ca], .int .i64 q, .slice od d.length cd] w (ErrPost w (chE n q d)) := by
  have hb0 := bnew (Below.refl w.heap.size w) (.cells #[.int .i64 n, .slice oe k c, .slice oa l ca] 52)
  have HK := hide (rdcheck_any n d od cd F _ (hd.below intR_ok hb0) hc hc2)
  have HD := hide (hd.below intR_ok hb0)
  have HB := hide hb0
  clear hb0 hd
  go_enter Tryz.func76, Tryz.ntmps76
  go_wp2_with fail
  refine HK.out.mono ?_
  rintro e w2 ⟨rfl, rfl⟩
  by_cases hE : dErr n d = 0
  · have HG : Hid (chE n q d = gScan q 0 d) := if_pos hE
    rw [hE]
    clear hE
    go_wp2_with fail
    obtain ⟨W1, hW1⟩ : ∃ W1, w.alloc (.cells #[.int .i64 n, .slice oe k c, .slice oa l ca] 52) = W1 := ⟨_, rfl⟩
    rw [hW1] at HD HB ⊢
    clear hW1 HK
    go_loopw [8] (fun iv wr => ∃ k : Nat, k ≤ d.length ∧ iv = .int .i64 k ∧ Hid (chE n q d = gScan q k (d.drop k)) ∧ wr = W1) (fun iv _ => d.length - (intOf iv).toNat)
    case atStart => exact ⟨0, by omega, rfl, HG, rfl⟩
    case round =>
      obtain ⟨k, hk, rfl, HS, rfl⟩ := hrel
      by_cases hlt : k < d.length
      · obtain ⟨x, hdr, _, ix, b, off, hod, _, c0⟩ := HD.out.int_at hlt
        subst hod
        have HS2 : Hid (chE n q d = if (k : Int) ≠ q ∧ x < 0 then 2 else gScan q (k + 1) (d.drop (k + 1))) := by show _ = _; rw [HS.out, hdr]; rfl
        clear hdr
        by_cases hkq : (k : Int) = q
        · have q1 : ((k : Int) != q) = false := by simp [hkq]
          have HS3 : Hid (chE n q d = gScan q (k + 1) (d.drop (k + 1))) := by show _ = _; rw [HS2.out, if_neg (by intro h; exact h.1 hkq)]
          clear hkq
          go_wp2_with fail
          go_roundw
          case rel => exact ⟨k + 1, by omega, by go_num, HS3, by first | rfl | trivial⟩
          case measure => simp [intOf]; omega
        · have q1 : ((k : Int) != q) = true := by simp [hkq]
          by_cases hx : x < 0
          · have q2 : decide (x < 0) = true := by simp [hx]
            have HS3 : Hid (chE n q d = 2) := by show _ = _; rw [HS2.out, if_pos ⟨hkq, hx⟩]
            clear hkq hx
            go_wp2_with fail
            go_ret
            exact ⟨ret_int HS3.out.symm, HB.out⟩
          · have q2 : decide (x < 0) = false := by simp; omega
            have HS3 : Hid (chE n q d = gScan q (k + 1) (d.drop (k + 1))) := by show _ = _; rw [HS2.out, if_neg (by intro h; exact hx h.2)]
            clear hkq hx
            go_wp2_with fail
            go_roundw
            case rel => exact ⟨k + 1, by omega, by go_num, HS3, by first | rfl | trivial⟩
            case measure => simp [intOf]; omega
      · have hke : k = d.length := by omega
        have HS3 : Hid (chE n q d = 0) := by show _ = _; rw [HS.out, hke, List.drop_length]; rfl
        clear hke
        go_wp2_with fail
        go_ret
        exact ⟨ret_int HS3.out.symm, HB.out⟩
  · have HG : Hid (chE n q d = dErr n d) := if_neg hE
    have hq : (dErr n d != 0) = true := by simpa using hE
    clear hE
    go_wp2_with fail
    go_ret
    exact ⟨ret_int HG.out.symm, HB.out⟩

set_option maxRecDepth 100000 in
set_option maxHeartbeats 2000000 in
theorem rgiven_any (n : Int) (es : List Edg) (oe : Option Addr) (c : Nat) (ar : List (List Int)) (oa : Option Addr) (ca : Nat) (F G : Foot) (w : World) (hs : SliceR edgR 3 F w oe es) (hc : es.length ≤ c) (hc2 : es.length ≤ 1000)
    (ha : SliceR (slcR intR 1) 1 G w oa ar) (hac : ar.length ≤ ca) (hac2 : ar.length ≤ 9223372036854775807) (f : List Nat) (hU : Hid (gErr n es = 0 → Uf f (eL es)))
    (q : Int) (rot : List Int) (ot : Option Addr) (ct : Nat) (H : Foot) (hr : SliceR intR 1 H w ot rot) (hrc : rot.length ≤ ct) (hrl : rot.length ≤ 9223372036854775807)
    (d : List Int) (od : Option Addr) (cd : Nat) (D : Foot) (hd : SliceR intR 1 D w od d) (hdc : d.length ≤ cd) (hdl : d.length ≤ 9223372036854775807) :
    Calls Tryz.prog 28 #[.agg #[.int .i64 n, .slice oe es.length c, .slice oa ar.length ca], .int .i64 q, .slice ot rot.length ct, .slice od d.length cd] w (ErrPost w (gvE n es f ar q rot d)) := by
  go_enter Tryz.func28, Tryz.ntmps28
  go_wp2_with fail
  have hb0 := box_refl w (.cells #[.int .i64 n, .slice oe es.length c, .slice oa ar.length ca] 52)
  refine (r45check_any n es oe c ar oa ca F G _ (hs.below edgR_ok (below_box hb0)) hc hc2 (ha.below (slcR_ok intR_ok (by decide)) (below_box hb0)) hac hac2 f hU q rot ot ct H (hr.below intR_ok (below_box hb0)) hrc hrl).mono ?_
  rintro e w2 ⟨rfl, hb2⟩
  have hx2 := hb2.mono (B' := w.heap.size + 1) (by simp)
  have d0 := box_cell hx2 0
  have d1 := box_cell hx2 1
  have d2 := box_cell hx2 2
  simp at d0 d1 d2
  have HX := hide (below_box hx2)
  clear hb2 hb0 hx2
  by_cases hR : rtE n es f ar q rot = 0
  · have HG : Hid (gvE n es f ar q rot d = chE n q d) := if_pos hR
    rw [hR]
    clear hR
    go_wp2_with fail
    refine (rchips_any n oe es.length c oa ar.length ca q d od cd D w2 (hd.below intR_ok HX.out) hdc hdl).mono ?_
    rintro e w3 ⟨rfl, hb3⟩
    have HB := hide (HX.out.trans (hb3.mono HX.out.size))
    clear hb3
    go_wp2_with fail
    go_ret
    exact ⟨ret_int HG.out.symm, HB.out⟩
  · have HG : Hid (gvE n es f ar q rot d = rtE n es f ar q rot) := if_neg hR
    have hq : (rtE n es f ar q rot != 0) = true := by simpa using hR
    clear hR
    go_wp2_with fail
    go_ret
    exact ⟨ret_int HG.out.symm, HX.out⟩

end Go.Proofs.YtnigfddanoaonaaGreat

set_option linter.unusedVariables false
set_option linter.unusedSimpArgs false
set_option linter.unnecessarySimpa false
namespace Go.Proofs.YtnigfddanoaonaaGreat
open Go.RowKit

theorem few17_any (d : List Int) (od : Option Addr) (cd : Nat) (w : World) : Calls Tryz.prog 23 #[.slice od d.length cd] w fun e w' => e = .returned (.bool (decide (d.length ≤ 24))) ∧ Below w.heap.size w w' := by
  have HR : Hid (decide (d.length ≤ 24) = decide ((d.length : Int) ≤ 24)) := by show _ = _; simp; omega
  go_enter Tryz.func23, Tryz.ntmps23
  go_wp2_with fail
  go_ret
  exact ⟨ret_bool HR.out.symm, Below.refl _ _⟩

/-- All chips are from -60 to 60. -/
def smD : List Int → Bool
  | [] => true
  | x :: r => if x < -60 ∨ 60 < x then false else smD r
theorem smD_yes : ∀ {d : List Int}, smD d = true → ∀ x ∈ d, -60 ≤ x ∧ x ≤ 60
  | [], _, x, hx => by cases hx
  | y :: r, h, x, hx => by
    unfold smD at h
    split at h
    · cases h
    · rename_i h1
      rcases List.mem_cons.1 hx with rfl | h2
      · omega
      · exact smD_yes h x h2

set_option maxRecDepth 100000 in
set_option maxHeartbeats 2000000 in
theorem smD_any (d : List Int) (od : Option Addr) (cd : Nat) (F : Foot) (w : World) (hd : SliceR intR 1 F w od d) (hc : d.length ≤ cd) (hc2 : d.length ≤ 9223372036854775807) :
    Calls Tryz.prog 29 #[.slice od d.length cd] w fun e w' => e = .returned (.bool (smD d)) ∧ Below w.heap.size w w' := by
  go_enter Tryz.func29, Tryz.ntmps29
  go_wp2_with fail
  go_loopw [3] (fun iv wr => ∃ k : Nat, k ≤ d.length ∧ iv = .int .i64 k ∧ Hid (smD d = smD (d.drop k)) ∧ wr = w) (fun iv _ => d.length - (intOf iv).toNat)
  case atStart => exact ⟨0, by omega, rfl, rfl, rfl⟩
  case round =>
    obtain ⟨k, hk, rfl, HS, rfl⟩ := hrel
    by_cases hlt : k < d.length
    · obtain ⟨x, hdr, _, ix, b, off, hod, _, c0⟩ := hd.int_at hlt
      subst hod
      have HS2 : Hid (smD d = if x < -60 ∨ 60 < x then false else smD (d.drop (k + 1))) := by show _ = _; rw [HS.out, hdr]; rfl
      clear hdr
      by_cases h1 : x < -60
      · have q1 : decide (x < (-60 : Int)) = true := by simp [h1]
        have HS3 : Hid (smD d = false) := by show _ = _; rw [HS2.out, if_pos (.inl h1)]
        clear h1
        go_wp2_with fail
        go_ret
        exact ⟨ret_bool HS3.out.symm, Below.refl _ _⟩
      · have q1 : decide (x < (-60 : Int)) = false := by simp; omega
        by_cases h2 : 60 < x
        · have q2 : decide ((60 : Int) < x) = true := by simp [h2]
          have HS3 : Hid (smD d = false) := by show _ = _; rw [HS2.out, if_pos (.inr h2)]
          clear h1 h2
          go_wp2_with fail
          go_ret
          exact ⟨ret_bool HS3.out.symm, Below.refl _ _⟩
        · have q2 : decide ((60 : Int) < x) = false := by simp; omega
          have HS3 : Hid (smD d = smD (d.drop (k + 1))) := by show _ = _; rw [HS2.out, if_neg (by omega)]
          clear h1 h2
          go_wp2_with fail
          go_roundw
          case rel => exact ⟨k + 1, by omega, by go_num, HS3, by first | rfl | trivial⟩
          case measure => simp [intOf]; omega
    · have hke : k = d.length := by omega
      have HS3 : Hid (smD d = true) := by show _ = _; rw [HS.out, hke, List.drop_length]; rfl
      clear hke
      go_wp2_with fail
      go_ret
      exact ⟨ret_bool HS3.out.symm, Below.refl _ _⟩

section
variable {w : World} {n : Int} {es : List Edg} {oe : Option Addr} {c : Nat} {ar : List (List Int)} {oa : Option Addr} {ca : Nat} {q : Int} {rot : List Int} {ot : Option Addr} {ct : Nat} {d : List Int} {od : Option Addr} {cd : Nat} {pk : List Int} {op : Option Addr} {cp : Nat}
end

/-- A right and small game. -/
def smallB (n : Int) (es : List Edg) (ar : List (List Int)) (q : Int) (rot d : List Int) : Bool :=
  if few45 n es ar rot = true then (if d.length ≤ 24 then (if gvE n es (forest es) ar q rot d = 0 then smD d else false) else false) else false
end Go.Proofs.YtnigfddanoaonaaGreat

set_option linter.unusedVariables false
set_option linter.unusedSimpArgs false
set_option linter.unnecessarySimpa false
namespace Go.Proofs.YtnigfddanoaonaaGreat
open Go.RowKit



/-- The error of picks. -/
def pkE (l : List Int) : Int := if 4096 < l.length then 5 else if l.length = 0 then 14 else if negB l = true then 2 else 0
def pScan : List Int → Int
  | [] => 0
  | x :: r => if x < 0 then 2 else pScan r
theorem pScan_neg : ∀ l : List Int, pScan l = if negB l = true then 2 else 0
  | [] => rfl
  | x :: r => by
    unfold pScan
    rw [pScan_neg r]
    by_cases h : x < 0 <;> simp [negB, h]

set_option maxHeartbeats 1000000 in
theorem picks_any (l : List Int) (oa : Option Addr) (c : Nat) (F : Foot) (w : World) (hs : SliceR intR 1 F w oa l) (hc : l.length ≤ c) (hc2 : l.length ≤ 9223372036854775807) :
    Calls Tryz.prog 10 #[.slice oa l.length c] w fun e w' => e = .returned (.int .i64 (pkE l)) ∧ Below w.heap.size w w' := by
  by_cases h1 : 4096 < l.length
  · have q1 : decide ((4096 : Int) < (l.length : Int)) = true := by simp; omega
    have HR : Hid (pkE l = 5) := if_pos h1
    clear h1
    go_enter Tryz.func10, Tryz.ntmps10
    go_wp2_with fail
    go_ret
    exact ⟨ret_int HR.out.symm, Below.refl _ _⟩
  · have q1 : decide ((4096 : Int) < (l.length : Int)) = false := by simp; omega
    by_cases h0 : l.length = 0
    · have q2 : ((l.length : Int) == 0) = true := by simp [h0]
      have HR : Hid (pkE l = 14) := by show _ = _; unfold pkE; rw [if_neg h1, if_pos h0]
      clear h1 h0
      go_enter Tryz.func10, Tryz.ntmps10
      go_wp2_with fail
      go_ret
      exact ⟨ret_int HR.out.symm, Below.refl _ _⟩
    · have q2 : ((l.length : Int) == 0) = false := by simpa using h0
      have HR : Hid (pkE l = pScan l) := by show _ = _; unfold pkE; rw [if_neg h1, if_neg h0, pScan_neg]
      clear h1 h0
      go_enter Tryz.func10, Tryz.ntmps10
      go_wp2_with fail
      go_loopw [3] (fun iv wr => ∃ k : Nat, k ≤ l.length ∧ iv = .int .i64 k ∧ Hid (pkE l = pScan (l.drop k)) ∧ wr = w) (fun iv _ => l.length - (intOf iv).toNat)
      case atStart => exact ⟨0, by omega, rfl, HR, rfl⟩
      case round =>
        obtain ⟨k, hk, rfl, HS, rfl⟩ := hrel
        by_cases hlt : k < l.length
        · obtain ⟨x, hdr, _, ix, b, off, hod, _, c0⟩ := hs.int_at hlt
          subst hod
          have HS2 : Hid (pkE l = if x < 0 then 2 else pScan (l.drop (k + 1))) := by show _ = _; rw [HS.out, hdr]; rfl
          clear hdr
          by_cases hx : x < 0
          · have q3 : decide (x < 0) = true := by simp [hx]
            have HS3 : Hid (pkE l = 2) := by show _ = _; rw [HS2.out, if_pos hx]
            clear hx
            go_wp2_with fail
            go_ret
            exact ⟨ret_int HS3.out.symm, Below.refl _ _⟩
          · have q3 : decide (x < 0) = false := by simp; omega
            have HS3 : Hid (pkE l = pScan (l.drop (k + 1))) := by show _ = _; rw [HS2.out, if_neg hx]
            clear hx
            go_wp2_with fail
            go_roundw
            case rel => exact ⟨k + 1, by omega, by go_num, HS3, by first | rfl | trivial⟩
            case measure => simp [intOf]; omega
        · have hke : k = l.length := by omega
          have HS3 : Hid (pkE l = 0) := by show _ = _; rw [HS.out, hke, List.drop_length]; rfl
          clear hke
          go_wp2_with fail
          go_ret
          exact ⟨ret_int HS3.out.symm, Below.refl _ _⟩

def fewP (l : List Int) : Bool := if l.length ≤ 60 then true else if 4096 < l.length then decide (l.length ≤ 8192) else false
theorem fewP_any (l : List Int) (oa : Option Addr) (c : Nat) (w : World) : Calls Tryz.prog 11 #[.slice oa l.length c] w fun e w' => e = .returned (.bool (fewP l)) ∧ Below w.heap.size w w' := by
  by_cases h1 : l.length ≤ 60
  · have q1 : decide ((l.length : Int) ≤ 60) = true := by simp; omega
    have HR : Hid (fewP l = true) := if_pos h1
    clear h1
    go_enter Tryz.func11, Tryz.ntmps11
    go_wp2_with fail
    go_ret
    exact ⟨ret_bool HR.out.symm, Below.refl _ _⟩
  · have q1 : decide ((l.length : Int) ≤ 60) = false := by simp; omega
    by_cases h2 : 4096 < l.length
    · have q2 : decide ((4096 : Int) < (l.length : Int)) = true := by simp; omega
      have HR : Hid (fewP l = decide ((l.length : Int) ≤ 8192)) := by
        show _ = _
        unfold fewP
        rw [if_neg h1, if_pos h2]
        simp
        omega
      clear h1 h2
      go_enter Tryz.func11, Tryz.ntmps11
      go_wp2_with fail
      go_ret
      exact ⟨ret_bool HR.out.symm, Below.refl _ _⟩
    · have q2 : decide ((4096 : Int) < (l.length : Int)) = false := by simp; omega
      have HR : Hid (fewP l = false) := by show _ = _; unfold fewP; rw [if_neg h1, if_neg h2]
      clear h1 h2
      go_enter Tryz.func11, Tryz.ntmps11
      go_wp2_with fail
      go_ret
      exact ⟨ret_bool HR.out.symm, Below.refl _ _⟩

end Go.Proofs.YtnigfddanoaonaaGreat

set_option linter.unusedVariables false
set_option linter.unusedSimpArgs false
set_option linter.unnecessarySimpa false
namespace Go.Proofs.YtnigfddanoaonaaGreat
open Go.RowKit

/-- What awake leans on between its calls. -/
structure TriCtx (g h z bx : Nat) (W : World) : Prop where
  es : SliceR edgR 3 All W (some ⟨g, 0, none⟩) triE
  ar : SliceR (slcR intR 1) 1 All W (some ⟨h, 0, none⟩) triA
  zs : SliceR intR 1 All W (some ⟨z, 0, none⟩) [0, 0, 0]
  box : Box W bx [.int .i64 3, .slice (some ⟨g, 0, none⟩) 3 3, .slice (some ⟨h, 0, none⟩) 3 3] 52
theorem TriCtx.below {g h z bx : Nat} {W W' : World} (c : TriCtx g h z bx W) (hb : Below W.heap.size W W') : TriCtx g h z bx W' :=
  ⟨c.es.below edgR_ok hb, c.ar.below (slcR_ok intR_ok (by decide)) hb, c.zs.below intR_ok hb, c.box.below hb⟩
/-- A list that a call gave, in later worlds. -/
theorem OwnS.given {B : Nat} {W : World} {rv : Value} {l : List Int} (h : OwnS intR 1 B 3 Non W rv l) : ∃ oa c, rv = .slice oa l.length c ∧ l.length ≤ c ∧ SliceR intR 1 All W oa l := by
  obtain ⟨oa, c, e, hc, hs⟩ := h.slice intR_ok
  exact ⟨oa, c, e, hc, hs.all intR_ok (by decide)⟩

section
variable {g h z bx : Nat} {W : World} (C : TriCtx g h z bx W) (hU : Hid (gErr 3 triE = 0 → Uf (forest triE) (eL triE)))
include C hU
end
end Go.Proofs.YtnigfddanoaonaaGreat

set_option linter.unusedVariables false
set_option linter.unusedSimpArgs false
set_option linter.unnecessarySimpa false
namespace Go.Proofs.YtnigfddanoaonaaGreat
open Go.RowKit

section
variable (n : Int) (es : List Edg) (oe : Option Addr) (c : Nat) (ar : List (List Int)) (oa : Option Addr) (ca : Nat) (F G : Foot) (w : World) (hs : SliceR edgR 3 F w oe es) (hc : es.length ≤ c) (hc2 : es.length ≤ 1000)
    (ha : SliceR (slcR intR 1) 1 G w oa ar) (hac : ar.length ≤ ca) (hac2 : ar.length ≤ 9223372036854775807) (f : List Nat) (hU : Hid (gErr n es = 0 → Uf f (eL es)))
    (q : Int) (rot : List Int) (ot : Option Addr) (ct : Nat) (H : Foot) (hr : SliceR intR 1 H w ot rot) (hrc : rot.length ≤ ct) (hrl : rot.length ≤ 9223372036854775807)
include hs hc hc2 ha hac hac2 hU hr hrc hrl

end

end Go.Proofs.YtnigfddanoaonaaGreat

set_option linter.unusedVariables false
set_option linter.unusedSimpArgs false
set_option linter.unnecessarySimpa false
namespace Go.Proofs.YtnigfddanoaonaaGreat
open Go.RowKit

theorem OwnS.small {B : Nat} {W : World} {rv : Value} {l : List Int} (h : OwnS intR 1 B 3 Non W rv l) : l.length ≤ 9223372036854775807 := by
  obtain ⟨cells, ho, _⟩ := h
  rcases ho.2 with ⟨_, hn⟩ | ⟨g, cap, cur, _, _, _, hle, hcm, _, _⟩
  · omega
  · unfold maxLen at hcm
    omega
end Go.Proofs.YtnigfddanoaonaaGreat

set_option linter.unusedVariables false
set_option linter.unusedSimpArgs false
namespace Go.Proofs.YtnigfddanoaonaaGreat
open Go.RowKit

/-- What the walk leans on between its calls. -/
structure RotC (w : World) (n : Int) (oe : Option Addr) (nes c : Nat) (oa : Option Addr) (nar ca : Nat) (q : Int) (ot : Option Addr) (nrt ct : Nat) (od : Option Addr) (nd cd : Nat) (W : World) : Prop where
  b1 : Box W w.heap.size [.int .i64 n, .slice oe nes c, .slice oa nar ca] 52
  b2 : Box W (w.heap.size + 1) [.int .i64 q, .slice ot nrt ct, .slice od nd cd] 54
  low : Below w.heap.size w W
theorem RotC.below {w : World} {n : Int} {oe : Option Addr} {nes c : Nat} {oa : Option Addr} {nar ca : Nat} {q : Int} {ot : Option Addr} {nrt ct : Nat} {od : Option Addr} {nd cd : Nat} {W W' : World}
    (h : RotC w n oe nes c oa nar ca q ot nrt ct od nd cd W) (hb : Below W.heap.size W W') : RotC w n oe nes c oa nar ca q ot nrt ct od nd cd W' := ⟨h.b1.below hb, h.b2.below hb, h.low.trans (hb.mono h.low.size)⟩
theorem RotC.new {w : World} {n : Int} {oe : Option Addr} {nes c : Nat} {oa : Option Addr} {nar ca : Nat} {q : Int} {ot : Option Addr} {nrt ct : Nat} {od : Option Addr} {nd cd : Nat} :
    RotC w n oe nes c oa nar ca q ot nrt ct od nd cd ((w.alloc (.cells #[.int .i64 n, .slice oe nes c, .slice oa nar ca] 52)).alloc (.cells #[.int .i64 q, .slice ot nrt ct, .slice od nd cd] 54)) := by
  have hb := bnew (bnew (Below.refl w.heap.size w) (.cells #[.int .i64 n, .slice oe nes c, .slice oa nar ca] 52)) (.cells #[.int .i64 q, .slice ot nrt ct, .slice od nd cd] 54)
  refine ⟨(Box.new w [.int .i64 n, .slice oe nes c, .slice oa nar ca] 52).next _, ?_, hb⟩
  have := Box.new (w.alloc (.cells #[.int .i64 n, .slice oe nes c, .slice oa nar ca] 52)) [.int .i64 q, .slice ot nrt ct, .slice od nd cd] 54
  simpa using this
theorem RotC.cells {w : World} {n : Int} {oe : Option Addr} {nes c : Nat} {oa : Option Addr} {nar ca : Nat} {q : Int} {ot : Option Addr} {nrt ct : Nat} {od : Option Addr} {nd cd : Nat} {W : World}
    (h : RotC w n oe nes c oa nar ca q ot nrt ct od nd cd W) : W.cell? ⟨w.heap.size, 0, none⟩ = some (.int .i64 n) ∧ W.cell? ⟨w.heap.size, 1, none⟩ = some (.slice oe nes c) ∧ W.cell? ⟨w.heap.size, 2, none⟩ = some (.slice oa nar ca) ∧
      W.cell? ⟨w.heap.size + 1, 0, none⟩ = some (.int .i64 q) ∧ W.cell? ⟨w.heap.size + 1, 1, none⟩ = some (.slice ot nrt ct) ∧ W.cell? ⟨w.heap.size + 1, 2, none⟩ = some (.slice od nd cd) := by
  have d0 := h.b1.cell 0
  have d1 := h.b1.cell 1
  have d2 := h.b1.cell 2
  have p0 := h.b2.cell 0
  have p1 := h.b2.cell 1
  have p2 := h.b2.cell 2
  simp only [List.getElem?_cons_zero, List.getElem?_cons_succ] at d0 d1 d2 p0 p1 p2
  exact ⟨d0, d1, d2, p0, p1, p2⟩
theorem NwAt.up {w w' : World} {v : Value} {y : Nwk} (h : NwAt All w v y) (hb : Below w.heap.size w w') : NwAt All w' v y := by
  obtain ⟨oq, cq, os, cs, ow, cw, h1, h2, h3, h4, h5, h6, h7⟩ := h
  exact ⟨oq, cq, os, cs, ow, cw, h1, h2, h3, h4, h5.below prcR_ok hb, h6.below intR_ok hb, h7.below (slcR_ok intR_ok (by decide)) hb⟩
/-- What rotor.All gives where the network halts. -/
def AllAt (u : World) (st times : List Int) (e : Ending) (w' : World) : Prop := ∃ (o1 : Option Addr) (k1 : Nat) (o2 : Option Addr) (k2 : Nat), e = .returned (.tuple #[.slice o1 st.length k1, .slice o2 times.length k2, .int .i64 0]) ∧ st.length ≤ k1 ∧ SliceR intR 1 All w' o1 st ∧ SliceR intR 1 All w' o2 times ∧ Below u.heap.size u w'

set_option maxRecDepth 100000 in
set_option maxHeartbeats 8000000 in
theorem rotates_walk (w : World) (n : Int) (es : List Edg) (oe : Option Addr) (c : Nat) (ar : List (List Int)) (oa : Option Addr) (ca : Nat) (hc : es.length ≤ c) (hc2 : es.length ≤ 9223372036854775807) (hs : SliceR edgR 3 All w oe es) (hac : ar.length ≤ ca) (hac2 : ar.length ≤ 9223372036854775807) (ha : SliceR (slcR intR 1) 1 All w oa ar)
    (q : Int) (rot : List Int) (ot : Option Addr) (ct : Nat) (d : List Int) (od : Option Addr) (cd : Nat) (hrc : rot.length ≤ ct) (hrl : rot.length ≤ 9223372036854775807) (hr : SliceR intR 1 All w ot rot) (hdc : d.length ≤ cd) (hdl : d.length ≤ 9223372036854775807) (hd : SliceR intR 1 All w od d)
    (pk : List Int) (op : Option Addr) (cp : Nat) (hpc : pk.length ≤ cp) (hpl : pk.length ≤ 9223372036854775807) (hp : SliceR intR 1 All w op pk) :
    Calls Tryz.prog 7 #[.agg #[.int .i64 n, .slice oe es.length c, .slice oa ar.length ca], .agg #[.int .i64 q, .slice ot rot.length ct, .slice od d.length cd], .slice op pk.length cp] w fun r w' => r = .returned (.bool true) ∧ Below w.heap.size w w' := by
  have HU : Hid (gErr n es = 0 → Uf (forest es) (eL es)) := forest_ok n es
  have K1 : Hid (∀ u, Below w.heap.size w u → Calls Tryz.prog 27 #[.agg #[.int .i64 n, .slice oe es.length c, .slice oa ar.length ca], .slice ot rot.length ct] u fun e w' => e = .returned (.bool (few45 n es ar rot)) ∧ Below u.heap.size u w') := fun u hu =>
    few45_any n es oe c ar oa ca All All u (hs.below edgR_ok hu) hc hc2 (ha.below (slcR_ok intR_ok (by decide)) hu) hac hac2 rot ot ct
  have K2 : Hid (∀ u, Calls Tryz.prog 23 #[.slice od d.length cd] u fun e w' => e = .returned (.bool (decide (d.length ≤ 24))) ∧ Below u.heap.size u w') := fun u => few17_any d od cd u
  have K3 : Hid (few45 n es ar rot = true → ∀ u, Below w.heap.size w u → Calls Tryz.prog 28 #[.agg #[.int .i64 n, .slice oe es.length c, .slice oa ar.length ca], .int .i64 q, .slice ot rot.length ct, .slice od d.length cd] u (ErrPost u (gvE n es (forest es) ar q rot d))) := fun h u hu => by
    obtain ⟨h1, _, _⟩ := few45_yes h
    exact rgiven_any n es oe c ar oa ca All All u (hs.below edgR_ok hu) hc (by omega) (ha.below (slcR_ok intR_ok (by decide)) hu) hac hac2 (forest es) HU q rot ot ct All (hr.below intR_ok hu) hrc hrl d od cd All (hd.below intR_ok hu) hdc hdl
  have K4 : Hid (∀ u, Below w.heap.size w u → Calls Tryz.prog 29 #[.slice od d.length cd] u fun e w' => e = .returned (.bool (smD d)) ∧ Below u.heap.size u w') := fun u hu => smD_any d od cd All u (hd.below intR_ok hu) hdc hdl
  have K5 : Hid (∀ u, Below w.heap.size w u → Calls Tryz.prog 10 #[.slice op pk.length cp] u fun e w' => e = .returned (.int .i64 (pkE pk)) ∧ Below u.heap.size u w') := fun u hu => picks_any pk op cp All u (hp.below intR_ok hu) hpc hpl
  have K6 : Hid (∀ u, Calls Tryz.prog 11 #[.slice op pk.length cp] u fun e w' => e = .returned (.bool (fewP pk)) ∧ Below u.heap.size u w') := fun u => fewP_any pk op cp u
  have K7 : Hid (few45 n es ar rot = true → decide (d.length ≤ 24) = true → ∀ u, Below w.heap.size w u → Calls Tryz.prog 25 #[.agg #[.int .i64 n, .slice oe es.length c, .slice oa ar.length ca], .int .i64 q, .slice ot rot.length ct, .slice od d.length cd] u (NwPost u (routR n es (forest es) ar q rot d))) := fun h h2 u hu => by
    obtain ⟨h1, _, h3⟩ := few45_yes h
    have h4 : d.length ≤ 24 := by simpa using h2
    exact nrout_any n es oe c ar oa ca All All u (hs.below edgR_ok hu) hc (by omega) (ha.below (slcR_ok intR_ok (by decide)) hu) hac hac2 (forest es) HU q rot ot ct All (hr.below intR_ok hu) hrc (by omega) d od cd All (hd.below intR_ok hu) hdc (by omega)
  have K8 : Hid (few45 n es ar rot = true → ∀ (st times : List Int), allRes n es (forest es) ar q rot d = (st, times, 0) → ∀ u, Below w.heap.size w u → Calls Tryz.prog 31 #[.agg #[.int .i64 n, .slice oe es.length c, .slice oa ar.length ca], .int .i64 q, .slice ot rot.length ct, .slice od d.length cd] u (AllAt u st times)) := fun h st times hE u hu => by
    obtain ⟨h1, _, _⟩ := few45_yes h
    have := rotAll_any n es oe c ar oa ca All All u (hs.below edgR_ok hu) hc (by omega) (ha.below (slcR_ok intR_ok (by decide)) hu) hac hac2 (forest es) HU q rot ot ct All (hr.below intR_ok hu) hrc hrl d od cd All (hd.below intR_ok hu) hdc hdl
    rw [hE] at this
    refine this.mono ?_
    rintro e w' ⟨rv, cv, rfl, ho1, ho2, hb⟩
    obtain ⟨o1, k1, rfl, hk1, hs1⟩ := OwnS.given ho1
    obtain ⟨o2, k2, rfl, hk2, hs2⟩ := OwnS.given ho2
    exact ⟨o1, k1, o2, k2, rfl, hk1, hs1, hs2, hb⟩
  have HP := hide hp
  have HPC := hide hpc
  obtain ⟨nes, h1⟩ : ∃ k, k = es.length := ⟨_, rfl⟩
  obtain ⟨nar, h2⟩ : ∃ k, k = ar.length := ⟨_, rfl⟩
  obtain ⟨nrt, h3⟩ : ∃ k, k = rot.length := ⟨_, rfl⟩
  obtain ⟨nd, h4⟩ : ∃ k, k = d.length := ⟨_, rfl⟩
  obtain ⟨npk, h5⟩ : ∃ k, k = pk.length := ⟨_, rfl⟩
  obtain ⟨b1, hb1⟩ : ∃ b, b = few45 n es ar rot := ⟨_, rfl⟩
  obtain ⟨b2, hb2⟩ : ∃ b, b = decide (d.length ≤ 24) := ⟨_, rfl⟩
  rw [← hb1, ← h1, ← h2, ← h3] at K1
  rw [← hb2, ← h4] at K2
  rw [← hb1, ← h1, ← h2, ← h3, ← h4] at K3
  rw [← h4] at K4
  rw [← h5] at K5
  rw [← h5] at K6
  rw [← hb1, ← hb2, ← h1, ← h2, ← h3, ← h4] at K7
  rw [← hb1, ← h1, ← h2, ← h3, ← h4] at K8
  rw [← h1, ← h2, ← h3, ← h4, ← h5]
  have HNPK := hide h5
  have HNAR := hide h2
  have HB1 := hide hb1
  have HDN := hide h4
  clear h1 h2 h3 h4 h5 hb1 hb2 hc hc2 hs hac hac2 ha hrc hrl hr hdc hdl hd hpc hpl hp
  obtain ⟨W1, hW1⟩ : ∃ W1, (w.alloc (.cells #[.int .i64 n, .slice oe nes c, .slice oa nar ca] 52)).alloc (.cells #[.int .i64 q, .slice ot nrt ct, .slice od nd cd] 54) = W1 := ⟨_, rfl⟩
  have C0 := RotC.new (w := w) (n := n) (oe := oe) (nes := nes) (c := c) (oa := oa) (nar := nar) (ca := ca) (q := q) (ot := ot) (nrt := nrt) (ct := ct) (od := od) (nd := nd) (cd := cd)
  rw [hW1] at C0
  have HC := hide C0
  clear C0
  obtain ⟨d0, d1, d2, p0, p1, p2⟩ := HC.out.cells
  go_enter Tryz.func7, Tryz.ntmps7
  go_wp2_with fail
  clear d0 d1 d2 p0 p1 p2
  refine (K1.out _ HC.out.low).mono ?_
  rintro e W2 ⟨rfl, hb⟩
  replace HC := hide (HC.out.below hb)
  clear hb hW1
  obtain ⟨d0, d1, d2, p0, p1, p2⟩ := HC.out.cells
  cases b1
  · clear K3 K7 K8
    clear d0 d1 d2 p0 p1 p2
    go_wp2_with fail
    refine (awake55_any _).mono ?_
    rintro e WF ⟨rfl, hbF⟩
    replace HC := hide (HC.out.below hbF)
    clear hbF
    go_wp2_with fail
    go_ret
    exact ⟨rfl, HC.out.low⟩
  go_wp2_with fail
  clear d0 d1 d2 p0 p1 p2
  refine (K2.out _).mono ?_
  rintro e W3 ⟨rfl, hb⟩
  replace HC := hide (HC.out.below hb)
  clear hb
  obtain ⟨d0, d1, d2, p0, p1, p2⟩ := HC.out.cells
  cases b2
  · clear K3 K7 K8
    clear d0 d1 d2 p0 p1 p2
    go_wp2_with fail
    refine (awake55_any _).mono ?_
    rintro e WF ⟨rfl, hbF⟩
    replace HC := hide (HC.out.below hbF)
    clear hbF
    go_wp2_with fail
    go_ret
    exact ⟨rfl, HC.out.low⟩
  go_wp2_with fail
  clear d0 d1 d2 p0 p1 p2
  refine (K3.out (by first | rfl | trivial) _ HC.out.low).mono ?_
  rintro e W4 ⟨rfl, hb⟩
  replace HC := hide (HC.out.below hb)
  clear hb
  obtain ⟨d0, d1, d2, p0, p1, p2⟩ := HC.out.cells
  by_cases hg : gvE n es (forest es) ar q rot d = 0
  case neg =>
    have q1 : (gvE n es (forest es) ar q rot d != 0) = true := by simpa using hg
    clear hg K3 K7 K8
    clear d0 d1 d2 p0 p1 p2
    go_wp2_with fail
    refine (awake55_any _).mono ?_
    rintro e WF ⟨rfl, hbF⟩
    replace HC := hide (HC.out.below hbF)
    clear hbF
    go_wp2_with fail
    go_ret
    exact ⟨rfl, HC.out.low⟩
  rw [hg]
  have HG := hide hg
  clear hg
  go_wp2_with fail
  clear d0 d1 d2 p0 p1 p2
  refine (K4.out _ HC.out.low).mono ?_
  rintro e W5 ⟨rfl, hb⟩
  replace HC := hide (HC.out.below hb)
  clear hb
  obtain ⟨b4, hb4⟩ : ∃ b, b = smD d := ⟨_, rfl⟩
  rw [← hb4]
  have HSM := hide hb4
  clear hb4
  cases b4
  · clear K3 K7 K8
    go_wp2_with fail
    refine (awake55_any _).mono ?_
    rintro e WF ⟨rfl, hbF⟩
    replace HC := hide (HC.out.below hbF)
    clear hbF
    go_wp2_with fail
    go_ret
    exact ⟨rfl, HC.out.low⟩
  go_wp2_with fail
  refine (K5.out _ HC.out.low).mono ?_
  rintro e W6 ⟨rfl, hb⟩
  replace HC := hide (HC.out.below hb)
  clear hb
  by_cases hk : pkE pk = 0
  case neg =>
    have q1 : (pkE pk != 0) = true := by simpa using hk
    clear hk K3 K7 K8
    go_wp2_with fail
    refine (awake55_any _).mono ?_
    rintro e WF ⟨rfl, hbF⟩
    replace HC := hide (HC.out.below hbF)
    clear hbF
    go_wp2_with fail
    go_ret
    exact ⟨rfl, HC.out.low⟩
  rw [hk]
  have HK := hide hk
  clear hk
  go_wp2_with fail
  refine (K6.out _).mono ?_
  rintro e W7 ⟨rfl, hb⟩
  replace HC := hide (HC.out.below hb)
  clear hb
  obtain ⟨b6, hb6⟩ : ∃ b, b = fewP pk := ⟨_, rfl⟩
  rw [← hb6]
  clear hb6
  cases b6
  · clear K3 K7 K8
    go_wp2_with fail
    refine (awake55_any _).mono ?_
    rintro e WF ⟨rfl, hbF⟩
    replace HC := hide (HC.out.below hbF)
    clear hbF
    go_wp2_with fail
    go_ret
    exact ⟨rfl, HC.out.low⟩
  clear K1 K2 K3 K4 K5 K6
  obtain ⟨d0, d1, d2, p0, p1, p2⟩ := HC.out.cells
  go_wp2_with fail
  clear d0 d1 d2 p0 p1 p2
  refine (K7.out (by first | rfl | trivial) (by first | rfl | trivial) _ HC.out.low).mono ?_
  rintro e W8 ⟨v, rfl, hat, hb⟩
  replace HC := hide (HC.out.below hb)
  clear hb K7
  have hE : es.length ≤ 1000 := by have := (few45_yes HB1.out.symm).1; omega
  have hRR : routR n es (forest es) ar q rot d = (match routU ar (endsL es) q ar.length with
    | some l => (⟨l, rot, waitD d q d.length⟩, 0)
    | none => (nwk0, 12)) := if_pos HG.out
  cases hru : routU ar (endsL es) q ar.length with
  | none =>
    rw [hru] at hRR
    simp only at hRR
    rw [hRR] at hat ⊢
    clear hRR hru hE
    obtain ⟨oq1, cq1, os1, cs1, ow1, cw1, rfl, _, _, _, hp1, hs1, ht1⟩ := hat
    have HAB : Hid (∀ u, Below W8.heap.size W8 u → Calls Tryz.prog 30 #[.agg #[.slice oq1 0 cq1, .slice os1 0 cs1, .slice ow1 0 cw1]] u fun e w' => e = .returned (.tuple #[.bool false, .int .i64 2]) ∧ Below u.heap.size u w') := fun u hu =>
      nabelian_any nwk0 oq1 cq1 os1 cs1 ow1 cw1 All u (hp1.below prcR_ok hu) (by decide) (hs1.below intR_ok hu) (by decide) (ht1.below (slcR_ok intR_ok (by decide)) hu) (by decide)
    have HRU : Hid (∀ u, Below W8.heap.size W8 u → Calls Tryz.prog 13 #[.agg #[.slice oq1 0 cq1, .slice os1 0 cs1, .slice ow1 0 cw1], .slice op npk cp, .int .i64 3000] u fun e w' => e = .returned (.tuple #[.agg #[.slice none 0 0, .slice none 0 0, .slice none 0 0], .slice none 0 0, .int .i64 2]) ∧ Below u.heap.size u w') := fun u hu =>
      nrun_bad nwk0 oq1 cq1 os1 cs1 ow1 cw1 op npk cp 3000 u (hp1.below prcR_ok hu) (hs1.below intR_ok hu) (ht1.below (slcR_ok intR_ok (by decide)) hu) (by decide) (z := 2) rfl (by decide)
    clear hp1 hs1 ht1
    simp only [nwk0, List.length_nil]
    obtain ⟨W9, e9⟩ : ∃ W9, W8.alloc (.cells #[.slice oq1 0 cq1, .slice os1 0 cs1, .slice ow1 0 cw1] 26) = W9 := ⟨_, rfl⟩
    have hx9 : Box W9 W8.heap.size [.slice oq1 0 cq1, .slice os1 0 cs1, .slice ow1 0 cw1] 26 := by rw [← e9]; exact Box.new W8 [.slice oq1 0 cq1, .slice os1 0 cs1, .slice ow1 0 cw1] 26
    have hb9 : Below W8.heap.size W8 W9 := by rw [← e9]; exact bnew (Below.refl _ _) _
    have HX9 := hide hx9
    have HB9 := hide hb9
    replace HC := hide (HC.out.below hb9)
    clear hx9 hb9
    have a0 := HX9.out.cell 0
    have a1 := HX9.out.cell 1
    have a2 := HX9.out.cell 2
    simp only [List.getElem?_cons_zero, List.getElem?_cons_succ] at a0 a1 a2
    go_wp2_with fail
    clear a0 a1 a2
    refine (HAB.out _ HB9.out).mono ?_
    rintro e W10 ⟨rfl, hb⟩
    replace HC := hide (HC.out.below hb)
    have HB10 := hide (HB9.out.trans (hb.mono HB9.out.size))
    have a0 := (HX9.out.below hb).cell 0
    have a1 := (HX9.out.below hb).cell 1
    have a2 := (HX9.out.below hb).cell 2
    simp only [List.getElem?_cons_zero, List.getElem?_cons_succ] at a0 a1 a2
    clear hb e9
    go_wp2_with fail
    clear a0 a1 a2
    refine (HRU.out _ HB10.out).mono ?_
    rintro e W11 ⟨rfl, hb⟩
    replace HC := hide (HC.out.below hb)
    clear hb
    have HBN : Hid (∀ A, Below W11.heap.size W11 (W11.alloc A)) := fun A => bnew (Below.refl _ _) A
    go_wp2_with fail
    refine (awake55_any _).mono ?_
    rintro e WF ⟨rfl, hbF⟩
    replace HC := hide ((HC.out.below (HBN.out _)).below hbF)
    clear hbF
    go_wp2_with fail
    go_ret
    exact ⟨rfl, HC.out.low⟩
  | some l =>
    rw [hru] at hRR
    simp only at hRR
    rw [hRR] at hat ⊢
    clear hRR
    obtain ⟨hri, hcm, hdl2, hll⟩ := rout_right HG.out hE hru
    have HLAW : Hid (∀ y ct, runX pk 3000 0 ⟨l, rot, waitD d q d.length⟩ (l.map fun p => List.replicate p.letters.toNat (0 : Int)) = some (y, ct) → ∃ times, allRes n es (forest es) ar q rot d = (y.state, times, 0) ∧ y.state.length = ar.length ∧ ct.length = ar.length ∧ times.length = ar.length ∧ ∀ v, v < ar.length → (v : Int) ≠ q → ct[v]? = some [times.getD v 0]) :=
      fun y ct h => rot_law HG.out hE hru (by omega) h
    have HNN : Hid ((ar.length : Int) = n) := by
      obtain ⟨q', _, hR⟩ := RtOk.of (gvE_zero HG.out).1 hE
      exact hR.nar
    have HN12 : Hid (ar.length ≤ 12) := by
      obtain ⟨q', _, hR⟩ := RtOk.of (gvE_zero HG.out).1 hE
      exact hR.n12
    obtain ⟨oq1, cq1, os1, cs1, ow1, cw1, rfl, _, _, _, hp1, hs1, ht1⟩ := hat
    have hn12 := hri.n.2
    have hnab : nabR ⟨l, rot, waitD d q d.length⟩ = (true, 0) := by unfold nabR; rw [if_pos (netErr_of hri)]; simp only [hcm]
    have hst := hri.nst
    have hwt := hri.nwt
    have hw60 : ∀ t ∈ (⟨l, rot, waitD d q d.length⟩ : Nwk).waiting, ∀ k ∈ t, k ≤ 1000 := fun t ht k hk => by
      unfold waitD at ht
      simp only at ht
      obtain ⟨v, hv, rfl⟩ := List.mem_map.1 ht
      rw [List.mem_singleton] at hk
      subst hk
      split
      · omega
      · have hvl := List.mem_range.1 hv
        have := smD_yes HSM.out.symm d[v] (List.getElem_mem hvl)
        rw [List.getD_eq_getElem?_getD, List.getElem?_eq_getElem hvl, Option.getD_some]
        omega
    have HAB : Hid (∀ u, Below W8.heap.size W8 u → Calls Tryz.prog 30 #[.agg #[.slice oq1 l.length cq1, .slice os1 rot.length cs1, .slice ow1 (waitD d q d.length).length cw1]] u fun e w' => e = .returned (.tuple #[.bool true, .int .i64 0]) ∧ Below u.heap.size u w') := fun u hu => by
      have := nabelian_any ⟨l, rot, waitD d q d.length⟩ oq1 cq1 os1 cs1 ow1 cw1 All u (hp1.below prcR_ok hu) (by simp only at hn12 ⊢; omega) (hs1.below intR_ok hu) (by simp only at hn12 hst ⊢; omega) (ht1.below (slcR_ok intR_ok (by decide)) hu) (by simp only at hn12 hwt ⊢; omega)
      rw [hnab] at this
      exact this
    have HRU : Hid (∀ u, Below w.heap.size w u → Below W8.heap.size W8 u → Calls Tryz.prog 13 #[.agg #[.slice oq1 l.length cq1, .slice os1 rot.length cs1, .slice ow1 (waitD d q d.length).length cw1], .slice op npk cp, .int .i64 3000] u fun e w' => RunNet All u e w' (runX pk 3000 0 ⟨l, rot, waitD d q d.length⟩ (l.map fun p => List.replicate p.letters.toNat (0 : Int)))) := fun u h0 hu => by
      have := nrun_big ⟨l, rot, waitD d q d.length⟩ oq1 cq1 os1 cs1 ow1 cw1 pk op cp 3000 All u (hp1.below prcR_ok hu) (hs1.below intR_ok hu) (ht1.below (slcR_ok intR_ok (by decide)) hu) (netErr_of hri) (HP.out.below intR_ok h0) HPC.out HK.out (by omega) hw60
      rw [← HNPK.out] at this
      exact this
    simp only at hst hwt hn12
    obtain ⟨nl, h1⟩ : ∃ k, k = l.length := ⟨_, rfl⟩
    obtain ⟨nr, h2⟩ : ∃ k, k = rot.length := ⟨_, rfl⟩
    obtain ⟨nw, h3⟩ : ∃ k, k = (waitD d q d.length).length := ⟨_, rfl⟩
    rw [← h1, ← h2, ← h3] at HAB HRU
    simp only [← h1, ← h2, ← h3]
    have HRI := hide hri
    obtain ⟨R, hR⟩ : ∃ R, R = runX pk 3000 0 ⟨l, rot, waitD d q d.length⟩ (l.map fun p => List.replicate p.letters.toNat (0 : Int)) := ⟨_, rfl⟩
    rw [← hR] at HLAW HRU
    clear hru hcm hdl2 hll hp1 hs1 ht1 hnab hst hwt hw60 h1 h2 h3 hri hn12 hE hR
    obtain ⟨W9, e9⟩ : ∃ W9, W8.alloc (.cells #[.slice oq1 nl cq1, .slice os1 nr cs1, .slice ow1 nw cw1] 26) = W9 := ⟨_, rfl⟩
    have hx9 : Box W9 W8.heap.size [.slice oq1 nl cq1, .slice os1 nr cs1, .slice ow1 nw cw1] 26 := by rw [← e9]; exact Box.new W8 [.slice oq1 nl cq1, .slice os1 nr cs1, .slice ow1 nw cw1] 26
    have hb9 : Below W8.heap.size W8 W9 := by rw [← e9]; exact bnew (Below.refl _ _) _
    have HX9 := hide hx9
    have HB9 := hide hb9
    replace HC := hide (HC.out.below hb9)
    clear hx9 hb9
    have a0 := HX9.out.cell 0
    have a1 := HX9.out.cell 1
    have a2 := HX9.out.cell 2
    simp only [List.getElem?_cons_zero, List.getElem?_cons_succ] at a0 a1 a2
    go_wp2_with fail
    clear a0 a1 a2
    refine (HAB.out _ HB9.out).mono ?_
    rintro e W10 ⟨rfl, hb⟩
    replace HC := hide (HC.out.below hb)
    have HB10 := hide (HB9.out.trans (hb.mono HB9.out.size))
    have a0 := (HX9.out.below hb).cell 0
    have a1 := (HX9.out.below hb).cell 1
    have a2 := (HX9.out.below hb).cell 2
    simp only [List.getElem?_cons_zero, List.getElem?_cons_succ] at a0 a1 a2
    clear hb e9
    go_wp2_with fail
    clear a0 a1 a2
    refine (HRU.out _ HC.out.low HB10.out).mono ?_
    cases R with
    | none =>
      rintro e W11 ⟨rfl, hb⟩
      replace HC := hide (HC.out.below hb)
      clear hb HLAW HRU HAB
      have HBN : Hid (∀ A, Below W11.heap.size W11 (W11.alloc A)) := fun A => bnew (Below.refl _ _) A
      go_wp2_with fail
      refine (awake55_any _).mono ?_
      rintro e WF ⟨rfl, hbF⟩
      replace HC := hide ((HC.out.below (HBN.out _)).below hbF)
      clear hbF
      go_wp2_with fail
      go_ret
      exact ⟨rfl, HC.out.low⟩
    | some yc =>
      obtain ⟨y, cts⟩ := yc
      obtain ⟨times, hall, hyl, hcl, htl, hcts⟩ := HLAW.out y cts rfl
      rintro e W11 ⟨v, oc, cc, rfl, ⟨oq2, cq2, os2, cs2, ow2, cw2, rfl, _, hcs2, _, hp2, hs2, ht2⟩, hcc, hct, hb⟩
      replace HC := hide (HC.out.below hb)
      have HALL := hide (K8.out (by first | rfl | trivial) y.state times hall)
      have HCT := hide hcts
      have HNAR2 := HNAR.out
      obtain ⟨np, h1⟩ : ∃ k, k = y.procs.length := ⟨_, rfl⟩
      obtain ⟨nw2, h3⟩ : ∃ k, k = y.waiting.length := ⟨_, rfl⟩
      have hyn : y.state.length = nar := by omega
      have hcn : cts.length = nar := by omega
      have htn : times.length = nar := by omega
      have HTN := hide htn
      have HCN := hide hcn
      have HSt := hide hs2
      have HTab := hide hct
      have HCS2 := hide hcs2
      simp only [← h1, ← h3, hyn, hcn]
      obtain ⟨W12, e12⟩ : ∃ W12, W11.alloc (.cells #[.slice oq2 np cq2, .slice os2 nar cs2, .slice ow2 nw2 cw2] 26) = W12 := ⟨_, rfl⟩
      have hx12 : Box W12 W11.heap.size [.slice oq2 np cq2, .slice os2 nar cs2, .slice ow2 nw2 cw2] 26 := by rw [← e12]; exact Box.new W11 [.slice oq2 np cq2, .slice os2 nar cs2, .slice ow2 nw2 cw2] 26
      have hb12 : Below W11.heap.size W11 W12 := by rw [← e12]; exact bnew (Below.refl _ _) _
      have HX12 := hide hx12
      have HB12 := hide hb12
      replace HC := hide (HC.out.below hb12)
      have HYN := hide hyn
      clear hb hall hyl hcl htl hcts hp2 hs2 ht2 hct hcc hcs2 h1 h3 hyn hcn htn hx12 hb12 K8 HNAR2 HLAW HRU HAB
      obtain ⟨d0, d1, d2, p0, p1, p2⟩ := HC.out.cells
      go_wp2_with fail
      clear d0 d1 d2 p0 p1 p2
      refine (HALL.out _ HC.out.low).mono ?_
      rintro e W13 ⟨o1, k1, o2, k2, rfl, hk1, hs3, ht3, hb⟩
      replace HC := hide (HC.out.below hb)
      have HB13 := hide (HB12.out.trans (hb.mono HB12.out.size))
      have hx13 := HX12.out.below hb
      have a1 := hx13.cell 1
      simp only [List.getElem?_cons_zero, List.getElem?_cons_succ] at a1
      have HX13 := hide hx13
      have HTI := hide ht3
      have HEQ : Hid (Calls Tryz.prog 32 #[.slice o1 nar k1, .slice os2 nar cs2] W13 fun e w' => e = .returned (.bool true) ∧ Below W13.heap.size W13 w') := by
        have := equalInt_any y.state y.state o1 os2 k1 cs2 All W13 hs3 (HSt.out.below intR_ok HB13.out) hk1 (by have := HYN.out; have := HNAR.out; have := HN12.out; omega)
        rw [HYN.out, show decide (y.state = y.state) = true from by simp] at this
        exact this
      rw [HYN.out, HTN.out]
      clear hk1 hs3 ht3 hb hx13 e12
      go_wp2_with fail
      refine HEQ.out.mono ?_
      rintro e W14 ⟨rfl, hb⟩
      replace HC := hide (HC.out.below hb)
      have HB14 := hide (HB13.out.trans (hb.mono HB13.out.size))
      replace HTI := hide (HTI.out.below intR_ok hb)
      clear hb a1 HEQ
      obtain ⟨d0, d1, d2, p0, p1, p2⟩ := HC.out.cells
      have HNn : Hid ((nar : Int) = n) := by show _ = _; rw [HNAR.out]; exact HNN.out
      have q7 : ((nar : Int) != n) = false := by simp [HNn.out]
      go_wp2_with fail
      clear d0 d1 d2 p0 p1 p2
      have hn12 : nar ≤ 12 := by rw [HNAR.out]; exact HN12.out
      have HTb := hide (HTab.out.below (slcR_ok intR_ok (by decide)) HB14.out)
      go_loopw [150] (fun iv wr => ∃ k : Nat, k ≤ nar ∧ iv = .int .i64 k ∧ Hid (Below W14.heap.size W14 wr)) (fun iv _ => nar - (intOf iv).toNat)
      case atStart => exact ⟨0, by omega, rfl, Below.refl _ _⟩
      case round =>
        obtain ⟨k, hk, rfl, HBk⟩ := hrel
        obtain ⟨d0, d1, d2, p0, p1, p2⟩ := (HC.out.below HBk.out).cells
        by_cases hlt : k < nar
        · by_cases hkq : (k : Int) = q
          · have q1 : ((k : Int) != q) = false := by simp [hkq]
            clear hkq
            go_wp2_with fail
            go_quiet (fail)
            go_wp2_with fail
            go_roundw
            case rel => exact ⟨k + 1, by omega, by go_num, below_drewN HBk.out _⟩
            case measure => simp [intOf]; omega
          · have q1 : ((k : Int) != q) = true := by simpa using hkq
            obtain ⟨x, _, hxg, b, off, oa', c', rfl, _, c0, _, _, hsx⟩ := (HTb.out.below (slcR_ok intR_ok (by decide)) HBk.out).slc_at (i := k) (by rw [HCN.out]; exact hlt)
            have hx1 := HCT.out k (by rw [← HNAR.out]; exact hlt) hkq
            rw [hxg] at hx1
            injection hx1 with hx1
            subst hx1
            obtain ⟨z, _, hz, _, b2, off2, rfl, _, c1⟩ := hsx.int_at (i := 0) (by simp)
            obtain ⟨z2, _, hz2, _, b3, off3, rfl, _, c2⟩ := (HTI.out.below intR_ok HBk.out).int_at (i := k) (by rw [HTN.out]; exact hlt)
            rw [getD_some hz2] at hz
            injection hz with hz
            subst hz
            simp only [List.length_singleton, Nat.add_zero] at c0 c1
            have q2 : (z2 != z2) = false := by simp
            clear hkq hxg hsx hz2
            go_wp2_with fail
            go_quiet (fail)
            go_wp2_with fail
            go_roundw
            case rel => exact ⟨k + 1, by omega, by go_num, below_drewN HBk.out _⟩
            case measure => simp [intOf]; omega
        · go_wp2_with fail
          refine (awake55_any _).mono ?_
          rintro e WF ⟨rfl, hbF⟩
          have HLO := hide (HC.out.low.trans ((HBk.out.trans (hbF.mono HBk.out.size)).mono HC.out.low.size))
          clear hbF
          go_wp2_with fail
          go_ret
          exact ⟨rfl, HLO.out⟩

end Go.Proofs.YtnigfddanoaonaaGreat

set_option linter.unusedVariables false
namespace Go.Proofs.YtnigfddanoaonaaGreat
open Go.RowKit Go.ChangeShapes Go.WideShapes Go.ChangeAt Go.Deep

set_option maxRecDepth 100000 in
theorem networkRotates_lifted (os : Os) (started : os.Started) (H : Type) (enc : TypeId × Value → H) :
    ReturnsInHanded {} Tryz.checked os 7 .any (Rows.networkRotatesSpec.pre6 enc Tryz.prog Tryz.f7 Rows.networkRotatesRow.domain false) (Rows.networkRotatesSpec.post enc Tryz.prog Tryz.f7 false true false false) := by
  refine returnsInHanded_of_change (C := Tryz.checked) own_knob started (by kernel_rfl) Tryz.func7
    (ChangeSpec.witness6 (enc := enc) (C := Tryz.checked) false ⟨#[], #[.agg #[.int .i64 0, .slice none 0 0, .slice none 0 0], .agg #[.int .i64 0, .slice none 0 0, .slice none 0 0], .slice none 0 0], []⟩ 8 (by kernel_rfl) (by kernel_rfl) (by kernel_rfl) (by kernel_rfl)) ?_
  intro W base args ds gs before hval0 hW _ _
  have hval : ∀ (j : Nat) t v, Tryz.f7.params[j]? = some t → args[j]? = some v → Value.okWide Tryz.prog W .any base t v := hval0
  have hW' := hW
  obtain ⟨p, q, hA0, hV, rfl, _, _⟩ := hW
  have hA : DataW.TrodAll enc Tryz.prog W 0 (fun _ => true) true Tryz.f7.params.toList args.toList ds p := hA0
  rw [Tryz.params7] at hA hval
  obtain ⟨v0, v1, v2, d0, d1, d2, p0, p1, p2, rfl, rfl, rfl, h0, h1, h2⟩ := trodAll_three hA
  obtain ⟨rfl, rfl⟩ := trodVars_none hV
  have h0k := h0
  have h1k := h1
  have h2k := h2
  obtain ⟨n0, es0, oe0, c0, ar0, oa0, ca0, rfl, hc0, hl0, he0, hac0, hal0, ha0⟩ := open_rib (hval 0 52 v0 rfl rfl) h0
  obtain ⟨q1, rot1, ot1, ct1, d1x, od1, cd1, rfl, hrc1, hrl1, hr1, hdc1, hdl1, hd1⟩ := open_game55 (hval 1 54 v1 rfl rfl) h1
  obtain ⟨xs2, oa2, c2, rfl, hc2, hd2, hs2⟩ := open_is (hval 2 23 v2 rfl rfl) h2
  clear hA0 hval0
  simp only [List.append_nil] at hW'
  have hlt0 : ∀ y ∈ p0, y.block < W.heap.size := fun y hy => by simpa using hW'.lt y (by simp [hy])
  have hlt1 : ∀ y ∈ p1, y.block < W.heap.size := fun y hy => by simpa using hW'.lt y (by simp [hy])
  have hlt2 : ∀ y ∈ p2, y.block < W.heap.size := fun y hy => by simpa using hW'.lt y (by simp [hy])
  refine (rotates_walk W n0 es0 oe0 c0 ar0 oa0 ca0 hc0 hl0 he0 hac0 hal0 ha0 q1 rot1 ot1 ct1 d1x od1 cd1 hrc1 hrl1 hr1 hdc1 hdl1 hd1 xs2 oa2 c2 hc2 hd2 hs2).mono fun e W' ⟨he, hn⟩ => ?_
  subst he
  exact ⟨_, rfl, _, _, _, [], _, [], hW', trodAll_mk1 (shut_bool Tryz.underlying4 true), trodAll_mk3 (Below.trod laid_out (by kernel_rfl) (of_decide_eq_true (by kernel_rfl)) h0k hn hlt0) (Below.trod laid_out (by kernel_rfl) (of_decide_eq_true (by kernel_rfl)) h1k hn hlt1) (Below.trod laid_out (by kernel_rfl) (of_decide_eq_true (by kernel_rfl)) h2k hn hlt2), rfl, hn.frame _, fun h => by cases h⟩

theorem networkRotates_holds : Rows.NetworkRotatesSaid :=
  OpenClaim.holds_of_wide 7 Tryz.f7 rfl rfl rfl rfl rfl rfl rfl ⟨rfl, rfl, rfl, rfl, rfl⟩ rfl rfl rfl rfl rfl (by kernel_rfl) Tryz.func7 (by kernel_rfl)
    (of_decide_eq_true (by kernel_rfl)) (by unfold Func.isWrapper; first | (rw [if_pos (by decide +kernel)]; kernel_rfl) | (rw [if_neg (by decide +kernel)]; exact ⟨rfl, rfl⟩))
    (fun os started H enc _ => networkRotates_lifted os started H enc)

#print axioms networkRotates_holds
end Go.Proofs.YtnigfddanoaonaaGreat

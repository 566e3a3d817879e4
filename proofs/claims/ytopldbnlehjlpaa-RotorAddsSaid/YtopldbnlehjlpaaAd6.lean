/-
  RotorAdds: routing the chips of one vertex after the other, each by itself, is routing all; for all ribbon graphs and games, no condition.
  The walk of RotorAdds.
  What RotorAdds leans on: plain law.
  Chips one by one, and all at once: plain law.
  The order in which chips are moved does not matter: plain law.
  A game in memory; ref17.Few, ref17.Small; sandpilelaw45.small.
  ref17.In, ref17.Check, ref45.chips, ref45.Given; ref17.Few, ref17.Small, ref45.FewChips.
  The walk of RotorSteps.
  ref45.Walk, ref45.Route (printed by wip/mkRefWalk.py).
  awake: the examples of chapter 45 hold.
  What the functions give at the triangle: numbers.
-/
import Derived.Test.YtopldbnlehjlpaaAd5
import Derived.Deep.RegionHeld3
import Derived.Test.YtopldbnlehjlpaaRows

set_option linter.unusedVariables false
set_option linter.unusedSimpArgs false
namespace Go.Proofs.Ytopldbnlehjlpaa
open Go.RowKit

theorem tv_rt : rtE 3 triE (forest triE) triA 0 [0, 0, 0] = 0 := by decide +kernel
theorem tv_rt2 : rtE 3 triE (forest triE) triA 0 [0, 0, 1] = 0 := by decide +kernel
theorem tv_st : stE 3 triE (forest triE) triA 0 [0, 0, 0] 1 = 0 := by
  unfold stE
  rw [if_pos tv_rt]
  decide +kernel
theorem tv_step : stepRes 3 triE (forest triE) triA 0 [0, 0, 0] 1 = ([0, 1, 0], 2, 0) := by
  unfold stepRes
  rw [if_pos tv_st]
  decide +kernel
theorem tv_c0 : chipV triA (endsL triE) [0, 0, 0] 1 3 = 0 := by decide +kernel
theorem tv_c1 : ∀ j, j < 3 → chipV triA (endsL triE) [0, 0, 0] 1 j ≠ 0 := by decide +kernel
theorem tv_walk : walkRes 3 triE (forest triE) triA 0 [0, 0, 0] 1 = ([1, 2, 1, 0], 0) := by
  unfold walkRes
  rw [if_pos tv_st]
  show walkOf triA (endsL triE) 0 [0, 0, 0] 1 = _
  unfold walkOf
  rw [firstAt_some (i := 3) (by omega) tv_c0 tv_c1]
  decide +kernel
theorem tv_route : routeRes 3 triE (forest triE) triA 0 [0, 0, 0] 1 = ([0, 0, 1], 3, 0) := by
  unfold routeRes
  rw [if_pos tv_st]
  show routeOf triA (endsL triE) 0 [0, 0, 0] 1 = _
  rw [routeOf_hit (i := 3) (by omega) tv_c0 tv_c1]
  decide +kernel
theorem tv_acyc : acycRes 3 triE (forest triE) triA 0 [0, 0, 1] = (true, 0) := by
  unfold acycRes
  rw [if_pos tv_rt2]
  decide +kernel
theorem tv_edges : edR 3 triE (forest triE) triA 0 [0, 0, 1] = [0, 2] := by
  unfold edR
  rw [if_pos tv_rt2]
  decide +kernel
theorem tv_all : allRes 3 triE (forest triE) triA 0 [0, 0, 0] [0, 1, 1] = ([0, 0, 0], [0, 2, 2], 0) := by
  have hg : gvE 3 triE (forest triE) triA 0 [0, 0, 0] [0, 1, 1] = 0 := by
    unfold gvE
    rw [if_pos tv_rt]
    decide +kernel
  unfold allRes
  rw [if_pos hg]
  show movesOf triA (endsL triE) 0 pk0 [0, 0, 0] [0, 1, 1] = _
  rw [movesOf_hit (i := 4) (s := ([0, 0, 0], [2, 0, 0], [0, 2, 2])) (by omega) (by decide +kernel) (by decide +kernel) (by decide +kernel)]

end Go.Proofs.Ytopldbnlehjlpaa

set_option linter.unusedVariables false
set_option linter.unusedSimpArgs false
set_option linter.unnecessarySimpa false
namespace Go.Proofs.Ytopldbnlehjlpaa
open Go.RowKit

/-- What awake leans on between its calls. -/
structure TriCtx (g h z bx : Nat) (W : World) : Prop where
  es : SliceR edgR 3 All W (some ⟨g, 0, none⟩) triE
  ar : SliceR (slcR intR 1) 1 All W (some ⟨h, 0, none⟩) triA
  zs : SliceR intR 1 All W (some ⟨z, 0, none⟩) [0, 0, 0]
  box : Box W bx [.int .i64 3, .slice (some ⟨g, 0, none⟩) 3 3, .slice (some ⟨h, 0, none⟩) 3 3] 27
theorem TriCtx.below {g h z bx : Nat} {W W' : World} (c : TriCtx g h z bx W) (hb : Below W.heap.size W W') : TriCtx g h z bx W' :=
  ⟨c.es.below edgR_ok hb, c.ar.below (slcR_ok intR_ok (by decide)) hb, c.zs.below intR_ok hb, c.box.below hb⟩
/-- A list that a call gave, in later worlds. -/
theorem OwnS.given {B : Nat} {W : World} {rv : Value} {l : List Int} (h : OwnS intR 1 B 3 Non W rv l) : ∃ oa c, rv = .slice oa l.length c ∧ l.length ≤ c ∧ SliceR intR 1 All W oa l := by
  obtain ⟨oa, c, e, hc, hs⟩ := h.slice intR_ok
  exact ⟨oa, c, e, hc, hs.all intR_ok (by decide)⟩

section
variable {g h z bx : Nat} {W : World} (C : TriCtx g h z bx W) (hU : Hid (gErr 3 triE = 0 → Uf (forest triE) (eL triE)))
include C hU
theorem tri_walk : Calls Try.prog 15 #[.agg #[.int .i64 3, .slice (some ⟨g, 0, none⟩) 3 3, .slice (some ⟨h, 0, none⟩) 3 3], .int .i64 0, .slice (some ⟨z, 0, none⟩) 3 3, .int .i64 1] W (ListErr W [1, 2, 1, 0] 0) := by
  have := rotWalk_any 3 triE (some ⟨g, 0, none⟩) 3 triA (some ⟨h, 0, none⟩) 3 All All W C.es (by decide) (by decide) C.ar (by decide) (by decide) (forest triE) hU 0 [0, 0, 0] (some ⟨z, 0, none⟩) 3 All C.zs (by decide) (by decide) 1
  rw [tv_walk] at this
  exact this
theorem tri_route : Calls Try.prog 20 #[.agg #[.int .i64 3, .slice (some ⟨g, 0, none⟩) 3 3, .slice (some ⟨h, 0, none⟩) 3 3], .int .i64 0, .slice (some ⟨z, 0, none⟩) 3 3, .int .i64 1] W (StepRes W ([0, 0, 1], 3, 0)) := by
  have := rotRoute_any 3 triE (some ⟨g, 0, none⟩) 3 triA (some ⟨h, 0, none⟩) 3 All All W C.es (by decide) (by decide) C.ar (by decide) (by decide) (forest triE) hU 0 [0, 0, 0] (some ⟨z, 0, none⟩) 3 All C.zs (by decide) (by decide) 1
  rw [tv_route] at this
  exact this
theorem tri_step : Calls Try.prog 13 #[.agg #[.int .i64 3, .slice (some ⟨g, 0, none⟩) 3 3, .slice (some ⟨h, 0, none⟩) 3 3], .int .i64 0, .slice (some ⟨z, 0, none⟩) 3 3, .int .i64 1] W (StepRes W ([0, 1, 0], 2, 0)) := by
  have := rotStep_any 3 triE (some ⟨g, 0, none⟩) 3 triA (some ⟨h, 0, none⟩) 3 All All W C.es (by decide) (by decide) C.ar (by decide) (by decide) (forest triE) hU 0 [0, 0, 0] (some ⟨z, 0, none⟩) 3 All C.zs (by decide) (by decide) 1
  rw [tv_step] at this
  exact this
theorem tri_acyc (oa : Option Addr) (c : Nat) (hc : 3 ≤ c) (hs : SliceR intR 1 All W oa [0, 0, 1]) : Calls Try.prog 24 #[.agg #[.int .i64 3, .slice (some ⟨g, 0, none⟩) 3 3, .slice (some ⟨h, 0, none⟩) 3 3], .int .i64 0, .slice oa 3 c] W (BoolErr W true 0) := by
  have := rotAcyclic_any 3 triE (some ⟨g, 0, none⟩) 3 triA (some ⟨h, 0, none⟩) 3 All All W C.es (by decide) (by decide) C.ar (by decide) (by decide) (forest triE) hU 0 [0, 0, 1] oa c All hs hc (by decide)
  rw [tv_acyc] at this
  exact this
theorem tri_edges (oa : Option Addr) (c : Nat) (hc : 3 ≤ c) (hs : SliceR intR 1 All W oa [0, 0, 1]) : Calls Try.prog 22 #[.agg #[.int .i64 3, .slice (some ⟨g, 0, none⟩) 3 3, .slice (some ⟨h, 0, none⟩) 3 3], .int .i64 0, .slice oa 3 c] W (ListErr W [0, 2] 0) := by
  have := rotEdges_any 3 triE (some ⟨g, 0, none⟩) 3 triA (some ⟨h, 0, none⟩) 3 All All W C.es (by decide) (by decide) C.ar (by decide) (by decide) (forest triE) hU 0 [0, 0, 1] oa c All hs hc (by decide)
  rw [tv_edges, tv_rt2] at this
  exact this
theorem tri_all (oa : Option Addr) (hs : SliceR intR 1 All W oa [0, 1, 1]) : Calls Try.prog 27 #[.agg #[.int .i64 3, .slice (some ⟨g, 0, none⟩) 3 3, .slice (some ⟨h, 0, none⟩) 3 3], .int .i64 0, .slice (some ⟨z, 0, none⟩) 3 3, .slice oa 3 3] W (MovesPost W.heap.size W ([0, 0, 0], [0, 2, 2], 0)) := by
  have := rotAll_any 3 triE (some ⟨g, 0, none⟩) 3 triA (some ⟨h, 0, none⟩) 3 All All W C.es (by decide) (by decide) C.ar (by decide) (by decide) (forest triE) hU 0 [0, 0, 0] (some ⟨z, 0, none⟩) 3 All C.zs (by decide) (by decide) [0, 1, 1] oa 3 All hs (by decide) (by decide)
  rw [tv_all] at this
  exact this
end
theorem eq_lit (l m : List Int) (oa : Option Addr) (c : Nat) (hc : l.length ≤ c) (hl : l.length ≤ 9223372036854775807) (W : World) (hs : SliceR intR 1 All W oa l) (hm : ∀ x ∈ m, 0 ≤ x ∧ x ≤ 100) (cs : Array Value) (hcs : cs = (m.map (Value.int .i64)).toArray) (k : Nat) (hk : k = m.length) (j : Nat) (hj : j = l.length) :
    Calls Try.prog 19 #[.slice oa j c, .slice (some ⟨W.heap.size, 0, none⟩) k k] (W.alloc (.cells cs 3)) fun e w' => e = .returned (.bool (decide (l = m))) ∧ Below W.heap.size W w' := by
  subst hcs hk hj
  refine (equalInt_any l m oa (some ⟨W.heap.size, 0, none⟩) c m.length All _ (hs.below intR_ok (bnew (Below.refl _ _) _)) (ints_lit (F := All) (G := All) W 3 m (fun x hx => i64_s (hm x hx)) trivial) hc hl).mono ?_
  rintro e w' ⟨rfl, hb⟩
  exact ⟨rfl, (bnew (Below.refl _ _) _).trans (hb.mono (by simp))⟩

set_option maxRecDepth 100000 in
set_option maxHeartbeats 4000000 in
theorem awake45_any (w : World) : Calls Try.prog 12 #[] w fun e w' => e = .returned (.bool true) ∧ Below w.heap.size w w' := by
  have hU : Hid (gErr 3 triE = 0 → Uf (forest triE) (eL triE)) := forest_ok 3 triE
  go_enter Try.func12, Try.ntmps12
  go_wp2_with fail
  refine (tri45_any _).mono ?_
  rintro e w1 ⟨g, h, rfl, hE, hA, hb1⟩
  obtain ⟨W2, hW2⟩ : ∃ W2, (w1.alloc (.cells #[.int .i64 0, .int .i64 0, .int .i64 0] 3)).alloc (.cells #[.int .i64 3, .slice (some ⟨g, 0, none⟩) 3 3, .slice (some ⟨h, 0, none⟩) 3 3] 27) = W2 := ⟨_, rfl⟩
  have hb12 : Below w1.heap.size w1 W2 := by rw [← hW2]; exact bnew (bnew (Below.refl _ _) _) _
  have C2 : TriCtx g h w1.heap.size (w1.heap.size + 1) W2 := by
    refine ⟨hE.below edgR_ok hb12, hA.below (slcR_ok intR_ok (by decide)) hb12, ?_, ?_⟩
    · have := (ints_lit (F := All) (G := All) w1 3 [0, 0, 0] (by intro x hx; simp at hx; subst hx; exact i64_s (by decide)) trivial).below intR_ok (bnew (Below.refl _ _) (.cells #[.int .i64 3, .slice (some ⟨g, 0, none⟩) 3 3, .slice (some ⟨h, 0, none⟩) 3 3] 27))
      rw [← hW2]
      simpa using this
    · have := Box.new (w1.alloc (.cells #[.int .i64 0, .int .i64 0, .int .i64 0] 3)) [.int .i64 3, .slice (some ⟨g, 0, none⟩) 3 3, .slice (some ⟨h, 0, none⟩) 3 3] 27
      rw [← hW2]
      simpa using this
  have HC := hide C2
  have hB2 := hide (hb1.trans (hb12.mono hb1.size))
  have d0 := C2.box.cell 0
  have d1 := C2.box.cell 1
  have d2 := C2.box.cell 2
  simp only [List.getElem?_cons_zero, List.getElem?_cons_succ] at d0 d1 d2
  clear hE hA hb1 hb12 C2
  go_wp2_with fail
  clear d0 d1 d2 hW2
  refine (tri_walk HC.out hU).mono ?_
  rintro e W3 ⟨rv, rfl, ho, hb⟩
  obtain ⟨oa3, c3, rfl, hc3, hs3⟩ := OwnS.given ho
  have HC := hide (HC.out.below hb)
  have hB2 := hide (hB2.out.trans (hb.mono hB2.out.size))
  have d0 := HC.out.box.cell 0
  have d1 := HC.out.box.cell 1
  have d2 := HC.out.box.cell 2
  simp only [List.getElem?_cons_zero, List.getElem?_cons_succ] at d0 d1 d2
  have s3 := hide hs3
  clear ho hb hs3
  go_wp2_with fail
  clear d0 d1 d2
  refine (tri_route HC.out hU).mono ?_
  rintro e W4 ⟨rv, rfl, ho, hb⟩
  obtain ⟨oa4, c4, rfl, hc4, hs4⟩ := OwnS.given ho
  have HC := hide (HC.out.below hb)
  have hB2 := hide (hB2.out.trans (hb.mono hB2.out.size))
  have s3 := hide (s3.out.below intR_ok hb)
  have d0 := HC.out.box.cell 0
  have d1 := HC.out.box.cell 1
  have d2 := HC.out.box.cell 2
  simp only [List.getElem?_cons_zero, List.getElem?_cons_succ] at d0 d1 d2
  have s4 := hide hs4
  clear ho hb hs4
  go_wp2_with fail
  clear d0 d1 d2
  refine (tri_step HC.out hU).mono ?_
  rintro e W5 ⟨rv, rfl, ho, hb⟩
  obtain ⟨oa5, c5, rfl, hc5, hs5⟩ := OwnS.given ho
  have HC := hide (HC.out.below hb)
  have hB2 := hide (hB2.out.trans (hb.mono hB2.out.size))
  have s3 := hide (s3.out.below intR_ok hb)
  have s4 := hide (s4.out.below intR_ok hb)
  have d0 := HC.out.box.cell 0
  have d1 := HC.out.box.cell 1
  have d2 := HC.out.box.cell 2
  simp only [List.getElem?_cons_zero, List.getElem?_cons_succ] at d0 d1 d2
  have s5 := hide hs5
  clear ho hb hs5
  go_wp2_with fail
  clear d0 d1 d2
  refine (eq_lit [1, 2, 1, 0] [1, 2, 1, 0] oa3 c3 hc3 (by decide) _ s3.out (by decide) _ rfl _ rfl _ rfl).mono ?_
  rintro e W6 ⟨rfl, hb⟩
  have HC := hide (HC.out.below hb)
  have hB2 := hide (hB2.out.trans (hb.mono hB2.out.size))
  have s4 := hide (s4.out.below intR_ok hb)
  have s5 := hide (s5.out.below intR_ok hb)
  have d0 := HC.out.box.cell 0
  have d1 := HC.out.box.cell 1
  have d2 := HC.out.box.cell 2
  simp only [List.getElem?_cons_zero, List.getElem?_cons_succ] at d0 d1 d2
  clear hb
  go_wp2_with fail
  clear d0 d1 d2
  refine (eq_lit [0, 0, 1] [0, 0, 1] oa4 c4 hc4 (by decide) _ s4.out (by decide) _ rfl _ rfl _ rfl).mono ?_
  rintro e W7 ⟨rfl, hb⟩
  have HC := hide (HC.out.below hb)
  have hB2 := hide (hB2.out.trans (hb.mono hB2.out.size))
  have s4 := hide (s4.out.below intR_ok hb)
  have s5 := hide (s5.out.below intR_ok hb)
  have d0 := HC.out.box.cell 0
  have d1 := HC.out.box.cell 1
  have d2 := HC.out.box.cell 2
  simp only [List.getElem?_cons_zero, List.getElem?_cons_succ] at d0 d1 d2
  clear hb
  go_wp2_with fail
  clear d0 d1 d2
  refine (eq_lit [0, 1, 0] [0, 1, 0] oa5 c5 hc5 (by decide) _ s5.out (by decide) _ rfl _ rfl _ rfl).mono ?_
  rintro e W8 ⟨rfl, hb⟩
  have HC := hide (HC.out.below hb)
  have hB2 := hide (hB2.out.trans (hb.mono hB2.out.size))
  have s4 := hide (s4.out.below intR_ok hb)
  have d0 := HC.out.box.cell 0
  have d1 := HC.out.box.cell 1
  have d2 := HC.out.box.cell 2
  simp only [List.getElem?_cons_zero, List.getElem?_cons_succ] at d0 d1 d2
  clear hb
  go_wp2_with fail
  clear d0 d1 d2
  refine (tri_acyc HC.out hU oa4 c4 hc4 s4.out).mono ?_
  rintro e W9 ⟨rfl, hb⟩
  have HC := hide (HC.out.below hb)
  have hB2 := hide (hB2.out.trans (hb.mono hB2.out.size))
  have s4 := hide (s4.out.below intR_ok hb)
  have d0 := HC.out.box.cell 0
  have d1 := HC.out.box.cell 1
  have d2 := HC.out.box.cell 2
  simp only [List.getElem?_cons_zero, List.getElem?_cons_succ] at d0 d1 d2
  clear hb
  go_wp2_with fail
  clear d0 d1 d2
  refine (tri_edges HC.out hU oa4 c4 hc4 s4.out).mono ?_
  rintro e W10 ⟨rv, rfl, ho, hb⟩
  obtain ⟨oa10, c10, rfl, hc10, hs10⟩ := OwnS.given ho
  have HC := hide (HC.out.below hb)
  have hB2 := hide (hB2.out.trans (hb.mono hB2.out.size))
  have d0 := HC.out.box.cell 0
  have d1 := HC.out.box.cell 1
  have d2 := HC.out.box.cell 2
  simp only [List.getElem?_cons_zero, List.getElem?_cons_succ] at d0 d1 d2
  have s10 := hide hs10
  clear ho hb hs10
  go_wp2_with fail
  clear d0 d1 d2
  have hbq := bnew (Below.refl W10.heap.size W10) (.cells #[.int .i64 0, .int .i64 1, .int .i64 1] 3)
  have hsq := ints_lit (F := All) (G := All) W10 3 [0, 1, 1] (by intro x hx; simp at hx; rcases hx with rfl | rfl <;> exact i64_s (by decide)) trivial
  refine (tri_all (HC.out.below hbq) hU _ hsq).mono ?_
  rintro e W11 ⟨rv, cv, rfl, ho1, ho2, hb⟩
  replace hb := hbq.trans (hb.mono hbq.size)
  obtain ⟨oa11, c11, rfl, hc11, hs11⟩ := OwnS.given ho1
  obtain ⟨oa12, c12, rfl, hc12, hs12⟩ := OwnS.given ho2
  have HC := hide (HC.out.below hb)
  have hB2 := hide (hB2.out.trans (hb.mono hB2.out.size))
  have s10 := hide (s10.out.below intR_ok hb)
  have s11 := hide hs11
  have s12 := hide hs12
  clear ho1 ho2 hb hs11 hs12 hbq hsq
  go_wp2_with fail
  refine (eq_lit [0, 2] [0, 2] oa10 c10 hc10 (by decide) _ s10.out (by decide) _ rfl _ rfl _ rfl).mono ?_
  rintro e W13 ⟨rfl, hb⟩
  have HC := hide (HC.out.below hb)
  have hB2 := hide (hB2.out.trans (hb.mono hB2.out.size))
  have s11 := hide (s11.out.below intR_ok hb)
  have s12 := hide (s12.out.below intR_ok hb)
  clear hb
  go_wp2_with fail
  refine (equalInt_any [0, 0, 0] [0, 0, 0] oa11 (some ⟨w1.heap.size, 0, none⟩) c11 3 All _ s11.out HC.out.zs hc11 (by decide)).mono ?_
  rintro e W14 ⟨rfl, hb⟩
  have HC := hide (HC.out.below hb)
  have hB2 := hide (hB2.out.trans (hb.mono hB2.out.size))
  have s12 := hide (s12.out.below intR_ok hb)
  clear hb
  go_wp2_with fail
  have hbq := bnew (Below.refl W14.heap.size W14) (.cells #[.int .i64 0, .int .i64 2, .int .i64 2] 3)
  refine (sameS_any [0, 2, 2] [0, 2, 2] oa12 (some ⟨W14.heap.size, 0, none⟩) c12 3 All _ (s12.out.below intR_ok hbq) (ints_lit (F := All) (G := All) W14 3 [0, 2, 2] (by intro x hx; simp at hx; rcases hx with rfl | rfl <;> exact i64_s (by decide)) trivial) hc12 (by decide)).mono ?_
  rintro e W15 ⟨rfl, hb⟩
  have hB15 := hide (hB2.out.trans ((hbq.trans (hb.mono hbq.size)).mono hB2.out.size))
  clear hb hbq
  go_wp2_with fail
  go_ret
  exact ⟨rfl, hB15.out⟩

end Go.Proofs.Ytopldbnlehjlpaa

set_option linter.unusedVariables false
set_option linter.unusedSimpArgs false
set_option linter.unnecessarySimpa false
namespace Go.Proofs.Ytopldbnlehjlpaa
open Go.RowKit

section
variable (n : Int) (es : List Edg) (oe : Option Addr) (c : Nat) (ar : List (List Int)) (oa : Option Addr) (ca : Nat) (F G : Foot) (w : World) (hs : SliceR edgR 3 F w oe es) (hc : es.length ≤ c) (hc2 : es.length ≤ 1000)
    (ha : SliceR (slcR intR 1) 1 G w oa ar) (hac : ar.length ≤ ca) (hac2 : ar.length ≤ 9223372036854775807) (f : List Nat) (hU : Hid (gErr n es = 0 → Uf f (eL es)))
    (q : Int) (rot : List Int) (ot : Option Addr) (ct : Nat) (H : Foot) (hr : SliceR intR 1 H w ot rot) (hrc : rot.length ≤ ct) (hrl : rot.length ≤ 9223372036854775807)
include hs hc hc2 ha hac hac2 hU hr hrc hrl

set_option maxRecDepth 100000 in
set_option maxHeartbeats 4000000 in
theorem refWalk_any (v : Int) :
    Calls Try.prog 16 #[.agg #[.int .i64 n, .slice oe es.length c, .slice oa ar.length ca], .int .i64 q, .slice ot rot.length ct, .int .i64 v] w (ListErr w (walkRes n es f ar q rot v).1 (walkRes n es f ar q rot v).2) := by
  go_enter Try.func16, Try.ntmps16
  go_wp2_with fail
  have hb0 := box_refl w (.cells #[.int .i64 n, .slice oe es.length c, .slice oa ar.length ca] 27)
  refine (r45check_any n es oe c ar oa ca F G _ (hs.below edgR_ok (below_box hb0)) hc hc2 (ha.below (slcR_ok intR_ok (by decide)) (below_box hb0)) hac hac2 f hU q rot ot ct H (hr.below intR_ok (below_box hb0)) hrc hrl).mono ?_
  rintro e w2 ⟨rfl, hb2⟩
  have hx2 := hb2.mono (B' := w.heap.size + 1) (by simp)
  have d0 := box_cell hx2 0
  have d1 := box_cell hx2 1
  simp at d0 d1
  have HX := hide (below_box hx2)
  have HX2 := hide hx2
  clear hb2 hb0 hx2
  by_cases hR : rtE n es f ar q rot = 0
  · have HR := hide hR
    rw [hR]
    clear hR
    by_cases hV : vtxB n v = true
    · have HS : Hid (stE n es f ar q rot v = 0) := by show _ = _; unfold stE; rw [if_pos HR.out, if_pos hV]
      have HV := hide hV
      clear hV
      go_wp2_with fail
      refine (rvertex_any n v oe es.length c _).mono ?_
      rintro e w3 ⟨rfl, hb3⟩
      rw [HV.out]
      have HX3 := hide (box_then HX2.out (by simp) hb3)
      have hx3 := box_cell HX3.out 0
      have hx31 := box_cell HX3.out 1
      have hx32 := box_cell HX3.out 2
      simp at hx3 hx31 hx32
      clear hb3 d0 d1
      obtain ⟨q', hq', hok⟩ := RtOk.of HR.out hc2
      have hv2 := vtxB_iff.1 HV.out
      obtain ⟨V, rfl⟩ := Int.eq_ofNat_of_zero_le hv2.1
      have hVar : V < ar.length := by have := hok.nar; omega
      have HRes : Hid (walkRes n es f ar q rot V = walkOf ar (endsL es) q' rot V) := by
        show _ = _
        unfold walkRes
        rw [if_pos HS.out, hq']
        rfl
      have HMU := hide (rt_mult HR.out)
      have HT := hide (routed_any n es oe c ar oa ca F G w3 (hs.below edgR_ok (below_box HX3.out)) hc hc2 (ha.below (slcR_ok intR_ok (by decide)) (below_box HX3.out)) hac hac2 HMU q' rot ot ct H (hr.below intR_ok (below_box HX3.out)) hrc V hok hVar)
      subst hq'
      clear hok hv2
      go_wp2_with fail
      refine HT.out.mono ?_
      rintro e w4 ⟨o1, n1, c1, o2, n2, c2, k, o, rfl, hb4, hcase⟩
      have HB4 := hide ((below_box HX3.out).trans (hb4.mono (below_box HX3.out).size))
      have hsz4 := HB4.out.size
      have HC := hide hcase
      clear hb4 hcase hx3 hx31 hx32
      rcases HC.out with ⟨i, h1, h2, h3, h4, h5, h6, h7, h8⟩ | ⟨h1, h2⟩
      · subst h1 h2
        by_cases hi : i + 1 ≤ 4096
        · have q1 : decide ((4096 : Int) < (i : Int) + 1) = false := by simp; omega
          have HF : Hid (walkOf ar (endsL es) q' rot V = (wayL (chipV ar (endsL es) rot V) (i + 1), 0)) := by
            show _ = _
            unfold walkOf
            rw [firstAt_some (by omega) h5 h6]
          have hk : keptN i = i + 1 := if_pos hi
          rw [hk] at h8
          have HO := hide (h8.rebase (base' := w.heap.size) (by have := (below_box HX3.out).size; omega))
          clear h3 h5 h6 h7 h8 hi hk HC
          go_wp2_with fail
          refine bodyPost_ret ?_ rfl ⟨_, by rw [HRes.out, HF.out], by rw [HRes.out, HF.out]; exact HO.out.below intR_ok (bnew (Below.refl _ _) _), bnew HB4.out _⟩
          simp [results]
        · have q1 : decide ((4096 : Int) < (i : Int) + 1) = true := by simp; omega
          have HF : Hid (walkOf ar (endsL es) q' rot V = ([], 12)) := by
            show _ = _
            unfold walkOf
            rw [firstAt_none (fun j hj => h6 j (by omega))]
          clear h3 h5 h6 h7 h8 hi HC
          go_wp2_with fail
          refine bodyPost_ret ?_ rfl ⟨_, by rw [HRes.out, HF.out], by rw [HRes.out, HF.out]; exact OwnS.nil _ _ _ _ _ _, bnew HB4.out _⟩
          simp [results]
      · subst h1
        have HF : Hid (walkOf ar (endsL es) q' rot V = ([], 12)) := by
          show _ = _
          unfold walkOf
          rw [firstAt_none (fun j hj => h2 j (by omega))]
        clear h2 HC
        go_wp2_with fail
        refine bodyPost_ret ?_ rfl ⟨_, by rw [HRes.out, HF.out], by rw [HRes.out, HF.out]; exact OwnS.nil _ _ _ _ _ _, bnew HB4.out _⟩
        simp [results]
    · have HS : Hid (stE n es f ar q rot v = 2) := by show _ = _; unfold stE; rw [if_pos HR.out, if_neg hV]
      have HRes : Hid (walkRes n es f ar q rot v = ([], 2)) := by show _ = _; unfold walkRes; rw [if_neg (by rw [HS.out]; decide), HS.out]
      have HV : Hid (vtxB n v = false) := by show _ = _; simpa using hV
      clear hV
      go_wp2_with fail
      refine (rvertex_any n v oe es.length c _).mono ?_
      rintro e w3 ⟨rfl, hb3⟩
      rw [HV.out]
      have HX3 := hide (box_then HX2.out (by simp) hb3)
      clear hb3 d0 d1
      go_wp2_with fail
      refine bodyPost_ret ?_ rfl ⟨_, by rw [HRes.out], by rw [HRes.out]; exact OwnS.nil _ _ _ _ _ _, below_box HX3.out⟩
      simp [results]
  · have HRes : Hid (walkRes n es f ar q rot v = ([], rtE n es f ar q rot)) := by
      have h1 : stE n es f ar q rot v = rtE n es f ar q rot := if_neg hR
      show _ = _
      unfold walkRes
      rw [h1, if_neg hR]
    have hq : (rtE n es f ar q rot != 0) = true := by simpa using hR
    clear hR
    go_wp2_with fail
    refine bodyPost_ret ?_ rfl ⟨_, by rw [HRes.out], by rw [HRes.out]; exact OwnS.nil _ _ _ _ _ _, HX.out⟩
    simp [results]

set_option maxRecDepth 100000 in
set_option maxHeartbeats 4000000 in
theorem refRoute_any (v : Int) :
    Calls Try.prog 21 #[.agg #[.int .i64 n, .slice oe es.length c, .slice oa ar.length ca], .int .i64 q, .slice ot rot.length ct, .int .i64 v] w (StepRes w (routeRes n es f ar q rot v)) := by
  go_enter Try.func21, Try.ntmps21
  go_wp2_with fail
  have hb0 := box_refl w (.cells #[.int .i64 n, .slice oe es.length c, .slice oa ar.length ca] 27)
  refine (r45check_any n es oe c ar oa ca F G _ (hs.below edgR_ok (below_box hb0)) hc hc2 (ha.below (slcR_ok intR_ok (by decide)) (below_box hb0)) hac hac2 f hU q rot ot ct H (hr.below intR_ok (below_box hb0)) hrc hrl).mono ?_
  rintro e w2 ⟨rfl, hb2⟩
  have hx2 := hb2.mono (B' := w.heap.size + 1) (by simp)
  have d0 := box_cell hx2 0
  have d1 := box_cell hx2 1
  simp at d0 d1
  have HX := hide (below_box hx2)
  have HX2 := hide hx2
  clear hb2 hb0 hx2
  by_cases hR : rtE n es f ar q rot = 0
  · have HR := hide hR
    rw [hR]
    clear hR
    by_cases hV : vtxB n v = true
    · have HS : Hid (stE n es f ar q rot v = 0) := by show _ = _; unfold stE; rw [if_pos HR.out, if_pos hV]
      have HV := hide hV
      clear hV
      go_wp2_with fail
      refine (rvertex_any n v oe es.length c _).mono ?_
      rintro e w3 ⟨rfl, hb3⟩
      rw [HV.out]
      have HX3 := hide (box_then HX2.out (by simp) hb3)
      have hx3 := box_cell HX3.out 0
      have hx31 := box_cell HX3.out 1
      have hx32 := box_cell HX3.out 2
      simp at hx3 hx31 hx32
      clear hb3 d0 d1
      obtain ⟨q', hq', hok⟩ := RtOk.of HR.out hc2
      have hv2 := vtxB_iff.1 HV.out
      obtain ⟨V, rfl⟩ := Int.eq_ofNat_of_zero_le hv2.1
      have hVar : V < ar.length := by have := hok.nar; omega
      have HRes : Hid (routeRes n es f ar q rot V = routeOf ar (endsL es) q' rot V) := by
        show _ = _
        unfold routeRes
        rw [if_pos HS.out, hq']
        rfl
      have HMU := hide (rt_mult HR.out)
      have HT := hide (routed_any n es oe c ar oa ca F G w3 (hs.below edgR_ok (below_box HX3.out)) hc hc2 (ha.below (slcR_ok intR_ok (by decide)) (below_box HX3.out)) hac hac2 HMU q' rot ot ct H (hr.below intR_ok (below_box HX3.out)) hrc V hok hVar)
      subst hq'
      clear hok hv2
      go_wp2_with fail
      refine HT.out.mono ?_
      rintro e w4 ⟨o1, n1, c1, o2, n2, c2, k, o, rfl, hb4, hcase⟩
      have HB4 := hide ((below_box HX3.out).trans (hb4.mono (below_box HX3.out).size))
      have hsz4 := HB4.out.size
      have HC := hide hcase
      clear hb4 hcase hx3 hx31 hx32
      rcases HC.out with ⟨i, h1, h2, h3, h4, h5, h6, h7, h8⟩ | ⟨h1, h2⟩
      · subst h1 h2
        have HF : Hid (routeOf ar (endsL es) q' rot V = (rotI ar (endsL es) rot V i, (i : Int), 0)) := routeOf_hit h4 h5 h6
        have HO := hide (h7.rebase (base' := w.heap.size) (by have := (below_box HX3.out).size; omega))
        clear h3 h5 h6 h7 h8 HC
        go_wp2_with fail
        go_quiet (fail)
        go_wp2_with fail
        refine bodyPost_ret ?_ rfl ⟨_, by rw [HRes.out, HF.out], by rw [HRes.out, HF.out]; exact ownS_keep' (HO.out.below intR_ok (bnew (Below.refl _ _) _)) (fun _ => rfl), below_drewN (bnew HB4.out _) _⟩
        simp [results]
      · subst h1
        have HF : Hid (routeOf ar (endsL es) q' rot V = ([], 0, 12)) := routeOf_none h2
        clear h2 HC
        go_wp2_with fail
        refine bodyPost_ret ?_ rfl ⟨_, by rw [HRes.out, HF.out], by rw [HRes.out, HF.out]; exact OwnS.nil _ _ _ _ _ _, bnew HB4.out _⟩
        simp [results]
    · have HS : Hid (stE n es f ar q rot v = 2) := by show _ = _; unfold stE; rw [if_pos HR.out, if_neg hV]
      have HRes : Hid (routeRes n es f ar q rot v = ([], 0, 2)) := by show _ = _; unfold routeRes; rw [if_neg (by rw [HS.out]; decide), HS.out]
      have HV : Hid (vtxB n v = false) := by show _ = _; simpa using hV
      clear hV
      go_wp2_with fail
      refine (rvertex_any n v oe es.length c _).mono ?_
      rintro e w3 ⟨rfl, hb3⟩
      rw [HV.out]
      have HX3 := hide (box_then HX2.out (by simp) hb3)
      clear hb3 d0 d1
      go_wp2_with fail
      refine bodyPost_ret ?_ rfl ⟨_, by rw [HRes.out], by rw [HRes.out]; exact OwnS.nil _ _ _ _ _ _, below_box HX3.out⟩
      simp [results]
  · have HRes : Hid (routeRes n es f ar q rot v = ([], 0, rtE n es f ar q rot)) := by
      have h1 : stE n es f ar q rot v = rtE n es f ar q rot := if_neg hR
      show _ = _
      unfold routeRes
      rw [h1, if_neg hR]
    have hq : (rtE n es f ar q rot != 0) = true := by simpa using hR
    clear hR
    go_wp2_with fail
    refine bodyPost_ret ?_ rfl ⟨_, by rw [HRes.out], by rw [HRes.out]; exact OwnS.nil _ _ _ _ _ _, HX.out⟩
    simp [results]
end

end Go.Proofs.Ytopldbnlehjlpaa

set_option linter.unusedVariables false
set_option linter.unusedSimpArgs false
set_option linter.unnecessarySimpa false
namespace Go.Proofs.Ytopldbnlehjlpaa
open Go.RowKit

/-- What the laws' functions lean on between their calls. -/
structure LawCtx (w : World) (n : Int) (es : List Edg) (oe : Option Addr) (c : Nat) (ar : List (List Int)) (oa : Option Addr) (ca : Nat) (q : Int) (rot : List Int) (ot : Option Addr) (ct : Nat) (v : Int) (W : World) : Prop where
  hes : SliceR edgR 3 All W oe es
  har : SliceR (slcR intR 1) 1 All W oa ar
  hrt : SliceR intR 1 All W ot rot
  b1 : Box W w.heap.size [.int .i64 n, .slice oe es.length c, .slice oa ar.length ca] 27
  b2 : Box W (w.heap.size + 1) [.int .i64 q, .slice ot rot.length ct, .int .i64 v] 30
  low : Below w.heap.size w W
theorem LawCtx.below {w : World} {n : Int} {es : List Edg} {oe : Option Addr} {c : Nat} {ar : List (List Int)} {oa : Option Addr} {ca : Nat} {q : Int} {rot : List Int} {ot : Option Addr} {ct : Nat} {v : Int} {W W' : World}
    (h : LawCtx w n es oe c ar oa ca q rot ot ct v W) (hb : Below W.heap.size W W') : LawCtx w n es oe c ar oa ca q rot ot ct v W' :=
  ⟨h.hes.below edgR_ok hb, h.har.below (slcR_ok intR_ok (by decide)) hb, h.hrt.below intR_ok hb, h.b1.below hb, h.b2.below hb, h.low.trans (hb.mono h.low.size)⟩
theorem LawCtx.new {w : World} {n : Int} {es : List Edg} {oe : Option Addr} {c : Nat} {ar : List (List Int)} {oa : Option Addr} {ca : Nat} {q : Int} {rot : List Int} {ot : Option Addr} {ct : Nat} {v : Int}
    (h1 : SliceR edgR 3 All w oe es) (h2 : SliceR (slcR intR 1) 1 All w oa ar) (h3 : SliceR intR 1 All w ot rot) :
    LawCtx w n es oe c ar oa ca q rot ot ct v ((w.alloc (.cells #[.int .i64 n, .slice oe es.length c, .slice oa ar.length ca] 27)).alloc (.cells #[.int .i64 q, .slice ot rot.length ct, .int .i64 v] 30)) := by
  have hb := bnew (bnew (Below.refl w.heap.size w) (.cells #[.int .i64 n, .slice oe es.length c, .slice oa ar.length ca] 27)) (.cells #[.int .i64 q, .slice ot rot.length ct, .int .i64 v] 30)
  refine ⟨h1.below edgR_ok hb, h2.below (slcR_ok intR_ok (by decide)) hb, h3.below intR_ok hb, (Box.new w [.int .i64 n, .slice oe es.length c, .slice oa ar.length ca] 27).next _, ?_, hb⟩
  have := Box.new (w.alloc (.cells #[.int .i64 n, .slice oe es.length c, .slice oa ar.length ca] 27)) [.int .i64 q, .slice ot rot.length ct, .int .i64 v] 30
  simpa using this

theorem OwnS.small {B : Nat} {W : World} {rv : Value} {l : List Int} (h : OwnS intR 1 B 3 Non W rv l) : l.length ≤ 9223372036854775807 := by
  obtain ⟨cells, ho, _⟩ := h
  rcases ho.2 with ⟨_, hn⟩ | ⟨g, cap, cur, _, _, _, hle, hcm, _, _⟩
  · omega
  · unfold maxLen at hcm
    omega
set_option maxRecDepth 100000 in
set_option maxHeartbeats 8000000 in
theorem steps_walk (n : Int) (es : List Edg) (oe : Option Addr) (c : Nat) (ar : List (List Int)) (oa : Option Addr) (ca : Nat) (q : Int) (rot : List Int) (ot : Option Addr) (ct : Nat) (v : Int) (w : World)
    (hs : SliceR edgR 3 All w oe es) (hc : es.length ≤ c) (hc2 : es.length ≤ 9223372036854775807) (ha : SliceR (slcR intR 1) 1 All w oa ar) (hac : ar.length ≤ ca) (hac2 : ar.length ≤ 9223372036854775807) (hr : SliceR intR 1 All w ot rot) (hrc : rot.length ≤ ct) (hrl : rot.length ≤ 9223372036854775807) :
    Calls Try.prog 3 #[.agg #[.int .i64 n, .slice oe es.length c, .slice oa ar.length ca], .agg #[.int .i64 q, .slice ot rot.length ct, .int .i64 v]] w fun e w' => e = .returned (.bool true) ∧ Below w.heap.size w w' := by
  have hU : Hid (gErr n es = 0 → Uf (forest es) (eL es)) := forest_ok n es
  have C0 := LawCtx.new (n := n) (c := c) (ca := ca) (q := q) (ct := ct) (v := v) hs ha hr
  obtain ⟨W1, hW1⟩ : ∃ W1, (w.alloc (.cells #[.int .i64 n, .slice oe es.length c, .slice oa ar.length ca] 27)).alloc (.cells #[.int .i64 q, .slice ot rot.length ct, .int .i64 v] 30) = W1 := ⟨_, rfl⟩
  rw [hW1] at C0
  have HC := hide C0
  have d0 := HC.out.b1.cell 0
  have d1 := HC.out.b1.cell 1
  have d2 := HC.out.b1.cell 2
  have p0 := HC.out.b2.cell 0
  have p1 := HC.out.b2.cell 1
  have p2 := HC.out.b2.cell 2
  simp only [List.getElem?_cons_zero, List.getElem?_cons_succ] at d0 d1 d2 p0 p1 p2
  clear hs ha hr C0
  go_enter Try.func3, Try.ntmps3
  go_wp2_with fail
  refine (few45_any n es oe c ar oa ca All All _ HC.out.hes hc hc2 HC.out.har hac hac2 rot ot ct).mono ?_
  rintro e W2 ⟨rfl, hb⟩
  replace HC := hide (HC.out.below hb)
  clear hb d0 d1 d2 p0 p1 p2 hW1
  by_cases hF : few45 n es ar rot = true
  · obtain ⟨hc3, _, _⟩ := few45_yes hF
    rw [hF]
    clear hF
    have d0 := HC.out.b1.cell 0
    have d1 := HC.out.b1.cell 1
    have d2 := HC.out.b1.cell 2
    have p0 := HC.out.b2.cell 0
    have p1 := HC.out.b2.cell 1
    have p2 := HC.out.b2.cell 2
    simp only [List.getElem?_cons_zero, List.getElem?_cons_succ] at d0 d1 d2 p0 p1 p2
    go_wp2_with fail
    clear d0 d1 d2 p0 p1 p2
    refine (rotStep_any n es oe c ar oa ca All All _ HC.out.hes hc (by omega) HC.out.har hac hac2 (forest es) hU q rot ot ct All HC.out.hrt hrc hrl v).mono ?_
    rintro e W3 ⟨rv, rfl, ho, hb⟩
    have hl3 := hide (OwnS.small ho)
    obtain ⟨oa3, c3, rfl, hc3', hs3⟩ := OwnS.given ho
    replace HC := hide (HC.out.below hb)
    have s3 := hide hs3
    clear ho hb hs3
    have d0 := HC.out.b1.cell 0
    have d1 := HC.out.b1.cell 1
    have d2 := HC.out.b1.cell 2
    have p0 := HC.out.b2.cell 0
    have p1 := HC.out.b2.cell 1
    have p2 := HC.out.b2.cell 2
    simp only [List.getElem?_cons_zero, List.getElem?_cons_succ] at d0 d1 d2 p0 p1 p2
    go_wp2_with fail
    clear d0 d1 d2 p0 p1 p2
    refine (refStep_any n es oe c ar oa ca All All _ HC.out.hes hc (by omega) HC.out.har hac hac2 (forest es) hU q rot ot ct All HC.out.hrt hrc hrl v).mono ?_
    rintro e W4 ⟨rv, rfl, ho, hb⟩
    obtain ⟨oa4, c4, rfl, hc4', hs4⟩ := OwnS.given ho
    replace HC := hide (HC.out.below hb)
    replace s3 := hide (s3.out.below intR_ok hb)
    have s4 := hide hs4
    clear ho hb hs4
    have d0 := HC.out.b1.cell 0
    have d1 := HC.out.b1.cell 1
    have d2 := HC.out.b1.cell 2
    have p0 := HC.out.b2.cell 0
    have p1 := HC.out.b2.cell 1
    have p2 := HC.out.b2.cell 2
    simp only [List.getElem?_cons_zero, List.getElem?_cons_succ] at d0 d1 d2 p0 p1 p2
    go_wp2_with fail
    clear d0 d1 d2 p0 p1 p2
    refine (rotWalk_any n es oe c ar oa ca All All _ HC.out.hes hc (by omega) HC.out.har hac hac2 (forest es) hU q rot ot ct All HC.out.hrt hrc hrl v).mono ?_
    rintro e W5 ⟨rv, rfl, ho, hb⟩
    have hl5 := hide (OwnS.small ho)
    obtain ⟨oa5, c5, rfl, hc5', hs5⟩ := OwnS.given ho
    replace HC := hide (HC.out.below hb)
    replace s3 := hide (s3.out.below intR_ok hb)
    replace s4 := hide (s4.out.below intR_ok hb)
    have s5 := hide hs5
    clear ho hb hs5
    have d0 := HC.out.b1.cell 0
    have d1 := HC.out.b1.cell 1
    have d2 := HC.out.b1.cell 2
    have p0 := HC.out.b2.cell 0
    have p1 := HC.out.b2.cell 1
    have p2 := HC.out.b2.cell 2
    simp only [List.getElem?_cons_zero, List.getElem?_cons_succ] at d0 d1 d2 p0 p1 p2
    go_wp2_with fail
    clear d0 d1 d2 p0 p1 p2
    refine (refWalk_any n es oe c ar oa ca All All _ HC.out.hes hc (by omega) HC.out.har hac hac2 (forest es) hU q rot ot ct All HC.out.hrt hrc hrl v).mono ?_
    rintro e W6 ⟨rv, rfl, ho, hb⟩
    obtain ⟨oa6, c6, rfl, hc6', hs6⟩ := OwnS.given ho
    replace HC := hide (HC.out.below hb)
    replace s3 := hide (s3.out.below intR_ok hb)
    replace s4 := hide (s4.out.below intR_ok hb)
    replace s5 := hide (s5.out.below intR_ok hb)
    have s6 := hide hs6
    clear ho hb hs6
    have d0 := HC.out.b1.cell 0
    have d1 := HC.out.b1.cell 1
    have d2 := HC.out.b1.cell 2
    have p0 := HC.out.b2.cell 0
    have p1 := HC.out.b2.cell 1
    have p2 := HC.out.b2.cell 2
    simp only [List.getElem?_cons_zero, List.getElem?_cons_succ] at d0 d1 d2 p0 p1 p2
    go_wp2_with fail
    replace HC := hide (show LawCtx w n es oe c ar oa ca q rot ot ct v W6.drew from ⟨HC.out.hes.keep edgR_ok (fun _ _ _ => rfl), HC.out.har.keep (slcR_ok intR_ok (by decide)) (fun _ _ _ => rfl), HC.out.hrt.keep intR_ok (fun _ _ _ => rfl), HC.out.b1, HC.out.b2, HC.out.low.drew⟩)
    replace s3 := hide (s3.out.keep (w' := W6.drew) intR_ok (fun _ _ _ => rfl))
    replace s4 := hide (s4.out.keep (w' := W6.drew) intR_ok (fun _ _ _ => rfl))
    replace s5 := hide (s5.out.keep (w' := W6.drew) intR_ok (fun _ _ _ => rfl))
    replace s6 := hide (s6.out.keep (w' := W6.drew) intR_ok (fun _ _ _ => rfl))
    replace hl3 : (stepRes n es (forest es) ar q rot v).1.length ≤ 9223372036854775807 := hl3.out
    replace hl5 : (walkRes n es (forest es) ar q rot v).1.length ≤ 9223372036854775807 := hl5.out
    have K17 : ∀ W : World, LawCtx w n es oe c ar oa ca q rot ot ct v W → Calls Try.prog 17 #[.agg #[.int .i64 n, .slice oe es.length c, .slice oa ar.length ca], .int .i64 q, .slice ot rot.length ct] W (ErrPost W (rtE n es (forest es) ar q rot)) := fun W h => rotcheck_any n es oe c ar oa ca All All W h.hes hc (by omega) h.har hac hac2 (forest es) hU q rot ot ct All h.hrt hrc hrl
    have K18 : ∀ W : World, LawCtx w n es oe c ar oa ca q rot ot ct v W → Calls Try.prog 18 #[.agg #[.int .i64 n, .slice oe es.length c, .slice oa ar.length ca], .int .i64 q, .slice ot rot.length ct] W (ErrPost W (rtE n es (forest es) ar q rot)) := fun W h => r45check_any n es oe c ar oa ca All All W h.hes hc (by omega) h.har hac hac2 (forest es) hU q rot ot ct All h.hrt hrc hrl
    replace K17 := hide K17
    replace K18 := hide K18
    generalize rtE n es (forest es) ar q rot = E at *
    generalize (stepRes n es (forest es) ar q rot v).2.1 = r1 at *
    generalize (stepRes n es (forest es) ar q rot v).2.2 = r2 at *
    generalize (stepRes n es (forest es) ar q rot v).1 = l3 at *
    generalize (walkRes n es (forest es) ar q rot v).2 = r3 at *
    generalize (walkRes n es (forest es) ar q rot v).1 = l5 at *
    have K19a : Hid (∀ W : World, SliceR intR 1 All W oa3 l3 → SliceR intR 1 All W oa4 l3 → Calls Try.prog 19 #[.slice oa3 l3.length c3, .slice oa4 l3.length c4] W fun e w' => e = .returned (.bool true) ∧ Below W.heap.size W w') := fun W h1 h2 => (equalInt_any l3 l3 oa3 oa4 c3 c4 All W h1 h2 hc3' hl3).mono fun e w' h => ⟨by rw [h.1]; simp, h.2⟩
    have K19b : Hid (∀ W : World, SliceR intR 1 All W oa5 l5 → SliceR intR 1 All W oa6 l5 → Calls Try.prog 19 #[.slice oa5 l5.length c5, .slice oa6 l5.length c6] W fun e w' => e = .returned (.bool true) ∧ Below W.heap.size W w') := fun W h1 h2 => (equalInt_any l5 l5 oa5 oa6 c5 c6 All W h1 h2 hc5' hl5).mono fun e w' h => ⟨by rw [h.1]; simp, h.2⟩
    clear p2 hU hc hc2 hc3 hac hac2 hrc hrl
    obtain ⟨RR, hRR⟩ : ∃ RR, Value.agg #[.int .i64 n, .slice oe es.length c, .slice oa ar.length ca] = RR := ⟨_, rfl⟩
    obtain ⟨T1, hT1⟩ : ∃ T, Value.tuple #[.slice oa3 l3.length c3, .int .i64 r1, .int .i64 r2] = T := ⟨_, rfl⟩
    obtain ⟨T2, hT2⟩ : ∃ T, Value.tuple #[.slice oa4 l3.length c4, .int .i64 r1, .int .i64 r2] = T := ⟨_, rfl⟩
    obtain ⟨T3, hT3⟩ : ∃ T, Value.tuple #[.slice oa5 l5.length c5, .int .i64 r3] = T := ⟨_, rfl⟩
    obtain ⟨T4, hT4⟩ : ∃ T, Value.tuple #[.slice oa6 l5.length c6, .int .i64 r3] = T := ⟨_, rfl⟩
    rw [hRR, hT1, hT2, hT3, hT4]
    rw [hRR] at K17 K18
    clear hT1 hT2 hT3 hT4 hc3' hc4' hc5' hc6' hl3 hl5
    go_region_held3 (fun w' => w'.cell? ⟨w.heap.size, 0, none⟩ = some (.int .i64 n) ∧ w'.cell? ⟨w.heap.size, 1, none⟩ = some (.slice oe es.length c) ∧ w'.cell? ⟨w.heap.size, 2, none⟩ = some (.slice oa ar.length ca) ∧ w'.cell? ⟨w.heap.size + 1, 0, none⟩ = some (.int .i64 q) ∧ w'.cell? ⟨w.heap.size + 1, 1, none⟩ = some (.slice ot rot.length ct)) (first | exact ⟨d0, d1, d2, p0, p1⟩) (first
      | (go_at_call 12; refine (awake45_any _).mono ?_; rintro e w5 ⟨rfl, h5⟩; replace d0 := (h5.cell (World.block_lt_of_cell? _ _ d0)).trans d0; replace d1 := (h5.cell (World.block_lt_of_cell? _ _ d1)).trans d1; replace d2 := (h5.cell (World.block_lt_of_cell? _ _ d2)).trans d2; replace p0 := (h5.cell (World.block_lt_of_cell? _ _ p0)).trans p0; replace p1 := (h5.cell (World.block_lt_of_cell? _ _ p1)).trans p1; replace HC := hide (HC.out.below h5); replace s3 := hide (s3.out.below intR_ok h5); replace s4 := hide (s4.out.below intR_ok h5); replace s5 := hide (s5.out.below intR_ok h5); replace s6 := hide (s6.out.below intR_ok h5); clear h5)
      | (go_at_call 17; refine (K17.out _ HC.out).mono ?_; rintro e w5 ⟨rfl, h5⟩; replace d0 := (h5.cell (World.block_lt_of_cell? _ _ d0)).trans d0; replace d1 := (h5.cell (World.block_lt_of_cell? _ _ d1)).trans d1; replace d2 := (h5.cell (World.block_lt_of_cell? _ _ d2)).trans d2; replace p0 := (h5.cell (World.block_lt_of_cell? _ _ p0)).trans p0; replace p1 := (h5.cell (World.block_lt_of_cell? _ _ p1)).trans p1; replace HC := hide (HC.out.below h5); replace s3 := hide (s3.out.below intR_ok h5); replace s4 := hide (s4.out.below intR_ok h5); replace s5 := hide (s5.out.below intR_ok h5); replace s6 := hide (s6.out.below intR_ok h5); clear h5)
      | (go_at_call 18; refine (K18.out _ HC.out).mono ?_; rintro e w5 ⟨rfl, h5⟩; replace d0 := (h5.cell (World.block_lt_of_cell? _ _ d0)).trans d0; replace d1 := (h5.cell (World.block_lt_of_cell? _ _ d1)).trans d1; replace d2 := (h5.cell (World.block_lt_of_cell? _ _ d2)).trans d2; replace p0 := (h5.cell (World.block_lt_of_cell? _ _ p0)).trans p0; replace p1 := (h5.cell (World.block_lt_of_cell? _ _ p1)).trans p1; replace HC := hide (HC.out.below h5); replace s3 := hide (s3.out.below intR_ok h5); replace s4 := hide (s4.out.below intR_ok h5); replace s5 := hide (s5.out.below intR_ok h5); replace s6 := hide (s6.out.below intR_ok h5); clear h5)
      | (go_at_call 19; with_reducible refine (K19a.out _ s3.out s4.out).mono ?_; rintro e w5 ⟨rfl, h5⟩; replace d0 := (h5.cell (World.block_lt_of_cell? _ _ d0)).trans d0; replace d1 := (h5.cell (World.block_lt_of_cell? _ _ d1)).trans d1; replace d2 := (h5.cell (World.block_lt_of_cell? _ _ d2)).trans d2; replace p0 := (h5.cell (World.block_lt_of_cell? _ _ p0)).trans p0; replace p1 := (h5.cell (World.block_lt_of_cell? _ _ p1)).trans p1; replace HC := hide (HC.out.below h5); replace s3 := hide (s3.out.below intR_ok h5); replace s4 := hide (s4.out.below intR_ok h5); replace s5 := hide (s5.out.below intR_ok h5); replace s6 := hide (s6.out.below intR_ok h5); clear h5)
      | (go_at_call 19; with_reducible refine (K19b.out _ s5.out s6.out).mono ?_; rintro e w5 ⟨rfl, h5⟩; replace d0 := (h5.cell (World.block_lt_of_cell? _ _ d0)).trans d0; replace d1 := (h5.cell (World.block_lt_of_cell? _ _ d1)).trans d1; replace d2 := (h5.cell (World.block_lt_of_cell? _ _ d2)).trans d2; replace p0 := (h5.cell (World.block_lt_of_cell? _ _ p0)).trans p0; replace p1 := (h5.cell (World.block_lt_of_cell? _ _ p1)).trans p1; replace HC := hide (HC.out.below h5); replace s3 := hide (s3.out.below intR_ok h5); replace s4 := hide (s4.out.below intR_ok h5); replace s5 := hide (s5.out.below intR_ok h5); replace s6 := hide (s6.out.below intR_ok h5); clear h5))
    all_goals
      go_wp2_with fail
      go_ret
      exact ⟨rfl, HC.out.low⟩
  · have hF2 : few45 n es ar rot = false := by simpa using hF
    rw [hF2]
    clear hF hF2
    have d0 := HC.out.b1.cell 0
    have d1 := HC.out.b1.cell 1
    have d2 := HC.out.b1.cell 2
    have p0 := HC.out.b2.cell 0
    have p1 := HC.out.b2.cell 1
    have p2 := HC.out.b2.cell 2
    simp only [List.getElem?_cons_zero, List.getElem?_cons_succ] at d0 d1 d2 p0 p1 p2
    go_wp2_with fail
    refine (awake45_any _).mono ?_
    rintro e W3 ⟨rfl, hb⟩
    replace HC := hide (HC.out.below hb)
    clear hb d0 d1 d2 p0 p1 p2
    go_wp2_with fail
    go_ret
    exact ⟨rfl, HC.out.low⟩

theorem steps_claim (w : World) (n : Int) (es : List Edg) (oe : Option Addr) (c : Nat) (ar : List (List Int)) (oa : Option Addr) (ca : Nat) (hc : es.length ≤ c) (hc2 : es.length ≤ 9223372036854775807) (hs : SliceR edgR 3 All w oe es) (hac : ar.length ≤ ca) (hac2 : ar.length ≤ 9223372036854775807) (ha : SliceR (slcR intR 1) 1 All w oa ar)
    (q : Int) (rot : List Int) (ot : Option Addr) (ct : Nat) (v : Int) (hrc : rot.length ≤ ct) (hrl : rot.length ≤ 9223372036854775807) (hr : SliceR intR 1 All w ot rot) :
    Calls Try.prog 3 #[.agg #[.int .i64 n, .slice oe es.length c, .slice oa ar.length ca], .agg #[.int .i64 q, .slice ot rot.length ct, .int .i64 v]] w fun e w' => e = .returned (.bool true) ∧ Below w.heap.size w w' :=
  steps_walk n es oe c ar oa ca q rot ot ct v w hs hc hc2 ha hac hac2 hr hrc hrl

end Go.Proofs.Ytopldbnlehjlpaa

set_option linter.unusedVariables false
set_option linter.unusedSimpArgs false
set_option linter.unnecessarySimpa false
namespace Go.Proofs.Ytopldbnlehjlpaa
open Go.RowKit

theorem rIn_any (k : Int) (w : World) : Calls Try.prog 111 #[.int .i64 k] w fun e w' => e = .returned (.bool (inChips k)) ∧ w = w' := by
  by_cases h1 : -1048576 ≤ k
  · by_cases h2 : k ≤ 1048576
    · have HR : Hid (inChips k = true) := by show _ = _; simp [inChips, h1, h2]
      have q1 : decide ((-1048576 : Int) ≤ k) = true := by simp [h1]
      have q2 : decide (k ≤ (1048576 : Int)) = true := by simp [h2]
      clear h1 h2
      go_enter Try.func111, Try.ntmps111
      go_wp2_with fail
      go_ret
      exact ⟨ret_bool HR.out.symm, rfl⟩
    · have HR : Hid (inChips k = false) := by show _ = _; simp [inChips]; omega
      have q1 : decide ((-1048576 : Int) ≤ k) = true := by simp [h1]
      have q2 : decide (k ≤ (1048576 : Int)) = false := by simp; omega
      clear h1 h2
      go_enter Try.func111, Try.ntmps111
      go_wp2_with fail
      go_ret
      exact ⟨ret_bool HR.out.symm, rfl⟩
  · have HR : Hid (inChips k = false) := by show _ = _; simp [inChips]; omega
    have q1 : decide ((-1048576 : Int) ≤ k) = false := by simp; omega
    clear h1
    go_enter Try.func111, Try.ntmps111
    go_wp2_with fail
    go_ret
    exact ⟨ret_bool HR.out.symm, rfl⟩

set_option maxRecDepth 100000 in
set_option maxHeartbeats 2000000 in
theorem rdcheck_any (n : Int) (d : List Int) (od : Option Addr) (cd : Nat) (F : Foot) (w : World) (hd : SliceR intR 1 F w od d) (hc : d.length ≤ cd) (hc2 : d.length ≤ 9223372036854775807) :
    Calls Try.prog 97 #[.slice od d.length cd, .int .i64 n] w fun e w' => e = .returned (.int .i64 (dErr n d)) ∧ w = w' := by
  by_cases h1 : 1 ≤ n
  · have q1 : decide (n < (1 : Int)) = false := by simp; omega
    by_cases h3 : n ≤ 12
    · have q2 : decide ((12 : Int) < n) = false := by simp; omega
      by_cases h2 : (d.length : Int) = n
      · have HR : Hid (dErr n d = dScan d) := by show _ = _; unfold dErr; rw [if_pos ⟨h1, h3⟩, if_pos h2]
        have q3 : ((d.length : Int) != n) = false := by simp [h2]
        have hn := hide h2
        clear h1 h3 h2
        go_enter Try.func97, Try.ntmps97
        go_wp2_with fail
        go_loopw [5] (fun iv wr => ∃ k : Nat, k ≤ d.length ∧ iv = .int .i64 k ∧ Hid (dErr n d = dScan (d.drop k)) ∧ wr = w) (fun iv _ => d.length - (intOf iv).toNat)
        case atStart => exact ⟨0, by omega, rfl, HR, rfl⟩
        case round =>
          obtain ⟨k, hk, rfl, HS, rfl⟩ := hrel
          by_cases hlt : k < d.length
          · have q4 : decide ((k : Int) < n) = true := by have := hn.out; simp; omega
            obtain ⟨x, hdr, _, ix, b, off, hod, _, c0⟩ := hd.int_at hlt
            subst hod
            have HS2 : Hid (dErr n d = if inChips x = true then dScan (d.drop (k + 1)) else 2) := by show _ = _; rw [HS.out, hdr]; rfl
            clear hdr
            by_cases hx : inChips x = true
            · have HS3 : Hid (dErr n d = dScan (d.drop (k + 1))) := by show _ = _; rw [HS2.out, if_pos hx]
              have hI := rIn_any x wr
              rw [hx] at hI
              clear hx
              go_wp2_with fail
              refine hI.mono ?_
              rintro e w3 ⟨rfl, rfl⟩
              go_wp2_with fail
              go_roundw
              case rel => exact ⟨k + 1, by omega, by go_num, HS3, by first | rfl | trivial⟩
              case measure => simp [intOf]; omega
            · have HS3 : Hid (dErr n d = 2) := by show _ = _; rw [HS2.out, if_neg hx]
              have hx2 : inChips x = false := by simpa using hx
              have hI := rIn_any x wr
              rw [hx2] at hI
              clear hx hx2
              go_wp2_with fail
              refine hI.mono ?_
              rintro e w3 ⟨rfl, rfl⟩
              go_wp2_with fail
              go_ret
              exact ⟨ret_int HS3.out.symm, rfl⟩
          · have q4 : decide ((k : Int) < n) = false := by have := hn.out; simp; omega
            have hke : k = d.length := by omega
            have HS3 : Hid (dErr n d = 0) := by show _ = _; rw [HS.out, hke, List.drop_length]; rfl
            clear hke
            go_wp2_with fail
            go_ret
            exact ⟨ret_int HS3.out.symm, rfl⟩
      · have HR : Hid (dErr n d = 8) := by show _ = _; unfold dErr; rw [if_pos ⟨h1, h3⟩, if_neg h2]
        have q3 : ((d.length : Int) != n) = true := by simp [h2]
        clear h1 h3 h2
        go_enter Try.func97, Try.ntmps97
        go_wp2_with fail
        go_ret
        exact ⟨ret_int HR.out.symm, rfl⟩
    · have HR : Hid (dErr n d = 2) := if_neg (by omega)
      have q2 : decide ((12 : Int) < n) = true := by simp; omega
      clear h1 h3
      go_enter Try.func97, Try.ntmps97
      go_wp2_with fail
      go_ret
      exact ⟨ret_int HR.out.symm, rfl⟩
  · have HR : Hid (dErr n d = 2) := if_neg (by omega)
    have q1 : decide (n < (1 : Int)) = true := by simp; omega
    clear h1
    go_enter Try.func97, Try.ntmps97
    go_wp2_with fail
    go_ret
    exact ⟨ret_int HR.out.symm, rfl⟩

/-- The error of the chips alone. -/
def chE (n q : Int) (d : List Int) : Int := if dErr n d = 0 then gScan q 0 d else dErr n d

set_option maxRecDepth 100000 in
set_option maxHeartbeats 2000000 in
theorem rchips_any (n : Int) (oe : Option Addr) (k c : Nat) (oa : Option Addr) (l ca : Nat) (q : Int) (d : List Int) (od : Option Addr) (cd : Nat) (F : Foot) (w : World) (hd : SliceR intR 1 F w od d) (hc : d.length ≤ cd) (hc2 : d.length ≤ 9223372036854775807) :
    Calls Try.prog 78 #[.agg #[.int .i64 n, .slice oe k c, .slice oa l ca], .int .i64 q, .slice od d.length cd] w (ErrPost w (chE n q d)) := by
  have hb0 := bnew (Below.refl w.heap.size w) (.cells #[.int .i64 n, .slice oe k c, .slice oa l ca] 27)
  have HK := hide (rdcheck_any n d od cd F _ (hd.below intR_ok hb0) hc hc2)
  have HD := hide (hd.below intR_ok hb0)
  have HB := hide hb0
  clear hb0 hd
  go_enter Try.func78, Try.ntmps78
  go_wp2_with fail
  refine HK.out.mono ?_
  rintro e w2 ⟨rfl, rfl⟩
  by_cases hE : dErr n d = 0
  · have HG : Hid (chE n q d = gScan q 0 d) := if_pos hE
    rw [hE]
    clear hE
    go_wp2_with fail
    obtain ⟨W1, hW1⟩ : ∃ W1, w.alloc (.cells #[.int .i64 n, .slice oe k c, .slice oa l ca] 27) = W1 := ⟨_, rfl⟩
    rw [hW1] at HD HB ⊢
    clear hW1 HK
    go_loopw [8] (fun iv wr => ∃ k : Nat, k ≤ d.length ∧ iv = .int .i64 k ∧ Hid (chE n q d = gScan q k (d.drop k)) ∧ wr = W1) (fun iv _ => d.length - (intOf iv).toNat)
    case atStart => exact ⟨0, by omega, rfl, HG, rfl⟩
    case round =>
      obtain ⟨k, hk, rfl, HS, rfl⟩ := hrel
      by_cases hlt : k < d.length
      · obtain ⟨x, hdr, _, ix, b, off, hod, _, c0⟩ := HD.out.int_at hlt
        subst hod
        have HS2 : Hid (chE n q d = if (k : Int) ≠ q ∧ x < 0 then 2 else gScan q (k + 1) (d.drop (k + 1))) := by show _ = _; rw [HS.out, hdr]; rfl
        clear hdr
        by_cases hkq : (k : Int) = q
        · have q1 : ((k : Int) != q) = false := by simp [hkq]
          have HS3 : Hid (chE n q d = gScan q (k + 1) (d.drop (k + 1))) := by show _ = _; rw [HS2.out, if_neg (by intro h; exact h.1 hkq)]
          clear hkq
          go_wp2_with fail
          go_roundw
          case rel => exact ⟨k + 1, by omega, by go_num, HS3, by first | rfl | trivial⟩
          case measure => simp [intOf]; omega
        · have q1 : ((k : Int) != q) = true := by simp [hkq]
          by_cases hx : x < 0
          · have q2 : decide (x < 0) = true := by simp [hx]
            have HS3 : Hid (chE n q d = 2) := by show _ = _; rw [HS2.out, if_pos ⟨hkq, hx⟩]
            clear hkq hx
            go_wp2_with fail
            go_ret
            exact ⟨ret_int HS3.out.symm, HB.out⟩
          · have q2 : decide (x < 0) = false := by simp; omega
            have HS3 : Hid (chE n q d = gScan q (k + 1) (d.drop (k + 1))) := by show _ = _; rw [HS2.out, if_neg (by intro h; exact hx h.2)]
            clear hkq hx
            go_wp2_with fail
            go_roundw
            case rel => exact ⟨k + 1, by omega, by go_num, HS3, by first | rfl | trivial⟩
            case measure => simp [intOf]; omega
      · have hke : k = d.length := by omega
        have HS3 : Hid (chE n q d = 0) := by show _ = _; rw [HS.out, hke, List.drop_length]; rfl
        clear hke
        go_wp2_with fail
        go_ret
        exact ⟨ret_int HS3.out.symm, HB.out⟩
  · have HG : Hid (chE n q d = dErr n d) := if_neg hE
    have hq : (dErr n d != 0) = true := by simpa using hE
    clear hE
    go_wp2_with fail
    go_ret
    exact ⟨ret_int HG.out.symm, HB.out⟩

set_option maxRecDepth 100000 in
set_option maxHeartbeats 2000000 in
theorem rgiven_any (n : Int) (es : List Edg) (oe : Option Addr) (c : Nat) (ar : List (List Int)) (oa : Option Addr) (ca : Nat) (F G : Foot) (w : World) (hs : SliceR edgR 3 F w oe es) (hc : es.length ≤ c) (hc2 : es.length ≤ 1000)
    (ha : SliceR (slcR intR 1) 1 G w oa ar) (hac : ar.length ≤ ca) (hac2 : ar.length ≤ 9223372036854775807) (f : List Nat) (hU : Hid (gErr n es = 0 → Uf f (eL es)))
    (q : Int) (rot : List Int) (ot : Option Addr) (ct : Nat) (H : Foot) (hr : SliceR intR 1 H w ot rot) (hrc : rot.length ≤ ct) (hrl : rot.length ≤ 9223372036854775807)
    (d : List Int) (od : Option Addr) (cd : Nat) (D : Foot) (hd : SliceR intR 1 D w od d) (hdc : d.length ≤ cd) (hdl : d.length ≤ 9223372036854775807) :
    Calls Try.prog 55 #[.agg #[.int .i64 n, .slice oe es.length c, .slice oa ar.length ca], .int .i64 q, .slice ot rot.length ct, .slice od d.length cd] w (ErrPost w (gvE n es f ar q rot d)) := by
  go_enter Try.func55, Try.ntmps55
  go_wp2_with fail
  have hb0 := box_refl w (.cells #[.int .i64 n, .slice oe es.length c, .slice oa ar.length ca] 27)
  refine (r45check_any n es oe c ar oa ca F G _ (hs.below edgR_ok (below_box hb0)) hc hc2 (ha.below (slcR_ok intR_ok (by decide)) (below_box hb0)) hac hac2 f hU q rot ot ct H (hr.below intR_ok (below_box hb0)) hrc hrl).mono ?_
  rintro e w2 ⟨rfl, hb2⟩
  have hx2 := hb2.mono (B' := w.heap.size + 1) (by simp)
  have d0 := box_cell hx2 0
  have d1 := box_cell hx2 1
  have d2 := box_cell hx2 2
  simp at d0 d1 d2
  have HX := hide (below_box hx2)
  clear hb2 hb0 hx2
  by_cases hR : rtE n es f ar q rot = 0
  · have HG : Hid (gvE n es f ar q rot d = chE n q d) := if_pos hR
    rw [hR]
    clear hR
    go_wp2_with fail
    refine (rchips_any n oe es.length c oa ar.length ca q d od cd D w2 (hd.below intR_ok HX.out) hdc hdl).mono ?_
    rintro e w3 ⟨rfl, hb3⟩
    have HB := hide (HX.out.trans (hb3.mono HX.out.size))
    clear hb3
    go_wp2_with fail
    go_ret
    exact ⟨ret_int HG.out.symm, HB.out⟩
  · have HG : Hid (gvE n es f ar q rot d = rtE n es f ar q rot) := if_neg hR
    have hq : (rtE n es f ar q rot != 0) = true := by simpa using hR
    clear hR
    go_wp2_with fail
    go_ret
    exact ⟨ret_int HG.out.symm, HX.out⟩

end Go.Proofs.Ytopldbnlehjlpaa

set_option linter.unusedVariables false
set_option linter.unusedSimpArgs false
set_option linter.unnecessarySimpa false
namespace Go.Proofs.Ytopldbnlehjlpaa
open Go.RowKit

theorem few17_any (d : List Int) (od : Option Addr) (cd : Nat) (w : World) : Calls Try.prog 53 #[.slice od d.length cd] w fun e w' => e = .returned (.bool (decide (d.length ≤ 24))) ∧ Below w.heap.size w w' := by
  have HR : Hid (decide (d.length ≤ 24) = decide ((d.length : Int) ≤ 24)) := by show _ = _; simp; omega
  go_enter Try.func53, Try.ntmps53
  go_wp2_with fail
  go_ret
  exact ⟨ret_bool HR.out.symm, Below.refl _ _⟩

/-- All chips are from -60 to 60. -/
def smD : List Int → Bool
  | [] => true
  | x :: r => if x < -60 ∨ 60 < x then false else smD r
theorem smD_yes : ∀ {d : List Int}, smD d = true → ∀ x ∈ d, -60 ≤ x ∧ x ≤ 60
  | [], _, x, hx => by cases hx
  | y :: r, h, x, hx => by
    unfold smD at h
    split at h
    · cases h
    · rename_i h1
      rcases List.mem_cons.1 hx with rfl | h2
      · omega
      · exact smD_yes h x h2

set_option maxRecDepth 100000 in
set_option maxHeartbeats 2000000 in
theorem smD_any (d : List Int) (od : Option Addr) (cd : Nat) (F : Foot) (w : World) (hd : SliceR intR 1 F w od d) (hc : d.length ≤ cd) (hc2 : d.length ≤ 9223372036854775807) :
    Calls Try.prog 54 #[.slice od d.length cd] w fun e w' => e = .returned (.bool (smD d)) ∧ Below w.heap.size w w' := by
  go_enter Try.func54, Try.ntmps54
  go_wp2_with fail
  go_loopw [3] (fun iv wr => ∃ k : Nat, k ≤ d.length ∧ iv = .int .i64 k ∧ Hid (smD d = smD (d.drop k)) ∧ wr = w) (fun iv _ => d.length - (intOf iv).toNat)
  case atStart => exact ⟨0, by omega, rfl, rfl, rfl⟩
  case round =>
    obtain ⟨k, hk, rfl, HS, rfl⟩ := hrel
    by_cases hlt : k < d.length
    · obtain ⟨x, hdr, _, ix, b, off, hod, _, c0⟩ := hd.int_at hlt
      subst hod
      have HS2 : Hid (smD d = if x < -60 ∨ 60 < x then false else smD (d.drop (k + 1))) := by show _ = _; rw [HS.out, hdr]; rfl
      clear hdr
      by_cases h1 : x < -60
      · have q1 : decide (x < (-60 : Int)) = true := by simp [h1]
        have HS3 : Hid (smD d = false) := by show _ = _; rw [HS2.out, if_pos (.inl h1)]
        clear h1
        go_wp2_with fail
        go_ret
        exact ⟨ret_bool HS3.out.symm, Below.refl _ _⟩
      · have q1 : decide (x < (-60 : Int)) = false := by simp; omega
        by_cases h2 : 60 < x
        · have q2 : decide ((60 : Int) < x) = true := by simp [h2]
          have HS3 : Hid (smD d = false) := by show _ = _; rw [HS2.out, if_pos (.inr h2)]
          clear h1 h2
          go_wp2_with fail
          go_ret
          exact ⟨ret_bool HS3.out.symm, Below.refl _ _⟩
        · have q2 : decide ((60 : Int) < x) = false := by simp; omega
          have HS3 : Hid (smD d = smD (d.drop (k + 1))) := by show _ = _; rw [HS2.out, if_neg (by omega)]
          clear h1 h2
          go_wp2_with fail
          go_roundw
          case rel => exact ⟨k + 1, by omega, by go_num, HS3, by first | rfl | trivial⟩
          case measure => simp [intOf]; omega
    · have hke : k = d.length := by omega
      have HS3 : Hid (smD d = true) := by show _ = _; rw [HS.out, hke, List.drop_length]; rfl
      clear hke
      go_wp2_with fail
      go_ret
      exact ⟨ret_bool HS3.out.symm, Below.refl _ _⟩

/-- What the laws' functions on games lean on between their calls. -/
structure GamCtx (w : World) (n : Int) (es : List Edg) (oe : Option Addr) (c : Nat) (ar : List (List Int)) (oa : Option Addr) (ca : Nat) (q : Int) (rot : List Int) (ot : Option Addr) (ct : Nat) (d : List Int) (od : Option Addr) (cd : Nat) (pk : List Int) (op : Option Addr) (cp : Nat) (W : World) : Prop where
  hes : SliceR edgR 3 All W oe es
  har : SliceR (slcR intR 1) 1 All W oa ar
  hrt : SliceR intR 1 All W ot rot
  hdd : SliceR intR 1 All W od d
  hpk : SliceR intR 1 All W op pk
  b1 : Box W w.heap.size [.int .i64 n, .slice oe es.length c, .slice oa ar.length ca] 27
  b2 : Box W (w.heap.size + 1) [.int .i64 q, .slice ot rot.length ct, .slice od d.length cd, .slice op pk.length cp] 54
  low : Below w.heap.size w W
section
variable {w : World} {n : Int} {es : List Edg} {oe : Option Addr} {c : Nat} {ar : List (List Int)} {oa : Option Addr} {ca : Nat} {q : Int} {rot : List Int} {ot : Option Addr} {ct : Nat} {d : List Int} {od : Option Addr} {cd : Nat} {pk : List Int} {op : Option Addr} {cp : Nat}
theorem GamCtx.below {W W' : World} (h : GamCtx w n es oe c ar oa ca q rot ot ct d od cd pk op cp W) (hb : Below W.heap.size W W') : GamCtx w n es oe c ar oa ca q rot ot ct d od cd pk op cp W' :=
  ⟨h.hes.below edgR_ok hb, h.har.below (slcR_ok intR_ok (by decide)) hb, h.hrt.below intR_ok hb, h.hdd.below intR_ok hb, h.hpk.below intR_ok hb, h.b1.below hb, h.b2.below hb, h.low.trans (hb.mono h.low.size)⟩
theorem GamCtx.new (h1 : SliceR edgR 3 All w oe es) (h2 : SliceR (slcR intR 1) 1 All w oa ar) (h3 : SliceR intR 1 All w ot rot) (h4 : SliceR intR 1 All w od d) (h5 : SliceR intR 1 All w op pk) :
    GamCtx w n es oe c ar oa ca q rot ot ct d od cd pk op cp ((w.alloc (.cells #[.int .i64 n, .slice oe es.length c, .slice oa ar.length ca] 27)).alloc (.cells #[.int .i64 q, .slice ot rot.length ct, .slice od d.length cd, .slice op pk.length cp] 54)) := by
  have hb := bnew (bnew (Below.refl w.heap.size w) (.cells #[.int .i64 n, .slice oe es.length c, .slice oa ar.length ca] 27)) (.cells #[.int .i64 q, .slice ot rot.length ct, .slice od d.length cd, .slice op pk.length cp] 54)
  refine ⟨h1.below edgR_ok hb, h2.below (slcR_ok intR_ok (by decide)) hb, h3.below intR_ok hb, h4.below intR_ok hb, h5.below intR_ok hb, (Box.new w [.int .i64 n, .slice oe es.length c, .slice oa ar.length ca] 27).next _, ?_, hb⟩
  have := Box.new (w.alloc (.cells #[.int .i64 n, .slice oe es.length c, .slice oa ar.length ca] 27)) [.int .i64 q, .slice ot rot.length ct, .slice od d.length cd, .slice op pk.length cp] 54
  simpa using this
end

/-- A right and small game. -/
def smallB (n : Int) (es : List Edg) (ar : List (List Int)) (q : Int) (rot d : List Int) : Bool :=
  if few45 n es ar rot = true then (if d.length ≤ 24 then (if gvE n es (forest es) ar q rot d = 0 then smD d else false) else false) else false
theorem smallB_yes {n : Int} {es : List Edg} {ar : List (List Int)} {q : Int} {rot d : List Int} (h : smallB n es ar q rot d = true) : few45 n es ar rot = true ∧ gvE n es (forest es) ar q rot d = 0 ∧ smD d = true := by
  unfold smallB at h
  split at h
  · rename_i h1
    split at h
    · split at h
      · rename_i h3; exact ⟨h1, h3, h⟩
      · cases h
    · cases h
  · cases h

set_option maxRecDepth 100000 in
set_option maxHeartbeats 4000000 in
theorem small45_any (n : Int) (es : List Edg) (oe : Option Addr) (c : Nat) (ar : List (List Int)) (oa : Option Addr) (ca : Nat) (q : Int) (rot : List Int) (ot : Option Addr) (ct : Nat) (d : List Int) (od : Option Addr) (cd : Nat) (pk : List Int) (op : Option Addr) (cp : Nat) (w : World)
    (hs : SliceR edgR 3 All w oe es) (hc : es.length ≤ c) (hc2 : es.length ≤ 9223372036854775807) (ha : SliceR (slcR intR 1) 1 All w oa ar) (hac : ar.length ≤ ca) (hac2 : ar.length ≤ 9223372036854775807) (hr : SliceR intR 1 All w ot rot) (hrc : rot.length ≤ ct) (hrl : rot.length ≤ 9223372036854775807)
    (hd : SliceR intR 1 All w od d) (hdc : d.length ≤ cd) (hdl : d.length ≤ 9223372036854775807) (hp : SliceR intR 1 All w op pk) :
    Calls Try.prog 30 #[.agg #[.int .i64 n, .slice oe es.length c, .slice oa ar.length ca], .agg #[.int .i64 q, .slice ot rot.length ct, .slice od d.length cd, .slice op pk.length cp]] w fun e w' => e = .returned (.bool (smallB n es ar q rot d)) ∧ Below w.heap.size w w' := by
  have hU : Hid (gErr n es = 0 → Uf (forest es) (eL es)) := forest_ok n es
  have C0 := GamCtx.new (n := n) (c := c) (ca := ca) (q := q) (ct := ct) (cd := cd) (cp := cp) hs ha hr hd hp
  obtain ⟨W1, hW1⟩ : ∃ W1, (w.alloc (.cells #[.int .i64 n, .slice oe es.length c, .slice oa ar.length ca] 27)).alloc (.cells #[.int .i64 q, .slice ot rot.length ct, .slice od d.length cd, .slice op pk.length cp] 54) = W1 := ⟨_, rfl⟩
  rw [hW1] at C0
  have HC := hide C0
  have d0 := HC.out.b1.cell 0
  have d1 := HC.out.b1.cell 1
  have d2 := HC.out.b1.cell 2
  have p0 := HC.out.b2.cell 0
  have p1 := HC.out.b2.cell 1
  have p2 := HC.out.b2.cell 2
  have p3 := HC.out.b2.cell 3
  simp only [List.getElem?_cons_zero, List.getElem?_cons_succ] at d0 d1 d2 p0 p1 p2 p3
  clear hs ha hr hd hp C0
  go_enter Try.func30, Try.ntmps30
  go_wp2_with fail
  clear d0 d1 d2 p0 p1 p2 p3
  refine (few45_any n es oe c ar oa ca All All _ HC.out.hes hc hc2 HC.out.har hac hac2 rot ot ct).mono ?_
  rintro e W2 ⟨rfl, hb⟩
  replace HC := hide (HC.out.below hb)
  clear hb hW1
  by_cases hF : few45 n es ar rot = true
  · obtain ⟨hc3, _, _⟩ := few45_yes hF
    have HS : Hid (smallB n es ar q rot d = if d.length ≤ 24 then (if gvE n es (forest es) ar q rot d = 0 then smD d else false) else false) := if_pos hF
    rw [hF]
    clear hF
    have d0 := HC.out.b1.cell 0
    have d1 := HC.out.b1.cell 1
    have d2 := HC.out.b1.cell 2
    have p0 := HC.out.b2.cell 0
    have p1 := HC.out.b2.cell 1
    have p2 := HC.out.b2.cell 2
    have p3 := HC.out.b2.cell 3
    simp only [List.getElem?_cons_zero, List.getElem?_cons_succ] at d0 d1 d2 p0 p1 p2 p3
    go_wp2_with fail
    clear d0 d1 d2 p0 p1 p2 p3
    refine (few17_any d od cd W2).mono ?_
    rintro e W3 ⟨rfl, hb⟩
    replace HC := hide (HC.out.below hb)
    clear hb
    by_cases h24 : d.length ≤ 24
    · have HS2 : Hid (smallB n es ar q rot d = if gvE n es (forest es) ar q rot d = 0 then smD d else false) := by show _ = _; rw [HS.out, if_pos h24]
      have q1 : decide (d.length ≤ 24) = true := by simp [h24]
      rw [q1]
      clear h24 q1 HS
      have d0 := HC.out.b1.cell 0
      have d1 := HC.out.b1.cell 1
      have d2 := HC.out.b1.cell 2
      have p0 := HC.out.b2.cell 0
      have p1 := HC.out.b2.cell 1
      have p2 := HC.out.b2.cell 2
      have p3 := HC.out.b2.cell 3
      simp only [List.getElem?_cons_zero, List.getElem?_cons_succ] at d0 d1 d2 p0 p1 p2 p3
      go_wp2_with fail
      clear d0 d1 d2 p0 p1 p2 p3
      refine (rgiven_any n es oe c ar oa ca All All W3 HC.out.hes hc (by omega) HC.out.har hac hac2 (forest es) hU q rot ot ct All HC.out.hrt hrc hrl d od cd All HC.out.hdd hdc hdl).mono ?_
      rintro e W4 ⟨rfl, hb⟩
      replace HC := hide (HC.out.below hb)
      clear hb
      by_cases hG : gvE n es (forest es) ar q rot d = 0
      · have HS3 : Hid (smallB n es ar q rot d = smD d) := by show _ = _; rw [HS2.out, if_pos hG]
        rw [hG]
        clear hG HS2
        have d0 := HC.out.b1.cell 0
        have d1 := HC.out.b1.cell 1
        have d2 := HC.out.b1.cell 2
        have p0 := HC.out.b2.cell 0
        have p1 := HC.out.b2.cell 1
        have p2 := HC.out.b2.cell 2
        have p3 := HC.out.b2.cell 3
        simp only [List.getElem?_cons_zero, List.getElem?_cons_succ] at d0 d1 d2 p0 p1 p2 p3
        go_wp2_with fail
        clear d0 d1 d2 p0 p1 p2 p3
        refine (smD_any d od cd All W4 HC.out.hdd hdc hdl).mono ?_
        rintro e W5 ⟨rfl, hb⟩
        replace HC := hide (HC.out.below hb)
        clear hb
        go_wp2_with fail
        go_ret
        exact ⟨ret_bool HS3.out.symm, HC.out.low⟩
      · have HS3 : Hid (smallB n es ar q rot d = false) := by show _ = _; rw [HS2.out, if_neg hG]
        have q2 : (gvE n es (forest es) ar q rot d == 0) = false := by simpa using hG
        clear hG HS2
        go_wp2_with fail
        go_ret
        exact ⟨ret_bool HS3.out.symm, HC.out.low⟩
    · have HS2 : Hid (smallB n es ar q rot d = false) := by show _ = _; rw [HS.out, if_neg h24]
      have q1 : decide (d.length ≤ 24) = false := by simp; omega
      rw [q1]
      clear h24 q1 HS
      go_wp2_with fail
      go_ret
      exact ⟨ret_bool HS2.out.symm, HC.out.low⟩
  · have HS : Hid (smallB n es ar q rot d = false) := if_neg hF
    have hF2 : few45 n es ar rot = false := by simpa using hF
    rw [hF2]
    clear hF hF2
    go_wp2_with fail
    go_ret
    exact ⟨ret_bool HS.out.symm, HC.out.low⟩

end Go.Proofs.Ytopldbnlehjlpaa

set_option linter.unusedVariables false
set_option linter.unusedSimpArgs false
set_option linter.unnecessarySimpa false
namespace Go.Proofs.Ytopldbnlehjlpaa
open Go.RowKit

theorem addL_get (l : List Int) (a b : Nat) (x : Int) : (addL l a x).getD b 0 = if a = b ∧ a < l.length then l.getD b 0 + x else l.getD b 0 := by
  unfold addL
  rw [List.getD_eq_getElem?_getD, List.getElem?_set]
  by_cases h : a = b
  · subst h
    by_cases h2 : a < l.length
    · simp [h2]
    · rw [if_pos rfl, if_neg h2, if_neg (by intro hh; exact h2 hh.2), List.getD_eq_getElem?_getD, List.getElem?_eq_none (by omega)]
  · rw [if_neg h, if_neg (by intro hh; exact h hh.1), List.getD_eq_getElem?_getD]
theorem addL_ext {l m : List Int} (h : l.length = m.length) (hg : ∀ b, l.getD b 0 = m.getD b 0) : l = m := by
  apply List.ext_getElem h
  intro i h1 h2
  have := hg i
  rw [getD_of (List.getElem?_eq_getElem h1), getD_of (List.getElem?_eq_getElem h2)] at this
  exact this
theorem addL_comm (l : List Int) (a b : Nat) (x y : Int) : addL (addL l a x) b y = addL (addL l b y) a x := by
  refine addL_ext (by simp [addL_len]) fun c => ?_
  rw [addL_get, addL_get, addL_get, addL_get, addL_len, addL_len]
  split <;> split <;> omega
theorem stpK_set (ar : List (List Int)) (rot : List Int) {u v : Nat} (h : u ≠ v) (k : Int) : stpK ar (rot.set u k) v = stpK ar rot v := by
  unfold stpK
  rw [List.getD_eq_getElem?_getD, List.getElem?_set_ne h, ← List.getD_eq_getElem?_getD]
theorem stpV_set (ar : List (List Int)) (E : List (Int × Int)) (rot : List Int) {u v : Nat} (h : u ≠ v) (k : Int) : stpV ar E (rot.set u k) v = stpV ar E rot v := by
  unfold stpV
  rw [stpK_set ar rot h]
/-- Two moves at different vertices, in either order. -/
theorem mvS_comm (ar : List (List Int)) (E : List (Int × Int)) (s : MSt) {u v : Nat} (h : u ≠ v) : mvS ar E (mvS ar E s u) v = mvS ar E (mvS ar E s v) u := by
  unfold mvS stpR
  simp only
  rw [stpK_set ar s.1 h, stpK_set ar s.1 (Ne.symm h), stpV_set ar E s.1 h, stpV_set ar E s.1 (Ne.symm h), List.set_comm _ _ h, addL_comm s.2.2 u v]
  congr 2
  rw [addL_comm (addL s.2.1 u (-1)) (stpV ar E s.1 u) v 1 (-1), addL_comm s.2.1 u v (-1) (-1), addL_comm (addL (addL s.2.1 v (-1)) u (-1)) (stpV ar E s.1 u) (stpV ar E s.1 v) 1 1, addL_comm (addL s.2.1 v (-1)) u (stpV ar E s.1 v) (-1) 1]

def Can (q : Nat) (s : MSt) (v : Nat) : Prop := v < s.2.1.length ∧ v ≠ q ∧ 0 < s.2.1.getD v 0
inductive Run (ar : List (List Int)) (E : List (Int × Int)) (q : Nat) : MSt → List Nat → MSt → Prop
  | nil (s : MSt) : Run ar E q s [] s
  | cons {s t : MSt} {v : Nat} {l : List Nat} : Can q s v → Run ar E q (mvS ar E s v) l t → Run ar E q s (v :: l) t
theorem Can.keep {ar : List (List Int)} {E : List (Int × Int)} {q u v : Nat} {s : MSt} (h : Can q s v) (hne : u ≠ v) : Can q (mvS ar E s u) v := by
  obtain ⟨h1, h2, h3⟩ := h
  refine ⟨by simp [mvS, addL_len]; exact h1, h2, ?_⟩
  show 0 < (addL (addL s.2.1 u (-1)) (stpV ar E s.1 u) 1).getD v 0
  rw [addL_get, addL_get, if_neg (c := u = v ∧ u < s.2.1.length) (by intro hh; exact hne hh.1)]
  split <;> omega
/-- Whoever can move may move first. -/
theorem Run.front {ar : List (List Int)} {E : List (Int × Int)} {q : Nat} {s t : MSt} {m : List Nat} (h : Run ar E q s m t) (hd : ∀ v, ¬ Can q t v) : ∀ v, Can q s v → ∃ m', Run ar E q (mvS ar E s v) m' t ∧ m.length = m'.length + 1 := by
  induction h with
  | nil s => exact fun v hv => absurd hv (hd v)
  | @cons s t u l hu hr ih =>
    intro v hv
    by_cases e : u = v
    · subst e
      exact ⟨l, hr, by simp⟩
    · obtain ⟨m', h1, h2⟩ := ih hd v (hv.keep e)
      rw [mvS_comm ar E s e] at h1
      exact ⟨u :: m', .cons (hu.keep (Ne.symm e)) h1, by simp [h2]⟩
/-- A run that ends is as long as every other one that ends, and ends in the same state; no run is longer. -/
theorem Run.rest {ar : List (List Int)} {E : List (Int × Int)} {q : Nat} {s t2 : MSt} {m2 : List Nat} (h2 : Run ar E q s m2 t2) : ∀ {t : MSt} {m : List Nat}, Run ar E q s m t → (∀ v, ¬ Can q t v) → ∃ m3, Run ar E q t2 m3 t ∧ m.length = m2.length + m3.length := by
  induction h2 with
  | nil s => exact fun h hd => ⟨_, h, by simp⟩
  | @cons s t2 v l hv hr ih =>
    intro t m h hd
    obtain ⟨m', h1, h3⟩ := h.front hd v hv
    obtain ⟨m3, h4, h5⟩ := ih h1 hd
    exact ⟨m3, h4, by simp; omega⟩
theorem Run.same {ar : List (List Int)} {E : List (Int × Int)} {q : Nat} {s t t2 : MSt} {m m2 : List Nat} (h : Run ar E q s m t) (hd : ∀ v, ¬ Can q t v) (h2 : Run ar E q s m2 t2) (hd2 : ∀ v, ¬ Can q t2 v) : t2 = t ∧ m2.length = m.length := by
  obtain ⟨m3, h3, h4⟩ := h2.rest h hd
  cases h3 with
  | nil => exact ⟨rfl, by simp at h4; omega⟩
  | cons hv _ => exact absurd hv (hd2 _)
theorem Run.append {ar : List (List Int)} {E : List (Int × Int)} {q : Nat} {s t u : MSt} {m l : List Nat} (h : Run ar E q s m t) (h2 : Run ar E q t l u) : Run ar E q s (m ++ l) u := by
  induction h with
  | nil s => simpa using h2
  | cons hv _ ih => exact .cons hv (ih h2)

end Go.Proofs.Ytopldbnlehjlpaa

set_option linter.unusedVariables false
set_option linter.unusedSimpArgs false
set_option linter.unnecessarySimpa false
namespace Go.Proofs.Ytopldbnlehjlpaa
open Go.RowKit

theorem first_or (f : Nat → Nat) (q : Nat) : ∀ M, (∃ i, i < M ∧ f i = q ∧ ∀ j, j < i → f j ≠ q) ∨ ∀ j, j < M → f j ≠ q
  | 0 => .inr fun j hj => absurd hj (by omega)
  | M + 1 => by
    rcases first_or f q M with ⟨i, h1, h2, h3⟩ | h
    · exact .inl ⟨i, by omega, h2, h3⟩
    · by_cases hM : f M = q
      · exact .inl ⟨M, by omega, hM, h⟩
      · refine .inr fun j hj => ?_
        rcases Nat.lt_or_ge j M with h1 | h1
        · exact h j h1
        · rw [show j = M by omega]; exact hM

theorem sum_set : ∀ (l : List Int) (v : Nat) (x : Int), v < l.length → (addL l v x).sum = l.sum + x
  | [], v, x, h => by simp at h
  | a :: l, 0, x, _ => by simp [addL]; omega
  | a :: l, v + 1, x, h => by
    have := sum_set l v x (by simpa using h)
    simp [addL] at this ⊢
    omega
theorem addL_undo {l : List Int} {v : Nat} {x y : Int} (h : x + y = 0) : addL (addL l v x) v y = l := by
  refine addL_ext (by simp [addL_len]) fun b => ?_
  rw [addL_get, addL_get, addL_len]
  split <;> omega

section
variable {ar : List (List Int)} {E : List (Int × Int)} {q : Nat}

theorem Run.len {s t : MSt} {m : List Nat} (h : Run ar E q s m t) : t.2.1.length = s.2.1.length ∧ t.2.2.length = s.2.2.length := by
  induction h with
  | nil s => exact ⟨rfl, rfl⟩
  | cons hv _ ih => exact ⟨by rw [ih.1]; simp [mvS, addL_len], by rw [ih.2]; simp [mvS, addL_len]⟩
theorem Run.total {s t : MSt} {m : List Nat} (h : Run ar E q s m t) (hl : s.2.2.length = s.2.1.length) : t.2.2.sum = s.2.2.sum + m.length := by
  induction h with
  | nil s => simp
  | @cons s t v l hv _ ih =>
    rw [ih (by simp [mvS, addL_len, hl])]
    show (addL s.2.2 v 1).sum + _ = _
    rw [sum_set _ _ _ (by rw [hl]; exact hv.1)]
    simp
    omega
theorem live_none {s : MSt} : (liveL q s.2.1).length = 0 ↔ ∀ v, ¬ Can q s v := by
  unfold liveL liveP
  rw [List.length_map, List.length_eq_zero_iff, List.filter_eq_nil_iff]
  constructor
  · intro h v hv
    exact h v (by simpa using hv.1) (by simp only [decide_eq_true_eq]; exact ⟨hv.2.1, hv.2.2⟩)
  · intro h v hv hh
    simp only [decide_eq_true_eq] at hh
    exact h v ⟨by simpa using hv, hh.1, hh.2⟩
theorem mvN_run {pk : Nat → List Int → Int} (hpk : Picks pk) (s : MSt) : ∀ i, (∀ j, j < i → (liveL q (mvN ar E q pk s j).2.1).length ≠ 0) → ∃ m, Run ar E q s m (mvN ar E q pk s i) ∧ m.length = i
  | 0, _ => ⟨[], .nil _, rfl⟩
  | i + 1, h => by
    obtain ⟨m, h1, h2⟩ := mvN_run hpk s i fun j hj => h j (by omega)
    have hm := hpk i _ (by intro e; exact h i (by omega) (by rw [e]; rfl) : liveL q (mvN ar E q pk s i).2.1 ≠ [])
    obtain ⟨v, h3, h4, h5, h6⟩ := live_mem hm
    refine ⟨m ++ [v], h1.append (.cons ⟨h4, h5, h6⟩ ?_), by simp [h2]⟩
    have e : mvN ar E q pk s (i + 1) = mvS ar E (mvN ar E q pk s i) v := by
      show mvS ar E (mvN ar E q pk s i) (pk i (liveL q (mvN ar E q pk s i).2.1)).toNat = _
      rw [h3]; rfl
    rw [e]
    exact .nil _

/-- However it is picked: the same. -/
theorem moves_half {M : Nat} {pk pk' : Nat → List Int → Int} (h1 : Picks pk) (h2 : Picks pk') {rot d : List Int} {i : Nat} (hi : i < M) (h3 : (liveL q (mvN ar E q pk (start rot d d.length) i).2.1).length = 0)
    (h4 : ∀ j, j < i → (liveL q (mvN ar E q pk (start rot d d.length) j).2.1).length ≠ 0) : movesUp M ar E q pk' rot d = movesUp M ar E q pk rot d := by
  obtain ⟨m, r1, r2⟩ := mvN_run h1 _ i h4
  have hd := live_none.1 h3
  rcases first_or (fun i => (liveL q (mvN ar E q pk' (start rot d d.length) i).2.1).length) 0 M with ⟨k, k1, k2, k3⟩ | hn
  · obtain ⟨m', s1, s2⟩ := mvN_run h2 _ k k3
    obtain ⟨e1, e2⟩ := r1.same hd s1 (live_none.1 k2)
    rw [movesUp_hit hi rfl h3 h4, movesUp_hit k1 rfl k2 k3, e1]
  · obtain ⟨m', s1, s2⟩ := mvN_run h2 _ M hn
    obtain ⟨m3, _, e⟩ := s1.rest r1 hd
    omega
theorem moves_same (M : Nat) {pk pk' : Nat → List Int → Int} (h1 : Picks pk) (h2 : Picks pk') (rot d : List Int) : movesUp M ar E q pk rot d = movesUp M ar E q pk' rot d := by
  rcases first_or (fun i => (liveL q (mvN ar E q pk (start rot d d.length) i).2.1).length) 0 M with ⟨k, k1, k2, k3⟩ | hn
  · exact (moves_half h1 h2 k1 k2 k3).symm
  · rcases first_or (fun i => (liveL q (mvN ar E q pk' (start rot d d.length) i).2.1).length) 0 M with ⟨k, k1, k2, k3⟩ | hn'
    · exact moves_half h2 h1 k1 k2 k3
    · rw [movesUp_none hn, movesUp_none hn']
theorem movesOf_same {pk pk' : Nat → List Int → Int} (h1 : Picks pk) (h2 : Picks pk') (rot d : List Int) : movesOf ar E q pk rot d = movesOf ar E q pk' rot d := moves_same _ h1 h2 rot d

/-- A chip that is routed. -/
theorem chip_run {rot d t : List Int} {v : Nat} (hn : ∀ u, u ≠ q → 0 ≤ d.getD u 0) (hv : v < d.length) (hp : v ≠ q → 0 < d.getD v 0) (hb : ∀ i, (∀ j, j < i → chipV ar E rot v j ≠ q) → chipV ar E rot v i < d.length) :
    ∀ i, (∀ j, j < i → chipV ar E rot v j ≠ q) → ∃ m t', Run ar E q (rot, d, t) m (rotI ar E rot v i, addL (addL d v (-1)) (chipV ar E rot v i) 1, t') ∧ m.length = i
  | 0, _ => ⟨[], t, by
    show Run ar E q (rot, d, t) [] (rot, addL (addL d v (-1)) v 1, t)
    rw [addL_undo (by omega)]
    exact .nil _, rfl⟩
  | i + 1, h => by
    obtain ⟨m, t', h1, h2⟩ := chip_run (t := t) hn hv hp hb i fun j hj => h j (by omega)
    have hq := h i (by omega)
    have hvq : v ≠ q := h 0 (by omega)
    refine ⟨m ++ [chipV ar E rot v i], addL t' (chipV ar E rot v i) 1, h1.append (.cons ⟨?_, hq, ?_⟩ ?_), by simp [h2]⟩
    · simp only [addL_len]
      exact hb i fun j hj => h j (by omega)
    · have := hb i fun j hj => h j (by omega)
      have h3 := hn _ hq
      have h4 := hp hvq
      show 0 < (addL (addL d v (-1)) (chipV ar E rot v i) 1).getD (chipV ar E rot v i) 0
      rw [addL_get, addL_len, if_pos ⟨rfl, this⟩, addL_get]
      split
      · rename_i h5
        rw [← h5.1]
        omega
      · omega
    · have : mvS ar E (rotI ar E rot v i, addL (addL d v (-1)) (chipV ar E rot v i) 1, t') (chipV ar E rot v i) = (rotI ar E rot v (i + 1), addL (addL d v (-1)) (chipV ar E rot v (i + 1)) 1, addL t' (chipV ar E rot v i) 1) := by
        unfold mvS
        simp only
        rw [addL_undo (l := addL d v (-1)) (v := chipV ar E rot v i) (x := 1) (y := -1) (by omega)]
        rfl
      rw [this]
      exact .nil _

end

/-- Behind the chips of the vertices below v, and j chips of v. -/
def AddSt (n : Int) (es : List Edg) (ar : List (List Int)) (q : Nat) (rot d : List Int) (v j : Nat) (now : List Int) (steps : Nat) : Prop :=
  ∃ m D t', Run ar (endsL es) q (start rot d d.length) m (now, D, t') ∧ m.length = steps ∧ RtOk n es ar q now ∧ D.length = d.length ∧ (∀ u, u ≠ q → 0 ≤ D.getD u 0) ∧
    (∀ u, u ≠ q → u < v → D.getD u 0 = 0) ∧ (∀ u, u ≠ q → v < u → D.getD u 0 = d.getD u 0) ∧ (v ≠ q → D.getD v 0 = d.getD v 0 - j)
theorem AddSt.rotors {n : Int} {es : List Edg} {ar : List (List Int)} {q : Nat} {rot d : List Int} {v j : Nat} {now : List Int} {steps : Nat} (h : AddSt n es ar q rot d v j now steps) : RtOk n es ar q now := by
  obtain ⟨_, _, _, _, _, h3, _⟩ := h
  exact h3
theorem AddSt.begin {n : Int} {es : List Edg} {ar : List (List Int)} {q : Nat} {rot d : List Int} (h : RtOk n es ar q rot) (hn : ∀ u, u ≠ q → 0 ≤ d.getD u 0) : AddSt n es ar q rot d 0 0 rot 0 :=
  ⟨[], d, _, .nil _, rfl, h, rfl, hn, fun u _ hu => absurd hu (by omega), fun _ _ _ => rfl, fun _ => by simp⟩
theorem AddSt.next {n : Int} {es : List Edg} {ar : List (List Int)} {q : Nat} {rot d : List Int} {v j : Nat} {now : List Int} {steps : Nat} (h : AddSt n es ar q rot d v j now steps) (hj : v ≠ q → (d.getD v 0) ≤ j) : AddSt n es ar q rot d (v + 1) 0 now steps := by
  obtain ⟨m, D, t', h1, h2, h3, h4, h5, h6, h7, h8⟩ := h
  refine ⟨m, D, t', h1, h2, h3, h4, h5, fun u hu hlt => ?_, fun u hu hlt => h7 u hu (by omega), fun hu => by rw [h7 (v + 1) hu (by omega)]; simp⟩
  rcases Nat.lt_or_ge u v with hl | hl
  · exact h6 u hu hl
  · have : u = v := by omega
    subst this
    have a1 := h8 hu
    have a2 := h5 u hu
    have a3 := hj hu
    omega
theorem AddSt.step {n : Int} {es : List Edg} {ar : List (List Int)} {q : Nat} {rot d : List Int} {v j : Nat} {now : List Int} {steps M : Nat} {mm : List Nat} {tt : MSt} (h : AddSt n es ar q rot d v j now steps) (hd : d.length = ar.length) (hv : v < d.length) (hj : (j : Int) < d.getD v 0)
    (hr : Run ar (endsL es) q (start rot d d.length) mm tt) (ht : ∀ u, ¬ Can q tt u) (hM : mm.length < M) :
    ∃ i, i < M ∧ chipV ar (endsL es) now v i = q ∧ (∀ k, k < i → chipV ar (endsL es) now v k ≠ q) ∧ AddSt n es ar q rot d v (j + 1) (rotI ar (endsL es) now v i) (steps + i) ∧ RtOk n es ar q (rotI ar (endsL es) now v i) ∧ steps + i ≤ mm.length := by
  obtain ⟨m, D, t', h1, h2, h3, h4, h5, h6, h7, h8⟩ := h
  have hb : ∀ i, (∀ k, k < i → chipV ar (endsL es) now v k ≠ q) → chipV ar (endsL es) now v i < D.length := fun i hi => by
    have := (h3.along (by omega : v < ar.length) i hi).2
    rw [h4, hd]; exact this
  have hR := chip_run (t := t') h5 (by omega : v < D.length) (fun hq => by have := h8 hq; omega) hb
  rcases first_or (chipV ar (endsL es) now v) q M with ⟨i, i1, i2, i3⟩ | hn
  · obtain ⟨m2, t2, r1, r2⟩ := hR i i3
    rw [i2] at r1
    have hrun := h1.append r1
    have hrt := (h3.along (by omega : v < ar.length) i i3).1
    refine ⟨i, i1, i2, i3, ⟨m ++ m2, _, t2, hrun, by simp; omega, hrt, by simp [addL_len, h4], fun u hu => ?_, fun u hu hl => ?_, fun u hu hl => ?_, fun hu => ?_⟩, hrt, ?_⟩
    · rw [addL_get, addL_get, if_neg (c := q = u ∧ _) (by intro hh; exact hu hh.1.symm)]
      split
      · rename_i h9
        have := h8 (by rw [h9.1]; exact hu)
        rw [← h9.1]
        omega
      · exact h5 u hu
    · rw [addL_get, addL_get, if_neg (c := q = u ∧ _) (by intro hh; exact hu hh.1.symm), if_neg (by omega)]
      exact h6 u hu hl
    · rw [addL_get, addL_get, if_neg (c := q = u ∧ _) (by intro hh; exact hu hh.1.symm), if_neg (by omega)]
      exact h7 u hu hl
    · rw [addL_get, addL_get, if_neg (c := q = v ∧ _) (by intro hh; exact hu hh.1.symm), if_pos ⟨rfl, by omega⟩, h8 hu]
      omega
    · obtain ⟨m3, _, e⟩ := hrun.rest hr ht
      simp at e
      omega
  · obtain ⟨m2, t2, r1, r2⟩ := hR M hn
    obtain ⟨m3, _, e⟩ := (h1.append r1).rest hr ht
    simp at e
    omega
theorem AddSt.finish {n : Int} {es : List Edg} {ar : List (List Int)} {q : Nat} {rot d : List Int} {now : List Int} {steps : Nat} {mm : List Nat} {tt : MSt} (h : AddSt n es ar q rot d d.length 0 now steps)
    (hr : Run ar (endsL es) q (start rot d d.length) mm tt) (ht : ∀ u, ¬ Can q tt u) : now = tt.1 ∧ (steps : Int) = tt.2.2.sum := by
  obtain ⟨m, D, t', h1, h2, h3, h4, h5, h6, h7, h8⟩ := h
  obtain ⟨e1, e2⟩ := hr.same ht h1 (fun u hc => by
    have := h6 u hc.2.1 (by have := hc.1; simp only at this; omega)
    have h9 := hc.2.2
    simp only at h9
    omega)
  have := hr.total (by simp [start])
  refine ⟨by rw [← e1], ?_⟩
  rw [this]
  simp [start]
  omega

/-- What the program's All says of runs. -/
theorem moves_case {ar : List (List Int)} {E : List (Int × Int)} {q : Nat} {pk : Nat → List Int → Int} (hpk : Picks pk) (M : Nat) (rot d : List Int) :
    (∃ m s, movesUp M ar E q pk rot d = (s.1, s.2.2, 0) ∧ Run ar E q (start rot d d.length) m s ∧ (∀ u, ¬ Can q s u) ∧ m.length < M) ∨ movesUp M ar E q pk rot d = ([], [], 12) := by
  rcases first_or (fun i => (liveL q (mvN ar E q pk (start rot d d.length) i).2.1).length) 0 M with ⟨k, k1, k2, k3⟩ | hn
  · obtain ⟨m, r1, r2⟩ := mvN_run hpk _ k k3
    exact .inl ⟨m, _, movesUp_hit k1 rfl k2 k3, r1, live_none.1 k2, by omega⟩
  · exact .inr (movesUp_none hn)

end Go.Proofs.Ytopldbnlehjlpaa

set_option linter.unusedVariables false
set_option linter.unusedSimpArgs false
set_option linter.unnecessarySimpa false
namespace Go.Proofs.Ytopldbnlehjlpaa
open Go.RowKit

theorem gScan_zero {q : Int} : ∀ {v0 : Nat} {d : List Int}, gScan q v0 d = 0 → ∀ u, ((v0 + u : Nat) : Int) ≠ q → 0 ≤ d.getD u 0
  | v0, [], _, u, _ => by simp
  | v0, x :: r, h, u, hu => by
    unfold gScan at h
    split at h
    · cases h
    · rename_i h1
      cases u with
      | zero => simp at hu ⊢; omega
      | succ u =>
        have := gScan_zero h u (by intro e; apply hu; rw [← e]; congr 1; omega)
        simpa using this
theorem gvE_nonneg {n : Int} {es : List Edg} {f : List Nat} {ar : List (List Int)} {q : Nat} {rot d : List Int} (h : gvE n es f ar q rot d = 0) : ∀ u, u ≠ q → 0 ≤ d.getD u 0 := by
  obtain ⟨h1, h2⟩ := gvE_zero h
  unfold gvE at h
  rw [if_pos h1, if_pos h2] at h
  exact fun u hu => gScan_zero h u (by simp; omega)
theorem rotE_of {q : Nat} : ∀ {v0 : Nat} {ar : List (List Int)} {rot : List Int}, (∀ (v : Nat) (k : Int) (l : List Int), rot[v]? = some k → ar[v]? = some l → ¬ badR q (v0 + v) k l.length) → rotE q v0 ar rot = 0
  | v0, [], rot, _ => rotE_nil _ _ _
  | v0, _ :: _, [], _ => rfl
  | v0, a :: ar, x :: rot, h => by
    rw [rotE_cons, if_neg (by have := h 0 x a rfl rfl; simpa using this)]
    refine rotE_of fun v k l h1 h2 => ?_
    have := h (v + 1) k l (by simpa using h1) (by simpa using h2)
    rw [show v0 + 1 + v = v0 + (v + 1) from by omega]
    exact this
/-- Other right rotors on the same ribbon graph. -/
theorem rtE_other {n : Int} {es : List Edg} {f : List Nat} {ar : List (List Int)} {q : Nat} {rot now : List Int} (h : rtE n es f ar q rot = 0) (hn : RtOk n es ar q now) : rtE n es f ar q now = 0 := by
  obtain ⟨h1, h2, h3, h4⟩ := rtE_zero h
  unfold rtE
  rw [if_pos h1, if_pos (vtxB_iff.2 h2), if_pos (by rw [hn.nrot]; exact hn.nar)]
  refine rotE_of fun v k l hk hl => ?_
  obtain ⟨a1, a2, a3⟩ := hn.rots v k l hk hl
  unfold badR
  rw [Nat.zero_add]
  rintro (hh | ⟨hh, h6⟩ | ⟨hh, h6⟩)
  · omega
  · exact h6 (a2 (by omega))
  · have := a3 (by omega); omega
theorem routeRes_hit {n : Int} {es : List Edg} {f : List Nat} {ar : List (List Int)} {q : Nat} {now : List Int} {v i : Nat} (h : rtE n es f ar q now = 0) (hv : (v : Int) < n) (hi : i < 1048577) (h1 : chipV ar (endsL es) now v i = q) (h2 : ∀ j, j < i → chipV ar (endsL es) now v j ≠ q) :
    routeRes n es f ar q now v = (rotI ar (endsL es) now v i, (i : Int), 0) := by
  have hS : stE n es f ar q now v = 0 := by unfold stE; rw [if_pos h, if_pos (vtxB_iff.2 ⟨by omega, hv⟩)]
  unfold routeRes
  rw [if_pos hS]
  exact routeOf_hit hi h1 h2
theorem Run.nn {ar : List (List Int)} {E : List (Int × Int)} {q : Nat} {s t : MSt} {m : List Nat} (h : Run ar E q s m t) (hl : s.2.2.length = s.2.1.length) (h0 : ∀ x ∈ s.2.2, 0 ≤ x) : ∀ x ∈ t.2.2, 0 ≤ x := by
  induction h with
  | nil s => exact h0
  | @cons s t v l hv _ ih =>
    refine ih (by simp [mvS, addL_len, hl]) fun x hx => ?_
    rcases addL_mem (show x ∈ addL s.2.2 v 1 from hx) (by rw [hl]; exact hv.1) with h3 | ⟨z, h3, rfl⟩
    · exact h0 x h3
    · have := h0 z h3; omega
theorem sum_take_le : ∀ (l : List Int) (k : Nat), (∀ x ∈ l, 0 ≤ x) → 0 ≤ (l.take k).sum ∧ (l.take k).sum ≤ l.sum
  | [], k, _ => by simp
  | x :: r, 0, h => by
    have h1 := (sum_take_le r r.length fun y hy => h y (by simp [hy])).1
    have h2 := h x (by simp)
    rw [List.take_length] at h1
    simp
    omega
  | x :: r, k + 1, h => by
    obtain ⟨h1, h3⟩ := sum_take_le r k fun y hy => h y (by simp [hy])
    have h2 := h x (by simp)
    simp
    omega
theorem sum_take_succ {l : List Int} {k : Nat} {x : Int} (h : l[k]? = some x) : (l.take (k + 1)).sum = (l.take k).sum + x := by
  rw [List.take_add_one, h]
  simp

/-- The two ways of All: an end, or the error of the limit. -/
theorem all_case {n : Int} {es : List Edg} {f : List Nat} {ar : List (List Int)} {q : Nat} {rot d : List Int} (h : gvE n es f ar q rot d = 0) :
    (∃ m s, allRes n es f ar q rot d = (s.1, s.2.2, 0) ∧ Run ar (endsL es) q (start rot d d.length) m s ∧ (∀ u, ¬ Can q s u) ∧ m.length < 1048577) ∨ allRes n es f ar q rot d = ([], [], 12) := by
  unfold allRes
  rw [if_pos h]
  exact moves_case pk0_ok 1048577 rot d

end Go.Proofs.Ytopldbnlehjlpaa

set_option linter.unusedVariables false
set_option linter.unusedSimpArgs false
set_option linter.unnecessarySimpa false
namespace Go.Proofs.Ytopldbnlehjlpaa
open Go.RowKit

/-- What lies in memory while chips are routed one by one. -/
structure AddCtx (w : World) (n : Int) (es : List Edg) (oe : Option Addr) (c : Nat) (ar : List (List Int)) (oa : Option Addr) (ca : Nat) (q : Int) (rot : List Int) (ot : Option Addr) (ct : Nat) (d : List Int) (od : Option Addr) (cd : Nat) (pk : List Int) (op : Option Addr) (cp : Nat)
    (a s : List Int) (o1 o2 : Option Addr) (now : List Int) (on : Option Addr) (cn : Nat) (W : World) : Prop where
  g : GamCtx w n es oe c ar oa ca q rot ot ct d od cd pk op cp W
  a1 : SliceR intR 1 All W o1 a
  a2 : SliceR intR 1 All W o2 s
  nw : SliceR intR 1 All W on now
  nc : now.length ≤ cn

set_option maxRecDepth 100000 in
set_option maxHeartbeats 8000000 in
theorem adds_walk (n : Int) (es : List Edg) (oe : Option Addr) (c : Nat) (ar : List (List Int)) (oa : Option Addr) (ca : Nat) (q : Int) (rot : List Int) (ot : Option Addr) (ct : Nat) (d : List Int) (od : Option Addr) (cd : Nat) (pk : List Int) (op : Option Addr) (cp : Nat) (w : World)
    (hs : SliceR edgR 3 All w oe es) (hc : es.length ≤ c) (hc2 : es.length ≤ 9223372036854775807) (ha : SliceR (slcR intR 1) 1 All w oa ar) (hac : ar.length ≤ ca) (hac2 : ar.length ≤ 9223372036854775807) (hr : SliceR intR 1 All w ot rot) (hrc : rot.length ≤ ct) (hrl : rot.length ≤ 9223372036854775807)
    (hd : SliceR intR 1 All w od d) (hdc : d.length ≤ cd) (hdl : d.length ≤ 9223372036854775807) (hp : SliceR intR 1 All w op pk) :
    Calls Try.prog 6 #[.agg #[.int .i64 n, .slice oe es.length c, .slice oa ar.length ca], .agg #[.int .i64 q, .slice ot rot.length ct, .slice od d.length cd, .slice op pk.length cp]] w fun e w' => e = .returned (.bool true) ∧ Below w.heap.size w w' := by
  have hU : Hid (gErr n es = 0 → Uf (forest es) (eL es)) := forest_ok n es
  have C0 := GamCtx.new (n := n) (c := c) (ca := ca) (q := q) (ct := ct) (cd := cd) (cp := cp) hs ha hr hd hp
  obtain ⟨W1, hW1⟩ : ∃ W1, (w.alloc (.cells #[.int .i64 n, .slice oe es.length c, .slice oa ar.length ca] 27)).alloc (.cells #[.int .i64 q, .slice ot rot.length ct, .slice od d.length cd, .slice op pk.length cp] 54) = W1 := ⟨_, rfl⟩
  rw [hW1] at C0
  have HC := hide C0
  have d0 := HC.out.b1.cell 0
  have d1 := HC.out.b1.cell 1
  have d2 := HC.out.b1.cell 2
  have p0 := HC.out.b2.cell 0
  have p1 := HC.out.b2.cell 1
  have p2 := HC.out.b2.cell 2
  have p3 := HC.out.b2.cell 3
  simp only [List.getElem?_cons_zero, List.getElem?_cons_succ] at d0 d1 d2 p0 p1 p2 p3
  clear hs ha hr hd hp C0
  go_enter Try.func6, Try.ntmps6
  go_wp2_with fail
  clear d0 d1 d2 p0 p1 p2 p3
  refine (small45_any n es oe c ar oa ca q rot ot ct d od cd pk op cp _ HC.out.hes hc hc2 HC.out.har hac hac2 HC.out.hrt hrc hrl HC.out.hdd hdc hdl HC.out.hpk).mono ?_
  rintro e W2 ⟨rfl, hb⟩
  replace HC := hide (HC.out.below hb)
  clear hb hW1
  by_cases hS : smallB n es ar q rot d = true
  · obtain ⟨hF, hG, hD⟩ := smallB_yes hS
    obtain ⟨hc3, _, _⟩ := few45_yes hF
    rw [hS]
    have HG := hide hG
    obtain ⟨hR0, hd0⟩ := gvE_zero hG
    obtain ⟨q, rfl, hok⟩ := RtOk.of hR0 (by omega : es.length ≤ 1000)
    obtain ⟨_, hdn, hdb⟩ := dErr_zero hd0
    have hal := hok.nar
    have hda : d.length = ar.length := by omega
    have h12 := hok.n12
    have HOK := hide hok
    have HR0 := hide hR0
    have HDB := hide hdb
    have HNN := hide (gvE_nonneg hG)
    have HCASE := hide (all_case hG)
    have HDA := hide hda
    have HAL := hide hal
    clear hS hF hG hD hR0 hd0 hok hdb hda hal hdn
    have d0 := HC.out.b1.cell 0
    have d1 := HC.out.b1.cell 1
    have d2 := HC.out.b1.cell 2
    have p0 := HC.out.b2.cell 0
    have p1 := HC.out.b2.cell 1
    have p2 := HC.out.b2.cell 2
    have p3 := HC.out.b2.cell 3
    simp only [List.getElem?_cons_zero, List.getElem?_cons_succ] at d0 d1 d2 p0 p1 p2 p3
    go_wp2_with fail
    clear d0 d1 d2 p0 p1 p2 p3
    refine (rotAll_any n es oe c ar oa ca All All W2 HC.out.hes hc (by omega) HC.out.har hac hac2 (forest es) hU q rot ot ct All HC.out.hrt hrc hrl d od cd All HC.out.hdd hdc hdl).mono ?_
    rintro e W3 ⟨rv, cv, rfl, ho1, ho2, hb⟩
    replace HC := hide (HC.out.below hb)
    clear hb
    have hcase := HCASE.out
    clear HCASE
    rcases hcase with ⟨mm, tt, hA, hrun, hter, hM⟩ | hA
    · rw [hA] at ho1 ho2
      rw [hA]
      simp only at ho1 ho2
      have HL1 := hide (OwnS.small ho1)
      have HL2 := hide (OwnS.small ho2)
      obtain ⟨o1, k1, rfl, hk1, hs1⟩ := OwnS.given ho1
      obtain ⟨o2, k2, rfl, hk2, hs2⟩ := OwnS.given ho2
      have HRUN := hide (And.intro hrun (And.intro hter hM))
      have hsum : Hid (∀ x ∈ tt.2.2, 0 ≤ x) := Run.nn hrun (by simp [start]) (by simp [start])
      have htot : Hid (tt.2.2.sum = mm.length) := by
        have := hrun.total (by simp [start])
        show _ = _
        rw [this]; simp [start]
      have HB0 : Hid (AddSt n es ar q rot d 0 0 rot 0) := AddSt.begin HOK.out HNN.out
      have HX := hide (AddCtx.mk (pk := pk) HC.out hs1 hs2 HC.out.hrt hrc)
      clear ho1 ho2 hs1 hs2 hrun hter hA
      have d0 := HC.out.b1.cell 0
      have d1 := HC.out.b1.cell 1
      have d2 := HC.out.b1.cell 2
      have p0 := HC.out.b2.cell 0
      have p1 := HC.out.b2.cell 1
      have p2 := HC.out.b2.cell 2
      have p3 := HC.out.b2.cell 3
      simp only [List.getElem?_cons_zero, List.getElem?_cons_succ] at d0 d1 d2 p0 p1 p2 p3
      go_wp2_with fail
      clear d0 d1 d2 p0 p1 p2 p3
      have hlow := hide HC.out.low
      clear HC
      go_loopw [46, 8, 9] (fun iv nv sv wr => ∃ (v : Nat) (now : List Int) (on : Option Addr) (cn st : Nat), v ≤ d.length ∧ iv = .int .i64 v ∧ nv = .slice on now.length cn ∧ sv = .int .i64 st ∧ Hid (AddSt n es ar q rot d v 0 now st) ∧ Hid (AddCtx w n es oe c ar oa ca q rot ot ct d od cd pk op cp tt.1 tt.2.2 o1 o2 now on cn wr) ∧ Hid (st ≤ mm.length)) (fun iv _ _ _ => d.length - (intOf iv).toNat)
      case atStart => exact ⟨0, rot, ot, ct, 0, by omega, rfl, rfl, rfl, HB0, HX, Nat.zero_le _⟩
      case round =>
        clear HX HB0 hlow
        obtain ⟨v, now, on, cn, st, hv, rfl, rfl, rfl, HA, HX, hst⟩ := hrel
        by_cases hlt : v < d.length
        · obtain ⟨x, hdr, hx, ix, b, off, hod, _, c0⟩ := HX.out.g.hdd.int_at hlt
          subst hod
          have HXD : Hid (d.getD v 0 = x) := getD_of hx
          have hxb : x ≤ 1048576 := by have := HDB.out x (List.mem_of_getElem? hx); omega
          by_cases hx0 : x ≤ 0
          · have HC := hide HX.out.g
            have d0 := HC.out.b1.cell 0
            have d1 := HC.out.b1.cell 1
            have d2 := HC.out.b1.cell 2
            have p0 := HC.out.b2.cell 0
            have p1 := HC.out.b2.cell 1
            have p2 := HC.out.b2.cell 2
            have p3 := HC.out.b2.cell 3
            simp only [List.getElem?_cons_zero, List.getElem?_cons_succ] at d0 d1 d2 p0 p1 p2 p3
            clear hdr hx
            go_wp2_with fail
            clear d0 d1 d2 p0 p1 p2 p3
            clear HC c0
            have HNX : Hid (AddSt n es ar q rot d (v + 1) 0 now st) := HA.out.next fun _ => by rw [HXD.out]; simpa using hx0
            go_loopw [55, 8, 9] (fun jv nv sv wi => jv = .int .i64 0 ∧ nv = .slice on now.length cn ∧ sv = .int .i64 st ∧ wi = wr) (fun _ _ _ _ => 0)
            case atStart => exact ⟨rfl, rfl, rfl, rfl⟩
            case round =>
              obtain ⟨rfl, rfl, rfl, rfl⟩ := hrel
              go_wp2_with fail
              go_roundw
              case rel => exact ⟨v + 1, now, on, cn, st, by omega, by go_num, rfl, rfl, HNX, HX, hst⟩
              case measure => simp [intOf]; omega
          · have hx1 : 0 < x := by omega
            obtain ⟨X, hX⟩ := Int.eq_ofNat_of_zero_le (show 0 ≤ x by omega)
            subst hX
            have HC := hide HX.out.g
            have d0 := HC.out.b1.cell 0
            have d1 := HC.out.b1.cell 1
            have d2 := HC.out.b1.cell 2
            have p0 := HC.out.b2.cell 0
            have p1 := HC.out.b2.cell 1
            have p2 := HC.out.b2.cell 2
            have p3 := HC.out.b2.cell 3
            simp only [List.getElem?_cons_zero, List.getElem?_cons_succ] at d0 d1 d2 p0 p1 p2 p3
            clear hdr hx
            go_wp2_with fail
            clear d0 d1 d2 p0 p1 p2 p3
            clear HC c0
            obtain ⟨wo, hwo⟩ : ∃ wo : World, wo = wr := ⟨_, rfl⟩
            subst hwo
            go_loopw [55, 8, 9] (fun jv nv sv wr => ∃ (j : Nat) (now : List Int) (on : Option Addr) (cn st : Nat), j ≤ X ∧ jv = .int .i64 j ∧ nv = .slice on now.length cn ∧ sv = .int .i64 st ∧ Hid (AddSt n es ar q rot d v j now st) ∧ Hid (AddCtx w n es oe c ar oa ca q rot ot ct d (some ⟨b, off, none⟩) cd pk op cp tt.1 tt.2.2 o1 o2 now on cn wr) ∧ Hid (st ≤ mm.length)) (fun jv _ _ _ => X - (intOf jv).toNat)
            case atStart => exact ⟨0, now, on, cn, st, by omega, rfl, rfl, rfl, HA, HX, hst⟩
            case round =>
              clear HA HX hst
              obtain ⟨j, now, on, cn, st, hj, rfl, rfl, rfl, HA, HX, hst⟩ := hrel
              by_cases hjx : j < X
              · obtain ⟨i, i1, i2, i3, hA2, hok2, hle⟩ := HA.out.step HDA.out hlt (by rw [HXD.out]; omega) HRUN.out.1 HRUN.out.2.1 HRUN.out.2.2
                have hokn : RtOk n es ar q now := HA.out.rotors
                have HRN := rtE_other HR0.out hokn
                have HRR := rtE_other HR0.out hok2
                have hroute := rotRoute_any n es oe c ar oa ca All All wr HX.out.g.hes hc (by omega) HX.out.g.har hac hac2 (forest es) hU q now on cn All HX.out.nw HX.out.nc (by rw [hokn.nrot]; exact hac2) v
                rw [routeRes_hit HRN (by have := HAL.out; have := HDA.out; omega) i1 i2 i3] at hroute
                have HROUTE := hide hroute
                obtain ⟨nx, hnx⟩ : ∃ nx, nx = rotI ar (endsL es) now v i := ⟨_, rfl⟩
                rw [← hnx] at hA2 hok2 HRR HROUTE
                have HA2 := hide hA2
                have HOK2 := hide hok2
                replace HRR := hide HRR
                have hle := hide hle
                have hnl : nx.length = ar.length := hok2.nrot
                replace hnl := hide hnl
                have HC := hide HX.out.g
                have d0 := HC.out.b1.cell 0
                have d1 := HC.out.b1.cell 1
                have d2 := HC.out.b1.cell 2
                have p0 := HC.out.b2.cell 0
                have p1 := HC.out.b2.cell 1
                have p2 := HC.out.b2.cell 2
                have p3 := HC.out.b2.cell 3
                simp only [List.getElem?_cons_zero, List.getElem?_cons_succ] at d0 d1 d2 p0 p1 p2 p3
                clear hA2 hok2 hokn HRN i2 i3 hnx hroute
                replace i1 := hide i1
                go_wp2_with fail
                clear d0 d1 d2 p0 p1 p2 p3
                refine HROUTE.out.mono ?_
                rintro e W4 ⟨rv, rfl, ho, hb⟩
                simp only at ho
                obtain ⟨o4, c4, rfl, hc4, hs4⟩ := OwnS.given ho
                have HX4 := hide (AddCtx.mk (pk := pk) (HX.out.g.below hb) (HX.out.a1.below intR_ok hb) (HX.out.a2.below intR_ok hb) hs4 hc4)
                clear ho hs4 hb HROUTE
                replace HC := hide HX4.out.g
                have d0 := HC.out.b1.cell 0
                have d1 := HC.out.b1.cell 1
                have d2 := HC.out.b1.cell 2
                have p0 := HC.out.b2.cell 0
                have p1 := HC.out.b2.cell 1
                have p2 := HC.out.b2.cell 2
                have p3 := HC.out.b2.cell 3
                simp only [List.getElem?_cons_zero, List.getElem?_cons_succ] at d0 d1 d2 p0 p1 p2 p3
                go_wp2_with fail
                clear d0 d1 d2 p0 p1 p2 p3
                refine (r45check_any n es oe c ar oa ca All All _ HX4.out.g.hes hc (by omega) HX4.out.g.har hac hac2 (forest es) hU q nx o4 c4 All HX4.out.nw hc4 (by have := hnl.out; omega)).mono ?_
                rintro e W5 ⟨rfl, hb⟩
                have HX5 := hide (AddCtx.mk (pk := pk) (HX4.out.g.below hb) (HX4.out.a1.below intR_ok hb) (HX4.out.a2.below intR_ok hb) (HX4.out.nw.below intR_ok hb) hc4)
                rw [HRR.out]
                clear hb HX4 HX HC
                go_wp2_with fail
                go_roundw
                case rel => exact ⟨j + 1, nx, o4, c4, st + i, by omega, by go_num, rfl, by have := hle.out; go_num, HA2, HX5, hle⟩
                case measure => simp [intOf]; omega
              · have hjx2 : j = X := by omega
                have HNX : Hid (AddSt n es ar q rot d (v + 1) 0 now st) := HA.out.next fun _ => by rw [HXD.out]; omega
                clear hjx
                go_wp2_with fail
                go_roundw
                case rel => exact ⟨v + 1, now, on, cn, st, by omega, by go_num, rfl, rfl, HNX, HX, hst⟩
                case measure => simp [intOf]; omega
        · have hve : v = d.length := by omega
          obtain ⟨f1, f2⟩ := (by have := HA.out; rw [hve] at this; exact this.finish HRUN.out.1 HRUN.out.2.1 : now = tt.1 ∧ (st : Int) = tt.2.2.sum)
          subst f1
          have HST := hide f2
          clear f2 hve HA
          go_wp2_with fail
          obtain ⟨wo, hwo⟩ : ∃ wo : World, wo = wr := ⟨_, rfl⟩
          subst hwo
          go_loopw [14, 85] (fun sv jv wi => ∃ k : Nat, k ≤ tt.2.2.length ∧ jv = .int .i64 k ∧ sv = .int .i64 (tt.2.2.take k).sum ∧ wi = wo) (fun _ jv _ => tt.2.2.length - (intOf jv).toNat)
          case atStart => exact ⟨0, by omega, rfl, rfl, rfl⟩
          case round =>
            obtain ⟨k, hk, rfl, rfl, rfl⟩ := hrel
            by_cases hkl : k < tt.2.2.length
            · obtain ⟨y, _, hy, iy, b, off, hod, _, c0⟩ := HX.out.a2.int_at hkl
              subst hod
              have hl2 := HL2.out
              have hsk := hide (sum_take_succ hy)
              have hs1 := (sum_take_le tt.2.2 k hsum.out)
              have hs2 := (sum_take_le tt.2.2 (k + 1) hsum.out)
              rw [hsk.out, htot.out] at hs2
              obtain ⟨S, hS⟩ : ∃ S, S = (tt.2.2.take k).sum := ⟨_, rfl⟩
              rw [← hS] at hs1 hs2 ⊢
              have hS' := hide hS
              clear hy hS
              go_wp2_with fail
              go_roundw
              case rel => exact ⟨k + 1, by omega, by go_num, by first | (rw [hsk.out, ← hS'.out]; done) | (rw [hsk.out, ← hS'.out]; go_num), by first | rfl | trivial⟩
              case measure => simp [intOf]; omega
            · have hke : k = tt.2.2.length := by omega
              have HSE : Hid ((tt.2.2.take k).sum = (st : Int)) := by show _ = _; rw [hke, List.take_length, HST.out]
              rw [HSE.out]
              clear hke
              go_wp2_with fail
              refine (equalInt_any tt.1 tt.1 on o1 cn k1 All _ HX.out.nw HX.out.a1 HX.out.nc HL1.out).mono ?_
              rintro e W7 ⟨rfl, hb⟩
              have HC := hide (HX.out.g.below hb)
              clear hb
              simp only [decide_true]
              go_wp2_with fail
              refine (awake45_any _).mono ?_
              rintro e W8 ⟨rfl, hb⟩
              replace HC := hide (HC.out.below hb)
              clear hb
              go_wp2_with fail
              go_ret
              exact ⟨rfl, HC.out.low⟩
    · rw [hA]
      clear ho1 ho2 hA
      go_wp2_with fail
      refine (awake45_any _).mono ?_
      rintro e W4 ⟨rfl, hb⟩
      replace HC := hide (HC.out.below hb)
      clear hb
      go_wp2_with fail
      go_ret
      exact ⟨rfl, HC.out.low⟩
  · have hS2 : smallB n es ar q rot d = false := by simpa using hS
    rw [hS2]
    clear hS hS2
    go_wp2_with fail
    refine (awake45_any _).mono ?_
    rintro e W3 ⟨rfl, hb⟩
    replace HC := hide (HC.out.below hb)
    clear hb
    go_wp2_with fail
    go_ret
    exact ⟨rfl, HC.out.low⟩

theorem adds_claim (w : World) (n : Int) (es : List Edg) (oe : Option Addr) (c : Nat) (ar : List (List Int)) (oa : Option Addr) (ca : Nat) (hc : es.length ≤ c) (hc2 : es.length ≤ 9223372036854775807) (hs : SliceR edgR 3 All w oe es) (hac : ar.length ≤ ca) (hac2 : ar.length ≤ 9223372036854775807) (ha : SliceR (slcR intR 1) 1 All w oa ar)
    (q : Int) (rot : List Int) (ot : Option Addr) (ct : Nat) (d : List Int) (od : Option Addr) (cd : Nat) (pk : List Int) (op : Option Addr) (cp : Nat) (hrc : rot.length ≤ ct) (hrl : rot.length ≤ 9223372036854775807) (hr : SliceR intR 1 All w ot rot)
    (hdc : d.length ≤ cd) (hdl : d.length ≤ 9223372036854775807) (hd : SliceR intR 1 All w od d) (hpc : pk.length ≤ cp) (hpl : pk.length ≤ 9223372036854775807) (hp : SliceR intR 1 All w op pk) :
    Calls Try.prog 6 #[.agg #[.int .i64 n, .slice oe es.length c, .slice oa ar.length ca], .agg #[.int .i64 q, .slice ot rot.length ct, .slice od d.length cd, .slice op pk.length cp]] w fun e w' => e = .returned (.bool true) ∧ Below w.heap.size w w' :=
  adds_walk n es oe c ar oa ca q rot ot ct d od cd pk op cp w hs hc hc2 ha hac hac2 hr hrc hrl hd hdc hdl hp

end Go.Proofs.Ytopldbnlehjlpaa

set_option linter.unusedVariables false
namespace Go.Proofs.Ytopldbnlehjlpaa
open Go.RowKit Go.ChangeShapes Go.WideShapes Go.ChangeAt Go.Deep

set_option maxRecDepth 100000 in
theorem rotorAdds_lifted (os : Os) (started : os.Started) (H : Type) (enc : TypeId × Value → H) :
    ReturnsInHanded {} Try.checked os 6 .any (Rows.rotorAddsSpec.pre6 enc Try.prog Try.f6 Rows.rotorAddsRow.domain false) (Rows.rotorAddsSpec.post enc Try.prog Try.f6 false true false false) := by
  refine returnsInHanded_of_change (C := Try.checked) own_knob started (by kernel_rfl) Try.func6
    (ChangeSpec.witness6 (enc := enc) (C := Try.checked) false ⟨#[], #[.agg #[.int .i64 0, .slice none 0 0, .slice none 0 0], .agg #[.int .i64 0, .slice none 0 0, .slice none 0 0, .slice none 0 0]], []⟩ 8 (by kernel_rfl) (by kernel_rfl) (by kernel_rfl) (by kernel_rfl)) ?_
  intro W base args ds gs before hval0 hW _ _
  have hval : ∀ (j : Nat) t v, Try.f6.params[j]? = some t → args[j]? = some v → Value.okWide Try.prog W .any base t v := hval0
  have hW' := hW
  obtain ⟨p, q, hA0, hV, rfl, _, _⟩ := hW
  have hA : DataW.TrodAll enc Try.prog W 0 (fun _ => true) true Try.f6.params.toList args.toList ds p := hA0
  rw [Try.params6] at hA hval
  obtain ⟨v0, v1, d0, d1, p0, p1, rfl, rfl, rfl, h0, h1⟩ := trodAll_two hA
  obtain ⟨rfl, rfl⟩ := trodVars_none hV
  have h0k := h0
  have h1k := h1
  obtain ⟨n0, es0, oe0, c0, ar0, oa0, ca0, rfl, hc0, hl0, he0, hac0, hal0, ha0⟩ := open_rib (hval 0 27 v0 rfl rfl) h0
  obtain ⟨q1, rot1, ot1, ct1, d1x, od1, cd1, pk1, op1, cp1, rfl, hrc1, hrl1, hr1, hdc1, hdl1, hd1, hpc1, hpl1, hp1⟩ := open_game (hval 1 54 v1 rfl rfl) h1
  clear hA0 hval0
  simp only [List.append_nil] at hW'
  have hlt0 : ∀ y ∈ p0, y.block < W.heap.size := fun y hy => by simpa using hW'.lt y (by simp [hy])
  have hlt1 : ∀ y ∈ p1, y.block < W.heap.size := fun y hy => by simpa using hW'.lt y (by simp [hy])
  refine (adds_claim W n0 es0 oe0 c0 ar0 oa0 ca0 hc0 hl0 he0 hac0 hal0 ha0 q1 rot1 ot1 ct1 d1x od1 cd1 pk1 op1 cp1 hrc1 hrl1 hr1 hdc1 hdl1 hd1 hpc1 hpl1 hp1).mono fun e W' ⟨he, hn⟩ => ?_
  subst he
  exact ⟨_, rfl, _, _, _, [], _, [], hW', trodAll_mk1 (shut_bool Try.underlying4 true), trodAll_mk2 (Below.trod laid_out (by kernel_rfl) (of_decide_eq_true (by kernel_rfl)) h0k hn hlt0) (Below.trod laid_out (by kernel_rfl) (of_decide_eq_true (by kernel_rfl)) h1k hn hlt1), rfl, hn.frame _, fun h => by cases h⟩

theorem rotorAdds_holds : Rows.RotorAddsSaid :=
  OpenClaim.holds_of_wide 6 Try.f6 rfl rfl rfl rfl rfl rfl rfl ⟨rfl, rfl, rfl, rfl, rfl⟩ rfl rfl rfl rfl rfl (by kernel_rfl) Try.func6 (by kernel_rfl)
    (of_decide_eq_true (by kernel_rfl)) (by unfold Func.isWrapper; first | (rw [if_pos (by decide +kernel)]; kernel_rfl) | (rw [if_neg (by decide +kernel)]; exact ⟨rfl, rfl⟩))
    (fun os started H enc _ => rotorAdds_lifted os started H enc)

#print axioms rotorAdds_holds
end Go.Proofs.Ytopldbnlehjlpaa

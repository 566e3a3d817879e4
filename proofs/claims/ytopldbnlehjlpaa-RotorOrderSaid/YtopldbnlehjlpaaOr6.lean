/-
  RotorOrder: the order in which chips are routed does not matter, for all ribbon graphs and games; no condition.
  The walk of RotorOrder.
  rotor.Picked, ref45.Picked.
  ref45.All, ref45.FewChips.
  Chips one by one, and all at once: plain law.
  The order in which chips are moved does not matter: plain law.
  A game in memory; ref17.Few, ref17.Small; sandpilelaw45.small.
  (*rotor.board).route by picks. Printed by wip/mkRouteP.py.
  slices.Min of ints: whether it is negative; ref21.Picks, ref21.FewPicks.
  ref45.Moved.
  ref17.In, ref17.Check, ref45.chips, ref45.Given; ref17.Few, ref17.Small, ref45.FewChips.
  ref45.Moved: the region that lays the rotors, the chips and the numbers of steps: its state and its steps. Printed by wip/mkMoved.py.
  A region that draws its order, by an invariant; append to an empty literal and make as steps of such a region. No program is named here.
  The walk of RotorSteps.
-/
import Derived.Test.YtopldbnlehjlpaaOr5
import Derived.Deep.RegionHeld3
import Derived.Deep.RegionLaw
import Derived.StillTailTactics
import Derived.Test.YtopldbnlehjlpaaRows

set_option linter.unusedVariables false
set_option linter.unusedSimpArgs false
set_option linter.unnecessarySimpa false
namespace Go.Proofs.Ytopldbnlehjlpaa
open Go.RowKit

/-- What the laws' functions lean on between their calls. -/
structure LawCtx (w : World) (n : Int) (es : List Edg) (oe : Option Addr) (c : Nat) (ar : List (List Int)) (oa : Option Addr) (ca : Nat) (q : Int) (rot : List Int) (ot : Option Addr) (ct : Nat) (v : Int) (W : World) : Prop where
  hes : SliceR edgR 3 All W oe es
  har : SliceR (slcR intR 1) 1 All W oa ar
  hrt : SliceR intR 1 All W ot rot
  b1 : Box W w.heap.size [.int .i64 n, .slice oe es.length c, .slice oa ar.length ca] 27
  b2 : Box W (w.heap.size + 1) [.int .i64 q, .slice ot rot.length ct, .int .i64 v] 30
  low : Below w.heap.size w W
theorem LawCtx.below {w : World} {n : Int} {es : List Edg} {oe : Option Addr} {c : Nat} {ar : List (List Int)} {oa : Option Addr} {ca : Nat} {q : Int} {rot : List Int} {ot : Option Addr} {ct : Nat} {v : Int} {W W' : World}
    (h : LawCtx w n es oe c ar oa ca q rot ot ct v W) (hb : Below W.heap.size W W') : LawCtx w n es oe c ar oa ca q rot ot ct v W' :=
  ⟨h.hes.below edgR_ok hb, h.har.below (slcR_ok intR_ok (by decide)) hb, h.hrt.below intR_ok hb, h.b1.below hb, h.b2.below hb, h.low.trans (hb.mono h.low.size)⟩
theorem LawCtx.new {w : World} {n : Int} {es : List Edg} {oe : Option Addr} {c : Nat} {ar : List (List Int)} {oa : Option Addr} {ca : Nat} {q : Int} {rot : List Int} {ot : Option Addr} {ct : Nat} {v : Int}
    (h1 : SliceR edgR 3 All w oe es) (h2 : SliceR (slcR intR 1) 1 All w oa ar) (h3 : SliceR intR 1 All w ot rot) :
    LawCtx w n es oe c ar oa ca q rot ot ct v ((w.alloc (.cells #[.int .i64 n, .slice oe es.length c, .slice oa ar.length ca] 27)).alloc (.cells #[.int .i64 q, .slice ot rot.length ct, .int .i64 v] 30)) := by
  have hb := bnew (bnew (Below.refl w.heap.size w) (.cells #[.int .i64 n, .slice oe es.length c, .slice oa ar.length ca] 27)) (.cells #[.int .i64 q, .slice ot rot.length ct, .int .i64 v] 30)
  refine ⟨h1.below edgR_ok hb, h2.below (slcR_ok intR_ok (by decide)) hb, h3.below intR_ok hb, (Box.new w [.int .i64 n, .slice oe es.length c, .slice oa ar.length ca] 27).next _, ?_, hb⟩
  have := Box.new (w.alloc (.cells #[.int .i64 n, .slice oe es.length c, .slice oa ar.length ca] 27)) [.int .i64 q, .slice ot rot.length ct, .int .i64 v] 30
  simpa using this

theorem OwnS.small {B : Nat} {W : World} {rv : Value} {l : List Int} (h : OwnS intR 1 B 3 Non W rv l) : l.length ≤ 9223372036854775807 := by
  obtain ⟨cells, ho, _⟩ := h
  rcases ho.2 with ⟨_, hn⟩ | ⟨g, cap, cur, _, _, _, hle, hcm, _, _⟩
  · omega
  · unfold maxLen at hcm
    omega
set_option maxRecDepth 100000 in
set_option maxHeartbeats 8000000 in
theorem steps_walk (n : Int) (es : List Edg) (oe : Option Addr) (c : Nat) (ar : List (List Int)) (oa : Option Addr) (ca : Nat) (q : Int) (rot : List Int) (ot : Option Addr) (ct : Nat) (v : Int) (w : World)
    (hs : SliceR edgR 3 All w oe es) (hc : es.length ≤ c) (hc2 : es.length ≤ 9223372036854775807) (ha : SliceR (slcR intR 1) 1 All w oa ar) (hac : ar.length ≤ ca) (hac2 : ar.length ≤ 9223372036854775807) (hr : SliceR intR 1 All w ot rot) (hrc : rot.length ≤ ct) (hrl : rot.length ≤ 9223372036854775807) :
    Calls Try.prog 3 #[.agg #[.int .i64 n, .slice oe es.length c, .slice oa ar.length ca], .agg #[.int .i64 q, .slice ot rot.length ct, .int .i64 v]] w fun e w' => e = .returned (.bool true) ∧ Below w.heap.size w w' := by
  have hU : Hid (gErr n es = 0 → Uf (forest es) (eL es)) := forest_ok n es
  have C0 := LawCtx.new (n := n) (c := c) (ca := ca) (q := q) (ct := ct) (v := v) hs ha hr
  obtain ⟨W1, hW1⟩ : ∃ W1, (w.alloc (.cells #[.int .i64 n, .slice oe es.length c, .slice oa ar.length ca] 27)).alloc (.cells #[.int .i64 q, .slice ot rot.length ct, .int .i64 v] 30) = W1 := ⟨_, rfl⟩
  rw [hW1] at C0
  have HC := hide C0
  have d0 := HC.out.b1.cell 0
  have d1 := HC.out.b1.cell 1
  have d2 := HC.out.b1.cell 2
  have p0 := HC.out.b2.cell 0
  have p1 := HC.out.b2.cell 1
  have p2 := HC.out.b2.cell 2
  simp only [List.getElem?_cons_zero, List.getElem?_cons_succ] at d0 d1 d2 p0 p1 p2
  clear hs ha hr C0
  go_enter Try.func3, Try.ntmps3
  go_wp2_with fail
  refine (few45_any n es oe c ar oa ca All All _ HC.out.hes hc hc2 HC.out.har hac hac2 rot ot ct).mono ?_
  rintro e W2 ⟨rfl, hb⟩
  replace HC := hide (HC.out.below hb)
  clear hb d0 d1 d2 p0 p1 p2 hW1
  by_cases hF : few45 n es ar rot = true
  · obtain ⟨hc3, _, _⟩ := few45_yes hF
    rw [hF]
    clear hF
    have d0 := HC.out.b1.cell 0
    have d1 := HC.out.b1.cell 1
    have d2 := HC.out.b1.cell 2
    have p0 := HC.out.b2.cell 0
    have p1 := HC.out.b2.cell 1
    have p2 := HC.out.b2.cell 2
    simp only [List.getElem?_cons_zero, List.getElem?_cons_succ] at d0 d1 d2 p0 p1 p2
    go_wp2_with fail
    clear d0 d1 d2 p0 p1 p2
    refine (rotStep_any n es oe c ar oa ca All All _ HC.out.hes hc (by omega) HC.out.har hac hac2 (forest es) hU q rot ot ct All HC.out.hrt hrc hrl v).mono ?_
    rintro e W3 ⟨rv, rfl, ho, hb⟩
    have hl3 := hide (OwnS.small ho)
    obtain ⟨oa3, c3, rfl, hc3', hs3⟩ := OwnS.given ho
    replace HC := hide (HC.out.below hb)
    have s3 := hide hs3
    clear ho hb hs3
    have d0 := HC.out.b1.cell 0
    have d1 := HC.out.b1.cell 1
    have d2 := HC.out.b1.cell 2
    have p0 := HC.out.b2.cell 0
    have p1 := HC.out.b2.cell 1
    have p2 := HC.out.b2.cell 2
    simp only [List.getElem?_cons_zero, List.getElem?_cons_succ] at d0 d1 d2 p0 p1 p2
    go_wp2_with fail
    clear d0 d1 d2 p0 p1 p2
    refine (refStep_any n es oe c ar oa ca All All _ HC.out.hes hc (by omega) HC.out.har hac hac2 (forest es) hU q rot ot ct All HC.out.hrt hrc hrl v).mono ?_
    rintro e W4 ⟨rv, rfl, ho, hb⟩
    obtain ⟨oa4, c4, rfl, hc4', hs4⟩ := OwnS.given ho
    replace HC := hide (HC.out.below hb)
    replace s3 := hide (s3.out.below intR_ok hb)
    have s4 := hide hs4
    clear ho hb hs4
    have d0 := HC.out.b1.cell 0
    have d1 := HC.out.b1.cell 1
    have d2 := HC.out.b1.cell 2
    have p0 := HC.out.b2.cell 0
    have p1 := HC.out.b2.cell 1
    have p2 := HC.out.b2.cell 2
    simp only [List.getElem?_cons_zero, List.getElem?_cons_succ] at d0 d1 d2 p0 p1 p2
    go_wp2_with fail
    clear d0 d1 d2 p0 p1 p2
    refine (rotWalk_any n es oe c ar oa ca All All _ HC.out.hes hc (by omega) HC.out.har hac hac2 (forest es) hU q rot ot ct All HC.out.hrt hrc hrl v).mono ?_
    rintro e W5 ⟨rv, rfl, ho, hb⟩
    have hl5 := hide (OwnS.small ho)
    obtain ⟨oa5, c5, rfl, hc5', hs5⟩ := OwnS.given ho
    replace HC := hide (HC.out.below hb)
    replace s3 := hide (s3.out.below intR_ok hb)
    replace s4 := hide (s4.out.below intR_ok hb)
    have s5 := hide hs5
    clear ho hb hs5
    have d0 := HC.out.b1.cell 0
    have d1 := HC.out.b1.cell 1
    have d2 := HC.out.b1.cell 2
    have p0 := HC.out.b2.cell 0
    have p1 := HC.out.b2.cell 1
    have p2 := HC.out.b2.cell 2
    simp only [List.getElem?_cons_zero, List.getElem?_cons_succ] at d0 d1 d2 p0 p1 p2
    go_wp2_with fail
    clear d0 d1 d2 p0 p1 p2
    refine (refWalk_any n es oe c ar oa ca All All _ HC.out.hes hc (by omega) HC.out.har hac hac2 (forest es) hU q rot ot ct All HC.out.hrt hrc hrl v).mono ?_
    rintro e W6 ⟨rv, rfl, ho, hb⟩
    obtain ⟨oa6, c6, rfl, hc6', hs6⟩ := OwnS.given ho
    replace HC := hide (HC.out.below hb)
    replace s3 := hide (s3.out.below intR_ok hb)
    replace s4 := hide (s4.out.below intR_ok hb)
    replace s5 := hide (s5.out.below intR_ok hb)
    have s6 := hide hs6
    clear ho hb hs6
    have d0 := HC.out.b1.cell 0
    have d1 := HC.out.b1.cell 1
    have d2 := HC.out.b1.cell 2
    have p0 := HC.out.b2.cell 0
    have p1 := HC.out.b2.cell 1
    have p2 := HC.out.b2.cell 2
    simp only [List.getElem?_cons_zero, List.getElem?_cons_succ] at d0 d1 d2 p0 p1 p2
    go_wp2_with fail
    replace HC := hide (show LawCtx w n es oe c ar oa ca q rot ot ct v W6.drew from ⟨HC.out.hes.keep edgR_ok (fun _ _ _ => rfl), HC.out.har.keep (slcR_ok intR_ok (by decide)) (fun _ _ _ => rfl), HC.out.hrt.keep intR_ok (fun _ _ _ => rfl), HC.out.b1, HC.out.b2, HC.out.low.drew⟩)
    replace s3 := hide (s3.out.keep (w' := W6.drew) intR_ok (fun _ _ _ => rfl))
    replace s4 := hide (s4.out.keep (w' := W6.drew) intR_ok (fun _ _ _ => rfl))
    replace s5 := hide (s5.out.keep (w' := W6.drew) intR_ok (fun _ _ _ => rfl))
    replace s6 := hide (s6.out.keep (w' := W6.drew) intR_ok (fun _ _ _ => rfl))
    replace hl3 : (stepRes n es (forest es) ar q rot v).1.length ≤ 9223372036854775807 := hl3.out
    replace hl5 : (walkRes n es (forest es) ar q rot v).1.length ≤ 9223372036854775807 := hl5.out
    have K17 : ∀ W : World, LawCtx w n es oe c ar oa ca q rot ot ct v W → Calls Try.prog 17 #[.agg #[.int .i64 n, .slice oe es.length c, .slice oa ar.length ca], .int .i64 q, .slice ot rot.length ct] W (ErrPost W (rtE n es (forest es) ar q rot)) := fun W h => rotcheck_any n es oe c ar oa ca All All W h.hes hc (by omega) h.har hac hac2 (forest es) hU q rot ot ct All h.hrt hrc hrl
    have K18 : ∀ W : World, LawCtx w n es oe c ar oa ca q rot ot ct v W → Calls Try.prog 18 #[.agg #[.int .i64 n, .slice oe es.length c, .slice oa ar.length ca], .int .i64 q, .slice ot rot.length ct] W (ErrPost W (rtE n es (forest es) ar q rot)) := fun W h => r45check_any n es oe c ar oa ca All All W h.hes hc (by omega) h.har hac hac2 (forest es) hU q rot ot ct All h.hrt hrc hrl
    replace K17 := hide K17
    replace K18 := hide K18
    generalize rtE n es (forest es) ar q rot = E at *
    generalize (stepRes n es (forest es) ar q rot v).2.1 = r1 at *
    generalize (stepRes n es (forest es) ar q rot v).2.2 = r2 at *
    generalize (stepRes n es (forest es) ar q rot v).1 = l3 at *
    generalize (walkRes n es (forest es) ar q rot v).2 = r3 at *
    generalize (walkRes n es (forest es) ar q rot v).1 = l5 at *
    have K19a : Hid (∀ W : World, SliceR intR 1 All W oa3 l3 → SliceR intR 1 All W oa4 l3 → Calls Try.prog 19 #[.slice oa3 l3.length c3, .slice oa4 l3.length c4] W fun e w' => e = .returned (.bool true) ∧ Below W.heap.size W w') := fun W h1 h2 => (equalInt_any l3 l3 oa3 oa4 c3 c4 All W h1 h2 hc3' hl3).mono fun e w' h => ⟨by rw [h.1]; simp, h.2⟩
    have K19b : Hid (∀ W : World, SliceR intR 1 All W oa5 l5 → SliceR intR 1 All W oa6 l5 → Calls Try.prog 19 #[.slice oa5 l5.length c5, .slice oa6 l5.length c6] W fun e w' => e = .returned (.bool true) ∧ Below W.heap.size W w') := fun W h1 h2 => (equalInt_any l5 l5 oa5 oa6 c5 c6 All W h1 h2 hc5' hl5).mono fun e w' h => ⟨by rw [h.1]; simp, h.2⟩
    clear p2 hU hc hc2 hc3 hac hac2 hrc hrl
    obtain ⟨RR, hRR⟩ : ∃ RR, Value.agg #[.int .i64 n, .slice oe es.length c, .slice oa ar.length ca] = RR := ⟨_, rfl⟩
    obtain ⟨T1, hT1⟩ : ∃ T, Value.tuple #[.slice oa3 l3.length c3, .int .i64 r1, .int .i64 r2] = T := ⟨_, rfl⟩
    obtain ⟨T2, hT2⟩ : ∃ T, Value.tuple #[.slice oa4 l3.length c4, .int .i64 r1, .int .i64 r2] = T := ⟨_, rfl⟩
    obtain ⟨T3, hT3⟩ : ∃ T, Value.tuple #[.slice oa5 l5.length c5, .int .i64 r3] = T := ⟨_, rfl⟩
    obtain ⟨T4, hT4⟩ : ∃ T, Value.tuple #[.slice oa6 l5.length c6, .int .i64 r3] = T := ⟨_, rfl⟩
    rw [hRR, hT1, hT2, hT3, hT4]
    rw [hRR] at K17 K18
    clear hT1 hT2 hT3 hT4 hc3' hc4' hc5' hc6' hl3 hl5
    go_region_held3 (fun w' => w'.cell? ⟨w.heap.size, 0, none⟩ = some (.int .i64 n) ∧ w'.cell? ⟨w.heap.size, 1, none⟩ = some (.slice oe es.length c) ∧ w'.cell? ⟨w.heap.size, 2, none⟩ = some (.slice oa ar.length ca) ∧ w'.cell? ⟨w.heap.size + 1, 0, none⟩ = some (.int .i64 q) ∧ w'.cell? ⟨w.heap.size + 1, 1, none⟩ = some (.slice ot rot.length ct)) (first | exact ⟨d0, d1, d2, p0, p1⟩) (first
      | (go_at_call 12; refine (awake45_any _).mono ?_; rintro e w5 ⟨rfl, h5⟩; replace d0 := (h5.cell (World.block_lt_of_cell? _ _ d0)).trans d0; replace d1 := (h5.cell (World.block_lt_of_cell? _ _ d1)).trans d1; replace d2 := (h5.cell (World.block_lt_of_cell? _ _ d2)).trans d2; replace p0 := (h5.cell (World.block_lt_of_cell? _ _ p0)).trans p0; replace p1 := (h5.cell (World.block_lt_of_cell? _ _ p1)).trans p1; replace HC := hide (HC.out.below h5); replace s3 := hide (s3.out.below intR_ok h5); replace s4 := hide (s4.out.below intR_ok h5); replace s5 := hide (s5.out.below intR_ok h5); replace s6 := hide (s6.out.below intR_ok h5); clear h5)
      | (go_at_call 17; refine (K17.out _ HC.out).mono ?_; rintro e w5 ⟨rfl, h5⟩; replace d0 := (h5.cell (World.block_lt_of_cell? _ _ d0)).trans d0; replace d1 := (h5.cell (World.block_lt_of_cell? _ _ d1)).trans d1; replace d2 := (h5.cell (World.block_lt_of_cell? _ _ d2)).trans d2; replace p0 := (h5.cell (World.block_lt_of_cell? _ _ p0)).trans p0; replace p1 := (h5.cell (World.block_lt_of_cell? _ _ p1)).trans p1; replace HC := hide (HC.out.below h5); replace s3 := hide (s3.out.below intR_ok h5); replace s4 := hide (s4.out.below intR_ok h5); replace s5 := hide (s5.out.below intR_ok h5); replace s6 := hide (s6.out.below intR_ok h5); clear h5)
      | (go_at_call 18; refine (K18.out _ HC.out).mono ?_; rintro e w5 ⟨rfl, h5⟩; replace d0 := (h5.cell (World.block_lt_of_cell? _ _ d0)).trans d0; replace d1 := (h5.cell (World.block_lt_of_cell? _ _ d1)).trans d1; replace d2 := (h5.cell (World.block_lt_of_cell? _ _ d2)).trans d2; replace p0 := (h5.cell (World.block_lt_of_cell? _ _ p0)).trans p0; replace p1 := (h5.cell (World.block_lt_of_cell? _ _ p1)).trans p1; replace HC := hide (HC.out.below h5); replace s3 := hide (s3.out.below intR_ok h5); replace s4 := hide (s4.out.below intR_ok h5); replace s5 := hide (s5.out.below intR_ok h5); replace s6 := hide (s6.out.below intR_ok h5); clear h5)
      | (go_at_call 19; with_reducible refine (K19a.out _ s3.out s4.out).mono ?_; rintro e w5 ⟨rfl, h5⟩; replace d0 := (h5.cell (World.block_lt_of_cell? _ _ d0)).trans d0; replace d1 := (h5.cell (World.block_lt_of_cell? _ _ d1)).trans d1; replace d2 := (h5.cell (World.block_lt_of_cell? _ _ d2)).trans d2; replace p0 := (h5.cell (World.block_lt_of_cell? _ _ p0)).trans p0; replace p1 := (h5.cell (World.block_lt_of_cell? _ _ p1)).trans p1; replace HC := hide (HC.out.below h5); replace s3 := hide (s3.out.below intR_ok h5); replace s4 := hide (s4.out.below intR_ok h5); replace s5 := hide (s5.out.below intR_ok h5); replace s6 := hide (s6.out.below intR_ok h5); clear h5)
      | (go_at_call 19; with_reducible refine (K19b.out _ s5.out s6.out).mono ?_; rintro e w5 ⟨rfl, h5⟩; replace d0 := (h5.cell (World.block_lt_of_cell? _ _ d0)).trans d0; replace d1 := (h5.cell (World.block_lt_of_cell? _ _ d1)).trans d1; replace d2 := (h5.cell (World.block_lt_of_cell? _ _ d2)).trans d2; replace p0 := (h5.cell (World.block_lt_of_cell? _ _ p0)).trans p0; replace p1 := (h5.cell (World.block_lt_of_cell? _ _ p1)).trans p1; replace HC := hide (HC.out.below h5); replace s3 := hide (s3.out.below intR_ok h5); replace s4 := hide (s4.out.below intR_ok h5); replace s5 := hide (s5.out.below intR_ok h5); replace s6 := hide (s6.out.below intR_ok h5); clear h5))
    all_goals
      go_wp2_with fail
      go_ret
      exact ⟨rfl, HC.out.low⟩
  · have hF2 : few45 n es ar rot = false := by simpa using hF
    rw [hF2]
    clear hF hF2
    have d0 := HC.out.b1.cell 0
    have d1 := HC.out.b1.cell 1
    have d2 := HC.out.b1.cell 2
    have p0 := HC.out.b2.cell 0
    have p1 := HC.out.b2.cell 1
    have p2 := HC.out.b2.cell 2
    simp only [List.getElem?_cons_zero, List.getElem?_cons_succ] at d0 d1 d2 p0 p1 p2
    go_wp2_with fail
    refine (awake45_any _).mono ?_
    rintro e W3 ⟨rfl, hb⟩
    replace HC := hide (HC.out.below hb)
    clear hb d0 d1 d2 p0 p1 p2
    go_wp2_with fail
    go_ret
    exact ⟨rfl, HC.out.low⟩

theorem steps_claim (w : World) (n : Int) (es : List Edg) (oe : Option Addr) (c : Nat) (ar : List (List Int)) (oa : Option Addr) (ca : Nat) (hc : es.length ≤ c) (hc2 : es.length ≤ 9223372036854775807) (hs : SliceR edgR 3 All w oe es) (hac : ar.length ≤ ca) (hac2 : ar.length ≤ 9223372036854775807) (ha : SliceR (slcR intR 1) 1 All w oa ar)
    (q : Int) (rot : List Int) (ot : Option Addr) (ct : Nat) (v : Int) (hrc : rot.length ≤ ct) (hrl : rot.length ≤ 9223372036854775807) (hr : SliceR intR 1 All w ot rot) :
    Calls Try.prog 3 #[.agg #[.int .i64 n, .slice oe es.length c, .slice oa ar.length ca], .agg #[.int .i64 q, .slice ot rot.length ct, .int .i64 v]] w fun e w' => e = .returned (.bool true) ∧ Below w.heap.size w w' :=
  steps_walk n es oe c ar oa ca q rot ot ct v w hs hc hc2 ha hac hac2 hr hrc hrl

end Go.Proofs.Ytopldbnlehjlpaa

set_option linter.unusedVariables false
set_option linter.unusedSimpArgs false
set_option linter.unnecessarySimpa false
namespace Go.Proofs.Ytopldbnlehjlpaa
open Go.RowKit

section
variable {P : Program} {ops : Array Oper} {Q : Exit → Act → World → Prop} {md : Region.Mode}

/-- The operations that have to come before the i-th. -/
def preOf (md : Region.Mode) (ops : Array Oper) (i : Nat) : List Nat := ((ops[i]?).map fun o => (o.after.toList.filter (Region.binds md)).map (·.on)).getD []
theorem ready_pre {listed : Array Bool} {i : Nat} : i ∈ Region.ready md ops listed ↔ i < ops.size ∧ listed.getD i true = false ∧ ∀ p ∈ preOf md ops i, listed.getD p false = true := by
  unfold Region.ready
  rw [List.mem_filter, List.mem_range]
  constructor
  · rintro ⟨h1, h2⟩
    rw [Bool.and_eq_true] at h2
    refine ⟨h1, by simpa using h2.1, ?_⟩
    have h3 := h2.2
    rw [Array.getElem?_eq_getElem h1] at h3
    simp only [Option.map_some, Option.getD_some, Array.all_eq_true'] at h3
    intro p hp
    unfold preOf at hp
    rw [Array.getElem?_eq_getElem h1] at hp
    simp only [Option.map_some, Option.getD_some, List.mem_map, List.mem_filter] at hp
    obtain ⟨e, ⟨he, hb⟩, rfl⟩ := hp
    have := h3 e (by simpa using he)
    simpa [hb] using this
  · rintro ⟨h1, h2, h3⟩
    refine ⟨h1, ?_⟩
    rw [Bool.and_eq_true]
    refine ⟨by simp [h2], ?_⟩
    rw [Array.getElem?_eq_getElem h1]
    simp only [Option.map_some, Option.getD_some, Array.all_eq_true']
    intro e he
    by_cases hb : Region.binds md e = true
    · have := h3 e.on (by
        unfold preOf
        rw [Array.getElem?_eq_getElem h1]
        simp only [Option.map_some, Option.getD_some, List.mem_map, List.mem_filter]
        exact ⟨e, ⟨by simpa using he, hb⟩, rfl⟩)
      simp [this]
    · simp [hb]
/-- Where nothing may come up, all has been. -/
theorem ready_nil_all (hp : (List.range ops.size).all (fun i => (preOf md ops i).all fun p => decide (p < i)) = true) {listed : Array Bool} (hl : listed.size = ops.size) (h : Region.ready md ops listed = []) : ∀ i, i < ops.size → listed.getD i false = true := by
  intro i
  induction i using Nat.strongRecOn with
  | _ i ih =>
    intro hi
    have hil : i < listed.size := by omega
    by_cases hx : listed.getD i false = true
    · exact hx
    · have hm : i ∈ Region.ready md ops listed := ready_pre.2 ⟨hi, by
        simp only [Array.getD, hil, dif_pos] at hx ⊢
        simpa using hx, fun p hpp => by
        have h1 := (List.all_eq_true.1 hp) i (List.mem_range.2 hi)
        have h2 := (List.all_eq_true.1 h1) p hpp
        have h3 : p < i := by simpa using h2
        exact ih p h3 (by omega)⟩
      rw [h] at hm
      cases hm
theorem listed_set {listed : Array Bool} {i j : Nat} (hj : i ≠ j) (h : (listed.setIfInBounds i true).getD j false = true) : listed.getD j false = true := by
  rw [Array.getD_eq_getD_getElem?] at h ⊢
  rw [Array.getElem?_setIfInBounds_ne hj] at h
  exact h
theorem countP_step {p p' : Nat → Bool} {i : Nat} (hi : p i = true) (hi' : p' i = false) (hall : ∀ x, p' x = true → p x = true) : ∀ l : List Nat, i ∈ l → l.countP p' < l.countP p
  | [], h => by cases h
  | x :: r, h => by
    rw [List.countP_cons, List.countP_cons]
    have hle : r.countP p' ≤ r.countP p := List.countP_mono_left fun y _ hy => hall y hy
    by_cases hx : x = i
    · subst hx
      rw [hi, hi']
      simp
      omega
    · have := countP_step hi hi' hall r (by rcases List.mem_cons.1 h with e | e; exact absurd e.symm hx; exact e)
      have hxx := hall x
      cases h1 : p' x
      · simp; omega
      · rw [hxx h1]; simp; omega
def leftOf (ops : Array Oper) (listed : Array Bool) : Nat := (List.range ops.size).countP fun i => !listed.getD i true
theorem wpAny_inv (I : Array Bool → Act → World → Prop)
    (hstep : ∀ (listed : Array Bool) (a : Act) (w : World) (i : Nat), I listed a w → i < ops.size → listed.getD i true = false → (∀ p ∈ preOf md ops i, listed.getD p false = true) → wpOp P ops Q i (I (listed.setIfInBounds i true)) a w)
    (hdone : ∀ (listed : Array Bool) (a : Act) (w : World), I listed a w → Region.ready md ops listed = [] → Q .normal a w) :
    ∀ (fuel : Nat) (listed : Array Bool) (a : Act) (w : World), leftOf ops listed ≤ fuel → I listed a w → wpAny P md ops Q fuel listed a w
  | 0, listed, a, w, hl, hI => by
    have h0 : Region.ready md ops listed = [] := by
      rw [List.eq_nil_iff_forall_not_mem]
      intro i hi
      obtain ⟨h1, h2, _⟩ := ready_pre.1 hi
      have := (List.countP_eq_zero.1 (Nat.le_zero.1 hl)) i (List.mem_range.2 h1)
      simp [h2] at this
    exact ⟨h0, hdone listed a w hI h0⟩
  | fuel + 1, listed, a, w, hl, hI => by
    refine ⟨fun h0 => hdone listed a w hI h0, fun i hi => ?_⟩
    obtain ⟨h1, h2, h3⟩ := ready_pre.1 hi
    refine wpOp_mono (fun a' w' hI' => wpAny_inv I hstep hdone fuel _ a' w' ?_ hI') (hstep listed a w i hI h1 h2 h3)
    have : leftOf ops (listed.setIfInBounds i true) < leftOf ops listed := by
      refine countP_step (i := i) (by simp [h2]) ?_ (fun x hx => ?_) _ (List.mem_range.2 h1)
      · have hlt : i < listed.size := by
          simp only [Array.getD] at h2
          split at h2
          · assumption
          · cases h2
        simp [Array.getD, hlt]
      · by_cases hxi : i = x
        · subst hxi
          simp [h2]
        · rw [Array.getD_eq_getD_getElem?] at hx ⊢
          rw [Array.getElem?_setIfInBounds_ne hxi] at hx
          exact hx
    omega
end

/-- append(T{}, src...) as one step of a region that draws its order. -/
theorem step_append_fresh {α : Type} {R : Rep α} {f : α → Value} {P : Program} {ops : Array Oper} {o : Oper} {a : Act} {w : World} {K : Act → World → Prop} {Q : Exit → Act → World → Prop} {E : Prop} (hgd : o.guard = none) (s x : Operand) (t : TypeId)
    (ho : o.op = .call { callee := .builtin .append, args := #[s, x], argTypes := #[t, t] })
    (e : TypeId) (z : Value) (bytes : Nat) (ht : P.underlying t = some (.slice e)) (hinfo : (P.info? e).map (fun i => (i.zero, i.size, i.bytes)) = some (some z, 1, bytes))
    (hzs : z.cells.size = 1) (hR : ∀ F w cs x, R F w cs x → cs = [f x])
    (b : Addr) (hs : a.eval s = .slice (some b) 0 0) (F : Foot) (oa : Option Addr) (c : Nat) (ys : List α) (hx : a.eval x = .slice oa ys.length c) (hsrc : SliceR R 1 F w oa ys) (hne : 0 < ys.length)
    (hbytes : ys.length * bytes ≤ 140737488355328) (hm : ys.length ≤ maxLen)
    (hK : ∀ w' g cap rest, w.heap.size ≤ g → Row1 f w' g e ys rest → (cap = ys.length + rest.length ∧ cap ≤ maxLen) → w.grownBy w' none → K (a.put o.dst (.slice (some ⟨g, 0, none⟩) ys.length cap)) w') :
    if Region.wanted o (yielded ops a.tmps) = true then Oper.wp P o a w K Q else E := by
  have hw : Region.wanted o (yielded ops a.tmps) = true := by simp [Region.wanted, hgd]
  rw [if_pos hw]
  obtain ⟨i0, hi, hz0, hz1, hz2⟩ := info_parts hinfo
  have hat : ∀ i y, ys[i]? = some y → ∃ b off, oa = some ⟨b, off, none⟩ ∧ w.cell? ⟨b, off + i, none⟩ = some (f y) := fun i y hy => by
    obtain ⟨b, off, cs', hoa, _, hRy, hc⟩ := hsrc i y hy
    have := hR _ _ _ _ hRy
    subst this
    exact ⟨b, off, hoa, by simpa using hc 0 (f y) rfl⟩
  obtain ⟨b2, off2, hoa, _⟩ := hat 0 _ (List.getElem?_eq_getElem hne)
  subst hoa
  have hnews : ∀ j u, (ys.map f)[j]? = some u → w.cell? ((⟨b2, off2, none⟩ : Addr).add j) = some u := fun j u hu => by
    rw [List.getElem?_map] at hu
    obtain ⟨y, hy, rfl⟩ := Option.map_eq_some_iff.1 hu
    obtain ⟨b3, off3, he, hc⟩ := hat j y hy
    injection he with he
    injection he with e1 e2
    subst e1 e2
    rw [Addr.add_lit]
    exact hc
  obtain ⟨v', w', hrun, r1, r2⟩ := run_append_arg_grows (P := P) w t o.type e i0 z 1 bytes ht hi hz0 hz1 hz2 hzs (by decide) b 0 0 [] (by simp) (by simp) ⟨b2, off2, none⟩ ys.length c (ys.map f) (by simp) hnews (by omega) (by omega) (by simpa using hbytes)
  have hfin : ∃ g cap rest, w.heap.size ≤ g ∧ Row1 f w' g e ys rest ∧ (cap = ys.length + rest.length ∧ cap ≤ maxLen) ∧ v' = .slice (some ⟨g, 0, none⟩) ys.length cap := by
    rcases r1.2 with ⟨he, h0⟩ | ⟨g, cap, cur, he, hb, hh, hle, hcm, hcs, htake⟩
    · omega
    · refine ⟨g, cap, cur.toList.drop ys.length, hb, ?_, ⟨by simp; omega, hcm⟩, by rw [he]; simp⟩
      unfold Row1
      have : ys.map f ++ cur.toList.drop ys.length = cur.toList := by
        have h2 := List.take_append_drop ys.length cur.toList
        simp only [Nat.zero_add, Nat.mul_one, List.nil_append] at htake
        rw [htake] at h2
        exact h2
      rw [this]
      exact hh
  obtain ⟨g, cap, rest, hg, hrow, hcap, rfl⟩ := hfin
  unfold Oper.wp execOp
  simp only [ho, resolve, invoke, builtin, Sem.run_bind, Sem.run_pure, Result.andThen_ok, List.map_toArray, List.map_cons, List.map_nil, hs, hx, hrun]
  exact hK w' g cap rest hg hrow hcap r2

/-- make([]T, n) as one step of a region that draws its order. -/
theorem step_make_row {α : Type} {f : α → Value} {P : Program} {ops : Array Oper} {o : Oper} {a : Act} {w : World} {K : Act → World → Prop} {Q : Exit → Act → World → Prop} {E : Prop}
    (hg : o.guard = none) (l c : Operand) (t : TypeId) (hop : o.op = Op.makeSlice t l c) (e : TypeId) (x0 : α) (bytes : Nat) (h1 : P.underlying t = some (.slice e)) (hinfo : (P.info? e).map (fun i => (i.zero, i.size, i.bytes)) = some (some (f x0), 1, bytes))
    (hone : (f x0).cells = #[f x0]) (n : Nat) (hl : a.eval l = .int .i64 (n : Int)) (hc : a.eval c = .int .i64 (n : Int)) (b2 : bytes * n ≤ 281474976710656) (b3 : n ≤ maxLen)
    (hK : ∀ w', Row1 f w' w.heap.size e (List.replicate n x0) [] → w.grownBy w' none → K (a.put o.dst (.slice (some ⟨w.heap.size, 0, none⟩) n n)) w') :
    if Region.wanted o (yielded ops a.tmps) = true then Oper.wp P o a w K Q else E := by
  have hw : Region.wanted o (yielded ops a.tmps) = true := by simp [Region.wanted, hg]
  rw [if_pos hw]
  obtain ⟨i0, hi, hz0, hz1, hz2⟩ := info_parts hinfo
  obtain ⟨w', hrun, r1, r2⟩ := run_make_full (P := P) w w.heap.size t e i0 (f x0) 1 h1 hi hz0 hz1 .i64 .i64 n (by rw [hz2]; exact b2) b3 (Nat.le_refl _)
  have hrow : Row1 f w' w.heap.size e (List.replicate n x0) [] := by
    rcases r1.2 with ⟨he, _⟩ | ⟨g, cap, cur, he, _, hh, _, _, hcs, htake⟩
    · cases he
    · injection he with e1 e2 e3
      injection e1 with e1
      injection e1 with e1
      subst e1 e3
      have hcur : cur.toList = (List.replicate n x0).map f ++ [] := by
        rw [List.append_nil, List.map_replicate]
        rw [← List.take_of_length_le (l := cur.toList) (i := n * 1) (by simp; omega), htake]
        apply List.ext_getElem?
        intro j
        simp only [Array.getElem?_toList, madeCells, Array.getElem?_map, Array.getElem?_range, List.getElem?_replicate, hone]
        by_cases hj : j < n
        · simp [hj, Nat.mod_one]
        · simp [hj]
      unfold Row1
      rw [← hcur]
      exact hh
  unfold Oper.wp
  simp [execOp, hop, hl, hc, hrun, Result.andThen]
  exact hK w' hrow r2

end Go.Proofs.Ytopldbnlehjlpaa

set_option linter.unusedVariables false
set_option linter.unusedSimpArgs false
set_option linter.unnecessarySimpa false
namespace Go.Proofs.Ytopldbnlehjlpaa
open Go.RowKit

/-- A row of the call's own, in the block g, that holds the numbers xs. -/
def NewRow (B : Nat) (w : World) (v : Value) (xs : List Int) (g : Nat) : Prop := ∃ cap rest, v = .slice (some ⟨g, 0, none⟩) xs.length cap ∧ Row1 (Value.int .i64) w g 3 xs rest ∧ B ≤ g ∧ cap = xs.length + rest.length ∧ cap ≤ maxLen
theorem NewRow.lt {B : Nat} {w : World} {v : Value} {xs : List Int} {g : Nat} (h : NewRow B w v xs g) : g < w.heap.size := by
  obtain ⟨_, _, _, h1, _, _, _⟩ := h
  exact h1.lt
theorem NewRow.grow {B : Nat} {w w' : World} {v : Value} {xs : List Int} {g : Nat} (h : NewRow B w v xs g) (hg : w.grownBy w' none) : NewRow B w' v xs g := by
  obtain ⟨cap, rest, h0, h1, h2⟩ := h
  refine ⟨cap, rest, h0, ?_, h2⟩
  unfold Row1 at h1 ⊢
  rw [hg.block g (Array.getElem?_eq_some_iff.1 h1).1 (by simp)]
  exact h1

structure MvJ (w0 : World) (v2 v3 : Value) (rot d : List Int) (L : Nat → Prop) (x14 x15 x16 x23 x24 x25 x26 x27 x28 x29 x30 x31 : Value) (g1 g2 g3 : Nat) (w : World) : Prop where
  gr : w0.grownBy w none
  c0 : L 0 → ∃ b, x23 = .slice (some b) 0 0
  c1 : L 1 → x24 = v2
  c2 : L 2 → NewRow w0.heap.size w x25 rot g1
  c3 : L 3 → ∃ b, x26 = .slice (some b) 0 0
  c4 : L 4 → x27 = v3
  c5 : L 5 → NewRow w0.heap.size w x28 d g2
  c6 : L 6 → x29 = v3
  c7 : L 7 → x30 = .int .i64 (d.length : Int)
  c8 : L 8 → NewRow w0.heap.size w x31 (List.replicate d.length 0) g3
  c9 : L 9 → L 2 ∧ x14 = x25
  c10 : L 10 → L 5 ∧ x15 = x28
  c11 : L 11 → L 8 ∧ x16 = x31
  n12 : L 2 → L 5 → g1 ≠ g2
  n13 : L 2 → L 8 → g1 ≠ g3
  n23 : L 5 → L 8 → g2 ≠ g3
section
variable {w0 : World} {v2 v3 : Value} {rot d : List Int} {L L' : Nat → Prop} {x14 x15 x16 x23 x24 x25 x26 x27 x28 x29 x30 x31 : Value} {g1 g2 g3 : Nat} {w w' : World}
theorem MvJ.grow (h : MvJ w0 v2 v3 rot d L x14 x15 x16 x23 x24 x25 x26 x27 x28 x29 x30 x31 g1 g2 g3 w) (hg : w.grownBy w' none) : MvJ w0 v2 v3 rot d L x14 x15 x16 x23 x24 x25 x26 x27 x28 x29 x30 x31 g1 g2 g3 w' :=
  ⟨h.gr.trans hg, h.c0, h.c1, fun hh => (h.c2 hh).grow hg, h.c3, h.c4, fun hh => (h.c5 hh).grow hg, h.c6, h.c7, fun hh => (h.c8 hh).grow hg, h.c9, h.c10, h.c11, h.n12, h.n13, h.n23⟩
theorem MvJ.s0 (h : MvJ w0 v2 v3 rot d L x14 x15 x16 x23 x24 x25 x26 x27 x28 x29 x30 x31 g1 g2 g3 w) (hL : ∀ j, 0 ≠ j → L' j → L j) (hL2 : ∀ j, L j → L' j) (hn : ¬ L 0) {y : Value} (new : ∃ b, y = .slice (some b) 0 0) : MvJ w0 v2 v3 rot d L' x14 x15 x16 (y) x24 x25 x26 x27 x28 x29 x30 x31 g1 g2 g3 w := by
  refine ⟨h.gr, ?_, ?_, ?_, ?_, ?_, ?_, ?_, ?_, ?_, ?_, ?_, ?_, ?_, ?_, ?_⟩
  · exact fun _ => new
  · exact fun hh => h.c1 (hL 1 (by decide) hh)
  · exact fun hh => h.c2 (hL 2 (by decide) hh)
  · exact fun hh => h.c3 (hL 3 (by decide) hh)
  · exact fun hh => h.c4 (hL 4 (by decide) hh)
  · exact fun hh => h.c5 (hL 5 (by decide) hh)
  · exact fun hh => h.c6 (hL 6 (by decide) hh)
  · exact fun hh => h.c7 (hL 7 (by decide) hh)
  · exact fun hh => h.c8 (hL 8 (by decide) hh)
  · exact fun hh => ⟨hL2 2 (h.c9 (hL 9 (by decide) hh)).1, (h.c9 (hL 9 (by decide) hh)).2⟩
  · exact fun hh => ⟨hL2 5 (h.c10 (hL 10 (by decide) hh)).1, (h.c10 (hL 10 (by decide) hh)).2⟩
  · exact fun hh => ⟨hL2 8 (h.c11 (hL 11 (by decide) hh)).1, (h.c11 (hL 11 (by decide) hh)).2⟩
  · exact fun ha hb => h.n12 (hL 2 (by decide) ha) (hL 5 (by decide) hb)
  · exact fun ha hb => h.n13 (hL 2 (by decide) ha) (hL 8 (by decide) hb)
  · exact fun ha hb => h.n23 (hL 5 (by decide) ha) (hL 8 (by decide) hb)
theorem MvJ.s1 (h : MvJ w0 v2 v3 rot d L x14 x15 x16 x23 x24 x25 x26 x27 x28 x29 x30 x31 g1 g2 g3 w) (hL : ∀ j, 1 ≠ j → L' j → L j) (hL2 : ∀ j, L j → L' j) (hn : ¬ L 1) {y : Value} (new : y = v2) : MvJ w0 v2 v3 rot d L' x14 x15 x16 x23 (y) x25 x26 x27 x28 x29 x30 x31 g1 g2 g3 w := by
  refine ⟨h.gr, ?_, ?_, ?_, ?_, ?_, ?_, ?_, ?_, ?_, ?_, ?_, ?_, ?_, ?_, ?_⟩
  · exact fun hh => h.c0 (hL 0 (by decide) hh)
  · exact fun _ => new
  · exact fun hh => h.c2 (hL 2 (by decide) hh)
  · exact fun hh => h.c3 (hL 3 (by decide) hh)
  · exact fun hh => h.c4 (hL 4 (by decide) hh)
  · exact fun hh => h.c5 (hL 5 (by decide) hh)
  · exact fun hh => h.c6 (hL 6 (by decide) hh)
  · exact fun hh => h.c7 (hL 7 (by decide) hh)
  · exact fun hh => h.c8 (hL 8 (by decide) hh)
  · exact fun hh => ⟨hL2 2 (h.c9 (hL 9 (by decide) hh)).1, (h.c9 (hL 9 (by decide) hh)).2⟩
  · exact fun hh => ⟨hL2 5 (h.c10 (hL 10 (by decide) hh)).1, (h.c10 (hL 10 (by decide) hh)).2⟩
  · exact fun hh => ⟨hL2 8 (h.c11 (hL 11 (by decide) hh)).1, (h.c11 (hL 11 (by decide) hh)).2⟩
  · exact fun ha hb => h.n12 (hL 2 (by decide) ha) (hL 5 (by decide) hb)
  · exact fun ha hb => h.n13 (hL 2 (by decide) ha) (hL 8 (by decide) hb)
  · exact fun ha hb => h.n23 (hL 5 (by decide) ha) (hL 8 (by decide) hb)
theorem MvJ.s2 (h : MvJ w0 v2 v3 rot d L x14 x15 x16 x23 x24 x25 x26 x27 x28 x29 x30 x31 g1 g2 g3 w) (hL : ∀ j, 2 ≠ j → L' j → L j) (hL2 : ∀ j, L j → L' j) (hn : ¬ L 2) {y : Value} {g : Nat} (f5 : L 5 → g2 ≠ g) (f8 : L 8 → g3 ≠ g) (new : NewRow w0.heap.size w y rot g) : MvJ w0 v2 v3 rot d L' x14 x15 x16 x23 x24 (y) x26 x27 x28 x29 x30 x31 g g2 g3 w := by
  refine ⟨h.gr, ?_, ?_, ?_, ?_, ?_, ?_, ?_, ?_, ?_, ?_, ?_, ?_, ?_, ?_, ?_⟩
  · exact fun hh => h.c0 (hL 0 (by decide) hh)
  · exact fun hh => h.c1 (hL 1 (by decide) hh)
  · exact fun _ => new
  · exact fun hh => h.c3 (hL 3 (by decide) hh)
  · exact fun hh => h.c4 (hL 4 (by decide) hh)
  · exact fun hh => h.c5 (hL 5 (by decide) hh)
  · exact fun hh => h.c6 (hL 6 (by decide) hh)
  · exact fun hh => h.c7 (hL 7 (by decide) hh)
  · exact fun hh => h.c8 (hL 8 (by decide) hh)
  · exact fun hh => absurd (h.c9 (hL 9 (by decide) hh)).1 hn
  · exact fun hh => ⟨hL2 5 (h.c10 (hL 10 (by decide) hh)).1, (h.c10 (hL 10 (by decide) hh)).2⟩
  · exact fun hh => ⟨hL2 8 (h.c11 (hL 11 (by decide) hh)).1, (h.c11 (hL 11 (by decide) hh)).2⟩
  · exact fun _ hb => (f5 (hL 5 (by decide) hb)).symm
  · exact fun _ hb => (f8 (hL 8 (by decide) hb)).symm
  · exact fun ha hb => h.n23 (hL 5 (by decide) ha) (hL 8 (by decide) hb)
theorem MvJ.s3 (h : MvJ w0 v2 v3 rot d L x14 x15 x16 x23 x24 x25 x26 x27 x28 x29 x30 x31 g1 g2 g3 w) (hL : ∀ j, 3 ≠ j → L' j → L j) (hL2 : ∀ j, L j → L' j) (hn : ¬ L 3) {y : Value} (new : ∃ b, y = .slice (some b) 0 0) : MvJ w0 v2 v3 rot d L' x14 x15 x16 x23 x24 x25 (y) x27 x28 x29 x30 x31 g1 g2 g3 w := by
  refine ⟨h.gr, ?_, ?_, ?_, ?_, ?_, ?_, ?_, ?_, ?_, ?_, ?_, ?_, ?_, ?_, ?_⟩
  · exact fun hh => h.c0 (hL 0 (by decide) hh)
  · exact fun hh => h.c1 (hL 1 (by decide) hh)
  · exact fun hh => h.c2 (hL 2 (by decide) hh)
  · exact fun _ => new
  · exact fun hh => h.c4 (hL 4 (by decide) hh)
  · exact fun hh => h.c5 (hL 5 (by decide) hh)
  · exact fun hh => h.c6 (hL 6 (by decide) hh)
  · exact fun hh => h.c7 (hL 7 (by decide) hh)
  · exact fun hh => h.c8 (hL 8 (by decide) hh)
  · exact fun hh => ⟨hL2 2 (h.c9 (hL 9 (by decide) hh)).1, (h.c9 (hL 9 (by decide) hh)).2⟩
  · exact fun hh => ⟨hL2 5 (h.c10 (hL 10 (by decide) hh)).1, (h.c10 (hL 10 (by decide) hh)).2⟩
  · exact fun hh => ⟨hL2 8 (h.c11 (hL 11 (by decide) hh)).1, (h.c11 (hL 11 (by decide) hh)).2⟩
  · exact fun ha hb => h.n12 (hL 2 (by decide) ha) (hL 5 (by decide) hb)
  · exact fun ha hb => h.n13 (hL 2 (by decide) ha) (hL 8 (by decide) hb)
  · exact fun ha hb => h.n23 (hL 5 (by decide) ha) (hL 8 (by decide) hb)
theorem MvJ.s4 (h : MvJ w0 v2 v3 rot d L x14 x15 x16 x23 x24 x25 x26 x27 x28 x29 x30 x31 g1 g2 g3 w) (hL : ∀ j, 4 ≠ j → L' j → L j) (hL2 : ∀ j, L j → L' j) (hn : ¬ L 4) {y : Value} (new : y = v3) : MvJ w0 v2 v3 rot d L' x14 x15 x16 x23 x24 x25 x26 (y) x28 x29 x30 x31 g1 g2 g3 w := by
  refine ⟨h.gr, ?_, ?_, ?_, ?_, ?_, ?_, ?_, ?_, ?_, ?_, ?_, ?_, ?_, ?_, ?_⟩
  · exact fun hh => h.c0 (hL 0 (by decide) hh)
  · exact fun hh => h.c1 (hL 1 (by decide) hh)
  · exact fun hh => h.c2 (hL 2 (by decide) hh)
  · exact fun hh => h.c3 (hL 3 (by decide) hh)
  · exact fun _ => new
  · exact fun hh => h.c5 (hL 5 (by decide) hh)
  · exact fun hh => h.c6 (hL 6 (by decide) hh)
  · exact fun hh => h.c7 (hL 7 (by decide) hh)
  · exact fun hh => h.c8 (hL 8 (by decide) hh)
  · exact fun hh => ⟨hL2 2 (h.c9 (hL 9 (by decide) hh)).1, (h.c9 (hL 9 (by decide) hh)).2⟩
  · exact fun hh => ⟨hL2 5 (h.c10 (hL 10 (by decide) hh)).1, (h.c10 (hL 10 (by decide) hh)).2⟩
  · exact fun hh => ⟨hL2 8 (h.c11 (hL 11 (by decide) hh)).1, (h.c11 (hL 11 (by decide) hh)).2⟩
  · exact fun ha hb => h.n12 (hL 2 (by decide) ha) (hL 5 (by decide) hb)
  · exact fun ha hb => h.n13 (hL 2 (by decide) ha) (hL 8 (by decide) hb)
  · exact fun ha hb => h.n23 (hL 5 (by decide) ha) (hL 8 (by decide) hb)
theorem MvJ.s5 (h : MvJ w0 v2 v3 rot d L x14 x15 x16 x23 x24 x25 x26 x27 x28 x29 x30 x31 g1 g2 g3 w) (hL : ∀ j, 5 ≠ j → L' j → L j) (hL2 : ∀ j, L j → L' j) (hn : ¬ L 5) {y : Value} {g : Nat} (f2 : L 2 → g1 ≠ g) (f8 : L 8 → g3 ≠ g) (new : NewRow w0.heap.size w y d g) : MvJ w0 v2 v3 rot d L' x14 x15 x16 x23 x24 x25 x26 x27 (y) x29 x30 x31 g1 g g3 w := by
  refine ⟨h.gr, ?_, ?_, ?_, ?_, ?_, ?_, ?_, ?_, ?_, ?_, ?_, ?_, ?_, ?_, ?_⟩
  · exact fun hh => h.c0 (hL 0 (by decide) hh)
  · exact fun hh => h.c1 (hL 1 (by decide) hh)
  · exact fun hh => h.c2 (hL 2 (by decide) hh)
  · exact fun hh => h.c3 (hL 3 (by decide) hh)
  · exact fun hh => h.c4 (hL 4 (by decide) hh)
  · exact fun _ => new
  · exact fun hh => h.c6 (hL 6 (by decide) hh)
  · exact fun hh => h.c7 (hL 7 (by decide) hh)
  · exact fun hh => h.c8 (hL 8 (by decide) hh)
  · exact fun hh => ⟨hL2 2 (h.c9 (hL 9 (by decide) hh)).1, (h.c9 (hL 9 (by decide) hh)).2⟩
  · exact fun hh => absurd (h.c10 (hL 10 (by decide) hh)).1 hn
  · exact fun hh => ⟨hL2 8 (h.c11 (hL 11 (by decide) hh)).1, (h.c11 (hL 11 (by decide) hh)).2⟩
  · exact fun ha _ => f2 (hL 2 (by decide) ha)
  · exact fun ha hb => h.n13 (hL 2 (by decide) ha) (hL 8 (by decide) hb)
  · exact fun _ hb => (f8 (hL 8 (by decide) hb)).symm
theorem MvJ.s6 (h : MvJ w0 v2 v3 rot d L x14 x15 x16 x23 x24 x25 x26 x27 x28 x29 x30 x31 g1 g2 g3 w) (hL : ∀ j, 6 ≠ j → L' j → L j) (hL2 : ∀ j, L j → L' j) (hn : ¬ L 6) {y : Value} (new : y = v3) : MvJ w0 v2 v3 rot d L' x14 x15 x16 x23 x24 x25 x26 x27 x28 (y) x30 x31 g1 g2 g3 w := by
  refine ⟨h.gr, ?_, ?_, ?_, ?_, ?_, ?_, ?_, ?_, ?_, ?_, ?_, ?_, ?_, ?_, ?_⟩
  · exact fun hh => h.c0 (hL 0 (by decide) hh)
  · exact fun hh => h.c1 (hL 1 (by decide) hh)
  · exact fun hh => h.c2 (hL 2 (by decide) hh)
  · exact fun hh => h.c3 (hL 3 (by decide) hh)
  · exact fun hh => h.c4 (hL 4 (by decide) hh)
  · exact fun hh => h.c5 (hL 5 (by decide) hh)
  · exact fun _ => new
  · exact fun hh => h.c7 (hL 7 (by decide) hh)
  · exact fun hh => h.c8 (hL 8 (by decide) hh)
  · exact fun hh => ⟨hL2 2 (h.c9 (hL 9 (by decide) hh)).1, (h.c9 (hL 9 (by decide) hh)).2⟩
  · exact fun hh => ⟨hL2 5 (h.c10 (hL 10 (by decide) hh)).1, (h.c10 (hL 10 (by decide) hh)).2⟩
  · exact fun hh => ⟨hL2 8 (h.c11 (hL 11 (by decide) hh)).1, (h.c11 (hL 11 (by decide) hh)).2⟩
  · exact fun ha hb => h.n12 (hL 2 (by decide) ha) (hL 5 (by decide) hb)
  · exact fun ha hb => h.n13 (hL 2 (by decide) ha) (hL 8 (by decide) hb)
  · exact fun ha hb => h.n23 (hL 5 (by decide) ha) (hL 8 (by decide) hb)
theorem MvJ.s7 (h : MvJ w0 v2 v3 rot d L x14 x15 x16 x23 x24 x25 x26 x27 x28 x29 x30 x31 g1 g2 g3 w) (hL : ∀ j, 7 ≠ j → L' j → L j) (hL2 : ∀ j, L j → L' j) (hn : ¬ L 7) {y : Value} (new : y = .int .i64 (d.length : Int)) : MvJ w0 v2 v3 rot d L' x14 x15 x16 x23 x24 x25 x26 x27 x28 x29 (y) x31 g1 g2 g3 w := by
  refine ⟨h.gr, ?_, ?_, ?_, ?_, ?_, ?_, ?_, ?_, ?_, ?_, ?_, ?_, ?_, ?_, ?_⟩
  · exact fun hh => h.c0 (hL 0 (by decide) hh)
  · exact fun hh => h.c1 (hL 1 (by decide) hh)
  · exact fun hh => h.c2 (hL 2 (by decide) hh)
  · exact fun hh => h.c3 (hL 3 (by decide) hh)
  · exact fun hh => h.c4 (hL 4 (by decide) hh)
  · exact fun hh => h.c5 (hL 5 (by decide) hh)
  · exact fun hh => h.c6 (hL 6 (by decide) hh)
  · exact fun _ => new
  · exact fun hh => h.c8 (hL 8 (by decide) hh)
  · exact fun hh => ⟨hL2 2 (h.c9 (hL 9 (by decide) hh)).1, (h.c9 (hL 9 (by decide) hh)).2⟩
  · exact fun hh => ⟨hL2 5 (h.c10 (hL 10 (by decide) hh)).1, (h.c10 (hL 10 (by decide) hh)).2⟩
  · exact fun hh => ⟨hL2 8 (h.c11 (hL 11 (by decide) hh)).1, (h.c11 (hL 11 (by decide) hh)).2⟩
  · exact fun ha hb => h.n12 (hL 2 (by decide) ha) (hL 5 (by decide) hb)
  · exact fun ha hb => h.n13 (hL 2 (by decide) ha) (hL 8 (by decide) hb)
  · exact fun ha hb => h.n23 (hL 5 (by decide) ha) (hL 8 (by decide) hb)
theorem MvJ.s8 (h : MvJ w0 v2 v3 rot d L x14 x15 x16 x23 x24 x25 x26 x27 x28 x29 x30 x31 g1 g2 g3 w) (hL : ∀ j, 8 ≠ j → L' j → L j) (hL2 : ∀ j, L j → L' j) (hn : ¬ L 8) {y : Value} {g : Nat} (f2 : L 2 → g1 ≠ g) (f5 : L 5 → g2 ≠ g) (new : NewRow w0.heap.size w y (List.replicate d.length 0) g) : MvJ w0 v2 v3 rot d L' x14 x15 x16 x23 x24 x25 x26 x27 x28 x29 x30 (y) g1 g2 g w := by
  refine ⟨h.gr, ?_, ?_, ?_, ?_, ?_, ?_, ?_, ?_, ?_, ?_, ?_, ?_, ?_, ?_, ?_⟩
  · exact fun hh => h.c0 (hL 0 (by decide) hh)
  · exact fun hh => h.c1 (hL 1 (by decide) hh)
  · exact fun hh => h.c2 (hL 2 (by decide) hh)
  · exact fun hh => h.c3 (hL 3 (by decide) hh)
  · exact fun hh => h.c4 (hL 4 (by decide) hh)
  · exact fun hh => h.c5 (hL 5 (by decide) hh)
  · exact fun hh => h.c6 (hL 6 (by decide) hh)
  · exact fun hh => h.c7 (hL 7 (by decide) hh)
  · exact fun _ => new
  · exact fun hh => ⟨hL2 2 (h.c9 (hL 9 (by decide) hh)).1, (h.c9 (hL 9 (by decide) hh)).2⟩
  · exact fun hh => ⟨hL2 5 (h.c10 (hL 10 (by decide) hh)).1, (h.c10 (hL 10 (by decide) hh)).2⟩
  · exact fun hh => absurd (h.c11 (hL 11 (by decide) hh)).1 hn
  · exact fun ha hb => h.n12 (hL 2 (by decide) ha) (hL 5 (by decide) hb)
  · exact fun ha _ => f2 (hL 2 (by decide) ha)
  · exact fun ha _ => f5 (hL 5 (by decide) ha)
theorem MvJ.s9 (h : MvJ w0 v2 v3 rot d L x14 x15 x16 x23 x24 x25 x26 x27 x28 x29 x30 x31 g1 g2 g3 w) (hL : ∀ j, 9 ≠ j → L' j → L j) (hL2 : ∀ j, L j → L' j) (hn : ¬ L 9) {y : Value} (new : L 2 ∧ y = x25) : MvJ w0 v2 v3 rot d L' (y) x15 x16 x23 x24 x25 x26 x27 x28 x29 x30 x31 g1 g2 g3 w := by
  refine ⟨h.gr, ?_, ?_, ?_, ?_, ?_, ?_, ?_, ?_, ?_, ?_, ?_, ?_, ?_, ?_, ?_⟩
  · exact fun hh => h.c0 (hL 0 (by decide) hh)
  · exact fun hh => h.c1 (hL 1 (by decide) hh)
  · exact fun hh => h.c2 (hL 2 (by decide) hh)
  · exact fun hh => h.c3 (hL 3 (by decide) hh)
  · exact fun hh => h.c4 (hL 4 (by decide) hh)
  · exact fun hh => h.c5 (hL 5 (by decide) hh)
  · exact fun hh => h.c6 (hL 6 (by decide) hh)
  · exact fun hh => h.c7 (hL 7 (by decide) hh)
  · exact fun hh => h.c8 (hL 8 (by decide) hh)
  · exact fun _ => ⟨hL2 2 new.1, new.2⟩
  · exact fun hh => ⟨hL2 5 (h.c10 (hL 10 (by decide) hh)).1, (h.c10 (hL 10 (by decide) hh)).2⟩
  · exact fun hh => ⟨hL2 8 (h.c11 (hL 11 (by decide) hh)).1, (h.c11 (hL 11 (by decide) hh)).2⟩
  · exact fun ha hb => h.n12 (hL 2 (by decide) ha) (hL 5 (by decide) hb)
  · exact fun ha hb => h.n13 (hL 2 (by decide) ha) (hL 8 (by decide) hb)
  · exact fun ha hb => h.n23 (hL 5 (by decide) ha) (hL 8 (by decide) hb)
theorem MvJ.s10 (h : MvJ w0 v2 v3 rot d L x14 x15 x16 x23 x24 x25 x26 x27 x28 x29 x30 x31 g1 g2 g3 w) (hL : ∀ j, 10 ≠ j → L' j → L j) (hL2 : ∀ j, L j → L' j) (hn : ¬ L 10) {y : Value} (new : L 5 ∧ y = x28) : MvJ w0 v2 v3 rot d L' x14 (y) x16 x23 x24 x25 x26 x27 x28 x29 x30 x31 g1 g2 g3 w := by
  refine ⟨h.gr, ?_, ?_, ?_, ?_, ?_, ?_, ?_, ?_, ?_, ?_, ?_, ?_, ?_, ?_, ?_⟩
  · exact fun hh => h.c0 (hL 0 (by decide) hh)
  · exact fun hh => h.c1 (hL 1 (by decide) hh)
  · exact fun hh => h.c2 (hL 2 (by decide) hh)
  · exact fun hh => h.c3 (hL 3 (by decide) hh)
  · exact fun hh => h.c4 (hL 4 (by decide) hh)
  · exact fun hh => h.c5 (hL 5 (by decide) hh)
  · exact fun hh => h.c6 (hL 6 (by decide) hh)
  · exact fun hh => h.c7 (hL 7 (by decide) hh)
  · exact fun hh => h.c8 (hL 8 (by decide) hh)
  · exact fun hh => ⟨hL2 2 (h.c9 (hL 9 (by decide) hh)).1, (h.c9 (hL 9 (by decide) hh)).2⟩
  · exact fun _ => ⟨hL2 5 new.1, new.2⟩
  · exact fun hh => ⟨hL2 8 (h.c11 (hL 11 (by decide) hh)).1, (h.c11 (hL 11 (by decide) hh)).2⟩
  · exact fun ha hb => h.n12 (hL 2 (by decide) ha) (hL 5 (by decide) hb)
  · exact fun ha hb => h.n13 (hL 2 (by decide) ha) (hL 8 (by decide) hb)
  · exact fun ha hb => h.n23 (hL 5 (by decide) ha) (hL 8 (by decide) hb)
theorem MvJ.s11 (h : MvJ w0 v2 v3 rot d L x14 x15 x16 x23 x24 x25 x26 x27 x28 x29 x30 x31 g1 g2 g3 w) (hL : ∀ j, 11 ≠ j → L' j → L j) (hL2 : ∀ j, L j → L' j) (hn : ¬ L 11) {y : Value} (new : L 8 ∧ y = x31) : MvJ w0 v2 v3 rot d L' x14 x15 (y) x23 x24 x25 x26 x27 x28 x29 x30 x31 g1 g2 g3 w := by
  refine ⟨h.gr, ?_, ?_, ?_, ?_, ?_, ?_, ?_, ?_, ?_, ?_, ?_, ?_, ?_, ?_, ?_⟩
  · exact fun hh => h.c0 (hL 0 (by decide) hh)
  · exact fun hh => h.c1 (hL 1 (by decide) hh)
  · exact fun hh => h.c2 (hL 2 (by decide) hh)
  · exact fun hh => h.c3 (hL 3 (by decide) hh)
  · exact fun hh => h.c4 (hL 4 (by decide) hh)
  · exact fun hh => h.c5 (hL 5 (by decide) hh)
  · exact fun hh => h.c6 (hL 6 (by decide) hh)
  · exact fun hh => h.c7 (hL 7 (by decide) hh)
  · exact fun hh => h.c8 (hL 8 (by decide) hh)
  · exact fun hh => ⟨hL2 2 (h.c9 (hL 9 (by decide) hh)).1, (h.c9 (hL 9 (by decide) hh)).2⟩
  · exact fun hh => ⟨hL2 5 (h.c10 (hL 10 (by decide) hh)).1, (h.c10 (hL 10 (by decide) hh)).2⟩
  · exact fun _ => ⟨hL2 8 new.1, new.2⟩
  · exact fun ha hb => h.n12 (hL 2 (by decide) ha) (hL 5 (by decide) hb)
  · exact fun ha hb => h.n13 (hL 2 (by decide) ha) (hL 8 (by decide) hb)
  · exact fun ha hb => h.n23 (hL 5 (by decide) ha) (hL 8 (by decide) hb)
end

def mvFr (r0 r1 r2 r3 r4 r5 r13 x14 x15 x16 x23 x24 x25 x26 x27 x28 x29 x30 x31 : Value) : Act := { tmps := #[r0, r1, r2, r3, r4, r5, undef, undef, undef, undef, .slice none 0 0, .slice none 0 0, .bool false, r13, x14, x15, x16, undef, undef, undef, undef, r0, r13, x23, x24, x25, x26, x27, x28, x29, x30, x31, undef, undef, undef, undef, undef, undef, undef, undef, undef, undef, undef, undef, undef, undef, undef, undef, undef, undef, undef, undef, undef, undef, undef, undef, undef, undef, undef, undef, undef, undef, undef, undef, undef, undef, undef, undef, undef, undef, undef, undef, undef, undef, undef, undef, undef, undef, undef, undef, undef, undef, undef, undef, undef, undef, undef, undef, undef, undef, undef, undef, undef, undef, undef, undef, undef, undef, undef, undef, undef, undef, undef, undef, undef, undef, undef, undef, undef, undef, undef], defers := [] }

end Go.Proofs.Ytopldbnlehjlpaa

set_option linter.unusedVariables false
set_option linter.unusedSimpArgs false
set_option linter.unnecessarySimpa false
namespace Go.Proofs.Ytopldbnlehjlpaa
open Go.RowKit

theorem rIn_any (k : Int) (w : World) : Calls Try.prog 111 #[.int .i64 k] w fun e w' => e = .returned (.bool (inChips k)) ∧ w = w' := by
  by_cases h1 : -1048576 ≤ k
  · by_cases h2 : k ≤ 1048576
    · have HR : Hid (inChips k = true) := by show _ = _; simp [inChips, h1, h2]
      have q1 : decide ((-1048576 : Int) ≤ k) = true := by simp [h1]
      have q2 : decide (k ≤ (1048576 : Int)) = true := by simp [h2]
      clear h1 h2
      go_enter Try.func111, Try.ntmps111
      go_wp2_with fail
      go_ret
      exact ⟨ret_bool HR.out.symm, rfl⟩
    · have HR : Hid (inChips k = false) := by show _ = _; simp [inChips]; omega
      have q1 : decide ((-1048576 : Int) ≤ k) = true := by simp [h1]
      have q2 : decide (k ≤ (1048576 : Int)) = false := by simp; omega
      clear h1 h2
      go_enter Try.func111, Try.ntmps111
      go_wp2_with fail
      go_ret
      exact ⟨ret_bool HR.out.symm, rfl⟩
  · have HR : Hid (inChips k = false) := by show _ = _; simp [inChips]; omega
    have q1 : decide ((-1048576 : Int) ≤ k) = false := by simp; omega
    clear h1
    go_enter Try.func111, Try.ntmps111
    go_wp2_with fail
    go_ret
    exact ⟨ret_bool HR.out.symm, rfl⟩

set_option maxRecDepth 100000 in
set_option maxHeartbeats 2000000 in
theorem rdcheck_any (n : Int) (d : List Int) (od : Option Addr) (cd : Nat) (F : Foot) (w : World) (hd : SliceR intR 1 F w od d) (hc : d.length ≤ cd) (hc2 : d.length ≤ 9223372036854775807) :
    Calls Try.prog 97 #[.slice od d.length cd, .int .i64 n] w fun e w' => e = .returned (.int .i64 (dErr n d)) ∧ w = w' := by
  by_cases h1 : 1 ≤ n
  · have q1 : decide (n < (1 : Int)) = false := by simp; omega
    by_cases h3 : n ≤ 12
    · have q2 : decide ((12 : Int) < n) = false := by simp; omega
      by_cases h2 : (d.length : Int) = n
      · have HR : Hid (dErr n d = dScan d) := by show _ = _; unfold dErr; rw [if_pos ⟨h1, h3⟩, if_pos h2]
        have q3 : ((d.length : Int) != n) = false := by simp [h2]
        have hn := hide h2
        clear h1 h3 h2
        go_enter Try.func97, Try.ntmps97
        go_wp2_with fail
        go_loopw [5] (fun iv wr => ∃ k : Nat, k ≤ d.length ∧ iv = .int .i64 k ∧ Hid (dErr n d = dScan (d.drop k)) ∧ wr = w) (fun iv _ => d.length - (intOf iv).toNat)
        case atStart => exact ⟨0, by omega, rfl, HR, rfl⟩
        case round =>
          obtain ⟨k, hk, rfl, HS, rfl⟩ := hrel
          by_cases hlt : k < d.length
          · have q4 : decide ((k : Int) < n) = true := by have := hn.out; simp; omega
            obtain ⟨x, hdr, _, ix, b, off, hod, _, c0⟩ := hd.int_at hlt
            subst hod
            have HS2 : Hid (dErr n d = if inChips x = true then dScan (d.drop (k + 1)) else 2) := by show _ = _; rw [HS.out, hdr]; rfl
            clear hdr
            by_cases hx : inChips x = true
            · have HS3 : Hid (dErr n d = dScan (d.drop (k + 1))) := by show _ = _; rw [HS2.out, if_pos hx]
              have hI := rIn_any x wr
              rw [hx] at hI
              clear hx
              go_wp2_with fail
              refine hI.mono ?_
              rintro e w3 ⟨rfl, rfl⟩
              go_wp2_with fail
              go_roundw
              case rel => exact ⟨k + 1, by omega, by go_num, HS3, by first | rfl | trivial⟩
              case measure => simp [intOf]; omega
            · have HS3 : Hid (dErr n d = 2) := by show _ = _; rw [HS2.out, if_neg hx]
              have hx2 : inChips x = false := by simpa using hx
              have hI := rIn_any x wr
              rw [hx2] at hI
              clear hx hx2
              go_wp2_with fail
              refine hI.mono ?_
              rintro e w3 ⟨rfl, rfl⟩
              go_wp2_with fail
              go_ret
              exact ⟨ret_int HS3.out.symm, rfl⟩
          · have q4 : decide ((k : Int) < n) = false := by have := hn.out; simp; omega
            have hke : k = d.length := by omega
            have HS3 : Hid (dErr n d = 0) := by show _ = _; rw [HS.out, hke, List.drop_length]; rfl
            clear hke
            go_wp2_with fail
            go_ret
            exact ⟨ret_int HS3.out.symm, rfl⟩
      · have HR : Hid (dErr n d = 8) := by show _ = _; unfold dErr; rw [if_pos ⟨h1, h3⟩, if_neg h2]
        have q3 : ((d.length : Int) != n) = true := by simp [h2]
        clear h1 h3 h2
        go_enter Try.func97, Try.ntmps97
        go_wp2_with fail
        go_ret
        exact ⟨ret_int HR.out.symm, rfl⟩
    · have HR : Hid (dErr n d = 2) := if_neg (by omega)
      have q2 : decide ((12 : Int) < n) = true := by simp; omega
      clear h1 h3
      go_enter Try.func97, Try.ntmps97
      go_wp2_with fail
      go_ret
      exact ⟨ret_int HR.out.symm, rfl⟩
  · have HR : Hid (dErr n d = 2) := if_neg (by omega)
    have q1 : decide (n < (1 : Int)) = true := by simp; omega
    clear h1
    go_enter Try.func97, Try.ntmps97
    go_wp2_with fail
    go_ret
    exact ⟨ret_int HR.out.symm, rfl⟩

/-- The error of the chips alone. -/
def chE (n q : Int) (d : List Int) : Int := if dErr n d = 0 then gScan q 0 d else dErr n d

set_option maxRecDepth 100000 in
set_option maxHeartbeats 2000000 in
theorem rchips_any (n : Int) (oe : Option Addr) (k c : Nat) (oa : Option Addr) (l ca : Nat) (q : Int) (d : List Int) (od : Option Addr) (cd : Nat) (F : Foot) (w : World) (hd : SliceR intR 1 F w od d) (hc : d.length ≤ cd) (hc2 : d.length ≤ 9223372036854775807) :
    Calls Try.prog 78 #[.agg #[.int .i64 n, .slice oe k c, .slice oa l ca], .int .i64 q, .slice od d.length cd] w (ErrPost w (chE n q d)) := by
  have hb0 := bnew (Below.refl w.heap.size w) (.cells #[.int .i64 n, .slice oe k c, .slice oa l ca] 27)
  have HK := hide (rdcheck_any n d od cd F _ (hd.below intR_ok hb0) hc hc2)
  have HD := hide (hd.below intR_ok hb0)
  have HB := hide hb0
  clear hb0 hd
  go_enter Try.func78, Try.ntmps78
  go_wp2_with fail
  refine HK.out.mono ?_
  rintro e w2 ⟨rfl, rfl⟩
  by_cases hE : dErr n d = 0
  · have HG : Hid (chE n q d = gScan q 0 d) := if_pos hE
    rw [hE]
    clear hE
    go_wp2_with fail
    obtain ⟨W1, hW1⟩ : ∃ W1, w.alloc (.cells #[.int .i64 n, .slice oe k c, .slice oa l ca] 27) = W1 := ⟨_, rfl⟩
    rw [hW1] at HD HB ⊢
    clear hW1 HK
    go_loopw [8] (fun iv wr => ∃ k : Nat, k ≤ d.length ∧ iv = .int .i64 k ∧ Hid (chE n q d = gScan q k (d.drop k)) ∧ wr = W1) (fun iv _ => d.length - (intOf iv).toNat)
    case atStart => exact ⟨0, by omega, rfl, HG, rfl⟩
    case round =>
      obtain ⟨k, hk, rfl, HS, rfl⟩ := hrel
      by_cases hlt : k < d.length
      · obtain ⟨x, hdr, _, ix, b, off, hod, _, c0⟩ := HD.out.int_at hlt
        subst hod
        have HS2 : Hid (chE n q d = if (k : Int) ≠ q ∧ x < 0 then 2 else gScan q (k + 1) (d.drop (k + 1))) := by show _ = _; rw [HS.out, hdr]; rfl
        clear hdr
        by_cases hkq : (k : Int) = q
        · have q1 : ((k : Int) != q) = false := by simp [hkq]
          have HS3 : Hid (chE n q d = gScan q (k + 1) (d.drop (k + 1))) := by show _ = _; rw [HS2.out, if_neg (by intro h; exact h.1 hkq)]
          clear hkq
          go_wp2_with fail
          go_roundw
          case rel => exact ⟨k + 1, by omega, by go_num, HS3, by first | rfl | trivial⟩
          case measure => simp [intOf]; omega
        · have q1 : ((k : Int) != q) = true := by simp [hkq]
          by_cases hx : x < 0
          · have q2 : decide (x < 0) = true := by simp [hx]
            have HS3 : Hid (chE n q d = 2) := by show _ = _; rw [HS2.out, if_pos ⟨hkq, hx⟩]
            clear hkq hx
            go_wp2_with fail
            go_ret
            exact ⟨ret_int HS3.out.symm, HB.out⟩
          · have q2 : decide (x < 0) = false := by simp; omega
            have HS3 : Hid (chE n q d = gScan q (k + 1) (d.drop (k + 1))) := by show _ = _; rw [HS2.out, if_neg (by intro h; exact hx h.2)]
            clear hkq hx
            go_wp2_with fail
            go_roundw
            case rel => exact ⟨k + 1, by omega, by go_num, HS3, by first | rfl | trivial⟩
            case measure => simp [intOf]; omega
      · have hke : k = d.length := by omega
        have HS3 : Hid (chE n q d = 0) := by show _ = _; rw [HS.out, hke, List.drop_length]; rfl
        clear hke
        go_wp2_with fail
        go_ret
        exact ⟨ret_int HS3.out.symm, HB.out⟩
  · have HG : Hid (chE n q d = dErr n d) := if_neg hE
    have hq : (dErr n d != 0) = true := by simpa using hE
    clear hE
    go_wp2_with fail
    go_ret
    exact ⟨ret_int HG.out.symm, HB.out⟩

set_option maxRecDepth 100000 in
set_option maxHeartbeats 2000000 in
theorem rgiven_any (n : Int) (es : List Edg) (oe : Option Addr) (c : Nat) (ar : List (List Int)) (oa : Option Addr) (ca : Nat) (F G : Foot) (w : World) (hs : SliceR edgR 3 F w oe es) (hc : es.length ≤ c) (hc2 : es.length ≤ 1000)
    (ha : SliceR (slcR intR 1) 1 G w oa ar) (hac : ar.length ≤ ca) (hac2 : ar.length ≤ 9223372036854775807) (f : List Nat) (hU : Hid (gErr n es = 0 → Uf f (eL es)))
    (q : Int) (rot : List Int) (ot : Option Addr) (ct : Nat) (H : Foot) (hr : SliceR intR 1 H w ot rot) (hrc : rot.length ≤ ct) (hrl : rot.length ≤ 9223372036854775807)
    (d : List Int) (od : Option Addr) (cd : Nat) (D : Foot) (hd : SliceR intR 1 D w od d) (hdc : d.length ≤ cd) (hdl : d.length ≤ 9223372036854775807) :
    Calls Try.prog 55 #[.agg #[.int .i64 n, .slice oe es.length c, .slice oa ar.length ca], .int .i64 q, .slice ot rot.length ct, .slice od d.length cd] w (ErrPost w (gvE n es f ar q rot d)) := by
  go_enter Try.func55, Try.ntmps55
  go_wp2_with fail
  have hb0 := box_refl w (.cells #[.int .i64 n, .slice oe es.length c, .slice oa ar.length ca] 27)
  refine (r45check_any n es oe c ar oa ca F G _ (hs.below edgR_ok (below_box hb0)) hc hc2 (ha.below (slcR_ok intR_ok (by decide)) (below_box hb0)) hac hac2 f hU q rot ot ct H (hr.below intR_ok (below_box hb0)) hrc hrl).mono ?_
  rintro e w2 ⟨rfl, hb2⟩
  have hx2 := hb2.mono (B' := w.heap.size + 1) (by simp)
  have d0 := box_cell hx2 0
  have d1 := box_cell hx2 1
  have d2 := box_cell hx2 2
  simp at d0 d1 d2
  have HX := hide (below_box hx2)
  clear hb2 hb0 hx2
  by_cases hR : rtE n es f ar q rot = 0
  · have HG : Hid (gvE n es f ar q rot d = chE n q d) := if_pos hR
    rw [hR]
    clear hR
    go_wp2_with fail
    refine (rchips_any n oe es.length c oa ar.length ca q d od cd D w2 (hd.below intR_ok HX.out) hdc hdl).mono ?_
    rintro e w3 ⟨rfl, hb3⟩
    have HB := hide (HX.out.trans (hb3.mono HX.out.size))
    clear hb3
    go_wp2_with fail
    go_ret
    exact ⟨ret_int HG.out.symm, HB.out⟩
  · have HG : Hid (gvE n es f ar q rot d = rtE n es f ar q rot) := if_neg hR
    have hq : (rtE n es f ar q rot != 0) = true := by simpa using hR
    clear hR
    go_wp2_with fail
    go_ret
    exact ⟨ret_int HG.out.symm, HX.out⟩

end Go.Proofs.Ytopldbnlehjlpaa

set_option linter.unusedVariables false
set_option linter.unusedSimpArgs false
set_option linter.unnecessarySimpa false
namespace Go.Proofs.Ytopldbnlehjlpaa
open Go.RowKit

/-- Which vertex is taken, by picks. -/
def pkL (pk : List Int) (i : Nat) (l : List Int) : Int := l.getD ((pk.getD (i % pk.length) 0).toNat % l.length) 0
theorem pkL_ok (pk : List Int) : Picks (pkL pk) := fun i l h => by
  have h0 : 0 < l.length := List.length_pos_iff.2 h
  have h1 : (pk.getD (i % pk.length) 0).toNat % l.length < l.length := Nat.mod_lt _ h0
  unfold pkL
  rw [getD_of (List.getElem?_eq_getElem h1)]
  exact List.getElem_mem h1
def MovedPost (B : Nat) (w : World) (x : List Int × List Int × Int) (e : Ending) (w' : World) : Prop :=
  ∃ rv cv, e = .returned (.tuple #[rv, cv, .bool (x.2.2 == 0)]) ∧ OwnS intR 1 B 3 Non w' rv x.1 ∧ OwnS intR 1 B 3 Non w' cv x.2.1 ∧ Below B w w'

set_option maxRecDepth 100000 in
set_option maxHeartbeats 4000000 in
theorem moved_any (n : Int) (es : List Edg) (oe : Option Addr) (c : Nat) (ar : List (List Int)) (oa : Option Addr) (ca : Nat) (F G : Foot) (w : World) (hs : SliceR edgR 3 F w oe es) (hc : es.length ≤ c) (hc2 : es.length ≤ 1000)
    (ha : SliceR (slcR intR 1) 1 G w oa ar) (hac : ar.length ≤ ca) (hac2 : ar.length ≤ 9223372036854775807) (hm : Hid (∀ x ∈ es, x.m ≤ 50)) (q : Nat) (rot : List Int) (ot : Option Addr) (ct : Nat) (H : Foot) (hr : SliceR intR 1 H w ot rot) (hrc : rot.length ≤ ct) (hok : RtOk n es ar q rot)
    (d : List Int) (od : Option Addr) (cd : Nat) (D : Foot) (hd : SliceR intR 1 D w od d) (hdc : d.length ≤ cd) (hdl : d.length = ar.length) (hdb : ∀ x ∈ d, -1048576 ≤ x ∧ x ≤ 1048576) (pk : List Int) (op : Option Addr) (cp : Nat) (PF : Foot) (hp : SliceR intR 1 PF w op pk) (hpc : pk.length ≤ cp) (hp0 : 0 < pk.length) (hpm : pk.length ≤ 9223372036854775807) (hpn : ∀ x ∈ pk, 0 ≤ x) :
    Calls Try.prog 59 #[.agg #[.int .i64 n, .slice oe es.length c, .slice oa ar.length ca], .int .i64 q, .slice ot rot.length ct, .slice od d.length cd, .slice op pk.length cp] w (MovedPost w.heap.size w (movesOf ar (endsL es) q (pkL pk) rot d)) := by
  have HST := hide (start_ok hok hdl hdb)
  have HOK := hide hok
  have HDL := hide hdl
  have hb0 := bnew (Below.refl w.heap.size w) (.cells #[.int .i64 n, .slice oe es.length c, .slice oa ar.length ca] 27)
  have HT := hide (targets_any n es oe c ar oa ca F G _ (hs.below edgR_ok hb0) hc hc2 (ha.below (slcR_ok intR_ok (by decide)) hb0) hac hac2 hm q rot hok)
  clear hok hb0 hdl
  go_enter Try.func59, Try.ntmps59
  go_wp2_with fail
  refine HT.out.mono ?_
  rintro e w4 ⟨tg, tc, rfl, htc, hT, hb4⟩
  have HB4 := hide (below_box (hb4.mono (B' := w.heap.size + 1) (by simp)))
  have HTGT := hide (hT.loc (slcR_ok intR_ok (by decide)) (by decide))
  have HR4 := hide (hr.below intR_ok HB4.out)
  have HD4 := hide (hd.below intR_ok HB4.out)
  have HP4 := hide ((hp.below intR_ok HB4.out).loc intR_ok (by decide))
  have HRD := hide (HR4.out.below intR_ok (below_drewN (Below.refl _ _) 1))
  have HDD := hide (HD4.out.below intR_ok (below_drewN (Below.refl _ _) 1))
  clear hb4 hT
  go_wp2_with fail
  refine wp_region_any (by kernel_rfl) ?_
  change wpAny _ _ _ _ _ _ _ (World.drew _)
  have hn0 : 0 < ar.length := by have := HOK.out.hq; omega
  have hn12 := HOK.out.n12
  have HRL : Hid (rot.length = ar.length) := HOK.out.nrot
  refine wpAny_inv (fun listed a W => listed.size = 12 ∧ ∃ x14 x15 x16 x23 x24 x25 x26 x27 x28 x29 x30 x31 g1 g2 g3, a = mvFr (.agg #[.int .i64 n, .slice oe es.length c, .slice oa ar.length ca]) (.int .i64 q) (.slice ot rot.length ct) (.slice od d.length cd) (.slice op pk.length cp) (.pointer (some ⟨w.heap.size, 0, none⟩)) (.slice tg (tgL ar (endsL es)).length tc) x14 x15 x16 x23 x24 x25 x26 x27 x28 x29 x30 x31 ∧
    MvJ w4.drew (.slice ot rot.length ct) (.slice od d.length cd) rot d (fun j => listed.getD j false = true) x14 x15 x16 x23 x24 x25 x26 x27 x28 x29 x30 x31 g1 g2 g3 W) ?_ ?_ _ _ _ _ ?_ ?_
  · rintro listed a W i ⟨hsz, x14, x15, x16, x23, x24, x25, x26, x27, x28, x29, x30, x31, g1, g2, g3, rfl, hJ⟩ hi hun hpre
    have hi12 : i < 12 := hi
    have hL : ∀ j, i ≠ j → (listed.setIfInBounds i true).getD j false = true → listed.getD j false = true := fun j hj hh => listed_set hj hh
    have hL2 : ∀ j, listed.getD j false = true → (listed.setIfInBounds i true).getD j false = true := fun j hh => by
      by_cases hij : i = j
      · subst hij
        simp [Array.getD, hsz, hi12]
      · rw [Array.getD_eq_getD_getElem?] at hh ⊢
        rw [Array.getElem?_setIfInBounds_ne hij]
        exact hh
    have hn : ¬ listed.getD i false = true := by
      rw [Array.getD_eq_getD_getElem?, Array.getElem?_eq_getElem (by omega : i < listed.size)] at hun ⊢
      simpa using hun
    have hsz' : (listed.setIfInBounds i true).size = 12 := by simp [hsz]
    rcases (by omega : i = 0 ∨ i = 1 ∨ i = 2 ∨ i = 3 ∨ i = 4 ∨ i = 5 ∨ i = 6 ∨ i = 7 ∨ i = 8 ∨ i = 9 ∨ i = 10 ∨ i = 11) with rfl | rfl | rfl | rfl | rfl | rfl | rfl | rfl | rfl | rfl | rfl | rfl
    · refine wpOp_step rfl fun K hK => ?_
      unfold mvFr
      go_simp
      exact hK _ _ ⟨hsz', _, _, _, _, _, _, _, _, _, _, _, _, _, _, _, rfl, (hJ.grow (World.grownBy_alloc W _ none)).s0 hL hL2 hn ⟨_, rfl⟩⟩
    · refine wpOp_step rfl fun K hK => ?_
      unfold mvFr
      go_simp
      exact hK _ _ ⟨hsz', _, _, _, _, _, _, _, _, _, _, _, _, _, _, _, rfl, hJ.s1 hL hL2 hn rfl⟩
    · obtain ⟨b, rfl⟩ := hJ.c0 (hpre 0 (of_decide_eq_true (by kernel_rfl)))
      obtain rfl := hJ.c1 (hpre 1 (of_decide_eq_true (by kernel_rfl)))
      refine wpOp_step rfl fun K hK => ?_
      refine step_append_fresh (R := intR) (f := Value.int .i64) (by rfl) (.tmp 23) (.tmp 24) 28 (by rfl) 3 (.int .i64 0) 8 Try.underlying28 iInfo (by rfl) (fun _ _ _ _ h => h.1) b (by rfl) H _ _ rot (by rfl) (HRD.out.below intR_ok ((Below.refl _ _).grown hJ.gr (Nat.le_refl _) (fun k hk => by cases hk))) (by have := HRL.out; omega) (by have := HRL.out; omega) (by have := HRL.out; unfold maxLen; omega) ?_
      intro W2 g cap rest hg hrow hcap hgr
      replace hcap := hide hcap
      unfold mvFr
      go_simp
      exact hK _ _ ⟨hsz', _, _, _, _, _, _, _, _, _, _, _, _, _, _, _, rfl, (hJ.grow hgr).s2 hL hL2 hn (fun h => by have := (hJ.c5 h).lt; omega) (fun h => by have := (hJ.c8 h).lt; omega) ⟨cap, rest, rfl, hrow, Nat.le_trans hJ.gr.size hg, hcap.out⟩⟩
    · refine wpOp_step rfl fun K hK => ?_
      unfold mvFr
      go_simp
      exact hK _ _ ⟨hsz', _, _, _, _, _, _, _, _, _, _, _, _, _, _, _, rfl, (hJ.grow (World.grownBy_alloc W _ none)).s3 hL hL2 hn ⟨_, rfl⟩⟩
    · refine wpOp_step rfl fun K hK => ?_
      unfold mvFr
      go_simp
      exact hK _ _ ⟨hsz', _, _, _, _, _, _, _, _, _, _, _, _, _, _, _, rfl, hJ.s4 hL hL2 hn rfl⟩
    · obtain ⟨b, rfl⟩ := hJ.c3 (hpre 3 (of_decide_eq_true (by kernel_rfl)))
      obtain rfl := hJ.c4 (hpre 4 (of_decide_eq_true (by kernel_rfl)))
      refine wpOp_step rfl fun K hK => ?_
      refine step_append_fresh (R := intR) (f := Value.int .i64) (by rfl) (.tmp 26) (.tmp 27) 52 (by rfl) 3 (.int .i64 0) 8 Try.underlying52 iInfo (by rfl) (fun _ _ _ _ h => h.1) b (by rfl) D _ _ d (by rfl) (HDD.out.below intR_ok ((Below.refl _ _).grown hJ.gr (Nat.le_refl _) (fun k hk => by cases hk))) (by have := HDL.out; omega) (by have := HDL.out; omega) (by have := HDL.out; unfold maxLen; omega) ?_
      intro W2 g cap rest hg hrow hcap hgr
      replace hcap := hide hcap
      unfold mvFr
      go_simp
      exact hK _ _ ⟨hsz', _, _, _, _, _, _, _, _, _, _, _, _, _, _, _, rfl, (hJ.grow hgr).s5 hL hL2 hn (fun h => by have := (hJ.c2 h).lt; omega) (fun h => by have := (hJ.c8 h).lt; omega) ⟨cap, rest, rfl, hrow, Nat.le_trans hJ.gr.size hg, hcap.out⟩⟩
    · refine wpOp_step rfl fun K hK => ?_
      unfold mvFr
      go_simp
      exact hK _ _ ⟨hsz', _, _, _, _, _, _, _, _, _, _, _, _, _, _, _, rfl, hJ.s6 hL hL2 hn rfl⟩
    · obtain rfl := hJ.c6 (hpre 6 (of_decide_eq_true (by kernel_rfl)))
      refine wpOp_step rfl fun K hK => ?_
      unfold mvFr
      go_simp
      exact hK _ _ ⟨hsz', _, _, _, _, _, _, _, _, _, _, _, _, _, _, _, rfl, hJ.s7 hL hL2 hn rfl⟩
    · obtain rfl := hJ.c7 (hpre 7 (of_decide_eq_true (by kernel_rfl)))
      refine wpOp_step rfl fun K hK => ?_
      refine step_make_row (f := Value.int .i64) (by rfl) (.tmp 30) (.tmp 30) 56 (by rfl) 3 0 8 Try.underlying56 iInfo (by rfl) d.length (by rfl) (by rfl) (by have := HDL.out; omega) (by have := HDL.out; unfold maxLen; omega) ?_
      intro W2 hrow hgr
      unfold mvFr
      go_simp
      exact hK _ _ ⟨hsz', _, _, _, _, _, _, _, _, _, _, _, _, _, _, _, rfl, (hJ.grow hgr).s8 hL hL2 hn (fun h => by have := (hJ.c2 h).lt; omega) (fun h => by have := (hJ.c5 h).lt; omega) ⟨d.length, [], by rw [List.length_replicate], hrow, hJ.gr.size, by simp, by have := HDL.out; unfold maxLen; omega⟩⟩
    · refine wpOp_step rfl fun K hK => ?_
      unfold mvFr
      go_simp
      exact hK _ _ ⟨hsz', _, _, _, _, _, _, _, _, _, _, _, _, _, _, _, rfl, hJ.s9 hL hL2 hn ⟨(hpre 2 (of_decide_eq_true (by kernel_rfl))), rfl⟩⟩
    · refine wpOp_step rfl fun K hK => ?_
      unfold mvFr
      go_simp
      exact hK _ _ ⟨hsz', _, _, _, _, _, _, _, _, _, _, _, _, _, _, _, rfl, hJ.s10 hL hL2 hn ⟨(hpre 5 (of_decide_eq_true (by kernel_rfl))), rfl⟩⟩
    · refine wpOp_step rfl fun K hK => ?_
      unfold mvFr
      go_simp
      exact hK _ _ ⟨hsz', _, _, _, _, _, _, _, _, _, _, _, _, _, _, _, rfl, hJ.s11 hL hL2 hn ⟨(hpre 8 (of_decide_eq_true (by kernel_rfl))), rfl⟩⟩
  · rintro listed a W ⟨hsz, x14, x15, x16, x23, x24, x25, x26, x27, x28, x29, x30, x31, g1, g2, g3, rfl, hJ⟩ h0
    have hall := ready_nil_all (by kernel_rfl) hsz h0
    obtain ⟨l9, rfl⟩ := hJ.c9 (hall 9 (of_decide_eq_true (by kernel_rfl)))
    obtain ⟨l10, rfl⟩ := hJ.c10 (hall 10 (of_decide_eq_true (by kernel_rfl)))
    obtain ⟨l11, rfl⟩ := hJ.c11 (hall 11 (of_decide_eq_true (by kernel_rfl)))
    have hall2 := hall 2 (of_decide_eq_true (by kernel_rfl))
    have hall5 := hall 5 (of_decide_eq_true (by kernel_rfl))
    have hall8 := hall 8 (of_decide_eq_true (by kernel_rfl))
    have n12 := hJ.n12 hall2 hall5
    have n13 := hJ.n13 hall2 hall8
    have n23 := hJ.n23 hall5 hall8
    obtain ⟨k1, r1, rfl, hr1, hb1, hk1, hk1m⟩ := hJ.c2 hall2
    obtain ⟨k2, r2, rfl, hr2, hb2, hk2, hk2m⟩ := hJ.c5 hall5
    obtain ⟨k3, r3, rfl, hr3, hb3, hk3, hk3m⟩ := hJ.c8 hall8
    have hlow0 : Below w4.heap.size w4 W := (below_drewN (Below.refl _ _) 1).trans ((Below.refl _ _).grown hJ.gr (Nat.le_refl _) (fun k hk => by cases hk))
    change w4.heap.size ≤ g1 at hb1
    change w4.heap.size ≤ g2 at hb2
    change w4.heap.size ≤ g3 at hb3
    clear l9 l10 l11 hall hall2 hall5 hall8 hJ h0 hsz
    clear listed
    have HK := hide (And.intro (And.intro hk1 hk1m) (And.intro hk3 hk3m))
    obtain ⟨S, hS⟩ : ∃ S, S = mvN ar (endsL es) q (pkL pk) (start rot d d.length) := ⟨_, rfl⟩
    have HS := hide hS
    have hl0 : (S 0).1 = rot ∧ (S 0).2.1 = d ∧ (S 0).2.2 = List.replicate d.length 0 := by rw [HS.out]; exact ⟨rfl, rfl, rfl⟩
    have hS1 : ∀ i, S (i + 1) = mvS ar (endsL es) (S i) (pkL pk i (liveL q (S i).2.1)).toNat := fun i => by rw [HS.out]; rfl
    have HS1 := hide hS1
    have hmv : ∀ i, (∀ j, j < i → (liveL q (S j).2.1).length ≠ 0) → MvOk n es ar q i (S i) := by
      rw [HS.out]
      exact mv_ok (pkL_ok pk) HST.out
    have HMV := hide hmv
    have hrl0 : (List.replicate d.length (0 : Int)).length = d.length := by simp
    rw [hrl0]
    have g1l := hr1.lt
    have g2l := hr2.lt
    have g3l := hr3.lt
    obtain ⟨P, hP⟩ : ∃ P : Nat → World → Prop, P = fun i wr => Row1 (Value.int .i64) wr g1 3 (S i).1 r1 ∧ Row1 (Value.int .i64) wr g2 3 (S i).2.1 r2 ∧ Row1 (Value.int .i64) wr g3 3 (S i).2.2 r3 ∧ Below w4.heap.size w4 wr ∧ W.heap.size ≤ wr.heap.size ∧ (∀ j, j < i → (liveL q (S j).2.1).length ≠ 0) := ⟨_, rfl⟩
    have HPP := hide hP
    have h0 : P 0 W := by
      rw [hP]
      exact ⟨by rw [hl0.1]; exact hr1, by rw [hl0.2.1]; exact hr2, by rw [hl0.2.2]; exact hr3, hlow0, Nat.le_refl _, fun j hj => absurd hj (by omega)⟩
    have hd12 : d.length ≤ 12 := by have := HDL.out; omega
    clear hP hl0 hS1 hmv hr1 hr2 hr3 hlow0 hS hrl0 hk1 hk2 hk3 hk1m hk2m hk3m
    unfold mvFr
    go_wp2_with fail
    go_loopw [17] (fun nv wr => ∃ i : Nat, i ≤ 1048576 ∧ nv = .int .i64 i ∧ P i wr) (fun nv _ => 1048577 - (intOf nv).toNat)
    case atStart => exact ⟨0, by omega, rfl, h0⟩
    case round =>
      clear h0
      obtain ⟨i, hi, rfl, hPi⟩ := hrel
      rw [HPP.out] at hPi
      obtain ⟨hro, hdr, hcr, hlow, hsw, hno⟩ := hPi
      have hMV := HMV.out i hno
      have hll : (S i).2.1.length = d.length := by rw [hMV.ll, HDL.out]
      have htl : (S i).2.2.length = d.length := by rw [hMV.tl, HDL.out]
      have hol : (S i).1.length = rot.length := by rw [hMV.rot.nrot, HRL.out]
      have HNO := hide hno
      have HMVI := hide hMV
      have HLL := hide hll
      have HTN := hide htl
      have HOL := hide hol
      have HRO := hide hro
      have HDR := hide hdr
      have HCR := hide hcr
      have HLOW := hide hlow
      clear hno hMV hll htl hol hro hdr hcr hlow
      go_wp2_with fail
      obtain ⟨wo, hwo⟩ : ∃ wo : World, wo = wr := ⟨_, rfl⟩
      subst hwo
      go_loopw [19, 18] (fun kv lv wi => ∃ k : Nat, k ≤ d.length ∧ kv = .int .i64 k ∧ OwnN wo.heap.size 3 wi lv (liveP q (S i).2.1 k) ∧ Below wo.heap.size wo wi) (fun kv _ _ => d.length - (intOf kv).toNat)
      case atStart => exact ⟨0, by omega, rfl, OwnN.nil, Below.refl _ _⟩
      case round =>
        obtain ⟨k, hk, rfl, hown, hbi⟩ := hrel
        have hsi := hbi.size
        by_cases hlt : k < d.length
        · obtain ⟨x, hx⟩ : ∃ x, (S i).2.1[k]? = some x := ⟨_, List.getElem?_eq_getElem (by rw [HLL.out]; exact hlt)⟩
          have c0 := (HDR.out.below hbi).cell hx
          have hlp := liveP_len q (S i).2.1 k
          by_cases hkq : k = q
          · have q1 : ((k : Int) != (q : Int)) = false := by simp [hkq]
            have HL1 : Hid (liveP q (S i).2.1 (k + 1) = liveP q (S i).2.1 k) := liveP_no hx (by intro h; exact h.1 hkq)
            clear hkq hx
            go_wp2_with fail
            go_roundw
            case rel => exact ⟨k + 1, by omega, by go_num, by rw [HL1.out]; exact hown, hbi⟩
            case measure => simp [intOf]; omega
          · have q1 : ((k : Int) != (q : Int)) = true := by simp; omega
            by_cases hxp : 0 < x
            · have q2 : decide ((0 : Int) < x) = true := by simp [hxp]
              have HL1 : Hid (liveP q (S i).2.1 (k + 1) = liveP q (S i).2.1 k ++ [(k : Int)]) := liveP_yes hx hkq hxp
              have hone := one_cell (w := wr) (t := 3) (v := .int .i64 (k : Nat)) (j := 0) rfl
              have HBI := hide hbi
              clear hkq hx hxp hbi
              generalize liveP q (S i).2.1 k = T at hown HL1 hlp
              go_wp2_with (first
                | (at_builtin; refine wpList_append_n rfl (.tmp 50) (.tmp 52) 28 rfl wo.heap.size 3 _ Try.underlying28 intInfo8 rfl _ T rfl (hown.new _) ⟨wr.heap.size, 0, none⟩ 1 (k : Int) rfl hone (by constructor <;> omega) (by omega) (by simp; omega) ?_; intro v' w6 ho6 hb6 hg6 hv6)
                | fail)
              go_roundw
              case rel => exact ⟨k + 1, by omega, by go_num, by rw [HL1.out]; exact ho6, (HBI.out.alloc (by omega) _).trans hb6⟩
              case measure => simp [intOf]; omega
            · have q2 : decide ((0 : Int) < x) = false := by simp; omega
              have HL1 : Hid (liveP q (S i).2.1 (k + 1) = liveP q (S i).2.1 k) := liveP_no hx (by intro h; exact hxp h.2)
              clear hkq hx hxp
              go_wp2_with fail
              go_roundw
              case rel => exact ⟨k + 1, by omega, by go_num, by rw [HL1.out]; exact hown, hbi⟩
              case measure => simp [intOf]; omega
        · have hke : k = d.length := by omega
          have hlq : liveP q (S i).2.1 k = liveL q (S i).2.1 := by unfold liveL; rw [hke, HLL.out]
          rw [hlq] at hown
          obtain ⟨lo, lc, rfl, hlc, hls⟩ := hown.slice
          have hTL : (liveL q (S i).2.1).length ≤ 12 := by have h1 := liveP_len q (S i).2.1 (S i).2.1.length; have h2 := HLL.out; unfold liveL; omega
          obtain ⟨T, hT⟩ : ∃ T, T = liveL q (S i).2.1 := ⟨_, rfl⟩
          have HT := hide hT
          rw [← hT] at hown hlc hls hTL ⊢
          have HROW := hide (HRO.out.below hbi)
          have HDRW := hide (HDR.out.below hbi)
          have HCRW := hide (HCR.out.below hbi)
          have HLW := hide (HLOW.out.trans (hbi.mono (by have := HLOW.out.size; omega)))
          clear hke hlq hT hbi
          by_cases hT0 : T.length = 0
          · have q1 : ((T.length : Int) == 0) = true := by simp [hT0]
            have HR : Hid (movesOf ar (endsL es) q (pkL pk) rot d = ((S i).1, (S i).2.2, 0)) := by
              refine movesOf_hit (i := i) (s := S i) (by omega) (by rw [HS.out]) (by rw [← HT.out]; exact hT0) ?_
              rw [← HS.out]
              exact HNO.out
            have HT0 := hide hT0
            clear hT0
            go_wp2_with fail
            refine bodyPost_ret (results_tmp3 rfl _ _ _) rfl ⟨_, _, by rw [HR.out]; rfl, ?_, ?_, ?_⟩
            · rw [HR.out]
              have := HROW.out.ownInts (base := w.heap.size) (F := Non) HMVI.out.rot.i64 (cap := k1) (by have := HB4.out.size; omega) (by rw [HOL.out]; exact HK.out.1.1) HK.out.1.2
              rw [HOL.out] at this
              exact this
            · rw [HR.out]
              have := HCRW.out.ownInts (base := w.heap.size) (F := Non) (fun x hx => by have := HMVI.out.tb x hx; unfold I64; omega) (cap := k3) (by have := HB4.out.size; omega) (by rw [HTN.out]; have := HK.out.2.1; simpa using this) HK.out.2.2
              rw [HTN.out] at this
              exact this
            · exact HB4.out.trans (HLW.out.mono HB4.out.size)
          · have q1 : ((T.length : Int) == 0) = false := by simpa using hT0
            have HT0 := hide hT0
            have hTne : T ≠ [] := fun e => hT0 (by rw [e]; rfl)
            by_cases hi2 : i = 1048576
            · have q2 : ((i : Int) == 1048576) = true := by simp; omega
              have HR : Hid (movesOf ar (endsL es) q (pkL pk) rot d = ([], [], 12)) := by
                refine movesOf_none ?_
                rw [← HS.out]
                intro j hj
                by_cases hji : j = i
                · rw [hji, ← HT.out]; exact HT0.out
                · exact HNO.out j (by omega)
              replace hi2 := hide hi2
              clear hTne hT0
              go_wp2_with fail
              refine bodyPost_ret (results_tmp3 rfl _ _ _) rfl ⟨_, _, by rw [HR.out]; rfl, ?_, ?_, ?_⟩
              · rw [HR.out]; exact OwnS.nil _ _ _ _ _ _
              · rw [HR.out]; exact OwnS.nil _ _ _ _ _ _
              · exact HB4.out.trans (HLW.out.mono HB4.out.size)
            · have q2 : ((i : Int) == 1048576) = false := by simp; omega
              have hi3 : i < 1048576 := by omega
              clear hi2
              have hTp : 0 < T.length := by omega
              have hmem : pkL pk i T ∈ T := pkL_ok pk i T hTne
              rw [HT.out] at hmem
              obtain ⟨V, hV, hVl, hVq, hVp⟩ := live_mem hmem
              rw [← HT.out] at hV
              obtain ⟨A, hA⟩ : ∃ A, A = i % pk.length := ⟨_, rfl⟩
              have hAl : A < pk.length := by rw [hA]; exact Nat.mod_lt _ hp0
              obtain ⟨y, _, hy, iy, b2, off2, hop, _, pc0⟩ := (HP4.out.keep intR_ok (SameOn.of_lt HLW.out)).int_at hAl
              subst hop
              obtain ⟨Y, rfl⟩ := Int.eq_ofNat_of_zero_le (hpn y (List.mem_of_getElem? hy))
              obtain ⟨J, hJ⟩ : ∃ J, J = Y % T.length := ⟨_, rfl⟩
              have hJl : J < T.length := by rw [hJ]; exact Nat.mod_lt _ hTp
              have hTJ : T[J]? = some (V : Int) := by
                have : pkL pk i T = T[J] := by
                  unfold pkL
                  rw [← hA, getD_of hy]
                  simp only [Int.toNat_natCast]
                  rw [← hJ]
                  exact getD_of (List.getElem?_eq_getElem hJl)
                rw [← hV, this]
                exact List.getElem?_eq_getElem hJl
              have rem1 : ((i : Int)).tmod (pk.length : Int) = (A : Int) := by rw [hA, Int.tmod_eq_emod_of_nonneg (by omega)]; rfl
              have rem2 : ((Y : Int)).tmod (T.length : Int) = (J : Int) := by rw [hJ, Int.tmod_eq_emod_of_nonneg (by omega)]; rfl
              have ne1 : (pk.length : Int) ≠ 0 := by omega
              have ne2 : (T.length : Int) ≠ 0 := by omega
              obtain ⟨z, _, hz, iz, b3, off3, hlo, _, tc0⟩ := hls.int_at hJl
              rw [hTJ] at hz
              injection hz with hz
              subst hz
              subst hlo
              have hVd : V < d.length := by rw [← HLL.out]; exact hVl
              have HSN : Hid (S (i + 1) = mvS ar (endsL es) (S i) V) := by
                show _ = _
                rw [HS1.out i, ← HT.out, hV]
                rfl
              obtain ⟨xc, hxc⟩ : ∃ x, (S i).2.2[V]? = some x := ⟨_, List.getElem?_eq_getElem (by rw [HTN.out]; exact hVd)⟩
              obtain ⟨xd, hxd⟩ : ∃ x, (S i).2.1[V]? = some x := ⟨_, List.getElem?_eq_getElem hVl⟩
              have hcb := HMVI.out.tb xc (List.mem_of_getElem? hxc)
              have hdb2 := HMVI.out.lb xd (List.mem_of_getElem? hxd)
              have hVar : V < ar.length := by rw [← HMVI.out.ll]; exact hVl
              have hVr : V < rot.length := by rw [HRL.out]; exact hVar
              have hVs : V < (S i).1.length := by rw [HOL.out]; exact hVr
              obtain ⟨hM2, hTo⟩ := HMVI.out.step hVar hVq
              have HNO2 : Hid (∀ j, j < i + 1 → (liveL q (S j).2.1).length ≠ 0) := fun j hj => by
                by_cases hji : j = i
                · rw [hji, ← HT.out]; exact HT0.out
                · exact HNO.out j (by omega)
              obtain ⟨m, K, ht, hk2, hkm, hmm, hst2, hjm, hmv2⟩ := tg_step HMVI.out.rot hVar hVq
              obtain ⟨N, hN⟩ : ∃ N, N = (K + 1) % m.length := ⟨_, rfl⟩
              rw [← hN] at hst2 hjm hmv2
              have HN := hide hN
              have HR1 : Hid (stpR ar (S i).1 V = (S i).1.set V (N : Int)) := by
                show _ = _
                unfold stpR
                rw [hst2]
              obtain ⟨U, hU⟩ : ∃ U, U = stpV ar (endsL es) (S i).1 V := ⟨_, rfl⟩
              rw [← hU] at hmv2 hTo
              have HU := hide hU
              have rc0 := HROW.out.cell hk2
              have rf0 := HROW.out.free V
              have hT0' := HTGT.out.keep (slcR_ok intR_ok (by decide)) (SameOn.of_lt HLW.out)
              have hturn := turned_any _ tg tc (Lt w4.heap.size) wr hT0' V m ht K hkm hmm N HN.out
              obtain ⟨W5, hW5⟩ : ∃ W5, wr.setCell ⟨g1, V, none⟩ (.int .i64 (N : Int)) = W5 := ⟨_, rfl⟩
              have hro5 : Row1 (Value.int .i64) W5 g1 3 (stpR ar (S i).1 V) r1 := by rw [← hW5, HR1.out]; exact HROW.out.put hVs (N : Int)
              have hdr5 : Row1 (Value.int .i64) W5 g2 3 (S i).2.1 r2 := by rw [← hW5]; exact HDRW.out.other (by simp; omega) _
              have hcr5 : Row1 (Value.int .i64) W5 g3 3 (S i).2.2 r3 := by rw [← hW5]; exact HCRW.out.other (by simp; omega) _
              have hl5 : Below w4.heap.size w4 W5 := by rw [← hW5]; exact HLW.out.setCell (p := ⟨g1, V, none⟩) hb1 _
              have hs5 : W5.heap.size = wr.heap.size := by rw [← hW5]; exact sized_set _ _ _
              have e5 := hdr5.cell hxd
              have f5 := hdr5.free V
              obtain ⟨W6, hW6⟩ : ∃ W6, W5.setCell ⟨g2, V, none⟩ (.int .i64 (xd - 1)) = W6 := ⟨_, rfl⟩
              have hro6 : Row1 (Value.int .i64) W6 g1 3 (stpR ar (S i).1 V) r1 := by rw [← hW6]; exact hro5.other (by simp; omega) _
              have hdr6 : Row1 (Value.int .i64) W6 g2 3 (addL (S i).2.1 V (-1)) r2 := by
                rw [← hW6]
                have := hdr5.put (i := V) hVl (xd - 1)
                unfold addL
                rw [getD_of hxd]
                exact this
              have hcr6 : Row1 (Value.int .i64) W6 g3 3 (S i).2.2 r3 := by rw [← hW6]; exact hcr5.other (by simp; omega) _
              have hl6 : Below w4.heap.size w4 W6 := by rw [← hW6]; exact hl5.setCell (p := ⟨g2, V, none⟩) hb2 _
              have hs6 : W6.heap.size = wr.heap.size := by rw [← hW6, sized_set]; exact hs5
              have hUd : U < (addL (S i).2.1 V (-1)).length := by rw [addL_len, HMVI.out.ll]; exact hTo
              have hUdl : U < d.length := by rw [HDL.out]; exact hTo
              obtain ⟨xu, hxu⟩ : ∃ x, (addL (S i).2.1 V (-1))[U]? = some x := ⟨_, List.getElem?_eq_getElem hUd⟩
              have hub : -4000000 ≤ xu ∧ xu ≤ 4000000 := by
                rcases addL_mem (List.mem_of_getElem? hxu) hVl with h4 | ⟨y, h4, e⟩
                · have := HMVI.out.lb xu h4; omega
                · have := HMVI.out.lb y h4; omega
              have a6 := hro6.cell (i := V) (x := (N : Int)) (by rw [HR1.out]; exact List.getElem?_set_self hVs)
              have b6 := hdr6.cell hxu
              have c6 := hdr6.free U
              have hT6 := HTGT.out.keep (slcR_ok intR_ok (by decide)) (SameOn.of_lt hl6)
              have hVt : V < (tgL ar (endsL es)).length := by rw [tgL_len]; exact hVar
              obtain ⟨m', _, hm', tb, toff, ol, cl, htg, htB, t0, hml, _, hsm⟩ := hT6.slc_at hVt
              rw [ht] at hm'
              injection hm' with hm'
              subst hm'
              subst htg
              obtain ⟨z2, _, hz2, iz2, b4, off4, hol, hb4, t1⟩ := hsm.int_at hjm
              rw [hmv2] at hz2
              injection hz2 with hz2
              subst hz2
              subst hol
              obtain ⟨W7, hW7⟩ : ∃ W7, (W6.setCell ⟨g2, U, none⟩ (.int .i64 (xu + 1))).drew = W7 := ⟨_, rfl⟩
              have hro7 : Row1 (Value.int .i64) W7 g1 3 (stpR ar (S i).1 V) r1 := by rw [← hW7]; exact (hro6.other (by simp; omega) _).draw
              have hdr7 : Row1 (Value.int .i64) W7 g2 3 ((addL (S i).2.1 V (-1)).set U (xu + 1)) r2 := by rw [← hW7]; exact (hdr6.put hUd (xu + 1)).draw
              have hcr7 : Row1 (Value.int .i64) W7 g3 3 (S i).2.2 r3 := by rw [← hW7]; exact (hcr6.other (by simp; omega) _).draw
              have hl7 : Below w4.heap.size w4 W7 := by rw [← hW7]; exact (hl6.setCell (p := ⟨g2, U, none⟩) hb2 _).drew
              have hs7 : W7.heap.size = wr.heap.size := by rw [← hW7]; exact (sized_set _ _ _).trans hs6
              have a7 := hcr7.cell hxc
              have b7 := hcr7.free V
              have HR7 := hide (And.intro hro7 (And.intro hdr7 (And.intro hcr7 hl7)))
              have HHU := hide hxu
              have HXC := hide hxc
              have HAL := hide hA
              have HJL := hide hJ
              have HVV := hide hV
              have HM2 := hide hM2
              clear hA hJ hTJ hy hmem hV hT0 hro5 hdr5 hcr5 hl5 hro6 hdr6 hcr6 hl6 hro7 hdr7 hcr7 hl7 hT6 hT0' hsm hls hown hM2 hU hN hst2 hxc hxd hxu hk2 ht hmv2
              go_wp2_with (first
                | (go_at_call 44; refine hturn.mono ?_; rintro e w' ⟨rfl, rfl⟩)
                | fail)
              go_still_tail 15, (by kernel_rfl)
              change wpList _ _ _ _ _ W6.drew
              go_wp2_with fail
              have hci : ((i + 1 : Nat) : Int) = (i : Int) + 1 := by omega
              refine ⟨⟨i + 1, by omega, by rw [hci], ?_⟩, by simp [intOf]; omega⟩
              rw [HPP.out]
              have e1 : (S (i + 1)).1 = stpR ar (S i).1 V := by rw [HSN.out]; rfl
              have e2 : (S (i + 1)).2.1 = (addL (S i).2.1 V (-1)).set U (xu + 1) := by
                rw [HSN.out]
                show addL (addL (S i).2.1 V (-1)) (stpV ar (endsL es) (S i).1 V) 1 = _
                rw [← HU.out]
                unfold addL
                rw [show (((S i).2.1.set V ((S i).2.1.getD V 0 + -1)).getD U 0) = xu from getD_of HHU.out]
              have e3 : (S (i + 1)).2.2 = (S i).2.2.set V (xc + 1) := by
                rw [HSN.out]
                show addL (S i).2.2 V 1 = _
                unfold addL
                rw [getD_of HXC.out]
              have hVt2 : V < (S i).2.2.length := by rw [HTN.out]; exact hVd
              refine ⟨?_, ?_, ?_, ?_, ?_, HNO2.out⟩
              · rw [e1]; exact HR7.out.1.other (by simp; omega) _
              · rw [e2]; exact HR7.out.2.1.other (by simp; omega) _
              · rw [e3]; exact HR7.out.2.2.1.put hVt2 (xc + 1)
              · exact HR7.out.2.2.2.setCell (p := ⟨g3, V, none⟩) hb3 _
              · rw [sized_set]; omega

  · exact of_decide_eq_true (by kernel_rfl)
  · have hno : ∀ j, ¬ (Array.replicate 12 false).getD j false = true := by
      intro j
      rw [Array.getD_eq_getD_getElem?, Array.getElem?_replicate]
      split <;> simp
    exact ⟨by simp, _, _, _, _, _, _, _, _, _, _, _, _, 0, 0, 0, rfl, World.grownBy.refl _ _, fun h => absurd h (hno _), fun h => absurd h (hno _), fun h => absurd h (hno _), fun h => absurd h (hno _), fun h => absurd h (hno _), fun h => absurd h (hno _), fun h => absurd h (hno _), fun h => absurd h (hno _), fun h => absurd h (hno _), fun h => absurd h (hno _), fun h => absurd h (hno _), fun h => absurd h (hno _), fun h => absurd h (hno _), fun h => absurd h (hno _), fun h => absurd h (hno _)⟩

end Go.Proofs.Ytopldbnlehjlpaa

set_option linter.unusedVariables false
set_option linter.unusedSimpArgs false
set_option linter.unnecessarySimpa false
namespace Go.Proofs.Ytopldbnlehjlpaa
open Go.RowKit

def negB (l : List Int) : Bool := l.any fun x => decide (x < 0)

set_option maxHeartbeats 400000 in
theorem min_any (l : List Int) (oa : Option Addr) (c : Nat) (F : Foot) (w : World) (hs : SliceR intR 1 F w oa l) (hc : l.length ≤ c) (hc2 : l.length ≤ 9223372036854775807) (hne : 0 < l.length) :
    Calls Try.prog 63 #[.slice oa l.length c] w fun e w' => ∃ m : Int, e = .returned (.int .i64 m) ∧ decide (m < 0) = negB l ∧ w = w' := by
  obtain ⟨x0, hd0, _, i0, b, off, hoa, _, c0⟩ := hs.int_at hne
  have hoa' := hoa
  subst hoa'
  have HD0 := hide hd0
  have H0 : Hid (decide (x0 < 0) = negB (l.take 1)) := by
    rw [List.drop_zero] at hd0
    show _ = _
    rw [hd0]
    simp [negB]
  have I0 := hide i0
  clear hd0 hoa i0
  rw [Nat.add_zero] at c0
  have hl1 : decide ((l.length : Int) < 1) = false := by simp; omega
  go_enter Try.func63, Try.ntmps63
  go_wp2_with fail
  go_loop [3, 4] (fun mv i => ∃ (k : Nat) (m : Int), 0 < k ∧ k ≤ l.length ∧ mv = .int .i64 m ∧ i = .int .i64 k ∧ Hid (decide (m < 0) = negB (l.take k))) (fun _ i => l.length - (intOf i).toNat)
  case atStart => exact ⟨1, x0, by omega, by omega, rfl, rfl, H0⟩
  case round =>
    obtain ⟨k, m, hk0, hk, rfl, rfl, HM⟩ := hrel
    by_cases hlt : k < l.length
    · obtain ⟨x, hd, hget, _, b', off', hoa, _, cx⟩ := hs.int_at hlt
      injection hoa with hoa
      injection hoa with e1 e2
      subst e1 e2
      have HN : Hid (negB (l.take (k + 1)) = (negB (l.take k) || decide (x < 0))) := by
        show _ = _
        rw [List.take_add_one, hget]
        simp [negB]
      clear hd hget
      by_cases hmx : x < m
      · go_wp2_with fail
        go_round
        case rel =>
          refine ⟨k + 1, _, by omega, by omega, rfl, by go_num, ?_⟩
          show _ = _
          rw [HN.out, ← HM.out]
          by_cases h1 : m < 0 <;> by_cases h2 : x < 0 <;> simp [h1, h2] <;> omega
        case measure => simp [intOf]; omega
      · go_wp2_with fail
        go_round
        case rel =>
          refine ⟨k + 1, _, by omega, by omega, rfl, by go_num, ?_⟩
          show _ = _
          rw [HN.out, ← HM.out]
          by_cases h1 : m < 0 <;> by_cases h2 : x < 0 <;> simp [h1, h2] <;> omega
        case measure => simp [intOf]; omega
    · go_wp2_with fail
      go_ret
      refine ⟨m, rfl, ?_, rfl⟩
      rw [HM.out, List.take_of_length_le (by omega)]

/-- The error of picks. -/
def pkE (l : List Int) : Int := if 4096 < l.length then 5 else if l.length = 0 then 14 else if negB l = true then 2 else 0
theorem pkE_zero {l : List Int} (h : pkE l = 0) : l.length ≤ 4096 ∧ 0 < l.length ∧ ∀ x ∈ l, 0 ≤ x := by
  unfold pkE at h
  split at h
  · cases h
  · rename_i h1
    split at h
    · cases h
    · rename_i h2
      split at h
      · cases h
      · rename_i h3
        refine ⟨by omega, by omega, fun x hx => ?_⟩
        simp only [negB, List.any_eq_true, not_exists, not_and, decide_eq_true_eq] at h3
        have := h3 x hx
        omega

def pScan : List Int → Int
  | [] => 0
  | x :: r => if x < 0 then 2 else pScan r
theorem pScan_neg : ∀ l : List Int, pScan l = if negB l = true then 2 else 0
  | [] => rfl
  | x :: r => by
    unfold pScan
    rw [pScan_neg r]
    by_cases h : x < 0 <;> simp [negB, h]

set_option maxHeartbeats 1000000 in
theorem picks_any (l : List Int) (oa : Option Addr) (c : Nat) (F : Foot) (w : World) (hs : SliceR intR 1 F w oa l) (hc : l.length ≤ c) (hc2 : l.length ≤ 9223372036854775807) :
    Calls Try.prog 37 #[.slice oa l.length c] w fun e w' => e = .returned (.int .i64 (pkE l)) ∧ Below w.heap.size w w' := by
  by_cases h1 : 4096 < l.length
  · have q1 : decide ((4096 : Int) < (l.length : Int)) = true := by simp; omega
    have HR : Hid (pkE l = 5) := if_pos h1
    clear h1
    go_enter Try.func37, Try.ntmps37
    go_wp2_with fail
    go_ret
    exact ⟨ret_int HR.out.symm, Below.refl _ _⟩
  · have q1 : decide ((4096 : Int) < (l.length : Int)) = false := by simp; omega
    by_cases h0 : l.length = 0
    · have q2 : ((l.length : Int) == 0) = true := by simp [h0]
      have HR : Hid (pkE l = 14) := by show _ = _; unfold pkE; rw [if_neg h1, if_pos h0]
      clear h1 h0
      go_enter Try.func37, Try.ntmps37
      go_wp2_with fail
      go_ret
      exact ⟨ret_int HR.out.symm, Below.refl _ _⟩
    · have q2 : ((l.length : Int) == 0) = false := by simpa using h0
      have HR : Hid (pkE l = pScan l) := by show _ = _; unfold pkE; rw [if_neg h1, if_neg h0, pScan_neg]
      clear h1 h0
      go_enter Try.func37, Try.ntmps37
      go_wp2_with fail
      go_loopw [3] (fun iv wr => ∃ k : Nat, k ≤ l.length ∧ iv = .int .i64 k ∧ Hid (pkE l = pScan (l.drop k)) ∧ wr = w) (fun iv _ => l.length - (intOf iv).toNat)
      case atStart => exact ⟨0, by omega, rfl, HR, rfl⟩
      case round =>
        obtain ⟨k, hk, rfl, HS, rfl⟩ := hrel
        by_cases hlt : k < l.length
        · obtain ⟨x, hdr, _, ix, b, off, hod, _, c0⟩ := hs.int_at hlt
          subst hod
          have HS2 : Hid (pkE l = if x < 0 then 2 else pScan (l.drop (k + 1))) := by show _ = _; rw [HS.out, hdr]; rfl
          clear hdr
          by_cases hx : x < 0
          · have q3 : decide (x < 0) = true := by simp [hx]
            have HS3 : Hid (pkE l = 2) := by show _ = _; rw [HS2.out, if_pos hx]
            clear hx
            go_wp2_with fail
            go_ret
            exact ⟨ret_int HS3.out.symm, Below.refl _ _⟩
          · have q3 : decide (x < 0) = false := by simp; omega
            have HS3 : Hid (pkE l = pScan (l.drop (k + 1))) := by show _ = _; rw [HS2.out, if_neg hx]
            clear hx
            go_wp2_with fail
            go_roundw
            case rel => exact ⟨k + 1, by omega, by go_num, HS3, by first | rfl | trivial⟩
            case measure => simp [intOf]; omega
        · have hke : k = l.length := by omega
          have HS3 : Hid (pkE l = 0) := by show _ = _; rw [HS.out, hke, List.drop_length]; rfl
          clear hke
          go_wp2_with fail
          go_ret
          exact ⟨ret_int HS3.out.symm, Below.refl _ _⟩

def fewP (l : List Int) : Bool := if l.length ≤ 60 then true else if 4096 < l.length then decide (l.length ≤ 8192) else false
theorem fewP_any (l : List Int) (oa : Option Addr) (c : Nat) (w : World) : Calls Try.prog 34 #[.slice oa l.length c] w fun e w' => e = .returned (.bool (fewP l)) ∧ Below w.heap.size w w' := by
  by_cases h1 : l.length ≤ 60
  · have q1 : decide ((l.length : Int) ≤ 60) = true := by simp; omega
    have HR : Hid (fewP l = true) := if_pos h1
    clear h1
    go_enter Try.func34, Try.ntmps34
    go_wp2_with fail
    go_ret
    exact ⟨ret_bool HR.out.symm, Below.refl _ _⟩
  · have q1 : decide ((l.length : Int) ≤ 60) = false := by simp; omega
    by_cases h2 : 4096 < l.length
    · have q2 : decide ((4096 : Int) < (l.length : Int)) = true := by simp; omega
      have HR : Hid (fewP l = decide ((l.length : Int) ≤ 8192)) := by
        show _ = _
        unfold fewP
        rw [if_neg h1, if_pos h2]
        simp
        omega
      clear h1 h2
      go_enter Try.func34, Try.ntmps34
      go_wp2_with fail
      go_ret
      exact ⟨ret_bool HR.out.symm, Below.refl _ _⟩
    · have q2 : decide ((4096 : Int) < (l.length : Int)) = false := by simp; omega
      have HR : Hid (fewP l = false) := by show _ = _; unfold fewP; rw [if_neg h1, if_neg h2]
      clear h1 h2
      go_enter Try.func34, Try.ntmps34
      go_wp2_with fail
      go_ret
      exact ⟨ret_bool HR.out.symm, Below.refl _ _⟩

end Go.Proofs.Ytopldbnlehjlpaa

set_option linter.unusedVariables false
set_option linter.unusedSimpArgs false
set_option linter.unnecessarySimpa false
namespace Go.Proofs.Ytopldbnlehjlpaa
open Go.RowKit

theorem picked1_any (pk T : List Int) (i : Nat) (lo : Option Addr) (lc : Nat) (op : Option Addr) (cp pp nx : Nat) (F G : Foot) (w : World) (hs : SliceR intR 1 F w lo T) (hT : T ≠ []) (hlc : T.length ≤ lc) (hT2 : T.length ≤ 1000000) (hp : SliceR intR 1 G w op pk) (hp0 : 0 < pk.length) (hpc : pk.length ≤ cp) (hp2 : pk.length ≤ 1000000) (hpn : ∀ x ∈ pk, 0 ≤ x)
    (hb : Boxed w pp 28 (.slice op pk.length cp)) (hn : Boxed w nx 3 (.int .i64 ((i % pk.length : Nat) : Int))) :
    Calls Try.prog 64 #[.slice lo T.length lc, .pointer (some ⟨pp, 0, none⟩), .pointer (some ⟨nx, 0, none⟩)] w fun e w' => e = .returned (.int .i64 (pkL pk i T)) ∧ w' = w.setCell ⟨nx, 0, none⟩ (.int .i64 (((i + 1) % pk.length : Nat) : Int)) := by
  have hT0 : 0 < T.length := List.length_pos_iff.2 hT
  obtain ⟨A, hA⟩ : ∃ A, A = i % pk.length := ⟨_, rfl⟩
  have hAl : A < pk.length := by rw [hA]; exact Nat.mod_lt _ hp0
  have hB1 : (i + 1) % pk.length = (A + 1) % pk.length := by rw [hA, Nat.mod_add_mod]
  obtain ⟨B1, hB⟩ : ∃ B1, B1 = (A + 1) % pk.length := ⟨_, rfl⟩
  rw [← hA] at hn
  rw [hB1, ← hB]
  obtain ⟨y, _, hy, iy, b2, off2, rfl, _, pc0⟩ := hp.int_at hAl
  obtain ⟨Y, rfl⟩ := Int.eq_ofNat_of_zero_le (hpn y (List.mem_of_getElem? hy))
  obtain ⟨J, hJ⟩ : ∃ J, J = Y % T.length := ⟨_, rfl⟩
  have hJl : J < T.length := by rw [hJ]; exact Nat.mod_lt _ hT0
  obtain ⟨z, _, hz, iz, b3, off3, rfl, _, tc0⟩ := hs.int_at hJl
  have HP : Hid (pkL pk i T = z) := by
    show _ = _
    unfold pkL
    rw [← hA, getD_of hy]
    simp only [Int.toNat_natCast]
    rw [← hJ]
    exact getD_of hz
  have rem1 : ((Y : Int)).tmod (T.length : Int) = (J : Int) := by rw [hJ, Int.tmod_eq_emod_of_nonneg (by omega)]; rfl
  have rem2 : ((A : Int) + 1).tmod (pk.length : Int) = (B1 : Int) := by rw [hB, Int.tmod_eq_emod_of_nonneg (by omega)]; rfl
  have ne1 : (T.length : Int) ≠ 0 := by omega
  have ne2 : (pk.length : Int) ≠ 0 := by omega
  have c1 := hb.cell
  have c2 := hn.cell
  have f2 := hn.frozen
  clear hA hB1 hB hJ hy hz hT
  go_enter Try.func64, Try.ntmps64
  go_wp2_with fail
  go_ret
  exact ⟨ret_int HP.out.symm, rfl⟩

set_option maxRecDepth 100000 in
set_option maxHeartbeats 4000000 in
theorem routeP_any (B : Nat) (w : World) (p rg cap : Nat) (tv : Value) (q : Nat) (n : Int) (es : List Edg) (ar : List (List Int)) (rot : List Int) (rest : List Value) (oa : Option Addr) (ca : Nat)
    (hD : Brd B w p rg cap tv q (.slice oa ar.length ca) (toL (endsL es)) rot rest) (ha : SliceR (slcR intR 1) 1 (Lt B) w oa ar) (hok : RtOk n es ar q rot) (hBw : B ≤ w.heap.size)
    (d : List Int) (od : Option Addr) (cd : Nat) (D : Foot) (hd : SliceR intR 1 D w od d) (hdc : d.length ≤ cd) (hdn : d.length = ar.length) (hdb : ∀ x ∈ d, -1048576 ≤ x ∧ x ≤ 1048576)
    (pk : List Int) (op : Option Addr) (cp pp nx : Nat) (hps : SliceR intR 1 (Lt B) w op pk) (hp0 : 0 < pk.length) (hpc : pk.length ≤ cp) (hp2 : pk.length ≤ 1000000) (hpn : ∀ x ∈ pk, 0 ≤ x)
    (hpb : Boxed w pp 28 (.slice op pk.length cp)) (hppB : pp < B) (hnx : Boxed w nx 3 (.int .i64 0)) (hnB : B ≤ nx) (n1 : nx ≠ p) (n2 : nx ≠ rg) (n3 : tv.ownBlock ≠ some nx) :
    Calls Try.prog 57 #[.pointer (some ⟨p, 0, none⟩), .slice od d.length cd, .func (.func 64) #[] #[.pointer (some ⟨pp, 0, none⟩), .pointer (some ⟨nx, 0, none⟩)]] w (MovesPost B w (movesOf ar (endsL es) q (pkL pk) rot d)) := by
  obtain ⟨S, hS⟩ : ∃ S, S = mvN ar (endsL es) q (pkL pk) (start rot d d.length) := ⟨_, rfl⟩
  have HS := hide hS
  have hst := start_ok hok hdn hdb
  have HST := hide hst
  have hn12 := hok.n12
  have hq := hok.hq
  have hd0 : d ≠ [] := by intro e; rw [e] at hdn; simp at hdn; omega
  have hdl : d.length ≤ 12 := by omega
  replace hdn := hide hdn
  clear hS hst
  go_enter Try.func57, Try.ntmps57
  go_wp2_with (first
    | (go_at_call 80; refine (cloneD_any d od cd D w hd hdc (by omega)).mono ?_; rintro e w2 ⟨dv, rfl, hdv, hb2⟩; obtain ⟨dg, dcap, drest, rfl, hdg, hdcap, hdm, hdrow, hd64⟩ := hdv.row hd0; replace hdcap := hide hdcap; replace hd64 := hide hd64)
    | (at_make; refine wpList_make_row w2 rfl _ _ 56 rfl 3 (0 : Int) 8 Try.underlying56 iInfo rfl .i64 .i64 _ _ d.length rfl rfl rfl rfl (by omega) (by unfold maxLen; omega) ?_; intro w3 hcrow hb3 hg3)
    | fail)
  have hb23 := hb2.trans (hb3.mono hb2.size)
  have hD3 := hide ((hD.below hb2).below hb3)
  have hsz2 := hb2.size
  have hsz3 := hb3.size
  have hp1 := hD.box.lt
  have hrg1 := hD.row.lt
  have hnxl : nx < w.heap.size := hnx.lt
  have hpB := hD.pB
  have hgB := hD.gB
  have htv : ∀ g, tv.ownBlock = some g → B ≤ g ∧ g < w.heap.size := fun g hg => hD.tos.block g hg
  have hdrow3 := hdrow.below hb3
  have hdgl := hdrow.lt
  have hcgl := hcrow.lt
  have HB23 := hide hb23
  have hl0 : (S 0).1 = rot ∧ (S 0).2.1 = d ∧ (S 0).2.2 = List.replicate d.length 0 := by rw [HS.out]; exact ⟨rfl, rfl, rfl⟩
  have hS1 : ∀ i, S (i + 1) = mvS ar (endsL es) (S i) (pkL pk i (liveL q (S i).2.1)).toNat := fun i => by rw [HS.out]; rfl
  have HS1 := hide hS1
  have hmv : ∀ i, (∀ j, j < i → (liveL q (S j).2.1).length ≠ 0) → MvOk n es ar q i (S i) := by
    rw [HS.out]
    exact mv_ok (pkL_ok pk) HST.out
  have HMV := hide hmv
  have hd3 := hD3
  obtain ⟨P, hP⟩ : ∃ P : Nat → World → Prop, P = fun i wr => Brd B wr p rg cap tv q (.slice oa ar.length ca) (toL (endsL es)) (S i).1 rest ∧ Row1 (Value.int .i64) wr dg 3 (S i).2.1 drest ∧ Row1 (Value.int .i64) wr w2.heap.size 3 (S i).2.2 [] ∧ Below B w wr ∧ w3.heap.size ≤ wr.heap.size ∧ (∀ j, j < i → (liveL q (S j).2.1).length ≠ 0) ∧ Boxed wr nx 3 (.int .i64 ((i % pk.length : Nat) : Int)) := ⟨_, rfl⟩
  have HPP := hide hP
  have h0 : P 0 w3 := by
    rw [hP]
    refine ⟨by rw [hl0.1]; exact hD3.out, by rw [hl0.2.1]; exact hdrow3, by rw [hl0.2.2]; exact hcrow, hb23.mono hBw, Nat.le_refl _, fun j hj => absurd hj (by omega), by rw [Nat.zero_mod]; exact boxed_same hnx (hb23.block _ hnxl)⟩
  have HPB := hide (fun (W : World) (hW : Below B w W) => boxed_same hpb (hW.block _ (show pp < B from hppB)))
  have HPS := hide (fun (W : World) (hW : Below B w W) => hps.keep intR_ok (SameOn.of_lt hW))
  clear hpb hps hnx
  clear hP hl0 hS1 hmv hd3 hD3 hdrow3 hdrow hcrow hb2 hb3 hb23 hg3 hdv hD
  go_wp2_with fail
  go_loopw [10] (fun nv wr => ∃ i : Nat, i ≤ 1048576 ∧ nv = .int .i64 i ∧ P i wr) (fun nv _ => 1048577 - (intOf nv).toNat)
  case atStart => exact ⟨0, by omega, rfl, h0⟩
  case round =>
    clear h0
    obtain ⟨i, hi, rfl, hPi⟩ := hrel
    rw [HPP.out] at hPi
    obtain ⟨hD, hdr, hcr, hlow, hsw, hno, hnxi⟩ := hPi
    have HNX := hide hnxi
    have hMV := HMV.out i hno
    have hll : (S i).2.1.length = d.length := by rw [hMV.ll, hdn.out]
    have htl : (S i).2.2.length = d.length := by rw [hMV.tl, hdn.out]
    have HNO := hide hno
    have HMVI := hide hMV
    have HDI := hide hD
    have HLL := hide hll
    have HTL := hide htl
    have HDR := hide hdr
    have HCR := hide hcr
    have HLOW := hide hlow
    have d0 := hD.box.cell 0
    simp only [List.getElem?_cons_zero] at d0
    clear hno hMV hD hll htl hdr hcr hlow hnxi
    go_wp2_with fail
    obtain ⟨wo, hwo⟩ : ∃ wo : World, wo = wr := ⟨_, rfl⟩
    subst hwo
    go_loopw [24, 11] (fun kv lv wi => ∃ k : Nat, k ≤ d.length ∧ kv = .int .i64 k ∧ OwnN wo.heap.size 3 wi lv (liveP q (S i).2.1 k) ∧ Below wo.heap.size wo wi) (fun kv _ _ => d.length - (intOf kv).toNat)
    case atStart => exact ⟨0, by omega, rfl, OwnN.nil, Below.refl _ _⟩
    case round =>
      clear d0
      obtain ⟨k, hk, rfl, hown, hbi⟩ := hrel
      have hsi := hbi.size
      have hDi := HDI.out.below hbi
      have d0 := hDi.box.cell 0
      simp only [List.getElem?_cons_zero] at d0
      have hpl := hDi.box.lt
      by_cases hlt : k < d.length
      · obtain ⟨x, hx⟩ : ∃ x, (S i).2.1[k]? = some x := ⟨_, List.getElem?_eq_getElem (by rw [HLL.out]; exact hlt)⟩
        have c0 := (HDR.out.below hbi).cell hx
        have hlp := liveP_len q (S i).2.1 k
        by_cases hkq : k = q
        · have q1 : ((k : Int) != (q : Int)) = false := by simp [hkq]
          have HL1 : Hid (liveP q (S i).2.1 (k + 1) = liveP q (S i).2.1 k) := liveP_no hx (by intro h; exact h.1 hkq)
          clear hkq hx hDi
          go_wp2_with fail
          go_roundw
          case rel => exact ⟨k + 1, by omega, by go_num, by rw [HL1.out]; exact hown, hbi⟩
          case measure => simp [intOf]; omega
        · have q1 : ((k : Int) != (q : Int)) = true := by simp; omega
          by_cases hxp : 0 < x
          · have q2 : decide ((0 : Int) < x) = true := by simp [hxp]
            have HL1 : Hid (liveP q (S i).2.1 (k + 1) = liveP q (S i).2.1 k ++ [(k : Int)]) := liveP_yes hx hkq hxp
            have hone := one_cell (w := wr) (t := 3) (v := .int .i64 (k : Nat)) (j := 0) rfl
            have HBI := hide hbi
            clear hkq hx hxp hDi hbi
            generalize liveP q (S i).2.1 k = T at hown HL1 hlp
            go_wp2_with (first
              | (at_builtin; refine wpList_append_n rfl (.tmp 39) (.tmp 41) 28 rfl wo.heap.size 3 _ Try.underlying28 intInfo8 rfl _ T rfl (hown.new _) ⟨wr.heap.size, 0, none⟩ 1 (k : Int) rfl hone (by constructor <;> omega) (by omega) (by simp; omega) ?_; intro v' w6 ho6 hb6 hg6 hv6)
              | fail)
            go_roundw
            case rel => exact ⟨k + 1, by omega, by go_num, by rw [HL1.out]; exact ho6, (HBI.out.alloc (by omega) _).trans hb6⟩
            case measure => simp [intOf]; omega
          · have q2 : decide ((0 : Int) < x) = false := by simp; omega
            have HL1 : Hid (liveP q (S i).2.1 (k + 1) = liveP q (S i).2.1 k) := liveP_no hx (by intro h; exact hxp h.2)
            clear hkq hx hxp hDi
            go_wp2_with fail
            go_roundw
            case rel => exact ⟨k + 1, by omega, by go_num, by rw [HL1.out]; exact hown, hbi⟩
            case measure => simp [intOf]; omega
      · have hke : k = d.length := by omega
        have hlq : liveP q (S i).2.1 k = liveL q (S i).2.1 := by unfold liveL; rw [hke, HLL.out]
        rw [hlq] at hown
        have HBI := hide hbi
        obtain ⟨lo, lc, rfl, hlc, hls⟩ := hown.slice
        have hTL : (liveL q (S i).2.1).length ≤ 12 := by have h1 := liveP_len q (S i).2.1 (S i).2.1.length; have h2 := HLL.out; unfold liveL; omega
        obtain ⟨T, hT⟩ : ∃ T, T = liveL q (S i).2.1 := ⟨_, rfl⟩
        have HT := hide hT
        rw [← hT] at hown hlc hls hTL ⊢
        have d3 := hDi.box.cell 3
        simp only [List.getElem?_cons_zero, List.getElem?_cons_succ] at d3
        have HDW := hide hDi
        have HDRW := hide (HDR.out.below hbi)
        have HCRW := hide (HCR.out.below hbi)
        have HLW := hide (HLOW.out.trans (hbi.mono (by omega)))
        have HNXW := hide (boxed_same HNX.out (hbi.block _ HNX.out.lt))
        clear hke hlq hT hDi hbi
        by_cases hT0 : T.length = 0
        · have q1 : ((T.length : Int) == 0) = true := by simp [hT0]
          have HR : Hid (movesOf ar (endsL es) q (pkL pk) rot d = ((S i).1, (S i).2.2, 0)) := by
            refine movesOf_hit (i := i) (s := S i) (by omega) (by rw [HS.out]) (by rw [← HT.out]; exact hT0) ?_
            rw [← HS.out]
            exact HNO.out
          have HT0 := hide hT0
          clear hT0
          go_wp2_with fail
          refine bodyPost_ret (results_tmp3 rfl _ _ _) rfl ⟨_, _, by rw [HR.out]; rfl, ?_, ?_, ?_⟩
          · rw [HR.out]
            exact HDW.out.own HMVI.out.rot.i64
          · rw [HR.out]
            have := HCRW.out.ownInts (base := B) (F := Non) (fun x hx => by have := HMVI.out.tb x hx; unfold I64; omega) (cap := d.length) (by omega) (by rw [HTL.out]; simp) (by unfold maxLen; omega)
            rw [HTL.out] at this
            exact this
          · exact HLW.out
        · have q1 : ((T.length : Int) == 0) = false := by simpa using hT0
          have HT0 := hide hT0
          have hTne : T ≠ [] := fun e => hT0 (by rw [e]; rfl)
          clear hT0
          by_cases hi2 : i = 1048576
          · have q2 : ((i : Int) == 1048576) = true := by simp; omega
            have HR : Hid (movesOf ar (endsL es) q (pkL pk) rot d = ([], [], 12)) := by
              refine movesOf_none ?_
              rw [← HS.out]
              intro j hj
              by_cases hji : j = i
              · rw [hji, ← HT.out]; exact HT0.out
              · exact HNO.out j (by omega)
            replace hi2 := hide hi2
            clear hTne
            go_wp2_with fail
            refine bodyPost_ret (results_tmp3 rfl _ _ _) rfl ⟨_, _, by rw [HR.out]; rfl, ?_, ?_, ?_⟩
            · rw [HR.out]; exact OwnS.nil _ _ _ _ _ _
            · rw [HR.out]; exact OwnS.nil _ _ _ _ _ _
            · exact HLW.out
          · have q2 : ((i : Int) == 1048576) = false := by simp; omega
            have hi3 : i < 1048576 := by omega
            clear hi2
            have hmem : pkL pk i T ∈ T := pkL_ok pk i T hTne
            rw [HT.out] at hmem
            obtain ⟨V, hV, hVl, hVq, hVp⟩ := live_mem hmem
            rw [← HT.out] at hV
            have hVd : V < d.length := by rw [← HLL.out]; exact hVl
            have HSN : Hid (S (i + 1) = mvS ar (endsL es) (S i) V) := by
              show _ = _
              rw [HS1.out i, ← HT.out]
              show mvS ar (endsL es) (S i) (pkL pk i T).toNat = _
              rw [hV]
              rfl
            obtain ⟨xc, hxc⟩ : ∃ x, (S i).2.2[V]? = some x := ⟨_, List.getElem?_eq_getElem (by rw [HTL.out]; exact hVd)⟩
            obtain ⟨xd, hxd⟩ : ∃ x, (S i).2.1[V]? = some x := ⟨_, List.getElem?_eq_getElem hVl⟩
            have hcb := HMVI.out.tb xc (List.mem_of_getElem? hxc)
            have hdb2 := HMVI.out.lb xd (List.mem_of_getElem? hxd)
            have hVar : V < ar.length := by rw [← HMVI.out.ll]; exact hVl
            obtain ⟨hM2, hTo⟩ := HMVI.out.step hVar hVq
            have HNO2 : Hid (∀ j, j < i + 1 → (liveL q (S j).2.1).length ≠ 0) := fun j hj => by
              by_cases hji : j = i
              · rw [hji, ← HT.out]; exact HT0.out
              · exact HNO.out j (by omega)
            have hpk := picked1_any pk T i lo lc op cp pp nx _ _ wr hls hTne hlc (by omega) (HPS.out wr HLW.out) hp0 hpc hp2 hpn (HPB.out wr HLW.out) HNXW.out
            rw [hV] at hpk
            obtain ⟨Wc, hWc⟩ : ∃ Wc, wr.setCell ⟨nx, 0, none⟩ (.int .i64 (((i + 1) % pk.length : Nat) : Int)) = Wc := ⟨_, rfl⟩
            rw [hWc] at hpk
            have hnc : Boxed Wc nx 3 (.int .i64 (((i + 1) % pk.length : Nat) : Int)) := by rw [← hWc]; exact HNXW.out.set _
            have hsc : Wc.heap.size = wr.heap.size := by rw [← hWc]; exact sized_set _ _ _
            have hcrc : Row1 (Value.int .i64) Wc w2.heap.size 3 (S i).2.2 [] := by rw [← hWc]; exact HCRW.out.other (by simp; omega) _
            have hdrc : Row1 (Value.int .i64) Wc dg 3 (S i).2.1 drest := by rw [← hWc]; exact HDRW.out.other (by simp; omega) _
            have hDc : Brd B Wc p rg cap tv q (.slice oa ar.length ca) (toL (endsL es)) (S i).1 rest := by
              rw [← hWc]
              refine HDW.out.keep fun j hj1 hj2 hor => Below.heap_setCell _ _ _ j ?_
              rcases hor with rfl | rfl | e
              · simp; omega
              · simp; omega
              · intro h; simp at h; subst h; exact n3 e
            have hlc2 : Below B w Wc := by rw [← hWc]; exact HLW.out.setCell (p := ⟨nx, 0, none⟩) hnB _
            clear HCRW HDRW HDW HLW HNXW hWc
            have HCRW := hide hcrc
            have HDRW := hide hdrc
            have HDW := hide hDc
            have HLW := hide hlc2
            clear hcrc hdrc hDc hlc2
            have cc0 := HCRW.out.cell hxc
            have cf0 := HCRW.out.free V
            have dd0 := HDRW.out.cell hxd
            have df0 := HDRW.out.free V
            obtain ⟨W5, hW5⟩ : ∃ W5, Wc.setCell ⟨w2.heap.size, V, none⟩ (.int .i64 (xc + 1)) = W5 := ⟨_, rfl⟩
            have hcr5 : Row1 (Value.int .i64) W5 w2.heap.size 3 (addL (S i).2.2 V 1) [] := by
              rw [← hW5]
              have := HCRW.out.put (i := V) (by rw [HTL.out]; exact hVd) (xc + 1)
              unfold addL
              rw [getD_of hxc]
              exact this
            have hdr5 : Row1 (Value.int .i64) W5 dg 3 (S i).2.1 drest := by rw [← hW5]; exact HDRW.out.other (by simp; omega) _
            have hD5 : Brd B W5 p rg cap tv q (.slice oa ar.length ca) (toL (endsL es)) (S i).1 rest := by
              rw [← hW5]
              refine HDW.out.keep fun j hj1 hj2 hor => Below.heap_setCell _ _ _ j ?_
              rcases hor with rfl | rfl | e
              · simp; omega
              · simp; omega
              · have := htv j e; simp; omega
            have hl5 : Below B w W5 := by rw [← hW5]; exact HLW.out.setCell (p := ⟨w2.heap.size, V, none⟩) (by simp; omega) _
            have hs5 : W5.heap.size = wr.heap.size := by rw [← hW5]; exact (sized_set _ _ _).trans hsc
            have hn5 : Boxed W5 nx 3 (.int .i64 (((i + 1) % pk.length : Nat) : Int)) := by rw [← hW5]; exact boxed_same hnc (Below.heap_setCell _ _ _ _ (by simp; omega))
            have e5 := hdr5.cell hxd
            have g5 := hdr5.free V
            obtain ⟨W6, hW6⟩ : ∃ W6, W5.setCell ⟨dg, V, none⟩ (.int .i64 (xd - 1)) = W6 := ⟨_, rfl⟩
            have hcr6 : Row1 (Value.int .i64) W6 w2.heap.size 3 (addL (S i).2.2 V 1) [] := by rw [← hW6]; exact hcr5.other (by simp; omega) _
            have hdr6 : Row1 (Value.int .i64) W6 dg 3 (addL (S i).2.1 V (-1)) drest := by
              rw [← hW6]
              have := hdr5.put (i := V) hVl (xd - 1)
              unfold addL
              rw [getD_of hxd]
              exact this
            have hD6 : Brd B W6 p rg cap tv q (.slice oa ar.length ca) (toL (endsL es)) (S i).1 rest := by
              rw [← hW6]
              refine hD5.keep fun j hj1 hj2 hor => Below.heap_setCell _ _ _ j ?_
              rcases hor with rfl | rfl | e
              · simp; omega
              · simp; omega
              · have := htv j e; simp; omega
            have hl6 : Below B w W6 := by rw [← hW6]; exact hl5.setCell (p := ⟨dg, V, none⟩) (by simp; omega) _
            have hs6 : W6.heap.size = wr.heap.size := by rw [← hW6, sized_set]; exact hs5
            have hn6 : Boxed W6 nx 3 (.int .i64 (((i + 1) % pk.length : Nat) : Int)) := by rw [← hW6]; exact boxed_same hn5 (Below.heap_setCell _ _ _ _ (by simp; omega))
            have HN6 := hide hn6
            clear hn5 hn6 hnc
            have hstep := step_ok hD6 (ha.keep (slcR_ok intR_ok (by decide)) (SameOn.of_lt hl6)) HMVI.out.rot hVar hVq
            obtain ⟨U, hU⟩ : ∃ U, U = stpV ar (endsL es) (S i).1 V := ⟨_, rfl⟩
            rw [← hU] at hstep hTo
            have HU := hide hU
            have hUd : U < (addL (S i).2.1 V (-1)).length := by rw [addL_len, HMVI.out.ll]; exact hTo
            obtain ⟨xu, hxu⟩ : ∃ x, (addL (S i).2.1 V (-1))[U]? = some x := ⟨_, List.getElem?_eq_getElem hUd⟩
            have hub : -4000000 ≤ xu ∧ xu ≤ 4000000 := by
              rcases addL_mem (List.mem_of_getElem? hxu) hVl with h4 | ⟨y, h4, e⟩
              · have := HMVI.out.lb xu h4; omega
              · have := HMVI.out.lb y h4; omega
            have hUdl : U < d.length := by rw [← hdn.out] at hTo; exact hTo
            have HM2 := hide hM2
            have HC6 := hide hcr6
            have HD6' := hide hdr6
            have HL6 := hide hl6
            have HHU := hide hxu
            clear hM2 hcr5 hdr5 hD5 hl5 hcr6 hdr6 hD6 hl6 hU hxc hxd hmem hVp hls hown hTne hxu
            go_wp2_with (first
              | (go_at_call 64; refine hpk.mono ?_; rintro e w' ⟨rfl, rfl⟩)
              | (go_at_call 43; refine hstep.mono ?_; rintro e W7 ⟨rfl, hD7, hg7⟩; have hdr7 := HD6'.out.keep (hg7.block dg (by omega) (fun e => by injection e; omega)); have hcr7 := HC6.out.keep (hg7.block w2.heap.size (by omega) (fun e => by injection e; omega)); have hl7 := HL6.out.grown hg7 (by omega) (fun j hj => by injection hj with hj; omega); have dd7 := hdr7.cell HHU.out; have df7 := hdr7.free U; have hs7 := hg7.size; have hn7 := HN6.out.kept hg7 (fun e => by injection e; omega); replace hn7 := hide hn7; replace hdr7 := hide hdr7; replace hcr7 := hide hcr7; replace hl7 := hide hl7; replace hD7 := hide hD7; replace hg7 := hide hg7)
              | fail)
            have hci : ((i + 1 : Nat) : Int) = (i : Int) + 1 := by omega
            refine ⟨⟨i + 1, by omega, by rw [hci], ?_⟩, by simp [intOf]; omega⟩
            rw [HPP.out]
            have hUl : U < (addL (S i).2.1 V (-1)).length := hUd
            have e1 : (S (i + 1)).1 = stpR ar (S i).1 V := by rw [HSN.out]; rfl
            have e2 : (S (i + 1)).2.1 = (addL (S i).2.1 V (-1)).set U (xu + 1) := by
              rw [HSN.out]
              show addL (addL (S i).2.1 V (-1)) (stpV ar (endsL es) (S i).1 V) 1 = _
              rw [← HU.out]
              unfold addL
              rw [show (((S i).2.1.set V ((S i).2.1.getD V 0 + -1)).getD U 0) = xu from getD_of HHU.out]
            have e3 : (S (i + 1)).2.2 = addL (S i).2.2 V 1 := by rw [HSN.out]; rfl
            refine ⟨?_, ?_, ?_, ?_, ?_, HNO2.out, boxed_same hn7.out (Below.heap_setCell _ _ _ _ (by simp; omega))⟩
            · rw [e1]
              refine hD7.out.keep fun j hj1 hj2 hor => Below.heap_setCell _ _ _ j ?_
              rcases hor with rfl | rfl | e
              · simp; omega
              · simp; omega
              · have := htv j e; simp; omega
            · rw [e2]; exact hdr7.out.put hUl (xu + 1)
            · rw [e3]; exact hcr7.out.other (by simp; omega) _
            · exact hl7.out.setCell (p := ⟨dg, U, none⟩) (by simp; omega) _
            · rw [sized_set]; omega

end Go.Proofs.Ytopldbnlehjlpaa

set_option linter.unusedVariables false
set_option linter.unusedSimpArgs false
set_option linter.unnecessarySimpa false
namespace Go.Proofs.Ytopldbnlehjlpaa
open Go.RowKit

theorem few17_any (d : List Int) (od : Option Addr) (cd : Nat) (w : World) : Calls Try.prog 53 #[.slice od d.length cd] w fun e w' => e = .returned (.bool (decide (d.length ≤ 24))) ∧ Below w.heap.size w w' := by
  have HR : Hid (decide (d.length ≤ 24) = decide ((d.length : Int) ≤ 24)) := by show _ = _; simp; omega
  go_enter Try.func53, Try.ntmps53
  go_wp2_with fail
  go_ret
  exact ⟨ret_bool HR.out.symm, Below.refl _ _⟩

/-- All chips are from -60 to 60. -/
def smD : List Int → Bool
  | [] => true
  | x :: r => if x < -60 ∨ 60 < x then false else smD r
theorem smD_yes : ∀ {d : List Int}, smD d = true → ∀ x ∈ d, -60 ≤ x ∧ x ≤ 60
  | [], _, x, hx => by cases hx
  | y :: r, h, x, hx => by
    unfold smD at h
    split at h
    · cases h
    · rename_i h1
      rcases List.mem_cons.1 hx with rfl | h2
      · omega
      · exact smD_yes h x h2

set_option maxRecDepth 100000 in
set_option maxHeartbeats 2000000 in
theorem smD_any (d : List Int) (od : Option Addr) (cd : Nat) (F : Foot) (w : World) (hd : SliceR intR 1 F w od d) (hc : d.length ≤ cd) (hc2 : d.length ≤ 9223372036854775807) :
    Calls Try.prog 54 #[.slice od d.length cd] w fun e w' => e = .returned (.bool (smD d)) ∧ Below w.heap.size w w' := by
  go_enter Try.func54, Try.ntmps54
  go_wp2_with fail
  go_loopw [3] (fun iv wr => ∃ k : Nat, k ≤ d.length ∧ iv = .int .i64 k ∧ Hid (smD d = smD (d.drop k)) ∧ wr = w) (fun iv _ => d.length - (intOf iv).toNat)
  case atStart => exact ⟨0, by omega, rfl, rfl, rfl⟩
  case round =>
    obtain ⟨k, hk, rfl, HS, rfl⟩ := hrel
    by_cases hlt : k < d.length
    · obtain ⟨x, hdr, _, ix, b, off, hod, _, c0⟩ := hd.int_at hlt
      subst hod
      have HS2 : Hid (smD d = if x < -60 ∨ 60 < x then false else smD (d.drop (k + 1))) := by show _ = _; rw [HS.out, hdr]; rfl
      clear hdr
      by_cases h1 : x < -60
      · have q1 : decide (x < (-60 : Int)) = true := by simp [h1]
        have HS3 : Hid (smD d = false) := by show _ = _; rw [HS2.out, if_pos (.inl h1)]
        clear h1
        go_wp2_with fail
        go_ret
        exact ⟨ret_bool HS3.out.symm, Below.refl _ _⟩
      · have q1 : decide (x < (-60 : Int)) = false := by simp; omega
        by_cases h2 : 60 < x
        · have q2 : decide ((60 : Int) < x) = true := by simp [h2]
          have HS3 : Hid (smD d = false) := by show _ = _; rw [HS2.out, if_pos (.inr h2)]
          clear h1 h2
          go_wp2_with fail
          go_ret
          exact ⟨ret_bool HS3.out.symm, Below.refl _ _⟩
        · have q2 : decide ((60 : Int) < x) = false := by simp; omega
          have HS3 : Hid (smD d = smD (d.drop (k + 1))) := by show _ = _; rw [HS2.out, if_neg (by omega)]
          clear h1 h2
          go_wp2_with fail
          go_roundw
          case rel => exact ⟨k + 1, by omega, by go_num, HS3, by first | rfl | trivial⟩
          case measure => simp [intOf]; omega
    · have hke : k = d.length := by omega
      have HS3 : Hid (smD d = true) := by show _ = _; rw [HS.out, hke, List.drop_length]; rfl
      clear hke
      go_wp2_with fail
      go_ret
      exact ⟨ret_bool HS3.out.symm, Below.refl _ _⟩

/-- What the laws' functions on games lean on between their calls. -/
structure GamCtx (w : World) (n : Int) (es : List Edg) (oe : Option Addr) (c : Nat) (ar : List (List Int)) (oa : Option Addr) (ca : Nat) (q : Int) (rot : List Int) (ot : Option Addr) (ct : Nat) (d : List Int) (od : Option Addr) (cd : Nat) (pk : List Int) (op : Option Addr) (cp : Nat) (W : World) : Prop where
  hes : SliceR edgR 3 All W oe es
  har : SliceR (slcR intR 1) 1 All W oa ar
  hrt : SliceR intR 1 All W ot rot
  hdd : SliceR intR 1 All W od d
  hpk : SliceR intR 1 All W op pk
  b1 : Box W w.heap.size [.int .i64 n, .slice oe es.length c, .slice oa ar.length ca] 27
  b2 : Box W (w.heap.size + 1) [.int .i64 q, .slice ot rot.length ct, .slice od d.length cd, .slice op pk.length cp] 54
  low : Below w.heap.size w W
section
variable {w : World} {n : Int} {es : List Edg} {oe : Option Addr} {c : Nat} {ar : List (List Int)} {oa : Option Addr} {ca : Nat} {q : Int} {rot : List Int} {ot : Option Addr} {ct : Nat} {d : List Int} {od : Option Addr} {cd : Nat} {pk : List Int} {op : Option Addr} {cp : Nat}
theorem GamCtx.below {W W' : World} (h : GamCtx w n es oe c ar oa ca q rot ot ct d od cd pk op cp W) (hb : Below W.heap.size W W') : GamCtx w n es oe c ar oa ca q rot ot ct d od cd pk op cp W' :=
  ⟨h.hes.below edgR_ok hb, h.har.below (slcR_ok intR_ok (by decide)) hb, h.hrt.below intR_ok hb, h.hdd.below intR_ok hb, h.hpk.below intR_ok hb, h.b1.below hb, h.b2.below hb, h.low.trans (hb.mono h.low.size)⟩
theorem GamCtx.new (h1 : SliceR edgR 3 All w oe es) (h2 : SliceR (slcR intR 1) 1 All w oa ar) (h3 : SliceR intR 1 All w ot rot) (h4 : SliceR intR 1 All w od d) (h5 : SliceR intR 1 All w op pk) :
    GamCtx w n es oe c ar oa ca q rot ot ct d od cd pk op cp ((w.alloc (.cells #[.int .i64 n, .slice oe es.length c, .slice oa ar.length ca] 27)).alloc (.cells #[.int .i64 q, .slice ot rot.length ct, .slice od d.length cd, .slice op pk.length cp] 54)) := by
  have hb := bnew (bnew (Below.refl w.heap.size w) (.cells #[.int .i64 n, .slice oe es.length c, .slice oa ar.length ca] 27)) (.cells #[.int .i64 q, .slice ot rot.length ct, .slice od d.length cd, .slice op pk.length cp] 54)
  refine ⟨h1.below edgR_ok hb, h2.below (slcR_ok intR_ok (by decide)) hb, h3.below intR_ok hb, h4.below intR_ok hb, h5.below intR_ok hb, (Box.new w [.int .i64 n, .slice oe es.length c, .slice oa ar.length ca] 27).next _, ?_, hb⟩
  have := Box.new (w.alloc (.cells #[.int .i64 n, .slice oe es.length c, .slice oa ar.length ca] 27)) [.int .i64 q, .slice ot rot.length ct, .slice od d.length cd, .slice op pk.length cp] 54
  simpa using this
end

/-- A right and small game. -/
def smallB (n : Int) (es : List Edg) (ar : List (List Int)) (q : Int) (rot d : List Int) : Bool :=
  if few45 n es ar rot = true then (if d.length ≤ 24 then (if gvE n es (forest es) ar q rot d = 0 then smD d else false) else false) else false
theorem smallB_yes {n : Int} {es : List Edg} {ar : List (List Int)} {q : Int} {rot d : List Int} (h : smallB n es ar q rot d = true) : few45 n es ar rot = true ∧ gvE n es (forest es) ar q rot d = 0 ∧ smD d = true := by
  unfold smallB at h
  split at h
  · rename_i h1
    split at h
    · split at h
      · rename_i h3; exact ⟨h1, h3, h⟩
      · cases h
    · cases h
  · cases h

set_option maxRecDepth 100000 in
set_option maxHeartbeats 4000000 in
theorem small45_any (n : Int) (es : List Edg) (oe : Option Addr) (c : Nat) (ar : List (List Int)) (oa : Option Addr) (ca : Nat) (q : Int) (rot : List Int) (ot : Option Addr) (ct : Nat) (d : List Int) (od : Option Addr) (cd : Nat) (pk : List Int) (op : Option Addr) (cp : Nat) (w : World)
    (hs : SliceR edgR 3 All w oe es) (hc : es.length ≤ c) (hc2 : es.length ≤ 9223372036854775807) (ha : SliceR (slcR intR 1) 1 All w oa ar) (hac : ar.length ≤ ca) (hac2 : ar.length ≤ 9223372036854775807) (hr : SliceR intR 1 All w ot rot) (hrc : rot.length ≤ ct) (hrl : rot.length ≤ 9223372036854775807)
    (hd : SliceR intR 1 All w od d) (hdc : d.length ≤ cd) (hdl : d.length ≤ 9223372036854775807) (hp : SliceR intR 1 All w op pk) :
    Calls Try.prog 30 #[.agg #[.int .i64 n, .slice oe es.length c, .slice oa ar.length ca], .agg #[.int .i64 q, .slice ot rot.length ct, .slice od d.length cd, .slice op pk.length cp]] w fun e w' => e = .returned (.bool (smallB n es ar q rot d)) ∧ Below w.heap.size w w' := by
  have hU : Hid (gErr n es = 0 → Uf (forest es) (eL es)) := forest_ok n es
  have C0 := GamCtx.new (n := n) (c := c) (ca := ca) (q := q) (ct := ct) (cd := cd) (cp := cp) hs ha hr hd hp
  obtain ⟨W1, hW1⟩ : ∃ W1, (w.alloc (.cells #[.int .i64 n, .slice oe es.length c, .slice oa ar.length ca] 27)).alloc (.cells #[.int .i64 q, .slice ot rot.length ct, .slice od d.length cd, .slice op pk.length cp] 54) = W1 := ⟨_, rfl⟩
  rw [hW1] at C0
  have HC := hide C0
  have d0 := HC.out.b1.cell 0
  have d1 := HC.out.b1.cell 1
  have d2 := HC.out.b1.cell 2
  have p0 := HC.out.b2.cell 0
  have p1 := HC.out.b2.cell 1
  have p2 := HC.out.b2.cell 2
  have p3 := HC.out.b2.cell 3
  simp only [List.getElem?_cons_zero, List.getElem?_cons_succ] at d0 d1 d2 p0 p1 p2 p3
  clear hs ha hr hd hp C0
  go_enter Try.func30, Try.ntmps30
  go_wp2_with fail
  clear d0 d1 d2 p0 p1 p2 p3
  refine (few45_any n es oe c ar oa ca All All _ HC.out.hes hc hc2 HC.out.har hac hac2 rot ot ct).mono ?_
  rintro e W2 ⟨rfl, hb⟩
  replace HC := hide (HC.out.below hb)
  clear hb hW1
  by_cases hF : few45 n es ar rot = true
  · obtain ⟨hc3, _, _⟩ := few45_yes hF
    have HS : Hid (smallB n es ar q rot d = if d.length ≤ 24 then (if gvE n es (forest es) ar q rot d = 0 then smD d else false) else false) := if_pos hF
    rw [hF]
    clear hF
    have d0 := HC.out.b1.cell 0
    have d1 := HC.out.b1.cell 1
    have d2 := HC.out.b1.cell 2
    have p0 := HC.out.b2.cell 0
    have p1 := HC.out.b2.cell 1
    have p2 := HC.out.b2.cell 2
    have p3 := HC.out.b2.cell 3
    simp only [List.getElem?_cons_zero, List.getElem?_cons_succ] at d0 d1 d2 p0 p1 p2 p3
    go_wp2_with fail
    clear d0 d1 d2 p0 p1 p2 p3
    refine (few17_any d od cd W2).mono ?_
    rintro e W3 ⟨rfl, hb⟩
    replace HC := hide (HC.out.below hb)
    clear hb
    by_cases h24 : d.length ≤ 24
    · have HS2 : Hid (smallB n es ar q rot d = if gvE n es (forest es) ar q rot d = 0 then smD d else false) := by show _ = _; rw [HS.out, if_pos h24]
      have q1 : decide (d.length ≤ 24) = true := by simp [h24]
      rw [q1]
      clear h24 q1 HS
      have d0 := HC.out.b1.cell 0
      have d1 := HC.out.b1.cell 1
      have d2 := HC.out.b1.cell 2
      have p0 := HC.out.b2.cell 0
      have p1 := HC.out.b2.cell 1
      have p2 := HC.out.b2.cell 2
      have p3 := HC.out.b2.cell 3
      simp only [List.getElem?_cons_zero, List.getElem?_cons_succ] at d0 d1 d2 p0 p1 p2 p3
      go_wp2_with fail
      clear d0 d1 d2 p0 p1 p2 p3
      refine (rgiven_any n es oe c ar oa ca All All W3 HC.out.hes hc (by omega) HC.out.har hac hac2 (forest es) hU q rot ot ct All HC.out.hrt hrc hrl d od cd All HC.out.hdd hdc hdl).mono ?_
      rintro e W4 ⟨rfl, hb⟩
      replace HC := hide (HC.out.below hb)
      clear hb
      by_cases hG : gvE n es (forest es) ar q rot d = 0
      · have HS3 : Hid (smallB n es ar q rot d = smD d) := by show _ = _; rw [HS2.out, if_pos hG]
        rw [hG]
        clear hG HS2
        have d0 := HC.out.b1.cell 0
        have d1 := HC.out.b1.cell 1
        have d2 := HC.out.b1.cell 2
        have p0 := HC.out.b2.cell 0
        have p1 := HC.out.b2.cell 1
        have p2 := HC.out.b2.cell 2
        have p3 := HC.out.b2.cell 3
        simp only [List.getElem?_cons_zero, List.getElem?_cons_succ] at d0 d1 d2 p0 p1 p2 p3
        go_wp2_with fail
        clear d0 d1 d2 p0 p1 p2 p3
        refine (smD_any d od cd All W4 HC.out.hdd hdc hdl).mono ?_
        rintro e W5 ⟨rfl, hb⟩
        replace HC := hide (HC.out.below hb)
        clear hb
        go_wp2_with fail
        go_ret
        exact ⟨ret_bool HS3.out.symm, HC.out.low⟩
      · have HS3 : Hid (smallB n es ar q rot d = false) := by show _ = _; rw [HS2.out, if_neg hG]
        have q2 : (gvE n es (forest es) ar q rot d == 0) = false := by simpa using hG
        clear hG HS2
        go_wp2_with fail
        go_ret
        exact ⟨ret_bool HS3.out.symm, HC.out.low⟩
    · have HS2 : Hid (smallB n es ar q rot d = false) := by show _ = _; rw [HS.out, if_neg h24]
      have q1 : decide (d.length ≤ 24) = false := by simp; omega
      rw [q1]
      clear h24 q1 HS
      go_wp2_with fail
      go_ret
      exact ⟨ret_bool HS2.out.symm, HC.out.low⟩
  · have HS : Hid (smallB n es ar q rot d = false) := if_neg hF
    have hF2 : few45 n es ar rot = false := by simpa using hF
    rw [hF2]
    clear hF hF2
    go_wp2_with fail
    go_ret
    exact ⟨ret_bool HS.out.symm, HC.out.low⟩

end Go.Proofs.Ytopldbnlehjlpaa

set_option linter.unusedVariables false
set_option linter.unusedSimpArgs false
set_option linter.unnecessarySimpa false
namespace Go.Proofs.Ytopldbnlehjlpaa
open Go.RowKit

theorem addL_get (l : List Int) (a b : Nat) (x : Int) : (addL l a x).getD b 0 = if a = b ∧ a < l.length then l.getD b 0 + x else l.getD b 0 := by
  unfold addL
  rw [List.getD_eq_getElem?_getD, List.getElem?_set]
  by_cases h : a = b
  · subst h
    by_cases h2 : a < l.length
    · simp [h2]
    · rw [if_pos rfl, if_neg h2, if_neg (by intro hh; exact h2 hh.2), List.getD_eq_getElem?_getD, List.getElem?_eq_none (by omega)]
  · rw [if_neg h, if_neg (by intro hh; exact h hh.1), List.getD_eq_getElem?_getD]
theorem addL_ext {l m : List Int} (h : l.length = m.length) (hg : ∀ b, l.getD b 0 = m.getD b 0) : l = m := by
  apply List.ext_getElem h
  intro i h1 h2
  have := hg i
  rw [getD_of (List.getElem?_eq_getElem h1), getD_of (List.getElem?_eq_getElem h2)] at this
  exact this
theorem addL_comm (l : List Int) (a b : Nat) (x y : Int) : addL (addL l a x) b y = addL (addL l b y) a x := by
  refine addL_ext (by simp [addL_len]) fun c => ?_
  rw [addL_get, addL_get, addL_get, addL_get, addL_len, addL_len]
  split <;> split <;> omega
theorem stpK_set (ar : List (List Int)) (rot : List Int) {u v : Nat} (h : u ≠ v) (k : Int) : stpK ar (rot.set u k) v = stpK ar rot v := by
  unfold stpK
  rw [List.getD_eq_getElem?_getD, List.getElem?_set_ne h, ← List.getD_eq_getElem?_getD]
theorem stpV_set (ar : List (List Int)) (E : List (Int × Int)) (rot : List Int) {u v : Nat} (h : u ≠ v) (k : Int) : stpV ar E (rot.set u k) v = stpV ar E rot v := by
  unfold stpV
  rw [stpK_set ar rot h]
/-- Two moves at different vertices, in either order. -/
theorem mvS_comm (ar : List (List Int)) (E : List (Int × Int)) (s : MSt) {u v : Nat} (h : u ≠ v) : mvS ar E (mvS ar E s u) v = mvS ar E (mvS ar E s v) u := by
  unfold mvS stpR
  simp only
  rw [stpK_set ar s.1 h, stpK_set ar s.1 (Ne.symm h), stpV_set ar E s.1 h, stpV_set ar E s.1 (Ne.symm h), List.set_comm _ _ h, addL_comm s.2.2 u v]
  congr 2
  rw [addL_comm (addL s.2.1 u (-1)) (stpV ar E s.1 u) v 1 (-1), addL_comm s.2.1 u v (-1) (-1), addL_comm (addL (addL s.2.1 v (-1)) u (-1)) (stpV ar E s.1 u) (stpV ar E s.1 v) 1 1, addL_comm (addL s.2.1 v (-1)) u (stpV ar E s.1 v) (-1) 1]

def Can (q : Nat) (s : MSt) (v : Nat) : Prop := v < s.2.1.length ∧ v ≠ q ∧ 0 < s.2.1.getD v 0
inductive Run (ar : List (List Int)) (E : List (Int × Int)) (q : Nat) : MSt → List Nat → MSt → Prop
  | nil (s : MSt) : Run ar E q s [] s
  | cons {s t : MSt} {v : Nat} {l : List Nat} : Can q s v → Run ar E q (mvS ar E s v) l t → Run ar E q s (v :: l) t
theorem Can.keep {ar : List (List Int)} {E : List (Int × Int)} {q u v : Nat} {s : MSt} (h : Can q s v) (hne : u ≠ v) : Can q (mvS ar E s u) v := by
  obtain ⟨h1, h2, h3⟩ := h
  refine ⟨by simp [mvS, addL_len]; exact h1, h2, ?_⟩
  show 0 < (addL (addL s.2.1 u (-1)) (stpV ar E s.1 u) 1).getD v 0
  rw [addL_get, addL_get, if_neg (c := u = v ∧ u < s.2.1.length) (by intro hh; exact hne hh.1)]
  split <;> omega
/-- Whoever can move may move first. -/
theorem Run.front {ar : List (List Int)} {E : List (Int × Int)} {q : Nat} {s t : MSt} {m : List Nat} (h : Run ar E q s m t) (hd : ∀ v, ¬ Can q t v) : ∀ v, Can q s v → ∃ m', Run ar E q (mvS ar E s v) m' t ∧ m.length = m'.length + 1 := by
  induction h with
  | nil s => exact fun v hv => absurd hv (hd v)
  | @cons s t u l hu hr ih =>
    intro v hv
    by_cases e : u = v
    · subst e
      exact ⟨l, hr, by simp⟩
    · obtain ⟨m', h1, h2⟩ := ih hd v (hv.keep e)
      rw [mvS_comm ar E s e] at h1
      exact ⟨u :: m', .cons (hu.keep (Ne.symm e)) h1, by simp [h2]⟩
/-- A run that ends is as long as every other one that ends, and ends in the same state; no run is longer. -/
theorem Run.rest {ar : List (List Int)} {E : List (Int × Int)} {q : Nat} {s t2 : MSt} {m2 : List Nat} (h2 : Run ar E q s m2 t2) : ∀ {t : MSt} {m : List Nat}, Run ar E q s m t → (∀ v, ¬ Can q t v) → ∃ m3, Run ar E q t2 m3 t ∧ m.length = m2.length + m3.length := by
  induction h2 with
  | nil s => exact fun h hd => ⟨_, h, by simp⟩
  | @cons s t2 v l hv hr ih =>
    intro t m h hd
    obtain ⟨m', h1, h3⟩ := h.front hd v hv
    obtain ⟨m3, h4, h5⟩ := ih h1 hd
    exact ⟨m3, h4, by simp; omega⟩
theorem Run.same {ar : List (List Int)} {E : List (Int × Int)} {q : Nat} {s t t2 : MSt} {m m2 : List Nat} (h : Run ar E q s m t) (hd : ∀ v, ¬ Can q t v) (h2 : Run ar E q s m2 t2) (hd2 : ∀ v, ¬ Can q t2 v) : t2 = t ∧ m2.length = m.length := by
  obtain ⟨m3, h3, h4⟩ := h2.rest h hd
  cases h3 with
  | nil => exact ⟨rfl, by simp at h4; omega⟩
  | cons hv _ => exact absurd hv (hd2 _)
theorem Run.append {ar : List (List Int)} {E : List (Int × Int)} {q : Nat} {s t u : MSt} {m l : List Nat} (h : Run ar E q s m t) (h2 : Run ar E q t l u) : Run ar E q s (m ++ l) u := by
  induction h with
  | nil s => simpa using h2
  | cons hv _ ih => exact .cons hv (ih h2)

end Go.Proofs.Ytopldbnlehjlpaa

set_option linter.unusedVariables false
set_option linter.unusedSimpArgs false
set_option linter.unnecessarySimpa false
namespace Go.Proofs.Ytopldbnlehjlpaa
open Go.RowKit

theorem first_or (f : Nat → Nat) (q : Nat) : ∀ M, (∃ i, i < M ∧ f i = q ∧ ∀ j, j < i → f j ≠ q) ∨ ∀ j, j < M → f j ≠ q
  | 0 => .inr fun j hj => absurd hj (by omega)
  | M + 1 => by
    rcases first_or f q M with ⟨i, h1, h2, h3⟩ | h
    · exact .inl ⟨i, by omega, h2, h3⟩
    · by_cases hM : f M = q
      · exact .inl ⟨M, by omega, hM, h⟩
      · refine .inr fun j hj => ?_
        rcases Nat.lt_or_ge j M with h1 | h1
        · exact h j h1
        · rw [show j = M by omega]; exact hM

theorem sum_set : ∀ (l : List Int) (v : Nat) (x : Int), v < l.length → (addL l v x).sum = l.sum + x
  | [], v, x, h => by simp at h
  | a :: l, 0, x, _ => by simp [addL]; omega
  | a :: l, v + 1, x, h => by
    have := sum_set l v x (by simpa using h)
    simp [addL] at this ⊢
    omega
theorem addL_undo {l : List Int} {v : Nat} {x y : Int} (h : x + y = 0) : addL (addL l v x) v y = l := by
  refine addL_ext (by simp [addL_len]) fun b => ?_
  rw [addL_get, addL_get, addL_len]
  split <;> omega

section
variable {ar : List (List Int)} {E : List (Int × Int)} {q : Nat}

theorem Run.len {s t : MSt} {m : List Nat} (h : Run ar E q s m t) : t.2.1.length = s.2.1.length ∧ t.2.2.length = s.2.2.length := by
  induction h with
  | nil s => exact ⟨rfl, rfl⟩
  | cons hv _ ih => exact ⟨by rw [ih.1]; simp [mvS, addL_len], by rw [ih.2]; simp [mvS, addL_len]⟩
theorem Run.total {s t : MSt} {m : List Nat} (h : Run ar E q s m t) (hl : s.2.2.length = s.2.1.length) : t.2.2.sum = s.2.2.sum + m.length := by
  induction h with
  | nil s => simp
  | @cons s t v l hv _ ih =>
    rw [ih (by simp [mvS, addL_len, hl])]
    show (addL s.2.2 v 1).sum + _ = _
    rw [sum_set _ _ _ (by rw [hl]; exact hv.1)]
    simp
    omega
theorem live_none {s : MSt} : (liveL q s.2.1).length = 0 ↔ ∀ v, ¬ Can q s v := by
  unfold liveL liveP
  rw [List.length_map, List.length_eq_zero_iff, List.filter_eq_nil_iff]
  constructor
  · intro h v hv
    exact h v (by simpa using hv.1) (by simp only [decide_eq_true_eq]; exact ⟨hv.2.1, hv.2.2⟩)
  · intro h v hv hh
    simp only [decide_eq_true_eq] at hh
    exact h v ⟨by simpa using hv, hh.1, hh.2⟩
theorem mvN_run {pk : Nat → List Int → Int} (hpk : Picks pk) (s : MSt) : ∀ i, (∀ j, j < i → (liveL q (mvN ar E q pk s j).2.1).length ≠ 0) → ∃ m, Run ar E q s m (mvN ar E q pk s i) ∧ m.length = i
  | 0, _ => ⟨[], .nil _, rfl⟩
  | i + 1, h => by
    obtain ⟨m, h1, h2⟩ := mvN_run hpk s i fun j hj => h j (by omega)
    have hm := hpk i _ (by intro e; exact h i (by omega) (by rw [e]; rfl) : liveL q (mvN ar E q pk s i).2.1 ≠ [])
    obtain ⟨v, h3, h4, h5, h6⟩ := live_mem hm
    refine ⟨m ++ [v], h1.append (.cons ⟨h4, h5, h6⟩ ?_), by simp [h2]⟩
    have e : mvN ar E q pk s (i + 1) = mvS ar E (mvN ar E q pk s i) v := by
      show mvS ar E (mvN ar E q pk s i) (pk i (liveL q (mvN ar E q pk s i).2.1)).toNat = _
      rw [h3]; rfl
    rw [e]
    exact .nil _

/-- However it is picked: the same. -/
theorem moves_half {M : Nat} {pk pk' : Nat → List Int → Int} (h1 : Picks pk) (h2 : Picks pk') {rot d : List Int} {i : Nat} (hi : i < M) (h3 : (liveL q (mvN ar E q pk (start rot d d.length) i).2.1).length = 0)
    (h4 : ∀ j, j < i → (liveL q (mvN ar E q pk (start rot d d.length) j).2.1).length ≠ 0) : movesUp M ar E q pk' rot d = movesUp M ar E q pk rot d := by
  obtain ⟨m, r1, r2⟩ := mvN_run h1 _ i h4
  have hd := live_none.1 h3
  rcases first_or (fun i => (liveL q (mvN ar E q pk' (start rot d d.length) i).2.1).length) 0 M with ⟨k, k1, k2, k3⟩ | hn
  · obtain ⟨m', s1, s2⟩ := mvN_run h2 _ k k3
    obtain ⟨e1, e2⟩ := r1.same hd s1 (live_none.1 k2)
    rw [movesUp_hit hi rfl h3 h4, movesUp_hit k1 rfl k2 k3, e1]
  · obtain ⟨m', s1, s2⟩ := mvN_run h2 _ M hn
    obtain ⟨m3, _, e⟩ := s1.rest r1 hd
    omega
theorem moves_same (M : Nat) {pk pk' : Nat → List Int → Int} (h1 : Picks pk) (h2 : Picks pk') (rot d : List Int) : movesUp M ar E q pk rot d = movesUp M ar E q pk' rot d := by
  rcases first_or (fun i => (liveL q (mvN ar E q pk (start rot d d.length) i).2.1).length) 0 M with ⟨k, k1, k2, k3⟩ | hn
  · exact (moves_half h1 h2 k1 k2 k3).symm
  · rcases first_or (fun i => (liveL q (mvN ar E q pk' (start rot d d.length) i).2.1).length) 0 M with ⟨k, k1, k2, k3⟩ | hn'
    · exact moves_half h2 h1 k1 k2 k3
    · rw [movesUp_none hn, movesUp_none hn']
theorem movesOf_same {pk pk' : Nat → List Int → Int} (h1 : Picks pk) (h2 : Picks pk') (rot d : List Int) : movesOf ar E q pk rot d = movesOf ar E q pk' rot d := moves_same _ h1 h2 rot d

/-- A chip that is routed. -/
theorem chip_run {rot d t : List Int} {v : Nat} (hn : ∀ u, u ≠ q → 0 ≤ d.getD u 0) (hv : v < d.length) (hp : v ≠ q → 0 < d.getD v 0) (hb : ∀ i, (∀ j, j < i → chipV ar E rot v j ≠ q) → chipV ar E rot v i < d.length) :
    ∀ i, (∀ j, j < i → chipV ar E rot v j ≠ q) → ∃ m t', Run ar E q (rot, d, t) m (rotI ar E rot v i, addL (addL d v (-1)) (chipV ar E rot v i) 1, t') ∧ m.length = i
  | 0, _ => ⟨[], t, by
    show Run ar E q (rot, d, t) [] (rot, addL (addL d v (-1)) v 1, t)
    rw [addL_undo (by omega)]
    exact .nil _, rfl⟩
  | i + 1, h => by
    obtain ⟨m, t', h1, h2⟩ := chip_run (t := t) hn hv hp hb i fun j hj => h j (by omega)
    have hq := h i (by omega)
    have hvq : v ≠ q := h 0 (by omega)
    refine ⟨m ++ [chipV ar E rot v i], addL t' (chipV ar E rot v i) 1, h1.append (.cons ⟨?_, hq, ?_⟩ ?_), by simp [h2]⟩
    · simp only [addL_len]
      exact hb i fun j hj => h j (by omega)
    · have := hb i fun j hj => h j (by omega)
      have h3 := hn _ hq
      have h4 := hp hvq
      show 0 < (addL (addL d v (-1)) (chipV ar E rot v i) 1).getD (chipV ar E rot v i) 0
      rw [addL_get, addL_len, if_pos ⟨rfl, this⟩, addL_get]
      split
      · rename_i h5
        rw [← h5.1]
        omega
      · omega
    · have : mvS ar E (rotI ar E rot v i, addL (addL d v (-1)) (chipV ar E rot v i) 1, t') (chipV ar E rot v i) = (rotI ar E rot v (i + 1), addL (addL d v (-1)) (chipV ar E rot v (i + 1)) 1, addL t' (chipV ar E rot v i) 1) := by
        unfold mvS
        simp only
        rw [addL_undo (l := addL d v (-1)) (v := chipV ar E rot v i) (x := 1) (y := -1) (by omega)]
        rfl
      rw [this]
      exact .nil _

end

/-- Behind the chips of the vertices below v, and j chips of v. -/
def AddSt (n : Int) (es : List Edg) (ar : List (List Int)) (q : Nat) (rot d : List Int) (v j : Nat) (now : List Int) (steps : Nat) : Prop :=
  ∃ m D t', Run ar (endsL es) q (start rot d d.length) m (now, D, t') ∧ m.length = steps ∧ RtOk n es ar q now ∧ D.length = d.length ∧ (∀ u, u ≠ q → 0 ≤ D.getD u 0) ∧
    (∀ u, u ≠ q → u < v → D.getD u 0 = 0) ∧ (∀ u, u ≠ q → v < u → D.getD u 0 = d.getD u 0) ∧ (v ≠ q → D.getD v 0 = d.getD v 0 - j)
theorem AddSt.rotors {n : Int} {es : List Edg} {ar : List (List Int)} {q : Nat} {rot d : List Int} {v j : Nat} {now : List Int} {steps : Nat} (h : AddSt n es ar q rot d v j now steps) : RtOk n es ar q now := by
  obtain ⟨_, _, _, _, _, h3, _⟩ := h
  exact h3
theorem AddSt.begin {n : Int} {es : List Edg} {ar : List (List Int)} {q : Nat} {rot d : List Int} (h : RtOk n es ar q rot) (hn : ∀ u, u ≠ q → 0 ≤ d.getD u 0) : AddSt n es ar q rot d 0 0 rot 0 :=
  ⟨[], d, _, .nil _, rfl, h, rfl, hn, fun u _ hu => absurd hu (by omega), fun _ _ _ => rfl, fun _ => by simp⟩
theorem AddSt.next {n : Int} {es : List Edg} {ar : List (List Int)} {q : Nat} {rot d : List Int} {v j : Nat} {now : List Int} {steps : Nat} (h : AddSt n es ar q rot d v j now steps) (hj : v ≠ q → (d.getD v 0) ≤ j) : AddSt n es ar q rot d (v + 1) 0 now steps := by
  obtain ⟨m, D, t', h1, h2, h3, h4, h5, h6, h7, h8⟩ := h
  refine ⟨m, D, t', h1, h2, h3, h4, h5, fun u hu hlt => ?_, fun u hu hlt => h7 u hu (by omega), fun hu => by rw [h7 (v + 1) hu (by omega)]; simp⟩
  rcases Nat.lt_or_ge u v with hl | hl
  · exact h6 u hu hl
  · have : u = v := by omega
    subst this
    have a1 := h8 hu
    have a2 := h5 u hu
    have a3 := hj hu
    omega
theorem AddSt.step {n : Int} {es : List Edg} {ar : List (List Int)} {q : Nat} {rot d : List Int} {v j : Nat} {now : List Int} {steps M : Nat} {mm : List Nat} {tt : MSt} (h : AddSt n es ar q rot d v j now steps) (hd : d.length = ar.length) (hv : v < d.length) (hj : (j : Int) < d.getD v 0)
    (hr : Run ar (endsL es) q (start rot d d.length) mm tt) (ht : ∀ u, ¬ Can q tt u) (hM : mm.length < M) :
    ∃ i, i < M ∧ chipV ar (endsL es) now v i = q ∧ (∀ k, k < i → chipV ar (endsL es) now v k ≠ q) ∧ AddSt n es ar q rot d v (j + 1) (rotI ar (endsL es) now v i) (steps + i) ∧ RtOk n es ar q (rotI ar (endsL es) now v i) ∧ steps + i ≤ mm.length := by
  obtain ⟨m, D, t', h1, h2, h3, h4, h5, h6, h7, h8⟩ := h
  have hb : ∀ i, (∀ k, k < i → chipV ar (endsL es) now v k ≠ q) → chipV ar (endsL es) now v i < D.length := fun i hi => by
    have := (h3.along (by omega : v < ar.length) i hi).2
    rw [h4, hd]; exact this
  have hR := chip_run (t := t') h5 (by omega : v < D.length) (fun hq => by have := h8 hq; omega) hb
  rcases first_or (chipV ar (endsL es) now v) q M with ⟨i, i1, i2, i3⟩ | hn
  · obtain ⟨m2, t2, r1, r2⟩ := hR i i3
    rw [i2] at r1
    have hrun := h1.append r1
    have hrt := (h3.along (by omega : v < ar.length) i i3).1
    refine ⟨i, i1, i2, i3, ⟨m ++ m2, _, t2, hrun, by simp; omega, hrt, by simp [addL_len, h4], fun u hu => ?_, fun u hu hl => ?_, fun u hu hl => ?_, fun hu => ?_⟩, hrt, ?_⟩
    · rw [addL_get, addL_get, if_neg (c := q = u ∧ _) (by intro hh; exact hu hh.1.symm)]
      split
      · rename_i h9
        have := h8 (by rw [h9.1]; exact hu)
        rw [← h9.1]
        omega
      · exact h5 u hu
    · rw [addL_get, addL_get, if_neg (c := q = u ∧ _) (by intro hh; exact hu hh.1.symm), if_neg (by omega)]
      exact h6 u hu hl
    · rw [addL_get, addL_get, if_neg (c := q = u ∧ _) (by intro hh; exact hu hh.1.symm), if_neg (by omega)]
      exact h7 u hu hl
    · rw [addL_get, addL_get, if_neg (c := q = v ∧ _) (by intro hh; exact hu hh.1.symm), if_pos ⟨rfl, by omega⟩, h8 hu]
      omega
    · obtain ⟨m3, _, e⟩ := hrun.rest hr ht
      simp at e
      omega
  · obtain ⟨m2, t2, r1, r2⟩ := hR M hn
    obtain ⟨m3, _, e⟩ := (h1.append r1).rest hr ht
    simp at e
    omega
theorem AddSt.finish {n : Int} {es : List Edg} {ar : List (List Int)} {q : Nat} {rot d : List Int} {now : List Int} {steps : Nat} {mm : List Nat} {tt : MSt} (h : AddSt n es ar q rot d d.length 0 now steps)
    (hr : Run ar (endsL es) q (start rot d d.length) mm tt) (ht : ∀ u, ¬ Can q tt u) : now = tt.1 ∧ (steps : Int) = tt.2.2.sum := by
  obtain ⟨m, D, t', h1, h2, h3, h4, h5, h6, h7, h8⟩ := h
  obtain ⟨e1, e2⟩ := hr.same ht h1 (fun u hc => by
    have := h6 u hc.2.1 (by have := hc.1; simp only at this; omega)
    have h9 := hc.2.2
    simp only at h9
    omega)
  have := hr.total (by simp [start])
  refine ⟨by rw [← e1], ?_⟩
  rw [this]
  simp [start]
  omega

/-- What the program's All says of runs. -/
theorem moves_case {ar : List (List Int)} {E : List (Int × Int)} {q : Nat} {pk : Nat → List Int → Int} (hpk : Picks pk) (M : Nat) (rot d : List Int) :
    (∃ m s, movesUp M ar E q pk rot d = (s.1, s.2.2, 0) ∧ Run ar E q (start rot d d.length) m s ∧ (∀ u, ¬ Can q s u) ∧ m.length < M) ∨ movesUp M ar E q pk rot d = ([], [], 12) := by
  rcases first_or (fun i => (liveL q (mvN ar E q pk (start rot d d.length) i).2.1).length) 0 M with ⟨k, k1, k2, k3⟩ | hn
  · obtain ⟨m, r1, r2⟩ := mvN_run hpk _ k k3
    exact .inl ⟨m, _, movesUp_hit k1 rfl k2 k3, r1, live_none.1 k2, by omega⟩
  · exact .inr (movesUp_none hn)

end Go.Proofs.Ytopldbnlehjlpaa

set_option linter.unusedVariables false
set_option linter.unusedSimpArgs false
set_option linter.unnecessarySimpa false
namespace Go.Proofs.Ytopldbnlehjlpaa
open Go.RowKit

theorem movesOf_case {ar : List (List Int)} {E : List (Int × Int)} {q : Nat} {pk : Nat → List Int → Int} (hpk : Picks pk) (rot d : List Int) :
    (∃ a b, movesOf ar E q pk rot d = (a, b, 0)) ∨ movesOf ar E q pk rot d = ([], [], 12) := by
  rcases moves_case (ar := ar) (E := E) (q := q) hpk 1048577 rot d with ⟨m, s, h, _⟩ | h
  · exact .inl ⟨_, _, h⟩
  · exact .inr h

section
variable (n : Int) (es : List Edg) (oe : Option Addr) (c : Nat) (ar : List (List Int)) (oa : Option Addr) (ca : Nat) (F G : Foot) (w : World) (hs : SliceR edgR 3 F w oe es) (hc : es.length ≤ c) (hc2 : es.length ≤ 1000)
    (ha : SliceR (slcR intR 1) 1 G w oa ar) (hac : ar.length ≤ ca) (hac2 : ar.length ≤ 9223372036854775807) (f : List Nat) (hU : Hid (gErr n es = 0 → Uf f (eL es)))
    (q : Int) (rot : List Int) (ot : Option Addr) (ct : Nat) (H : Foot) (hr : SliceR intR 1 H w ot rot) (hrc : rot.length ≤ ct) (hrl : rot.length ≤ 9223372036854775807)
    (d : List Int) (od : Option Addr) (cd : Nat) (D : Foot) (hd : SliceR intR 1 D w od d) (hdc : d.length ≤ cd) (hdl : d.length ≤ 9223372036854775807)
include hs hc hc2 ha hac hac2 hU hr hrc hrl hd hdc hdl

set_option maxRecDepth 100000 in
set_option maxHeartbeats 4000000 in
theorem refAll_any : Calls Try.prog 28 #[.agg #[.int .i64 n, .slice oe es.length c, .slice oa ar.length ca], .int .i64 q, .slice ot rot.length ct, .slice od d.length cd] w (MovesPost w.heap.size w (allRes n es f ar q rot d)) := by
  go_enter Try.func28, Try.ntmps28
  go_wp2_with fail
  have hb0 := box_refl w (.cells #[.int .i64 n, .slice oe es.length c, .slice oa ar.length ca] 27)
  refine (rgiven_any n es oe c ar oa ca F G _ (hs.below edgR_ok (below_box hb0)) hc hc2 (ha.below (slcR_ok intR_ok (by decide)) (below_box hb0)) hac hac2 f hU q rot ot ct H (hr.below intR_ok (below_box hb0)) hrc hrl d od cd D (hd.below intR_ok (below_box hb0)) hdc hdl).mono ?_
  rintro e w2 ⟨rfl, hb2⟩
  have hx2 := hb2.mono (B' := w.heap.size + 1) (by simp)
  have d0 := box_cell hx2 0
  have d1 := box_cell hx2 1
  have d2 := box_cell hx2 2
  simp at d0 d1 d2
  have HX := hide (below_box hx2)
  clear hb2 hb0 hx2
  by_cases hG : gvE n es f ar q rot d = 0
  · have HA : Hid (allRes n es f ar q rot d = movesOf ar (endsL es) q.toNat pk0 rot d) := if_pos hG
    obtain ⟨h1, h2⟩ := gvE_zero hG
    obtain ⟨q', rfl, hok⟩ := RtOk.of h1 hc2
    obtain ⟨_, k2, k3⟩ := dErr_zero h2
    have hda : d.length = ar.length := by have := hok.nar; omega
    have hm : Hid (∀ x ∈ es, x.m ≤ 50) := rt_mult h1
    have HM : Hid (movesOf ar (endsL es) q' (pkL [0]) rot d = movesOf ar (endsL es) q' pk0 rot d) := movesOf_same (pkL_ok _) pk0_ok rot d
    have HOK := hide (And.intro hok (And.intro hda k3))
    rw [hG]
    clear hG h1 h2 hok k2 k3 hda
    have hbl := HX.out.trans ((bnew (Below.refl _ w2) (.cells #[.int .i64 0] 3)).mono HX.out.size)
    have HL := hide (ints_lit (F := Non) (G := All) w2 3 [0] (by intro x hx; simp at hx; subst hx; constructor <;> omega) trivial)
    have HBL := hide hbl
    clear hbl
    go_wp2_with fail
    refine (moved_any n es oe c ar oa ca F G _ (hs.below edgR_ok HBL.out) hc hc2 (ha.below (slcR_ok intR_ok (by decide)) HBL.out) hac hac2 hm q' rot ot ct H (hr.below intR_ok HBL.out) hrc HOK.out.1 d od cd D (hd.below intR_ok HBL.out) hdc HOK.out.2.1 HOK.out.2.2 [0] _ 1 All HL.out (by simp) (by simp) (by simp) (by simp)).mono ?_
    rintro e w3 ⟨rv, cv, rfl, ho1, ho2, hb3⟩
    rw [HM.out] at ho1 ho2
    rw [HM.out]
    have HO := hide (And.intro (ho1.rebase (base' := w.heap.size) HBL.out.size) (And.intro (ho2.rebase (base' := w.heap.size) HBL.out.size) (HBL.out.trans (hb3.mono HBL.out.size))))
    clear ho1 ho2 hb3
    rcases movesOf_case (ar := ar) (E := endsL es) (q := q') pk0_ok rot d with ⟨a, b, hc0⟩ | hc0
    · have HC := hide hc0
      rw [hc0]
      clear hc0
      go_wp2_with fail
      refine bodyPost_ret (results_tmp3 rfl _ _ _) rfl ⟨_, _, by rw [HA.out]; simp only [Int.toNat_natCast]; rw [HC.out]; rfl, ?_⟩
      rw [HA.out]
      simp only [Int.toNat_natCast]
      exact HO.out
    · have HC := hide hc0
      rw [hc0]
      clear hc0
      go_wp2_with fail
      refine bodyPost_ret (results_tmp3 rfl _ _ _) rfl ⟨_, _, by rw [HA.out]; simp only [Int.toNat_natCast]; rw [HC.out]; rfl, ?_⟩
      rw [HA.out]
      simp only [Int.toNat_natCast]
      rw [HC.out]
      exact ⟨OwnS.nil _ _ _ _ _ _, OwnS.nil _ _ _ _ _ _, HO.out.2.2⟩
  · have HA : Hid (allRes n es f ar q rot d = ([], [], gvE n es f ar q rot d)) := if_neg hG
    have hq : (gvE n es f ar q rot d != 0) = true := by simpa using hG
    clear hG
    go_wp2_with fail
    refine bodyPost_ret (results_tmp3 rfl _ _ _) rfl ⟨_, _, by rw [HA.out]; rfl, ?_⟩
    rw [HA.out]
    exact ⟨OwnS.nil _ _ _ _ _ _, OwnS.nil _ _ _ _ _ _, HX.out⟩
end

/-- What the laws on chips take in. -/
def fewC (n : Int) (es : List Edg) (ar : List (List Int)) (q : Int) (rot d : List Int) : Bool :=
  if few45 n es ar rot = true then (if d.length ≤ 24 then (if smD d = true then true else decide (gvE n es (forest es) ar q rot d ≠ 0)) else false) else false
theorem fewC_yes {n : Int} {es : List Edg} {ar : List (List Int)} {q : Int} {rot d : List Int} (h : fewC n es ar q rot d = true) : few45 n es ar rot = true := by
  unfold fewC at h
  split at h
  · rename_i h1; exact h1
  · cases h

set_option maxRecDepth 100000 in
set_option maxHeartbeats 4000000 in
theorem fewC_any (n : Int) (es : List Edg) (oe : Option Addr) (c : Nat) (ar : List (List Int)) (oa : Option Addr) (ca : Nat) (F G : Foot) (w : World) (hs : SliceR edgR 3 F w oe es) (hc : es.length ≤ c) (hc2 : es.length ≤ 9223372036854775807)
    (ha : SliceR (slcR intR 1) 1 G w oa ar) (hac : ar.length ≤ ca) (hac2 : ar.length ≤ 9223372036854775807)
    (q : Int) (rot : List Int) (ot : Option Addr) (ct : Nat) (H : Foot) (hr : SliceR intR 1 H w ot rot) (hrc : rot.length ≤ ct) (hrl : rot.length ≤ 9223372036854775807)
    (d : List Int) (od : Option Addr) (cd : Nat) (D : Foot) (hd : SliceR intR 1 D w od d) (hdc : d.length ≤ cd) (hdl : d.length ≤ 9223372036854775807) :
    Calls Try.prog 26 #[.agg #[.int .i64 n, .slice oe es.length c, .slice oa ar.length ca], .int .i64 q, .slice ot rot.length ct, .slice od d.length cd] w fun e w' => e = .returned (.bool (fewC n es ar q rot d)) ∧ Below w.heap.size w w' := by
  have hU : Hid (gErr n es = 0 → Uf (forest es) (eL es)) := forest_ok n es
  go_enter Try.func26, Try.ntmps26
  go_wp2_with fail
  have hb0 := box_refl w (.cells #[.int .i64 n, .slice oe es.length c, .slice oa ar.length ca] 27)
  refine (few45_any n es oe c ar oa ca F G _ (hs.below edgR_ok (below_box hb0)) hc hc2 (ha.below (slcR_ok intR_ok (by decide)) (below_box hb0)) hac hac2 rot ot ct).mono ?_
  rintro e w2 ⟨rfl, hb2⟩
  have hx2 := hb2.mono (B' := w.heap.size + 1) (by simp)
  have HX := hide hx2
  clear hb2 hb0 hx2
  by_cases hF : few45 n es ar rot = true
  · obtain ⟨hc3, _, _⟩ := few45_yes hF
    have HR : Hid (fewC n es ar q rot d = if d.length ≤ 24 then (if smD d = true then true else decide (gvE n es (forest es) ar q rot d ≠ 0)) else false) := if_pos hF
    rw [hF]
    clear hF
    go_wp2_with fail
    refine (few17_any d od cd w2).mono ?_
    rintro e w3 ⟨rfl, hb3⟩
    have HX3 := hide (HX.out.trans (hb3.mono (by have := HX.out.size; simpa using this)))
    clear hb3
    by_cases h24 : d.length ≤ 24
    · have HR2 : Hid (fewC n es ar q rot d = if smD d = true then true else decide (gvE n es (forest es) ar q rot d ≠ 0)) := by show _ = _; rw [HR.out, if_pos h24]
      have q1 : decide (d.length ≤ 24) = true := by simp [h24]
      rw [q1]
      clear h24 q1
      go_wp2_with fail
      refine (smD_any d od cd D w3 (hd.below intR_ok (below_box HX3.out)) hdc hdl).mono ?_
      rintro e w4 ⟨rfl, hb4⟩
      have HX4 := hide (HX3.out.trans (hb4.mono (by have := HX3.out.size; simpa using this)))
      clear hb4
      by_cases hS : smD d = true
      · have HR3 : Hid (fewC n es ar q rot d = true) := by show _ = _; rw [HR2.out, if_pos hS]
        rw [hS]
        clear hS
        go_wp2_with fail
        go_ret
        exact ⟨ret_bool HR3.out.symm, below_box HX4.out⟩
      · have HR3 : Hid (fewC n es ar q rot d = decide (gvE n es (forest es) ar q rot d ≠ 0)) := by show _ = _; rw [HR2.out, if_neg hS]
        have hS2 : smD d = false := by simpa using hS
        rw [hS2]
        clear hS hS2
        have d0 := box_cell HX4.out 0
        have d1 := box_cell HX4.out 1
        have d2 := box_cell HX4.out 2
        simp at d0 d1 d2
        go_wp2_with fail
        refine (rgiven_any n es oe c ar oa ca F G w4 (hs.below edgR_ok (below_box HX4.out)) hc (by omega) (ha.below (slcR_ok intR_ok (by decide)) (below_box HX4.out)) hac hac2 (forest es) hU q rot ot ct H (hr.below intR_ok (below_box HX4.out)) hrc hrl d od cd D (hd.below intR_ok (below_box HX4.out)) hdc hdl).mono ?_
        rintro e w5 ⟨rfl, hb5⟩
        have HX5 := hide (HX4.out.trans (hb5.mono (by have := HX4.out.size; simpa using this)))
        clear hb5
        have HR4 : Hid (fewC n es ar q rot d = (gvE n es (forest es) ar q rot d != 0)) := by
          show _ = _
          rw [HR3.out]
          by_cases hz : gvE n es (forest es) ar q rot d = 0 <;> simp [hz]
        go_wp2_with fail
        go_ret
        exact ⟨ret_bool HR4.out.symm, below_box HX5.out⟩
    · have HR2 : Hid (fewC n es ar q rot d = false) := by show _ = _; rw [HR.out, if_neg h24]
      have q1 : decide (d.length ≤ 24) = false := by simp; omega
      rw [q1]
      clear h24 q1
      go_wp2_with fail
      go_ret
      exact ⟨ret_bool HR2.out.symm, below_box HX3.out⟩
  · have HR : Hid (fewC n es ar q rot d = false) := if_neg hF
    have hF2 : few45 n es ar rot = false := by simpa using hF
    rw [hF2]
    clear hF hF2
    go_wp2_with fail
    go_ret
    exact ⟨ret_bool HR.out.symm, below_box HX.out⟩

end Go.Proofs.Ytopldbnlehjlpaa

set_option linter.unusedVariables false
set_option linter.unusedSimpArgs false
set_option linter.unnecessarySimpa false
namespace Go.Proofs.Ytopldbnlehjlpaa
open Go.RowKit

def pickRes (n : Int) (es : List Edg) (f : List Nat) (ar : List (List Int)) (q : Int) (rot d pk : List Int) : List Int × List Int × Int :=
  if gvE n es f ar q rot d = 0 then (if pkE pk = 0 then movesOf ar (endsL es) q.toNat (pkL pk) rot d else ([], [], pkE pk)) else ([], [], gvE n es f ar q rot d)

section
variable (n : Int) (es : List Edg) (oe : Option Addr) (c : Nat) (ar : List (List Int)) (oa : Option Addr) (ca : Nat) (F G : Foot) (w : World) (hs : SliceR edgR 3 F w oe es) (hc : es.length ≤ c) (hc2 : es.length ≤ 1000)
    (ha : SliceR (slcR intR 1) 1 G w oa ar) (hac : ar.length ≤ ca) (hac2 : ar.length ≤ 9223372036854775807) (f : List Nat) (hU : Hid (gErr n es = 0 → Uf f (eL es)))
    (q : Int) (rot : List Int) (ot : Option Addr) (ct : Nat) (H : Foot) (hr : SliceR intR 1 H w ot rot) (hrc : rot.length ≤ ct) (hrl : rot.length ≤ 9223372036854775807)
    (d : List Int) (od : Option Addr) (cd : Nat) (D : Foot) (hd : SliceR intR 1 D w od d) (hdc : d.length ≤ cd) (hdl : d.length ≤ 9223372036854775807)
    (pk : List Int) (op : Option Addr) (cp : Nat) (PF : Foot) (hp : SliceR intR 1 PF w op pk) (hpc : pk.length ≤ cp) (hpl : pk.length ≤ 9223372036854775807)
include hs hc hc2 ha hac hac2 hU hr hrc hrl hd hdc hdl hp hpc hpl

set_option maxRecDepth 100000 in
set_option maxHeartbeats 4000000 in
theorem refPicked_any : Calls Try.prog 36 #[.agg #[.int .i64 n, .slice oe es.length c, .slice oa ar.length ca], .int .i64 q, .slice ot rot.length ct, .slice od d.length cd, .slice op pk.length cp] w (MovesPost w.heap.size w (pickRes n es f ar q rot d pk)) := by
  go_enter Try.func36, Try.ntmps36
  go_wp2_with fail
  have hb0 := box_refl w (.cells #[.int .i64 n, .slice oe es.length c, .slice oa ar.length ca] 27)
  refine (rgiven_any n es oe c ar oa ca F G _ (hs.below edgR_ok (below_box hb0)) hc hc2 (ha.below (slcR_ok intR_ok (by decide)) (below_box hb0)) hac hac2 f hU q rot ot ct H (hr.below intR_ok (below_box hb0)) hrc hrl d od cd D (hd.below intR_ok (below_box hb0)) hdc hdl).mono ?_
  rintro e w2 ⟨rfl, hb2⟩
  have hx2 := hb2.mono (B' := w.heap.size + 1) (by simp)
  have HX := hide hx2
  clear hb2 hb0 hx2
  by_cases hG : gvE n es f ar q rot d = 0
  · have HA : Hid (pickRes n es f ar q rot d pk = if pkE pk = 0 then movesOf ar (endsL es) q.toNat (pkL pk) rot d else ([], [], pkE pk)) := if_pos hG
    obtain ⟨h1, h2⟩ := gvE_zero hG
    obtain ⟨q', rfl, hok⟩ := RtOk.of h1 hc2
    obtain ⟨_, k2, k3⟩ := dErr_zero h2
    have hda : d.length = ar.length := by have := hok.nar; omega
    have hm : Hid (∀ x ∈ es, x.m ≤ 50) := rt_mult h1
    have HOK := hide (And.intro hok (And.intro hda k3))
    rw [hG]
    clear hG h1 h2 hok k2 k3 hda
    go_wp2_with fail
    refine (picks_any pk op cp PF w2 (hp.below intR_ok (below_box HX.out)) hpc hpl).mono ?_
    rintro e w3 ⟨rfl, hb3⟩
    have HX3 := hide (HX.out.trans (hb3.mono (by have := HX.out.size; simpa using this)))
    clear hb3
    by_cases hP : pkE pk = 0
    · have HA2 : Hid (pickRes n es f ar q' rot d pk = movesOf ar (endsL es) q' (pkL pk) rot d) := by show _ = _; rw [HA.out, if_pos hP]; rfl
      obtain ⟨p1, p2, p3⟩ := pkE_zero hP
      rw [hP]
      clear hP HA
      have HPN := hide p3
      clear p3
      have d0 := box_cell HX3.out 0
      have d1 := box_cell HX3.out 1
      have d2 := box_cell HX3.out 2
      simp at d0 d1 d2
      go_wp2_with fail
      refine (moved_any n es oe c ar oa ca F G w3 (hs.below edgR_ok (below_box HX3.out)) hc hc2 (ha.below (slcR_ok intR_ok (by decide)) (below_box HX3.out)) hac hac2 hm q' rot ot ct H (hr.below intR_ok (below_box HX3.out)) hrc HOK.out.1 d od cd D (hd.below intR_ok (below_box HX3.out)) hdc HOK.out.2.1 HOK.out.2.2 pk op cp PF (hp.below intR_ok (below_box HX3.out)) hpc p2 hpl HPN.out).mono ?_
      rintro e w4 ⟨rv, cv, rfl, ho1, ho2, hb4⟩
      have hsz := (below_box HX3.out).size
      have HO := hide (And.intro (ho1.rebase (base' := w.heap.size) hsz) (And.intro (ho2.rebase (base' := w.heap.size) hsz) ((below_box HX3.out).trans (hb4.mono hsz))))
      clear ho1 ho2 hb4 d0 d1 d2
      rcases movesOf_case (ar := ar) (E := endsL es) (q := q') (pkL_ok pk) rot d with ⟨a, b, hc0⟩ | hc0
      · have HC := hide hc0
        rw [hc0]
        clear hc0
        go_wp2_with fail
        refine bodyPost_ret (results_tmp3 rfl _ _ _) rfl ⟨_, _, by rw [HA2.out, HC.out]; rfl, ?_⟩
        rw [HA2.out]
        exact HO.out
      · have HC := hide hc0
        rw [hc0]
        clear hc0
        go_wp2_with fail
        refine bodyPost_ret (results_tmp3 rfl _ _ _) rfl ⟨_, _, by rw [HA2.out, HC.out]; rfl, ?_⟩
        rw [HA2.out, HC.out]
        exact ⟨OwnS.nil _ _ _ _ _ _, OwnS.nil _ _ _ _ _ _, HO.out.2.2⟩
    · have HA2 : Hid (pickRes n es f ar q' rot d pk = ([], [], pkE pk)) := by show _ = _; rw [HA.out, if_neg hP]
      have hq : (pkE pk != 0) = true := by simpa using hP
      clear hP HA
      go_wp2_with fail
      refine bodyPost_ret (results_tmp3 rfl _ _ _) rfl ⟨_, _, by rw [HA2.out]; rfl, ?_⟩
      rw [HA2.out]
      exact ⟨OwnS.nil _ _ _ _ _ _, OwnS.nil _ _ _ _ _ _, below_box HX3.out⟩
  · have HA : Hid (pickRes n es f ar q rot d pk = ([], [], gvE n es f ar q rot d)) := if_neg hG
    have hq : (gvE n es f ar q rot d != 0) = true := by simpa using hG
    clear hG
    go_wp2_with fail
    refine bodyPost_ret (results_tmp3 rfl _ _ _) rfl ⟨_, _, by rw [HA.out]; rfl, ?_⟩
    rw [HA.out]
    exact ⟨OwnS.nil _ _ _ _ _ _, OwnS.nil _ _ _ _ _ _, below_box HX.out⟩

set_option maxRecDepth 100000 in
set_option maxHeartbeats 4000000 in
theorem rotPicked_any : Calls Try.prog 35 #[.agg #[.int .i64 n, .slice oe es.length c, .slice oa ar.length ca], .int .i64 q, .agg #[.slice ot rot.length ct, .slice od d.length cd], .slice op pk.length cp] w (MovesPost w.heap.size w (pickRes n es f ar q rot d pk)) := by
  obtain ⟨W1, hW1⟩ : ∃ W1, ((w.alloc (.cells #[.int .i64 n, .slice oe es.length c, .slice oa ar.length ca] 27)).alloc (.cells #[.slice ot rot.length ct, .slice od d.length cd] 71)).alloc (.cells #[.slice op pk.length cp] 28) = W1 := ⟨_, rfl⟩
  have hB1 : Below w.heap.size w W1 := by rw [← hW1]; exact bnew (bnew (bnew (Below.refl _ _) _) _) _
  have hsz1 : W1.heap.size = w.heap.size + 3 := by rw [← hW1]; simp
  have bR : Box W1 w.heap.size [.int .i64 n, .slice oe es.length c, .slice oa ar.length ca] 27 := by rw [← hW1]; exact ((Box.new w [.int .i64 n, .slice oe es.length c, .slice oa ar.length ca] 27).next _).next _
  have bX : Box W1 (w.heap.size + 1) [.slice ot rot.length ct, .slice od d.length cd] 71 := by
    rw [← hW1]
    have := (Box.new (w.alloc (.cells #[.int .i64 n, .slice oe es.length c, .slice oa ar.length ca] 27)) [.slice ot rot.length ct, .slice od d.length cd] 71).next (.cells #[.slice op pk.length cp] 28)
    simpa using this
  have bP : Boxed W1 (w.heap.size + 2) 28 (.slice op pk.length cp) := by
    rw [← hW1]
    have := Boxed.new ((w.alloc (.cells #[.int .i64 n, .slice oe es.length c, .slice oa ar.length ca] 27)).alloc (.cells #[.slice ot rot.length ct, .slice od d.length cd] 71)) 28 (.slice op pk.length cp)
    simpa using this
  have hgiv := given_any n es oe c ar oa ca F G W1 (hs.below edgR_ok hB1) hc hc2 (ha.below (slcR_ok intR_ok (by decide)) hB1) hac hac2 f hU q rot ot ct H (hr.below intR_ok hB1) hrc hrl d od cd D (hd.below intR_ok hB1) hdc hdl
  have HGIV := hide hgiv
  have HBX := hide (And.intro hB1 (And.intro bR (And.intro bX bP)))
  have e0 := bR.cell 0
  have e1 := bR.cell 1
  have e2 := bR.cell 2
  have x0 := bX.cell 0
  have x1 := bX.cell 1
  have p0 := bP.cell
  simp only [List.getElem?_cons_zero, List.getElem?_cons_succ] at e0 e1 e2 x0 x1
  clear bR bX bP hB1 hgiv
  go_enter Try.func35, Try.ntmps35
  go_wp2_with fail
  clear e0 e1 e2 x0 x1 p0
  refine HGIV.out.mono ?_
  rintro e w2 (⟨hG, p, rg, cap, tv, rest, rfl, hD, hb2⟩ | ⟨hG, rfl, hb2⟩)
  · have HX := hide (HBX.out.1.trans (hb2.mono HBX.out.1.size))
    have HB2 := hide hb2
    obtain ⟨h1, h2⟩ := gvE_zero hG
    obtain ⟨q', rfl, hok⟩ := RtOk.of h1 hc2
    obtain ⟨k1, k2, k3⟩ := dErr_zero h2
    have HR : Hid (pickRes n es f ar q' rot d pk = if pkE pk = 0 then movesOf ar (endsL es) q' (pkL pk) rot d else ([], [], pkE pk)) := if_pos hG
    have hda : d.length = ar.length := by have := hok.nar; omega
    have HOK := hide (And.intro hok (And.intro hda k3))
    have HDD := hide hD
    have bx2 := HBX.out.2.2.1.below hb2
    have bp2 := boxed_same HBX.out.2.2.2 (hb2.block _ (by omega))
    have x0 := bx2.cell 0
    have x1 := bx2.cell 1
    have p0 := bp2.cell
    simp only [List.getElem?_cons_zero, List.getElem?_cons_succ] at x0 x1
    have HBP := hide bp2
    have hsz2 := hb2.size
    clear hD hb2 bx2 bp2 hG h1 h2 hok k1 k2 k3 hda hW1
    by_cases l1 : 4096 < pk.length
    · have HR2 : Hid (pickRes n es f ar q' rot d pk = ([], [], 5)) := by
        show _ = _
        have hE : pkE pk = 5 := if_pos l1
        rw [HR.out, if_neg (by rw [hE]; decide), hE]
      have q1 : decide ((4096 : Int) < (pk.length : Int)) = true := by simp; omega
      clear l1
      go_wp2_with fail
      refine bodyPost_ret (results_tmp3 rfl _ _ _) rfl ⟨_, _, by rw [HR2.out]; rfl, ?_⟩
      rw [HR2.out]
      exact ⟨OwnS.nil _ _ _ _ _ _, OwnS.nil _ _ _ _ _ _, HX.out⟩
    · have q1 : decide ((4096 : Int) < (pk.length : Int)) = false := by simp; omega
      by_cases l2 : pk.length = 0
      · have HR2 : Hid (pickRes n es f ar q' rot d pk = ([], [], 14)) := by
          show _ = _
          have hE : pkE pk = 14 := by unfold pkE; rw [if_neg l1, if_pos l2]
          rw [HR.out, if_neg (by rw [hE]; decide), hE]
        have q2 : ((pk.length : Int) == 0) = true := by simp [l2]
        clear l1 l2
        go_wp2_with fail
        refine bodyPost_ret (results_tmp3 rfl _ _ _) rfl ⟨_, _, by rw [HR2.out]; rfl, ?_⟩
        rw [HR2.out]
        exact ⟨OwnS.nil _ _ _ _ _ _, OwnS.nil _ _ _ _ _ _, HX.out⟩
      · have q2 : ((pk.length : Int) == 0) = false := by simpa using l2
        have hpk2 := hp.below intR_ok HX.out
        have HMIN := hide (min_any pk op cp PF w2 hpk2 hpc hpl (by omega))
        have HPK := hide hpk2
        clear hpk2
        go_wp2_with fail
        refine HMIN.out.mono ?_
        rintro e w3 ⟨m, rfl, hm, rfl⟩
        by_cases l3 : negB pk = true
        · have HR2 : Hid (pickRes n es f ar q' rot d pk = ([], [], 2)) := by
            show _ = _
            have hE : pkE pk = 2 := by unfold pkE; rw [if_neg l1, if_neg l2, if_pos l3]
            rw [HR.out, if_neg (by rw [hE]; decide), hE]
          rw [l3] at hm
          clear l1 l2 l3
          go_wp2_with fail
          refine bodyPost_ret (results_tmp3 rfl _ _ _) rfl ⟨_, _, by rw [HR2.out]; rfl, ?_⟩
          rw [HR2.out]
          exact ⟨OwnS.nil _ _ _ _ _ _, OwnS.nil _ _ _ _ _ _, HX.out⟩
        · have hE : pkE pk = 0 := by unfold pkE; rw [if_neg l1, if_neg l2, if_neg l3]
          have HR2 : Hid (pickRes n es f ar q' rot d pk = movesOf ar (endsL es) q' (pkL pk) rot d) := by show _ = _; rw [HR.out, if_pos hE]
          obtain ⟨_, _, hpn⟩ := pkE_zero hE
          have l4 : negB pk = false := by simpa using l3
          rw [l4] at hm
          obtain ⟨W3, hW3⟩ : ∃ W3, (w2.alloc (.cells #[.int .i64 0] 3)).setCell ⟨w2.heap.size, 0, none⟩ (.int .i64 0) = W3 := ⟨_, rfl⟩
          have hb3 : Below w2.heap.size w2 W3 := by rw [← hW3]; exact (bnew (Below.refl _ _) _).setCell (p := ⟨w2.heap.size, 0, none⟩) (by simp) _
          have hnx : Boxed W3 w2.heap.size 3 (.int .i64 0) := by rw [← hW3]; exact (Boxed.new w2 _ _).set _
          have hsz3 := hb3.size
          have hD3 := (HDD.out.rebase (show w.heap.size + 3 ≤ W1.heap.size by omega)).below hb3
          have hXB := HX.out.trans (hb3.mono HX.out.size)
          have hlB : Below (w.heap.size + 3) W1 W3 := by rw [← hsz1]; exact HB2.out.trans (hb3.mono hsz2)
          have ha3 : SliceR (slcR intR 1) 1 (Lt (w.heap.size + 3)) W3 oa ar := by
            have := ((ha.below (slcR_ok intR_ok (by decide)) HBX.out.1).loc (slcR_ok intR_ok (by decide)) (by decide))
            rw [hsz1] at this
            exact this.keep (slcR_ok intR_ok (by decide)) (SameOn.of_lt hlB)
          have hp3 : SliceR intR 1 (Lt (w.heap.size + 3)) W3 op pk := by
            have := (hp.below intR_ok HBX.out.1).loc intR_ok (by decide)
            rw [hsz1] at this
            exact this.keep intR_ok (SameOn.of_lt hlB)
          have hrt := routeP_any (w.heap.size + 3) W3 p rg cap tv q' n es ar rot rest oa ca hD3 ha3 HOK.out.1 (by omega) d od cd D (hd.below intR_ok hXB) hdc HOK.out.2.1 HOK.out.2.2 pk op cp (w.heap.size + 2) w2.heap.size hp3 (by omega) hpc (by omega) hpn
            (boxed_same HBP.out (hb3.block _ (by omega))) (by omega) hnx (by omega) (by have := HDD.out.box.lt; omega) (by have := HDD.out.row.lt; omega) (fun e => by have := (HDD.out.tos.block _ e).2; omega)
          have HRT := hide hrt
          have HXB := hide hXB
          have x03 := (hb3.cell (World.block_lt_of_cell? _ _ x0)).trans x0
          have x13 := (hb3.cell (World.block_lt_of_cell? _ _ x1)).trans x1
          clear hrt hp3 ha3 hlB hXB hD3 hnx l1 l2 l3 l4 hE hpn hb3
          go_wp2_with fail
          refine HRT.out.mono ?_
          rintro e w4 ⟨rv, cv, rfl, ho1, ho2, hb4⟩
          have HF : Hid (OwnS intR 1 w.heap.size 3 Non w4 rv (movesOf ar (endsL es) q' (pkL pk) rot d).1 ∧ OwnS intR 1 w.heap.size 3 Non w4 cv (movesOf ar (endsL es) q' (pkL pk) rot d).2.1 ∧ Below w.heap.size w w4) := ⟨ho1.rebase (by omega), ho2.rebase (by omega), HXB.out.trans (hb4.mono (by omega))⟩
          clear ho1 ho2 hb4
          go_wp2_with fail
          refine bodyPost_ret (results_tmp3 rfl _ _ _) rfl ⟨_, _, by rw [HR2.out]; rfl, ?_⟩
          rw [HR2.out]
          exact HF.out
  · have HX := hide (HBX.out.1.trans (hb2.mono HBX.out.1.size))
    have HR : Hid (pickRes n es f ar q rot d pk = ([], [], gvE n es f ar q rot d)) := if_neg hG
    have hq : (gvE n es f ar q rot d != 0) = true := by simpa using hG
    clear hb2 hG
    go_wp2_with fail
    refine bodyPost_ret (results_tmp3 rfl _ _ _) rfl ⟨_, _, by rw [HR.out]; rfl, ?_⟩
    rw [HR.out]
    exact ⟨OwnS.nil _ _ _ _ _ _, OwnS.nil _ _ _ _ _ _, HX.out⟩

end

end Go.Proofs.Ytopldbnlehjlpaa

set_option linter.unusedVariables false
set_option linter.unusedSimpArgs false
set_option linter.unnecessarySimpa false
namespace Go.Proofs.Ytopldbnlehjlpaa
open Go.RowKit

set_option maxRecDepth 100000 in
set_option maxHeartbeats 8000000 in
theorem ord45_walk (n : Int) (es : List Edg) (oe : Option Addr) (c : Nat) (ar : List (List Int)) (oa : Option Addr) (ca : Nat) (q : Int) (rot : List Int) (ot : Option Addr) (ct : Nat) (d : List Int) (od : Option Addr) (cd : Nat) (pk : List Int) (op : Option Addr) (cp : Nat) (w : World)
    (hs : SliceR edgR 3 All w oe es) (hc : es.length ≤ c) (hc2 : es.length ≤ 9223372036854775807) (ha : SliceR (slcR intR 1) 1 All w oa ar) (hac : ar.length ≤ ca) (hac2 : ar.length ≤ 9223372036854775807) (hr : SliceR intR 1 All w ot rot) (hrc : rot.length ≤ ct) (hrl : rot.length ≤ 9223372036854775807)
    (hd : SliceR intR 1 All w od d) (hdc : d.length ≤ cd) (hdl : d.length ≤ 9223372036854775807) (hp : SliceR intR 1 All w op pk) (hpc : pk.length ≤ cp) (hpl : pk.length ≤ 9223372036854775807) :
    Calls Try.prog 9 #[.agg #[.int .i64 n, .slice oe es.length c, .slice oa ar.length ca], .agg #[.int .i64 q, .slice ot rot.length ct, .slice od d.length cd, .slice op pk.length cp]] w fun e w' => e = .returned (.bool true) ∧ Below w.heap.size w w' := by
  have hU : Hid (gErr n es = 0 → Uf (forest es) (eL es)) := forest_ok n es
  have C0 := GamCtx.new (n := n) (c := c) (ca := ca) (q := q) (ct := ct) (cd := cd) (cp := cp) hs ha hr hd hp
  obtain ⟨W1, hW1⟩ : ∃ W1, (w.alloc (.cells #[.int .i64 n, .slice oe es.length c, .slice oa ar.length ca] 27)).alloc (.cells #[.int .i64 q, .slice ot rot.length ct, .slice od d.length cd, .slice op pk.length cp] 54) = W1 := ⟨_, rfl⟩
  rw [hW1] at C0
  have HC := hide C0
  have d0 := HC.out.b1.cell 0
  have d1 := HC.out.b1.cell 1
  have d2 := HC.out.b1.cell 2
  have p0 := HC.out.b2.cell 0
  have p1 := HC.out.b2.cell 1
  have p2 := HC.out.b2.cell 2
  have p3 := HC.out.b2.cell 3
  simp only [List.getElem?_cons_zero, List.getElem?_cons_succ] at d0 d1 d2 p0 p1 p2 p3
  clear hs ha hr hd hp C0
  go_enter Try.func9, Try.ntmps9
  go_wp2_with fail
  clear d0 d1 d2 p0 p1 p2 p3
  refine (small45_any n es oe c ar oa ca q rot ot ct d od cd pk op cp _ HC.out.hes hc hc2 HC.out.har hac hac2 HC.out.hrt hrc hrl HC.out.hdd hdc hdl HC.out.hpk).mono ?_
  rintro e W2 ⟨rfl, hb⟩
  replace HC := hide (HC.out.below hb)
  clear hb hW1
  by_cases hF : smallB n es ar q rot d = true
  · obtain ⟨hF4, hG, _⟩ := smallB_yes hF
    obtain ⟨hc3, _, _⟩ := few45_yes hF4
    rw [hF]
    have HG := hide hG
    clear hF hF4 hG
    have d0 := HC.out.b1.cell 0
    have d1 := HC.out.b1.cell 1
    have d2 := HC.out.b1.cell 2
    have p0 := HC.out.b2.cell 0
    have p1 := HC.out.b2.cell 1
    have p2 := HC.out.b2.cell 2
    have p3 := HC.out.b2.cell 3
    simp only [List.getElem?_cons_zero, List.getElem?_cons_succ] at d0 d1 d2 p0 p1 p2 p3
    go_wp2_with fail
    clear d0 d1 d2 p0 p1 p2 p3
    refine (picks_any pk op cp All W2 HC.out.hpk hpc hpl).mono ?_
    rintro e W3 ⟨rfl, hb⟩
    replace HC := hide (HC.out.below hb)
    clear hb
    by_cases hE : pkE pk = 0
    · have HSAME : Hid (pickRes n es (forest es) ar q rot d pk = allRes n es (forest es) ar q rot d) := by
        show _ = _
        unfold pickRes allRes
        rw [if_pos HG.out, if_pos HG.out, if_pos hE]
        exact movesOf_same (pkL_ok _) pk0_ok rot d
      rw [hE]
      clear hE
      have d0 := HC.out.b1.cell 0
      have d1 := HC.out.b1.cell 1
      have d2 := HC.out.b1.cell 2
      have p0 := HC.out.b2.cell 0
      have p1 := HC.out.b2.cell 1
      have p2 := HC.out.b2.cell 2
      have p3 := HC.out.b2.cell 3
      simp only [List.getElem?_cons_zero, List.getElem?_cons_succ] at d0 d1 d2 p0 p1 p2 p3
      go_wp2_with fail
      clear d0 d1 d2 p0 p1 p2 p3
      refine (fewP_any pk op cp W3).mono ?_
      rintro e W4 ⟨rfl, hb⟩
      replace HC := hide (HC.out.below hb)
      clear hb
      by_cases hP : fewP pk = true
      · rw [hP]
        clear hP
        have d0 := HC.out.b1.cell 0
        have d1 := HC.out.b1.cell 1
        have d2 := HC.out.b1.cell 2
        have p0 := HC.out.b2.cell 0
        have p1 := HC.out.b2.cell 1
        have p2 := HC.out.b2.cell 2
        have p3 := HC.out.b2.cell 3
        simp only [List.getElem?_cons_zero, List.getElem?_cons_succ] at d0 d1 d2 p0 p1 p2 p3
        go_wp2_with fail
        clear d0 d1 d2 p0 p1 p2 p3
        refine (rotAll_any n es oe c ar oa ca All All W4 HC.out.hes hc (by omega) HC.out.har hac hac2 (forest es) hU q rot ot ct All HC.out.hrt hrc hrl d od cd All HC.out.hdd hdc hdl).mono ?_
        rintro e Wa ⟨rv, cv, rfl, ho1, ho2, hb⟩
        have hl1 := hide (OwnS.small ho1)
        have hl2 := hide (OwnS.small ho2)
        obtain ⟨o1, k1, rfl, hk1, hs1⟩ := OwnS.given ho1
        obtain ⟨o2, k2, rfl, hk2, hs2⟩ := OwnS.given ho2
        replace HC := hide (HC.out.below hb)
        have s1 := hide hs1
        have s2 := hide hs2
        clear ho1 ho2 hs1 hs2 hb
        have d0 := HC.out.b1.cell 0
        have d1 := HC.out.b1.cell 1
        have d2 := HC.out.b1.cell 2
        have p0 := HC.out.b2.cell 0
        have p1 := HC.out.b2.cell 1
        have p2 := HC.out.b2.cell 2
        have p3 := HC.out.b2.cell 3
        simp only [List.getElem?_cons_zero, List.getElem?_cons_succ] at d0 d1 d2 p0 p1 p2 p3
        go_wp2_with fail
        clear d0 d1 d2 p0 p1 p2 p3
        refine (rotPicked_any n es oe c ar oa ca All All Wa HC.out.hes hc (by omega) HC.out.har hac hac2 (forest es) hU q rot ot ct All HC.out.hrt hrc hrl d od cd All HC.out.hdd hdc hdl pk op cp All HC.out.hpk hpc hpl).mono ?_
        rintro e Wb ⟨rv, cv, rfl, ho1, ho2, hb⟩
        rw [HSAME.out] at ho1 ho2
        obtain ⟨o3, k3, rfl, hk3, hs3⟩ := OwnS.given ho1
        obtain ⟨o4, k4, rfl, hk4, hs4⟩ := OwnS.given ho2
        replace HC := hide (HC.out.below hb)
        replace s1 := hide (s1.out.below intR_ok hb)
        replace s2 := hide (s2.out.below intR_ok hb)
        have s3 := hide hs3
        have s4 := hide hs4
        clear ho1 ho2 hs3 hs4 hb
        rw [HSAME.out]
        go_wp2_with fail
        refine (equalInt_any _ _ o1 o3 k1 k3 All _ s1.out s3.out hk1 hl1.out).mono ?_
        rintro e W5 ⟨rfl, hb⟩
        replace HC := hide (HC.out.below hb)
        replace s2 := hide (s2.out.below intR_ok hb)
        replace s4 := hide (s4.out.below intR_ok hb)
        clear hb
        simp only [decide_true]
        go_wp2_with fail
        refine (sameS_any _ _ o2 o4 k2 k4 All _ s2.out s4.out hk2 hl2.out).mono ?_
        rintro e W6 ⟨rfl, hb⟩
        replace HC := hide (HC.out.below hb)
        clear hb
        simp only [decide_true]
        go_wp2_with fail
        refine (awake45_any _).mono ?_
        rintro e W99 ⟨rfl, hb⟩
        replace HC := hide (HC.out.below hb)
        clear hb
        go_wp2_with fail
        go_ret
        exact ⟨rfl, HC.out.low⟩
      · have hP2 : fewP pk = false := by simpa using hP
        rw [hP2]
        clear hP hP2
        go_wp2_with fail
        refine (awake45_any _).mono ?_
        rintro e W99 ⟨rfl, hb⟩
        replace HC := hide (HC.out.below hb)
        clear hb
        go_wp2_with fail
        go_ret
        exact ⟨rfl, HC.out.low⟩
    · have hE2 : (pkE pk != 0) = true := by simpa using hE
      clear hE
      go_wp2_with fail
      refine (awake45_any _).mono ?_
      rintro e W99 ⟨rfl, hb⟩
      replace HC := hide (HC.out.below hb)
      clear hb
      go_wp2_with fail
      go_ret
      exact ⟨rfl, HC.out.low⟩
  · have hF2 : smallB n es ar q rot d = false := by simpa using hF
    rw [hF2]
    clear hF hF2
    go_wp2_with fail
    refine (awake45_any _).mono ?_
    rintro e W99 ⟨rfl, hb⟩
    replace HC := hide (HC.out.below hb)
    clear hb
    go_wp2_with fail
    go_ret
    exact ⟨rfl, HC.out.low⟩

theorem ord45_claim (w : World) (n : Int) (es : List Edg) (oe : Option Addr) (c : Nat) (ar : List (List Int)) (oa : Option Addr) (ca : Nat) (hc : es.length ≤ c) (hc2 : es.length ≤ 9223372036854775807) (hs : SliceR edgR 3 All w oe es) (hac : ar.length ≤ ca) (hac2 : ar.length ≤ 9223372036854775807) (ha : SliceR (slcR intR 1) 1 All w oa ar)
    (q : Int) (rot : List Int) (ot : Option Addr) (ct : Nat) (d : List Int) (od : Option Addr) (cd : Nat) (pk : List Int) (op : Option Addr) (cp : Nat) (hrc : rot.length ≤ ct) (hrl : rot.length ≤ 9223372036854775807) (hr : SliceR intR 1 All w ot rot)
    (hdc : d.length ≤ cd) (hdl : d.length ≤ 9223372036854775807) (hd : SliceR intR 1 All w od d) (hpc : pk.length ≤ cp) (hpl : pk.length ≤ 9223372036854775807) (hp : SliceR intR 1 All w op pk) :
    Calls Try.prog 9 #[.agg #[.int .i64 n, .slice oe es.length c, .slice oa ar.length ca], .agg #[.int .i64 q, .slice ot rot.length ct, .slice od d.length cd, .slice op pk.length cp]] w fun e w' => e = .returned (.bool true) ∧ Below w.heap.size w w' :=
  ord45_walk n es oe c ar oa ca q rot ot ct d od cd pk op cp w hs hc hc2 ha hac hac2 hr hrc hrl hd hdc hdl hp hpc hpl

end Go.Proofs.Ytopldbnlehjlpaa

set_option linter.unusedVariables false
namespace Go.Proofs.Ytopldbnlehjlpaa
open Go.RowKit Go.ChangeShapes Go.WideShapes Go.ChangeAt Go.Deep

set_option maxRecDepth 100000 in
theorem rotorOrder_lifted (os : Os) (started : os.Started) (H : Type) (enc : TypeId × Value → H) :
    ReturnsInHanded {} Try.checked os 9 .any (Rows.rotorOrderSpec.pre6 enc Try.prog Try.f9 Rows.rotorOrderRow.domain false) (Rows.rotorOrderSpec.post enc Try.prog Try.f9 false true false false) := by
  refine returnsInHanded_of_change (C := Try.checked) own_knob started (by kernel_rfl) Try.func9
    (ChangeSpec.witness6 (enc := enc) (C := Try.checked) false ⟨#[], #[.agg #[.int .i64 0, .slice none 0 0, .slice none 0 0], .agg #[.int .i64 0, .slice none 0 0, .slice none 0 0, .slice none 0 0]], []⟩ 8 (by kernel_rfl) (by kernel_rfl) (by kernel_rfl) (by kernel_rfl)) ?_
  intro W base args ds gs before hval0 hW _ _
  have hval : ∀ (j : Nat) t v, Try.f9.params[j]? = some t → args[j]? = some v → Value.okWide Try.prog W .any base t v := hval0
  have hW' := hW
  obtain ⟨p, q, hA0, hV, rfl, _, _⟩ := hW
  have hA : DataW.TrodAll enc Try.prog W 0 (fun _ => true) true Try.f9.params.toList args.toList ds p := hA0
  rw [Try.params9] at hA hval
  obtain ⟨v0, v1, d0, d1, p0, p1, rfl, rfl, rfl, h0, h1⟩ := trodAll_two hA
  obtain ⟨rfl, rfl⟩ := trodVars_none hV
  have h0k := h0
  have h1k := h1
  obtain ⟨n0, es0, oe0, c0, ar0, oa0, ca0, rfl, hc0, hl0, he0, hac0, hal0, ha0⟩ := open_rib (hval 0 27 v0 rfl rfl) h0
  obtain ⟨q1, rot1, ot1, ct1, d1x, od1, cd1, pk1, op1, cp1, rfl, hrc1, hrl1, hr1, hdc1, hdl1, hd1, hpc1, hpl1, hp1⟩ := open_game (hval 1 54 v1 rfl rfl) h1
  clear hA0 hval0
  simp only [List.append_nil] at hW'
  have hlt0 : ∀ y ∈ p0, y.block < W.heap.size := fun y hy => by simpa using hW'.lt y (by simp [hy])
  have hlt1 : ∀ y ∈ p1, y.block < W.heap.size := fun y hy => by simpa using hW'.lt y (by simp [hy])
  refine (ord45_claim W n0 es0 oe0 c0 ar0 oa0 ca0 hc0 hl0 he0 hac0 hal0 ha0 q1 rot1 ot1 ct1 d1x od1 cd1 pk1 op1 cp1 hrc1 hrl1 hr1 hdc1 hdl1 hd1 hpc1 hpl1 hp1).mono fun e W' ⟨he, hn⟩ => ?_
  subst he
  exact ⟨_, rfl, _, _, _, [], _, [], hW', trodAll_mk1 (shut_bool Try.underlying4 true), trodAll_mk2 (Below.trod laid_out (by kernel_rfl) (of_decide_eq_true (by kernel_rfl)) h0k hn hlt0) (Below.trod laid_out (by kernel_rfl) (of_decide_eq_true (by kernel_rfl)) h1k hn hlt1), rfl, hn.frame _, fun h => by cases h⟩

theorem rotorOrder_holds : Rows.RotorOrderSaid :=
  OpenClaim.holds_of_wide 9 Try.f9 rfl rfl rfl rfl rfl rfl rfl ⟨rfl, rfl, rfl, rfl, rfl⟩ rfl rfl rfl rfl rfl (by kernel_rfl) Try.func9 (by kernel_rfl)
    (of_decide_eq_true (by kernel_rfl)) (by unfold Func.isWrapper; first | (rw [if_pos (by decide +kernel)]; kernel_rfl) | (rw [if_neg (by decide +kernel)]; exact ⟨rfl, rfl⟩))
    (fun os started H enc _ => rotorOrder_lifted os started H enc)

#print axioms rotorOrder_holds
end Go.Proofs.Ytopldbnlehjlpaa

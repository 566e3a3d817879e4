/-
  RotorFires: a vertex with as many chips as its degree may fire first, for all ribbon graphs, games and vertices; no condition.
  The walk of RotorFires.
  firing.Fire, where all is right.
  firing.given, vertex, of, moved, Fire, where all is right.
  firing: bounded, along, moved, of, given, vertex.
  A region that draws its order, by an invariant; append to an empty literal and make as steps of such a region. No program is named here.
  A vertex fires: what the program's script moves, and what All answers (plain law).
  A vertex fires: the steps of its rotor once round (plain law).
  Firing a vertex, and turning its rotor once round: plain law.
  What RotorAdds leans on: plain law.
  Chips one by one, and all at once: plain law.
  The order in which chips are moved does not matter: plain law.
  A game in memory; ref17.Few, ref17.Small; sandpilelaw45.small.
  ref17.In, ref17.Check, ref45.chips, ref45.Given; ref17.Few, ref17.Small, ref45.FewChips.
  The walk of RotorSteps.
-/
import Derived.Test.YtopldbnlehjlpaaFi5
import Derived.Deep.RegionHeld3
import Derived.Deep.RegionLaw
import Derived.Test.YtopldbnlehjlpaaRows

set_option linter.unusedVariables false
set_option linter.unusedSimpArgs false
set_option linter.unnecessarySimpa false
namespace Go.Proofs.Ytopldbnlehjlpaa
open Go.RowKit

/-- What the laws' functions lean on between their calls. -/
structure LawCtx (w : World) (n : Int) (es : List Edg) (oe : Option Addr) (c : Nat) (ar : List (List Int)) (oa : Option Addr) (ca : Nat) (q : Int) (rot : List Int) (ot : Option Addr) (ct : Nat) (v : Int) (W : World) : Prop where
  hes : SliceR edgR 3 All W oe es
  har : SliceR (slcR intR 1) 1 All W oa ar
  hrt : SliceR intR 1 All W ot rot
  b1 : Box W w.heap.size [.int .i64 n, .slice oe es.length c, .slice oa ar.length ca] 27
  b2 : Box W (w.heap.size + 1) [.int .i64 q, .slice ot rot.length ct, .int .i64 v] 30
  low : Below w.heap.size w W
theorem LawCtx.below {w : World} {n : Int} {es : List Edg} {oe : Option Addr} {c : Nat} {ar : List (List Int)} {oa : Option Addr} {ca : Nat} {q : Int} {rot : List Int} {ot : Option Addr} {ct : Nat} {v : Int} {W W' : World}
    (h : LawCtx w n es oe c ar oa ca q rot ot ct v W) (hb : Below W.heap.size W W') : LawCtx w n es oe c ar oa ca q rot ot ct v W' :=
  ⟨h.hes.below edgR_ok hb, h.har.below (slcR_ok intR_ok (by decide)) hb, h.hrt.below intR_ok hb, h.b1.below hb, h.b2.below hb, h.low.trans (hb.mono h.low.size)⟩
theorem LawCtx.new {w : World} {n : Int} {es : List Edg} {oe : Option Addr} {c : Nat} {ar : List (List Int)} {oa : Option Addr} {ca : Nat} {q : Int} {rot : List Int} {ot : Option Addr} {ct : Nat} {v : Int}
    (h1 : SliceR edgR 3 All w oe es) (h2 : SliceR (slcR intR 1) 1 All w oa ar) (h3 : SliceR intR 1 All w ot rot) :
    LawCtx w n es oe c ar oa ca q rot ot ct v ((w.alloc (.cells #[.int .i64 n, .slice oe es.length c, .slice oa ar.length ca] 27)).alloc (.cells #[.int .i64 q, .slice ot rot.length ct, .int .i64 v] 30)) := by
  have hb := bnew (bnew (Below.refl w.heap.size w) (.cells #[.int .i64 n, .slice oe es.length c, .slice oa ar.length ca] 27)) (.cells #[.int .i64 q, .slice ot rot.length ct, .int .i64 v] 30)
  refine ⟨h1.below edgR_ok hb, h2.below (slcR_ok intR_ok (by decide)) hb, h3.below intR_ok hb, (Box.new w [.int .i64 n, .slice oe es.length c, .slice oa ar.length ca] 27).next _, ?_, hb⟩
  have := Box.new (w.alloc (.cells #[.int .i64 n, .slice oe es.length c, .slice oa ar.length ca] 27)) [.int .i64 q, .slice ot rot.length ct, .int .i64 v] 30
  simpa using this

theorem OwnS.small {B : Nat} {W : World} {rv : Value} {l : List Int} (h : OwnS intR 1 B 3 Non W rv l) : l.length ≤ 9223372036854775807 := by
  obtain ⟨cells, ho, _⟩ := h
  rcases ho.2 with ⟨_, hn⟩ | ⟨g, cap, cur, _, _, _, hle, hcm, _, _⟩
  · omega
  · unfold maxLen at hcm
    omega
set_option maxRecDepth 100000 in
set_option maxHeartbeats 8000000 in
theorem steps_walk (n : Int) (es : List Edg) (oe : Option Addr) (c : Nat) (ar : List (List Int)) (oa : Option Addr) (ca : Nat) (q : Int) (rot : List Int) (ot : Option Addr) (ct : Nat) (v : Int) (w : World)
    (hs : SliceR edgR 3 All w oe es) (hc : es.length ≤ c) (hc2 : es.length ≤ 9223372036854775807) (ha : SliceR (slcR intR 1) 1 All w oa ar) (hac : ar.length ≤ ca) (hac2 : ar.length ≤ 9223372036854775807) (hr : SliceR intR 1 All w ot rot) (hrc : rot.length ≤ ct) (hrl : rot.length ≤ 9223372036854775807) :
    Calls Try.prog 3 #[.agg #[.int .i64 n, .slice oe es.length c, .slice oa ar.length ca], .agg #[.int .i64 q, .slice ot rot.length ct, .int .i64 v]] w fun e w' => e = .returned (.bool true) ∧ Below w.heap.size w w' := by
  have hU : Hid (gErr n es = 0 → Uf (forest es) (eL es)) := forest_ok n es
  have C0 := LawCtx.new (n := n) (c := c) (ca := ca) (q := q) (ct := ct) (v := v) hs ha hr
  obtain ⟨W1, hW1⟩ : ∃ W1, (w.alloc (.cells #[.int .i64 n, .slice oe es.length c, .slice oa ar.length ca] 27)).alloc (.cells #[.int .i64 q, .slice ot rot.length ct, .int .i64 v] 30) = W1 := ⟨_, rfl⟩
  rw [hW1] at C0
  have HC := hide C0
  have d0 := HC.out.b1.cell 0
  have d1 := HC.out.b1.cell 1
  have d2 := HC.out.b1.cell 2
  have p0 := HC.out.b2.cell 0
  have p1 := HC.out.b2.cell 1
  have p2 := HC.out.b2.cell 2
  simp only [List.getElem?_cons_zero, List.getElem?_cons_succ] at d0 d1 d2 p0 p1 p2
  clear hs ha hr C0
  go_enter Try.func3, Try.ntmps3
  go_wp2_with fail
  refine (few45_any n es oe c ar oa ca All All _ HC.out.hes hc hc2 HC.out.har hac hac2 rot ot ct).mono ?_
  rintro e W2 ⟨rfl, hb⟩
  replace HC := hide (HC.out.below hb)
  clear hb d0 d1 d2 p0 p1 p2 hW1
  by_cases hF : few45 n es ar rot = true
  · obtain ⟨hc3, _, _⟩ := few45_yes hF
    rw [hF]
    clear hF
    have d0 := HC.out.b1.cell 0
    have d1 := HC.out.b1.cell 1
    have d2 := HC.out.b1.cell 2
    have p0 := HC.out.b2.cell 0
    have p1 := HC.out.b2.cell 1
    have p2 := HC.out.b2.cell 2
    simp only [List.getElem?_cons_zero, List.getElem?_cons_succ] at d0 d1 d2 p0 p1 p2
    go_wp2_with fail
    clear d0 d1 d2 p0 p1 p2
    refine (rotStep_any n es oe c ar oa ca All All _ HC.out.hes hc (by omega) HC.out.har hac hac2 (forest es) hU q rot ot ct All HC.out.hrt hrc hrl v).mono ?_
    rintro e W3 ⟨rv, rfl, ho, hb⟩
    have hl3 := hide (OwnS.small ho)
    obtain ⟨oa3, c3, rfl, hc3', hs3⟩ := OwnS.given ho
    replace HC := hide (HC.out.below hb)
    have s3 := hide hs3
    clear ho hb hs3
    have d0 := HC.out.b1.cell 0
    have d1 := HC.out.b1.cell 1
    have d2 := HC.out.b1.cell 2
    have p0 := HC.out.b2.cell 0
    have p1 := HC.out.b2.cell 1
    have p2 := HC.out.b2.cell 2
    simp only [List.getElem?_cons_zero, List.getElem?_cons_succ] at d0 d1 d2 p0 p1 p2
    go_wp2_with fail
    clear d0 d1 d2 p0 p1 p2
    refine (refStep_any n es oe c ar oa ca All All _ HC.out.hes hc (by omega) HC.out.har hac hac2 (forest es) hU q rot ot ct All HC.out.hrt hrc hrl v).mono ?_
    rintro e W4 ⟨rv, rfl, ho, hb⟩
    obtain ⟨oa4, c4, rfl, hc4', hs4⟩ := OwnS.given ho
    replace HC := hide (HC.out.below hb)
    replace s3 := hide (s3.out.below intR_ok hb)
    have s4 := hide hs4
    clear ho hb hs4
    have d0 := HC.out.b1.cell 0
    have d1 := HC.out.b1.cell 1
    have d2 := HC.out.b1.cell 2
    have p0 := HC.out.b2.cell 0
    have p1 := HC.out.b2.cell 1
    have p2 := HC.out.b2.cell 2
    simp only [List.getElem?_cons_zero, List.getElem?_cons_succ] at d0 d1 d2 p0 p1 p2
    go_wp2_with fail
    clear d0 d1 d2 p0 p1 p2
    refine (rotWalk_any n es oe c ar oa ca All All _ HC.out.hes hc (by omega) HC.out.har hac hac2 (forest es) hU q rot ot ct All HC.out.hrt hrc hrl v).mono ?_
    rintro e W5 ⟨rv, rfl, ho, hb⟩
    have hl5 := hide (OwnS.small ho)
    obtain ⟨oa5, c5, rfl, hc5', hs5⟩ := OwnS.given ho
    replace HC := hide (HC.out.below hb)
    replace s3 := hide (s3.out.below intR_ok hb)
    replace s4 := hide (s4.out.below intR_ok hb)
    have s5 := hide hs5
    clear ho hb hs5
    have d0 := HC.out.b1.cell 0
    have d1 := HC.out.b1.cell 1
    have d2 := HC.out.b1.cell 2
    have p0 := HC.out.b2.cell 0
    have p1 := HC.out.b2.cell 1
    have p2 := HC.out.b2.cell 2
    simp only [List.getElem?_cons_zero, List.getElem?_cons_succ] at d0 d1 d2 p0 p1 p2
    go_wp2_with fail
    clear d0 d1 d2 p0 p1 p2
    refine (refWalk_any n es oe c ar oa ca All All _ HC.out.hes hc (by omega) HC.out.har hac hac2 (forest es) hU q rot ot ct All HC.out.hrt hrc hrl v).mono ?_
    rintro e W6 ⟨rv, rfl, ho, hb⟩
    obtain ⟨oa6, c6, rfl, hc6', hs6⟩ := OwnS.given ho
    replace HC := hide (HC.out.below hb)
    replace s3 := hide (s3.out.below intR_ok hb)
    replace s4 := hide (s4.out.below intR_ok hb)
    replace s5 := hide (s5.out.below intR_ok hb)
    have s6 := hide hs6
    clear ho hb hs6
    have d0 := HC.out.b1.cell 0
    have d1 := HC.out.b1.cell 1
    have d2 := HC.out.b1.cell 2
    have p0 := HC.out.b2.cell 0
    have p1 := HC.out.b2.cell 1
    have p2 := HC.out.b2.cell 2
    simp only [List.getElem?_cons_zero, List.getElem?_cons_succ] at d0 d1 d2 p0 p1 p2
    go_wp2_with fail
    replace HC := hide (show LawCtx w n es oe c ar oa ca q rot ot ct v W6.drew from ⟨HC.out.hes.keep edgR_ok (fun _ _ _ => rfl), HC.out.har.keep (slcR_ok intR_ok (by decide)) (fun _ _ _ => rfl), HC.out.hrt.keep intR_ok (fun _ _ _ => rfl), HC.out.b1, HC.out.b2, HC.out.low.drew⟩)
    replace s3 := hide (s3.out.keep (w' := W6.drew) intR_ok (fun _ _ _ => rfl))
    replace s4 := hide (s4.out.keep (w' := W6.drew) intR_ok (fun _ _ _ => rfl))
    replace s5 := hide (s5.out.keep (w' := W6.drew) intR_ok (fun _ _ _ => rfl))
    replace s6 := hide (s6.out.keep (w' := W6.drew) intR_ok (fun _ _ _ => rfl))
    replace hl3 : (stepRes n es (forest es) ar q rot v).1.length ≤ 9223372036854775807 := hl3.out
    replace hl5 : (walkRes n es (forest es) ar q rot v).1.length ≤ 9223372036854775807 := hl5.out
    have K17 : ∀ W : World, LawCtx w n es oe c ar oa ca q rot ot ct v W → Calls Try.prog 17 #[.agg #[.int .i64 n, .slice oe es.length c, .slice oa ar.length ca], .int .i64 q, .slice ot rot.length ct] W (ErrPost W (rtE n es (forest es) ar q rot)) := fun W h => rotcheck_any n es oe c ar oa ca All All W h.hes hc (by omega) h.har hac hac2 (forest es) hU q rot ot ct All h.hrt hrc hrl
    have K18 : ∀ W : World, LawCtx w n es oe c ar oa ca q rot ot ct v W → Calls Try.prog 18 #[.agg #[.int .i64 n, .slice oe es.length c, .slice oa ar.length ca], .int .i64 q, .slice ot rot.length ct] W (ErrPost W (rtE n es (forest es) ar q rot)) := fun W h => r45check_any n es oe c ar oa ca All All W h.hes hc (by omega) h.har hac hac2 (forest es) hU q rot ot ct All h.hrt hrc hrl
    replace K17 := hide K17
    replace K18 := hide K18
    generalize rtE n es (forest es) ar q rot = E at *
    generalize (stepRes n es (forest es) ar q rot v).2.1 = r1 at *
    generalize (stepRes n es (forest es) ar q rot v).2.2 = r2 at *
    generalize (stepRes n es (forest es) ar q rot v).1 = l3 at *
    generalize (walkRes n es (forest es) ar q rot v).2 = r3 at *
    generalize (walkRes n es (forest es) ar q rot v).1 = l5 at *
    have K19a : Hid (∀ W : World, SliceR intR 1 All W oa3 l3 → SliceR intR 1 All W oa4 l3 → Calls Try.prog 19 #[.slice oa3 l3.length c3, .slice oa4 l3.length c4] W fun e w' => e = .returned (.bool true) ∧ Below W.heap.size W w') := fun W h1 h2 => (equalInt_any l3 l3 oa3 oa4 c3 c4 All W h1 h2 hc3' hl3).mono fun e w' h => ⟨by rw [h.1]; simp, h.2⟩
    have K19b : Hid (∀ W : World, SliceR intR 1 All W oa5 l5 → SliceR intR 1 All W oa6 l5 → Calls Try.prog 19 #[.slice oa5 l5.length c5, .slice oa6 l5.length c6] W fun e w' => e = .returned (.bool true) ∧ Below W.heap.size W w') := fun W h1 h2 => (equalInt_any l5 l5 oa5 oa6 c5 c6 All W h1 h2 hc5' hl5).mono fun e w' h => ⟨by rw [h.1]; simp, h.2⟩
    clear p2 hU hc hc2 hc3 hac hac2 hrc hrl
    obtain ⟨RR, hRR⟩ : ∃ RR, Value.agg #[.int .i64 n, .slice oe es.length c, .slice oa ar.length ca] = RR := ⟨_, rfl⟩
    obtain ⟨T1, hT1⟩ : ∃ T, Value.tuple #[.slice oa3 l3.length c3, .int .i64 r1, .int .i64 r2] = T := ⟨_, rfl⟩
    obtain ⟨T2, hT2⟩ : ∃ T, Value.tuple #[.slice oa4 l3.length c4, .int .i64 r1, .int .i64 r2] = T := ⟨_, rfl⟩
    obtain ⟨T3, hT3⟩ : ∃ T, Value.tuple #[.slice oa5 l5.length c5, .int .i64 r3] = T := ⟨_, rfl⟩
    obtain ⟨T4, hT4⟩ : ∃ T, Value.tuple #[.slice oa6 l5.length c6, .int .i64 r3] = T := ⟨_, rfl⟩
    rw [hRR, hT1, hT2, hT3, hT4]
    rw [hRR] at K17 K18
    clear hT1 hT2 hT3 hT4 hc3' hc4' hc5' hc6' hl3 hl5
    go_region_held3 (fun w' => w'.cell? ⟨w.heap.size, 0, none⟩ = some (.int .i64 n) ∧ w'.cell? ⟨w.heap.size, 1, none⟩ = some (.slice oe es.length c) ∧ w'.cell? ⟨w.heap.size, 2, none⟩ = some (.slice oa ar.length ca) ∧ w'.cell? ⟨w.heap.size + 1, 0, none⟩ = some (.int .i64 q) ∧ w'.cell? ⟨w.heap.size + 1, 1, none⟩ = some (.slice ot rot.length ct)) (first | exact ⟨d0, d1, d2, p0, p1⟩) (first
      | (go_at_call 12; refine (awake45_any _).mono ?_; rintro e w5 ⟨rfl, h5⟩; replace d0 := (h5.cell (World.block_lt_of_cell? _ _ d0)).trans d0; replace d1 := (h5.cell (World.block_lt_of_cell? _ _ d1)).trans d1; replace d2 := (h5.cell (World.block_lt_of_cell? _ _ d2)).trans d2; replace p0 := (h5.cell (World.block_lt_of_cell? _ _ p0)).trans p0; replace p1 := (h5.cell (World.block_lt_of_cell? _ _ p1)).trans p1; replace HC := hide (HC.out.below h5); replace s3 := hide (s3.out.below intR_ok h5); replace s4 := hide (s4.out.below intR_ok h5); replace s5 := hide (s5.out.below intR_ok h5); replace s6 := hide (s6.out.below intR_ok h5); clear h5)
      | (go_at_call 17; refine (K17.out _ HC.out).mono ?_; rintro e w5 ⟨rfl, h5⟩; replace d0 := (h5.cell (World.block_lt_of_cell? _ _ d0)).trans d0; replace d1 := (h5.cell (World.block_lt_of_cell? _ _ d1)).trans d1; replace d2 := (h5.cell (World.block_lt_of_cell? _ _ d2)).trans d2; replace p0 := (h5.cell (World.block_lt_of_cell? _ _ p0)).trans p0; replace p1 := (h5.cell (World.block_lt_of_cell? _ _ p1)).trans p1; replace HC := hide (HC.out.below h5); replace s3 := hide (s3.out.below intR_ok h5); replace s4 := hide (s4.out.below intR_ok h5); replace s5 := hide (s5.out.below intR_ok h5); replace s6 := hide (s6.out.below intR_ok h5); clear h5)
      | (go_at_call 18; refine (K18.out _ HC.out).mono ?_; rintro e w5 ⟨rfl, h5⟩; replace d0 := (h5.cell (World.block_lt_of_cell? _ _ d0)).trans d0; replace d1 := (h5.cell (World.block_lt_of_cell? _ _ d1)).trans d1; replace d2 := (h5.cell (World.block_lt_of_cell? _ _ d2)).trans d2; replace p0 := (h5.cell (World.block_lt_of_cell? _ _ p0)).trans p0; replace p1 := (h5.cell (World.block_lt_of_cell? _ _ p1)).trans p1; replace HC := hide (HC.out.below h5); replace s3 := hide (s3.out.below intR_ok h5); replace s4 := hide (s4.out.below intR_ok h5); replace s5 := hide (s5.out.below intR_ok h5); replace s6 := hide (s6.out.below intR_ok h5); clear h5)
      | (go_at_call 19; with_reducible refine (K19a.out _ s3.out s4.out).mono ?_; rintro e w5 ⟨rfl, h5⟩; replace d0 := (h5.cell (World.block_lt_of_cell? _ _ d0)).trans d0; replace d1 := (h5.cell (World.block_lt_of_cell? _ _ d1)).trans d1; replace d2 := (h5.cell (World.block_lt_of_cell? _ _ d2)).trans d2; replace p0 := (h5.cell (World.block_lt_of_cell? _ _ p0)).trans p0; replace p1 := (h5.cell (World.block_lt_of_cell? _ _ p1)).trans p1; replace HC := hide (HC.out.below h5); replace s3 := hide (s3.out.below intR_ok h5); replace s4 := hide (s4.out.below intR_ok h5); replace s5 := hide (s5.out.below intR_ok h5); replace s6 := hide (s6.out.below intR_ok h5); clear h5)
      | (go_at_call 19; with_reducible refine (K19b.out _ s5.out s6.out).mono ?_; rintro e w5 ⟨rfl, h5⟩; replace d0 := (h5.cell (World.block_lt_of_cell? _ _ d0)).trans d0; replace d1 := (h5.cell (World.block_lt_of_cell? _ _ d1)).trans d1; replace d2 := (h5.cell (World.block_lt_of_cell? _ _ d2)).trans d2; replace p0 := (h5.cell (World.block_lt_of_cell? _ _ p0)).trans p0; replace p1 := (h5.cell (World.block_lt_of_cell? _ _ p1)).trans p1; replace HC := hide (HC.out.below h5); replace s3 := hide (s3.out.below intR_ok h5); replace s4 := hide (s4.out.below intR_ok h5); replace s5 := hide (s5.out.below intR_ok h5); replace s6 := hide (s6.out.below intR_ok h5); clear h5))
    all_goals
      go_wp2_with fail
      go_ret
      exact ⟨rfl, HC.out.low⟩
  · have hF2 : few45 n es ar rot = false := by simpa using hF
    rw [hF2]
    clear hF hF2
    have d0 := HC.out.b1.cell 0
    have d1 := HC.out.b1.cell 1
    have d2 := HC.out.b1.cell 2
    have p0 := HC.out.b2.cell 0
    have p1 := HC.out.b2.cell 1
    have p2 := HC.out.b2.cell 2
    simp only [List.getElem?_cons_zero, List.getElem?_cons_succ] at d0 d1 d2 p0 p1 p2
    go_wp2_with fail
    refine (awake45_any _).mono ?_
    rintro e W3 ⟨rfl, hb⟩
    replace HC := hide (HC.out.below hb)
    clear hb d0 d1 d2 p0 p1 p2
    go_wp2_with fail
    go_ret
    exact ⟨rfl, HC.out.low⟩

theorem steps_claim (w : World) (n : Int) (es : List Edg) (oe : Option Addr) (c : Nat) (ar : List (List Int)) (oa : Option Addr) (ca : Nat) (hc : es.length ≤ c) (hc2 : es.length ≤ 9223372036854775807) (hs : SliceR edgR 3 All w oe es) (hac : ar.length ≤ ca) (hac2 : ar.length ≤ 9223372036854775807) (ha : SliceR (slcR intR 1) 1 All w oa ar)
    (q : Int) (rot : List Int) (ot : Option Addr) (ct : Nat) (v : Int) (hrc : rot.length ≤ ct) (hrl : rot.length ≤ 9223372036854775807) (hr : SliceR intR 1 All w ot rot) :
    Calls Try.prog 3 #[.agg #[.int .i64 n, .slice oe es.length c, .slice oa ar.length ca], .agg #[.int .i64 q, .slice ot rot.length ct, .int .i64 v]] w fun e w' => e = .returned (.bool true) ∧ Below w.heap.size w w' :=
  steps_walk n es oe c ar oa ca q rot ot ct v w hs hc hc2 ha hac hac2 hr hrc hrl

end Go.Proofs.Ytopldbnlehjlpaa

set_option linter.unusedVariables false
set_option linter.unusedSimpArgs false
set_option linter.unnecessarySimpa false
namespace Go.Proofs.Ytopldbnlehjlpaa
open Go.RowKit

theorem rIn_any (k : Int) (w : World) : Calls Try.prog 111 #[.int .i64 k] w fun e w' => e = .returned (.bool (inChips k)) ∧ w = w' := by
  by_cases h1 : -1048576 ≤ k
  · by_cases h2 : k ≤ 1048576
    · have HR : Hid (inChips k = true) := by show _ = _; simp [inChips, h1, h2]
      have q1 : decide ((-1048576 : Int) ≤ k) = true := by simp [h1]
      have q2 : decide (k ≤ (1048576 : Int)) = true := by simp [h2]
      clear h1 h2
      go_enter Try.func111, Try.ntmps111
      go_wp2_with fail
      go_ret
      exact ⟨ret_bool HR.out.symm, rfl⟩
    · have HR : Hid (inChips k = false) := by show _ = _; simp [inChips]; omega
      have q1 : decide ((-1048576 : Int) ≤ k) = true := by simp [h1]
      have q2 : decide (k ≤ (1048576 : Int)) = false := by simp; omega
      clear h1 h2
      go_enter Try.func111, Try.ntmps111
      go_wp2_with fail
      go_ret
      exact ⟨ret_bool HR.out.symm, rfl⟩
  · have HR : Hid (inChips k = false) := by show _ = _; simp [inChips]; omega
    have q1 : decide ((-1048576 : Int) ≤ k) = false := by simp; omega
    clear h1
    go_enter Try.func111, Try.ntmps111
    go_wp2_with fail
    go_ret
    exact ⟨ret_bool HR.out.symm, rfl⟩

set_option maxRecDepth 100000 in
set_option maxHeartbeats 2000000 in
theorem rdcheck_any (n : Int) (d : List Int) (od : Option Addr) (cd : Nat) (F : Foot) (w : World) (hd : SliceR intR 1 F w od d) (hc : d.length ≤ cd) (hc2 : d.length ≤ 9223372036854775807) :
    Calls Try.prog 97 #[.slice od d.length cd, .int .i64 n] w fun e w' => e = .returned (.int .i64 (dErr n d)) ∧ w = w' := by
  by_cases h1 : 1 ≤ n
  · have q1 : decide (n < (1 : Int)) = false := by simp; omega
    by_cases h3 : n ≤ 12
    · have q2 : decide ((12 : Int) < n) = false := by simp; omega
      by_cases h2 : (d.length : Int) = n
      · have HR : Hid (dErr n d = dScan d) := by show _ = _; unfold dErr; rw [if_pos ⟨h1, h3⟩, if_pos h2]
        have q3 : ((d.length : Int) != n) = false := by simp [h2]
        have hn := hide h2
        clear h1 h3 h2
        go_enter Try.func97, Try.ntmps97
        go_wp2_with fail
        go_loopw [5] (fun iv wr => ∃ k : Nat, k ≤ d.length ∧ iv = .int .i64 k ∧ Hid (dErr n d = dScan (d.drop k)) ∧ wr = w) (fun iv _ => d.length - (intOf iv).toNat)
        case atStart => exact ⟨0, by omega, rfl, HR, rfl⟩
        case round =>
          obtain ⟨k, hk, rfl, HS, rfl⟩ := hrel
          by_cases hlt : k < d.length
          · have q4 : decide ((k : Int) < n) = true := by have := hn.out; simp; omega
            obtain ⟨x, hdr, _, ix, b, off, hod, _, c0⟩ := hd.int_at hlt
            subst hod
            have HS2 : Hid (dErr n d = if inChips x = true then dScan (d.drop (k + 1)) else 2) := by show _ = _; rw [HS.out, hdr]; rfl
            clear hdr
            by_cases hx : inChips x = true
            · have HS3 : Hid (dErr n d = dScan (d.drop (k + 1))) := by show _ = _; rw [HS2.out, if_pos hx]
              have hI := rIn_any x wr
              rw [hx] at hI
              clear hx
              go_wp2_with fail
              refine hI.mono ?_
              rintro e w3 ⟨rfl, rfl⟩
              go_wp2_with fail
              go_roundw
              case rel => exact ⟨k + 1, by omega, by go_num, HS3, by first | rfl | trivial⟩
              case measure => simp [intOf]; omega
            · have HS3 : Hid (dErr n d = 2) := by show _ = _; rw [HS2.out, if_neg hx]
              have hx2 : inChips x = false := by simpa using hx
              have hI := rIn_any x wr
              rw [hx2] at hI
              clear hx hx2
              go_wp2_with fail
              refine hI.mono ?_
              rintro e w3 ⟨rfl, rfl⟩
              go_wp2_with fail
              go_ret
              exact ⟨ret_int HS3.out.symm, rfl⟩
          · have q4 : decide ((k : Int) < n) = false := by have := hn.out; simp; omega
            have hke : k = d.length := by omega
            have HS3 : Hid (dErr n d = 0) := by show _ = _; rw [HS.out, hke, List.drop_length]; rfl
            clear hke
            go_wp2_with fail
            go_ret
            exact ⟨ret_int HS3.out.symm, rfl⟩
      · have HR : Hid (dErr n d = 8) := by show _ = _; unfold dErr; rw [if_pos ⟨h1, h3⟩, if_neg h2]
        have q3 : ((d.length : Int) != n) = true := by simp [h2]
        clear h1 h3 h2
        go_enter Try.func97, Try.ntmps97
        go_wp2_with fail
        go_ret
        exact ⟨ret_int HR.out.symm, rfl⟩
    · have HR : Hid (dErr n d = 2) := if_neg (by omega)
      have q2 : decide ((12 : Int) < n) = true := by simp; omega
      clear h1 h3
      go_enter Try.func97, Try.ntmps97
      go_wp2_with fail
      go_ret
      exact ⟨ret_int HR.out.symm, rfl⟩
  · have HR : Hid (dErr n d = 2) := if_neg (by omega)
    have q1 : decide (n < (1 : Int)) = true := by simp; omega
    clear h1
    go_enter Try.func97, Try.ntmps97
    go_wp2_with fail
    go_ret
    exact ⟨ret_int HR.out.symm, rfl⟩

/-- The error of the chips alone. -/
def chE (n q : Int) (d : List Int) : Int := if dErr n d = 0 then gScan q 0 d else dErr n d

set_option maxRecDepth 100000 in
set_option maxHeartbeats 2000000 in
theorem rchips_any (n : Int) (oe : Option Addr) (k c : Nat) (oa : Option Addr) (l ca : Nat) (q : Int) (d : List Int) (od : Option Addr) (cd : Nat) (F : Foot) (w : World) (hd : SliceR intR 1 F w od d) (hc : d.length ≤ cd) (hc2 : d.length ≤ 9223372036854775807) :
    Calls Try.prog 78 #[.agg #[.int .i64 n, .slice oe k c, .slice oa l ca], .int .i64 q, .slice od d.length cd] w (ErrPost w (chE n q d)) := by
  have hb0 := bnew (Below.refl w.heap.size w) (.cells #[.int .i64 n, .slice oe k c, .slice oa l ca] 27)
  have HK := hide (rdcheck_any n d od cd F _ (hd.below intR_ok hb0) hc hc2)
  have HD := hide (hd.below intR_ok hb0)
  have HB := hide hb0
  clear hb0 hd
  go_enter Try.func78, Try.ntmps78
  go_wp2_with fail
  refine HK.out.mono ?_
  rintro e w2 ⟨rfl, rfl⟩
  by_cases hE : dErr n d = 0
  · have HG : Hid (chE n q d = gScan q 0 d) := if_pos hE
    rw [hE]
    clear hE
    go_wp2_with fail
    obtain ⟨W1, hW1⟩ : ∃ W1, w.alloc (.cells #[.int .i64 n, .slice oe k c, .slice oa l ca] 27) = W1 := ⟨_, rfl⟩
    rw [hW1] at HD HB ⊢
    clear hW1 HK
    go_loopw [8] (fun iv wr => ∃ k : Nat, k ≤ d.length ∧ iv = .int .i64 k ∧ Hid (chE n q d = gScan q k (d.drop k)) ∧ wr = W1) (fun iv _ => d.length - (intOf iv).toNat)
    case atStart => exact ⟨0, by omega, rfl, HG, rfl⟩
    case round =>
      obtain ⟨k, hk, rfl, HS, rfl⟩ := hrel
      by_cases hlt : k < d.length
      · obtain ⟨x, hdr, _, ix, b, off, hod, _, c0⟩ := HD.out.int_at hlt
        subst hod
        have HS2 : Hid (chE n q d = if (k : Int) ≠ q ∧ x < 0 then 2 else gScan q (k + 1) (d.drop (k + 1))) := by show _ = _; rw [HS.out, hdr]; rfl
        clear hdr
        by_cases hkq : (k : Int) = q
        · have q1 : ((k : Int) != q) = false := by simp [hkq]
          have HS3 : Hid (chE n q d = gScan q (k + 1) (d.drop (k + 1))) := by show _ = _; rw [HS2.out, if_neg (by intro h; exact h.1 hkq)]
          clear hkq
          go_wp2_with fail
          go_roundw
          case rel => exact ⟨k + 1, by omega, by go_num, HS3, by first | rfl | trivial⟩
          case measure => simp [intOf]; omega
        · have q1 : ((k : Int) != q) = true := by simp [hkq]
          by_cases hx : x < 0
          · have q2 : decide (x < 0) = true := by simp [hx]
            have HS3 : Hid (chE n q d = 2) := by show _ = _; rw [HS2.out, if_pos ⟨hkq, hx⟩]
            clear hkq hx
            go_wp2_with fail
            go_ret
            exact ⟨ret_int HS3.out.symm, HB.out⟩
          · have q2 : decide (x < 0) = false := by simp; omega
            have HS3 : Hid (chE n q d = gScan q (k + 1) (d.drop (k + 1))) := by show _ = _; rw [HS2.out, if_neg (by intro h; exact hx h.2)]
            clear hkq hx
            go_wp2_with fail
            go_roundw
            case rel => exact ⟨k + 1, by omega, by go_num, HS3, by first | rfl | trivial⟩
            case measure => simp [intOf]; omega
      · have hke : k = d.length := by omega
        have HS3 : Hid (chE n q d = 0) := by show _ = _; rw [HS.out, hke, List.drop_length]; rfl
        clear hke
        go_wp2_with fail
        go_ret
        exact ⟨ret_int HS3.out.symm, HB.out⟩
  · have HG : Hid (chE n q d = dErr n d) := if_neg hE
    have hq : (dErr n d != 0) = true := by simpa using hE
    clear hE
    go_wp2_with fail
    go_ret
    exact ⟨ret_int HG.out.symm, HB.out⟩

set_option maxRecDepth 100000 in
set_option maxHeartbeats 2000000 in
theorem rgiven_any (n : Int) (es : List Edg) (oe : Option Addr) (c : Nat) (ar : List (List Int)) (oa : Option Addr) (ca : Nat) (F G : Foot) (w : World) (hs : SliceR edgR 3 F w oe es) (hc : es.length ≤ c) (hc2 : es.length ≤ 1000)
    (ha : SliceR (slcR intR 1) 1 G w oa ar) (hac : ar.length ≤ ca) (hac2 : ar.length ≤ 9223372036854775807) (f : List Nat) (hU : Hid (gErr n es = 0 → Uf f (eL es)))
    (q : Int) (rot : List Int) (ot : Option Addr) (ct : Nat) (H : Foot) (hr : SliceR intR 1 H w ot rot) (hrc : rot.length ≤ ct) (hrl : rot.length ≤ 9223372036854775807)
    (d : List Int) (od : Option Addr) (cd : Nat) (D : Foot) (hd : SliceR intR 1 D w od d) (hdc : d.length ≤ cd) (hdl : d.length ≤ 9223372036854775807) :
    Calls Try.prog 55 #[.agg #[.int .i64 n, .slice oe es.length c, .slice oa ar.length ca], .int .i64 q, .slice ot rot.length ct, .slice od d.length cd] w (ErrPost w (gvE n es f ar q rot d)) := by
  go_enter Try.func55, Try.ntmps55
  go_wp2_with fail
  have hb0 := box_refl w (.cells #[.int .i64 n, .slice oe es.length c, .slice oa ar.length ca] 27)
  refine (r45check_any n es oe c ar oa ca F G _ (hs.below edgR_ok (below_box hb0)) hc hc2 (ha.below (slcR_ok intR_ok (by decide)) (below_box hb0)) hac hac2 f hU q rot ot ct H (hr.below intR_ok (below_box hb0)) hrc hrl).mono ?_
  rintro e w2 ⟨rfl, hb2⟩
  have hx2 := hb2.mono (B' := w.heap.size + 1) (by simp)
  have d0 := box_cell hx2 0
  have d1 := box_cell hx2 1
  have d2 := box_cell hx2 2
  simp at d0 d1 d2
  have HX := hide (below_box hx2)
  clear hb2 hb0 hx2
  by_cases hR : rtE n es f ar q rot = 0
  · have HG : Hid (gvE n es f ar q rot d = chE n q d) := if_pos hR
    rw [hR]
    clear hR
    go_wp2_with fail
    refine (rchips_any n oe es.length c oa ar.length ca q d od cd D w2 (hd.below intR_ok HX.out) hdc hdl).mono ?_
    rintro e w3 ⟨rfl, hb3⟩
    have HB := hide (HX.out.trans (hb3.mono HX.out.size))
    clear hb3
    go_wp2_with fail
    go_ret
    exact ⟨ret_int HG.out.symm, HB.out⟩
  · have HG : Hid (gvE n es f ar q rot d = rtE n es f ar q rot) := if_neg hR
    have hq : (rtE n es f ar q rot != 0) = true := by simpa using hR
    clear hR
    go_wp2_with fail
    go_ret
    exact ⟨ret_int HG.out.symm, HX.out⟩

end Go.Proofs.Ytopldbnlehjlpaa

set_option linter.unusedVariables false
set_option linter.unusedSimpArgs false
set_option linter.unnecessarySimpa false
namespace Go.Proofs.Ytopldbnlehjlpaa
open Go.RowKit

theorem few17_any (d : List Int) (od : Option Addr) (cd : Nat) (w : World) : Calls Try.prog 53 #[.slice od d.length cd] w fun e w' => e = .returned (.bool (decide (d.length ≤ 24))) ∧ Below w.heap.size w w' := by
  have HR : Hid (decide (d.length ≤ 24) = decide ((d.length : Int) ≤ 24)) := by show _ = _; simp; omega
  go_enter Try.func53, Try.ntmps53
  go_wp2_with fail
  go_ret
  exact ⟨ret_bool HR.out.symm, Below.refl _ _⟩

/-- All chips are from -60 to 60. -/
def smD : List Int → Bool
  | [] => true
  | x :: r => if x < -60 ∨ 60 < x then false else smD r
theorem smD_yes : ∀ {d : List Int}, smD d = true → ∀ x ∈ d, -60 ≤ x ∧ x ≤ 60
  | [], _, x, hx => by cases hx
  | y :: r, h, x, hx => by
    unfold smD at h
    split at h
    · cases h
    · rename_i h1
      rcases List.mem_cons.1 hx with rfl | h2
      · omega
      · exact smD_yes h x h2

set_option maxRecDepth 100000 in
set_option maxHeartbeats 2000000 in
theorem smD_any (d : List Int) (od : Option Addr) (cd : Nat) (F : Foot) (w : World) (hd : SliceR intR 1 F w od d) (hc : d.length ≤ cd) (hc2 : d.length ≤ 9223372036854775807) :
    Calls Try.prog 54 #[.slice od d.length cd] w fun e w' => e = .returned (.bool (smD d)) ∧ Below w.heap.size w w' := by
  go_enter Try.func54, Try.ntmps54
  go_wp2_with fail
  go_loopw [3] (fun iv wr => ∃ k : Nat, k ≤ d.length ∧ iv = .int .i64 k ∧ Hid (smD d = smD (d.drop k)) ∧ wr = w) (fun iv _ => d.length - (intOf iv).toNat)
  case atStart => exact ⟨0, by omega, rfl, rfl, rfl⟩
  case round =>
    obtain ⟨k, hk, rfl, HS, rfl⟩ := hrel
    by_cases hlt : k < d.length
    · obtain ⟨x, hdr, _, ix, b, off, hod, _, c0⟩ := hd.int_at hlt
      subst hod
      have HS2 : Hid (smD d = if x < -60 ∨ 60 < x then false else smD (d.drop (k + 1))) := by show _ = _; rw [HS.out, hdr]; rfl
      clear hdr
      by_cases h1 : x < -60
      · have q1 : decide (x < (-60 : Int)) = true := by simp [h1]
        have HS3 : Hid (smD d = false) := by show _ = _; rw [HS2.out, if_pos (.inl h1)]
        clear h1
        go_wp2_with fail
        go_ret
        exact ⟨ret_bool HS3.out.symm, Below.refl _ _⟩
      · have q1 : decide (x < (-60 : Int)) = false := by simp; omega
        by_cases h2 : 60 < x
        · have q2 : decide ((60 : Int) < x) = true := by simp [h2]
          have HS3 : Hid (smD d = false) := by show _ = _; rw [HS2.out, if_pos (.inr h2)]
          clear h1 h2
          go_wp2_with fail
          go_ret
          exact ⟨ret_bool HS3.out.symm, Below.refl _ _⟩
        · have q2 : decide ((60 : Int) < x) = false := by simp; omega
          have HS3 : Hid (smD d = smD (d.drop (k + 1))) := by show _ = _; rw [HS2.out, if_neg (by omega)]
          clear h1 h2
          go_wp2_with fail
          go_roundw
          case rel => exact ⟨k + 1, by omega, by go_num, HS3, by first | rfl | trivial⟩
          case measure => simp [intOf]; omega
    · have hke : k = d.length := by omega
      have HS3 : Hid (smD d = true) := by show _ = _; rw [HS.out, hke, List.drop_length]; rfl
      clear hke
      go_wp2_with fail
      go_ret
      exact ⟨ret_bool HS3.out.symm, Below.refl _ _⟩

/-- What the laws' functions on games lean on between their calls. -/
structure GamCtx (w : World) (n : Int) (es : List Edg) (oe : Option Addr) (c : Nat) (ar : List (List Int)) (oa : Option Addr) (ca : Nat) (q : Int) (rot : List Int) (ot : Option Addr) (ct : Nat) (d : List Int) (od : Option Addr) (cd : Nat) (pk : List Int) (op : Option Addr) (cp : Nat) (W : World) : Prop where
  hes : SliceR edgR 3 All W oe es
  har : SliceR (slcR intR 1) 1 All W oa ar
  hrt : SliceR intR 1 All W ot rot
  hdd : SliceR intR 1 All W od d
  hpk : SliceR intR 1 All W op pk
  b1 : Box W w.heap.size [.int .i64 n, .slice oe es.length c, .slice oa ar.length ca] 27
  b2 : Box W (w.heap.size + 1) [.int .i64 q, .slice ot rot.length ct, .slice od d.length cd, .slice op pk.length cp] 54
  low : Below w.heap.size w W
section
variable {w : World} {n : Int} {es : List Edg} {oe : Option Addr} {c : Nat} {ar : List (List Int)} {oa : Option Addr} {ca : Nat} {q : Int} {rot : List Int} {ot : Option Addr} {ct : Nat} {d : List Int} {od : Option Addr} {cd : Nat} {pk : List Int} {op : Option Addr} {cp : Nat}
theorem GamCtx.below {W W' : World} (h : GamCtx w n es oe c ar oa ca q rot ot ct d od cd pk op cp W) (hb : Below W.heap.size W W') : GamCtx w n es oe c ar oa ca q rot ot ct d od cd pk op cp W' :=
  ⟨h.hes.below edgR_ok hb, h.har.below (slcR_ok intR_ok (by decide)) hb, h.hrt.below intR_ok hb, h.hdd.below intR_ok hb, h.hpk.below intR_ok hb, h.b1.below hb, h.b2.below hb, h.low.trans (hb.mono h.low.size)⟩
theorem GamCtx.new (h1 : SliceR edgR 3 All w oe es) (h2 : SliceR (slcR intR 1) 1 All w oa ar) (h3 : SliceR intR 1 All w ot rot) (h4 : SliceR intR 1 All w od d) (h5 : SliceR intR 1 All w op pk) :
    GamCtx w n es oe c ar oa ca q rot ot ct d od cd pk op cp ((w.alloc (.cells #[.int .i64 n, .slice oe es.length c, .slice oa ar.length ca] 27)).alloc (.cells #[.int .i64 q, .slice ot rot.length ct, .slice od d.length cd, .slice op pk.length cp] 54)) := by
  have hb := bnew (bnew (Below.refl w.heap.size w) (.cells #[.int .i64 n, .slice oe es.length c, .slice oa ar.length ca] 27)) (.cells #[.int .i64 q, .slice ot rot.length ct, .slice od d.length cd, .slice op pk.length cp] 54)
  refine ⟨h1.below edgR_ok hb, h2.below (slcR_ok intR_ok (by decide)) hb, h3.below intR_ok hb, h4.below intR_ok hb, h5.below intR_ok hb, (Box.new w [.int .i64 n, .slice oe es.length c, .slice oa ar.length ca] 27).next _, ?_, hb⟩
  have := Box.new (w.alloc (.cells #[.int .i64 n, .slice oe es.length c, .slice oa ar.length ca] 27)) [.int .i64 q, .slice ot rot.length ct, .slice od d.length cd, .slice op pk.length cp] 54
  simpa using this
end

/-- A right and small game. -/
def smallB (n : Int) (es : List Edg) (ar : List (List Int)) (q : Int) (rot d : List Int) : Bool :=
  if few45 n es ar rot = true then (if d.length ≤ 24 then (if gvE n es (forest es) ar q rot d = 0 then smD d else false) else false) else false
theorem smallB_yes {n : Int} {es : List Edg} {ar : List (List Int)} {q : Int} {rot d : List Int} (h : smallB n es ar q rot d = true) : few45 n es ar rot = true ∧ gvE n es (forest es) ar q rot d = 0 ∧ smD d = true := by
  unfold smallB at h
  split at h
  · rename_i h1
    split at h
    · split at h
      · rename_i h3; exact ⟨h1, h3, h⟩
      · cases h
    · cases h
  · cases h

set_option maxRecDepth 100000 in
set_option maxHeartbeats 4000000 in
theorem small45_any (n : Int) (es : List Edg) (oe : Option Addr) (c : Nat) (ar : List (List Int)) (oa : Option Addr) (ca : Nat) (q : Int) (rot : List Int) (ot : Option Addr) (ct : Nat) (d : List Int) (od : Option Addr) (cd : Nat) (pk : List Int) (op : Option Addr) (cp : Nat) (w : World)
    (hs : SliceR edgR 3 All w oe es) (hc : es.length ≤ c) (hc2 : es.length ≤ 9223372036854775807) (ha : SliceR (slcR intR 1) 1 All w oa ar) (hac : ar.length ≤ ca) (hac2 : ar.length ≤ 9223372036854775807) (hr : SliceR intR 1 All w ot rot) (hrc : rot.length ≤ ct) (hrl : rot.length ≤ 9223372036854775807)
    (hd : SliceR intR 1 All w od d) (hdc : d.length ≤ cd) (hdl : d.length ≤ 9223372036854775807) (hp : SliceR intR 1 All w op pk) :
    Calls Try.prog 30 #[.agg #[.int .i64 n, .slice oe es.length c, .slice oa ar.length ca], .agg #[.int .i64 q, .slice ot rot.length ct, .slice od d.length cd, .slice op pk.length cp]] w fun e w' => e = .returned (.bool (smallB n es ar q rot d)) ∧ Below w.heap.size w w' := by
  have hU : Hid (gErr n es = 0 → Uf (forest es) (eL es)) := forest_ok n es
  have C0 := GamCtx.new (n := n) (c := c) (ca := ca) (q := q) (ct := ct) (cd := cd) (cp := cp) hs ha hr hd hp
  obtain ⟨W1, hW1⟩ : ∃ W1, (w.alloc (.cells #[.int .i64 n, .slice oe es.length c, .slice oa ar.length ca] 27)).alloc (.cells #[.int .i64 q, .slice ot rot.length ct, .slice od d.length cd, .slice op pk.length cp] 54) = W1 := ⟨_, rfl⟩
  rw [hW1] at C0
  have HC := hide C0
  have d0 := HC.out.b1.cell 0
  have d1 := HC.out.b1.cell 1
  have d2 := HC.out.b1.cell 2
  have p0 := HC.out.b2.cell 0
  have p1 := HC.out.b2.cell 1
  have p2 := HC.out.b2.cell 2
  have p3 := HC.out.b2.cell 3
  simp only [List.getElem?_cons_zero, List.getElem?_cons_succ] at d0 d1 d2 p0 p1 p2 p3
  clear hs ha hr hd hp C0
  go_enter Try.func30, Try.ntmps30
  go_wp2_with fail
  clear d0 d1 d2 p0 p1 p2 p3
  refine (few45_any n es oe c ar oa ca All All _ HC.out.hes hc hc2 HC.out.har hac hac2 rot ot ct).mono ?_
  rintro e W2 ⟨rfl, hb⟩
  replace HC := hide (HC.out.below hb)
  clear hb hW1
  by_cases hF : few45 n es ar rot = true
  · obtain ⟨hc3, _, _⟩ := few45_yes hF
    have HS : Hid (smallB n es ar q rot d = if d.length ≤ 24 then (if gvE n es (forest es) ar q rot d = 0 then smD d else false) else false) := if_pos hF
    rw [hF]
    clear hF
    have d0 := HC.out.b1.cell 0
    have d1 := HC.out.b1.cell 1
    have d2 := HC.out.b1.cell 2
    have p0 := HC.out.b2.cell 0
    have p1 := HC.out.b2.cell 1
    have p2 := HC.out.b2.cell 2
    have p3 := HC.out.b2.cell 3
    simp only [List.getElem?_cons_zero, List.getElem?_cons_succ] at d0 d1 d2 p0 p1 p2 p3
    go_wp2_with fail
    clear d0 d1 d2 p0 p1 p2 p3
    refine (few17_any d od cd W2).mono ?_
    rintro e W3 ⟨rfl, hb⟩
    replace HC := hide (HC.out.below hb)
    clear hb
    by_cases h24 : d.length ≤ 24
    · have HS2 : Hid (smallB n es ar q rot d = if gvE n es (forest es) ar q rot d = 0 then smD d else false) := by show _ = _; rw [HS.out, if_pos h24]
      have q1 : decide (d.length ≤ 24) = true := by simp [h24]
      rw [q1]
      clear h24 q1 HS
      have d0 := HC.out.b1.cell 0
      have d1 := HC.out.b1.cell 1
      have d2 := HC.out.b1.cell 2
      have p0 := HC.out.b2.cell 0
      have p1 := HC.out.b2.cell 1
      have p2 := HC.out.b2.cell 2
      have p3 := HC.out.b2.cell 3
      simp only [List.getElem?_cons_zero, List.getElem?_cons_succ] at d0 d1 d2 p0 p1 p2 p3
      go_wp2_with fail
      clear d0 d1 d2 p0 p1 p2 p3
      refine (rgiven_any n es oe c ar oa ca All All W3 HC.out.hes hc (by omega) HC.out.har hac hac2 (forest es) hU q rot ot ct All HC.out.hrt hrc hrl d od cd All HC.out.hdd hdc hdl).mono ?_
      rintro e W4 ⟨rfl, hb⟩
      replace HC := hide (HC.out.below hb)
      clear hb
      by_cases hG : gvE n es (forest es) ar q rot d = 0
      · have HS3 : Hid (smallB n es ar q rot d = smD d) := by show _ = _; rw [HS2.out, if_pos hG]
        rw [hG]
        clear hG HS2
        have d0 := HC.out.b1.cell 0
        have d1 := HC.out.b1.cell 1
        have d2 := HC.out.b1.cell 2
        have p0 := HC.out.b2.cell 0
        have p1 := HC.out.b2.cell 1
        have p2 := HC.out.b2.cell 2
        have p3 := HC.out.b2.cell 3
        simp only [List.getElem?_cons_zero, List.getElem?_cons_succ] at d0 d1 d2 p0 p1 p2 p3
        go_wp2_with fail
        clear d0 d1 d2 p0 p1 p2 p3
        refine (smD_any d od cd All W4 HC.out.hdd hdc hdl).mono ?_
        rintro e W5 ⟨rfl, hb⟩
        replace HC := hide (HC.out.below hb)
        clear hb
        go_wp2_with fail
        go_ret
        exact ⟨ret_bool HS3.out.symm, HC.out.low⟩
      · have HS3 : Hid (smallB n es ar q rot d = false) := by show _ = _; rw [HS2.out, if_neg hG]
        have q2 : (gvE n es (forest es) ar q rot d == 0) = false := by simpa using hG
        clear hG HS2
        go_wp2_with fail
        go_ret
        exact ⟨ret_bool HS3.out.symm, HC.out.low⟩
    · have HS2 : Hid (smallB n es ar q rot d = false) := by show _ = _; rw [HS.out, if_neg h24]
      have q1 : decide (d.length ≤ 24) = false := by simp; omega
      rw [q1]
      clear h24 q1 HS
      go_wp2_with fail
      go_ret
      exact ⟨ret_bool HS2.out.symm, HC.out.low⟩
  · have HS : Hid (smallB n es ar q rot d = false) := if_neg hF
    have hF2 : few45 n es ar rot = false := by simpa using hF
    rw [hF2]
    clear hF hF2
    go_wp2_with fail
    go_ret
    exact ⟨ret_bool HS.out.symm, HC.out.low⟩

end Go.Proofs.Ytopldbnlehjlpaa

set_option linter.unusedVariables false
set_option linter.unusedSimpArgs false
set_option linter.unnecessarySimpa false
namespace Go.Proofs.Ytopldbnlehjlpaa
open Go.RowKit

theorem addL_get (l : List Int) (a b : Nat) (x : Int) : (addL l a x).getD b 0 = if a = b ∧ a < l.length then l.getD b 0 + x else l.getD b 0 := by
  unfold addL
  rw [List.getD_eq_getElem?_getD, List.getElem?_set]
  by_cases h : a = b
  · subst h
    by_cases h2 : a < l.length
    · simp [h2]
    · rw [if_pos rfl, if_neg h2, if_neg (by intro hh; exact h2 hh.2), List.getD_eq_getElem?_getD, List.getElem?_eq_none (by omega)]
  · rw [if_neg h, if_neg (by intro hh; exact h hh.1), List.getD_eq_getElem?_getD]
theorem addL_ext {l m : List Int} (h : l.length = m.length) (hg : ∀ b, l.getD b 0 = m.getD b 0) : l = m := by
  apply List.ext_getElem h
  intro i h1 h2
  have := hg i
  rw [getD_of (List.getElem?_eq_getElem h1), getD_of (List.getElem?_eq_getElem h2)] at this
  exact this
theorem addL_comm (l : List Int) (a b : Nat) (x y : Int) : addL (addL l a x) b y = addL (addL l b y) a x := by
  refine addL_ext (by simp [addL_len]) fun c => ?_
  rw [addL_get, addL_get, addL_get, addL_get, addL_len, addL_len]
  split <;> split <;> omega
theorem stpK_set (ar : List (List Int)) (rot : List Int) {u v : Nat} (h : u ≠ v) (k : Int) : stpK ar (rot.set u k) v = stpK ar rot v := by
  unfold stpK
  rw [List.getD_eq_getElem?_getD, List.getElem?_set_ne h, ← List.getD_eq_getElem?_getD]
theorem stpV_set (ar : List (List Int)) (E : List (Int × Int)) (rot : List Int) {u v : Nat} (h : u ≠ v) (k : Int) : stpV ar E (rot.set u k) v = stpV ar E rot v := by
  unfold stpV
  rw [stpK_set ar rot h]
/-- Two moves at different vertices, in either order. -/
theorem mvS_comm (ar : List (List Int)) (E : List (Int × Int)) (s : MSt) {u v : Nat} (h : u ≠ v) : mvS ar E (mvS ar E s u) v = mvS ar E (mvS ar E s v) u := by
  unfold mvS stpR
  simp only
  rw [stpK_set ar s.1 h, stpK_set ar s.1 (Ne.symm h), stpV_set ar E s.1 h, stpV_set ar E s.1 (Ne.symm h), List.set_comm _ _ h, addL_comm s.2.2 u v]
  congr 2
  rw [addL_comm (addL s.2.1 u (-1)) (stpV ar E s.1 u) v 1 (-1), addL_comm s.2.1 u v (-1) (-1), addL_comm (addL (addL s.2.1 v (-1)) u (-1)) (stpV ar E s.1 u) (stpV ar E s.1 v) 1 1, addL_comm (addL s.2.1 v (-1)) u (stpV ar E s.1 v) (-1) 1]

def Can (q : Nat) (s : MSt) (v : Nat) : Prop := v < s.2.1.length ∧ v ≠ q ∧ 0 < s.2.1.getD v 0
inductive Run (ar : List (List Int)) (E : List (Int × Int)) (q : Nat) : MSt → List Nat → MSt → Prop
  | nil (s : MSt) : Run ar E q s [] s
  | cons {s t : MSt} {v : Nat} {l : List Nat} : Can q s v → Run ar E q (mvS ar E s v) l t → Run ar E q s (v :: l) t
theorem Can.keep {ar : List (List Int)} {E : List (Int × Int)} {q u v : Nat} {s : MSt} (h : Can q s v) (hne : u ≠ v) : Can q (mvS ar E s u) v := by
  obtain ⟨h1, h2, h3⟩ := h
  refine ⟨by simp [mvS, addL_len]; exact h1, h2, ?_⟩
  show 0 < (addL (addL s.2.1 u (-1)) (stpV ar E s.1 u) 1).getD v 0
  rw [addL_get, addL_get, if_neg (c := u = v ∧ u < s.2.1.length) (by intro hh; exact hne hh.1)]
  split <;> omega
/-- Whoever can move may move first. -/
theorem Run.front {ar : List (List Int)} {E : List (Int × Int)} {q : Nat} {s t : MSt} {m : List Nat} (h : Run ar E q s m t) (hd : ∀ v, ¬ Can q t v) : ∀ v, Can q s v → ∃ m', Run ar E q (mvS ar E s v) m' t ∧ m.length = m'.length + 1 := by
  induction h with
  | nil s => exact fun v hv => absurd hv (hd v)
  | @cons s t u l hu hr ih =>
    intro v hv
    by_cases e : u = v
    · subst e
      exact ⟨l, hr, by simp⟩
    · obtain ⟨m', h1, h2⟩ := ih hd v (hv.keep e)
      rw [mvS_comm ar E s e] at h1
      exact ⟨u :: m', .cons (hu.keep (Ne.symm e)) h1, by simp [h2]⟩
/-- A run that ends is as long as every other one that ends, and ends in the same state; no run is longer. -/
theorem Run.rest {ar : List (List Int)} {E : List (Int × Int)} {q : Nat} {s t2 : MSt} {m2 : List Nat} (h2 : Run ar E q s m2 t2) : ∀ {t : MSt} {m : List Nat}, Run ar E q s m t → (∀ v, ¬ Can q t v) → ∃ m3, Run ar E q t2 m3 t ∧ m.length = m2.length + m3.length := by
  induction h2 with
  | nil s => exact fun h hd => ⟨_, h, by simp⟩
  | @cons s t2 v l hv hr ih =>
    intro t m h hd
    obtain ⟨m', h1, h3⟩ := h.front hd v hv
    obtain ⟨m3, h4, h5⟩ := ih h1 hd
    exact ⟨m3, h4, by simp; omega⟩
theorem Run.same {ar : List (List Int)} {E : List (Int × Int)} {q : Nat} {s t t2 : MSt} {m m2 : List Nat} (h : Run ar E q s m t) (hd : ∀ v, ¬ Can q t v) (h2 : Run ar E q s m2 t2) (hd2 : ∀ v, ¬ Can q t2 v) : t2 = t ∧ m2.length = m.length := by
  obtain ⟨m3, h3, h4⟩ := h2.rest h hd
  cases h3 with
  | nil => exact ⟨rfl, by simp at h4; omega⟩
  | cons hv _ => exact absurd hv (hd2 _)
theorem Run.append {ar : List (List Int)} {E : List (Int × Int)} {q : Nat} {s t u : MSt} {m l : List Nat} (h : Run ar E q s m t) (h2 : Run ar E q t l u) : Run ar E q s (m ++ l) u := by
  induction h with
  | nil s => simpa using h2
  | cons hv _ ih => exact .cons hv (ih h2)

end Go.Proofs.Ytopldbnlehjlpaa

set_option linter.unusedVariables false
set_option linter.unusedSimpArgs false
set_option linter.unnecessarySimpa false
namespace Go.Proofs.Ytopldbnlehjlpaa
open Go.RowKit

theorem first_or (f : Nat → Nat) (q : Nat) : ∀ M, (∃ i, i < M ∧ f i = q ∧ ∀ j, j < i → f j ≠ q) ∨ ∀ j, j < M → f j ≠ q
  | 0 => .inr fun j hj => absurd hj (by omega)
  | M + 1 => by
    rcases first_or f q M with ⟨i, h1, h2, h3⟩ | h
    · exact .inl ⟨i, by omega, h2, h3⟩
    · by_cases hM : f M = q
      · exact .inl ⟨M, by omega, hM, h⟩
      · refine .inr fun j hj => ?_
        rcases Nat.lt_or_ge j M with h1 | h1
        · exact h j h1
        · rw [show j = M by omega]; exact hM

theorem sum_set : ∀ (l : List Int) (v : Nat) (x : Int), v < l.length → (addL l v x).sum = l.sum + x
  | [], v, x, h => by simp at h
  | a :: l, 0, x, _ => by simp [addL]; omega
  | a :: l, v + 1, x, h => by
    have := sum_set l v x (by simpa using h)
    simp [addL] at this ⊢
    omega
theorem addL_undo {l : List Int} {v : Nat} {x y : Int} (h : x + y = 0) : addL (addL l v x) v y = l := by
  refine addL_ext (by simp [addL_len]) fun b => ?_
  rw [addL_get, addL_get, addL_len]
  split <;> omega

section
variable {ar : List (List Int)} {E : List (Int × Int)} {q : Nat}

theorem Run.len {s t : MSt} {m : List Nat} (h : Run ar E q s m t) : t.2.1.length = s.2.1.length ∧ t.2.2.length = s.2.2.length := by
  induction h with
  | nil s => exact ⟨rfl, rfl⟩
  | cons hv _ ih => exact ⟨by rw [ih.1]; simp [mvS, addL_len], by rw [ih.2]; simp [mvS, addL_len]⟩
theorem Run.total {s t : MSt} {m : List Nat} (h : Run ar E q s m t) (hl : s.2.2.length = s.2.1.length) : t.2.2.sum = s.2.2.sum + m.length := by
  induction h with
  | nil s => simp
  | @cons s t v l hv _ ih =>
    rw [ih (by simp [mvS, addL_len, hl])]
    show (addL s.2.2 v 1).sum + _ = _
    rw [sum_set _ _ _ (by rw [hl]; exact hv.1)]
    simp
    omega
theorem live_none {s : MSt} : (liveL q s.2.1).length = 0 ↔ ∀ v, ¬ Can q s v := by
  unfold liveL liveP
  rw [List.length_map, List.length_eq_zero_iff, List.filter_eq_nil_iff]
  constructor
  · intro h v hv
    exact h v (by simpa using hv.1) (by simp only [decide_eq_true_eq]; exact ⟨hv.2.1, hv.2.2⟩)
  · intro h v hv hh
    simp only [decide_eq_true_eq] at hh
    exact h v ⟨by simpa using hv, hh.1, hh.2⟩
theorem mvN_run {pk : Nat → List Int → Int} (hpk : Picks pk) (s : MSt) : ∀ i, (∀ j, j < i → (liveL q (mvN ar E q pk s j).2.1).length ≠ 0) → ∃ m, Run ar E q s m (mvN ar E q pk s i) ∧ m.length = i
  | 0, _ => ⟨[], .nil _, rfl⟩
  | i + 1, h => by
    obtain ⟨m, h1, h2⟩ := mvN_run hpk s i fun j hj => h j (by omega)
    have hm := hpk i _ (by intro e; exact h i (by omega) (by rw [e]; rfl) : liveL q (mvN ar E q pk s i).2.1 ≠ [])
    obtain ⟨v, h3, h4, h5, h6⟩ := live_mem hm
    refine ⟨m ++ [v], h1.append (.cons ⟨h4, h5, h6⟩ ?_), by simp [h2]⟩
    have e : mvN ar E q pk s (i + 1) = mvS ar E (mvN ar E q pk s i) v := by
      show mvS ar E (mvN ar E q pk s i) (pk i (liveL q (mvN ar E q pk s i).2.1)).toNat = _
      rw [h3]; rfl
    rw [e]
    exact .nil _

/-- However it is picked: the same. -/
theorem moves_half {M : Nat} {pk pk' : Nat → List Int → Int} (h1 : Picks pk) (h2 : Picks pk') {rot d : List Int} {i : Nat} (hi : i < M) (h3 : (liveL q (mvN ar E q pk (start rot d d.length) i).2.1).length = 0)
    (h4 : ∀ j, j < i → (liveL q (mvN ar E q pk (start rot d d.length) j).2.1).length ≠ 0) : movesUp M ar E q pk' rot d = movesUp M ar E q pk rot d := by
  obtain ⟨m, r1, r2⟩ := mvN_run h1 _ i h4
  have hd := live_none.1 h3
  rcases first_or (fun i => (liveL q (mvN ar E q pk' (start rot d d.length) i).2.1).length) 0 M with ⟨k, k1, k2, k3⟩ | hn
  · obtain ⟨m', s1, s2⟩ := mvN_run h2 _ k k3
    obtain ⟨e1, e2⟩ := r1.same hd s1 (live_none.1 k2)
    rw [movesUp_hit hi rfl h3 h4, movesUp_hit k1 rfl k2 k3, e1]
  · obtain ⟨m', s1, s2⟩ := mvN_run h2 _ M hn
    obtain ⟨m3, _, e⟩ := s1.rest r1 hd
    omega
theorem moves_same (M : Nat) {pk pk' : Nat → List Int → Int} (h1 : Picks pk) (h2 : Picks pk') (rot d : List Int) : movesUp M ar E q pk rot d = movesUp M ar E q pk' rot d := by
  rcases first_or (fun i => (liveL q (mvN ar E q pk (start rot d d.length) i).2.1).length) 0 M with ⟨k, k1, k2, k3⟩ | hn
  · exact (moves_half h1 h2 k1 k2 k3).symm
  · rcases first_or (fun i => (liveL q (mvN ar E q pk' (start rot d d.length) i).2.1).length) 0 M with ⟨k, k1, k2, k3⟩ | hn'
    · exact moves_half h2 h1 k1 k2 k3
    · rw [movesUp_none hn, movesUp_none hn']
theorem movesOf_same {pk pk' : Nat → List Int → Int} (h1 : Picks pk) (h2 : Picks pk') (rot d : List Int) : movesOf ar E q pk rot d = movesOf ar E q pk' rot d := moves_same _ h1 h2 rot d

/-- A chip that is routed. -/
theorem chip_run {rot d t : List Int} {v : Nat} (hn : ∀ u, u ≠ q → 0 ≤ d.getD u 0) (hv : v < d.length) (hp : v ≠ q → 0 < d.getD v 0) (hb : ∀ i, (∀ j, j < i → chipV ar E rot v j ≠ q) → chipV ar E rot v i < d.length) :
    ∀ i, (∀ j, j < i → chipV ar E rot v j ≠ q) → ∃ m t', Run ar E q (rot, d, t) m (rotI ar E rot v i, addL (addL d v (-1)) (chipV ar E rot v i) 1, t') ∧ m.length = i
  | 0, _ => ⟨[], t, by
    show Run ar E q (rot, d, t) [] (rot, addL (addL d v (-1)) v 1, t)
    rw [addL_undo (by omega)]
    exact .nil _, rfl⟩
  | i + 1, h => by
    obtain ⟨m, t', h1, h2⟩ := chip_run (t := t) hn hv hp hb i fun j hj => h j (by omega)
    have hq := h i (by omega)
    have hvq : v ≠ q := h 0 (by omega)
    refine ⟨m ++ [chipV ar E rot v i], addL t' (chipV ar E rot v i) 1, h1.append (.cons ⟨?_, hq, ?_⟩ ?_), by simp [h2]⟩
    · simp only [addL_len]
      exact hb i fun j hj => h j (by omega)
    · have := hb i fun j hj => h j (by omega)
      have h3 := hn _ hq
      have h4 := hp hvq
      show 0 < (addL (addL d v (-1)) (chipV ar E rot v i) 1).getD (chipV ar E rot v i) 0
      rw [addL_get, addL_len, if_pos ⟨rfl, this⟩, addL_get]
      split
      · rename_i h5
        rw [← h5.1]
        omega
      · omega
    · have : mvS ar E (rotI ar E rot v i, addL (addL d v (-1)) (chipV ar E rot v i) 1, t') (chipV ar E rot v i) = (rotI ar E rot v (i + 1), addL (addL d v (-1)) (chipV ar E rot v (i + 1)) 1, addL t' (chipV ar E rot v i) 1) := by
        unfold mvS
        simp only
        rw [addL_undo (l := addL d v (-1)) (v := chipV ar E rot v i) (x := 1) (y := -1) (by omega)]
        rfl
      rw [this]
      exact .nil _

end

/-- Behind the chips of the vertices below v, and j chips of v. -/
def AddSt (n : Int) (es : List Edg) (ar : List (List Int)) (q : Nat) (rot d : List Int) (v j : Nat) (now : List Int) (steps : Nat) : Prop :=
  ∃ m D t', Run ar (endsL es) q (start rot d d.length) m (now, D, t') ∧ m.length = steps ∧ RtOk n es ar q now ∧ D.length = d.length ∧ (∀ u, u ≠ q → 0 ≤ D.getD u 0) ∧
    (∀ u, u ≠ q → u < v → D.getD u 0 = 0) ∧ (∀ u, u ≠ q → v < u → D.getD u 0 = d.getD u 0) ∧ (v ≠ q → D.getD v 0 = d.getD v 0 - j)
theorem AddSt.rotors {n : Int} {es : List Edg} {ar : List (List Int)} {q : Nat} {rot d : List Int} {v j : Nat} {now : List Int} {steps : Nat} (h : AddSt n es ar q rot d v j now steps) : RtOk n es ar q now := by
  obtain ⟨_, _, _, _, _, h3, _⟩ := h
  exact h3
theorem AddSt.begin {n : Int} {es : List Edg} {ar : List (List Int)} {q : Nat} {rot d : List Int} (h : RtOk n es ar q rot) (hn : ∀ u, u ≠ q → 0 ≤ d.getD u 0) : AddSt n es ar q rot d 0 0 rot 0 :=
  ⟨[], d, _, .nil _, rfl, h, rfl, hn, fun u _ hu => absurd hu (by omega), fun _ _ _ => rfl, fun _ => by simp⟩
theorem AddSt.next {n : Int} {es : List Edg} {ar : List (List Int)} {q : Nat} {rot d : List Int} {v j : Nat} {now : List Int} {steps : Nat} (h : AddSt n es ar q rot d v j now steps) (hj : v ≠ q → (d.getD v 0) ≤ j) : AddSt n es ar q rot d (v + 1) 0 now steps := by
  obtain ⟨m, D, t', h1, h2, h3, h4, h5, h6, h7, h8⟩ := h
  refine ⟨m, D, t', h1, h2, h3, h4, h5, fun u hu hlt => ?_, fun u hu hlt => h7 u hu (by omega), fun hu => by rw [h7 (v + 1) hu (by omega)]; simp⟩
  rcases Nat.lt_or_ge u v with hl | hl
  · exact h6 u hu hl
  · have : u = v := by omega
    subst this
    have a1 := h8 hu
    have a2 := h5 u hu
    have a3 := hj hu
    omega
theorem AddSt.step {n : Int} {es : List Edg} {ar : List (List Int)} {q : Nat} {rot d : List Int} {v j : Nat} {now : List Int} {steps M : Nat} {mm : List Nat} {tt : MSt} (h : AddSt n es ar q rot d v j now steps) (hd : d.length = ar.length) (hv : v < d.length) (hj : (j : Int) < d.getD v 0)
    (hr : Run ar (endsL es) q (start rot d d.length) mm tt) (ht : ∀ u, ¬ Can q tt u) (hM : mm.length < M) :
    ∃ i, i < M ∧ chipV ar (endsL es) now v i = q ∧ (∀ k, k < i → chipV ar (endsL es) now v k ≠ q) ∧ AddSt n es ar q rot d v (j + 1) (rotI ar (endsL es) now v i) (steps + i) ∧ RtOk n es ar q (rotI ar (endsL es) now v i) ∧ steps + i ≤ mm.length := by
  obtain ⟨m, D, t', h1, h2, h3, h4, h5, h6, h7, h8⟩ := h
  have hb : ∀ i, (∀ k, k < i → chipV ar (endsL es) now v k ≠ q) → chipV ar (endsL es) now v i < D.length := fun i hi => by
    have := (h3.along (by omega : v < ar.length) i hi).2
    rw [h4, hd]; exact this
  have hR := chip_run (t := t') h5 (by omega : v < D.length) (fun hq => by have := h8 hq; omega) hb
  rcases first_or (chipV ar (endsL es) now v) q M with ⟨i, i1, i2, i3⟩ | hn
  · obtain ⟨m2, t2, r1, r2⟩ := hR i i3
    rw [i2] at r1
    have hrun := h1.append r1
    have hrt := (h3.along (by omega : v < ar.length) i i3).1
    refine ⟨i, i1, i2, i3, ⟨m ++ m2, _, t2, hrun, by simp; omega, hrt, by simp [addL_len, h4], fun u hu => ?_, fun u hu hl => ?_, fun u hu hl => ?_, fun hu => ?_⟩, hrt, ?_⟩
    · rw [addL_get, addL_get, if_neg (c := q = u ∧ _) (by intro hh; exact hu hh.1.symm)]
      split
      · rename_i h9
        have := h8 (by rw [h9.1]; exact hu)
        rw [← h9.1]
        omega
      · exact h5 u hu
    · rw [addL_get, addL_get, if_neg (c := q = u ∧ _) (by intro hh; exact hu hh.1.symm), if_neg (by omega)]
      exact h6 u hu hl
    · rw [addL_get, addL_get, if_neg (c := q = u ∧ _) (by intro hh; exact hu hh.1.symm), if_neg (by omega)]
      exact h7 u hu hl
    · rw [addL_get, addL_get, if_neg (c := q = v ∧ _) (by intro hh; exact hu hh.1.symm), if_pos ⟨rfl, by omega⟩, h8 hu]
      omega
    · obtain ⟨m3, _, e⟩ := hrun.rest hr ht
      simp at e
      omega
  · obtain ⟨m2, t2, r1, r2⟩ := hR M hn
    obtain ⟨m3, _, e⟩ := (h1.append r1).rest hr ht
    simp at e
    omega
theorem AddSt.finish {n : Int} {es : List Edg} {ar : List (List Int)} {q : Nat} {rot d : List Int} {now : List Int} {steps : Nat} {mm : List Nat} {tt : MSt} (h : AddSt n es ar q rot d d.length 0 now steps)
    (hr : Run ar (endsL es) q (start rot d d.length) mm tt) (ht : ∀ u, ¬ Can q tt u) : now = tt.1 ∧ (steps : Int) = tt.2.2.sum := by
  obtain ⟨m, D, t', h1, h2, h3, h4, h5, h6, h7, h8⟩ := h
  obtain ⟨e1, e2⟩ := hr.same ht h1 (fun u hc => by
    have := h6 u hc.2.1 (by have := hc.1; simp only at this; omega)
    have h9 := hc.2.2
    simp only at h9
    omega)
  have := hr.total (by simp [start])
  refine ⟨by rw [← e1], ?_⟩
  rw [this]
  simp [start]
  omega

/-- What the program's All says of runs. -/
theorem moves_case {ar : List (List Int)} {E : List (Int × Int)} {q : Nat} {pk : Nat → List Int → Int} (hpk : Picks pk) (M : Nat) (rot d : List Int) :
    (∃ m s, movesUp M ar E q pk rot d = (s.1, s.2.2, 0) ∧ Run ar E q (start rot d d.length) m s ∧ (∀ u, ¬ Can q s u) ∧ m.length < M) ∨ movesUp M ar E q pk rot d = ([], [], 12) := by
  rcases first_or (fun i => (liveL q (mvN ar E q pk (start rot d d.length) i).2.1).length) 0 M with ⟨k, k1, k2, k3⟩ | hn
  · obtain ⟨m, r1, r2⟩ := mvN_run hpk _ k k3
    exact .inl ⟨m, _, movesUp_hit k1 rfl k2 k3, r1, live_none.1 k2, by omega⟩
  · exact .inr (movesUp_none hn)

end Go.Proofs.Ytopldbnlehjlpaa

set_option linter.unusedVariables false
set_option linter.unusedSimpArgs false
set_option linter.unnecessarySimpa false
namespace Go.Proofs.Ytopldbnlehjlpaa
open Go.RowKit

theorem gScan_zero {q : Int} : ∀ {v0 : Nat} {d : List Int}, gScan q v0 d = 0 → ∀ u, ((v0 + u : Nat) : Int) ≠ q → 0 ≤ d.getD u 0
  | v0, [], _, u, _ => by simp
  | v0, x :: r, h, u, hu => by
    unfold gScan at h
    split at h
    · cases h
    · rename_i h1
      cases u with
      | zero => simp at hu ⊢; omega
      | succ u =>
        have := gScan_zero h u (by intro e; apply hu; rw [← e]; congr 1; omega)
        simpa using this
theorem gvE_nonneg {n : Int} {es : List Edg} {f : List Nat} {ar : List (List Int)} {q : Nat} {rot d : List Int} (h : gvE n es f ar q rot d = 0) : ∀ u, u ≠ q → 0 ≤ d.getD u 0 := by
  obtain ⟨h1, h2⟩ := gvE_zero h
  unfold gvE at h
  rw [if_pos h1, if_pos h2] at h
  exact fun u hu => gScan_zero h u (by simp; omega)
theorem rotE_of {q : Nat} : ∀ {v0 : Nat} {ar : List (List Int)} {rot : List Int}, (∀ (v : Nat) (k : Int) (l : List Int), rot[v]? = some k → ar[v]? = some l → ¬ badR q (v0 + v) k l.length) → rotE q v0 ar rot = 0
  | v0, [], rot, _ => rotE_nil _ _ _
  | v0, _ :: _, [], _ => rfl
  | v0, a :: ar, x :: rot, h => by
    rw [rotE_cons, if_neg (by have := h 0 x a rfl rfl; simpa using this)]
    refine rotE_of fun v k l h1 h2 => ?_
    have := h (v + 1) k l (by simpa using h1) (by simpa using h2)
    rw [show v0 + 1 + v = v0 + (v + 1) from by omega]
    exact this
/-- Other right rotors on the same ribbon graph. -/
theorem rtE_other {n : Int} {es : List Edg} {f : List Nat} {ar : List (List Int)} {q : Nat} {rot now : List Int} (h : rtE n es f ar q rot = 0) (hn : RtOk n es ar q now) : rtE n es f ar q now = 0 := by
  obtain ⟨h1, h2, h3, h4⟩ := rtE_zero h
  unfold rtE
  rw [if_pos h1, if_pos (vtxB_iff.2 h2), if_pos (by rw [hn.nrot]; exact hn.nar)]
  refine rotE_of fun v k l hk hl => ?_
  obtain ⟨a1, a2, a3⟩ := hn.rots v k l hk hl
  unfold badR
  rw [Nat.zero_add]
  rintro (hh | ⟨hh, h6⟩ | ⟨hh, h6⟩)
  · omega
  · exact h6 (a2 (by omega))
  · have := a3 (by omega); omega
theorem routeRes_hit {n : Int} {es : List Edg} {f : List Nat} {ar : List (List Int)} {q : Nat} {now : List Int} {v i : Nat} (h : rtE n es f ar q now = 0) (hv : (v : Int) < n) (hi : i < 1048577) (h1 : chipV ar (endsL es) now v i = q) (h2 : ∀ j, j < i → chipV ar (endsL es) now v j ≠ q) :
    routeRes n es f ar q now v = (rotI ar (endsL es) now v i, (i : Int), 0) := by
  have hS : stE n es f ar q now v = 0 := by unfold stE; rw [if_pos h, if_pos (vtxB_iff.2 ⟨by omega, hv⟩)]
  unfold routeRes
  rw [if_pos hS]
  exact routeOf_hit hi h1 h2
theorem Run.nn {ar : List (List Int)} {E : List (Int × Int)} {q : Nat} {s t : MSt} {m : List Nat} (h : Run ar E q s m t) (hl : s.2.2.length = s.2.1.length) (h0 : ∀ x ∈ s.2.2, 0 ≤ x) : ∀ x ∈ t.2.2, 0 ≤ x := by
  induction h with
  | nil s => exact h0
  | @cons s t v l hv _ ih =>
    refine ih (by simp [mvS, addL_len, hl]) fun x hx => ?_
    rcases addL_mem (show x ∈ addL s.2.2 v 1 from hx) (by rw [hl]; exact hv.1) with h3 | ⟨z, h3, rfl⟩
    · exact h0 x h3
    · have := h0 z h3; omega
theorem sum_take_le : ∀ (l : List Int) (k : Nat), (∀ x ∈ l, 0 ≤ x) → 0 ≤ (l.take k).sum ∧ (l.take k).sum ≤ l.sum
  | [], k, _ => by simp
  | x :: r, 0, h => by
    have h1 := (sum_take_le r r.length fun y hy => h y (by simp [hy])).1
    have h2 := h x (by simp)
    rw [List.take_length] at h1
    simp
    omega
  | x :: r, k + 1, h => by
    obtain ⟨h1, h3⟩ := sum_take_le r k fun y hy => h y (by simp [hy])
    have h2 := h x (by simp)
    simp
    omega
theorem sum_take_succ {l : List Int} {k : Nat} {x : Int} (h : l[k]? = some x) : (l.take (k + 1)).sum = (l.take k).sum + x := by
  rw [List.take_add_one, h]
  simp

/-- The two ways of All: an end, or the error of the limit. -/
theorem all_case {n : Int} {es : List Edg} {f : List Nat} {ar : List (List Int)} {q : Nat} {rot d : List Int} (h : gvE n es f ar q rot d = 0) :
    (∃ m s, allRes n es f ar q rot d = (s.1, s.2.2, 0) ∧ Run ar (endsL es) q (start rot d d.length) m s ∧ (∀ u, ¬ Can q s u) ∧ m.length < 1048577) ∨ allRes n es f ar q rot d = ([], [], 12) := by
  unfold allRes
  rw [if_pos h]
  exact moves_case pk0_ok 1048577 rot d

end Go.Proofs.Ytopldbnlehjlpaa

set_option linter.unusedVariables false
set_option linter.unusedSimpArgs false
set_option linter.unnecessarySimpa false
namespace Go.Proofs.Ytopldbnlehjlpaa
open Go.RowKit

theorem perm_rest : ∀ {l own : List Int}, l.Nodup → (∀ x ∈ l, x ∈ own) → ∃ r, own.Perm (l ++ r)
  | [], own, _, _ => ⟨own, .refl _⟩
  | x :: l, own, hn, hm => by
    have hx : x ∈ own := hm x (by simp)
    rw [List.nodup_cons] at hn
    obtain ⟨r, hr⟩ := perm_rest (own := own.erase x) hn.2 (fun y hy => (List.mem_erase_of_ne (fun e : y = x => hn.1 (by rw [← e]; exact hy))).2 (hm y (by simp [hy])))
    exact ⟨r, (List.perm_cons_erase hx).trans (hr.cons x)⟩
theorem perm_of {l own : List Int} (hn : l.Nodup) (hm : ∀ x ∈ l, x ∈ own) (hl : l.length = own.length) : l.Perm own := by
  obtain ⟨r, hr⟩ := perm_rest hn hm
  have h1 := hr.length_eq
  rw [List.length_append] at h1
  have h0 : r = [] := List.eq_nil_of_length_eq_zero (by omega)
  rw [h0, List.append_nil] at hr
  exact hr.symm
theorem listE_perm {l own : List Int} (h : listE l own = 0) : l.Perm own := by
  obtain ⟨h1, h2⟩ := listE_zero h
  have h3 : scanE own [] l = 0 := by
    unfold listE at h
    rw [if_pos h1] at h
    by_cases hs : scanE own [] l = 0
    · exact hs
    · rw [if_neg hs] at h; exact absurd h hs
  have h4 := (scanE_zero h3 (by simp) (by simp)).1
  simp only [List.nil_append] at h4
  exact perm_of h4 h2 h1

/-- The half-edges of a vertex whose other ends are u. -/
def toU (E : List (Int × Int)) (u : Int) (h : Int) : Bool := hv E (oppH h.toNat) == u
def oneF (v u : Int) (p : Int × Int) : Int := (if p.1 = v ∧ p.2 = u then 1 else 0) + (if p.2 = v ∧ p.1 = u then 1 else 0)
def sumF (v u : Int) : List (Int × Int) → Int
  | [] => 0
  | p :: r => oneF v u p + sumF v u r
theorem sumF_app (v u : Int) (l m : List (Int × Int)) : sumF v u (l ++ m) = sumF v u l + sumF v u m := by
  induction l with
  | nil => simp [sumF]
  | cons p r ih => simp only [List.cons_append, sumF, ih]; omega
theorem half_to {l : List (Int × Int)} {v : Nat} {u : Int} : ∀ k, k ≤ l.length → (((halfU l (2 * k) v).countP (toU l u) : Nat) : Int) = sumF v u (l.take k)
  | 0, _ => by simp [halfU, sumF]
  | k + 1, hk => by
    have ih := half_to (l := l) (v := v) (u := u) k (by omega)
    have hg : l.getD k (0, 0) = l[k] := by rw [List.getD_eq_getElem?_getD, List.getElem?_eq_getElem (by omega)]; rfl
    have h1 : hv l (2 * k) = (l[k]).1 := by rw [hv, if_pos (by omega), show 2 * k / 2 = k by omega, hg]
    have h2 : hv l (2 * k + 1) = (l[k]).2 := by rw [hv, if_neg (by omega), show (2 * k + 1) / 2 = k by omega, hg]
    have o1 : oppH (2 * k) = 2 * k + 1 := by unfold oppH; rw [if_pos (by omega)]
    have o2 : oppH (2 * k + 1) = 2 * k := by unfold oppH; rw [if_neg (by omega)]; omega
    have t1 : toU l u ((2 * k : Nat) : Int) = ((l[k]).2 == u) := by unfold toU; rw [Int.toNat_natCast, o1, h2]
    have t2 : toU l u ((2 * k + 1 : Nat) : Int) = ((l[k]).1 == u) := by unfold toU; rw [Int.toNat_natCast, o2, h1]
    have e : l.take (k + 1) = l.take k ++ [l[k]] := by rw [List.take_add_one, List.getElem?_eq_getElem (by omega)]; rfl
    rw [e, sumF_app, ← ih, show 2 * (k + 1) = (2 * k + 1) + 1 by omega]
    simp only [sumF, oneF]
    have a1 : hv l (2 * k) = (v : Int) ↔ (l[k]).1 = (v : Int) := by rw [h1]
    have a2 : hv l (2 * k + 1) = (v : Int) ↔ (l[k]).2 = (v : Int) := by rw [h2]
    generalize (l[k]).1 = A at *
    generalize (l[k]).2 = B at *
    by_cases c1 : hv l (2 * k) = (v : Int) <;> by_cases c2 : hv l (2 * k + 1) = (v : Int)
    · have b1 := a1.1 c1
      have b2 := a2.1 c2
      rw [halfU_yes c2, halfU_yes c1, List.countP_append, List.countP_append, List.countP_singleton, List.countP_singleton, t1, t2]
      simp only [beq_iff_eq]
      clear h1 h2 a1 a2 t1 t2 c1 c2
      split <;> split <;> split <;> split <;> omega
    · have b1 := a1.1 c1
      have b2 : ¬ B = (v : Int) := fun hh => c2 (a2.2 hh)
      rw [halfU_no c2, halfU_yes c1, List.countP_append, List.countP_singleton, t1]
      simp only [beq_iff_eq]
      clear h1 h2 a1 a2 t1 t2 c1 c2
      split <;> split <;> split <;> omega
    · have b1 : ¬ A = (v : Int) := fun hh => c1 (a1.2 hh)
      have b2 := a2.1 c2
      rw [halfU_yes c2, halfU_no c1, List.countP_append, List.countP_singleton, t2]
      simp only [beq_iff_eq]
      clear h1 h2 a1 a2 t1 t2 c1 c2
      split <;> split <;> split <;> omega
    · have b1 : ¬ A = (v : Int) := fun hh => c1 (a1.2 hh)
      have b2 : ¬ B = (v : Int) := fun hh => c2 (a2.2 hh)
      rw [halfU_no c2, halfU_no c1, if_neg (by intro hh; exact b1 hh.1), if_neg (by intro hh; exact b2 hh.1)]
      omega

end Go.Proofs.Ytopldbnlehjlpaa

set_option linter.unusedVariables false
set_option linter.unusedSimpArgs false
set_option linter.unnecessarySimpa false
namespace Go.Proofs.Ytopldbnlehjlpaa
open Go.RowKit

/-- j steps at k. -/
def turnN (ar : List (List Int)) (E : List (Int × Int)) (s : MSt) (k : Nat) : Nat → MSt
  | 0 => s
  | j + 1 => mvS ar E (turnN ar E s k j) k
theorem turn_at {ar : List (List Int)} {E : List (Int × Int)} {rot d t : List Int} {k r : Nat} {l : List Int} (hl : ar[k]? = some l) (hr : rot[k]? = some (r : Int)) (hrl : r < l.length) (hk : k < d.length) (hkt : k < t.length)
    (hto : ∀ x ∈ l, 0 ≤ hv E (oppH x.toNat) ∧ hv E (oppH x.toNat) < d.length) :
    ∀ j, (turnN ar E (rot, d, t) k j).1 = rot.set k (((r + j) % l.length : Nat) : Int) ∧ (turnN ar E (rot, d, t) k j).2.1.length = d.length ∧ (turnN ar E (rot, d, t) k j).2.2 = addL t k j ∧
      ∀ u : Nat, (turnN ar E (rot, d, t) k j).2.1.getD u 0 = d.getD u 0 - (if u = k then (j : Int) else 0) + (((List.range j).map fun i => l.getD ((r + 1 + i) % l.length) 0).countP (toU E u) : Nat)
  | 0 => by
    have hkr : k < rot.length := (List.getElem?_eq_some_iff.1 hr).1
    refine ⟨?_, rfl, ?_, fun u => ?_⟩
    · show rot = _
      rw [Nat.add_zero, Nat.mod_eq_of_lt hrl]
      apply List.ext_getElem?
      intro i
      rw [List.getElem?_set]
      split
      · rename_i h; subst h; first | exact hr | (rw [if_pos hkr]; exact hr)
      · rfl
    · show t = _
      refine addL_ext (by rw [addL_len]) fun b => ?_
      rw [addL_get]
      split <;> simp
    · show d.getD u 0 = _
      simp
  | j + 1 => by
    obtain ⟨h1, h2, h3, h4⟩ := turn_at hl hr hrl hk hkt hto j
    have hkr : k < rot.length := (List.getElem?_eq_some_iff.1 hr).1
    have hD : 0 < l.length := by omega
    have hK : stpK ar (turnN ar E (rot, d, t) k j).1 k = (r + 1 + j) % l.length := by
      unfold stpK
      rw [h1, getD_of (List.getElem?_set_self hkr), getD_of hl, Int.toNat_natCast, Nat.mod_add_mod]
      congr 1
      omega
    have hKl : (r + 1 + j) % l.length < l.length := Nat.mod_lt _ hD
    obtain ⟨x, hx⟩ : ∃ x, l[(r + 1 + j) % l.length]? = some x := ⟨_, List.getElem?_eq_getElem hKl⟩
    have hV : stpV ar E (turnN ar E (rot, d, t) k j).1 k = (hv E (oppH x.toNat)).toNat := by
      unfold stpV
      rw [hK, getD_of hl, getD_of hx]
    obtain ⟨p1, p2⟩ := hto x (List.mem_of_getElem? hx)
    refine ⟨?_, ?_, ?_, fun u => ?_⟩
    · show stpR ar (turnN ar E (rot, d, t) k j).1 k = _
      unfold stpR
      rw [hK, h1, List.set_set, show r + (j + 1) = r + 1 + j by omega]
    · show (addL (addL _ _ _) _ _).length = _
      rw [addL_len, addL_len, h2]
    · show addL (turnN ar E (rot, d, t) k j).2.2 k 1 = _
      rw [h3]
      refine addL_ext (by simp [addL_len]) fun b => ?_
      rw [addL_get, addL_get, addL_get, addL_len]
      split <;> omega
    · show (addL (addL (turnN ar E (rot, d, t) k j).2.1 k (-1)) (stpV ar E (turnN ar E (rot, d, t) k j).1 k) 1).getD u 0 = _
      rw [addL_get, addL_get, addL_len, h2, hV, h4 u, List.range_succ, List.map_append, List.countP_append, List.map_singleton, List.countP_singleton, getD_of hx]
      have hu : toU E u x = true ↔ (hv E (oppH x.toNat)).toNat = u := by
        unfold toU
        rw [beq_iff_eq]
        omega
      by_cases c1 : (hv E (oppH x.toNat)).toNat = u
      · rw [if_pos ⟨c1, by omega⟩, if_pos (hu.2 c1)]
        split <;> split <;> omega
      · rw [if_neg (by intro h; exact c1 h.1), if_neg (fun h => c1 (hu.1 h))]
        split <;> split <;> omega

/-- Once round is everywhere once. -/
theorem round_all (l : List Int) (s : Nat) (hs : s < l.length) : (List.range l.length).map (fun i => l.getD ((s + i) % l.length) 0) = l.drop s ++ l.take s := by
  apply List.ext_getElem
  · simp
    omega
  · intro i h1 h2
    have hi : i < l.length := by simpa using h1
    rw [List.getElem_map, List.getElem_range]
    by_cases c : s + i < l.length
    · rw [Nat.mod_eq_of_lt c, List.getElem_append_left (by simp; omega), List.getElem_drop, getD_of (List.getElem?_eq_getElem c)]
    · have hm : (s + i) % l.length = s + i - l.length := by
        rw [Nat.mod_eq_sub_mod (by omega), Nat.mod_eq_of_lt (by omega)]
      have hlt : s + i - l.length < l.length := by omega
      rw [hm, List.getElem_append_right (by simp; omega), List.getElem_take, getD_of (List.getElem?_eq_getElem hlt)]
      congr 1
      simp
      omega
theorem round_count (l : List Int) (r : Nat) (hr : r < l.length) (p : Int → Bool) : ((List.range l.length).map fun i => l.getD ((r + 1 + i) % l.length) 0).countP p = l.countP p := by
  have hs : (r + 1) % l.length < l.length := Nat.mod_lt _ (by omega)
  have h1 : ((List.range l.length).map fun i => l.getD ((r + 1 + i) % l.length) 0) = ((List.range l.length).map fun i => l.getD (((r + 1) % l.length + i) % l.length) 0) := by
    apply List.map_congr_left
    intro i _
    rw [Nat.mod_add_mod]
  rw [h1, round_all l _ hs, List.countP_append, Nat.add_comm, ← List.countP_append, List.take_append_drop]

/-- The steps are moves. -/
theorem turn_run {ar : List (List Int)} {E : List (Int × Int)} {q : Nat} {rot d t : List Int} {k r : Nat} {l : List Int} (hl : ar[k]? = some l) (hr : rot[k]? = some (r : Int)) (hrl : r < l.length) (hk : k < d.length) (hkt : k < t.length)
    (hto : ∀ x ∈ l, 0 ≤ hv E (oppH x.toNat) ∧ hv E (oppH x.toNat) < d.length) (hq : k ≠ q) (hd : (l.length : Int) ≤ d.getD k 0) :
    ∀ j, j ≤ l.length → Run ar E q (rot, d, t) (List.replicate j k) (turnN ar E (rot, d, t) k j)
  | 0, _ => .nil _
  | j + 1, hj => by
    have ih := turn_run (q := q) hl hr hrl hk hkt hto hq hd j (by omega)
    rw [List.replicate_succ', show k :: ([] : List Nat) = [k] from rfl]
    obtain ⟨h1, h2, h3, h4⟩ := turn_at hl hr hrl hk hkt hto j
    refine ih.append (.cons ⟨by rw [h2]; exact hk, hq, ?_⟩ (.nil _))
    rw [h4 k, if_pos rfl]
    omega

/-- The numbers of steps so far do not matter. -/
theorem Run.shift {ar : List (List Int)} {E : List (Int × Int)} {q : Nat} {s t : MSt} {m : List Nat} (h : Run ar E q s m t) (k : Nat) (x : Int) : Run ar E q (s.1, s.2.1, addL s.2.2 k x) m (t.1, t.2.1, addL t.2.2 k x) := by
  induction h with
  | nil s => exact .nil _
  | @cons s t v l hv _ ih =>
    refine .cons hv ?_
    have : mvS ar E (s.1, s.2.1, addL s.2.2 k x) v = ((mvS ar E s v).1, (mvS ar E s v).2.1, addL (mvS ar E s v).2.2 k x) := by
      unfold mvS
      simp only
      rw [addL_comm s.2.2 k v x 1]
    rw [this]
    exact ih

/-- A vertex fires. -/
theorem fire_law {n : Int} {es : List Edg} {ar : List (List Int)} {q : Nat} {rot d : List Int} {k : Nat} {l : List Int} (hok : RtOk n es ar q rot) (hdl : d.length = ar.length) (hl : ar[k]? = some l) (hlE : listE l (halfU (endsL es) (2 * (endsL es).length) k) = 0) (hq : k ≠ q) (hd : (l.length : Int) ≤ d.getD k 0) :
    ∃ d', Run ar (endsL es) q (start rot d d.length) (List.replicate l.length k) (rot, d', addL (List.replicate d.length 0) k l.length) ∧ d'.length = d.length ∧ ∀ u : Nat, d'.getD u 0 = d.getD u 0 - (if u = k then (l.length : Int) else 0) + sumF k u (endsL es) := by
  have hkar : k < ar.length := (List.getElem?_eq_some_iff.1 hl).1
  have hkr : k < rot.length := by rw [hok.nrot]; exact hkar
  have hr0 : rot[k]? = some rot[k] := List.getElem?_eq_getElem hkr
  obtain ⟨r1, _, r3⟩ := hok.rots k _ _ hr0 hl
  generalize rot[k] = y at hr0 r1 r3
  obtain ⟨r, rfl⟩ := Int.eq_ofNat_of_zero_le r1
  have hrl : r < l.length := by have := r3 hq; omega
  have hto : ∀ x ∈ l, 0 ≤ hv (endsL es) (oppH x.toNat) ∧ hv (endsL es) (oppH x.toNat) < d.length := fun x hx => by
    obtain ⟨_, w2⟩ := hok.rows k l hl
    obtain ⟨h, rfl, h2, _⟩ := w2 x hx
    have := hok.rng _ (oppH_lt h2)
    have hn := hok.nar
    rw [Int.toNat_natCast]
    omega
  have hkd : k < d.length := by omega
  have hkt : k < (List.replicate d.length (0 : Int)).length := by simpa using hkd
  obtain ⟨h1, h2, h3, h4⟩ := turn_at (t := List.replicate d.length (0 : Int)) hl hr0 hrl hkd hkt hto l.length
  have hrun := turn_run (t := List.replicate d.length (0 : Int)) hl hr0 hrl hkd hkt hto hq hd l.length (Nat.le_refl _)
  have e1 : (turnN ar (endsL es) (rot, d, List.replicate d.length 0) k l.length).1 = rot := by
    rw [h1, Nat.add_mod_right, Nat.mod_eq_of_lt hrl]
    apply List.ext_getElem?
    intro i
    rw [List.getElem?_set]
    split
    · rename_i h; subst h; first | exact hr0.symm | (rw [if_pos hkr]; exact hr0.symm)
    · rfl
  refine ⟨(turnN ar (endsL es) (rot, d, List.replicate d.length 0) k l.length).2.1, ?_, h2, fun u => ?_⟩
  · have e : turnN ar (endsL es) (rot, d, List.replicate d.length 0) k l.length = (rot, (turnN ar (endsL es) (rot, d, List.replicate d.length 0) k l.length).2.1, addL (List.replicate d.length 0) k l.length) := by
      rw [← h3]
      show _ = (rot, _, _)
      rw [← e1]
      rw [e1]
      exact Prod.ext e1 rfl
    rw [e] at hrun
    exact hrun
  · rw [h4 u, round_count l r hrl, (listE_perm hlE).countP_eq]
    have := half_to (l := endsL es) (v := k) (u := (u : Int)) (endsL es).length (Nat.le_refl _)
    rw [List.take_length] at this
    omega

end Go.Proofs.Ytopldbnlehjlpaa

set_option linter.unusedVariables false
set_option linter.unusedSimpArgs false
set_option linter.unnecessarySimpa false
namespace Go.Proofs.Ytopldbnlehjlpaa
open Go.RowKit

/-- What moves along an edge. -/
def flowL (s : List Int) (x : Edg) : Int := x.m * (s.getD x.a.toNat 0 - s.getD x.b.toNat 0)
def alongL (s : List Int) (x : Edg) (out : List Int) : List Int := addL (addL out x.a.toNat (-(flowL s x))) x.b.toNat (flowL s x)
def movedL (s : List Int) (es : List Edg) (d : List Int) : List Int := es.foldl (fun out x => alongL s x out) d
def oneHot (n k : Nat) : List Int := (List.replicate n 0).set k 1
theorem oneHot_get {n k : Nat} (hk : k < n) (u : Nat) : (oneHot n k).getD u 0 = if u = k then 1 else 0 := by
  unfold oneHot
  rw [List.getD_eq_getElem?_getD, List.getElem?_set]
  by_cases h : k = u
  · subst h; simp [hk]
  · rw [if_neg h, if_neg (by omega)]
    rw [List.getElem?_replicate]
    split <;> rfl
theorem sumF_rep (v u : Int) (p : Int × Int) (k : Nat) : sumF v u (List.replicate k p) = k * oneF v u p := by
  induction k with
  | zero => simp [sumF]
  | succ k ih =>
    rw [List.replicate_succ, sumF, ih]
    have : ((k + 1 : Nat) : Int) = k + 1 := by omega
    rw [this, Int.add_mul, Int.one_mul]
    omega
theorem along_get {n k : Nat} (hk : k < n) {x : Edg} (ha : 0 ≤ x.a ∧ x.a < n) (hb : 0 ≤ x.b ∧ x.b < n) {d : List Int} (hd : d.length = n) (u : Nat) :
    (alongL (oneHot n k) x d).getD u 0 = d.getD u 0 - (if u = k then x.m * ends2 k (x.a, x.b) else 0) + x.m * oneF k u (x.a, x.b) := by
  obtain ⟨a, b, m⟩ := x
  obtain ⟨a, rfl⟩ := Int.eq_ofNat_of_zero_le ha.1
  obtain ⟨b, rfl⟩ := Int.eq_ofNat_of_zero_le hb.1
  simp only at ha hb ⊢
  unfold alongL flowL
  simp only [Int.toNat_natCast]
  rw [oneHot_get hk, oneHot_get hk, addL_get, addL_get, addL_len]
  have e2 : ends2 (k : Int) ((a : Int), (b : Int)) = (if a = k then 1 else 0) + (if b = k then 1 else 0) := by
    unfold ends2
    congr 1 <;> (congr 1; exact propext (by simp only; omega))
  have e1 : oneF (k : Int) (u : Int) ((a : Int), (b : Int)) = (if a = k ∧ b = u then 1 else 0) + (if b = k ∧ a = u then 1 else 0) := by
    unfold oneF
    congr 1 <;> (congr 1; exact propext (by simp only; omega))
  rw [e1, e2]
  by_cases c1 : a = k <;> by_cases c2 : b = k <;> by_cases c3 : u = k
  · subst c1 c2 c3; simp
  · subst c1 c2
    rw [if_neg (c := b = u ∧ _) (by omega), if_neg (c := b = u ∧ _) (by omega)]
    have c4 : ¬ b = u := fun e => c3 e.symm
    simp [c3, c4]
  · subst c1 c3
    rw [if_neg (c := b = u ∧ _) (by omega), if_pos (c := u = u ∧ _) ⟨rfl, by omega⟩]
    simp [c2] <;> omega
  · subst c1
    rw [if_neg (c := a = u ∧ _) (by omega)]
    by_cases c4 : b = u
    · subst c4
      rw [if_pos ⟨rfl, by omega⟩]; simp [c2]
    · rw [if_neg (by omega)]; simp [c2, c3, c4]
  · subst c2 c3
    rw [if_pos ⟨rfl, by omega⟩, if_neg (by omega)]
    simp [c1] <;> omega
  · subst c2
    rw [if_neg (c := b = u ∧ _) (by omega)]
    by_cases c4 : a = u
    · subst c4
      rw [if_pos ⟨rfl, by omega⟩]; simp [c1]
    · rw [if_neg (by omega)]; simp [c1, c3, c4]
  · subst c3
    rw [if_neg (by omega), if_neg (by omega)]
    simp [c1, c2]
  · have : ∀ c : Prop, ∀ _ : Decidable c, (if c then d.getD u 0 + -(m * (0 - 0)) else d.getD u 0) = d.getD u 0 := fun c _ => by split <;> simp
    simp [c1, c2, c3]
theorem along_len (s : List Int) (x : Edg) (d : List Int) : (alongL s x d).length = d.length := by
  unfold alongL; rw [addL_len, addL_len]
theorem moved_len (s : List Int) : ∀ (es : List Edg) (d : List Int), (movedL s es d).length = d.length
  | [], _ => rfl
  | x :: r, d => by
    show (movedL s r (alongL s x d)).length = _
    rw [moved_len s r, along_len]
theorem moved_get {n k : Nat} (hk : k < n) : ∀ {es : List Edg} {d : List Int}, (∀ x ∈ es, (0 ≤ x.a ∧ x.a < n) ∧ (0 ≤ x.b ∧ x.b < n) ∧ 0 ≤ x.m) → d.length = n → ∀ u : Nat,
    (movedL (oneHot n k) es d).getD u 0 = d.getD u 0 - (if u = k then sumE k (endsL es) else 0) + sumF k u (endsL es)
  | [], d, _, _, u => by simp [movedL, endsL, sumE, sumF]
  | x :: r, d, h, hd, u => by
    obtain ⟨h1, h2, h3⟩ := h x (by simp)
    show (movedL (oneHot n k) r (alongL (oneHot n k) x d)).getD u 0 = _
    rw [moved_get hk (fun y hy => h y (by simp [hy])) (by rw [along_len, hd]) u, along_get hk h1 h2 hd u, endsL_cons, sumE_app, sumE_rep, sumF_app, sumF_rep]
    have hm : (x.m.toNat : Int) = x.m := by omega
    rw [hm]
    split <;> omega

theorem sumF_bound (v u : Int) : ∀ l : List (Int × Int), 0 ≤ sumF v u l ∧ sumF v u l ≤ 2 * l.length
  | [] => by simp [sumF]
  | p :: r => by
    have := sumF_bound v u r
    unfold sumF oneF
    simp only [List.length_cons]
    split <;> split <;> omega
theorem sumE_bound (v : Int) : ∀ l : List (Int × Int), 0 ≤ sumE v l ∧ sumE v l ≤ 2 * l.length
  | [] => by simp [sumE]
  | p :: r => by
    have := sumE_bound v r
    unfold sumE ends2
    simp only [List.length_cons]
    split <;> split <;> omega
theorem few45_ends {n : Int} {es : List Edg} {ar : List (List Int)} {rot : List Int} (h : few45 n es ar rot = true) (hV : gErr n es = 0) : n ≤ 6 ∧ ((endsL es).length : Int) ≤ 9 := by
  unfold few45 at h
  split at h
  · rename_i h1
    unfold few44 at h1
    split at h1
    · rename_i h2
      unfold smB at h2
      split at h2
      · simpa [hV] using h2
      · cases h2
    · cases h1
  · cases h
theorem dScan_of : ∀ {d : List Int}, (∀ x ∈ d, -1048576 ≤ x ∧ x ≤ 1048576) → dScan d = 0
  | [], _ => rfl
  | x :: r, h => by
    unfold dScan
    rw [if_pos (by simpa [inChips] using h x (by simp))]
    exact dScan_of fun y hy => h y (by simp [hy])
theorem gScan_of {q : Int} : ∀ {v0 : Nat} {d : List Int}, (∀ u, ((v0 + u : Nat) : Int) ≠ q → 0 ≤ d.getD u 0) → gScan q v0 d = 0
  | v0, [], _ => rfl
  | v0, x :: r, h => by
    unfold gScan
    have h0 := h 0
    simp at h0
    rw [if_neg (by intro hh; have := h0 hh.1; omega)]
    refine gScan_of fun u hu => ?_
    have := h (u + 1) (by intro e; apply hu; rw [← e]; congr 1; omega)
    simpa using this

/-- What firing a vertex of a right, small game means to All. -/
theorem fire_all {n : Nat} {es : List Edg} {f : List Nat} {ar : List (List Int)} {q : Nat} {rot d : List Int} {k : Nat} (hc2 : es.length ≤ 1000) (hF : few45 n es ar rot = true) (hG : gvE n es f ar q rot d = 0) (hS : smD d = true) (hk : k < n) (hq : k ≠ q) (hd : degU n es k ≤ d.getD k 0) :
    (∀ x ∈ movedL (oneHot n k) es d, -1048576 ≤ x ∧ x ≤ 1048576) ∧ gvE n es f ar q rot (movedL (oneHot n k) es d) = 0 ∧
    ((allRes n es f ar q rot d = ([], [], 12) ∨ allRes n es f ar q rot (movedL (oneHot n k) es d) = ([], [], 12)) ∨
      ∃ r s t, allRes n es f ar q rot d = (r, s, 0) ∧ allRes n es f ar q rot (movedL (oneHot n k) es d) = (r, t, 0) ∧ s.length = n ∧ t.length = n ∧ s = addL t k (degU n es k)) := by
  obtain ⟨g1, g2⟩ := gvE_zero hG
  obtain ⟨_, dl, db⟩ := dErr_zero g2
  have hnn := gvE_nonneg hG
  obtain ⟨q', hq', hok⟩ := RtOk.of g1 hc2
  have hqq : q = q' := by omega
  subst hqq
  clear hq'
  obtain ⟨c1, _, c3, c4⟩ := rtE_zero g1
  obtain ⟨j1, j2, j3⟩ := chkE_zero c1
  have hV := jErr_zero j1
  obtain ⟨_, f9⟩ := few45_ends hF hV
  have hkar : k < ar.length := by omega
  have hl : ar[k]? = some ar[k] := List.getElem?_eq_getElem hkar
  have ho : (halfs n es)[k]? = some (halfU (endsL es) (2 * (endsL es).length) k) := halvesU_get (by omega)
  have hlE := rowsE_zero j3 k _ _ hl ho
  have hdeg : degU n es k = (ar[k].length : Nat) := by rw [deg_half hV, (listE_perm hlE).length_eq]
  have hsum : degU n es k = sumE k (endsL es) := by rw [deg_half hV, half_len _ (Nat.le_refl _), List.take_length]
  obtain ⟨d', hrun, hdl', hget⟩ := fire_law (d := d) hok (by omega) hl hlE hq (by rw [← hdeg]; exact hd)
  have hd' : d' = movedL (oneHot n k) es d := by
    refine addL_ext (by rw [hdl', moved_len]) fun u => ?_
    rw [hget u, moved_get hk (fun x hx => by have := (gErr_zero hV).2.1 x hx; omega) (by omega) u, ← hdeg, hsum]
  rw [← hd']
  rw [← hdeg] at hrun
  have hbnd : ∀ u : Nat, -1000 ≤ d'.getD u 0 ∧ d'.getD u 0 ≤ 1000 := fun u => by
    rw [hget u, ← hdeg, hsum]
    have a1 := sumE_bound k (endsL es)
    have a2 := sumF_bound k u (endsL es)
    have a3 : -60 ≤ d.getD u 0 ∧ d.getD u 0 ≤ 60 := by
      rw [List.getD_eq_getElem?_getD]
      rcases hx : d[u]? with _ | x
      · simp
      · exact smD_yes hS x (List.mem_of_getElem? hx)
    split <;> omega
  have hbd : ∀ x ∈ d', -1048576 ≤ x ∧ x ≤ 1048576 := fun x hx => by
    obtain ⟨i, hi, rfl⟩ := List.mem_iff_getElem.1 hx
    have := hbnd i
    rw [getD_of (List.getElem?_eq_getElem hi)] at this
    omega
  have hG' : gvE n es f ar q rot d' = 0 := by
    unfold gvE
    have e2 : dErr n d' = 0 := by
      unfold dErr
      rw [if_pos (by have := (gErr_zero hV).1; omega), if_pos (by omega)]
      exact dScan_of hbd
    rw [if_pos g1, if_pos e2]
    refine gScan_of fun u hu => ?_
    have hu' : u ≠ q := by intro e; apply hu; subst e; simp
    rw [hget u, ← hdeg]
    have a1 := hnn u hu'
    have a2 := sumF_bound k u (endsL es)
    split
    · rename_i e; subst e; omega
    · omega
  refine ⟨hbd, hG', ?_⟩
  rcases all_case hG with ⟨m, s, e1, r1, r2, _⟩ | h
  · rcases all_case hG' with ⟨m', s', e1', r1', r2', _⟩ | h
    · obtain ⟨m3, r3, _⟩ := Run.rest hrun r1 r2
      have r4 := r1'.shift k (degU n es k)
      rw [show start rot d' d'.length = (rot, d', List.replicate d'.length 0) from rfl] at r4
      simp only at r4
      rw [hdl'] at r4
      obtain ⟨e, _⟩ := Run.same r3 r2 r4 fun v hv => r2' v hv
      right
      refine ⟨s.1, s.2.2, s'.2.2, e1, ?_, ?_, ?_, ?_⟩
      · rw [e1', ← e]
      · have := r1.len.2
        simp [start] at this
        omega
      · have := r1'.len.2
        simp [start] at this
        omega
      · rw [← e]
    · exact .inl (.inr h)
  · exact .inl (.inl h)

end Go.Proofs.Ytopldbnlehjlpaa

set_option linter.unusedVariables false
set_option linter.unusedSimpArgs false
set_option linter.unnecessarySimpa false
namespace Go.Proofs.Ytopldbnlehjlpaa
open Go.RowKit

section
variable {P : Program} {ops : Array Oper} {Q : Exit → Act → World → Prop} {md : Region.Mode}

/-- The operations that have to come before the i-th. -/
def preOf (md : Region.Mode) (ops : Array Oper) (i : Nat) : List Nat := ((ops[i]?).map fun o => (o.after.toList.filter (Region.binds md)).map (·.on)).getD []
theorem ready_pre {listed : Array Bool} {i : Nat} : i ∈ Region.ready md ops listed ↔ i < ops.size ∧ listed.getD i true = false ∧ ∀ p ∈ preOf md ops i, listed.getD p false = true := by
  unfold Region.ready
  rw [List.mem_filter, List.mem_range]
  constructor
  · rintro ⟨h1, h2⟩
    rw [Bool.and_eq_true] at h2
    refine ⟨h1, by simpa using h2.1, ?_⟩
    have h3 := h2.2
    rw [Array.getElem?_eq_getElem h1] at h3
    simp only [Option.map_some, Option.getD_some, Array.all_eq_true'] at h3
    intro p hp
    unfold preOf at hp
    rw [Array.getElem?_eq_getElem h1] at hp
    simp only [Option.map_some, Option.getD_some, List.mem_map, List.mem_filter] at hp
    obtain ⟨e, ⟨he, hb⟩, rfl⟩ := hp
    have := h3 e (by simpa using he)
    simpa [hb] using this
  · rintro ⟨h1, h2, h3⟩
    refine ⟨h1, ?_⟩
    rw [Bool.and_eq_true]
    refine ⟨by simp [h2], ?_⟩
    rw [Array.getElem?_eq_getElem h1]
    simp only [Option.map_some, Option.getD_some, Array.all_eq_true']
    intro e he
    by_cases hb : Region.binds md e = true
    · have := h3 e.on (by
        unfold preOf
        rw [Array.getElem?_eq_getElem h1]
        simp only [Option.map_some, Option.getD_some, List.mem_map, List.mem_filter]
        exact ⟨e, ⟨by simpa using he, hb⟩, rfl⟩)
      simp [this]
    · simp [hb]
/-- Where nothing may come up, all has been. -/
theorem ready_nil_all (hp : (List.range ops.size).all (fun i => (preOf md ops i).all fun p => decide (p < i)) = true) {listed : Array Bool} (hl : listed.size = ops.size) (h : Region.ready md ops listed = []) : ∀ i, i < ops.size → listed.getD i false = true := by
  intro i
  induction i using Nat.strongRecOn with
  | _ i ih =>
    intro hi
    have hil : i < listed.size := by omega
    by_cases hx : listed.getD i false = true
    · exact hx
    · have hm : i ∈ Region.ready md ops listed := ready_pre.2 ⟨hi, by
        simp only [Array.getD, hil, dif_pos] at hx ⊢
        simpa using hx, fun p hpp => by
        have h1 := (List.all_eq_true.1 hp) i (List.mem_range.2 hi)
        have h2 := (List.all_eq_true.1 h1) p hpp
        have h3 : p < i := by simpa using h2
        exact ih p h3 (by omega)⟩
      rw [h] at hm
      cases hm
theorem listed_set {listed : Array Bool} {i j : Nat} (hj : i ≠ j) (h : (listed.setIfInBounds i true).getD j false = true) : listed.getD j false = true := by
  rw [Array.getD_eq_getD_getElem?] at h ⊢
  rw [Array.getElem?_setIfInBounds_ne hj] at h
  exact h
theorem countP_step {p p' : Nat → Bool} {i : Nat} (hi : p i = true) (hi' : p' i = false) (hall : ∀ x, p' x = true → p x = true) : ∀ l : List Nat, i ∈ l → l.countP p' < l.countP p
  | [], h => by cases h
  | x :: r, h => by
    rw [List.countP_cons, List.countP_cons]
    have hle : r.countP p' ≤ r.countP p := List.countP_mono_left fun y _ hy => hall y hy
    by_cases hx : x = i
    · subst hx
      rw [hi, hi']
      simp
      omega
    · have := countP_step hi hi' hall r (by rcases List.mem_cons.1 h with e | e; exact absurd e.symm hx; exact e)
      have hxx := hall x
      cases h1 : p' x
      · simp; omega
      · rw [hxx h1]; simp; omega
def leftOf (ops : Array Oper) (listed : Array Bool) : Nat := (List.range ops.size).countP fun i => !listed.getD i true
theorem wpAny_inv (I : Array Bool → Act → World → Prop)
    (hstep : ∀ (listed : Array Bool) (a : Act) (w : World) (i : Nat), I listed a w → i < ops.size → listed.getD i true = false → (∀ p ∈ preOf md ops i, listed.getD p false = true) → wpOp P ops Q i (I (listed.setIfInBounds i true)) a w)
    (hdone : ∀ (listed : Array Bool) (a : Act) (w : World), I listed a w → Region.ready md ops listed = [] → Q .normal a w) :
    ∀ (fuel : Nat) (listed : Array Bool) (a : Act) (w : World), leftOf ops listed ≤ fuel → I listed a w → wpAny P md ops Q fuel listed a w
  | 0, listed, a, w, hl, hI => by
    have h0 : Region.ready md ops listed = [] := by
      rw [List.eq_nil_iff_forall_not_mem]
      intro i hi
      obtain ⟨h1, h2, _⟩ := ready_pre.1 hi
      have := (List.countP_eq_zero.1 (Nat.le_zero.1 hl)) i (List.mem_range.2 h1)
      simp [h2] at this
    exact ⟨h0, hdone listed a w hI h0⟩
  | fuel + 1, listed, a, w, hl, hI => by
    refine ⟨fun h0 => hdone listed a w hI h0, fun i hi => ?_⟩
    obtain ⟨h1, h2, h3⟩ := ready_pre.1 hi
    refine wpOp_mono (fun a' w' hI' => wpAny_inv I hstep hdone fuel _ a' w' ?_ hI') (hstep listed a w i hI h1 h2 h3)
    have : leftOf ops (listed.setIfInBounds i true) < leftOf ops listed := by
      refine countP_step (i := i) (by simp [h2]) ?_ (fun x hx => ?_) _ (List.mem_range.2 h1)
      · have hlt : i < listed.size := by
          simp only [Array.getD] at h2
          split at h2
          · assumption
          · cases h2
        simp [Array.getD, hlt]
      · by_cases hxi : i = x
        · subst hxi
          simp [h2]
        · rw [Array.getD_eq_getD_getElem?] at hx ⊢
          rw [Array.getElem?_setIfInBounds_ne hxi] at hx
          exact hx
    omega
end

/-- append(T{}, src...) as one step of a region that draws its order. -/
theorem step_append_fresh {α : Type} {R : Rep α} {f : α → Value} {P : Program} {ops : Array Oper} {o : Oper} {a : Act} {w : World} {K : Act → World → Prop} {Q : Exit → Act → World → Prop} {E : Prop} (hgd : o.guard = none) (s x : Operand) (t : TypeId)
    (ho : o.op = .call { callee := .builtin .append, args := #[s, x], argTypes := #[t, t] })
    (e : TypeId) (z : Value) (bytes : Nat) (ht : P.underlying t = some (.slice e)) (hinfo : (P.info? e).map (fun i => (i.zero, i.size, i.bytes)) = some (some z, 1, bytes))
    (hzs : z.cells.size = 1) (hR : ∀ F w cs x, R F w cs x → cs = [f x])
    (b : Addr) (hs : a.eval s = .slice (some b) 0 0) (F : Foot) (oa : Option Addr) (c : Nat) (ys : List α) (hx : a.eval x = .slice oa ys.length c) (hsrc : SliceR R 1 F w oa ys) (hne : 0 < ys.length)
    (hbytes : ys.length * bytes ≤ 140737488355328) (hm : ys.length ≤ maxLen)
    (hK : ∀ w' g cap rest, w.heap.size ≤ g → Row1 f w' g e ys rest → (cap = ys.length + rest.length ∧ cap ≤ maxLen) → w.grownBy w' none → K (a.put o.dst (.slice (some ⟨g, 0, none⟩) ys.length cap)) w') :
    if Region.wanted o (yielded ops a.tmps) = true then Oper.wp P o a w K Q else E := by
  have hw : Region.wanted o (yielded ops a.tmps) = true := by simp [Region.wanted, hgd]
  rw [if_pos hw]
  obtain ⟨i0, hi, hz0, hz1, hz2⟩ := info_parts hinfo
  have hat : ∀ i y, ys[i]? = some y → ∃ b off, oa = some ⟨b, off, none⟩ ∧ w.cell? ⟨b, off + i, none⟩ = some (f y) := fun i y hy => by
    obtain ⟨b, off, cs', hoa, _, hRy, hc⟩ := hsrc i y hy
    have := hR _ _ _ _ hRy
    subst this
    exact ⟨b, off, hoa, by simpa using hc 0 (f y) rfl⟩
  obtain ⟨b2, off2, hoa, _⟩ := hat 0 _ (List.getElem?_eq_getElem hne)
  subst hoa
  have hnews : ∀ j u, (ys.map f)[j]? = some u → w.cell? ((⟨b2, off2, none⟩ : Addr).add j) = some u := fun j u hu => by
    rw [List.getElem?_map] at hu
    obtain ⟨y, hy, rfl⟩ := Option.map_eq_some_iff.1 hu
    obtain ⟨b3, off3, he, hc⟩ := hat j y hy
    injection he with he
    injection he with e1 e2
    subst e1 e2
    rw [Addr.add_lit]
    exact hc
  obtain ⟨v', w', hrun, r1, r2⟩ := run_append_arg_grows (P := P) w t o.type e i0 z 1 bytes ht hi hz0 hz1 hz2 hzs (by decide) b 0 0 [] (by simp) (by simp) ⟨b2, off2, none⟩ ys.length c (ys.map f) (by simp) hnews (by omega) (by omega) (by simpa using hbytes)
  have hfin : ∃ g cap rest, w.heap.size ≤ g ∧ Row1 f w' g e ys rest ∧ (cap = ys.length + rest.length ∧ cap ≤ maxLen) ∧ v' = .slice (some ⟨g, 0, none⟩) ys.length cap := by
    rcases r1.2 with ⟨he, h0⟩ | ⟨g, cap, cur, he, hb, hh, hle, hcm, hcs, htake⟩
    · omega
    · refine ⟨g, cap, cur.toList.drop ys.length, hb, ?_, ⟨by simp; omega, hcm⟩, by rw [he]; simp⟩
      unfold Row1
      have : ys.map f ++ cur.toList.drop ys.length = cur.toList := by
        have h2 := List.take_append_drop ys.length cur.toList
        simp only [Nat.zero_add, Nat.mul_one, List.nil_append] at htake
        rw [htake] at h2
        exact h2
      rw [this]
      exact hh
  obtain ⟨g, cap, rest, hg, hrow, hcap, rfl⟩ := hfin
  unfold Oper.wp execOp
  simp only [ho, resolve, invoke, builtin, Sem.run_bind, Sem.run_pure, Result.andThen_ok, List.map_toArray, List.map_cons, List.map_nil, hs, hx, hrun]
  exact hK w' g cap rest hg hrow hcap r2

/-- make([]T, n) as one step of a region that draws its order. -/
theorem step_make_row {α : Type} {f : α → Value} {P : Program} {ops : Array Oper} {o : Oper} {a : Act} {w : World} {K : Act → World → Prop} {Q : Exit → Act → World → Prop} {E : Prop}
    (hg : o.guard = none) (l c : Operand) (t : TypeId) (hop : o.op = Op.makeSlice t l c) (e : TypeId) (x0 : α) (bytes : Nat) (h1 : P.underlying t = some (.slice e)) (hinfo : (P.info? e).map (fun i => (i.zero, i.size, i.bytes)) = some (some (f x0), 1, bytes))
    (hone : (f x0).cells = #[f x0]) (n : Nat) (hl : a.eval l = .int .i64 (n : Int)) (hc : a.eval c = .int .i64 (n : Int)) (b2 : bytes * n ≤ 281474976710656) (b3 : n ≤ maxLen)
    (hK : ∀ w', Row1 f w' w.heap.size e (List.replicate n x0) [] → w.grownBy w' none → K (a.put o.dst (.slice (some ⟨w.heap.size, 0, none⟩) n n)) w') :
    if Region.wanted o (yielded ops a.tmps) = true then Oper.wp P o a w K Q else E := by
  have hw : Region.wanted o (yielded ops a.tmps) = true := by simp [Region.wanted, hg]
  rw [if_pos hw]
  obtain ⟨i0, hi, hz0, hz1, hz2⟩ := info_parts hinfo
  obtain ⟨w', hrun, r1, r2⟩ := run_make_full (P := P) w w.heap.size t e i0 (f x0) 1 h1 hi hz0 hz1 .i64 .i64 n (by rw [hz2]; exact b2) b3 (Nat.le_refl _)
  have hrow : Row1 f w' w.heap.size e (List.replicate n x0) [] := by
    rcases r1.2 with ⟨he, _⟩ | ⟨g, cap, cur, he, _, hh, _, _, hcs, htake⟩
    · cases he
    · injection he with e1 e2 e3
      injection e1 with e1
      injection e1 with e1
      subst e1 e3
      have hcur : cur.toList = (List.replicate n x0).map f ++ [] := by
        rw [List.append_nil, List.map_replicate]
        rw [← List.take_of_length_le (l := cur.toList) (i := n * 1) (by simp; omega), htake]
        apply List.ext_getElem?
        intro j
        simp only [Array.getElem?_toList, madeCells, Array.getElem?_map, Array.getElem?_range, List.getElem?_replicate, hone]
        by_cases hj : j < n
        · simp [hj, Nat.mod_one]
        · simp [hj]
      unfold Row1
      rw [← hcur]
      exact hh
  unfold Oper.wp
  simp [execOp, hop, hl, hc, hrun, Result.andThen]
  exact hK w' hrow r2

end Go.Proofs.Ytopldbnlehjlpaa

set_option linter.unusedVariables false
set_option linter.unusedSimpArgs false
set_option linter.unnecessarySimpa false
namespace Go.Proofs.Ytopldbnlehjlpaa
open Go.RowKit

theorem boundFn_any (k : Int) (w : World) : Calls Try.prog 84 #[.int .i64 k] w fun e w' => e = .returned (.bool (!inChips k)) ∧ w = w' := by
  by_cases h1 : k < -1048576
  · have q1 : decide (k < (-1048576 : Int)) = true := by simp [h1]
    have HR : Hid ((!inChips k) = true) := by show _ = _; simp [inChips]; omega
    clear h1
    go_enter Try.func84, Try.ntmps84
    go_wp2_with fail
    go_ret
    exact ⟨ret_bool HR.out.symm, rfl⟩
  · have q1 : decide (k < (-1048576 : Int)) = false := by simp; omega
    have HR : Hid ((!inChips k) = decide ((1048576 : Int) < k)) := by
      show _ = _
      rw [Bool.eq_iff_iff]
      simp [inChips]
      omega
    clear h1
    go_enter Try.func84, Try.ntmps84
    go_wp2_with fail
    go_ret
    exact ⟨ret_bool HR.out.symm, rfl⟩

def outB (d : List Int) : Bool := d.any fun k => !inChips k
set_option maxHeartbeats 1000000 in
theorem idxB_any (d : List Int) (od : Option Addr) (cd : Nat) (F : Foot) (w : World) (hd : SliceR intR 1 F w od d) (hc : d.length ≤ cd) (hc2 : d.length ≤ 9223372036854775807) :
    Calls Try.prog 100 #[.slice od d.length cd, .func (.func 84) #[] #[]] w fun e w' => ∃ r : Int, e = .returned (.int .i64 r) ∧ decide (0 ≤ r) = outB d ∧ w = w' := by
  go_enter Try.func100, Try.ntmps100
  go_wp2_with fail
  go_loopw [8] (fun iv wr => ∃ k : Nat, k ≤ d.length ∧ iv = .int .i64 k ∧ Hid (outB d = outB (d.drop k)) ∧ wr = w) (fun iv _ => d.length - (intOf iv).toNat)
  case atStart => exact ⟨0, by omega, rfl, rfl, rfl⟩
  case round =>
    obtain ⟨k, hk, rfl, HS, rfl⟩ := hrel
    by_cases hlt : k < d.length
    · obtain ⟨x, hdr, _, ix, b, off, hod, _, c0⟩ := hd.int_at hlt
      subst hod
      have HS2 : Hid (outB d = ((!inChips x) || outB (d.drop (k + 1)))) := by show _ = _; rw [HS.out, hdr]; rfl
      have hI := boundFn_any x wr
      clear hdr
      by_cases hx : inChips x = true
      · have HS3 : Hid (outB d = outB (d.drop (k + 1))) := by show _ = _; rw [HS2.out, hx]; rfl
        rw [hx] at hI
        clear hx
        go_wp2_with (go_at_call 84; refine hI.mono ?_; rintro e w' ⟨rfl, rfl⟩)
        go_roundw
        case rel => exact ⟨k + 1, by omega, by go_num, HS3, by first | rfl | trivial⟩
        case measure => simp [intOf]; omega
      · have hx2 : inChips x = false := by simpa using hx
        have HS3 : Hid (outB d = true) := by show _ = _; rw [HS2.out, hx2]; rfl
        rw [hx2] at hI
        clear hx hx2
        go_wp2_with (go_at_call 84; refine hI.mono ?_; rintro e w' ⟨rfl, rfl⟩)
        go_ret
        refine ⟨_, rfl, ?_, rfl⟩
        rw [HS3.out]
        simp
    · have hke : k = d.length := by omega
      have HS3 : Hid (outB d = false) := by show _ = _; rw [HS.out, hke, List.drop_length]; rfl
      clear hke
      go_wp2_with fail
      go_ret
      refine ⟨_, rfl, ?_, rfl⟩
      rw [HS3.out]
      decide
theorem contB_any (d : List Int) (od : Option Addr) (cd : Nat) (F : Foot) (w : World) (hd : SliceR intR 1 F w od d) (hc : d.length ≤ cd) (hc2 : d.length ≤ 9223372036854775807) :
    Calls Try.prog 83 #[.slice od d.length cd, .func (.func 84) #[] #[]] w fun e w' => e = .returned (.bool (outB d)) ∧ w = w' := by
  go_enter Try.func83, Try.ntmps83
  go_wp2_with fail
  refine (idxB_any d od cd F w hd hc hc2).mono ?_
  rintro e w' ⟨r, rfl, h1, rfl⟩
  have H1 := hide h1
  clear h1
  go_wp2_with fail
  go_ret
  exact ⟨ret_bool H1.out, rfl⟩
theorem outB_no {d : List Int} (h : ∀ x ∈ d, -1048576 ≤ x ∧ x ≤ 1048576) : outB d = false := by
  unfold outB
  rw [List.any_eq_false]
  intro x hx
  have := h x hx
  simp [inChips, this]
theorem bounded_any (d : List Int) (od : Option Addr) (cd : Nat) (F : Foot) (w : World) (hd : SliceR intR 1 F w od d) (hc : d.length ≤ cd) (hc2 : d.length ≤ 9223372036854775807) :
    Calls Try.prog 67 #[.slice od d.length cd] w fun e w' => e = .returned (if outB d = true then .tuple #[.slice none 0 0, .int .i64 11] else .tuple #[.slice od d.length cd, .int .i64 0]) ∧ w = w' := by
  have HK := hide (contB_any d od cd F w hd hc hc2)
  by_cases h : outB d = true
  · rw [if_pos h]
    go_enter Try.func67, Try.ntmps67
    go_wp2_with fail
    refine HK.out.mono ?_
    rintro e w' ⟨rfl, rfl⟩
    rw [h]
    go_wp2_with fail
    go_ret2
    exact ⟨rfl, rfl⟩
  · rw [if_neg h]
    have h2 : outB d = false := by simpa using h
    go_enter Try.func67, Try.ntmps67
    go_wp2_with fail
    refine HK.out.mono ?_
    rintro e w' ⟨rfl, rfl⟩
    rw [h2]
    go_wp2_with fail
    go_ret2
    exact ⟨rfl, rfl⟩

theorem flow_bound {m a b : Int} (hm : 0 ≤ m ∧ m ≤ 50) (ha : -2097152 ≤ a ∧ a ≤ 2097152) (hb : -2097152 ≤ b ∧ b ≤ 2097152) : -300000000 ≤ m * (a - b) ∧ m * (a - b) ≤ 300000000 := by
  have h1 : m * (a - b) ≤ m * 4194304 := Int.mul_le_mul_of_nonneg_left (by omega) hm.1
  have h2 : m * (-4194304) ≤ m * (a - b) := Int.mul_le_mul_of_nonneg_left (by omega) hm.1
  omega

set_option maxRecDepth 100000 in
set_option maxHeartbeats 2000000 in
theorem along_any (s d : List Int) (x : Edg) (A B : Nat) (os : Option Addr) (cs : Nat) (F : Foot) (g cap sb ob : Nat) (rest : List Value) (w : World) (hsb : Boxed w sb 56 (.slice os s.length cs)) (hos : SliceR intR 1 F w os s)
    (hob : Boxed w ob 52 (.slice (some ⟨g, 0, none⟩) d.length cap)) (hrow : Row1 (Value.int .i64) w g 3 d rest) (hA : x.a = A) (hB : x.b = B) (hAl : A < d.length) (hBl : B < d.length) (hsl : s.length = d.length)
    (hm : 0 ≤ x.m ∧ x.m ≤ 50) (hs : ∀ y ∈ s, -2097152 ≤ y ∧ y ≤ 2097152) (hd : ∀ y ∈ d, -1000000000000000 ≤ y ∧ y ≤ 1000000000000000) :
    Calls Try.prog 85 #[.agg #[.int .i64 x.a, .int .i64 x.b, .int .i64 x.m], .pointer (some ⟨sb, 0, none⟩), .pointer (some ⟨ob, 0, none⟩)] w fun e w' => e = .returned (.tuple #[]) ∧ Row1 (Value.int .i64) w' g 3 (alongL s x d) rest ∧ w.grownBy w' (some g) := by
  obtain ⟨a, b, m⟩ := x
  simp only at hA hB hm ⊢
  subst hA hB
  obtain ⟨sA, _, hsA, _, b1, o1, hos1, _, cA⟩ := hos.int_at (show A < s.length by omega)
  subst hos1
  obtain ⟨sB, _, hsB, _, b2, o2, hos2, _, cB⟩ := hos.int_at (show B < s.length by omega)
  injection hos2 with hos2
  injection hos2 with e1 e2
  subst e1 e2
  have hfl := flow_bound hm (hs sA (List.mem_of_getElem? hsA)) (hs sB (List.mem_of_getElem? hsB))
  obtain ⟨f, hf⟩ : ∃ f, f = m * (sA - sB) := ⟨_, rfl⟩
  have HF : Hid (flowL s ⟨A, B, m⟩ = f) := by show _ = _; unfold flowL; simp only [Int.toNat_natCast]; rw [getD_of hsA, getD_of hsB, hf]
  have hAs := hs sA (List.mem_of_getElem? hsA)
  have hBs := hs sB (List.mem_of_getElem? hsB)
  obtain ⟨dA, hdA⟩ : ∃ y, d[A]? = some y := ⟨_, List.getElem?_eq_getElem hAl⟩
  have hdAb := hd dA (List.mem_of_getElem? hdA)
  obtain ⟨W1, hW1⟩ : ∃ W1, w.alloc (.cells #[.int .i64 (A : Int), .int .i64 (B : Int), .int .i64 m] 109) = W1 := ⟨_, rfl⟩
  have hb1 : Below w.heap.size w W1 := by rw [← hW1]; exact bnew (Below.refl _ _) _
  have hg1 : w.grownBy W1 (some g) := by rw [← hW1]; exact World.grownBy_alloc _ _ _
  have bE : Box W1 w.heap.size [.int .i64 (A : Int), .int .i64 (B : Int), .int .i64 m] 109 := by rw [← hW1]; exact Box.new w [.int .i64 (A : Int), .int .i64 (B : Int), .int .i64 m] 109
  have x0 := bE.cell 0
  have x1 := bE.cell 1
  have x2 := bE.cell 2
  simp only [List.getElem?_cons_zero, List.getElem?_cons_succ] at x0 x1 x2
  have s0 := (boxed_same hsb (hb1.block _ hsb.lt)).cell
  have u0 := (boxed_same hob (hb1.block _ hob.lt)).cell
  have cA1 := (hb1.cell (World.block_lt_of_cell? _ _ cA)).trans cA
  have cB1 := (hb1.cell (World.block_lt_of_cell? _ _ cB)).trans cB
  have hr1 := hrow.below hb1
  have hne : ob ≠ g := by
    intro e
    have h1 : w.heap[ob]? = _ := hob
    have h2 : w.heap[g]? = _ := hrow
    rw [e, h2] at h1
    injection h1 with h1
    injection h1 with _ h1
    exact absurd h1 (by decide)
  have hne2 : w.heap.size ≠ g := by have := hrow.lt; omega
  have HOB := hide (boxed_same hob (hb1.block _ hob.lt))
  have HBE := hide bE
  have HR1 := hide hr1
  have HG1 := hide hg1
  have HDA := hide hdA
  have HDD := hide hd
  have HW1 := hide hW1
  subst hf
  clear hsA hsB hdA hs hd hb1 hg1 bE hr1 cA cB hrow hsb hob hos
  go_enter Try.func85, Try.ntmps85
  go_wp2_with fail
  go_quiet (fail)
  clear hW1
  obtain ⟨Wq, hWq⟩ : ∃ Wq, W1.drewN nq = Wq := ⟨_, rfl⟩
  have hr1 : Row1 (Value.int .i64) Wq g 3 d rest := by rw [← hWq]; exact HR1.out
  have bE : Box Wq w.heap.size [.int .i64 (A : Int), .int .i64 (B : Int), .int .i64 m] 109 := by rw [← hWq]; exact HBE.out
  have hob : Boxed Wq ob 52 (.slice (some ⟨g, 0, none⟩) d.length cap) := by rw [← hWq]; exact HOB.out
  have hg1 : w.grownBy Wq (some g) := by rw [← hWq]; exact grown_drewN HG1.out nq
  have x0 := bE.cell 0
  have x1 := bE.cell 1
  simp only [List.getElem?_cons_zero, List.getElem?_cons_succ] at x0 x1
  have u0 := hob.cell
  have r0 := hr1.cell HDA.out
  have rf := hr1.free A
  obtain ⟨W2, hW2⟩ : ∃ W2, Wq.setCell ⟨g, A, none⟩ (.int .i64 (dA - m * (sA - sB))) = W2 := ⟨_, rfl⟩
  have hr2 : Row1 (Value.int .i64) W2 g 3 (addL d A (-(m * (sA - sB)))) rest := by
    rw [← hW2]
    have := hr1.put (i := A) hAl (dA - m * (sA - sB))
    unfold addL
    rw [getD_of HDA.out]
    exact this
  have hBl2 : B < (addL d A (-(m * (sA - sB)))).length := by rw [addL_len]; exact hBl
  obtain ⟨dB, hdB⟩ : ∃ y, (addL d A (-(m * (sA - sB))))[B]? = some y := ⟨_, List.getElem?_eq_getElem hBl2⟩
  have hdBb : -1000000400000000 ≤ dB ∧ dB ≤ 1000000400000000 := by
    rcases addL_mem (List.mem_of_getElem? hdB) hAl with h4 | ⟨y, h4, e⟩
    · have := HDD.out dB h4; omega
    · have := HDD.out y h4; omega
  have r2 := hr2.cell hdB
  have rf2 := hr2.free B
  have u2 : W2.cell? ⟨ob, 0, none⟩ = some (.slice (some ⟨g, 0, none⟩) d.length cap) := by
    rw [← hW2]
    exact (boxed_same hob (Below.heap_setCell _ _ _ _ (by simpa using hne))).cell
  have bE2 : Box W2 w.heap.size [.int .i64 (A : Int), .int .i64 (B : Int), .int .i64 m] 109 := by rw [← hW2]; exact bE.other (by simpa using hne2) _
  have y1 := bE2.cell 1
  simp only [List.getElem?_cons_zero, List.getElem?_cons_succ] at y1
  have HF2 : Hid (w.grownBy (W2.setCell ⟨g, B, none⟩ (.int .i64 (dB + m * (sA - sB)))) (some g)) := by
    show w.grownBy _ _
    rw [← hW2]
    exact (hg1.trans (grown_cell _ _ _ _)).trans (grown_cell _ _ _ _)
  have HF3 : Hid (Row1 (Value.int .i64) (W2.setCell ⟨g, B, none⟩ (.int .i64 (dB + m * (sA - sB)))) g 3 (alongL s ⟨A, B, m⟩ d) rest) := by
    show Row1 _ _ _ _ _ _
    unfold alongL
    rw [HF.out]
    simp only [Int.toNat_natCast]
    have := hr2.put (i := B) hBl2 (dB + m * (sA - sB))
    rw [show (addL (addL d A (-(m * (sA - sB)))) B (m * (sA - sB))) = (addL d A (-(m * (sA - sB)))).set B (dB + m * (sA - sB)) from by
      show (addL d A (-(m * (sA - sB)))).set B ((addL d A (-(m * (sA - sB)))).getD B 0 + m * (sA - sB)) = _
      rw [getD_of hdB]]
    exact this
  clear hr1 bE hob hg1 hr2 hBl2 hdB bE2
  go_wp2_with fail
  go_end0
  exact ⟨rfl, HF3.out, HF2.out⟩

end Go.Proofs.Ytopldbnlehjlpaa

set_option linter.unusedVariables false
set_option linter.unusedSimpArgs false
set_option linter.unnecessarySimpa false
namespace Go.Proofs.Ytopldbnlehjlpaa
open Go.RowKit

theorem movedL_succ {s : List Int} {es : List Edg} {d : List Int} {k : Nat} {x : Edg} (h : es[k]? = some x) : movedL s (es.take (k + 1)) d = alongL s x (movedL s (es.take k) d) := by
  rw [List.take_add_one, h]
  simp [movedL, List.foldl_append]
theorem flowL_bound {s : List Int} {x : Edg} (hs : ∀ y ∈ s, -2097152 ≤ y ∧ y ≤ 2097152) (hm : 0 ≤ x.m ∧ x.m ≤ 50) : -300000000 ≤ flowL s x ∧ flowL s x ≤ 300000000 := by
  have hg : ∀ i : Nat, -2097152 ≤ s.getD i 0 ∧ s.getD i 0 ≤ 2097152 := fun i => by
    rw [List.getD_eq_getElem?_getD]
    rcases hx : s[i]? with _ | y
    · simp
    · exact hs y (List.mem_of_getElem? hx)
  exact flow_bound hm (hg _) (hg _)
theorem along_bound {s d : List Int} {x : Edg} {B : Int} (hs : ∀ y ∈ s, -2097152 ≤ y ∧ y ≤ 2097152) (hm : 0 ≤ x.m ∧ x.m ≤ 50) (ha : x.a.toNat < d.length) (hb : x.b.toNat < d.length) (hd : ∀ y ∈ d, -B ≤ y ∧ y ≤ B) :
    ∀ y ∈ alongL s x d, -(B + 600000000) ≤ y ∧ y ≤ B + 600000000 := by
  have hf := flowL_bound hs hm
  intro y hy
  unfold alongL at hy
  rcases addL_mem hy (by rw [addL_len]; exact hb) with h | ⟨z, h, e⟩
  · rcases addL_mem h ha with h1 | ⟨z, h1, e1⟩
    · have := hd y h1; omega
    · have := hd z h1; omega
  · rcases addL_mem h ha with h1 | ⟨z', h1, e1⟩
    · have := hd z h1; omega
    · have := hd z' h1; omega
theorem moved_bound {s d : List Int} {es : List Edg} (hs : ∀ y ∈ s, -2097152 ≤ y ∧ y ≤ 2097152) (he : ∀ x ∈ es, (0 ≤ x.m ∧ x.m ≤ 50) ∧ x.a.toNat < d.length ∧ x.b.toNat < d.length) (hd : ∀ y ∈ d, -1048576 ≤ y ∧ y ≤ 1048576) :
    ∀ k, k ≤ es.length → ∀ y ∈ movedL s (es.take k) d, -(1048576 + k * 600000000 : Int) ≤ y ∧ y ≤ 1048576 + k * 600000000
  | 0, _ => fun y hy => by have := hd y (by simpa [movedL] using hy); omega
  | k + 1, hk => fun y hy => by
    have ih := moved_bound hs he hd k (by omega)
    have hx : es[k]? = some es[k] := List.getElem?_eq_getElem (by omega)
    rw [movedL_succ hx] at hy
    obtain ⟨h1, h2, h3⟩ := he _ (List.getElem_mem (show k < es.length by omega))
    have := along_bound hs h1 (by rw [moved_len]; exact h2) (by rw [moved_len]; exact h3) ih y hy
    omega

theorem fgiven_ok (n : Int) (es : List Edg) (oe : Option Addr) (c : Nat) (F : Foot) (w : World) (hs : SliceR edgR 3 F w oe es) (hc : es.length ≤ c) (hc2 : es.length ≤ 1000) (d : List Int) (od : Option Addr) (cd : Nat) (D : Foot) (hd : SliceR intR 1 D w od d) (hdc : d.length ≤ cd) (hdl : d.length ≤ 9223372036854775807)
    (hV : Hid (gErr n es = 0)) (hD : Hid (dErr n d = 0)) :
    Calls Try.prog 82 #[.agg #[.int .i64 n, .slice oe es.length c], .slice od d.length cd] w (ErrPost w 0) := by
  have hb0 := bnew (Below.refl w.heap.size w) (.cells #[.int .i64 n, .slice oe es.length c] 24)
  have HK := hide (gcheck_any n es oe c F _ (hs.below edgR_ok hb0) hc (by omega))
  have HD := hide (hd.below intR_ok hb0)
  clear hs hd
  obtain ⟨W1, hW1⟩ : ∃ W1, w.alloc (.cells #[.int .i64 n, .slice oe es.length c] 24) = W1 := ⟨_, rfl⟩
  have b1 : Box W1 w.heap.size [.int .i64 n, .slice oe es.length c] 24 := by rw [← hW1]; exact Box.new w [.int .i64 n, .slice oe es.length c] 24
  rw [hW1] at HK HD hb0
  have d0 := b1.cell 0
  have d1 := b1.cell 1
  simp only [List.getElem?_cons_zero, List.getElem?_cons_succ] at d0 d1
  have HB1 := hide b1
  have HB0 := hide hb0
  clear b1 hb0
  go_enter Try.func82, Try.ntmps82
  go_wp2_with fail
  refine HK.out.mono ?_
  rintro e w2 ⟨rfl, hb⟩
  rw [hV.out]
  have b1 := HB1.out.below hb
  have d0 := b1.cell 0
  have d1 := b1.cell 1
  simp only [List.getElem?_cons_zero, List.getElem?_cons_succ] at d0 d1
  have HD2 := hide (HD.out.below intR_ok hb)
  have HB2 := hide (HB0.out.trans (hb.mono HB0.out.size))
  clear b1 hb hW1
  go_wp2_with fail
  refine (dcheck_any n d od cd D w2 HD2.out hdc hdl).mono ?_
  rintro e w3 ⟨rfl, hb⟩
  rw [hD.out]
  have HB3 := hide (HB2.out.trans (hb.mono HB2.out.size))
  clear hb
  go_wp2_with fail
  go_ret
  exact ⟨rfl, HB3.out⟩

theorem fvertex_ok (n : Int) (es : List Edg) (oe : Option Addr) (c : Nat) (F : Foot) (w : World) (hs : SliceR edgR 3 F w oe es) (hc : es.length ≤ c) (hc2 : es.length ≤ 1000) (d : List Int) (od : Option Addr) (cd : Nat) (D : Foot) (hd : SliceR intR 1 D w od d) (hdc : d.length ≤ cd) (hdl : d.length ≤ 9223372036854775807)
    (hV : Hid (gErr n es = 0)) (hD : Hid (dErr n d = 0)) (k : Nat) (hk : (k : Int) < n) :
    Calls Try.prog 66 #[.agg #[.int .i64 n, .slice oe es.length c], .slice od d.length cd, .int .i64 k] w (ErrPost w 0) := by
  have hb0 := bnew (Below.refl w.heap.size w) (.cells #[.int .i64 n, .slice oe es.length c] 24)
  have HK := hide (fgiven_ok n es oe c F _ (hs.below edgR_ok hb0) hc (by omega) d od cd D (hd.below intR_ok hb0) hdc hdl hV hD)
  clear hs hd
  obtain ⟨W1, hW1⟩ : ∃ W1, w.alloc (.cells #[.int .i64 n, .slice oe es.length c] 24) = W1 := ⟨_, rfl⟩
  have b1 : Box W1 w.heap.size [.int .i64 n, .slice oe es.length c] 24 := by rw [← hW1]; exact Box.new w [.int .i64 n, .slice oe es.length c] 24
  rw [hW1] at HK hb0
  have d0 := b1.cell 0
  have d1 := b1.cell 1
  simp only [List.getElem?_cons_zero, List.getElem?_cons_succ] at d0 d1
  have HB1 := hide b1
  have HB0 := hide hb0
  have q1 : decide ((k : Int) < 0) = false := by simp <;> omega
  have q2 : decide (n ≤ (k : Int)) = false := by simp; omega
  clear b1 hb0
  go_enter Try.func66, Try.ntmps66
  go_wp2_with fail
  refine HK.out.mono ?_
  rintro e w2 ⟨rfl, hb⟩
  have b1 := HB1.out.below hb
  have d0 := b1.cell 0
  simp only [List.getElem?_cons_zero, List.getElem?_cons_succ] at d0
  have HB2 := hide (HB0.out.trans (hb.mono HB0.out.size))
  clear b1 hb hW1
  go_wp2_with fail
  go_ret
  exact ⟨rfl, HB2.out⟩

/-- The script that fires one vertex once. -/
theorem of_any (n : Nat) (es : List Edg) (oe : Option Addr) (c : Nat) (os : Option Addr) (k : Nat) (F : Foot) (w : World) (hs : SliceR intR 1 F w os [(k : Int)]) (hk : k < n) (hn : n ≤ 12) :
    Calls Try.prog 69 #[.agg #[.int .i64 n, .slice oe es.length c], .slice os 1 1, .int .i64 1] w fun e w' => ∃ g, e = .returned (.slice (some ⟨g, 0, none⟩) n n) ∧ w.heap.size ≤ g ∧ Row1 (Value.int .i64) w' g 3 (oneHot n k) [] ∧ Below w.heap.size w w' := by
  obtain ⟨x, _, hx, _, b, off, hos, _, cA⟩ := hs.int_at (i := 0) (by simp)
  simp at hx
  subst hx hos
  rw [Nat.add_zero] at cA
  have hbl := World.block_lt_of_cell? _ _ cA
  simp only at hbl
  have hb0 := bnew (Below.refl w.heap.size w) (.cells #[.int .i64 (n : Int), .slice oe es.length c] 24)
  have cA0 := (hb0.cell hbl).trans cA
  go_enter Try.func69, Try.ntmps69
  go_wp2_with (at_make; refine wpList_make_row (f := Value.int .i64) _ rfl _ _ 56 rfl 3 (0 : Int) 8 Try.underlying56 iInfo rfl .i64 .i64 _ _ n rfl rfl rfl rfl (by omega) (by unfold maxLen; omega) (fun w1 hrow hb1 hg1 => ?_))
  simp only [World.size_alloc] at hrow hb1
  have hlow : Below w.heap.size w w1 := hb0.trans (hb1.mono (by simp))
  have cA1 := (hlow.cell hbl).trans cA
  have r0 := hrow.cell (i := k) (x := 0) (by simp [hk])
  have rf := hrow.free k
  have hp := hrow.put (i := k) (by simpa using hk) (1 : Int)
  have hlow2 : Below w.heap.size w (w1.setCell ⟨w.heap.size + 1, k, none⟩ (.int .i64 1)) := hlow.setCell (by simp) _
  have HP := hide hp
  have HL := hide hlow2
  have hne : b ≠ w.heap.size + 1 := by omega
  clear hp hlow2 hb1 hg1 hb0
  go_loopw [15] (fun iv wr => (iv = .int .i64 0 ∧ wr = w1) ∨ (iv = .int .i64 1 ∧ wr = w1.setCell ⟨w.heap.size + 1, k, none⟩ (.int .i64 1))) (fun iv _ => 1 - (intOf iv).toNat)
  case atStart => exact .inl ⟨rfl, by first | rfl | trivial⟩
  case round =>
    rcases hrel with ⟨rfl, rfl⟩ | ⟨rfl, rfl⟩
    · go_wp2_with fail
      go_roundw
      case rel => exact .inr ⟨by go_num, by first | rfl | trivial⟩
      case measure => simp [intOf]
    · go_wp2_with fail
      go_ret
      exact ⟨_, rfl, by omega, HP.out, HL.out⟩

set_option maxRecDepth 100000 in
set_option maxHeartbeats 4000000 in
theorem fmoved_any (n : Int) (es : List Edg) (oe : Option Addr) (c : Nat) (F : Foot) (w : World) (hs : SliceR edgR 3 F w oe es) (hc : es.length ≤ c) (hc2 : es.length ≤ 1000) (d : List Int) (od : Option Addr) (cd : Nat) (D : Foot) (hd : SliceR intR 1 D w od d) (hdc : d.length ≤ cd) (hdl : d.length ≤ 1000)
    (s : List Int) (os : Option Addr) (cs : Nat) (S : Foot) (hS : SliceR intR 1 S w os s) (hsl : s.length = d.length) (hV : Hid (gErr n es = 0)) (hn : (d.length : Int) = n) (hsb : Hid (∀ y ∈ s, -2097152 ≤ y ∧ y ≤ 2097152)) (hdb : Hid (∀ y ∈ d, -1048576 ≤ y ∧ y ≤ 1048576)) :
    Calls Try.prog 68 #[.agg #[.int .i64 n, .slice oe es.length c], .slice od d.length cd, .slice os s.length cs] w fun e w' =>
      ∃ g cap rest, e = .returned (.slice (some ⟨g, 0, none⟩) d.length cap) ∧ d.length ≤ cap ∧ w.heap.size ≤ g ∧ Row1 (Value.int .i64) w' g 3 (movedL s es d) rest ∧ Below w.heap.size w w' := by
  have hb0 := bnew (bnew (Below.refl w.heap.size w) (.cells #[.int .i64 n, .slice oe es.length c] 24)) (.cells #[.slice os s.length cs] 56)
  have HD := hide (cloneD_any d od cd D _ (hd.below intR_ok hb0) hdc (by omega))
  have hv1 := (gErr_zero hV.out).1
  have hve : Hid (∀ x ∈ es, (0 ≤ x.m ∧ x.m ≤ 50) ∧ x.a.toNat < d.length ∧ x.b.toNat < d.length) := fun x hx => by
    have := (gErr_zero hV.out).2.1 x hx
    omega
  have HMB := hide (moved_bound hsb.out hve.out hdb.out)
  have hne : d ≠ [] := by
    intro e
    rw [e] at hn
    simp at hn
    omega
  obtain ⟨W1, hW1⟩ : ∃ W1, (w.alloc (.cells #[.int .i64 n, .slice oe es.length c] 24)).alloc (.cells #[.slice os s.length cs] 56) = W1 := ⟨_, rfl⟩
  have b1 : Box W1 w.heap.size [.int .i64 n, .slice oe es.length c] 24 := by rw [← hW1]; exact (Box.new w [.int .i64 n, .slice oe es.length c] 24).next _
  have b2 : Boxed W1 (w.heap.size + 1) 56 (.slice os s.length cs) := by
    rw [← hW1]
    have := Box.new (w.alloc (.cells #[.int .i64 n, .slice oe es.length c] 24)) [.slice os s.length cs] 56
    rw [World.size_alloc] at this
    exact this
  rw [hW1] at HD hb0
  have hz1 : W1.heap.size = w.heap.size + 2 := by rw [← hW1]; simp
  have HB1 := hide b1
  have HB2 := hide b2
  have HB0 := hide hb0
  have HZ := hide hz1
  have HN := hide hn
  have HSL := hide hsl
  have HS := hide hs
  have HSS := hide hS
  clear b1 b2 hb0 hz1 hn hsl hs hS hd
  go_enter Try.func68, Try.ntmps68
  go_wp2_with fail
  refine HD.out.mono ?_
  rintro e w2 ⟨v, rfl, hov, hb⟩
  obtain ⟨g, cap, rest, rfl, hg, hcap, hcm, hrow, hi64⟩ := hov.row hne
  have hgz := hrow.lt
  have hcap2 : d.length ≤ cap := by omega
  clear hcap hcm
  have b1 := HB1.out.below hb
  have b2 := boxed_same HB2.out (hb.block _ HB2.out.lt)
  have hlow : Below w.heap.size w w2 := HB0.out.trans (hb.mono HB0.out.size)
  have hgw : w.heap.size + 2 ≤ g := by rw [← HZ.out]; exact hg
  clear hov hb hW1
  obtain ⟨ob, hob⟩ : ∃ ob, ob = w2.heap.size := ⟨_, rfl⟩
  obtain ⟨W3, hW3⟩ : ∃ W3, w2.alloc (.cells #[.slice (some ⟨g, 0, none⟩) d.length cap] 52) = W3 := ⟨_, rfl⟩
  have b3 : Boxed W3 ob 52 (.slice (some ⟨g, 0, none⟩) d.length cap) := by rw [← hW3, hob]; exact Box.new w2 [.slice (some ⟨g, 0, none⟩) d.length cap] 52
  have bb := bnew (Below.refl w2.heap.size w2) (.cells #[.slice (some ⟨g, 0, none⟩) d.length cap] 52)
  rw [hW3] at bb
  have HX : Hid (Box W3 w.heap.size [.int .i64 n, .slice oe es.length c] 24 ∧ Boxed W3 (w.heap.size + 1) 56 (.slice os s.length cs) ∧ Boxed W3 ob 52 (.slice (some ⟨g, 0, none⟩) d.length cap) ∧ Row1 (Value.int .i64) W3 g 3 (movedL s (es.take 0) d) rest ∧ Below w.heap.size w W3) :=
    ⟨b1.below bb, boxed_same b2 (bb.block _ b2.lt), b3, by simpa [movedL] using hrow.below bb, hlow.trans (bb.mono hlow.size)⟩
  have d1 := HX.out.1.cell 1
  simp only [List.getElem?_cons_zero, List.getElem?_cons_succ] at d1
  have hgo : ob ≠ g := by omega
  have hwo : w.heap.size + 2 < ob := by omega
  clear b1 b2 b3 bb hlow hrow hi64
  subst hob
  go_wp2_with fail
  go_loopw [17] (fun iv wr => ∃ k : Nat, k ≤ es.length ∧ iv = .int .i64 k ∧ Hid (Box wr w.heap.size [.int .i64 n, .slice oe es.length c] 24 ∧ Boxed wr (w.heap.size + 1) 56 (.slice os s.length cs) ∧ Boxed wr w2.heap.size 52 (.slice (some ⟨g, 0, none⟩) d.length cap) ∧ Row1 (Value.int .i64) wr g 3 (movedL s (es.take k) d) rest ∧ Below w.heap.size w wr)) (fun iv _ => es.length - (intOf iv).toNat)
  case atStart => exact ⟨0, by omega, rfl, HX⟩
  case round =>
    obtain ⟨k, hk, rfl, HY⟩ := hrel
    clear HX d1 hW3
    by_cases hlt : k < es.length
    · obtain ⟨a, b, m, _, hget, _, _, _, bl, off, hoe, _, c0, c1, c2⟩ := (HS.out.below edgR_ok HY.out.2.2.2.2).edg_at hlt
      subst hoe
      have hx := hve.out _ (List.mem_of_getElem? hget)
      have hz := (gErr_zero hV.out).2.1 _ (List.mem_of_getElem? hget)
      simp only at hz hx
      have ha := hz.1.1
      have hb := hz.2.1.1
      obtain ⟨y1, y2, y3, y4, y5⟩ := HY.out
      obtain ⟨W4, hW4⟩ : ∃ W4, wr.alloc (.cells #[.int .i64 a, .int .i64 b, .int .i64 m] 109) = W4 := ⟨_, rfl⟩
      have bb := bnew (Below.refl wr.heap.size wr) (.cells #[.int .i64 a, .int .i64 b, .int .i64 m] 109)
      rw [hW4] at bb
      have bx : Box W4 wr.heap.size [.int .i64 a, .int .i64 b, .int .i64 m] 109 := by rw [← hW4]; exact Box.new wr [.int .i64 a, .int .i64 b, .int .i64 m] 109
      have x0 := bx.cell 0
      have x1 := bx.cell 1
      have x2 := bx.cell 2
      simp only [List.getElem?_cons_zero, List.getElem?_cons_succ] at x0 x1 x2
      have e3 := boxed_same y3 (bb.block _ y3.lt)
      have hlm : (movedL s (es.take k) d).length = d.length := moved_len _ _ _
      rw [← hlm] at e3
      have HA := hide (along_any s (movedL s (es.take k) d) ⟨a, b, m⟩ a.toNat b.toNat os cs S g cap (w.heap.size + 1) w2.heap.size rest W4 (boxed_same y2 (bb.block _ y2.lt)) ((HSS.out.below intR_ok y5).below intR_ok bb) e3 (y4.below bb) (by simp only; omega) (by simp only; omega) (by omega) (by omega) (by rw [hlm]; exact HSL.out) hx.1 hsb.out (fun y hy => by have := HMB.out k hk y hy; omega))
      have HY2 := hide (show Box W4 w.heap.size [.int .i64 n, .slice (some ⟨bl, off, none⟩) es.length c] 24 ∧ Boxed W4 (w.heap.size + 1) 56 (.slice os s.length cs) ∧ Boxed W4 w2.heap.size 52 (.slice (some ⟨g, 0, none⟩) d.length cap) ∧ Below w.heap.size w W4 from ⟨y1.below bb, boxed_same y2 (bb.block _ y2.lt), boxed_same y3 (bb.block _ y3.lt), y5.trans (bb.mono y5.size)⟩)
      have HGET := hide (movedL_succ (s := s) (d := d) hget)
      clear bx y1 y2 y3 y4 y5 bb e3 hlm hget hx hz ha hb
      go_wp2_with fail
      refine HA.out.mono ?_
      rintro e w5 ⟨rfl, hr5, hg5⟩
      have HZ : Hid (Box w5 w.heap.size [.int .i64 n, .slice (some ⟨bl, off, none⟩) es.length c] 24 ∧ Boxed w5 (w.heap.size + 1) 56 (.slice os s.length cs) ∧ Boxed w5 w2.heap.size 52 (.slice (some ⟨g, 0, none⟩) d.length cap) ∧ Row1 (Value.int .i64) w5 g 3 (movedL s (es.take (k + 1)) d) rest ∧ Below w.heap.size w w5) := by
        obtain ⟨y1, y2, y3, y5⟩ := HY2.out
        refine ⟨y1.grown hg5 (by simp; omega), boxed_same y2 (hg5.block _ y2.lt (by simp; omega)), boxed_same y3 (hg5.block _ y3.lt (by simpa using hgo)), by rw [HGET.out]; exact hr5, y5.grown hg5 y5.size fun k hk => by simp at hk; omega⟩
      clear hr5 hg5 hW4
      go_wp2_with fail
      go_roundw
      case rel => exact ⟨k + 1, by omega, by go_num, HZ⟩
      case measure => simp [intOf]; omega
    · have hke : k = es.length := by omega
      have HF : Hid (Row1 (Value.int .i64) wr g 3 (movedL s es d) rest ∧ Below w.heap.size w wr) := by
        have := HY.out.2.2.2
        rw [hke, List.take_length] at this
        exact this
      have c3 := HY.out.2.2.1.cell
      clear hke
      go_wp2_with fail
      go_ret
      exact ⟨_, _, _, rfl, by omega, by omega, HF.out.1, HF.out.2⟩

end Go.Proofs.Ytopldbnlehjlpaa

set_option linter.unusedVariables false
set_option linter.unusedSimpArgs false
set_option linter.unnecessarySimpa false
namespace Go.Proofs.Ytopldbnlehjlpaa
open Go.RowKit

structure FireCx (w : World) (n : Int) (es : List Edg) (oe : Option Addr) (c : Nat) (d : List Int) (od : Option Addr) (W : World) : Prop where
  hes : SliceR edgR 3 All W oe es
  hdd : SliceR intR 1 All W od d
  b1 : Box W w.heap.size [.int .i64 n, .slice oe es.length c] 24
  low : Below w.heap.size w W
theorem FireCx.below {w : World} {n : Int} {es : List Edg} {oe : Option Addr} {c : Nat} {d : List Int} {od : Option Addr} {W W' : World} (h : FireCx w n es oe c d od W) (hb : Below W.heap.size W W') : FireCx w n es oe c d od W' :=
  ⟨h.hes.below edgR_ok hb, h.hdd.below intR_ok hb, h.b1.below hb, h.low.trans (hb.mono h.low.size)⟩
theorem FireCx.draw {w : World} {n : Int} {es : List Edg} {oe : Option Addr} {c : Nat} {d : List Int} {od : Option Addr} {W : World} (h : FireCx w n es oe c d od W) : FireCx w n es oe c d od W.drew :=
  ⟨h.hes.drew1 edgR_ok, h.hdd.drew1 intR_ok, h.b1.draw, h.low.trans ((Below.refl _ _).drew.mono h.low.size)⟩
theorem oneHot_len (n k : Nat) : (oneHot n k).length = n := by simp [oneHot]
theorem oneHot_mem {n k : Nat} : ∀ y ∈ oneHot n k, y = 0 ∨ y = 1 := fun y hy => by
  rcases List.mem_or_eq_of_mem_set hy with h | h
  · exact .inl (List.eq_of_mem_replicate h)
  · exact .inr h

set_option maxRecDepth 100000 in
set_option maxHeartbeats 4000000 in
theorem fire_any (n : Nat) (es : List Edg) (oe : Option Addr) (c : Nat) (w : World) (hs : SliceR edgR 3 All w oe es) (hc : es.length ≤ c) (hc2 : es.length ≤ 1000) (d : List Int) (od : Option Addr) (cd : Nat) (hd : SliceR intR 1 All w od d) (hdc : d.length ≤ cd) (hdl : d.length = n) (hn : n ≤ 12)
    (hV : Hid (gErr n es = 0)) (hD : Hid (dErr n d = 0)) (k : Nat) (hk : k < n) (hbd : Hid (∀ x ∈ movedL (oneHot n k) es d, -1048576 ≤ x ∧ x ≤ 1048576)) :
    Calls Try.prog 39 #[.agg #[.int .i64 n, .slice oe es.length c], .slice od d.length cd, .int .i64 k] w fun e w' =>
      ∃ g cap, e = .returned (.tuple #[.slice (some ⟨g, 0, none⟩) d.length cap, .int .i64 0]) ∧ d.length ≤ cap ∧ SliceR intR 1 All w' (some ⟨g, 0, none⟩) (movedL (oneHot n k) es d) ∧ Below w.heap.size w w' := by
  have hb0 := bnew (Below.refl w.heap.size w) (.cells #[.int .i64 n, .slice oe es.length c] 24)
  have C0 : FireCx w n es oe c d od (w.alloc (.cells #[.int .i64 (n : Int), .slice oe es.length c] 24)) := ⟨hs.below edgR_ok hb0, hd.below intR_ok hb0, Box.new w [.int .i64 n, .slice oe es.length c] 24, hb0⟩
  obtain ⟨W1, hW1⟩ : ∃ W1, w.alloc (.cells #[.int .i64 (n : Int), .slice oe es.length c] 24) = W1 := ⟨_, rfl⟩
  rw [hW1] at C0
  have HC := hide C0
  have hdl2 : d.length ≤ 1000 := by omega
  have hDB : Hid (∀ x ∈ d, -1048576 ≤ x ∧ x ≤ 1048576) := (dErr_zero hD.out).2.2
  have K1 : Hid (∀ (W : World), Calls Try.prog 69 #[.agg #[.int .i64 n, .slice oe es.length c], .slice (some ⟨W.heap.size, 0, none⟩) 1 1, .int .i64 1] (W.alloc (.cells #[.int .i64 k] 3)).drew fun e w' => ∃ g, e = .returned (.slice (some ⟨g, 0, none⟩) n n) ∧ Row1 (Value.int .i64) w' g 3 (oneHot n k) [] ∧ Below W.heap.size W w') :=
    fun W => (of_any n es oe c _ k All _ ((ints_lit (F := All) W 3 [(k : Int)] (by intro x hx; simp at hx; subst hx; unfold I64; omega) trivial).drew1 intR_ok) hk hn).mono fun e w' ⟨g, h1, _, h2, h3⟩ => ⟨g, h1, h2, ((bnew (Below.refl _ _) _).drew).trans (h3.mono (by show W.heap.size ≤ (W.alloc _).heap.size; simp))⟩
  have K2 : Hid (∀ (W : World) (g : Nat), FireCx w n es oe c d od W → Row1 (Value.int .i64) W g 3 (oneHot n k) [] → Calls Try.prog 68 #[.agg #[.int .i64 n, .slice oe es.length c], .slice od d.length cd, .slice (some ⟨g, 0, none⟩) n n] W fun e w' =>
      ∃ g cap rest, e = .returned (.slice (some ⟨g, 0, none⟩) d.length cap) ∧ d.length ≤ cap ∧ Row1 (Value.int .i64) w' g 3 (movedL (oneHot n k) es d) rest ∧ Below W.heap.size W w') := fun W g h hr => by
    have := fmoved_any n es oe c All W h.hes hc hc2 d od cd All h.hdd hdc hdl2 (oneHot n k) (some ⟨g, 0, none⟩) n All (hr.ints (fun x hx => by rcases oneHot_mem x hx with rfl | rfl <;> (unfold I64; omega)) trivial) (by rw [oneHot_len, hdl]) hV (by rw [hdl]) (fun y hy => by rcases oneHot_mem y hy with rfl | rfl <;> omega) hDB
    rw [oneHot_len] at this
    exact this.mono fun e w' ⟨g, cap, rest, h1, h2, _, h3, h4⟩ => ⟨g, cap, rest, h1, h2, h3, h4⟩
  have HS : ∀ {W : World} {g : Nat} {rest : List Value}, Row1 (Value.int .i64) W g 3 (movedL (oneHot n k) es d) rest → SliceR intR 1 All W (some ⟨g, 0, none⟩) (movedL (oneHot n k) es d) := fun h =>
    h.ints (fun x hx => by have := hbd.out x hx; unfold I64; omega) trivial
  have K3 : Hid (∀ (W : World) (g cap : Nat) (rest : List Value), Row1 (Value.int .i64) W g 3 (movedL (oneHot n k) es d) rest → d.length ≤ cap → Calls Try.prog 67 #[.slice (some ⟨g, 0, none⟩) d.length cap] W fun e w' => e = .returned (.tuple #[.slice (some ⟨g, 0, none⟩) d.length cap, .int .i64 0]) ∧ W = w') := fun W g cap rest h hcap => by
    have := bounded_any (movedL (oneHot n k) es d) (some ⟨g, 0, none⟩) cap All W (HS h) (by rw [moved_len]; exact hcap) (by rw [moved_len]; omega)
    rw [moved_len, outB_no hbd.out, if_neg (by simp)] at this
    exact this
  have K0 := hide (fvertex_ok n es oe c All W1 C0.hes hc hc2 d od cd All C0.hdd hdc (by omega) hV hD k (by omega))
  have HSS : Hid (∀ (W : World) (g : Nat) (rest : List Value), Row1 (Value.int .i64) W g 3 (movedL (oneHot n k) es d) rest → SliceR intR 1 All W (some ⟨g, 0, none⟩) (movedL (oneHot n k) es d)) := fun W g rest h => HS h
  have d0 := C0.b1.cell 0
  have d1 := C0.b1.cell 1
  simp only [List.getElem?_cons_zero, List.getElem?_cons_succ] at d0 d1
  clear C0 hs hd hb0 HS hdl
  go_enter Try.func39, Try.ntmps39
  go_wp2_with fail
  refine K0.out.mono ?_
  rintro e w2 ⟨rfl, hb⟩
  replace HC := hide (HC.out.below hb)
  have d0 := HC.out.b1.cell 0
  have d1 := HC.out.b1.cell 1
  simp only [List.getElem?_cons_zero, List.getElem?_cons_succ] at d0 d1
  clear hb hW1 K0
  go_wp2_with fail
  go_region_held3 (fun w' => w'.cell? ⟨w.heap.size, 0, none⟩ = some (.int .i64 n) ∧ w'.cell? ⟨w.heap.size, 1, none⟩ = some (.slice oe es.length c)) (first | exact ⟨d0, d1⟩ | exact ⟨cell_next d0 _, cell_next d1 _⟩) (first
    | (go_at_call 69; with_reducible refine (K1.out _).mono ?_; rintro e w5 ⟨g, rfl, hrow, h5⟩; replace HC := hide (HC.out.below h5); have d0 := HC.out.b1.cell 0; have d1 := HC.out.b1.cell 1; simp only [List.getElem?_cons_zero, List.getElem?_cons_succ] at d0 d1; clear h5)
    | (go_at_call 68; with_reducible refine (K2.out _ _ HC.out hrow).mono ?_; rintro e w6 ⟨g2, cap2, rest2, rfl, hcap2, hrow2, h5⟩; replace HC := hide (HC.out.below h5); have d0 := HC.out.b1.cell 0; have d1 := HC.out.b1.cell 1; simp only [List.getElem?_cons_zero, List.getElem?_cons_succ] at d0 d1; clear h5 hrow)
    | (go_at_call 67; with_reducible refine (K3.out _ _ _ _ hrow2 hcap2).mono ?_; rintro e w7 ⟨rfl, rfl⟩))
  all_goals
    go_wp2_with fail
    go_ret2
    exact ⟨_, _, rfl, hcap2, HSS.out _ _ _ hrow2, HC.out.low⟩

end Go.Proofs.Ytopldbnlehjlpaa

set_option linter.unusedVariables false
set_option linter.unusedSimpArgs false
set_option linter.unnecessarySimpa false
namespace Go.Proofs.Ytopldbnlehjlpaa
open Go.RowKit

theorem fire_cases {n : Nat} {es : List Edg} {f : List Nat} {ar : List (List Int)} {q : Nat} {rot d : List Int} {k : Nat} (hc2 : es.length ≤ 1000) (hF : few45 n es ar rot = true) (hG : gvE n es f ar q rot d = 0) (hS : smD d = true) (hk : k < n) (hq : k ≠ q) (hd : degU n es k ≤ d.getD k 0) :
    (∀ x ∈ movedL (oneHot n k) es d, -1048576 ≤ x ∧ x ≤ 1048576) ∧ gvE n es f ar q rot (movedL (oneHot n k) es d) = 0 ∧
    (allRes n es f ar q rot d = ([], [], 12) ∨ ∃ r s, allRes n es f ar q rot d = (r, s, 0) ∧ (allRes n es f ar q rot (movedL (oneHot n k) es d) = ([], [], 12) ∨ ∃ t, allRes n es f ar q rot (movedL (oneHot n k) es d) = (r, t, 0) ∧ s.length = n ∧ t.length = n ∧ s = addL t k (degU n es k))) := by
  obtain ⟨h1, h2, h3⟩ := fire_all hc2 hF hG hS hk hq hd
  refine ⟨h1, h2, ?_⟩
  rcases all_case hG with ⟨m, s, e1, _⟩ | h
  · right
    refine ⟨s.1, s.2.2, e1, ?_⟩
    rcases h3 with (h3 | h3) | ⟨r, s', t, e2, e3, l1, l2, l3⟩
    · rw [e1] at h3; injection h3 with _ h3; injection h3 with _ h3; cases h3
    · exact .inl h3
    · right
      rw [e1] at e2
      injection e2 with a1 a2
      injection a2 with a2 _
      rw [a1, a2]
      exact ⟨t, e3, l1, l2, l3⟩
  · exact .inl h
theorem deg_bound {n : Nat} {es : List Edg} (hV : gErr n es = 0) (h9 : ((endsL es).length : Int) ≤ 9) (v : Nat) : 0 ≤ degU n es v ∧ degU n es v ≤ 18 := by
  rw [deg_half hV, half_len _ (Nat.le_refl _), List.take_length]
  have := sumE_bound v (endsL es)
  omega

set_option maxRecDepth 100000 in
set_option maxHeartbeats 8000000 in
theorem fires_walk (n : Int) (es : List Edg) (oe : Option Addr) (c : Nat) (ar : List (List Int)) (oa : Option Addr) (ca : Nat) (q : Int) (rot : List Int) (ot : Option Addr) (ct : Nat) (d : List Int) (od : Option Addr) (cd : Nat) (pk : List Int) (op : Option Addr) (cp : Nat) (v : Nat) (hv256 : v < 256) (w : World)
    (hs : SliceR edgR 3 All w oe es) (hc : es.length ≤ c) (hc2 : es.length ≤ 9223372036854775807) (ha : SliceR (slcR intR 1) 1 All w oa ar) (hac : ar.length ≤ ca) (hac2 : ar.length ≤ 9223372036854775807) (hr : SliceR intR 1 All w ot rot) (hrc : rot.length ≤ ct) (hrl : rot.length ≤ 9223372036854775807)
    (hd : SliceR intR 1 All w od d) (hdc : d.length ≤ cd) (hdl : d.length ≤ 9223372036854775807) (hp : SliceR intR 1 All w op pk) :
    Calls Try.prog 10 #[.agg #[.int .i64 n, .slice oe es.length c, .slice oa ar.length ca], .agg #[.int .i64 q, .slice ot rot.length ct, .slice od d.length cd, .slice op pk.length cp], .int .u8 v] w fun e w' => e = .returned (.bool true) ∧ Below w.heap.size w w' := by
  have hU : Hid (gErr n es = 0 → Uf (forest es) (eL es)) := forest_ok n es
  have C0 := GamCtx.new (n := n) (c := c) (ca := ca) (q := q) (ct := ct) (cd := cd) (cp := cp) hs ha hr hd hp
  obtain ⟨W1, hW1⟩ : ∃ W1, (w.alloc (.cells #[.int .i64 n, .slice oe es.length c, .slice oa ar.length ca] 27)).alloc (.cells #[.int .i64 q, .slice ot rot.length ct, .slice od d.length cd, .slice op pk.length cp] 54) = W1 := ⟨_, rfl⟩
  rw [hW1] at C0
  have HC := hide C0
  have d0 := HC.out.b1.cell 0
  have d1 := HC.out.b1.cell 1
  have d2 := HC.out.b1.cell 2
  have p0 := HC.out.b2.cell 0
  have p1 := HC.out.b2.cell 1
  have p2 := HC.out.b2.cell 2
  have p3 := HC.out.b2.cell 3
  simp only [List.getElem?_cons_zero, List.getElem?_cons_succ] at d0 d1 d2 p0 p1 p2 p3
  clear hs ha hr hd hp C0
  go_enter Try.func10, Try.ntmps10
  go_wp2_with fail
  clear d0 d1 d2 p0 p1 p2 p3
  refine (small45_any n es oe c ar oa ca q rot ot ct d od cd pk op cp _ HC.out.hes hc hc2 HC.out.har hac hac2 HC.out.hrt hrc hrl HC.out.hdd hdc hdl HC.out.hpk).mono ?_
  rintro e W2 ⟨rfl, hb⟩
  replace HC := hide (HC.out.below hb)
  clear hb hW1
  by_cases hS : smallB n es ar q rot d = true
  · obtain ⟨hF, hG, hD⟩ := smallB_yes hS
    obtain ⟨hc3, _, _⟩ := few45_yes hF
    rw [hS]
    clear hS
    obtain ⟨hR0, hd0⟩ := gvE_zero hG
    obtain ⟨q, rfl, hok⟩ := RtOk.of hR0 (by omega : es.length ≤ 1000)
    obtain ⟨_, hdn, _⟩ := dErr_zero hd0
    have hal := hok.nar
    have hqa := hok.hq
    have h12 := hok.n12
    obtain ⟨N, rfl⟩ : ∃ N : Nat, n = N := ⟨ar.length, by omega⟩
    have hdN : d.length = N := by omega
    have hN12 : N ≤ 12 := by omega
    have hN0 : 0 < N := by omega
    obtain ⟨k, hkv⟩ : ∃ k, k = v % N := ⟨_, rfl⟩
    have hkN : k < N := by rw [hkv]; exact Nat.mod_lt _ hN0
    have hV : Hid (gErr N es = 0) := jErr_zero (chkE_zero (rtE_zero hR0).1).1
    have hm : Hid (∀ x ∈ es, 0 ≤ x.m ∧ x.m ≤ 50) := fun x hx => by have := (gErr_zero hV.out).2.1 x hx; omega
    obtain ⟨hg0, hg18⟩ := deg_bound hV.out (few45_ends hF hV.out).2 k
    have KD : Hid (∀ W, SliceR edgR 3 All W oe es → Calls Try.prog 38 #[.agg #[.int .i64 N, .slice oe es.length c], .int .i64 k] W (ErrPost W (degU N es k))) := fun W h => deg_any N hN12 es oe c All W h hc (by omega) hm k
    have HFC : Hid (k ≠ q → degU N es k ≤ d.getD k 0 → _) := fun h1 h2 => fire_cases (f := forest es) (by omega) hF hG hD hkN h1 h2
    have HD0 := hide hd0
    have HDN := hide hdN
    have hkd : k < d.length := by omega
    have hDLN : Hid ((movedL (oneHot N k) es d).length = d.length) := moved_len _ _ _
    obtain ⟨dg, hdg⟩ : ∃ dg, dg = degU N es k := ⟨_, rfl⟩
    rw [← hdg] at KD HFC hg0 hg18
    have HDG := hide hdg
    have HKV : Hid (((v : Int) % (N : Int)) = (k : Int)) := by show _ = _; rw [hkv]; omega
    clear hF hG hD hR0 hd0 hok hdn hal hdN hkv hdg
    have d0 := HC.out.b1.cell 0
    have d1 := HC.out.b1.cell 1
    have d2 := HC.out.b1.cell 2
    have p0 := HC.out.b2.cell 0
    have p1 := HC.out.b2.cell 1
    have p2 := HC.out.b2.cell 2
    have p3 := HC.out.b2.cell 3
    simp only [List.getElem?_cons_zero, List.getElem?_cons_succ] at d0 d1 d2 p0 p1 p2 p3
    go_wp2_with fail
    clear d0 d1 d2 p0 p1 p2 p3
    rw [HKV.out]
    refine (KD.out _ HC.out.hes).mono ?_
    rintro e W3 ⟨rfl, hb⟩
    replace HC := hide (HC.out.below hb)
    clear hb KD
    by_cases hkq : k = q
    · subst hkq
      have q1 : decide ((k : Int) = (k : Int)) = true := by simp
      clear HFC
      have d0 := HC.out.b1.cell 0
      have d1 := HC.out.b1.cell 1
      have d2 := HC.out.b1.cell 2
      have p0 := HC.out.b2.cell 0
      have p1 := HC.out.b2.cell 1
      have p2 := HC.out.b2.cell 2
      have p3 := HC.out.b2.cell 3
      simp only [List.getElem?_cons_zero, List.getElem?_cons_succ] at d0 d1 d2 p0 p1 p2 p3
      go_wp2_with fail
      clear d0 d1 d2 p0 p1 p2 p3
      refine (awake45_any _).mono ?_
      rintro e W8 ⟨rfl, hb⟩
      replace HC := hide (HC.out.below hb)
      clear hb
      go_wp2_with fail
      go_ret
      exact ⟨rfl, HC.out.low⟩
    · have q1 : ((k : Int) == (q : Int)) = false := by simp; omega
      obtain ⟨x, _, hx, ix, b, off, hod, _, c0⟩ := HC.out.hdd.int_at hkd
      subst hod
      have HX : Hid (d.getD k 0 = x) := getD_of hx
      by_cases hxd : x < dg
      · have q2 : decide (x < dg) = true := by simp [hxd]
        clear HFC hx
        have d0 := HC.out.b1.cell 0
        have d1 := HC.out.b1.cell 1
        have d2 := HC.out.b1.cell 2
        have p0 := HC.out.b2.cell 0
        have p1 := HC.out.b2.cell 1
        have p2 := HC.out.b2.cell 2
        have p3 := HC.out.b2.cell 3
        simp only [List.getElem?_cons_zero, List.getElem?_cons_succ] at d0 d1 d2 p0 p1 p2 p3
        go_wp2_with fail
        clear d0 d1 d2 p0 p1 p2 p3
        clear c0
        refine (awake45_any _).mono ?_
        rintro e W8 ⟨rfl, hb⟩
        replace HC := hide (HC.out.below hb)
        clear hb
        go_wp2_with fail
        go_ret
        exact ⟨rfl, HC.out.low⟩
      · have q2 : decide (x < dg) = false := by simp [hxd]
        have hfc := HFC.out hkq (by rw [HX.out]; omega)
        have HB1 := hide hfc.1
        have HG2 := hide hfc.2.1
        have HCS := hide hfc.2.2
        have HFI := hide (fun W (h1 : SliceR edgR 3 All W oe es) (h2 : SliceR intR 1 All W (some ⟨b, off, none⟩) d) => fire_any N es oe c W h1 hc (by omega) d (some ⟨b, off, none⟩) cd h2 hdc HDN.out hN12 hV HD0 k hkN HB1)
        have KA2 : Hid (∀ (W : World) (g cap : Nat), GamCtx w N es oe c ar oa ca q rot ot ct d (some ⟨b, off, none⟩) cd pk op cp W → SliceR intR 1 All W (some ⟨g, 0, none⟩) (movedL (oneHot N k) es d) → d.length ≤ cap →
            Calls Try.prog 27 #[.agg #[.int .i64 N, .slice oe es.length c, .slice oa ar.length ca], .int .i64 q, .slice ot rot.length ct, .slice (some ⟨g, 0, none⟩) d.length cap] W (MovesPost W.heap.size W (allRes N es (forest es) ar q rot (movedL (oneHot N k) es d)))) := fun W g cap h h2 h3 => by
          have := rotAll_any N es oe c ar oa ca All All W h.hes hc (by omega) h.har hac hac2 (forest es) hU q rot ot ct All h.hrt hrc hrl (movedL (oneHot N k) es d) (some ⟨g, 0, none⟩) cap All h2 (by rw [moved_len]; exact h3) (by rw [moved_len]; exact hdl)
          rw [moved_len] at this
          exact this
        clear hfc HFC hx
        have d0 := HC.out.b1.cell 0
        have d1 := HC.out.b1.cell 1
        have d2 := HC.out.b1.cell 2
        have p0 := HC.out.b2.cell 0
        have p1 := HC.out.b2.cell 1
        have p2 := HC.out.b2.cell 2
        have p3 := HC.out.b2.cell 3
        simp only [List.getElem?_cons_zero, List.getElem?_cons_succ] at d0 d1 d2 p0 p1 p2 p3
        go_wp2_with fail
        clear d0 d1 d2 p0 p1 p2 p3
        clear c0 q1 q2
        refine (HFI.out _ HC.out.hes HC.out.hdd).mono ?_
        rintro e W4 ⟨g, cap, rfl, hcap, hs', hb⟩
        replace HC := hide (HC.out.below hb)
        have HS' := hide hs'
        clear hb hs' HFI
        generalize movedL (oneHot N k) es d = d' at *
        have d0 := HC.out.b1.cell 0
        have d1 := HC.out.b1.cell 1
        have d2 := HC.out.b1.cell 2
        have p0 := HC.out.b2.cell 0
        have p1 := HC.out.b2.cell 1
        have p2 := HC.out.b2.cell 2
        have p3 := HC.out.b2.cell 3
        simp only [List.getElem?_cons_zero, List.getElem?_cons_succ] at d0 d1 d2 p0 p1 p2 p3
        go_wp2_with fail
        clear d0 d1 d2 p0 p1 p2 p3
        refine (rotAll_any N es oe c ar oa ca All All W4 HC.out.hes hc (by omega) HC.out.har hac hac2 (forest es) hU q rot ot ct All HC.out.hrt hrc hrl d _ cd All HC.out.hdd hdc hdl).mono ?_
        rintro e W5 ⟨rv, cv, rfl, ho1, ho2, hb⟩
        replace HC := hide (HC.out.below hb)
        replace HS' := hide (HS'.out.below intR_ok hb)
        have HO1 := hide ho1
        have HO2 := hide ho2
        clear hb ho1 ho2
        have d0 := HC.out.b1.cell 0
        have d1 := HC.out.b1.cell 1
        have d2 := HC.out.b1.cell 2
        have p0 := HC.out.b2.cell 0
        have p1 := HC.out.b2.cell 1
        have p2 := HC.out.b2.cell 2
        have p3 := HC.out.b2.cell 3
        simp only [List.getElem?_cons_zero, List.getElem?_cons_succ] at d0 d1 d2 p0 p1 p2 p3
        go_wp2_with fail
        clear d0 d1 d2 p0 p1 p2 p3
        refine (KA2.out W5 g cap HC.out HS'.out hcap).mono ?_
        rintro e W6 ⟨rv2, cv2, rfl, ho3, ho4, hb⟩
        replace HC := hide (HC.out.below hb)
        replace HO1 : Hid (OwnS intR 1 W4.heap.size 3 Non W6 rv (allRes N es (forest es) ar q rot d).1) := HO1.out.below intR_ok hb
        replace HO2 : Hid (OwnS intR 1 W4.heap.size 3 Non W6 cv (allRes N es (forest es) ar q rot d).2.1) := HO2.out.below intR_ok hb
        have HO3 := hide ho3
        have HO4 := hide ho4
        clear hb ho3 ho4 KA2 HS' HB1 HG2
        have hcs := HCS.out
        clear HCS
        rcases hcs with hA | ⟨r, s, hA, hB | ⟨t, hB, l1, l2, l3⟩⟩
        · rw [hA]
          generalize (allRes N es (forest es) ar q rot d').2.2 = eb at *
          clear hA HO1 HO2 HO3 HO4
          have d0 := HC.out.b1.cell 0
          have d1 := HC.out.b1.cell 1
          have d2 := HC.out.b1.cell 2
          have p0 := HC.out.b2.cell 0
          have p1 := HC.out.b2.cell 1
          have p2 := HC.out.b2.cell 2
          have p3 := HC.out.b2.cell 3
          simp only [List.getElem?_cons_zero, List.getElem?_cons_succ] at d0 d1 d2 p0 p1 p2 p3
          go_wp2_with fail
          clear d0 d1 d2 p0 p1 p2 p3
          refine (awake45_any _).mono ?_
          rintro e W8 ⟨rfl, hb⟩
          replace HC := hide (HC.out.below hb)
          clear hb
          go_wp2_with fail
          go_ret
          exact ⟨rfl, HC.out.low⟩
        · rw [hA, hB]
          clear hA hB HO1 HO2 HO3 HO4
          have d0 := HC.out.b1.cell 0
          have d1 := HC.out.b1.cell 1
          have d2 := HC.out.b1.cell 2
          have p0 := HC.out.b2.cell 0
          have p1 := HC.out.b2.cell 1
          have p2 := HC.out.b2.cell 2
          have p3 := HC.out.b2.cell 3
          simp only [List.getElem?_cons_zero, List.getElem?_cons_succ] at d0 d1 d2 p0 p1 p2 p3
          go_wp2_with fail
          clear d0 d1 d2 p0 p1 p2 p3
          refine (awake45_any _).mono ?_
          rintro e W8 ⟨rfl, hb⟩
          replace HC := hide (HC.out.below hb)
          clear hb
          go_wp2_with fail
          go_ret
          exact ⟨rfl, HC.out.low⟩
        · rw [hA] at HO1 HO2
          rw [hB] at HO3 HO4
          rw [hA, hB]
          simp only at HO1 HO2 HO3 HO4
          have HL1 := hide (OwnS.small HO1.out)
          have HL2 := hide (OwnS.small HO2.out)
          obtain ⟨o1, k1, rfl, hk1, hs1⟩ := OwnS.given HO1.out
          obtain ⟨o2, k2, rfl, hk2, hs2⟩ := OwnS.given HO2.out
          obtain ⟨o3, k3, rfl, hk3, hs3⟩ := OwnS.given HO3.out
          obtain ⟨o4, k4, rfl, hk4, hs4⟩ := OwnS.given HO4.out
          have KE : Hid (∀ W, SliceR intR 1 All W o1 r → SliceR intR 1 All W o3 r → Calls Try.prog 19 #[.slice o1 r.length k1, .slice o3 r.length k3] W fun e w' => e = .returned (.bool true) ∧ Below W.heap.size W w') := fun W h1 h2 => (equalInt_any r r o1 o3 k1 k3 All W h1 h2 hk1 HL1.out).mono fun e w' h => ⟨by rw [h.1]; simp, h.2⟩
          have HS1 := hide hs1
          have HS2 := hide hs2
          have HS3 := hide hs3
          have HS4 := hide hs4
          have HGT : Hid (∀ i : Nat, s.getD i 0 = if k = i ∧ k < t.length then t.getD i 0 + dg else t.getD i 0) := fun i => by rw [l3, addL_get, HDG.out]
          have hsl : s.length ≤ 9223372036854775807 := HL2.out
          have n1 : ((s.length : Int) != (N : Int)) = false := by simp [l1]
          have n2 : ((t.length : Int) != (N : Int)) = false := by simp [l2]
          have HLT : Hid (s.length = t.length) := by show _ = _; rw [l1, l2]
          have HKT : Hid (k < t.length) := by show _ < _; omega
          clear hA hB l1 l2 l3 HO1 HO2 HO3 HO4 hs1 hs2 hs3 hs4 HL1
          have d0 := HC.out.b1.cell 0
          have d1 := HC.out.b1.cell 1
          have d2 := HC.out.b1.cell 2
          have p0 := HC.out.b2.cell 0
          have p1 := HC.out.b2.cell 1
          have p2 := HC.out.b2.cell 2
          have p3 := HC.out.b2.cell 3
          simp only [List.getElem?_cons_zero, List.getElem?_cons_succ] at d0 d1 d2 p0 p1 p2 p3
          go_wp2_with fail
          clear d0 d1 d2 p0 p1 p2 p3
          refine (KE.out W6 HS1.out HS3.out).mono ?_
          rintro e W7 ⟨rfl, hb⟩
          replace HC := hide (HC.out.below hb)
          replace HS2 := hide (HS2.out.below intR_ok hb)
          replace HS4 := hide (HS4.out.below intR_ok hb)
          clear hb KE HS1 HS3
          have d0 := HC.out.b1.cell 0
          have d1 := HC.out.b1.cell 1
          have d2 := HC.out.b1.cell 2
          have p0 := HC.out.b2.cell 0
          have p1 := HC.out.b2.cell 1
          have p2 := HC.out.b2.cell 2
          have p3 := HC.out.b2.cell 3
          simp only [List.getElem?_cons_zero, List.getElem?_cons_succ] at d0 d1 d2 p0 p1 p2 p3
          go_wp2_with fail
          clear d0 d1 d2 p0 p1 p2 p3
          have hlow := hide HC.out.low
          clear HC
          obtain ⟨wo, hwo⟩ : ∃ wo : World, wo = W7 := ⟨_, rfl⟩
          subst hwo
          go_loopw [121] (fun iv wr => ∃ i : Nat, i ≤ s.length ∧ iv = .int .i64 i ∧ wr = wo) (fun iv _ => s.length - (intOf iv).toNat)
          case atStart => exact ⟨0, by omega, rfl, by first | rfl | trivial⟩
          case round =>
            obtain ⟨i, hi, rfl, rfl⟩ := hrel
            clear n1 n2
            by_cases hlt : i < s.length
            · have hlt4 : i < t.length := by have := HLT.out; omega
              obtain ⟨si, _, hsi, is1, b2, of2, ho2, _, c2⟩ := HS2.out.int_at hlt
              obtain ⟨ti, _, hti, it1, b4, of4, ho4, _, c4⟩ := HS4.out.int_at hlt4
              subst ho2 ho4
              have hg := HGT.out i
              rw [getD_of hsi, getD_of hti] at hg
              by_cases hik : i = k
              · have q1 : ((i : Int) == (k : Int)) = true := by simp [hik]
                rw [if_pos ⟨hik.symm, HKT.out⟩] at hg
                subst hg
                unfold I64 at is1
                clear hsi hti hik
                go_wp2_with fail
                go_roundw
                case rel => exact ⟨i + 1, by omega, by go_num, by first | rfl | trivial⟩
                case measure => simp [intOf]; omega
              · have q1 : ((i : Int) == (k : Int)) = false := by simp; omega
                rw [if_neg (by intro h; exact hik h.1.symm)] at hg
                subst hg
                clear hsi hti hik
                go_wp2_with fail
                go_roundw
                case rel => exact ⟨i + 1, by omega, by go_num, by first | rfl | trivial⟩
                case measure => simp [intOf]; omega
            · have hie : i = s.length := by omega
              clear HGT HLT
              go_wp2_with fail
              refine (awake45_any _).mono ?_
              rintro e W8 ⟨rfl, hb⟩
              have hlow2 := hide (hlow.out.trans (hb.mono hlow.out.size))
              clear hb
              go_wp2_with fail
              go_ret
              exact ⟨rfl, hlow2.out⟩
  · have hS2 : smallB n es ar q rot d = false := by simpa using hS
    rw [hS2]
    clear hS hS2
    go_wp2_with fail
    refine (awake45_any _).mono ?_
    rintro e W3 ⟨rfl, hb⟩
    replace HC := hide (HC.out.below hb)
    clear hb
    go_wp2_with fail
    go_ret
    exact ⟨rfl, HC.out.low⟩

theorem fires_claim (w : World) (n : Int) (es : List Edg) (oe : Option Addr) (c : Nat) (ar : List (List Int)) (oa : Option Addr) (ca : Nat) (hc : es.length ≤ c) (hc2 : es.length ≤ 9223372036854775807) (hs : SliceR edgR 3 All w oe es) (hac : ar.length ≤ ca) (hac2 : ar.length ≤ 9223372036854775807) (ha : SliceR (slcR intR 1) 1 All w oa ar)
    (q : Int) (rot : List Int) (ot : Option Addr) (ct : Nat) (d : List Int) (od : Option Addr) (cd : Nat) (pk : List Int) (op : Option Addr) (cp : Nat) (hrc : rot.length ≤ ct) (hrl : rot.length ≤ 9223372036854775807) (hr : SliceR intR 1 All w ot rot)
    (hdc : d.length ≤ cd) (hdl : d.length ≤ 9223372036854775807) (hd : SliceR intR 1 All w od d) (hpc : pk.length ≤ cp) (hpl : pk.length ≤ 9223372036854775807) (hp : SliceR intR 1 All w op pk) (v : Nat) (hv : v < 256) :
    Calls Try.prog 10 #[.agg #[.int .i64 n, .slice oe es.length c, .slice oa ar.length ca], .agg #[.int .i64 q, .slice ot rot.length ct, .slice od d.length cd, .slice op pk.length cp], .int .u8 v] w fun e w' => e = .returned (.bool true) ∧ Below w.heap.size w w' :=
  fires_walk n es oe c ar oa ca q rot ot ct d od cd pk op cp v hv w hs hc hc2 ha hac hac2 hr hrc hrl hd hdc hdl hp

end Go.Proofs.Ytopldbnlehjlpaa

set_option linter.unusedVariables false
namespace Go.Proofs.Ytopldbnlehjlpaa
open Go.RowKit Go.ChangeShapes Go.WideShapes Go.ChangeAt Go.Deep

set_option maxRecDepth 100000 in
theorem rotorFires_lifted (os : Os) (started : os.Started) (H : Type) (enc : TypeId × Value → H) :
    ReturnsInHanded {} Try.checked os 10 .any (Rows.rotorFiresSpec.pre6 enc Try.prog Try.f10 Rows.rotorFiresRow.domain false) (Rows.rotorFiresSpec.post enc Try.prog Try.f10 false true false false) := by
  refine returnsInHanded_of_change (C := Try.checked) own_knob started (by kernel_rfl) Try.func10
    (ChangeSpec.witness6 (enc := enc) (C := Try.checked) false ⟨#[], #[.agg #[.int .i64 0, .slice none 0 0, .slice none 0 0], .agg #[.int .i64 0, .slice none 0 0, .slice none 0 0, .slice none 0 0], .int .u8 0], []⟩ 8 (by kernel_rfl) (by kernel_rfl) (by kernel_rfl) (by kernel_rfl)) ?_
  intro W base args ds gs before hval0 hW _ _
  have hval : ∀ (j : Nat) t v, Try.f10.params[j]? = some t → args[j]? = some v → Value.okWide Try.prog W .any base t v := hval0
  have hW' := hW
  obtain ⟨p, q, hA0, hV, rfl, _, _⟩ := hW
  have hA : DataW.TrodAll enc Try.prog W 0 (fun _ => true) true Try.f10.params.toList args.toList ds p := hA0
  rw [Try.params10] at hA hval
  obtain ⟨v0, v1, v2, d0, d1, d2, p0, p1, p2, rfl, rfl, rfl, h0, h1, h2⟩ := trodAll_three hA
  obtain ⟨rfl, rfl⟩ := trodVars_none hV
  have h0k := h0
  have h1k := h1
  have h2k := h2
  obtain ⟨n0, es0, oe0, c0, ar0, oa0, ca0, rfl, hc0, hl0, he0, hac0, hal0, ha0⟩ := open_rib (hval 0 27 v0 rfl rfl) h0
  obtain ⟨q1, rot1, ot1, ct1, d1x, od1, cd1, pk1, op1, cp1, rfl, hrc1, hrl1, hr1, hdc1, hdl1, hd1, hpc1, hpl1, hp1⟩ := open_game (hval 1 54 v1 rfl rfl) h1
  obtain ⟨n2, rfl, in2⟩ := open_u8 (hval 2 5 v2 rfl rfl) h2
  clear hA0 hval0
  simp only [List.append_nil] at hW'
  have hlt0 : ∀ y ∈ p0, y.block < W.heap.size := fun y hy => by simpa using hW'.lt y (by simp [hy])
  have hlt1 : ∀ y ∈ p1, y.block < W.heap.size := fun y hy => by simpa using hW'.lt y (by simp [hy])
  have hlt2 : ∀ y ∈ p2, y.block < W.heap.size := fun y hy => by simpa using hW'.lt y (by simp [hy])
  refine (fires_claim W n0 es0 oe0 c0 ar0 oa0 ca0 hc0 hl0 he0 hac0 hal0 ha0 q1 rot1 ot1 ct1 d1x od1 cd1 pk1 op1 cp1 hrc1 hrl1 hr1 hdc1 hdl1 hd1 hpc1 hpl1 hp1 n2 in2).mono fun e W' ⟨he, hn⟩ => ?_
  subst he
  exact ⟨_, rfl, _, _, _, [], _, [], hW', trodAll_mk1 (shut_bool Try.underlying4 true), trodAll_mk3 (Below.trod laid_out (by kernel_rfl) (of_decide_eq_true (by kernel_rfl)) h0k hn hlt0) (Below.trod laid_out (by kernel_rfl) (of_decide_eq_true (by kernel_rfl)) h1k hn hlt1) (Below.trod laid_out (by kernel_rfl) (of_decide_eq_true (by kernel_rfl)) h2k hn hlt2), rfl, hn.frame _, fun h => by cases h⟩

theorem rotorFires_holds : Rows.RotorFiresSaid :=
  OpenClaim.holds_of_wide 10 Try.f10 rfl rfl rfl rfl rfl rfl rfl ⟨rfl, rfl, rfl, rfl, rfl⟩ rfl rfl rfl rfl rfl (by kernel_rfl) Try.func10 (by kernel_rfl)
    (of_decide_eq_true (by kernel_rfl)) (by unfold Func.isWrapper; first | (rw [if_pos (by decide +kernel)]; kernel_rfl) | (rw [if_neg (by decide +kernel)]; exact ⟨rfl, rfl⟩))
    (fun os started H enc _ => rotorFires_lifted os started H enc)

#print axioms rotorFires_holds
end Go.Proofs.Ytopldbnlehjlpaa

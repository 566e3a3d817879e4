/-
  The walk of RotorSteps.
  ref45.Singles, Edges, Leads, Acyclic.
  The walk of RotorRoutes.
  The order in which chips are moved does not matter: plain law.
  Chips one by one, and all at once: plain law.
  What RotorAdds leans on: plain law.
  Firing a vertex, and turning its rotor once round: plain law.
  A chip on a small connected ribbon graph comes to the sink: plain law.
  A vertex fires: the steps of its rotor once round (plain law).
  ref17.In, ref17.Check, ref45.chips, ref45.Given; ref17.Few, ref17.Small, ref45.FewChips.
  A game in memory; ref17.Few, ref17.Small; sandpilelaw45.small.
  A vertex fires: what the program's script moves, and what All answers (plain law).
  How often a chip leaves each vertex, and so how soon it comes to the sink: plain law.
  What a way leaves behind: the last exits, acyclic rotors, steps along edges: plain law.
-/
import Derived.Test.YtopldbnlehjlpaaTr4
import Derived.Deep.RegionHeld3
import Derived.Deep.RegionLaw
import Derived.BigQuiet

set_option linter.unusedVariables false
set_option linter.unusedSimpArgs false
set_option linter.unnecessarySimpa false
namespace Go.Proofs.Ytopldbnlehjlpaa
open Go.RowKit

/-- What the laws' functions lean on between their calls. -/
structure LawCtx (w : World) (n : Int) (es : List Edg) (oe : Option Addr) (c : Nat) (ar : List (List Int)) (oa : Option Addr) (ca : Nat) (q : Int) (rot : List Int) (ot : Option Addr) (ct : Nat) (v : Int) (W : World) : Prop where
  hes : SliceR edgR 3 All W oe es
  har : SliceR (slcR intR 1) 1 All W oa ar
  hrt : SliceR intR 1 All W ot rot
  b1 : Box W w.heap.size [.int .i64 n, .slice oe es.length c, .slice oa ar.length ca] 27
  b2 : Box W (w.heap.size + 1) [.int .i64 q, .slice ot rot.length ct, .int .i64 v] 30
  low : Below w.heap.size w W
theorem LawCtx.below {w : World} {n : Int} {es : List Edg} {oe : Option Addr} {c : Nat} {ar : List (List Int)} {oa : Option Addr} {ca : Nat} {q : Int} {rot : List Int} {ot : Option Addr} {ct : Nat} {v : Int} {W W' : World}
    (h : LawCtx w n es oe c ar oa ca q rot ot ct v W) (hb : Below W.heap.size W W') : LawCtx w n es oe c ar oa ca q rot ot ct v W' :=
  ⟨h.hes.below edgR_ok hb, h.har.below (slcR_ok intR_ok (by decide)) hb, h.hrt.below intR_ok hb, h.b1.below hb, h.b2.below hb, h.low.trans (hb.mono h.low.size)⟩
theorem LawCtx.new {w : World} {n : Int} {es : List Edg} {oe : Option Addr} {c : Nat} {ar : List (List Int)} {oa : Option Addr} {ca : Nat} {q : Int} {rot : List Int} {ot : Option Addr} {ct : Nat} {v : Int}
    (h1 : SliceR edgR 3 All w oe es) (h2 : SliceR (slcR intR 1) 1 All w oa ar) (h3 : SliceR intR 1 All w ot rot) :
    LawCtx w n es oe c ar oa ca q rot ot ct v ((w.alloc (.cells #[.int .i64 n, .slice oe es.length c, .slice oa ar.length ca] 27)).alloc (.cells #[.int .i64 q, .slice ot rot.length ct, .int .i64 v] 30)) := by
  have hb := bnew (bnew (Below.refl w.heap.size w) (.cells #[.int .i64 n, .slice oe es.length c, .slice oa ar.length ca] 27)) (.cells #[.int .i64 q, .slice ot rot.length ct, .int .i64 v] 30)
  refine ⟨h1.below edgR_ok hb, h2.below (slcR_ok intR_ok (by decide)) hb, h3.below intR_ok hb, (Box.new w [.int .i64 n, .slice oe es.length c, .slice oa ar.length ca] 27).next _, ?_, hb⟩
  have := Box.new (w.alloc (.cells #[.int .i64 n, .slice oe es.length c, .slice oa ar.length ca] 27)) [.int .i64 q, .slice ot rot.length ct, .int .i64 v] 30
  simpa using this

theorem OwnS.small {B : Nat} {W : World} {rv : Value} {l : List Int} (h : OwnS intR 1 B 3 Non W rv l) : l.length ≤ 9223372036854775807 := by
  obtain ⟨cells, ho, _⟩ := h
  rcases ho.2 with ⟨_, hn⟩ | ⟨g, cap, cur, _, _, _, hle, hcm, _, _⟩
  · omega
  · unfold maxLen at hcm
    omega
set_option maxRecDepth 100000 in
set_option maxHeartbeats 8000000 in
theorem steps_walk (n : Int) (es : List Edg) (oe : Option Addr) (c : Nat) (ar : List (List Int)) (oa : Option Addr) (ca : Nat) (q : Int) (rot : List Int) (ot : Option Addr) (ct : Nat) (v : Int) (w : World)
    (hs : SliceR edgR 3 All w oe es) (hc : es.length ≤ c) (hc2 : es.length ≤ 9223372036854775807) (ha : SliceR (slcR intR 1) 1 All w oa ar) (hac : ar.length ≤ ca) (hac2 : ar.length ≤ 9223372036854775807) (hr : SliceR intR 1 All w ot rot) (hrc : rot.length ≤ ct) (hrl : rot.length ≤ 9223372036854775807) :
    Calls Try.prog 3 #[.agg #[.int .i64 n, .slice oe es.length c, .slice oa ar.length ca], .agg #[.int .i64 q, .slice ot rot.length ct, .int .i64 v]] w fun e w' => e = .returned (.bool true) ∧ Below w.heap.size w w' := by
  have hU : Hid (gErr n es = 0 → Uf (forest es) (eL es)) := forest_ok n es
  have C0 := LawCtx.new (n := n) (c := c) (ca := ca) (q := q) (ct := ct) (v := v) hs ha hr
  obtain ⟨W1, hW1⟩ : ∃ W1, (w.alloc (.cells #[.int .i64 n, .slice oe es.length c, .slice oa ar.length ca] 27)).alloc (.cells #[.int .i64 q, .slice ot rot.length ct, .int .i64 v] 30) = W1 := ⟨_, rfl⟩
  rw [hW1] at C0
  have HC := hide C0
  have d0 := HC.out.b1.cell 0
  have d1 := HC.out.b1.cell 1
  have d2 := HC.out.b1.cell 2
  have p0 := HC.out.b2.cell 0
  have p1 := HC.out.b2.cell 1
  have p2 := HC.out.b2.cell 2
  simp only [List.getElem?_cons_zero, List.getElem?_cons_succ] at d0 d1 d2 p0 p1 p2
  clear hs ha hr C0
  go_enter Try.func3, Try.ntmps3
  go_wp2_with fail
  refine (few45_any n es oe c ar oa ca All All _ HC.out.hes hc hc2 HC.out.har hac hac2 rot ot ct).mono ?_
  rintro e W2 ⟨rfl, hb⟩
  replace HC := hide (HC.out.below hb)
  clear hb d0 d1 d2 p0 p1 p2 hW1
  by_cases hF : few45 n es ar rot = true
  · obtain ⟨hc3, _, _⟩ := few45_yes hF
    rw [hF]
    clear hF
    have d0 := HC.out.b1.cell 0
    have d1 := HC.out.b1.cell 1
    have d2 := HC.out.b1.cell 2
    have p0 := HC.out.b2.cell 0
    have p1 := HC.out.b2.cell 1
    have p2 := HC.out.b2.cell 2
    simp only [List.getElem?_cons_zero, List.getElem?_cons_succ] at d0 d1 d2 p0 p1 p2
    go_wp2_with fail
    clear d0 d1 d2 p0 p1 p2
    refine (rotStep_any n es oe c ar oa ca All All _ HC.out.hes hc (by omega) HC.out.har hac hac2 (forest es) hU q rot ot ct All HC.out.hrt hrc hrl v).mono ?_
    rintro e W3 ⟨rv, rfl, ho, hb⟩
    have hl3 := hide (OwnS.small ho)
    obtain ⟨oa3, c3, rfl, hc3', hs3⟩ := OwnS.given ho
    replace HC := hide (HC.out.below hb)
    have s3 := hide hs3
    clear ho hb hs3
    have d0 := HC.out.b1.cell 0
    have d1 := HC.out.b1.cell 1
    have d2 := HC.out.b1.cell 2
    have p0 := HC.out.b2.cell 0
    have p1 := HC.out.b2.cell 1
    have p2 := HC.out.b2.cell 2
    simp only [List.getElem?_cons_zero, List.getElem?_cons_succ] at d0 d1 d2 p0 p1 p2
    go_wp2_with fail
    clear d0 d1 d2 p0 p1 p2
    refine (refStep_any n es oe c ar oa ca All All _ HC.out.hes hc (by omega) HC.out.har hac hac2 (forest es) hU q rot ot ct All HC.out.hrt hrc hrl v).mono ?_
    rintro e W4 ⟨rv, rfl, ho, hb⟩
    obtain ⟨oa4, c4, rfl, hc4', hs4⟩ := OwnS.given ho
    replace HC := hide (HC.out.below hb)
    replace s3 := hide (s3.out.below intR_ok hb)
    have s4 := hide hs4
    clear ho hb hs4
    have d0 := HC.out.b1.cell 0
    have d1 := HC.out.b1.cell 1
    have d2 := HC.out.b1.cell 2
    have p0 := HC.out.b2.cell 0
    have p1 := HC.out.b2.cell 1
    have p2 := HC.out.b2.cell 2
    simp only [List.getElem?_cons_zero, List.getElem?_cons_succ] at d0 d1 d2 p0 p1 p2
    go_wp2_with fail
    clear d0 d1 d2 p0 p1 p2
    refine (rotWalk_any n es oe c ar oa ca All All _ HC.out.hes hc (by omega) HC.out.har hac hac2 (forest es) hU q rot ot ct All HC.out.hrt hrc hrl v).mono ?_
    rintro e W5 ⟨rv, rfl, ho, hb⟩
    have hl5 := hide (OwnS.small ho)
    obtain ⟨oa5, c5, rfl, hc5', hs5⟩ := OwnS.given ho
    replace HC := hide (HC.out.below hb)
    replace s3 := hide (s3.out.below intR_ok hb)
    replace s4 := hide (s4.out.below intR_ok hb)
    have s5 := hide hs5
    clear ho hb hs5
    have d0 := HC.out.b1.cell 0
    have d1 := HC.out.b1.cell 1
    have d2 := HC.out.b1.cell 2
    have p0 := HC.out.b2.cell 0
    have p1 := HC.out.b2.cell 1
    have p2 := HC.out.b2.cell 2
    simp only [List.getElem?_cons_zero, List.getElem?_cons_succ] at d0 d1 d2 p0 p1 p2
    go_wp2_with fail
    clear d0 d1 d2 p0 p1 p2
    refine (refWalk_any n es oe c ar oa ca All All _ HC.out.hes hc (by omega) HC.out.har hac hac2 (forest es) hU q rot ot ct All HC.out.hrt hrc hrl v).mono ?_
    rintro e W6 ⟨rv, rfl, ho, hb⟩
    obtain ⟨oa6, c6, rfl, hc6', hs6⟩ := OwnS.given ho
    replace HC := hide (HC.out.below hb)
    replace s3 := hide (s3.out.below intR_ok hb)
    replace s4 := hide (s4.out.below intR_ok hb)
    replace s5 := hide (s5.out.below intR_ok hb)
    have s6 := hide hs6
    clear ho hb hs6
    have d0 := HC.out.b1.cell 0
    have d1 := HC.out.b1.cell 1
    have d2 := HC.out.b1.cell 2
    have p0 := HC.out.b2.cell 0
    have p1 := HC.out.b2.cell 1
    have p2 := HC.out.b2.cell 2
    simp only [List.getElem?_cons_zero, List.getElem?_cons_succ] at d0 d1 d2 p0 p1 p2
    go_wp2_with fail
    replace HC := hide (show LawCtx w n es oe c ar oa ca q rot ot ct v W6.drew from ⟨HC.out.hes.keep edgR_ok (fun _ _ _ => rfl), HC.out.har.keep (slcR_ok intR_ok (by decide)) (fun _ _ _ => rfl), HC.out.hrt.keep intR_ok (fun _ _ _ => rfl), HC.out.b1, HC.out.b2, HC.out.low.drew⟩)
    replace s3 := hide (s3.out.keep (w' := W6.drew) intR_ok (fun _ _ _ => rfl))
    replace s4 := hide (s4.out.keep (w' := W6.drew) intR_ok (fun _ _ _ => rfl))
    replace s5 := hide (s5.out.keep (w' := W6.drew) intR_ok (fun _ _ _ => rfl))
    replace s6 := hide (s6.out.keep (w' := W6.drew) intR_ok (fun _ _ _ => rfl))
    replace hl3 : (stepRes n es (forest es) ar q rot v).1.length ≤ 9223372036854775807 := hl3.out
    replace hl5 : (walkRes n es (forest es) ar q rot v).1.length ≤ 9223372036854775807 := hl5.out
    have K17 : ∀ W : World, LawCtx w n es oe c ar oa ca q rot ot ct v W → Calls Try.prog 17 #[.agg #[.int .i64 n, .slice oe es.length c, .slice oa ar.length ca], .int .i64 q, .slice ot rot.length ct] W (ErrPost W (rtE n es (forest es) ar q rot)) := fun W h => rotcheck_any n es oe c ar oa ca All All W h.hes hc (by omega) h.har hac hac2 (forest es) hU q rot ot ct All h.hrt hrc hrl
    have K18 : ∀ W : World, LawCtx w n es oe c ar oa ca q rot ot ct v W → Calls Try.prog 18 #[.agg #[.int .i64 n, .slice oe es.length c, .slice oa ar.length ca], .int .i64 q, .slice ot rot.length ct] W (ErrPost W (rtE n es (forest es) ar q rot)) := fun W h => r45check_any n es oe c ar oa ca All All W h.hes hc (by omega) h.har hac hac2 (forest es) hU q rot ot ct All h.hrt hrc hrl
    replace K17 := hide K17
    replace K18 := hide K18
    generalize rtE n es (forest es) ar q rot = E at *
    generalize (stepRes n es (forest es) ar q rot v).2.1 = r1 at *
    generalize (stepRes n es (forest es) ar q rot v).2.2 = r2 at *
    generalize (stepRes n es (forest es) ar q rot v).1 = l3 at *
    generalize (walkRes n es (forest es) ar q rot v).2 = r3 at *
    generalize (walkRes n es (forest es) ar q rot v).1 = l5 at *
    have K19a : Hid (∀ W : World, SliceR intR 1 All W oa3 l3 → SliceR intR 1 All W oa4 l3 → Calls Try.prog 19 #[.slice oa3 l3.length c3, .slice oa4 l3.length c4] W fun e w' => e = .returned (.bool true) ∧ Below W.heap.size W w') := fun W h1 h2 => (equalInt_any l3 l3 oa3 oa4 c3 c4 All W h1 h2 hc3' hl3).mono fun e w' h => ⟨by rw [h.1]; simp, h.2⟩
    have K19b : Hid (∀ W : World, SliceR intR 1 All W oa5 l5 → SliceR intR 1 All W oa6 l5 → Calls Try.prog 19 #[.slice oa5 l5.length c5, .slice oa6 l5.length c6] W fun e w' => e = .returned (.bool true) ∧ Below W.heap.size W w') := fun W h1 h2 => (equalInt_any l5 l5 oa5 oa6 c5 c6 All W h1 h2 hc5' hl5).mono fun e w' h => ⟨by rw [h.1]; simp, h.2⟩
    clear p2 hU hc hc2 hc3 hac hac2 hrc hrl
    obtain ⟨RR, hRR⟩ : ∃ RR, Value.agg #[.int .i64 n, .slice oe es.length c, .slice oa ar.length ca] = RR := ⟨_, rfl⟩
    obtain ⟨T1, hT1⟩ : ∃ T, Value.tuple #[.slice oa3 l3.length c3, .int .i64 r1, .int .i64 r2] = T := ⟨_, rfl⟩
    obtain ⟨T2, hT2⟩ : ∃ T, Value.tuple #[.slice oa4 l3.length c4, .int .i64 r1, .int .i64 r2] = T := ⟨_, rfl⟩
    obtain ⟨T3, hT3⟩ : ∃ T, Value.tuple #[.slice oa5 l5.length c5, .int .i64 r3] = T := ⟨_, rfl⟩
    obtain ⟨T4, hT4⟩ : ∃ T, Value.tuple #[.slice oa6 l5.length c6, .int .i64 r3] = T := ⟨_, rfl⟩
    rw [hRR, hT1, hT2, hT3, hT4]
    rw [hRR] at K17 K18
    clear hT1 hT2 hT3 hT4 hc3' hc4' hc5' hc6' hl3 hl5
    go_region_held3 (fun w' => w'.cell? ⟨w.heap.size, 0, none⟩ = some (.int .i64 n) ∧ w'.cell? ⟨w.heap.size, 1, none⟩ = some (.slice oe es.length c) ∧ w'.cell? ⟨w.heap.size, 2, none⟩ = some (.slice oa ar.length ca) ∧ w'.cell? ⟨w.heap.size + 1, 0, none⟩ = some (.int .i64 q) ∧ w'.cell? ⟨w.heap.size + 1, 1, none⟩ = some (.slice ot rot.length ct)) (first | exact ⟨d0, d1, d2, p0, p1⟩) (first
      | (go_at_call 12; refine (awake45_any _).mono ?_; rintro e w5 ⟨rfl, h5⟩; replace d0 := (h5.cell (World.block_lt_of_cell? _ _ d0)).trans d0; replace d1 := (h5.cell (World.block_lt_of_cell? _ _ d1)).trans d1; replace d2 := (h5.cell (World.block_lt_of_cell? _ _ d2)).trans d2; replace p0 := (h5.cell (World.block_lt_of_cell? _ _ p0)).trans p0; replace p1 := (h5.cell (World.block_lt_of_cell? _ _ p1)).trans p1; replace HC := hide (HC.out.below h5); replace s3 := hide (s3.out.below intR_ok h5); replace s4 := hide (s4.out.below intR_ok h5); replace s5 := hide (s5.out.below intR_ok h5); replace s6 := hide (s6.out.below intR_ok h5); clear h5)
      | (go_at_call 17; refine (K17.out _ HC.out).mono ?_; rintro e w5 ⟨rfl, h5⟩; replace d0 := (h5.cell (World.block_lt_of_cell? _ _ d0)).trans d0; replace d1 := (h5.cell (World.block_lt_of_cell? _ _ d1)).trans d1; replace d2 := (h5.cell (World.block_lt_of_cell? _ _ d2)).trans d2; replace p0 := (h5.cell (World.block_lt_of_cell? _ _ p0)).trans p0; replace p1 := (h5.cell (World.block_lt_of_cell? _ _ p1)).trans p1; replace HC := hide (HC.out.below h5); replace s3 := hide (s3.out.below intR_ok h5); replace s4 := hide (s4.out.below intR_ok h5); replace s5 := hide (s5.out.below intR_ok h5); replace s6 := hide (s6.out.below intR_ok h5); clear h5)
      | (go_at_call 18; refine (K18.out _ HC.out).mono ?_; rintro e w5 ⟨rfl, h5⟩; replace d0 := (h5.cell (World.block_lt_of_cell? _ _ d0)).trans d0; replace d1 := (h5.cell (World.block_lt_of_cell? _ _ d1)).trans d1; replace d2 := (h5.cell (World.block_lt_of_cell? _ _ d2)).trans d2; replace p0 := (h5.cell (World.block_lt_of_cell? _ _ p0)).trans p0; replace p1 := (h5.cell (World.block_lt_of_cell? _ _ p1)).trans p1; replace HC := hide (HC.out.below h5); replace s3 := hide (s3.out.below intR_ok h5); replace s4 := hide (s4.out.below intR_ok h5); replace s5 := hide (s5.out.below intR_ok h5); replace s6 := hide (s6.out.below intR_ok h5); clear h5)
      | (go_at_call 19; with_reducible refine (K19a.out _ s3.out s4.out).mono ?_; rintro e w5 ⟨rfl, h5⟩; replace d0 := (h5.cell (World.block_lt_of_cell? _ _ d0)).trans d0; replace d1 := (h5.cell (World.block_lt_of_cell? _ _ d1)).trans d1; replace d2 := (h5.cell (World.block_lt_of_cell? _ _ d2)).trans d2; replace p0 := (h5.cell (World.block_lt_of_cell? _ _ p0)).trans p0; replace p1 := (h5.cell (World.block_lt_of_cell? _ _ p1)).trans p1; replace HC := hide (HC.out.below h5); replace s3 := hide (s3.out.below intR_ok h5); replace s4 := hide (s4.out.below intR_ok h5); replace s5 := hide (s5.out.below intR_ok h5); replace s6 := hide (s6.out.below intR_ok h5); clear h5)
      | (go_at_call 19; with_reducible refine (K19b.out _ s5.out s6.out).mono ?_; rintro e w5 ⟨rfl, h5⟩; replace d0 := (h5.cell (World.block_lt_of_cell? _ _ d0)).trans d0; replace d1 := (h5.cell (World.block_lt_of_cell? _ _ d1)).trans d1; replace d2 := (h5.cell (World.block_lt_of_cell? _ _ d2)).trans d2; replace p0 := (h5.cell (World.block_lt_of_cell? _ _ p0)).trans p0; replace p1 := (h5.cell (World.block_lt_of_cell? _ _ p1)).trans p1; replace HC := hide (HC.out.below h5); replace s3 := hide (s3.out.below intR_ok h5); replace s4 := hide (s4.out.below intR_ok h5); replace s5 := hide (s5.out.below intR_ok h5); replace s6 := hide (s6.out.below intR_ok h5); clear h5))
    all_goals
      go_wp2_with fail
      go_ret
      exact ⟨rfl, HC.out.low⟩
  · have hF2 : few45 n es ar rot = false := by simpa using hF
    rw [hF2]
    clear hF hF2
    have d0 := HC.out.b1.cell 0
    have d1 := HC.out.b1.cell 1
    have d2 := HC.out.b1.cell 2
    have p0 := HC.out.b2.cell 0
    have p1 := HC.out.b2.cell 1
    have p2 := HC.out.b2.cell 2
    simp only [List.getElem?_cons_zero, List.getElem?_cons_succ] at d0 d1 d2 p0 p1 p2
    go_wp2_with fail
    refine (awake45_any _).mono ?_
    rintro e W3 ⟨rfl, hb⟩
    replace HC := hide (HC.out.below hb)
    clear hb d0 d1 d2 p0 p1 p2
    go_wp2_with fail
    go_ret
    exact ⟨rfl, HC.out.low⟩

theorem steps_claim (w : World) (n : Int) (es : List Edg) (oe : Option Addr) (c : Nat) (ar : List (List Int)) (oa : Option Addr) (ca : Nat) (hc : es.length ≤ c) (hc2 : es.length ≤ 9223372036854775807) (hs : SliceR edgR 3 All w oe es) (hac : ar.length ≤ ca) (hac2 : ar.length ≤ 9223372036854775807) (ha : SliceR (slcR intR 1) 1 All w oa ar)
    (q : Int) (rot : List Int) (ot : Option Addr) (ct : Nat) (v : Int) (hrc : rot.length ≤ ct) (hrl : rot.length ≤ 9223372036854775807) (hr : SliceR intR 1 All w ot rot) :
    Calls Try.prog 3 #[.agg #[.int .i64 n, .slice oe es.length c, .slice oa ar.length ca], .agg #[.int .i64 q, .slice ot rot.length ct, .int .i64 v]] w fun e w' => e = .returned (.bool true) ∧ Below w.heap.size w w' :=
  steps_walk n es oe c ar oa ca q rot ot ct v w hs hc hc2 ha hac hac2 hr hrc hrl

end Go.Proofs.Ytopldbnlehjlpaa

set_option linter.unusedVariables false
set_option linter.unusedSimpArgs false
set_option linter.unnecessarySimpa false
namespace Go.Proofs.Ytopldbnlehjlpaa
open Go.RowKit

set_option maxRecDepth 100000 in
set_option maxHeartbeats 4000000 in
theorem refSingles_any (n : Int) (es : List Edg) (oe : Option Addr) (c : Nat) (ar : List (List Int)) (oa : Option Addr) (ca : Nat) (F G : Foot) (w : World)
    (ha : SliceR (slcR intR 1) 1 G w oa ar) (hac : ar.length ≤ ca) (hac2 : ar.length ≤ 9223372036854775807) (q : Nat) (rot : List Int) (ot : Option Addr) (ct : Nat) (H : Foot) (hr : SliceR intR 1 H w ot rot) (hrc : rot.length ≤ ct) (hok : RtOk n es ar q rot) :
    Calls Try.prog 50 #[.agg #[.int .i64 n, .slice oe es.length c, .slice oa ar.length ca], .int .i64 q, .slice ot rot.length ct] w fun e w' => ∃ rv, e = .returned rv ∧ OwnS intR 1 w.heap.size 3 Non w' rv (edL ar q rot rot.length) ∧ Below w.heap.size w w' := by
  have HOK := hide hok
  have hrl12 : rot.length ≤ 12 := by rw [hok.nrot]; exact hok.n12
  have hra := hide hok.nrot
  clear hok
  go_enter Try.func50, Try.ntmps50
  go_wp2_with fail
  go_loopw [8, 7] (fun iv ov wr => ∃ k : Nat, k ≤ rot.length ∧ iv = .int .i64 k ∧ OwnS intR 1 (w.heap.size + 1) 3 Non wr ov (edL ar q rot k) ∧ Below (w.heap.size + 1) (w.alloc (.cells #[.int .i64 n, .slice oe es.length c, .slice oa ar.length ca] 27)) wr) (fun iv _ _ => rot.length - (intOf iv).toNat)
  case atStart => exact ⟨0, by omega, rfl, OwnS.nil _ _ _ _ _ _, box_refl _ _⟩
  case round =>
    obtain ⟨k, hk, rfl, hown, hbW⟩ := hrel
    by_cases hlt : k < rot.length
    · have hkar : k < ar.length := by rw [← hra.out]; exact hlt
      by_cases hkq : k = q
      · have HE : Hid (edL ar q rot (k + 1) = edL ar q rot k) := by show _ = _; rw [hkq]; exact edL_skip
        have q1 : ((k : Int) != (q : Int)) = false := by simp [hkq]
        have HKQ := hide hkq
        clear hkq
        go_wp2_with fail
        go_roundw
        case rel => exact ⟨k + 1, by omega, by go_num, by rw [HE.out]; exact hown, hbW⟩
        case measure => simp [intOf]; omega
      · obtain ⟨l, K, g, hl, hK, hKl, hll, hg, hgE⟩ := HOK.out.at hkar hkq
        obtain ⟨x, _, hx, b, off, ol, cl, hoa, hbB, c0, hxl, _, hsl⟩ := (ha.below (slcR_ok intR_ok (by decide)) (below_box hbW)).slc_at hkar
        rw [hl] at hx
        injection hx with hx
        subst hx
        subst hoa
        obtain ⟨y, _, hy, iy, b2, off2, hol, hb2, e0⟩ := hsl.int_at hKl
        rw [hg] at hy
        injection hy with hy
        subst hy
        subst hol
        obtain ⟨z, _, hz, iz, b3, off3, hot, hb3, r0⟩ := (hr.below intR_ok (below_box hbW)).int_at hlt
        rw [hK] at hz
        injection hz with hz
        subst hz
        subst hot
        obtain ⟨g2, hg2⟩ : ∃ g2, g2 = g / 2 := ⟨_, rfl⟩
        have HE : Hid (edL ar q rot (k + 1) = edL ar q rot k ++ [(g2 : Int)]) := by show _ = _; rw [hg2]; exact edL_step hl hK hg hkq
        have hq1 : ((g : Int)).tdiv 2 = (g2 : Int) := by rw [Int.tdiv_eq_ediv_of_nonneg (by omega)]; omega
        have hg3 : g2 ≤ 100000 := by have := HOK.out.cap; omega
        have q1 : ((k : Int) != (q : Int)) = true := by simp; omega
        have hel := edL_len ar q rot k
        have hI : I64 (g2 : Int) := ⟨by omega, by omega⟩
        have d2 := box_cell hbW 2
        simp at d2
        have hsz := box_lt hbW
        have hbl := World.block_lt_of_cell? _ _ c0
        have hbl2 := World.block_lt_of_cell? _ _ e0
        have hbl3 := World.block_lt_of_cell? _ _ r0
        simp only at hbl hbl2 hbl3
        replace hkq := hide hkq
        replace hg2 := hide hg2
        clear hl hK hg
        obtain ⟨T, hT⟩ : ∃ T, T = edL ar q rot k := ⟨_, rfl⟩
        rw [← hT] at hown HE hel
        clear hT
        go_wp2_with fail
        have hwr : IntKind.i64.wrap (g2 : Int) = (g2 : Int) := IntWalk.i64_in _ (by omega)
        go_region_law (refine step_append_rep rfl (.tmp 18) (.tmp 31) 28 rfl (w.heap.size + 1) 3 _ 1 8 Try.underlying28 iInfo rfl (by decide) intR_ok Non All u7 T (by simp [Act.eval, Act.put]) ((hown.draw intR_ok).new intR_ok _) (some ⟨wr.heap.size, 0, none⟩) 1 [(g2 : Int)] (by simp [Act.eval, Act.put]) (one_lit wr.drew 3 hI) (fun _ _ h => h) (fun _ h => h.elim) (by simp; omega) (by simp; omega) (by simp; omega) ?_; intro v' w3 ho hb1 hg)
        all_goals
          clear hwr
          go_wp2_with fail
          go_roundw
          case rel => exact ⟨k + 1, by omega, by go_num, by rw [HE.out]; exact ho, (box_new hbW.drew (by simp) _).trans hb1⟩
          case measure => simp [intOf]; omega
    · have hke : k = rot.length := by omega
      rw [hke] at hown
      clear hke
      go_wp2_with fail
      go_ret
      exact ⟨_, rfl, hown.rebase (by omega), below_box hbW⟩

theorem firstAt_is {v : Nat → Nat} {q M i : Nat} (h : firstAt v q M = some i) : i < M ∧ v i = q ∧ ∀ j, j < i → v j ≠ q := by
  unfold firstAt at h
  rw [List.find?_eq_some_iff_getElem] at h
  obtain ⟨h1, k, hk, h2, h3⟩ := h
  simp at h2
  subst h2
  refine ⟨by simpa using hk, by simpa using h1, fun j hj => ?_⟩
  have := h3 j hj
  simpa using this
theorem firstAt_no {v : Nat → Nat} {q M : Nat} (h : firstAt v q M = none) : ∀ j, j < M → v j ≠ q := by
  unfold firstAt at h
  rw [List.find?_eq_none] at h
  intro j hj
  have := h j (by simpa using hj)
  simpa using this
theorem itV_add (ar : List (List Int)) (E : List (Int × Int)) (rot : List Int) (v a : Nat) : ∀ t, itV ar E rot v (a + t) = itV ar E rot (itV ar E rot v a) t
  | 0 => rfl
  | t + 1 => by
    show stV ar E rot (itV ar E rot v (a + t)) = stV ar E rot (itV ar E rot (itV ar E rot v a) t)
    rw [itV_add ar E rot v a t]
/-- Who comes to the sink comes in fewer steps than there are vertices. -/
theorem lead_law {n : Int} {es : List Edg} {ar : List (List Int)} {q : Nat} {rot : List Int} (h : RtOk n es ar q rot) {v : Nat} (hv : v < ar.length) :
    (firstAt (itV ar (endsL es) rot v) q ar.length).isSome = (firstAt (itV ar (endsL es) rot v) q (ar.length + 1)).isSome := by
  cases h1 : firstAt (itV ar (endsL es) rot v) q (ar.length + 1) with
  | none =>
    have h2 := firstAt_no h1
    rw [firstAt_none fun j hj => h2 j (by omega)]
  | some i =>
    obtain ⟨h2, h3, h4⟩ := firstAt_is h1
    by_cases hi : i < ar.length
    · rw [firstAt_some hi h3 h4]
    · exfalso
      have hie : i = ar.length := by omega
      subst hie
      have hn : ((List.range (ar.length + 1)).map (itV ar (endsL es) rot v)).Nodup := by
        unfold List.Nodup
        rw [List.pairwise_map]
        refine (List.pairwise_lt_range (n := ar.length + 1)).imp_of_mem fun {a b} ha hb hab heq => ?_
        have hb2 : b < ar.length + 1 := by simpa using hb
        have e1 := itV_add ar (endsL es) rot v a (ar.length - b)
        have e2 := itV_add ar (endsL es) rot v b (ar.length - b)
        rw [show b + (ar.length - b) = ar.length by omega, ← heq, ← e1, h3] at e2
        exact h4 (a + (ar.length - b)) (by omega) e2.symm
      have := nodup_len hn fun x hx => by
        obtain ⟨j, hj, rfl⟩ := List.mem_map.1 hx
        exact h.roam hv j fun k hk => h4 k (by simp at hj; omega)
      simp at this
      omega
theorem tg_look {n : Int} {es : List Edg} {ar : List (List Int)} {q : Nat} {rot : List Int} (h : RtOk n es ar q rot) {v : Nat} (hv' : v < ar.length) (hvq : v ≠ q) :
    ∃ (m : List Int) (k : Nat), (tgL ar (endsL es))[v]? = some m ∧ rot[v]? = some (k : Int) ∧ k < m.length ∧ m[k]? = some ((stV ar (endsL es) rot v : Nat) : Int) := by
  obtain ⟨l, k, g, h1, h2, h3, h4, h5, h6, _, h8⟩ := h.look hv' hvq
  refine ⟨_, k, tgL_get h1, h2, by simpa using h3, ?_⟩
  rw [List.getElem?_map, h5]
  rw [toL_get _ g h8] at h6
  injection h6 with h6
  simp [h6]

/-- What Leads gives. -/
def ldB (ar : List (List Int)) (E : List (Int × Int)) (q : Nat) (rot : List Int) (m k : Nat) : Bool := (List.range k).all fun v => (firstAt (itV ar E rot v) q (m + 1)).isSome
theorem ldB_acyB {n : Int} {es : List Edg} {ar : List (List Int)} {q : Nat} {rot : List Int} (h : RtOk n es ar q rot) : ldB ar (endsL es) q rot rot.length rot.length = acyB ar (endsL es) q rot rot.length rot.length := by
  unfold ldB acyB
  rw [Bool.eq_iff_iff, List.all_eq_true, List.all_eq_true, h.nrot]
  exact ⟨fun k v hv => by rw [lead_law h (by simpa using hv)]; exact k v hv, fun k v hv => by rw [← lead_law h (by simpa using hv)]; exact k v hv⟩
theorem ldB_succ (ar : List (List Int)) (E : List (Int × Int)) (q : Nat) (rot : List Int) (m k : Nat) : ldB ar E q rot m (k + 1) = (ldB ar E q rot m k && (firstAt (itV ar E rot k) q (m + 1)).isSome) := by
  unfold ldB
  rw [List.range_succ, List.all_append]
  simp

set_option maxRecDepth 100000 in
set_option maxHeartbeats 4000000 in
theorem refLeads_any (n : Int) (es : List Edg) (oe : Option Addr) (c : Nat) (ar : List (List Int)) (oa : Option Addr) (ca : Nat) (F G : Foot) (w : World) (hs : SliceR edgR 3 F w oe es) (hc : es.length ≤ c) (hc2 : es.length ≤ 1000)
    (ha : SliceR (slcR intR 1) 1 G w oa ar) (hac : ar.length ≤ ca) (hac2 : ar.length ≤ 9223372036854775807) (hm : Hid (∀ x ∈ es, x.m ≤ 50)) (q : Nat) (rot : List Int) (ot : Option Addr) (ct : Nat) (H : Foot) (hr : SliceR intR 1 H w ot rot) (hrc : rot.length ≤ ct) (hok : RtOk n es ar q rot) :
    Calls Try.prog 52 #[.agg #[.int .i64 n, .slice oe es.length c, .slice oa ar.length ca], .int .i64 q, .slice ot rot.length ct] w fun e w' => e = .returned (.bool (ldB ar (endsL es) q rot rot.length rot.length)) ∧ Below w.heap.size w w' := by
  have HOK := hide hok
  have hrl12 : rot.length ≤ 12 := by rw [hok.nrot]; exact hok.n12
  have hra := hide hok.nrot
  have hb0 := bnew (Below.refl w.heap.size w) (.cells #[.int .i64 n, .slice oe es.length c, .slice oa ar.length ca] 27)
  have HT := hide (targets_any n es oe c ar oa ca F G _ (hs.below edgR_ok hb0) hc hc2 (ha.below (slcR_ok intR_ok (by decide)) hb0) hac hac2 hm q rot hok)
  clear hok hb0
  go_enter Try.func52, Try.ntmps52
  go_wp2_with fail
  refine HT.out.mono ?_
  rintro e w4 ⟨tg, tc, rfl, htc, hT, hb4⟩
  have HB4 := hide (below_box (hb4.mono (B' := w.heap.size + 1) (by simp)))
  have HTL := hide (hT.loc (slcR_ok intR_ok (by decide)) (by decide))
  have HR4 := hide ((hr.below intR_ok HB4.out).loc intR_ok (by decide))
  clear hb4 hT
  go_wp2_with fail
  go_loopw [8] (fun iv wr => ∃ k : Nat, k ≤ rot.length ∧ iv = .int .i64 k ∧ Hid (ldB ar (endsL es) q rot rot.length k = true) ∧ Below w4.heap.size w4 wr) (fun iv _ => rot.length - (intOf iv).toNat)
  case atStart => exact ⟨0, by omega, rfl, rfl, Below.refl _ _⟩
  case round =>
    obtain ⟨k, hk, rfl, HA, hbW⟩ := hrel
    by_cases hlt : k < rot.length
    · have hkar : k < ar.length := by rw [← hra.out]; exact hlt
      go_wp2_with fail
      obtain ⟨wo, hwo⟩ : ∃ wo : World, wo = wr := ⟨_, rfl⟩
      subst hwo
      go_loopw [10, 9] (fun jv uv wi => ∃ j : Nat, j ≤ rot.length ∧ jv = .int .i64 j ∧ uv = .int .i64 (itV ar (endsL es) rot k j : Nat) ∧ Hid (∀ i, i < j → itV ar (endsL es) rot k i ≠ q) ∧ Below w4.heap.size w4 wi) (fun jv _ _ => rot.length - (intOf jv).toNat)
      case atStart => exact ⟨0, by omega, rfl, rfl, fun i hi => absurd hi (by omega), hbW⟩
      case round =>
        clear hbW
        obtain ⟨j, hj, rfl, rfl, HNO, hbW⟩ := hrel
        have hvr := HOK.out.roam hkar j HNO.out
        obtain ⟨U, hU⟩ : ∃ U, U = itV ar (endsL es) rot k j := ⟨_, rfl⟩
        rw [← hU] at hvr ⊢
        have HU := hide hU
        clear hU
        by_cases hjl : j < rot.length
        · by_cases hUq : U = q
          · have q1 : ((U : Int) != (q : Int)) = false := by simp [hUq]
            have HL : Hid (ldB ar (endsL es) q rot rot.length (k + 1) = true) := by
              show _ = _
              rw [ldB_succ, HA.out, firstAt_some (i := j) (by omega) (by rw [← HU.out]; exact hUq) HNO.out]
              rfl
            have HUQ := hide hUq
            clear hUq
            go_wp2_with fail
            go_roundw
            case rel => exact ⟨k + 1, by omega, by go_num, HL, hbW⟩
            case measure => simp [intOf]; omega
          · have q1 : ((U : Int) != (q : Int)) = true := by simp; omega
            obtain ⟨m, K, ht, hK, hKm, hmK⟩ := tg_look HOK.out hvr hUq
            have hT2 := HTL.out.keep (slcR_ok intR_ok (by decide)) (SameOn.of_lt hbW)
            have hr2 := HR4.out.keep intR_ok (SameOn.of_lt hbW)
            have hUt : U < (tgL ar (endsL es)).length := by rw [tgL_len]; exact hvr
            obtain ⟨m', _, hm', b, off, ol, cl, htg, hbB, t0, hml, _, hsm⟩ := hT2.slc_at hUt
            rw [ht] at hm'
            injection hm' with hm'
            subst hm'
            subst htg
            obtain ⟨y, _, hy, iy, b2, off2, hol, hb2, t1⟩ := hsm.int_at hKm
            rw [hmK] at hy
            injection hy with hy
            subst hy
            subst hol
            have hUr : U < rot.length := by rw [hra.out]; exact hvr
            obtain ⟨z, _, hz, iz, b3, off3, hot, hb3, r0⟩ := hr2.int_at hUr
            rw [hK] at hz
            injection hz with hz
            subst hz
            subst hot
            have HNO2 : Hid (∀ i, i < j + 1 → itV ar (endsL es) rot k i ≠ q) := fun i hi => by
              by_cases hij : i = j
              · rw [hij, ← HU.out]; exact hUq
              · exact HNO.out i (by omega)
            have HST : Hid (stV ar (endsL es) rot U = itV ar (endsL es) rot k (j + 1)) := by show _ = _; rw [HU.out]; rfl
            have HBW := hide hbW
            replace hUq := hide hUq
            clear ht hK hmK hT2 hr2 hsm hbW
            go_wp2_with fail
            go_quiet (fail)
            rw [HST.out]
            go_wp2_with fail
            go_roundw
            case rel => exact ⟨j + 1, by omega, by go_num, rfl, HNO2, below_drewN HBW.out _⟩
            case measure => simp [intOf]; omega
        · have hje : j = rot.length := by omega
          by_cases hUq : U = q
          · have q1 : ((U : Int) != (q : Int)) = false := by simp [hUq]
            have HL : Hid (ldB ar (endsL es) q rot rot.length (k + 1) = true) := by
              show _ = _
              rw [ldB_succ, HA.out, firstAt_some (i := j) (by omega) (by rw [← HU.out]; exact hUq) HNO.out]
              rfl
            have HUQ := hide hUq
            clear hUq hje
            go_wp2_with fail
            go_roundw
            case rel => exact ⟨k + 1, by omega, by go_num, HL, hbW⟩
            case measure => simp [intOf]; omega
          · have q1 : ((U : Int) != (q : Int)) = true := by simp; omega
            have HL : Hid (ldB ar (endsL es) q rot rot.length rot.length = false) := by
              show _ = _
              unfold ldB
              rw [List.all_eq_false]
              refine ⟨k, by simpa using hlt, ?_⟩
              rw [firstAt_none fun i hi => ?_]
              · simp
              · by_cases hij : i = j
                · rw [hij, ← HU.out]; exact hUq
                · exact HNO.out i (by omega)
            have HUQ := hide hUq
            clear hUq hje
            go_wp2_with fail
            go_ret
            exact ⟨ret_bool HL.out.symm, HB4.out.trans (hbW.mono HB4.out.size)⟩
    · have hke : k = rot.length := by omega
      have HL : Hid (ldB ar (endsL es) q rot rot.length rot.length = true) := by have := HA.out; rw [hke] at this; exact this
      clear hke
      go_wp2_with fail
      go_ret
      exact ⟨ret_bool HL.out.symm, HB4.out.trans (hbW.mono HB4.out.size)⟩

section
variable (n : Int) (es : List Edg) (oe : Option Addr) (c : Nat) (ar : List (List Int)) (oa : Option Addr) (ca : Nat) (F G : Foot) (w : World) (hs : SliceR edgR 3 F w oe es) (hc : es.length ≤ c) (hc2 : es.length ≤ 1000)
    (ha : SliceR (slcR intR 1) 1 G w oa ar) (hac : ar.length ≤ ca) (hac2 : ar.length ≤ 9223372036854775807) (f : List Nat) (hU : Hid (gErr n es = 0 → Uf f (eL es)))
    (q : Int) (rot : List Int) (ot : Option Addr) (ct : Nat) (H : Foot) (hr : SliceR intR 1 H w ot rot) (hrc : rot.length ≤ ct) (hrl : rot.length ≤ 9223372036854775807)
include hs hc hc2 ha hac hac2 hU hr hrc hrl

set_option maxRecDepth 100000 in
set_option maxHeartbeats 2000000 in
theorem refEdges_any : Calls Try.prog 23 #[.agg #[.int .i64 n, .slice oe es.length c, .slice oa ar.length ca], .int .i64 q, .slice ot rot.length ct] w (ListErr w (edR n es f ar q rot) (rtE n es f ar q rot)) := by
  go_enter Try.func23, Try.ntmps23
  go_wp2_with fail
  have hb0 := box_refl w (.cells #[.int .i64 n, .slice oe es.length c, .slice oa ar.length ca] 27)
  refine (r45check_any n es oe c ar oa ca F G _ (hs.below edgR_ok (below_box hb0)) hc hc2 (ha.below (slcR_ok intR_ok (by decide)) (below_box hb0)) hac hac2 f hU q rot ot ct H (hr.below intR_ok (below_box hb0)) hrc hrl).mono ?_
  rintro e w2 ⟨rfl, hb2⟩
  have hx2 := hb2.mono (B' := w.heap.size + 1) (by simp)
  have d0 := box_cell hx2 0
  have d1 := box_cell hx2 1
  have d2 := box_cell hx2 2
  simp at d0 d1 d2
  have HX := hide (below_box hx2)
  clear hb2 hb0 hx2
  by_cases hR : rtE n es f ar q rot = 0
  · obtain ⟨q', rfl, hok⟩ := RtOk.of hR hc2
    have HR : Hid (edR n es f ar q' rot = edL ar q' rot rot.length) := if_pos hR
    have HK := hide (refSingles_any n es oe c ar oa ca F G w2 (ha.below (slcR_ok intR_ok (by decide)) HX.out) hac hac2 q' rot ot ct H (hr.below intR_ok HX.out) hrc hok)
    rw [hR]
    have HRZ := hide hR
    clear hR hok
    go_wp2_with fail
    refine HK.out.mono ?_
    rintro e w3 ⟨rv, rfl, ho, hb3⟩
    have HO := hide (ho.rebase HX.out.size)
    have HB := hide (HX.out.trans (hb3.mono HX.out.size))
    clear ho hb3
    go_wp2_with fail
    go_ret2
    exact ⟨_, by rw [HRZ.out]; rfl, by rw [HR.out]; exact HO.out, HB.out⟩
  · have HR : Hid (edR n es f ar q rot = []) := if_neg hR
    have hq : (rtE n es f ar q rot != 0) = true := by simpa using hR
    replace hR := hide hR
    go_wp2_with fail
    go_ret2
    exact ⟨_, rfl, by rw [HR.out]; exact OwnS.nil _ _ _ _ _ _, HX.out⟩

set_option maxRecDepth 100000 in
set_option maxHeartbeats 2000000 in
theorem refAcyclic_any : Calls Try.prog 25 #[.agg #[.int .i64 n, .slice oe es.length c, .slice oa ar.length ca], .int .i64 q, .slice ot rot.length ct] w (BoolErr w (acycRes n es f ar q rot).1 (acycRes n es f ar q rot).2) := by
  go_enter Try.func25, Try.ntmps25
  go_wp2_with fail
  have hb0 := box_refl w (.cells #[.int .i64 n, .slice oe es.length c, .slice oa ar.length ca] 27)
  refine (r45check_any n es oe c ar oa ca F G _ (hs.below edgR_ok (below_box hb0)) hc hc2 (ha.below (slcR_ok intR_ok (by decide)) (below_box hb0)) hac hac2 f hU q rot ot ct H (hr.below intR_ok (below_box hb0)) hrc hrl).mono ?_
  rintro e w2 ⟨rfl, hb2⟩
  have hx2 := hb2.mono (B' := w.heap.size + 1) (by simp)
  have d0 := box_cell hx2 0
  have d1 := box_cell hx2 1
  have d2 := box_cell hx2 2
  simp at d0 d1 d2
  have HX := hide (below_box hx2)
  clear hb2 hb0 hx2
  by_cases hR : rtE n es f ar q rot = 0
  · have HMU := hide (rt_mult hR)
    obtain ⟨q', rfl, hok⟩ := RtOk.of hR hc2
    have HR : Hid (acycRes n es f ar q' rot = (ldB ar (endsL es) q' rot rot.length rot.length, 0)) := by
      show _ = _
      rw [ldB_acyB hok]
      exact if_pos hR
    have HK := hide (refLeads_any n es oe c ar oa ca F G w2 (hs.below edgR_ok HX.out) hc hc2 (ha.below (slcR_ok intR_ok (by decide)) HX.out) hac hac2 HMU q' rot ot ct H (hr.below intR_ok HX.out) hrc hok)
    rw [hR]
    clear hR hok
    go_wp2_with fail
    refine HK.out.mono ?_
    rintro e w3 ⟨rfl, hb3⟩
    have HB := hide (HX.out.trans (hb3.mono HX.out.size))
    clear hb3
    go_wp2_with fail
    go_ret2
    exact ⟨by rw [HR.out]; rfl, HB.out⟩
  · have HR : Hid (acycRes n es f ar q rot = (false, rtE n es f ar q rot)) := if_neg hR
    have hq : (rtE n es f ar q rot != 0) = true := by simpa using hR
    replace hR := hide hR
    go_wp2_with fail
    go_ret2
    exact ⟨by rw [HR.out]; rfl, HX.out⟩
end

end Go.Proofs.Ytopldbnlehjlpaa

set_option linter.unusedVariables false
set_option linter.unusedSimpArgs false
set_option linter.unnecessarySimpa false
namespace Go.Proofs.Ytopldbnlehjlpaa
open Go.RowKit

set_option maxRecDepth 100000 in
set_option maxHeartbeats 8000000 in
theorem routes_walk (n : Int) (es : List Edg) (oe : Option Addr) (c : Nat) (ar : List (List Int)) (oa : Option Addr) (ca : Nat) (q : Int) (rot : List Int) (ot : Option Addr) (ct : Nat) (v : Int) (w : World)
    (hs : SliceR edgR 3 All w oe es) (hc : es.length ≤ c) (hc2 : es.length ≤ 9223372036854775807) (ha : SliceR (slcR intR 1) 1 All w oa ar) (hac : ar.length ≤ ca) (hac2 : ar.length ≤ 9223372036854775807) (hr : SliceR intR 1 All w ot rot) (hrc : rot.length ≤ ct) (hrl : rot.length ≤ 9223372036854775807) :
    Calls Try.prog 4 #[.agg #[.int .i64 n, .slice oe es.length c, .slice oa ar.length ca], .agg #[.int .i64 q, .slice ot rot.length ct, .int .i64 v]] w fun e w' => e = .returned (.bool true) ∧ Below w.heap.size w w' := by
  have hU : Hid (gErr n es = 0 → Uf (forest es) (eL es)) := forest_ok n es
  have C0 := LawCtx.new (n := n) (c := c) (ca := ca) (q := q) (ct := ct) (v := v) hs ha hr
  obtain ⟨W1, hW1⟩ : ∃ W1, (w.alloc (.cells #[.int .i64 n, .slice oe es.length c, .slice oa ar.length ca] 27)).alloc (.cells #[.int .i64 q, .slice ot rot.length ct, .int .i64 v] 30) = W1 := ⟨_, rfl⟩
  rw [hW1] at C0
  have HC := hide C0
  have d0 := HC.out.b1.cell 0
  have d1 := HC.out.b1.cell 1
  have d2 := HC.out.b1.cell 2
  have p0 := HC.out.b2.cell 0
  have p1 := HC.out.b2.cell 1
  have p2 := HC.out.b2.cell 2
  simp only [List.getElem?_cons_zero, List.getElem?_cons_succ] at d0 d1 d2 p0 p1 p2
  clear hs ha hr C0
  go_enter Try.func4, Try.ntmps4
  go_wp2_with fail
  refine (few45_any n es oe c ar oa ca All All _ HC.out.hes hc hc2 HC.out.har hac hac2 rot ot ct).mono ?_
  rintro e W2 ⟨rfl, hb⟩
  replace HC := hide (HC.out.below hb)
  clear hb d0 d1 d2 p0 p1 p2 hW1
  by_cases hF : few45 n es ar rot = true
  · obtain ⟨hc3, _, _⟩ := few45_yes hF
    rw [hF]
    clear hF
    have d0 := HC.out.b1.cell 0
    have d1 := HC.out.b1.cell 1
    have d2 := HC.out.b1.cell 2
    have p0 := HC.out.b2.cell 0
    have p1 := HC.out.b2.cell 1
    have p2 := HC.out.b2.cell 2
    simp only [List.getElem?_cons_zero, List.getElem?_cons_succ] at d0 d1 d2 p0 p1 p2
    go_wp2_with fail
    clear d0 d1 d2 p0 p1 p2
    refine (rotRoute_any n es oe c ar oa ca All All _ HC.out.hes hc (by omega) HC.out.har hac hac2 (forest es) hU q rot ot ct All HC.out.hrt hrc hrl v).mono ?_
    rintro e W3 ⟨rv, rfl, ho, hb⟩
    have hl3 := hide (OwnS.small ho)
    obtain ⟨oa3, c3, rfl, hc3', hs3⟩ := OwnS.given ho
    replace HC := hide (HC.out.below hb)
    have s3 := hide hs3
    clear ho hb hs3
    have d0 := HC.out.b1.cell 0
    have d1 := HC.out.b1.cell 1
    have d2 := HC.out.b1.cell 2
    have p0 := HC.out.b2.cell 0
    have p1 := HC.out.b2.cell 1
    have p2 := HC.out.b2.cell 2
    simp only [List.getElem?_cons_zero, List.getElem?_cons_succ] at d0 d1 d2 p0 p1 p2
    go_wp2_with fail
    clear d0 d1 d2 p0 p1 p2
    refine (refRoute_any n es oe c ar oa ca All All _ HC.out.hes hc (by omega) HC.out.har hac hac2 (forest es) hU q rot ot ct All HC.out.hrt hrc hrl v).mono ?_
    rintro e W4 ⟨rv, rfl, ho, hb⟩
    have hl4 := hide (OwnS.small ho)
    obtain ⟨oa4, c4, rfl, hc4', hs4⟩ := OwnS.given ho
    replace HC := hide (HC.out.below hb)
    replace s3 := hide (s3.out.below intR_ok hb)
    have s4 := hide hs4
    clear ho hb hs4
    have d0 := HC.out.b1.cell 0
    have d1 := HC.out.b1.cell 1
    have d2 := HC.out.b1.cell 2
    have p0 := HC.out.b2.cell 0
    have p1 := HC.out.b2.cell 1
    have p2 := HC.out.b2.cell 2
    simp only [List.getElem?_cons_zero, List.getElem?_cons_succ] at d0 d1 d2 p0 p1 p2
    go_wp2_with fail
    clear d0 d1 d2 p0 p1 p2
    refine (rotEdges_any n es oe c ar oa ca All All _ HC.out.hes hc (by omega) HC.out.har hac hac2 (forest es) hU q rot ot ct All HC.out.hrt hrc hrl).mono ?_
    rintro e W5 ⟨rv, rfl, ho, hb⟩
    have hl5 := hide (OwnS.small ho)
    obtain ⟨oa5, c5, rfl, hc5', hs5⟩ := OwnS.given ho
    replace HC := hide (HC.out.below hb)
    replace s3 := hide (s3.out.below intR_ok hb)
    replace s4 := hide (s4.out.below intR_ok hb)
    have s5 := hide hs5
    clear ho hb hs5
    have d0 := HC.out.b1.cell 0
    have d1 := HC.out.b1.cell 1
    have d2 := HC.out.b1.cell 2
    have p0 := HC.out.b2.cell 0
    have p1 := HC.out.b2.cell 1
    have p2 := HC.out.b2.cell 2
    simp only [List.getElem?_cons_zero, List.getElem?_cons_succ] at d0 d1 d2 p0 p1 p2
    go_wp2_with fail
    clear d0 d1 d2 p0 p1 p2
    refine (refEdges_any n es oe c ar oa ca All All _ HC.out.hes hc (by omega) HC.out.har hac hac2 (forest es) hU q rot ot ct All HC.out.hrt hrc hrl).mono ?_
    rintro e W6 ⟨rv, rfl, ho, hb⟩
    have hl6 := hide (OwnS.small ho)
    obtain ⟨oa6, c6, rfl, hc6', hs6⟩ := OwnS.given ho
    replace HC := hide (HC.out.below hb)
    replace s3 := hide (s3.out.below intR_ok hb)
    replace s4 := hide (s4.out.below intR_ok hb)
    replace s5 := hide (s5.out.below intR_ok hb)
    have s6 := hide hs6
    clear ho hb hs6
    have d0 := HC.out.b1.cell 0
    have d1 := HC.out.b1.cell 1
    have d2 := HC.out.b1.cell 2
    have p0 := HC.out.b2.cell 0
    have p1 := HC.out.b2.cell 1
    have p2 := HC.out.b2.cell 2
    simp only [List.getElem?_cons_zero, List.getElem?_cons_succ] at d0 d1 d2 p0 p1 p2
    go_wp2_with fail
    clear d0 d1 d2 p0 p1 p2
    refine (equalInt_any _ _ oa3 oa4 c3 c4 All _ s3.out s4.out hc3' hl3.out).mono ?_
    rintro e W7 ⟨rfl, hb⟩
    replace HC := hide (HC.out.below hb)
    replace s5 := hide (s5.out.below intR_ok hb)
    replace s6 := hide (s6.out.below intR_ok hb)
    clear hb
    simp only [decide_true]
    have d0 := HC.out.b1.cell 0
    have d1 := HC.out.b1.cell 1
    have d2 := HC.out.b1.cell 2
    have p0 := HC.out.b2.cell 0
    have p1 := HC.out.b2.cell 1
    have p2 := HC.out.b2.cell 2
    simp only [List.getElem?_cons_zero, List.getElem?_cons_succ] at d0 d1 d2 p0 p1 p2
    go_wp2_with fail
    clear d0 d1 d2 p0 p1 p2
    refine (equalInt_any _ _ oa5 oa6 c5 c6 All _ s5.out s6.out hc5' hl5.out).mono ?_
    rintro e W8 ⟨rfl, hb⟩
    replace HC := hide (HC.out.below hb)
    clear hb
    simp only [decide_true]
    have d0 := HC.out.b1.cell 0
    have d1 := HC.out.b1.cell 1
    have d2 := HC.out.b1.cell 2
    have p0 := HC.out.b2.cell 0
    have p1 := HC.out.b2.cell 1
    have p2 := HC.out.b2.cell 2
    simp only [List.getElem?_cons_zero, List.getElem?_cons_succ] at d0 d1 d2 p0 p1 p2
    go_wp2_with fail
    clear d0 d1 d2 p0 p1 p2
    refine (rotAcyclic_any n es oe c ar oa ca All All _ HC.out.hes hc (by omega) HC.out.har hac hac2 (forest es) hU q rot ot ct All HC.out.hrt hrc hrl).mono ?_
    rintro e W9 ⟨rfl, hb⟩
    replace HC := hide (HC.out.below hb)
    clear hb
    have d0 := HC.out.b1.cell 0
    have d1 := HC.out.b1.cell 1
    have d2 := HC.out.b1.cell 2
    have p0 := HC.out.b2.cell 0
    have p1 := HC.out.b2.cell 1
    have p2 := HC.out.b2.cell 2
    simp only [List.getElem?_cons_zero, List.getElem?_cons_succ] at d0 d1 d2 p0 p1 p2
    go_wp2_with fail
    clear d0 d1 d2 p0 p1 p2
    refine (refAcyclic_any n es oe c ar oa ca All All _ HC.out.hes hc (by omega) HC.out.har hac hac2 (forest es) hU q rot ot ct All HC.out.hrt hrc hrl).mono ?_
    rintro e W10 ⟨rfl, hb⟩
    replace HC := hide (HC.out.below hb)
    clear hb
    have d0 := HC.out.b1.cell 0
    have d1 := HC.out.b1.cell 1
    have d2 := HC.out.b1.cell 2
    have p0 := HC.out.b2.cell 0
    have p1 := HC.out.b2.cell 1
    have p2 := HC.out.b2.cell 2
    simp only [List.getElem?_cons_zero, List.getElem?_cons_succ] at d0 d1 d2 p0 p1 p2
    go_wp2_with fail
    clear d0 d1 d2 p0 p1 p2
    refine (awake45_any _).mono ?_
    rintro e W11 ⟨rfl, hb⟩
    replace HC := hide (HC.out.below hb)
    clear hb
    go_wp2_with fail
    go_ret
    exact ⟨rfl, HC.out.low⟩
  · have hF2 : few45 n es ar rot = false := by simpa using hF
    rw [hF2]
    clear hF hF2
    have d0 := HC.out.b1.cell 0
    have d1 := HC.out.b1.cell 1
    have d2 := HC.out.b1.cell 2
    have p0 := HC.out.b2.cell 0
    have p1 := HC.out.b2.cell 1
    have p2 := HC.out.b2.cell 2
    simp only [List.getElem?_cons_zero, List.getElem?_cons_succ] at d0 d1 d2 p0 p1 p2
    go_wp2_with fail
    refine (awake45_any _).mono ?_
    rintro e W3 ⟨rfl, hb⟩
    replace HC := hide (HC.out.below hb)
    clear hb d0 d1 d2 p0 p1 p2
    go_wp2_with fail
    go_ret
    exact ⟨rfl, HC.out.low⟩

theorem routes_claim (w : World) (n : Int) (es : List Edg) (oe : Option Addr) (c : Nat) (ar : List (List Int)) (oa : Option Addr) (ca : Nat) (hc : es.length ≤ c) (hc2 : es.length ≤ 9223372036854775807) (hs : SliceR edgR 3 All w oe es) (hac : ar.length ≤ ca) (hac2 : ar.length ≤ 9223372036854775807) (ha : SliceR (slcR intR 1) 1 All w oa ar)
    (q : Int) (rot : List Int) (ot : Option Addr) (ct : Nat) (v : Int) (hrc : rot.length ≤ ct) (hrl : rot.length ≤ 9223372036854775807) (hr : SliceR intR 1 All w ot rot) :
    Calls Try.prog 4 #[.agg #[.int .i64 n, .slice oe es.length c, .slice oa ar.length ca], .agg #[.int .i64 q, .slice ot rot.length ct, .int .i64 v]] w fun e w' => e = .returned (.bool true) ∧ Below w.heap.size w w' :=
  routes_walk n es oe c ar oa ca q rot ot ct v w hs hc hc2 ha hac hac2 hr hrc hrl

end Go.Proofs.Ytopldbnlehjlpaa

set_option linter.unusedVariables false
set_option linter.unusedSimpArgs false
set_option linter.unnecessarySimpa false
namespace Go.Proofs.Ytopldbnlehjlpaa
open Go.RowKit

theorem addL_get (l : List Int) (a b : Nat) (x : Int) : (addL l a x).getD b 0 = if a = b ∧ a < l.length then l.getD b 0 + x else l.getD b 0 := by
  unfold addL
  rw [List.getD_eq_getElem?_getD, List.getElem?_set]
  by_cases h : a = b
  · subst h
    by_cases h2 : a < l.length
    · simp [h2]
    · rw [if_pos rfl, if_neg h2, if_neg (by intro hh; exact h2 hh.2), List.getD_eq_getElem?_getD, List.getElem?_eq_none (by omega)]
  · rw [if_neg h, if_neg (by intro hh; exact h hh.1), List.getD_eq_getElem?_getD]
theorem addL_ext {l m : List Int} (h : l.length = m.length) (hg : ∀ b, l.getD b 0 = m.getD b 0) : l = m := by
  apply List.ext_getElem h
  intro i h1 h2
  have := hg i
  rw [getD_of (List.getElem?_eq_getElem h1), getD_of (List.getElem?_eq_getElem h2)] at this
  exact this
theorem addL_comm (l : List Int) (a b : Nat) (x y : Int) : addL (addL l a x) b y = addL (addL l b y) a x := by
  refine addL_ext (by simp [addL_len]) fun c => ?_
  rw [addL_get, addL_get, addL_get, addL_get, addL_len, addL_len]
  split <;> split <;> omega
theorem stpK_set (ar : List (List Int)) (rot : List Int) {u v : Nat} (h : u ≠ v) (k : Int) : stpK ar (rot.set u k) v = stpK ar rot v := by
  unfold stpK
  rw [List.getD_eq_getElem?_getD, List.getElem?_set_ne h, ← List.getD_eq_getElem?_getD]
theorem stpV_set (ar : List (List Int)) (E : List (Int × Int)) (rot : List Int) {u v : Nat} (h : u ≠ v) (k : Int) : stpV ar E (rot.set u k) v = stpV ar E rot v := by
  unfold stpV
  rw [stpK_set ar rot h]
/-- Two moves at different vertices, in either order. -/
theorem mvS_comm (ar : List (List Int)) (E : List (Int × Int)) (s : MSt) {u v : Nat} (h : u ≠ v) : mvS ar E (mvS ar E s u) v = mvS ar E (mvS ar E s v) u := by
  unfold mvS stpR
  simp only
  rw [stpK_set ar s.1 h, stpK_set ar s.1 (Ne.symm h), stpV_set ar E s.1 h, stpV_set ar E s.1 (Ne.symm h), List.set_comm _ _ h, addL_comm s.2.2 u v]
  congr 2
  rw [addL_comm (addL s.2.1 u (-1)) (stpV ar E s.1 u) v 1 (-1), addL_comm s.2.1 u v (-1) (-1), addL_comm (addL (addL s.2.1 v (-1)) u (-1)) (stpV ar E s.1 u) (stpV ar E s.1 v) 1 1, addL_comm (addL s.2.1 v (-1)) u (stpV ar E s.1 v) (-1) 1]

def Can (q : Nat) (s : MSt) (v : Nat) : Prop := v < s.2.1.length ∧ v ≠ q ∧ 0 < s.2.1.getD v 0
inductive Run (ar : List (List Int)) (E : List (Int × Int)) (q : Nat) : MSt → List Nat → MSt → Prop
  | nil (s : MSt) : Run ar E q s [] s
  | cons {s t : MSt} {v : Nat} {l : List Nat} : Can q s v → Run ar E q (mvS ar E s v) l t → Run ar E q s (v :: l) t
theorem Can.keep {ar : List (List Int)} {E : List (Int × Int)} {q u v : Nat} {s : MSt} (h : Can q s v) (hne : u ≠ v) : Can q (mvS ar E s u) v := by
  obtain ⟨h1, h2, h3⟩ := h
  refine ⟨by simp [mvS, addL_len]; exact h1, h2, ?_⟩
  show 0 < (addL (addL s.2.1 u (-1)) (stpV ar E s.1 u) 1).getD v 0
  rw [addL_get, addL_get, if_neg (c := u = v ∧ u < s.2.1.length) (by intro hh; exact hne hh.1)]
  split <;> omega
/-- Whoever can move may move first. -/
theorem Run.front {ar : List (List Int)} {E : List (Int × Int)} {q : Nat} {s t : MSt} {m : List Nat} (h : Run ar E q s m t) (hd : ∀ v, ¬ Can q t v) : ∀ v, Can q s v → ∃ m', Run ar E q (mvS ar E s v) m' t ∧ m.length = m'.length + 1 := by
  induction h with
  | nil s => exact fun v hv => absurd hv (hd v)
  | @cons s t u l hu hr ih =>
    intro v hv
    by_cases e : u = v
    · subst e
      exact ⟨l, hr, by simp⟩
    · obtain ⟨m', h1, h2⟩ := ih hd v (hv.keep e)
      rw [mvS_comm ar E s e] at h1
      exact ⟨u :: m', .cons (hu.keep (Ne.symm e)) h1, by simp [h2]⟩
/-- A run that ends is as long as every other one that ends, and ends in the same state; no run is longer. -/
theorem Run.rest {ar : List (List Int)} {E : List (Int × Int)} {q : Nat} {s t2 : MSt} {m2 : List Nat} (h2 : Run ar E q s m2 t2) : ∀ {t : MSt} {m : List Nat}, Run ar E q s m t → (∀ v, ¬ Can q t v) → ∃ m3, Run ar E q t2 m3 t ∧ m.length = m2.length + m3.length := by
  induction h2 with
  | nil s => exact fun h hd => ⟨_, h, by simp⟩
  | @cons s t2 v l hv hr ih =>
    intro t m h hd
    obtain ⟨m', h1, h3⟩ := h.front hd v hv
    obtain ⟨m3, h4, h5⟩ := ih h1 hd
    exact ⟨m3, h4, by simp; omega⟩
theorem Run.same {ar : List (List Int)} {E : List (Int × Int)} {q : Nat} {s t t2 : MSt} {m m2 : List Nat} (h : Run ar E q s m t) (hd : ∀ v, ¬ Can q t v) (h2 : Run ar E q s m2 t2) (hd2 : ∀ v, ¬ Can q t2 v) : t2 = t ∧ m2.length = m.length := by
  obtain ⟨m3, h3, h4⟩ := h2.rest h hd
  cases h3 with
  | nil => exact ⟨rfl, by simp at h4; omega⟩
  | cons hv _ => exact absurd hv (hd2 _)
theorem Run.append {ar : List (List Int)} {E : List (Int × Int)} {q : Nat} {s t u : MSt} {m l : List Nat} (h : Run ar E q s m t) (h2 : Run ar E q t l u) : Run ar E q s (m ++ l) u := by
  induction h with
  | nil s => simpa using h2
  | cons hv _ ih => exact .cons hv (ih h2)

end Go.Proofs.Ytopldbnlehjlpaa

set_option linter.unusedVariables false
set_option linter.unusedSimpArgs false
set_option linter.unnecessarySimpa false
namespace Go.Proofs.Ytopldbnlehjlpaa
open Go.RowKit

theorem first_or (f : Nat → Nat) (q : Nat) : ∀ M, (∃ i, i < M ∧ f i = q ∧ ∀ j, j < i → f j ≠ q) ∨ ∀ j, j < M → f j ≠ q
  | 0 => .inr fun j hj => absurd hj (by omega)
  | M + 1 => by
    rcases first_or f q M with ⟨i, h1, h2, h3⟩ | h
    · exact .inl ⟨i, by omega, h2, h3⟩
    · by_cases hM : f M = q
      · exact .inl ⟨M, by omega, hM, h⟩
      · refine .inr fun j hj => ?_
        rcases Nat.lt_or_ge j M with h1 | h1
        · exact h j h1
        · rw [show j = M by omega]; exact hM

theorem sum_set : ∀ (l : List Int) (v : Nat) (x : Int), v < l.length → (addL l v x).sum = l.sum + x
  | [], v, x, h => by simp at h
  | a :: l, 0, x, _ => by simp [addL]; omega
  | a :: l, v + 1, x, h => by
    have := sum_set l v x (by simpa using h)
    simp [addL] at this ⊢
    omega
theorem addL_undo {l : List Int} {v : Nat} {x y : Int} (h : x + y = 0) : addL (addL l v x) v y = l := by
  refine addL_ext (by simp [addL_len]) fun b => ?_
  rw [addL_get, addL_get, addL_len]
  split <;> omega

section
variable {ar : List (List Int)} {E : List (Int × Int)} {q : Nat}

theorem Run.len {s t : MSt} {m : List Nat} (h : Run ar E q s m t) : t.2.1.length = s.2.1.length ∧ t.2.2.length = s.2.2.length := by
  induction h with
  | nil s => exact ⟨rfl, rfl⟩
  | cons hv _ ih => exact ⟨by rw [ih.1]; simp [mvS, addL_len], by rw [ih.2]; simp [mvS, addL_len]⟩
theorem Run.total {s t : MSt} {m : List Nat} (h : Run ar E q s m t) (hl : s.2.2.length = s.2.1.length) : t.2.2.sum = s.2.2.sum + m.length := by
  induction h with
  | nil s => simp
  | @cons s t v l hv _ ih =>
    rw [ih (by simp [mvS, addL_len, hl])]
    show (addL s.2.2 v 1).sum + _ = _
    rw [sum_set _ _ _ (by rw [hl]; exact hv.1)]
    simp
    omega
theorem live_none {s : MSt} : (liveL q s.2.1).length = 0 ↔ ∀ v, ¬ Can q s v := by
  unfold liveL liveP
  rw [List.length_map, List.length_eq_zero_iff, List.filter_eq_nil_iff]
  constructor
  · intro h v hv
    exact h v (by simpa using hv.1) (by simp only [decide_eq_true_eq]; exact ⟨hv.2.1, hv.2.2⟩)
  · intro h v hv hh
    simp only [decide_eq_true_eq] at hh
    exact h v ⟨by simpa using hv, hh.1, hh.2⟩
theorem mvN_run {pk : Nat → List Int → Int} (hpk : Picks pk) (s : MSt) : ∀ i, (∀ j, j < i → (liveL q (mvN ar E q pk s j).2.1).length ≠ 0) → ∃ m, Run ar E q s m (mvN ar E q pk s i) ∧ m.length = i
  | 0, _ => ⟨[], .nil _, rfl⟩
  | i + 1, h => by
    obtain ⟨m, h1, h2⟩ := mvN_run hpk s i fun j hj => h j (by omega)
    have hm := hpk i _ (by intro e; exact h i (by omega) (by rw [e]; rfl) : liveL q (mvN ar E q pk s i).2.1 ≠ [])
    obtain ⟨v, h3, h4, h5, h6⟩ := live_mem hm
    refine ⟨m ++ [v], h1.append (.cons ⟨h4, h5, h6⟩ ?_), by simp [h2]⟩
    have e : mvN ar E q pk s (i + 1) = mvS ar E (mvN ar E q pk s i) v := by
      show mvS ar E (mvN ar E q pk s i) (pk i (liveL q (mvN ar E q pk s i).2.1)).toNat = _
      rw [h3]; rfl
    rw [e]
    exact .nil _

/-- However it is picked: the same. -/
theorem moves_half {M : Nat} {pk pk' : Nat → List Int → Int} (h1 : Picks pk) (h2 : Picks pk') {rot d : List Int} {i : Nat} (hi : i < M) (h3 : (liveL q (mvN ar E q pk (start rot d d.length) i).2.1).length = 0)
    (h4 : ∀ j, j < i → (liveL q (mvN ar E q pk (start rot d d.length) j).2.1).length ≠ 0) : movesUp M ar E q pk' rot d = movesUp M ar E q pk rot d := by
  obtain ⟨m, r1, r2⟩ := mvN_run h1 _ i h4
  have hd := live_none.1 h3
  rcases first_or (fun i => (liveL q (mvN ar E q pk' (start rot d d.length) i).2.1).length) 0 M with ⟨k, k1, k2, k3⟩ | hn
  · obtain ⟨m', s1, s2⟩ := mvN_run h2 _ k k3
    obtain ⟨e1, e2⟩ := r1.same hd s1 (live_none.1 k2)
    rw [movesUp_hit hi rfl h3 h4, movesUp_hit k1 rfl k2 k3, e1]
  · obtain ⟨m', s1, s2⟩ := mvN_run h2 _ M hn
    obtain ⟨m3, _, e⟩ := s1.rest r1 hd
    omega
theorem moves_same (M : Nat) {pk pk' : Nat → List Int → Int} (h1 : Picks pk) (h2 : Picks pk') (rot d : List Int) : movesUp M ar E q pk rot d = movesUp M ar E q pk' rot d := by
  rcases first_or (fun i => (liveL q (mvN ar E q pk (start rot d d.length) i).2.1).length) 0 M with ⟨k, k1, k2, k3⟩ | hn
  · exact (moves_half h1 h2 k1 k2 k3).symm
  · rcases first_or (fun i => (liveL q (mvN ar E q pk' (start rot d d.length) i).2.1).length) 0 M with ⟨k, k1, k2, k3⟩ | hn'
    · exact moves_half h2 h1 k1 k2 k3
    · rw [movesUp_none hn, movesUp_none hn']
theorem movesOf_same {pk pk' : Nat → List Int → Int} (h1 : Picks pk) (h2 : Picks pk') (rot d : List Int) : movesOf ar E q pk rot d = movesOf ar E q pk' rot d := moves_same _ h1 h2 rot d

/-- A chip that is routed. -/
theorem chip_run {rot d t : List Int} {v : Nat} (hn : ∀ u, u ≠ q → 0 ≤ d.getD u 0) (hv : v < d.length) (hp : v ≠ q → 0 < d.getD v 0) (hb : ∀ i, (∀ j, j < i → chipV ar E rot v j ≠ q) → chipV ar E rot v i < d.length) :
    ∀ i, (∀ j, j < i → chipV ar E rot v j ≠ q) → ∃ m t', Run ar E q (rot, d, t) m (rotI ar E rot v i, addL (addL d v (-1)) (chipV ar E rot v i) 1, t') ∧ m.length = i
  | 0, _ => ⟨[], t, by
    show Run ar E q (rot, d, t) [] (rot, addL (addL d v (-1)) v 1, t)
    rw [addL_undo (by omega)]
    exact .nil _, rfl⟩
  | i + 1, h => by
    obtain ⟨m, t', h1, h2⟩ := chip_run (t := t) hn hv hp hb i fun j hj => h j (by omega)
    have hq := h i (by omega)
    have hvq : v ≠ q := h 0 (by omega)
    refine ⟨m ++ [chipV ar E rot v i], addL t' (chipV ar E rot v i) 1, h1.append (.cons ⟨?_, hq, ?_⟩ ?_), by simp [h2]⟩
    · simp only [addL_len]
      exact hb i fun j hj => h j (by omega)
    · have := hb i fun j hj => h j (by omega)
      have h3 := hn _ hq
      have h4 := hp hvq
      show 0 < (addL (addL d v (-1)) (chipV ar E rot v i) 1).getD (chipV ar E rot v i) 0
      rw [addL_get, addL_len, if_pos ⟨rfl, this⟩, addL_get]
      split
      · rename_i h5
        rw [← h5.1]
        omega
      · omega
    · have : mvS ar E (rotI ar E rot v i, addL (addL d v (-1)) (chipV ar E rot v i) 1, t') (chipV ar E rot v i) = (rotI ar E rot v (i + 1), addL (addL d v (-1)) (chipV ar E rot v (i + 1)) 1, addL t' (chipV ar E rot v i) 1) := by
        unfold mvS
        simp only
        rw [addL_undo (l := addL d v (-1)) (v := chipV ar E rot v i) (x := 1) (y := -1) (by omega)]
        rfl
      rw [this]
      exact .nil _

end

/-- Behind the chips of the vertices below v, and j chips of v. -/
def AddSt (n : Int) (es : List Edg) (ar : List (List Int)) (q : Nat) (rot d : List Int) (v j : Nat) (now : List Int) (steps : Nat) : Prop :=
  ∃ m D t', Run ar (endsL es) q (start rot d d.length) m (now, D, t') ∧ m.length = steps ∧ RtOk n es ar q now ∧ D.length = d.length ∧ (∀ u, u ≠ q → 0 ≤ D.getD u 0) ∧
    (∀ u, u ≠ q → u < v → D.getD u 0 = 0) ∧ (∀ u, u ≠ q → v < u → D.getD u 0 = d.getD u 0) ∧ (v ≠ q → D.getD v 0 = d.getD v 0 - j)
theorem AddSt.rotors {n : Int} {es : List Edg} {ar : List (List Int)} {q : Nat} {rot d : List Int} {v j : Nat} {now : List Int} {steps : Nat} (h : AddSt n es ar q rot d v j now steps) : RtOk n es ar q now := by
  obtain ⟨_, _, _, _, _, h3, _⟩ := h
  exact h3
theorem AddSt.begin {n : Int} {es : List Edg} {ar : List (List Int)} {q : Nat} {rot d : List Int} (h : RtOk n es ar q rot) (hn : ∀ u, u ≠ q → 0 ≤ d.getD u 0) : AddSt n es ar q rot d 0 0 rot 0 :=
  ⟨[], d, _, .nil _, rfl, h, rfl, hn, fun u _ hu => absurd hu (by omega), fun _ _ _ => rfl, fun _ => by simp⟩
theorem AddSt.next {n : Int} {es : List Edg} {ar : List (List Int)} {q : Nat} {rot d : List Int} {v j : Nat} {now : List Int} {steps : Nat} (h : AddSt n es ar q rot d v j now steps) (hj : v ≠ q → (d.getD v 0) ≤ j) : AddSt n es ar q rot d (v + 1) 0 now steps := by
  obtain ⟨m, D, t', h1, h2, h3, h4, h5, h6, h7, h8⟩ := h
  refine ⟨m, D, t', h1, h2, h3, h4, h5, fun u hu hlt => ?_, fun u hu hlt => h7 u hu (by omega), fun hu => by rw [h7 (v + 1) hu (by omega)]; simp⟩
  rcases Nat.lt_or_ge u v with hl | hl
  · exact h6 u hu hl
  · have : u = v := by omega
    subst this
    have a1 := h8 hu
    have a2 := h5 u hu
    have a3 := hj hu
    omega
theorem AddSt.step {n : Int} {es : List Edg} {ar : List (List Int)} {q : Nat} {rot d : List Int} {v j : Nat} {now : List Int} {steps M : Nat} {mm : List Nat} {tt : MSt} (h : AddSt n es ar q rot d v j now steps) (hd : d.length = ar.length) (hv : v < d.length) (hj : (j : Int) < d.getD v 0)
    (hr : Run ar (endsL es) q (start rot d d.length) mm tt) (ht : ∀ u, ¬ Can q tt u) (hM : mm.length < M) :
    ∃ i, i < M ∧ chipV ar (endsL es) now v i = q ∧ (∀ k, k < i → chipV ar (endsL es) now v k ≠ q) ∧ AddSt n es ar q rot d v (j + 1) (rotI ar (endsL es) now v i) (steps + i) ∧ RtOk n es ar q (rotI ar (endsL es) now v i) ∧ steps + i ≤ mm.length := by
  obtain ⟨m, D, t', h1, h2, h3, h4, h5, h6, h7, h8⟩ := h
  have hb : ∀ i, (∀ k, k < i → chipV ar (endsL es) now v k ≠ q) → chipV ar (endsL es) now v i < D.length := fun i hi => by
    have := (h3.along (by omega : v < ar.length) i hi).2
    rw [h4, hd]; exact this
  have hR := chip_run (t := t') h5 (by omega : v < D.length) (fun hq => by have := h8 hq; omega) hb
  rcases first_or (chipV ar (endsL es) now v) q M with ⟨i, i1, i2, i3⟩ | hn
  · obtain ⟨m2, t2, r1, r2⟩ := hR i i3
    rw [i2] at r1
    have hrun := h1.append r1
    have hrt := (h3.along (by omega : v < ar.length) i i3).1
    refine ⟨i, i1, i2, i3, ⟨m ++ m2, _, t2, hrun, by simp; omega, hrt, by simp [addL_len, h4], fun u hu => ?_, fun u hu hl => ?_, fun u hu hl => ?_, fun hu => ?_⟩, hrt, ?_⟩
    · rw [addL_get, addL_get, if_neg (c := q = u ∧ _) (by intro hh; exact hu hh.1.symm)]
      split
      · rename_i h9
        have := h8 (by rw [h9.1]; exact hu)
        rw [← h9.1]
        omega
      · exact h5 u hu
    · rw [addL_get, addL_get, if_neg (c := q = u ∧ _) (by intro hh; exact hu hh.1.symm), if_neg (by omega)]
      exact h6 u hu hl
    · rw [addL_get, addL_get, if_neg (c := q = u ∧ _) (by intro hh; exact hu hh.1.symm), if_neg (by omega)]
      exact h7 u hu hl
    · rw [addL_get, addL_get, if_neg (c := q = v ∧ _) (by intro hh; exact hu hh.1.symm), if_pos ⟨rfl, by omega⟩, h8 hu]
      omega
    · obtain ⟨m3, _, e⟩ := hrun.rest hr ht
      simp at e
      omega
  · obtain ⟨m2, t2, r1, r2⟩ := hR M hn
    obtain ⟨m3, _, e⟩ := (h1.append r1).rest hr ht
    simp at e
    omega
theorem AddSt.finish {n : Int} {es : List Edg} {ar : List (List Int)} {q : Nat} {rot d : List Int} {now : List Int} {steps : Nat} {mm : List Nat} {tt : MSt} (h : AddSt n es ar q rot d d.length 0 now steps)
    (hr : Run ar (endsL es) q (start rot d d.length) mm tt) (ht : ∀ u, ¬ Can q tt u) : now = tt.1 ∧ (steps : Int) = tt.2.2.sum := by
  obtain ⟨m, D, t', h1, h2, h3, h4, h5, h6, h7, h8⟩ := h
  obtain ⟨e1, e2⟩ := hr.same ht h1 (fun u hc => by
    have := h6 u hc.2.1 (by have := hc.1; simp only at this; omega)
    have h9 := hc.2.2
    simp only at h9
    omega)
  have := hr.total (by simp [start])
  refine ⟨by rw [← e1], ?_⟩
  rw [this]
  simp [start]
  omega

/-- What the program's All says of runs. -/
theorem moves_case {ar : List (List Int)} {E : List (Int × Int)} {q : Nat} {pk : Nat → List Int → Int} (hpk : Picks pk) (M : Nat) (rot d : List Int) :
    (∃ m s, movesUp M ar E q pk rot d = (s.1, s.2.2, 0) ∧ Run ar E q (start rot d d.length) m s ∧ (∀ u, ¬ Can q s u) ∧ m.length < M) ∨ movesUp M ar E q pk rot d = ([], [], 12) := by
  rcases first_or (fun i => (liveL q (mvN ar E q pk (start rot d d.length) i).2.1).length) 0 M with ⟨k, k1, k2, k3⟩ | hn
  · obtain ⟨m, r1, r2⟩ := mvN_run hpk _ k k3
    exact .inl ⟨m, _, movesUp_hit k1 rfl k2 k3, r1, live_none.1 k2, by omega⟩
  · exact .inr (movesUp_none hn)

end Go.Proofs.Ytopldbnlehjlpaa

set_option linter.unusedVariables false
set_option linter.unusedSimpArgs false
set_option linter.unnecessarySimpa false
namespace Go.Proofs.Ytopldbnlehjlpaa
open Go.RowKit

theorem gScan_zero {q : Int} : ∀ {v0 : Nat} {d : List Int}, gScan q v0 d = 0 → ∀ u, ((v0 + u : Nat) : Int) ≠ q → 0 ≤ d.getD u 0
  | v0, [], _, u, _ => by simp
  | v0, x :: r, h, u, hu => by
    unfold gScan at h
    split at h
    · cases h
    · rename_i h1
      cases u with
      | zero => simp at hu ⊢; omega
      | succ u =>
        have := gScan_zero h u (by intro e; apply hu; rw [← e]; congr 1; omega)
        simpa using this
theorem gvE_nonneg {n : Int} {es : List Edg} {f : List Nat} {ar : List (List Int)} {q : Nat} {rot d : List Int} (h : gvE n es f ar q rot d = 0) : ∀ u, u ≠ q → 0 ≤ d.getD u 0 := by
  obtain ⟨h1, h2⟩ := gvE_zero h
  unfold gvE at h
  rw [if_pos h1, if_pos h2] at h
  exact fun u hu => gScan_zero h u (by simp; omega)
theorem rotE_of {q : Nat} : ∀ {v0 : Nat} {ar : List (List Int)} {rot : List Int}, (∀ (v : Nat) (k : Int) (l : List Int), rot[v]? = some k → ar[v]? = some l → ¬ badR q (v0 + v) k l.length) → rotE q v0 ar rot = 0
  | v0, [], rot, _ => rotE_nil _ _ _
  | v0, _ :: _, [], _ => rfl
  | v0, a :: ar, x :: rot, h => by
    rw [rotE_cons, if_neg (by have := h 0 x a rfl rfl; simpa using this)]
    refine rotE_of fun v k l h1 h2 => ?_
    have := h (v + 1) k l (by simpa using h1) (by simpa using h2)
    rw [show v0 + 1 + v = v0 + (v + 1) from by omega]
    exact this
/-- Other right rotors on the same ribbon graph. -/
theorem rtE_other {n : Int} {es : List Edg} {f : List Nat} {ar : List (List Int)} {q : Nat} {rot now : List Int} (h : rtE n es f ar q rot = 0) (hn : RtOk n es ar q now) : rtE n es f ar q now = 0 := by
  obtain ⟨h1, h2, h3, h4⟩ := rtE_zero h
  unfold rtE
  rw [if_pos h1, if_pos (vtxB_iff.2 h2), if_pos (by rw [hn.nrot]; exact hn.nar)]
  refine rotE_of fun v k l hk hl => ?_
  obtain ⟨a1, a2, a3⟩ := hn.rots v k l hk hl
  unfold badR
  rw [Nat.zero_add]
  rintro (hh | ⟨hh, h6⟩ | ⟨hh, h6⟩)
  · omega
  · exact h6 (a2 (by omega))
  · have := a3 (by omega); omega
theorem routeRes_hit {n : Int} {es : List Edg} {f : List Nat} {ar : List (List Int)} {q : Nat} {now : List Int} {v i : Nat} (h : rtE n es f ar q now = 0) (hv : (v : Int) < n) (hi : i < 1048577) (h1 : chipV ar (endsL es) now v i = q) (h2 : ∀ j, j < i → chipV ar (endsL es) now v j ≠ q) :
    routeRes n es f ar q now v = (rotI ar (endsL es) now v i, (i : Int), 0) := by
  have hS : stE n es f ar q now v = 0 := by unfold stE; rw [if_pos h, if_pos (vtxB_iff.2 ⟨by omega, hv⟩)]
  unfold routeRes
  rw [if_pos hS]
  exact routeOf_hit hi h1 h2
theorem Run.nn {ar : List (List Int)} {E : List (Int × Int)} {q : Nat} {s t : MSt} {m : List Nat} (h : Run ar E q s m t) (hl : s.2.2.length = s.2.1.length) (h0 : ∀ x ∈ s.2.2, 0 ≤ x) : ∀ x ∈ t.2.2, 0 ≤ x := by
  induction h with
  | nil s => exact h0
  | @cons s t v l hv _ ih =>
    refine ih (by simp [mvS, addL_len, hl]) fun x hx => ?_
    rcases addL_mem (show x ∈ addL s.2.2 v 1 from hx) (by rw [hl]; exact hv.1) with h3 | ⟨z, h3, rfl⟩
    · exact h0 x h3
    · have := h0 z h3; omega
theorem sum_take_le : ∀ (l : List Int) (k : Nat), (∀ x ∈ l, 0 ≤ x) → 0 ≤ (l.take k).sum ∧ (l.take k).sum ≤ l.sum
  | [], k, _ => by simp
  | x :: r, 0, h => by
    have h1 := (sum_take_le r r.length fun y hy => h y (by simp [hy])).1
    have h2 := h x (by simp)
    rw [List.take_length] at h1
    simp
    omega
  | x :: r, k + 1, h => by
    obtain ⟨h1, h3⟩ := sum_take_le r k fun y hy => h y (by simp [hy])
    have h2 := h x (by simp)
    simp
    omega
theorem sum_take_succ {l : List Int} {k : Nat} {x : Int} (h : l[k]? = some x) : (l.take (k + 1)).sum = (l.take k).sum + x := by
  rw [List.take_add_one, h]
  simp

/-- The two ways of All: an end, or the error of the limit. -/
theorem all_case {n : Int} {es : List Edg} {f : List Nat} {ar : List (List Int)} {q : Nat} {rot d : List Int} (h : gvE n es f ar q rot d = 0) :
    (∃ m s, allRes n es f ar q rot d = (s.1, s.2.2, 0) ∧ Run ar (endsL es) q (start rot d d.length) m s ∧ (∀ u, ¬ Can q s u) ∧ m.length < 1048577) ∨ allRes n es f ar q rot d = ([], [], 12) := by
  unfold allRes
  rw [if_pos h]
  exact moves_case pk0_ok 1048577 rot d

end Go.Proofs.Ytopldbnlehjlpaa

set_option linter.unusedVariables false
set_option linter.unusedSimpArgs false
set_option linter.unnecessarySimpa false
namespace Go.Proofs.Ytopldbnlehjlpaa
open Go.RowKit

theorem perm_rest : ∀ {l own : List Int}, l.Nodup → (∀ x ∈ l, x ∈ own) → ∃ r, own.Perm (l ++ r)
  | [], own, _, _ => ⟨own, .refl _⟩
  | x :: l, own, hn, hm => by
    have hx : x ∈ own := hm x (by simp)
    rw [List.nodup_cons] at hn
    obtain ⟨r, hr⟩ := perm_rest (own := own.erase x) hn.2 (fun y hy => (List.mem_erase_of_ne (fun e : y = x => hn.1 (by rw [← e]; exact hy))).2 (hm y (by simp [hy])))
    exact ⟨r, (List.perm_cons_erase hx).trans (hr.cons x)⟩
theorem perm_of {l own : List Int} (hn : l.Nodup) (hm : ∀ x ∈ l, x ∈ own) (hl : l.length = own.length) : l.Perm own := by
  obtain ⟨r, hr⟩ := perm_rest hn hm
  have h1 := hr.length_eq
  rw [List.length_append] at h1
  have h0 : r = [] := List.eq_nil_of_length_eq_zero (by omega)
  rw [h0, List.append_nil] at hr
  exact hr.symm
theorem listE_perm {l own : List Int} (h : listE l own = 0) : l.Perm own := by
  obtain ⟨h1, h2⟩ := listE_zero h
  have h3 : scanE own [] l = 0 := by
    unfold listE at h
    rw [if_pos h1] at h
    by_cases hs : scanE own [] l = 0
    · exact hs
    · rw [if_neg hs] at h; exact absurd h hs
  have h4 := (scanE_zero h3 (by simp) (by simp)).1
  simp only [List.nil_append] at h4
  exact perm_of h4 h2 h1

/-- The half-edges of a vertex whose other ends are u. -/
def toU (E : List (Int × Int)) (u : Int) (h : Int) : Bool := hv E (oppH h.toNat) == u
def oneF (v u : Int) (p : Int × Int) : Int := (if p.1 = v ∧ p.2 = u then 1 else 0) + (if p.2 = v ∧ p.1 = u then 1 else 0)
def sumF (v u : Int) : List (Int × Int) → Int
  | [] => 0
  | p :: r => oneF v u p + sumF v u r
theorem sumF_app (v u : Int) (l m : List (Int × Int)) : sumF v u (l ++ m) = sumF v u l + sumF v u m := by
  induction l with
  | nil => simp [sumF]
  | cons p r ih => simp only [List.cons_append, sumF, ih]; omega
theorem half_to {l : List (Int × Int)} {v : Nat} {u : Int} : ∀ k, k ≤ l.length → (((halfU l (2 * k) v).countP (toU l u) : Nat) : Int) = sumF v u (l.take k)
  | 0, _ => by simp [halfU, sumF]
  | k + 1, hk => by
    have ih := half_to (l := l) (v := v) (u := u) k (by omega)
    have hg : l.getD k (0, 0) = l[k] := by rw [List.getD_eq_getElem?_getD, List.getElem?_eq_getElem (by omega)]; rfl
    have h1 : hv l (2 * k) = (l[k]).1 := by rw [hv, if_pos (by omega), show 2 * k / 2 = k by omega, hg]
    have h2 : hv l (2 * k + 1) = (l[k]).2 := by rw [hv, if_neg (by omega), show (2 * k + 1) / 2 = k by omega, hg]
    have o1 : oppH (2 * k) = 2 * k + 1 := by unfold oppH; rw [if_pos (by omega)]
    have o2 : oppH (2 * k + 1) = 2 * k := by unfold oppH; rw [if_neg (by omega)]; omega
    have t1 : toU l u ((2 * k : Nat) : Int) = ((l[k]).2 == u) := by unfold toU; rw [Int.toNat_natCast, o1, h2]
    have t2 : toU l u ((2 * k + 1 : Nat) : Int) = ((l[k]).1 == u) := by unfold toU; rw [Int.toNat_natCast, o2, h1]
    have e : l.take (k + 1) = l.take k ++ [l[k]] := by rw [List.take_add_one, List.getElem?_eq_getElem (by omega)]; rfl
    rw [e, sumF_app, ← ih, show 2 * (k + 1) = (2 * k + 1) + 1 by omega]
    simp only [sumF, oneF]
    have a1 : hv l (2 * k) = (v : Int) ↔ (l[k]).1 = (v : Int) := by rw [h1]
    have a2 : hv l (2 * k + 1) = (v : Int) ↔ (l[k]).2 = (v : Int) := by rw [h2]
    generalize (l[k]).1 = A at *
    generalize (l[k]).2 = B at *
    by_cases c1 : hv l (2 * k) = (v : Int) <;> by_cases c2 : hv l (2 * k + 1) = (v : Int)
    · have b1 := a1.1 c1
      have b2 := a2.1 c2
      rw [halfU_yes c2, halfU_yes c1, List.countP_append, List.countP_append, List.countP_singleton, List.countP_singleton, t1, t2]
      simp only [beq_iff_eq]
      clear h1 h2 a1 a2 t1 t2 c1 c2
      split <;> split <;> split <;> split <;> omega
    · have b1 := a1.1 c1
      have b2 : ¬ B = (v : Int) := fun hh => c2 (a2.2 hh)
      rw [halfU_no c2, halfU_yes c1, List.countP_append, List.countP_singleton, t1]
      simp only [beq_iff_eq]
      clear h1 h2 a1 a2 t1 t2 c1 c2
      split <;> split <;> split <;> omega
    · have b1 : ¬ A = (v : Int) := fun hh => c1 (a1.2 hh)
      have b2 := a2.1 c2
      rw [halfU_yes c2, halfU_no c1, List.countP_append, List.countP_singleton, t2]
      simp only [beq_iff_eq]
      clear h1 h2 a1 a2 t1 t2 c1 c2
      split <;> split <;> split <;> omega
    · have b1 : ¬ A = (v : Int) := fun hh => c1 (a1.2 hh)
      have b2 : ¬ B = (v : Int) := fun hh => c2 (a2.2 hh)
      rw [halfU_no c2, halfU_no c1, if_neg (by intro hh; exact b1 hh.1), if_neg (by intro hh; exact b2 hh.1)]
      omega

end Go.Proofs.Ytopldbnlehjlpaa

set_option linter.unusedVariables false
set_option linter.unusedSimpArgs false
set_option linter.unnecessarySimpa false
namespace Go.Proofs.Ytopldbnlehjlpaa
open Go.RowKit

/-! ## Sums over the vertices -/
def sumB (g : Nat → Nat) : Nat → Nat
  | 0 => 0
  | k + 1 => sumB g k + g k
theorem sumB_upd {g g' : Nat → Nat} {y : Nat} : ∀ {k : Nat}, y < k → (∀ u, u ≠ y → g' u = g u) → sumB g' k + g y = sumB g k + g' y
  | 0, h, _ => absurd h (by omega)
  | k + 1, h, hg => by
    unfold sumB
    by_cases e : y = k
    · subst e
      have : ∀ j, j ≤ y → sumB g' j = sumB g j := fun j hj => by
        induction j with
        | zero => rfl
        | succ j ih => unfold sumB; rw [ih (by omega), hg j (by omega)]
      have := this y (Nat.le_refl _)
      omega
    · have := sumB_upd (k := k) (by omega) hg
      have := hg k (by omega)
      omega
theorem sumB_same {g g' : Nat → Nat} : ∀ {k : Nat}, (∀ u, u < k → g' u = g u) → sumB g' k = sumB g k
  | 0, _ => rfl
  | k + 1, h => by unfold sumB; rw [sumB_same fun u hu => h u (by omega), h k (by omega)]
theorem sumB_le {g : Nat → Nat} {b : Nat} : ∀ {k : Nat}, (∀ u, u < k → g u ≤ b) → sumB g k ≤ k * b
  | 0, _ => by simp [sumB]
  | k + 1, h => by
    have h1 := sumB_le (k := k) fun u hu => h u (by omega)
    have h2 := h k (by omega)
    unfold sumB
    rw [Nat.succ_mul]
    omega
theorem sumB_mono {g g' : Nat → Nat} : ∀ {k : Nat}, (∀ u, u < k → g u ≤ g' u) → sumB g k ≤ sumB g' k
  | 0, _ => by simp [sumB]
  | k + 1, h => by
    have h1 := sumB_mono (k := k) fun u hu => h u (by omega)
    have h2 := h k (by omega)
    unfold sumB
    omega

/-! ## The degrees -/
theorem degs_le (E : List (Int × Int)) (n : Nat) : ∀ m, sumB (fun v => (halfU E m v).length) n ≤ m
  | 0 => by
    have : ∀ k, sumB (fun v => (halfU E 0 v).length) k = 0 := fun k => by
      induction k with
      | zero => rfl
      | succ k ih => unfold sumB; rw [ih]; rfl
    rw [this]; exact Nat.le_refl _
  | m + 1 => by
    have ih := degs_le E n m
    by_cases hx : ∃ y : Nat, y < n ∧ hv E m = (y : Int)
    · obtain ⟨y, hy, he⟩ := hx
      have := sumB_upd (g := fun v => (halfU E m v).length) (g' := fun v => (halfU E (m + 1) v).length) hy fun u hu => by
        rw [halfU_no (by rw [he]; omega)]
      have h2 : (halfU E (m + 1) y).length = (halfU E m y).length + 1 := by rw [halfU_yes he]; simp
      omega
    · have : sumB (fun v => (halfU E (m + 1) v).length) n = sumB (fun v => (halfU E m v).length) n := sumB_same fun u hu => by
        rw [halfU_no fun e => hx ⟨u, hu, e⟩]
      omega

/-! ## All vertices of a connected graph are tied -/
theorem tied_all {n : Int} {es : List Edg} {f : List Nat} (hJ : jErr n es f = 0) (hU : gErr n es = 0 → Uf f (eL es)) {u v : Nat} (hu : (u : Int) < n) (hv' : (v : Int) < n) : Tied (eL es) u v := by
  have hV := jErr_zero hJ
  have U := hU hV
  have hn := (gErr_zero hV).1
  have hc : cnt f n.toNat = 1 := by
    unfold jErr at hJ
    rw [if_pos hV] at hJ
    split at hJ
    · rename_i h; unfold partsN at h; rw [if_pos hV] at h; exact h
    · cases hJ
  unfold cnt at hc
  obtain ⟨r, hr⟩ := List.length_eq_one_iff.1 hc
  have hroot : ∀ x : Nat, (x : Int) < n → rootF f x = r := fun x hx => by
    have h1 : rootF f x ≤ x := rootF_le U.fst (by omega)
    have h2 : rootF f (rootF f x) = rootF f x := rootF_self U.fst (rootF_fix U.fst (by omega))
    have h3 : rootF f x ∈ (List.range n.toNat).filter fun v => rootF f v == v := by
      rw [List.mem_filter]
      exact ⟨by rw [List.mem_range]; omega, by simp [h2]⟩
    rw [hr] at h3
    simpa using h3
  exact (U.same (by omega) (by omega)).1 ((hroot u hu).trans (hroot v hv').symm)
/-- An edge leads out of a set that is not all. -/
theorem cross_edge {n : Int} {es : List Edg} {f : List Nat} (hJ : jErr n es f = 0) (hU : gErr n es = 0 → Uf f (eL es)) (S : Nat → Bool) {u v : Nat} (hu : (u : Int) < n) (hv' : (v : Int) < n) (h1 : S u = true) (h2 : S v = false) :
    ∃ x ∈ es, S x.a.toNat ≠ S x.b.toNat := by
  apply Classical.byContradiction
  intro hno
  have h3 := tied_all hJ hU hu hv' (fun y => if S y = true then 1 else 0) fun x hx => by
    unfold eL at hx
    obtain ⟨y, hy, rfl⟩ := List.mem_map.1 hx
    have : S y.a.toNat = S y.b.toNat := Classical.byContradiction fun e => hno ⟨y, hy, e⟩
    simp only [this]
  simp [h1, h2] at h3
theorem mem_ends {es : List Edg} {x : Edg} (hx : x ∈ es) (hm : 1 ≤ x.m) : (x.a, x.b) ∈ endsL es := by
  unfold endsL
  rw [List.mem_flatMap]
  exact ⟨x, hx, by rw [List.mem_replicate]; exact ⟨by omega, rfl⟩⟩
/-- A slot of a vertex outside leads into the set. -/
theorem cross_slot {n : Int} {es : List Edg} {f : List Nat} {ar : List (List Int)} (hC : chkE n es f ar = 0) (hU : gErr n es = 0 → Uf f (eL es)) (S : Nat → Bool) {u v : Nat} (hu : (u : Int) < n) (hv' : (v : Int) < n) (h1 : S u = true) (h2 : S v = false) :
    ∃ (y : Nat) (l : List Int) (s h : Nat), ar[y]? = some l ∧ l[s]? = some (h : Int) ∧ S y = false ∧ S (hv (endsL es) (oppH h)).toNat = true := by
  obtain ⟨j1, j2, j3⟩ := chkE_zero hC
  have hV := jErr_zero j1
  obtain ⟨x, hx, hne⟩ := cross_edge j1 hU S hu hv' h1 h2
  have hx2 := (gErr_zero hV).2.1 x hx
  obtain ⟨g, hg, he⟩ := List.mem_iff_getElem.1 (mem_ends hx hx2.2.2.1)
  have gd : (endsL es).getD g (0, 0) = (x.a, x.b) := by rw [List.getD_eq_getElem?_getD, List.getElem?_eq_getElem hg]; exact he
  have v1 : hv (endsL es) (2 * g) = x.a := by rw [hv, if_pos (by omega), show 2 * g / 2 = g by omega, gd]
  have v2 : hv (endsL es) (2 * g + 1) = x.b := by rw [hv, if_neg (by omega), show (2 * g + 1) / 2 = g by omega, gd]
  have o1 : oppH (2 * g) = 2 * g + 1 := by unfold oppH; rw [if_pos (by omega)]
  have o2 : oppH (2 * g + 1) = 2 * g := by unfold oppH; rw [if_neg (by omega)]; omega
  have key : ∀ (h : Nat) (y : Nat), h < 2 * (endsL es).length → hv (endsL es) h = (y : Int) → (y : Int) < n → ∃ (l : List Int) (s : Nat), ar[y]? = some l ∧ l[s]? = some (h : Int) := fun h y hh hy hyn => by
    have hya : y < ar.length := by omega
    have hl : ar[y]? = some ar[y] := List.getElem?_eq_getElem hya
    have ho : (halfs n es)[y]? = some (halfU (endsL es) (2 * (endsL es).length) y) := halvesU_get (by omega)
    have hp := listE_perm (rowsE_zero j3 y _ _ hl ho)
    have hm : (h : Int) ∈ ar[y] := hp.mem_iff.2 (halfU_mem.2 ⟨h, rfl, hh, hy⟩)
    obtain ⟨s, hs, e⟩ := List.mem_iff_getElem.1 hm
    exact ⟨_, s, hl, by rw [List.getElem?_eq_getElem hs, e]⟩
  by_cases ha : S x.a.toNat = true
  · have hb : S x.b.toNat = false := by rw [ha] at hne; simpa using hne.symm
    obtain ⟨l, s, h3, h4⟩ := key (2 * g + 1) x.b.toNat (by omega) (by rw [v2]; omega) (by omega)
    exact ⟨_, l, s, _, h3, h4, hb, by rw [o2, v1]; exact ha⟩
  · have ha2 : S x.a.toNat = false := by simpa using ha
    have hb : S x.b.toNat = true := by rw [ha2] at hne; simpa using hne.symm
    obtain ⟨l, s, h3, h4⟩ := key (2 * g) x.a.toNat (by omega) (by rw [v1]; omega) (by omega)
    exact ⟨_, l, s, _, h3, h4, ha2, by rw [o1, v2]; exact hb⟩

end Go.Proofs.Ytopldbnlehjlpaa

set_option linter.unusedVariables false
set_option linter.unusedSimpArgs false
set_option linter.unnecessarySimpa false
namespace Go.Proofs.Ytopldbnlehjlpaa
open Go.RowKit

/-- j steps at k. -/
def turnN (ar : List (List Int)) (E : List (Int × Int)) (s : MSt) (k : Nat) : Nat → MSt
  | 0 => s
  | j + 1 => mvS ar E (turnN ar E s k j) k
theorem turn_at {ar : List (List Int)} {E : List (Int × Int)} {rot d t : List Int} {k r : Nat} {l : List Int} (hl : ar[k]? = some l) (hr : rot[k]? = some (r : Int)) (hrl : r < l.length) (hk : k < d.length) (hkt : k < t.length)
    (hto : ∀ x ∈ l, 0 ≤ hv E (oppH x.toNat) ∧ hv E (oppH x.toNat) < d.length) :
    ∀ j, (turnN ar E (rot, d, t) k j).1 = rot.set k (((r + j) % l.length : Nat) : Int) ∧ (turnN ar E (rot, d, t) k j).2.1.length = d.length ∧ (turnN ar E (rot, d, t) k j).2.2 = addL t k j ∧
      ∀ u : Nat, (turnN ar E (rot, d, t) k j).2.1.getD u 0 = d.getD u 0 - (if u = k then (j : Int) else 0) + (((List.range j).map fun i => l.getD ((r + 1 + i) % l.length) 0).countP (toU E u) : Nat)
  | 0 => by
    have hkr : k < rot.length := (List.getElem?_eq_some_iff.1 hr).1
    refine ⟨?_, rfl, ?_, fun u => ?_⟩
    · show rot = _
      rw [Nat.add_zero, Nat.mod_eq_of_lt hrl]
      apply List.ext_getElem?
      intro i
      rw [List.getElem?_set]
      split
      · rename_i h; subst h; first | exact hr | (rw [if_pos hkr]; exact hr)
      · rfl
    · show t = _
      refine addL_ext (by rw [addL_len]) fun b => ?_
      rw [addL_get]
      split <;> simp
    · show d.getD u 0 = _
      simp
  | j + 1 => by
    obtain ⟨h1, h2, h3, h4⟩ := turn_at hl hr hrl hk hkt hto j
    have hkr : k < rot.length := (List.getElem?_eq_some_iff.1 hr).1
    have hD : 0 < l.length := by omega
    have hK : stpK ar (turnN ar E (rot, d, t) k j).1 k = (r + 1 + j) % l.length := by
      unfold stpK
      rw [h1, getD_of (List.getElem?_set_self hkr), getD_of hl, Int.toNat_natCast, Nat.mod_add_mod]
      congr 1
      omega
    have hKl : (r + 1 + j) % l.length < l.length := Nat.mod_lt _ hD
    obtain ⟨x, hx⟩ : ∃ x, l[(r + 1 + j) % l.length]? = some x := ⟨_, List.getElem?_eq_getElem hKl⟩
    have hV : stpV ar E (turnN ar E (rot, d, t) k j).1 k = (hv E (oppH x.toNat)).toNat := by
      unfold stpV
      rw [hK, getD_of hl, getD_of hx]
    obtain ⟨p1, p2⟩ := hto x (List.mem_of_getElem? hx)
    refine ⟨?_, ?_, ?_, fun u => ?_⟩
    · show stpR ar (turnN ar E (rot, d, t) k j).1 k = _
      unfold stpR
      rw [hK, h1, List.set_set, show r + (j + 1) = r + 1 + j by omega]
    · show (addL (addL _ _ _) _ _).length = _
      rw [addL_len, addL_len, h2]
    · show addL (turnN ar E (rot, d, t) k j).2.2 k 1 = _
      rw [h3]
      refine addL_ext (by simp [addL_len]) fun b => ?_
      rw [addL_get, addL_get, addL_get, addL_len]
      split <;> omega
    · show (addL (addL (turnN ar E (rot, d, t) k j).2.1 k (-1)) (stpV ar E (turnN ar E (rot, d, t) k j).1 k) 1).getD u 0 = _
      rw [addL_get, addL_get, addL_len, h2, hV, h4 u, List.range_succ, List.map_append, List.countP_append, List.map_singleton, List.countP_singleton, getD_of hx]
      have hu : toU E u x = true ↔ (hv E (oppH x.toNat)).toNat = u := by
        unfold toU
        rw [beq_iff_eq]
        omega
      by_cases c1 : (hv E (oppH x.toNat)).toNat = u
      · rw [if_pos ⟨c1, by omega⟩, if_pos (hu.2 c1)]
        split <;> split <;> omega
      · rw [if_neg (by intro h; exact c1 h.1), if_neg (fun h => c1 (hu.1 h))]
        split <;> split <;> omega

/-- Once round is everywhere once. -/
theorem round_all (l : List Int) (s : Nat) (hs : s < l.length) : (List.range l.length).map (fun i => l.getD ((s + i) % l.length) 0) = l.drop s ++ l.take s := by
  apply List.ext_getElem
  · simp
    omega
  · intro i h1 h2
    have hi : i < l.length := by simpa using h1
    rw [List.getElem_map, List.getElem_range]
    by_cases c : s + i < l.length
    · rw [Nat.mod_eq_of_lt c, List.getElem_append_left (by simp; omega), List.getElem_drop, getD_of (List.getElem?_eq_getElem c)]
    · have hm : (s + i) % l.length = s + i - l.length := by
        rw [Nat.mod_eq_sub_mod (by omega), Nat.mod_eq_of_lt (by omega)]
      have hlt : s + i - l.length < l.length := by omega
      rw [hm, List.getElem_append_right (by simp; omega), List.getElem_take, getD_of (List.getElem?_eq_getElem hlt)]
      congr 1
      simp
      omega
theorem round_count (l : List Int) (r : Nat) (hr : r < l.length) (p : Int → Bool) : ((List.range l.length).map fun i => l.getD ((r + 1 + i) % l.length) 0).countP p = l.countP p := by
  have hs : (r + 1) % l.length < l.length := Nat.mod_lt _ (by omega)
  have h1 : ((List.range l.length).map fun i => l.getD ((r + 1 + i) % l.length) 0) = ((List.range l.length).map fun i => l.getD (((r + 1) % l.length + i) % l.length) 0) := by
    apply List.map_congr_left
    intro i _
    rw [Nat.mod_add_mod]
  rw [h1, round_all l _ hs, List.countP_append, Nat.add_comm, ← List.countP_append, List.take_append_drop]

/-- The steps are moves. -/
theorem turn_run {ar : List (List Int)} {E : List (Int × Int)} {q : Nat} {rot d t : List Int} {k r : Nat} {l : List Int} (hl : ar[k]? = some l) (hr : rot[k]? = some (r : Int)) (hrl : r < l.length) (hk : k < d.length) (hkt : k < t.length)
    (hto : ∀ x ∈ l, 0 ≤ hv E (oppH x.toNat) ∧ hv E (oppH x.toNat) < d.length) (hq : k ≠ q) (hd : (l.length : Int) ≤ d.getD k 0) :
    ∀ j, j ≤ l.length → Run ar E q (rot, d, t) (List.replicate j k) (turnN ar E (rot, d, t) k j)
  | 0, _ => .nil _
  | j + 1, hj => by
    have ih := turn_run (q := q) hl hr hrl hk hkt hto hq hd j (by omega)
    rw [List.replicate_succ', show k :: ([] : List Nat) = [k] from rfl]
    obtain ⟨h1, h2, h3, h4⟩ := turn_at hl hr hrl hk hkt hto j
    refine ih.append (.cons ⟨by rw [h2]; exact hk, hq, ?_⟩ (.nil _))
    rw [h4 k, if_pos rfl]
    omega

/-- The numbers of steps so far do not matter. -/
theorem Run.shift {ar : List (List Int)} {E : List (Int × Int)} {q : Nat} {s t : MSt} {m : List Nat} (h : Run ar E q s m t) (k : Nat) (x : Int) : Run ar E q (s.1, s.2.1, addL s.2.2 k x) m (t.1, t.2.1, addL t.2.2 k x) := by
  induction h with
  | nil s => exact .nil _
  | @cons s t v l hv _ ih =>
    refine .cons hv ?_
    have : mvS ar E (s.1, s.2.1, addL s.2.2 k x) v = ((mvS ar E s v).1, (mvS ar E s v).2.1, addL (mvS ar E s v).2.2 k x) := by
      unfold mvS
      simp only
      rw [addL_comm s.2.2 k v x 1]
    rw [this]
    exact ih

/-- A vertex fires. -/
theorem fire_law {n : Int} {es : List Edg} {ar : List (List Int)} {q : Nat} {rot d : List Int} {k : Nat} {l : List Int} (hok : RtOk n es ar q rot) (hdl : d.length = ar.length) (hl : ar[k]? = some l) (hlE : listE l (halfU (endsL es) (2 * (endsL es).length) k) = 0) (hq : k ≠ q) (hd : (l.length : Int) ≤ d.getD k 0) :
    ∃ d', Run ar (endsL es) q (start rot d d.length) (List.replicate l.length k) (rot, d', addL (List.replicate d.length 0) k l.length) ∧ d'.length = d.length ∧ ∀ u : Nat, d'.getD u 0 = d.getD u 0 - (if u = k then (l.length : Int) else 0) + sumF k u (endsL es) := by
  have hkar : k < ar.length := (List.getElem?_eq_some_iff.1 hl).1
  have hkr : k < rot.length := by rw [hok.nrot]; exact hkar
  have hr0 : rot[k]? = some rot[k] := List.getElem?_eq_getElem hkr
  obtain ⟨r1, _, r3⟩ := hok.rots k _ _ hr0 hl
  generalize rot[k] = y at hr0 r1 r3
  obtain ⟨r, rfl⟩ := Int.eq_ofNat_of_zero_le r1
  have hrl : r < l.length := by have := r3 hq; omega
  have hto : ∀ x ∈ l, 0 ≤ hv (endsL es) (oppH x.toNat) ∧ hv (endsL es) (oppH x.toNat) < d.length := fun x hx => by
    obtain ⟨_, w2⟩ := hok.rows k l hl
    obtain ⟨h, rfl, h2, _⟩ := w2 x hx
    have := hok.rng _ (oppH_lt h2)
    have hn := hok.nar
    rw [Int.toNat_natCast]
    omega
  have hkd : k < d.length := by omega
  have hkt : k < (List.replicate d.length (0 : Int)).length := by simpa using hkd
  obtain ⟨h1, h2, h3, h4⟩ := turn_at (t := List.replicate d.length (0 : Int)) hl hr0 hrl hkd hkt hto l.length
  have hrun := turn_run (t := List.replicate d.length (0 : Int)) hl hr0 hrl hkd hkt hto hq hd l.length (Nat.le_refl _)
  have e1 : (turnN ar (endsL es) (rot, d, List.replicate d.length 0) k l.length).1 = rot := by
    rw [h1, Nat.add_mod_right, Nat.mod_eq_of_lt hrl]
    apply List.ext_getElem?
    intro i
    rw [List.getElem?_set]
    split
    · rename_i h; subst h; first | exact hr0.symm | (rw [if_pos hkr]; exact hr0.symm)
    · rfl
  refine ⟨(turnN ar (endsL es) (rot, d, List.replicate d.length 0) k l.length).2.1, ?_, h2, fun u => ?_⟩
  · have e : turnN ar (endsL es) (rot, d, List.replicate d.length 0) k l.length = (rot, (turnN ar (endsL es) (rot, d, List.replicate d.length 0) k l.length).2.1, addL (List.replicate d.length 0) k l.length) := by
      rw [← h3]
      show _ = (rot, _, _)
      rw [← e1]
      rw [e1]
      exact Prod.ext e1 rfl
    rw [e] at hrun
    exact hrun
  · rw [h4 u, round_count l r hrl, (listE_perm hlE).countP_eq]
    have := half_to (l := endsL es) (v := k) (u := (u : Int)) (endsL es).length (Nat.le_refl _)
    rw [List.take_length] at this
    omega

end Go.Proofs.Ytopldbnlehjlpaa

set_option linter.unusedVariables false
set_option linter.unusedSimpArgs false
set_option linter.unnecessarySimpa false
namespace Go.Proofs.Ytopldbnlehjlpaa
open Go.RowKit

theorem rIn_any (k : Int) (w : World) : Calls Try.prog 111 #[.int .i64 k] w fun e w' => e = .returned (.bool (inChips k)) ∧ w = w' := by
  by_cases h1 : -1048576 ≤ k
  · by_cases h2 : k ≤ 1048576
    · have HR : Hid (inChips k = true) := by show _ = _; simp [inChips, h1, h2]
      have q1 : decide ((-1048576 : Int) ≤ k) = true := by simp [h1]
      have q2 : decide (k ≤ (1048576 : Int)) = true := by simp [h2]
      clear h1 h2
      go_enter Try.func111, Try.ntmps111
      go_wp2_with fail
      go_ret
      exact ⟨ret_bool HR.out.symm, rfl⟩
    · have HR : Hid (inChips k = false) := by show _ = _; simp [inChips]; omega
      have q1 : decide ((-1048576 : Int) ≤ k) = true := by simp [h1]
      have q2 : decide (k ≤ (1048576 : Int)) = false := by simp; omega
      clear h1 h2
      go_enter Try.func111, Try.ntmps111
      go_wp2_with fail
      go_ret
      exact ⟨ret_bool HR.out.symm, rfl⟩
  · have HR : Hid (inChips k = false) := by show _ = _; simp [inChips]; omega
    have q1 : decide ((-1048576 : Int) ≤ k) = false := by simp; omega
    clear h1
    go_enter Try.func111, Try.ntmps111
    go_wp2_with fail
    go_ret
    exact ⟨ret_bool HR.out.symm, rfl⟩

set_option maxRecDepth 100000 in
set_option maxHeartbeats 2000000 in
theorem rdcheck_any (n : Int) (d : List Int) (od : Option Addr) (cd : Nat) (F : Foot) (w : World) (hd : SliceR intR 1 F w od d) (hc : d.length ≤ cd) (hc2 : d.length ≤ 9223372036854775807) :
    Calls Try.prog 97 #[.slice od d.length cd, .int .i64 n] w fun e w' => e = .returned (.int .i64 (dErr n d)) ∧ w = w' := by
  by_cases h1 : 1 ≤ n
  · have q1 : decide (n < (1 : Int)) = false := by simp; omega
    by_cases h3 : n ≤ 12
    · have q2 : decide ((12 : Int) < n) = false := by simp; omega
      by_cases h2 : (d.length : Int) = n
      · have HR : Hid (dErr n d = dScan d) := by show _ = _; unfold dErr; rw [if_pos ⟨h1, h3⟩, if_pos h2]
        have q3 : ((d.length : Int) != n) = false := by simp [h2]
        have hn := hide h2
        clear h1 h3 h2
        go_enter Try.func97, Try.ntmps97
        go_wp2_with fail
        go_loopw [5] (fun iv wr => ∃ k : Nat, k ≤ d.length ∧ iv = .int .i64 k ∧ Hid (dErr n d = dScan (d.drop k)) ∧ wr = w) (fun iv _ => d.length - (intOf iv).toNat)
        case atStart => exact ⟨0, by omega, rfl, HR, rfl⟩
        case round =>
          obtain ⟨k, hk, rfl, HS, rfl⟩ := hrel
          by_cases hlt : k < d.length
          · have q4 : decide ((k : Int) < n) = true := by have := hn.out; simp; omega
            obtain ⟨x, hdr, _, ix, b, off, hod, _, c0⟩ := hd.int_at hlt
            subst hod
            have HS2 : Hid (dErr n d = if inChips x = true then dScan (d.drop (k + 1)) else 2) := by show _ = _; rw [HS.out, hdr]; rfl
            clear hdr
            by_cases hx : inChips x = true
            · have HS3 : Hid (dErr n d = dScan (d.drop (k + 1))) := by show _ = _; rw [HS2.out, if_pos hx]
              have hI := rIn_any x wr
              rw [hx] at hI
              clear hx
              go_wp2_with fail
              refine hI.mono ?_
              rintro e w3 ⟨rfl, rfl⟩
              go_wp2_with fail
              go_roundw
              case rel => exact ⟨k + 1, by omega, by go_num, HS3, by first | rfl | trivial⟩
              case measure => simp [intOf]; omega
            · have HS3 : Hid (dErr n d = 2) := by show _ = _; rw [HS2.out, if_neg hx]
              have hx2 : inChips x = false := by simpa using hx
              have hI := rIn_any x wr
              rw [hx2] at hI
              clear hx hx2
              go_wp2_with fail
              refine hI.mono ?_
              rintro e w3 ⟨rfl, rfl⟩
              go_wp2_with fail
              go_ret
              exact ⟨ret_int HS3.out.symm, rfl⟩
          · have q4 : decide ((k : Int) < n) = false := by have := hn.out; simp; omega
            have hke : k = d.length := by omega
            have HS3 : Hid (dErr n d = 0) := by show _ = _; rw [HS.out, hke, List.drop_length]; rfl
            clear hke
            go_wp2_with fail
            go_ret
            exact ⟨ret_int HS3.out.symm, rfl⟩
      · have HR : Hid (dErr n d = 8) := by show _ = _; unfold dErr; rw [if_pos ⟨h1, h3⟩, if_neg h2]
        have q3 : ((d.length : Int) != n) = true := by simp [h2]
        clear h1 h3 h2
        go_enter Try.func97, Try.ntmps97
        go_wp2_with fail
        go_ret
        exact ⟨ret_int HR.out.symm, rfl⟩
    · have HR : Hid (dErr n d = 2) := if_neg (by omega)
      have q2 : decide ((12 : Int) < n) = true := by simp; omega
      clear h1 h3
      go_enter Try.func97, Try.ntmps97
      go_wp2_with fail
      go_ret
      exact ⟨ret_int HR.out.symm, rfl⟩
  · have HR : Hid (dErr n d = 2) := if_neg (by omega)
    have q1 : decide (n < (1 : Int)) = true := by simp; omega
    clear h1
    go_enter Try.func97, Try.ntmps97
    go_wp2_with fail
    go_ret
    exact ⟨ret_int HR.out.symm, rfl⟩

/-- The error of the chips alone. -/
def chE (n q : Int) (d : List Int) : Int := if dErr n d = 0 then gScan q 0 d else dErr n d

set_option maxRecDepth 100000 in
set_option maxHeartbeats 2000000 in
theorem rchips_any (n : Int) (oe : Option Addr) (k c : Nat) (oa : Option Addr) (l ca : Nat) (q : Int) (d : List Int) (od : Option Addr) (cd : Nat) (F : Foot) (w : World) (hd : SliceR intR 1 F w od d) (hc : d.length ≤ cd) (hc2 : d.length ≤ 9223372036854775807) :
    Calls Try.prog 78 #[.agg #[.int .i64 n, .slice oe k c, .slice oa l ca], .int .i64 q, .slice od d.length cd] w (ErrPost w (chE n q d)) := by
  have hb0 := bnew (Below.refl w.heap.size w) (.cells #[.int .i64 n, .slice oe k c, .slice oa l ca] 27)
  have HK := hide (rdcheck_any n d od cd F _ (hd.below intR_ok hb0) hc hc2)
  have HD := hide (hd.below intR_ok hb0)
  have HB := hide hb0
  clear hb0 hd
  go_enter Try.func78, Try.ntmps78
  go_wp2_with fail
  refine HK.out.mono ?_
  rintro e w2 ⟨rfl, rfl⟩
  by_cases hE : dErr n d = 0
  · have HG : Hid (chE n q d = gScan q 0 d) := if_pos hE
    rw [hE]
    clear hE
    go_wp2_with fail
    obtain ⟨W1, hW1⟩ : ∃ W1, w.alloc (.cells #[.int .i64 n, .slice oe k c, .slice oa l ca] 27) = W1 := ⟨_, rfl⟩
    rw [hW1] at HD HB ⊢
    clear hW1 HK
    go_loopw [8] (fun iv wr => ∃ k : Nat, k ≤ d.length ∧ iv = .int .i64 k ∧ Hid (chE n q d = gScan q k (d.drop k)) ∧ wr = W1) (fun iv _ => d.length - (intOf iv).toNat)
    case atStart => exact ⟨0, by omega, rfl, HG, rfl⟩
    case round =>
      obtain ⟨k, hk, rfl, HS, rfl⟩ := hrel
      by_cases hlt : k < d.length
      · obtain ⟨x, hdr, _, ix, b, off, hod, _, c0⟩ := HD.out.int_at hlt
        subst hod
        have HS2 : Hid (chE n q d = if (k : Int) ≠ q ∧ x < 0 then 2 else gScan q (k + 1) (d.drop (k + 1))) := by show _ = _; rw [HS.out, hdr]; rfl
        clear hdr
        by_cases hkq : (k : Int) = q
        · have q1 : ((k : Int) != q) = false := by simp [hkq]
          have HS3 : Hid (chE n q d = gScan q (k + 1) (d.drop (k + 1))) := by show _ = _; rw [HS2.out, if_neg (by intro h; exact h.1 hkq)]
          clear hkq
          go_wp2_with fail
          go_roundw
          case rel => exact ⟨k + 1, by omega, by go_num, HS3, by first | rfl | trivial⟩
          case measure => simp [intOf]; omega
        · have q1 : ((k : Int) != q) = true := by simp [hkq]
          by_cases hx : x < 0
          · have q2 : decide (x < 0) = true := by simp [hx]
            have HS3 : Hid (chE n q d = 2) := by show _ = _; rw [HS2.out, if_pos ⟨hkq, hx⟩]
            clear hkq hx
            go_wp2_with fail
            go_ret
            exact ⟨ret_int HS3.out.symm, HB.out⟩
          · have q2 : decide (x < 0) = false := by simp; omega
            have HS3 : Hid (chE n q d = gScan q (k + 1) (d.drop (k + 1))) := by show _ = _; rw [HS2.out, if_neg (by intro h; exact hx h.2)]
            clear hkq hx
            go_wp2_with fail
            go_roundw
            case rel => exact ⟨k + 1, by omega, by go_num, HS3, by first | rfl | trivial⟩
            case measure => simp [intOf]; omega
      · have hke : k = d.length := by omega
        have HS3 : Hid (chE n q d = 0) := by show _ = _; rw [HS.out, hke, List.drop_length]; rfl
        clear hke
        go_wp2_with fail
        go_ret
        exact ⟨ret_int HS3.out.symm, HB.out⟩
  · have HG : Hid (chE n q d = dErr n d) := if_neg hE
    have hq : (dErr n d != 0) = true := by simpa using hE
    clear hE
    go_wp2_with fail
    go_ret
    exact ⟨ret_int HG.out.symm, HB.out⟩

set_option maxRecDepth 100000 in
set_option maxHeartbeats 2000000 in
theorem rgiven_any (n : Int) (es : List Edg) (oe : Option Addr) (c : Nat) (ar : List (List Int)) (oa : Option Addr) (ca : Nat) (F G : Foot) (w : World) (hs : SliceR edgR 3 F w oe es) (hc : es.length ≤ c) (hc2 : es.length ≤ 1000)
    (ha : SliceR (slcR intR 1) 1 G w oa ar) (hac : ar.length ≤ ca) (hac2 : ar.length ≤ 9223372036854775807) (f : List Nat) (hU : Hid (gErr n es = 0 → Uf f (eL es)))
    (q : Int) (rot : List Int) (ot : Option Addr) (ct : Nat) (H : Foot) (hr : SliceR intR 1 H w ot rot) (hrc : rot.length ≤ ct) (hrl : rot.length ≤ 9223372036854775807)
    (d : List Int) (od : Option Addr) (cd : Nat) (D : Foot) (hd : SliceR intR 1 D w od d) (hdc : d.length ≤ cd) (hdl : d.length ≤ 9223372036854775807) :
    Calls Try.prog 55 #[.agg #[.int .i64 n, .slice oe es.length c, .slice oa ar.length ca], .int .i64 q, .slice ot rot.length ct, .slice od d.length cd] w (ErrPost w (gvE n es f ar q rot d)) := by
  go_enter Try.func55, Try.ntmps55
  go_wp2_with fail
  have hb0 := box_refl w (.cells #[.int .i64 n, .slice oe es.length c, .slice oa ar.length ca] 27)
  refine (r45check_any n es oe c ar oa ca F G _ (hs.below edgR_ok (below_box hb0)) hc hc2 (ha.below (slcR_ok intR_ok (by decide)) (below_box hb0)) hac hac2 f hU q rot ot ct H (hr.below intR_ok (below_box hb0)) hrc hrl).mono ?_
  rintro e w2 ⟨rfl, hb2⟩
  have hx2 := hb2.mono (B' := w.heap.size + 1) (by simp)
  have d0 := box_cell hx2 0
  have d1 := box_cell hx2 1
  have d2 := box_cell hx2 2
  simp at d0 d1 d2
  have HX := hide (below_box hx2)
  clear hb2 hb0 hx2
  by_cases hR : rtE n es f ar q rot = 0
  · have HG : Hid (gvE n es f ar q rot d = chE n q d) := if_pos hR
    rw [hR]
    clear hR
    go_wp2_with fail
    refine (rchips_any n oe es.length c oa ar.length ca q d od cd D w2 (hd.below intR_ok HX.out) hdc hdl).mono ?_
    rintro e w3 ⟨rfl, hb3⟩
    have HB := hide (HX.out.trans (hb3.mono HX.out.size))
    clear hb3
    go_wp2_with fail
    go_ret
    exact ⟨ret_int HG.out.symm, HB.out⟩
  · have HG : Hid (gvE n es f ar q rot d = rtE n es f ar q rot) := if_neg hR
    have hq : (rtE n es f ar q rot != 0) = true := by simpa using hR
    clear hR
    go_wp2_with fail
    go_ret
    exact ⟨ret_int HG.out.symm, HX.out⟩

end Go.Proofs.Ytopldbnlehjlpaa

set_option linter.unusedVariables false
set_option linter.unusedSimpArgs false
set_option linter.unnecessarySimpa false
namespace Go.Proofs.Ytopldbnlehjlpaa
open Go.RowKit

theorem few17_any (d : List Int) (od : Option Addr) (cd : Nat) (w : World) : Calls Try.prog 53 #[.slice od d.length cd] w fun e w' => e = .returned (.bool (decide (d.length ≤ 24))) ∧ Below w.heap.size w w' := by
  have HR : Hid (decide (d.length ≤ 24) = decide ((d.length : Int) ≤ 24)) := by show _ = _; simp; omega
  go_enter Try.func53, Try.ntmps53
  go_wp2_with fail
  go_ret
  exact ⟨ret_bool HR.out.symm, Below.refl _ _⟩

/-- All chips are from -60 to 60. -/
def smD : List Int → Bool
  | [] => true
  | x :: r => if x < -60 ∨ 60 < x then false else smD r
theorem smD_yes : ∀ {d : List Int}, smD d = true → ∀ x ∈ d, -60 ≤ x ∧ x ≤ 60
  | [], _, x, hx => by cases hx
  | y :: r, h, x, hx => by
    unfold smD at h
    split at h
    · cases h
    · rename_i h1
      rcases List.mem_cons.1 hx with rfl | h2
      · omega
      · exact smD_yes h x h2

set_option maxRecDepth 100000 in
set_option maxHeartbeats 2000000 in
theorem smD_any (d : List Int) (od : Option Addr) (cd : Nat) (F : Foot) (w : World) (hd : SliceR intR 1 F w od d) (hc : d.length ≤ cd) (hc2 : d.length ≤ 9223372036854775807) :
    Calls Try.prog 54 #[.slice od d.length cd] w fun e w' => e = .returned (.bool (smD d)) ∧ Below w.heap.size w w' := by
  go_enter Try.func54, Try.ntmps54
  go_wp2_with fail
  go_loopw [3] (fun iv wr => ∃ k : Nat, k ≤ d.length ∧ iv = .int .i64 k ∧ Hid (smD d = smD (d.drop k)) ∧ wr = w) (fun iv _ => d.length - (intOf iv).toNat)
  case atStart => exact ⟨0, by omega, rfl, rfl, rfl⟩
  case round =>
    obtain ⟨k, hk, rfl, HS, rfl⟩ := hrel
    by_cases hlt : k < d.length
    · obtain ⟨x, hdr, _, ix, b, off, hod, _, c0⟩ := hd.int_at hlt
      subst hod
      have HS2 : Hid (smD d = if x < -60 ∨ 60 < x then false else smD (d.drop (k + 1))) := by show _ = _; rw [HS.out, hdr]; rfl
      clear hdr
      by_cases h1 : x < -60
      · have q1 : decide (x < (-60 : Int)) = true := by simp [h1]
        have HS3 : Hid (smD d = false) := by show _ = _; rw [HS2.out, if_pos (.inl h1)]
        clear h1
        go_wp2_with fail
        go_ret
        exact ⟨ret_bool HS3.out.symm, Below.refl _ _⟩
      · have q1 : decide (x < (-60 : Int)) = false := by simp; omega
        by_cases h2 : 60 < x
        · have q2 : decide ((60 : Int) < x) = true := by simp [h2]
          have HS3 : Hid (smD d = false) := by show _ = _; rw [HS2.out, if_pos (.inr h2)]
          clear h1 h2
          go_wp2_with fail
          go_ret
          exact ⟨ret_bool HS3.out.symm, Below.refl _ _⟩
        · have q2 : decide ((60 : Int) < x) = false := by simp; omega
          have HS3 : Hid (smD d = smD (d.drop (k + 1))) := by show _ = _; rw [HS2.out, if_neg (by omega)]
          clear h1 h2
          go_wp2_with fail
          go_roundw
          case rel => exact ⟨k + 1, by omega, by go_num, HS3, by first | rfl | trivial⟩
          case measure => simp [intOf]; omega
    · have hke : k = d.length := by omega
      have HS3 : Hid (smD d = true) := by show _ = _; rw [HS.out, hke, List.drop_length]; rfl
      clear hke
      go_wp2_with fail
      go_ret
      exact ⟨ret_bool HS3.out.symm, Below.refl _ _⟩

/-- What the laws' functions on games lean on between their calls. -/
structure GamCtx (w : World) (n : Int) (es : List Edg) (oe : Option Addr) (c : Nat) (ar : List (List Int)) (oa : Option Addr) (ca : Nat) (q : Int) (rot : List Int) (ot : Option Addr) (ct : Nat) (d : List Int) (od : Option Addr) (cd : Nat) (pk : List Int) (op : Option Addr) (cp : Nat) (W : World) : Prop where
  hes : SliceR edgR 3 All W oe es
  har : SliceR (slcR intR 1) 1 All W oa ar
  hrt : SliceR intR 1 All W ot rot
  hdd : SliceR intR 1 All W od d
  hpk : SliceR intR 1 All W op pk
  b1 : Box W w.heap.size [.int .i64 n, .slice oe es.length c, .slice oa ar.length ca] 27
  b2 : Box W (w.heap.size + 1) [.int .i64 q, .slice ot rot.length ct, .slice od d.length cd, .slice op pk.length cp] 54
  low : Below w.heap.size w W
section
variable {w : World} {n : Int} {es : List Edg} {oe : Option Addr} {c : Nat} {ar : List (List Int)} {oa : Option Addr} {ca : Nat} {q : Int} {rot : List Int} {ot : Option Addr} {ct : Nat} {d : List Int} {od : Option Addr} {cd : Nat} {pk : List Int} {op : Option Addr} {cp : Nat}
theorem GamCtx.below {W W' : World} (h : GamCtx w n es oe c ar oa ca q rot ot ct d od cd pk op cp W) (hb : Below W.heap.size W W') : GamCtx w n es oe c ar oa ca q rot ot ct d od cd pk op cp W' :=
  ⟨h.hes.below edgR_ok hb, h.har.below (slcR_ok intR_ok (by decide)) hb, h.hrt.below intR_ok hb, h.hdd.below intR_ok hb, h.hpk.below intR_ok hb, h.b1.below hb, h.b2.below hb, h.low.trans (hb.mono h.low.size)⟩
theorem GamCtx.new (h1 : SliceR edgR 3 All w oe es) (h2 : SliceR (slcR intR 1) 1 All w oa ar) (h3 : SliceR intR 1 All w ot rot) (h4 : SliceR intR 1 All w od d) (h5 : SliceR intR 1 All w op pk) :
    GamCtx w n es oe c ar oa ca q rot ot ct d od cd pk op cp ((w.alloc (.cells #[.int .i64 n, .slice oe es.length c, .slice oa ar.length ca] 27)).alloc (.cells #[.int .i64 q, .slice ot rot.length ct, .slice od d.length cd, .slice op pk.length cp] 54)) := by
  have hb := bnew (bnew (Below.refl w.heap.size w) (.cells #[.int .i64 n, .slice oe es.length c, .slice oa ar.length ca] 27)) (.cells #[.int .i64 q, .slice ot rot.length ct, .slice od d.length cd, .slice op pk.length cp] 54)
  refine ⟨h1.below edgR_ok hb, h2.below (slcR_ok intR_ok (by decide)) hb, h3.below intR_ok hb, h4.below intR_ok hb, h5.below intR_ok hb, (Box.new w [.int .i64 n, .slice oe es.length c, .slice oa ar.length ca] 27).next _, ?_, hb⟩
  have := Box.new (w.alloc (.cells #[.int .i64 n, .slice oe es.length c, .slice oa ar.length ca] 27)) [.int .i64 q, .slice ot rot.length ct, .slice od d.length cd, .slice op pk.length cp] 54
  simpa using this
end

/-- A right and small game. -/
def smallB (n : Int) (es : List Edg) (ar : List (List Int)) (q : Int) (rot d : List Int) : Bool :=
  if few45 n es ar rot = true then (if d.length ≤ 24 then (if gvE n es (forest es) ar q rot d = 0 then smD d else false) else false) else false
theorem smallB_yes {n : Int} {es : List Edg} {ar : List (List Int)} {q : Int} {rot d : List Int} (h : smallB n es ar q rot d = true) : few45 n es ar rot = true ∧ gvE n es (forest es) ar q rot d = 0 ∧ smD d = true := by
  unfold smallB at h
  split at h
  · rename_i h1
    split at h
    · split at h
      · rename_i h3; exact ⟨h1, h3, h⟩
      · cases h
    · cases h
  · cases h

set_option maxRecDepth 100000 in
set_option maxHeartbeats 4000000 in
theorem small45_any (n : Int) (es : List Edg) (oe : Option Addr) (c : Nat) (ar : List (List Int)) (oa : Option Addr) (ca : Nat) (q : Int) (rot : List Int) (ot : Option Addr) (ct : Nat) (d : List Int) (od : Option Addr) (cd : Nat) (pk : List Int) (op : Option Addr) (cp : Nat) (w : World)
    (hs : SliceR edgR 3 All w oe es) (hc : es.length ≤ c) (hc2 : es.length ≤ 9223372036854775807) (ha : SliceR (slcR intR 1) 1 All w oa ar) (hac : ar.length ≤ ca) (hac2 : ar.length ≤ 9223372036854775807) (hr : SliceR intR 1 All w ot rot) (hrc : rot.length ≤ ct) (hrl : rot.length ≤ 9223372036854775807)
    (hd : SliceR intR 1 All w od d) (hdc : d.length ≤ cd) (hdl : d.length ≤ 9223372036854775807) (hp : SliceR intR 1 All w op pk) :
    Calls Try.prog 30 #[.agg #[.int .i64 n, .slice oe es.length c, .slice oa ar.length ca], .agg #[.int .i64 q, .slice ot rot.length ct, .slice od d.length cd, .slice op pk.length cp]] w fun e w' => e = .returned (.bool (smallB n es ar q rot d)) ∧ Below w.heap.size w w' := by
  have hU : Hid (gErr n es = 0 → Uf (forest es) (eL es)) := forest_ok n es
  have C0 := GamCtx.new (n := n) (c := c) (ca := ca) (q := q) (ct := ct) (cd := cd) (cp := cp) hs ha hr hd hp
  obtain ⟨W1, hW1⟩ : ∃ W1, (w.alloc (.cells #[.int .i64 n, .slice oe es.length c, .slice oa ar.length ca] 27)).alloc (.cells #[.int .i64 q, .slice ot rot.length ct, .slice od d.length cd, .slice op pk.length cp] 54) = W1 := ⟨_, rfl⟩
  rw [hW1] at C0
  have HC := hide C0
  have d0 := HC.out.b1.cell 0
  have d1 := HC.out.b1.cell 1
  have d2 := HC.out.b1.cell 2
  have p0 := HC.out.b2.cell 0
  have p1 := HC.out.b2.cell 1
  have p2 := HC.out.b2.cell 2
  have p3 := HC.out.b2.cell 3
  simp only [List.getElem?_cons_zero, List.getElem?_cons_succ] at d0 d1 d2 p0 p1 p2 p3
  clear hs ha hr hd hp C0
  go_enter Try.func30, Try.ntmps30
  go_wp2_with fail
  clear d0 d1 d2 p0 p1 p2 p3
  refine (few45_any n es oe c ar oa ca All All _ HC.out.hes hc hc2 HC.out.har hac hac2 rot ot ct).mono ?_
  rintro e W2 ⟨rfl, hb⟩
  replace HC := hide (HC.out.below hb)
  clear hb hW1
  by_cases hF : few45 n es ar rot = true
  · obtain ⟨hc3, _, _⟩ := few45_yes hF
    have HS : Hid (smallB n es ar q rot d = if d.length ≤ 24 then (if gvE n es (forest es) ar q rot d = 0 then smD d else false) else false) := if_pos hF
    rw [hF]
    clear hF
    have d0 := HC.out.b1.cell 0
    have d1 := HC.out.b1.cell 1
    have d2 := HC.out.b1.cell 2
    have p0 := HC.out.b2.cell 0
    have p1 := HC.out.b2.cell 1
    have p2 := HC.out.b2.cell 2
    have p3 := HC.out.b2.cell 3
    simp only [List.getElem?_cons_zero, List.getElem?_cons_succ] at d0 d1 d2 p0 p1 p2 p3
    go_wp2_with fail
    clear d0 d1 d2 p0 p1 p2 p3
    refine (few17_any d od cd W2).mono ?_
    rintro e W3 ⟨rfl, hb⟩
    replace HC := hide (HC.out.below hb)
    clear hb
    by_cases h24 : d.length ≤ 24
    · have HS2 : Hid (smallB n es ar q rot d = if gvE n es (forest es) ar q rot d = 0 then smD d else false) := by show _ = _; rw [HS.out, if_pos h24]
      have q1 : decide (d.length ≤ 24) = true := by simp [h24]
      rw [q1]
      clear h24 q1 HS
      have d0 := HC.out.b1.cell 0
      have d1 := HC.out.b1.cell 1
      have d2 := HC.out.b1.cell 2
      have p0 := HC.out.b2.cell 0
      have p1 := HC.out.b2.cell 1
      have p2 := HC.out.b2.cell 2
      have p3 := HC.out.b2.cell 3
      simp only [List.getElem?_cons_zero, List.getElem?_cons_succ] at d0 d1 d2 p0 p1 p2 p3
      go_wp2_with fail
      clear d0 d1 d2 p0 p1 p2 p3
      refine (rgiven_any n es oe c ar oa ca All All W3 HC.out.hes hc (by omega) HC.out.har hac hac2 (forest es) hU q rot ot ct All HC.out.hrt hrc hrl d od cd All HC.out.hdd hdc hdl).mono ?_
      rintro e W4 ⟨rfl, hb⟩
      replace HC := hide (HC.out.below hb)
      clear hb
      by_cases hG : gvE n es (forest es) ar q rot d = 0
      · have HS3 : Hid (smallB n es ar q rot d = smD d) := by show _ = _; rw [HS2.out, if_pos hG]
        rw [hG]
        clear hG HS2
        have d0 := HC.out.b1.cell 0
        have d1 := HC.out.b1.cell 1
        have d2 := HC.out.b1.cell 2
        have p0 := HC.out.b2.cell 0
        have p1 := HC.out.b2.cell 1
        have p2 := HC.out.b2.cell 2
        have p3 := HC.out.b2.cell 3
        simp only [List.getElem?_cons_zero, List.getElem?_cons_succ] at d0 d1 d2 p0 p1 p2 p3
        go_wp2_with fail
        clear d0 d1 d2 p0 p1 p2 p3
        refine (smD_any d od cd All W4 HC.out.hdd hdc hdl).mono ?_
        rintro e W5 ⟨rfl, hb⟩
        replace HC := hide (HC.out.below hb)
        clear hb
        go_wp2_with fail
        go_ret
        exact ⟨ret_bool HS3.out.symm, HC.out.low⟩
      · have HS3 : Hid (smallB n es ar q rot d = false) := by show _ = _; rw [HS2.out, if_neg hG]
        have q2 : (gvE n es (forest es) ar q rot d == 0) = false := by simpa using hG
        clear hG HS2
        go_wp2_with fail
        go_ret
        exact ⟨ret_bool HS3.out.symm, HC.out.low⟩
    · have HS2 : Hid (smallB n es ar q rot d = false) := by show _ = _; rw [HS.out, if_neg h24]
      have q1 : decide (d.length ≤ 24) = false := by simp; omega
      rw [q1]
      clear h24 q1 HS
      go_wp2_with fail
      go_ret
      exact ⟨ret_bool HS2.out.symm, HC.out.low⟩
  · have HS : Hid (smallB n es ar q rot d = false) := if_neg hF
    have hF2 : few45 n es ar rot = false := by simpa using hF
    rw [hF2]
    clear hF hF2
    go_wp2_with fail
    go_ret
    exact ⟨ret_bool HS.out.symm, HC.out.low⟩

end Go.Proofs.Ytopldbnlehjlpaa

set_option linter.unusedVariables false
set_option linter.unusedSimpArgs false
set_option linter.unnecessarySimpa false
namespace Go.Proofs.Ytopldbnlehjlpaa
open Go.RowKit

/-- What moves along an edge. -/
def flowL (s : List Int) (x : Edg) : Int := x.m * (s.getD x.a.toNat 0 - s.getD x.b.toNat 0)
def alongL (s : List Int) (x : Edg) (out : List Int) : List Int := addL (addL out x.a.toNat (-(flowL s x))) x.b.toNat (flowL s x)
def movedL (s : List Int) (es : List Edg) (d : List Int) : List Int := es.foldl (fun out x => alongL s x out) d
def oneHot (n k : Nat) : List Int := (List.replicate n 0).set k 1
theorem oneHot_get {n k : Nat} (hk : k < n) (u : Nat) : (oneHot n k).getD u 0 = if u = k then 1 else 0 := by
  unfold oneHot
  rw [List.getD_eq_getElem?_getD, List.getElem?_set]
  by_cases h : k = u
  · subst h; simp [hk]
  · rw [if_neg h, if_neg (by omega)]
    rw [List.getElem?_replicate]
    split <;> rfl
theorem sumF_rep (v u : Int) (p : Int × Int) (k : Nat) : sumF v u (List.replicate k p) = k * oneF v u p := by
  induction k with
  | zero => simp [sumF]
  | succ k ih =>
    rw [List.replicate_succ, sumF, ih]
    have : ((k + 1 : Nat) : Int) = k + 1 := by omega
    rw [this, Int.add_mul, Int.one_mul]
    omega
theorem along_get {n k : Nat} (hk : k < n) {x : Edg} (ha : 0 ≤ x.a ∧ x.a < n) (hb : 0 ≤ x.b ∧ x.b < n) {d : List Int} (hd : d.length = n) (u : Nat) :
    (alongL (oneHot n k) x d).getD u 0 = d.getD u 0 - (if u = k then x.m * ends2 k (x.a, x.b) else 0) + x.m * oneF k u (x.a, x.b) := by
  obtain ⟨a, b, m⟩ := x
  obtain ⟨a, rfl⟩ := Int.eq_ofNat_of_zero_le ha.1
  obtain ⟨b, rfl⟩ := Int.eq_ofNat_of_zero_le hb.1
  simp only at ha hb ⊢
  unfold alongL flowL
  simp only [Int.toNat_natCast]
  rw [oneHot_get hk, oneHot_get hk, addL_get, addL_get, addL_len]
  have e2 : ends2 (k : Int) ((a : Int), (b : Int)) = (if a = k then 1 else 0) + (if b = k then 1 else 0) := by
    unfold ends2
    congr 1 <;> (congr 1; exact propext (by simp only; omega))
  have e1 : oneF (k : Int) (u : Int) ((a : Int), (b : Int)) = (if a = k ∧ b = u then 1 else 0) + (if b = k ∧ a = u then 1 else 0) := by
    unfold oneF
    congr 1 <;> (congr 1; exact propext (by simp only; omega))
  rw [e1, e2]
  by_cases c1 : a = k <;> by_cases c2 : b = k <;> by_cases c3 : u = k
  · subst c1 c2 c3; simp
  · subst c1 c2
    rw [if_neg (c := b = u ∧ _) (by omega), if_neg (c := b = u ∧ _) (by omega)]
    have c4 : ¬ b = u := fun e => c3 e.symm
    simp [c3, c4]
  · subst c1 c3
    rw [if_neg (c := b = u ∧ _) (by omega), if_pos (c := u = u ∧ _) ⟨rfl, by omega⟩]
    simp [c2] <;> omega
  · subst c1
    rw [if_neg (c := a = u ∧ _) (by omega)]
    by_cases c4 : b = u
    · subst c4
      rw [if_pos ⟨rfl, by omega⟩]; simp [c2]
    · rw [if_neg (by omega)]; simp [c2, c3, c4]
  · subst c2 c3
    rw [if_pos ⟨rfl, by omega⟩, if_neg (by omega)]
    simp [c1] <;> omega
  · subst c2
    rw [if_neg (c := b = u ∧ _) (by omega)]
    by_cases c4 : a = u
    · subst c4
      rw [if_pos ⟨rfl, by omega⟩]; simp [c1]
    · rw [if_neg (by omega)]; simp [c1, c3, c4]
  · subst c3
    rw [if_neg (by omega), if_neg (by omega)]
    simp [c1, c2]
  · have : ∀ c : Prop, ∀ _ : Decidable c, (if c then d.getD u 0 + -(m * (0 - 0)) else d.getD u 0) = d.getD u 0 := fun c _ => by split <;> simp
    simp [c1, c2, c3]
theorem along_len (s : List Int) (x : Edg) (d : List Int) : (alongL s x d).length = d.length := by
  unfold alongL; rw [addL_len, addL_len]
theorem moved_len (s : List Int) : ∀ (es : List Edg) (d : List Int), (movedL s es d).length = d.length
  | [], _ => rfl
  | x :: r, d => by
    show (movedL s r (alongL s x d)).length = _
    rw [moved_len s r, along_len]
theorem moved_get {n k : Nat} (hk : k < n) : ∀ {es : List Edg} {d : List Int}, (∀ x ∈ es, (0 ≤ x.a ∧ x.a < n) ∧ (0 ≤ x.b ∧ x.b < n) ∧ 0 ≤ x.m) → d.length = n → ∀ u : Nat,
    (movedL (oneHot n k) es d).getD u 0 = d.getD u 0 - (if u = k then sumE k (endsL es) else 0) + sumF k u (endsL es)
  | [], d, _, _, u => by simp [movedL, endsL, sumE, sumF]
  | x :: r, d, h, hd, u => by
    obtain ⟨h1, h2, h3⟩ := h x (by simp)
    show (movedL (oneHot n k) r (alongL (oneHot n k) x d)).getD u 0 = _
    rw [moved_get hk (fun y hy => h y (by simp [hy])) (by rw [along_len, hd]) u, along_get hk h1 h2 hd u, endsL_cons, sumE_app, sumE_rep, sumF_app, sumF_rep]
    have hm : (x.m.toNat : Int) = x.m := by omega
    rw [hm]
    split <;> omega

theorem sumF_bound (v u : Int) : ∀ l : List (Int × Int), 0 ≤ sumF v u l ∧ sumF v u l ≤ 2 * l.length
  | [] => by simp [sumF]
  | p :: r => by
    have := sumF_bound v u r
    unfold sumF oneF
    simp only [List.length_cons]
    split <;> split <;> omega
theorem sumE_bound (v : Int) : ∀ l : List (Int × Int), 0 ≤ sumE v l ∧ sumE v l ≤ 2 * l.length
  | [] => by simp [sumE]
  | p :: r => by
    have := sumE_bound v r
    unfold sumE ends2
    simp only [List.length_cons]
    split <;> split <;> omega
theorem few45_ends {n : Int} {es : List Edg} {ar : List (List Int)} {rot : List Int} (h : few45 n es ar rot = true) (hV : gErr n es = 0) : n ≤ 6 ∧ ((endsL es).length : Int) ≤ 9 := by
  unfold few45 at h
  split at h
  · rename_i h1
    unfold few44 at h1
    split at h1
    · rename_i h2
      unfold smB at h2
      split at h2
      · simpa [hV] using h2
      · cases h2
    · cases h1
  · cases h
theorem dScan_of : ∀ {d : List Int}, (∀ x ∈ d, -1048576 ≤ x ∧ x ≤ 1048576) → dScan d = 0
  | [], _ => rfl
  | x :: r, h => by
    unfold dScan
    rw [if_pos (by simpa [inChips] using h x (by simp))]
    exact dScan_of fun y hy => h y (by simp [hy])
theorem gScan_of {q : Int} : ∀ {v0 : Nat} {d : List Int}, (∀ u, ((v0 + u : Nat) : Int) ≠ q → 0 ≤ d.getD u 0) → gScan q v0 d = 0
  | v0, [], _ => rfl
  | v0, x :: r, h => by
    unfold gScan
    have h0 := h 0
    simp at h0
    rw [if_neg (by intro hh; have := h0 hh.1; omega)]
    refine gScan_of fun u hu => ?_
    have := h (u + 1) (by intro e; apply hu; rw [← e]; congr 1; omega)
    simpa using this

/-- What firing a vertex of a right, small game means to All. -/
theorem fire_all {n : Nat} {es : List Edg} {f : List Nat} {ar : List (List Int)} {q : Nat} {rot d : List Int} {k : Nat} (hc2 : es.length ≤ 1000) (hF : few45 n es ar rot = true) (hG : gvE n es f ar q rot d = 0) (hS : smD d = true) (hk : k < n) (hq : k ≠ q) (hd : degU n es k ≤ d.getD k 0) :
    (∀ x ∈ movedL (oneHot n k) es d, -1048576 ≤ x ∧ x ≤ 1048576) ∧ gvE n es f ar q rot (movedL (oneHot n k) es d) = 0 ∧
    ((allRes n es f ar q rot d = ([], [], 12) ∨ allRes n es f ar q rot (movedL (oneHot n k) es d) = ([], [], 12)) ∨
      ∃ r s t, allRes n es f ar q rot d = (r, s, 0) ∧ allRes n es f ar q rot (movedL (oneHot n k) es d) = (r, t, 0) ∧ s.length = n ∧ t.length = n ∧ s = addL t k (degU n es k)) := by
  obtain ⟨g1, g2⟩ := gvE_zero hG
  obtain ⟨_, dl, db⟩ := dErr_zero g2
  have hnn := gvE_nonneg hG
  obtain ⟨q', hq', hok⟩ := RtOk.of g1 hc2
  have hqq : q = q' := by omega
  subst hqq
  clear hq'
  obtain ⟨c1, _, c3, c4⟩ := rtE_zero g1
  obtain ⟨j1, j2, j3⟩ := chkE_zero c1
  have hV := jErr_zero j1
  obtain ⟨_, f9⟩ := few45_ends hF hV
  have hkar : k < ar.length := by omega
  have hl : ar[k]? = some ar[k] := List.getElem?_eq_getElem hkar
  have ho : (halfs n es)[k]? = some (halfU (endsL es) (2 * (endsL es).length) k) := halvesU_get (by omega)
  have hlE := rowsE_zero j3 k _ _ hl ho
  have hdeg : degU n es k = (ar[k].length : Nat) := by rw [deg_half hV, (listE_perm hlE).length_eq]
  have hsum : degU n es k = sumE k (endsL es) := by rw [deg_half hV, half_len _ (Nat.le_refl _), List.take_length]
  obtain ⟨d', hrun, hdl', hget⟩ := fire_law (d := d) hok (by omega) hl hlE hq (by rw [← hdeg]; exact hd)
  have hd' : d' = movedL (oneHot n k) es d := by
    refine addL_ext (by rw [hdl', moved_len]) fun u => ?_
    rw [hget u, moved_get hk (fun x hx => by have := (gErr_zero hV).2.1 x hx; omega) (by omega) u, ← hdeg, hsum]
  rw [← hd']
  rw [← hdeg] at hrun
  have hbnd : ∀ u : Nat, -1000 ≤ d'.getD u 0 ∧ d'.getD u 0 ≤ 1000 := fun u => by
    rw [hget u, ← hdeg, hsum]
    have a1 := sumE_bound k (endsL es)
    have a2 := sumF_bound k u (endsL es)
    have a3 : -60 ≤ d.getD u 0 ∧ d.getD u 0 ≤ 60 := by
      rw [List.getD_eq_getElem?_getD]
      rcases hx : d[u]? with _ | x
      · simp
      · exact smD_yes hS x (List.mem_of_getElem? hx)
    split <;> omega
  have hbd : ∀ x ∈ d', -1048576 ≤ x ∧ x ≤ 1048576 := fun x hx => by
    obtain ⟨i, hi, rfl⟩ := List.mem_iff_getElem.1 hx
    have := hbnd i
    rw [getD_of (List.getElem?_eq_getElem hi)] at this
    omega
  have hG' : gvE n es f ar q rot d' = 0 := by
    unfold gvE
    have e2 : dErr n d' = 0 := by
      unfold dErr
      rw [if_pos (by have := (gErr_zero hV).1; omega), if_pos (by omega)]
      exact dScan_of hbd
    rw [if_pos g1, if_pos e2]
    refine gScan_of fun u hu => ?_
    have hu' : u ≠ q := by intro e; apply hu; subst e; simp
    rw [hget u, ← hdeg]
    have a1 := hnn u hu'
    have a2 := sumF_bound k u (endsL es)
    split
    · rename_i e; subst e; omega
    · omega
  refine ⟨hbd, hG', ?_⟩
  rcases all_case hG with ⟨m, s, e1, r1, r2, _⟩ | h
  · rcases all_case hG' with ⟨m', s', e1', r1', r2', _⟩ | h
    · obtain ⟨m3, r3, _⟩ := Run.rest hrun r1 r2
      have r4 := r1'.shift k (degU n es k)
      rw [show start rot d' d'.length = (rot, d', List.replicate d'.length 0) from rfl] at r4
      simp only at r4
      rw [hdl'] at r4
      obtain ⟨e, _⟩ := Run.same r3 r2 r4 fun v hv => r2' v hv
      right
      refine ⟨s.1, s.2.2, s'.2.2, e1, ?_, ?_, ?_, ?_⟩
      · rw [e1', ← e]
      · have := r1.len.2
        simp [start] at this
        omega
      · have := r1'.len.2
        simp [start] at this
        omega
      · rw [← e]
    · exact .inl (.inr h)
  · exact .inl (.inl h)

end Go.Proofs.Ytopldbnlehjlpaa

set_option linter.unusedVariables false
set_option linter.unusedSimpArgs false
set_option linter.unnecessarySimpa false
namespace Go.Proofs.Ytopldbnlehjlpaa
open Go.RowKit

def visits (V : Nat → Nat) (u : Nat) : Nat → Nat
  | 0 => 0
  | i + 1 => visits V u i + if V i = u then 1 else 0
theorem visits_none {V : Nat → Nat} {u : Nat} : ∀ {i : Nat}, (∀ j, j < i → V j ≠ u) → visits V u i = 0
  | 0, _ => rfl
  | i + 1, h => by unfold visits; rw [visits_none fun j hj => h j (by omega), if_neg (h i (by omega))]
theorem visits_sum {V : Nat → Nat} {n : Nat} : ∀ {i : Nat}, (∀ j, j < i → V j < n) → sumB (fun u => visits V u i) n = i
  | 0, _ => by
    have : ∀ k, sumB (fun u => visits V u 0) k = 0 := fun k => by
      induction k with
      | zero => rfl
      | succ k ih => unfold sumB; rw [ih]; rfl
    exact this n
  | i + 1, h => by
    have ih := visits_sum (V := V) (n := n) (i := i) fun j hj => h j (by omega)
    have := sumB_upd (g := fun u => visits V u i) (g' := fun u => visits V u (i + 1)) (h i (by omega)) fun u hu => by
      show visits V u i + _ = _
      rw [if_neg fun e => hu e.symm]
      rfl
    have h2 : visits V (V i) (i + 1) = visits V (V i) i + 1 := by show _ + _ = _; rw [if_pos rfl]
    omega

theorem phase_is {r s D : Nat} (hr : r < D) (hs : s < D) : (r + D - s) % D = if s ≤ r then r - s else r + D - s := by
  split
  · rw [show r + D - s = (r - s) + D by omega, Nat.add_mod_right, Nat.mod_eq_of_lt (by omega)]
  · rw [Nat.mod_eq_of_lt (by omega)]
theorem next_is {r D : Nat} (hr : r < D) : (r + 1) % D = if r + 1 = D then 0 else r + 1 := by
  split
  · rename_i h; rw [h, Nat.mod_self]
  · rw [Nat.mod_eq_of_lt (by omega)]

section
variable {n : Int} {es : List Edg} {ar : List (List Int)} {q : Nat} {rot : List Int} {v : Nat}

theorem phase_inv (hok : RtOk n es ar q rot) (hv' : v < ar.length) {u : Nat} {l : List Int} {s h : Nat} (hl : ar[u]? = some l) (hs : l[s]? = some (h : Int)) (hu : u ≠ q) {u' : Nat} (hu' : (hv (endsL es) (oppH h)).toNat = u') (hne : u ≠ u') :
    ∀ i, (∀ j, j < i → chipV ar (endsL es) rot v j ≠ q) →
      visits (chipV ar (endsL es) rot v) u i ≤ l.length * (visits (chipV ar (endsL es) rot v) u' i + if chipV ar (endsL es) rot v i = u' then 1 else 0) + (((rotI ar (endsL es) rot v i).getD u 0).toNat + l.length - s) % l.length
  | 0, _ => by show 0 ≤ _; exact Nat.zero_le _
  | i + 1, hp => by
    have ih := phase_inv hok hv' hl hs hu hu' hne i fun j hj => hp j (by omega)
    obtain ⟨hR, _⟩ := hok.along hv' i fun j hj => hp j (by omega)
    have hsl : s < l.length := (List.getElem?_eq_some_iff.1 hs).1
    have hul : u < ar.length := (List.getElem?_eq_some_iff.1 hl).1
    have hur : u < (rotI ar (endsL es) rot v i).length := by
      have := hR.nrot
      show u < (rtN ar (endsL es) rot v i).1.length
      omega
    have hg : (rotI ar (endsL es) rot v i)[u]? = some (rotI ar (endsL es) rot v i)[u] := List.getElem?_eq_getElem hur
    obtain ⟨r1, _, r3⟩ := hR.rots u _ _ hg hl
    have hrl : ((rotI ar (endsL es) rot v i).getD u 0).toNat < l.length := by
      rw [getD_of hg]
      have := r3 hu
      omega
    have hc : ∀ x, visits (chipV ar (endsL es) rot v) x (i + 1) = visits (chipV ar (endsL es) rot v) x i + if chipV ar (endsL es) rot v i = x then 1 else 0 := fun x => rfl
    have hvn : chipV ar (endsL es) rot v (i + 1) = stpV ar (endsL es) (rotI ar (endsL es) rot v i) (chipV ar (endsL es) rot v i) := rfl
    have hrn : rotI ar (endsL es) rot v (i + 1) = (rotI ar (endsL es) rot v i).set (chipV ar (endsL es) rot v i) (stpK ar (rotI ar (endsL es) rot v i) (chipV ar (endsL es) rot v i) : Nat) := rfl
    rw [hc u, hc u']
    by_cases c1 : chipV ar (endsL es) rot v i = u
    · have hK : stpK ar (rotI ar (endsL es) rot v i) u = (((rotI ar (endsL es) rot v i).getD u 0).toNat + 1) % l.length := by unfold stpK; rw [getD_of hl]
      have hx : (rotI ar (endsL es) rot v (i + 1)).getD u 0 = ((((rotI ar (endsL es) rot v i).getD u 0).toNat + 1) % l.length : Nat) := by
        rw [hrn, c1, getD_of (List.getElem?_set_self hur), hK]
      have hV : (((rotI ar (endsL es) rot v i).getD u 0).toNat + 1) % l.length = s → chipV ar (endsL es) rot v (i + 1) = u' := fun e => by
        rw [hvn, c1]
        unfold stpV
        rw [hK, e, getD_of hl, getD_of hs]
        exact hu'
      rw [hx, Int.toNat_natCast]
      rw [c1, if_neg hne] at ih
      rw [c1, if_pos rfl, if_neg hne]
      generalize ((rotI ar (endsL es) rot v i).getD u 0).toNat = r at *
      generalize visits (chipV ar (endsL es) rot v) u' i = X at *
      generalize visits (chipV ar (endsL es) rot v) u i = Y at *
      have hn := next_is hrl
      have hnl : (r + 1) % l.length < l.length := Nat.mod_lt _ (by omega)
      rw [phase_is hrl hsl] at ih
      rw [phase_is hnl hsl]
      generalize (r + 1) % l.length = r' at *
      by_cases c2 : r' = s
      · rw [if_pos (hV c2)]
        have e : l.length * (X + 0 + 1) = l.length * X + l.length := by rw [Nat.add_zero, Nat.mul_add, Nat.mul_one]
        rw [e]
        rw [Nat.add_zero] at ih
        generalize l.length * X = Z at *
        split at ih <;> split at hn <;> split <;> omega
      · have e : l.length * (X + 0) ≤ l.length * (X + 0 + if chipV ar (endsL es) rot v (i + 1) = u' then 1 else 0) := Nat.mul_le_mul_left _ (by omega)
        refine Nat.le_trans ?_ (Nat.add_le_add_right e _)
        generalize l.length * (X + 0) = Z at *
        split at ih <;> split at hn <;> split <;> omega
    · have hx : (rotI ar (endsL es) rot v (i + 1)).getD u 0 = (rotI ar (endsL es) rot v i).getD u 0 := by
        rw [hrn, List.getD_eq_getElem?_getD, List.getElem?_set_ne c1, ← List.getD_eq_getElem?_getD]
      rw [hx, if_neg c1, Nat.add_zero]
      refine Nat.le_trans ih (Nat.add_le_add_right (Nat.mul_le_mul_left _ (Nat.le_add_right _ _)) _)

/-- How often a chip leaves u, by how often it leaves the neighbour u'. -/
theorem leave_near (hok : RtOk n es ar q rot) (hv' : v < ar.length) {u : Nat} {l : List Int} {s h : Nat} (hl : ar[u]? = some l) (hs : l[s]? = some (h : Int)) (hu : u ≠ q) {u' : Nat} (hu' : (hv (endsL es) (oppH h)).toNat = u') (hne : u ≠ u')
    {i : Nat} (hp : ∀ j, j ≤ i → chipV ar (endsL es) rot v j ≠ q) :
    (u' = q → visits (chipV ar (endsL es) rot v) u i + 1 ≤ l.length) ∧ visits (chipV ar (endsL es) rot v) u i + 1 ≤ l.length * (visits (chipV ar (endsL es) rot v) u' i + 1 + 1) := by
  have h1 := phase_inv hok hv' hl hs hu hu' hne i fun j hj => hp j (by omega)
  have hsl : s < l.length := (List.getElem?_eq_some_iff.1 hs).1
  have h2 := Nat.mod_lt (((rotI ar (endsL es) rot v i).getD u 0).toNat + l.length - s) (show l.length > 0 by omega)
  refine ⟨fun e => ?_, ?_⟩
  · rw [e, visits_none fun j hj => hp j (by omega), if_neg (hp i (Nat.le_refl _)), Nat.mul_zero] at h1
    omega
  · have h3 : l.length * (visits (chipV ar (endsL es) rot v) u' i + if chipV ar (endsL es) rot v i = u' then 1 else 0) ≤ l.length * (visits (chipV ar (endsL es) rot v) u' i + 1) := Nat.mul_le_mul_left _ (by split <;> omega)
    have h4 : l.length * (visits (chipV ar (endsL es) rot v) u' i + 1 + 1) = l.length * (visits (chipV ar (endsL es) rot v) u' i + 1) + l.length := by rw [Nat.mul_add _ (_ + 1) 1, Nat.mul_one]
    omega

theorem two_pow : ∀ {D : Nat}, 1 ≤ D → 2 * D ≤ 2 ^ D
  | 0, h => absurd h (by omega)
  | 1, _ => by decide
  | D + 2, _ => by
    have := two_pow (D := D + 1) (by omega)
    rw [Nat.pow_succ]
    omega

/-- The set of vertices whose numbers are bounded grows. -/
theorem leave_grow {f : List Nat} (hok : RtOk n es ar q rot) (hC : chkE n es f ar = 0) (hU : gErr n es = 0 → Uf f (eL es)) (hv' : v < ar.length) {i : Nat} (hp : ∀ j, j ≤ i → chipV ar (endsL es) rot v j ≠ q) :
    ∀ k, k < ar.length → ∃ S : Nat → Bool, S q = true ∧ k + 1 ≤ sumB (fun y => if S y = true then 1 else 0) ar.length ∧
      ∃ b, b ≤ sumB (fun y => if S y = true then (ar.getD y []).length else 0) ar.length ∧ ∀ u, S u = true → u < ar.length → u ≠ q → 2 * (visits (chipV ar (endsL es) rot v) u i + 1) ≤ 2 ^ b
  | 0, _ => by
    refine ⟨fun y => y == q, by simp, ?_, 0, Nat.zero_le _, fun u h1 _ h2 => absurd (by simpa using h1) h2⟩
    have hz : ∀ k, sumB (fun _ => 0) k = 0 := fun k => by
      induction k with
      | zero => rfl
      | succ k ih => unfold sumB; rw [ih]
    have := sumB_upd (g := fun _ => 0) (g' := fun y => if (y == q) = true then 1 else 0) hok.hq fun u hu => by simp [hu]
    rw [hz] at this
    simp only [beq_self_eq_true, if_true] at this
    show 0 + 1 ≤ sumB (fun y => if (y == q) = true then 1 else 0) ar.length
    omega
  | k + 1, hk => by
    obtain ⟨S, hq, hc, b, hb, hS⟩ := leave_grow hok hC hU hv' hp k (by omega)
    by_cases hall : ∀ u, u < ar.length → S u = true
    · refine ⟨S, hq, ?_, b, hb, hS⟩
      rw [sumB_same (g := fun _ => 1) fun u hu => by rw [if_pos (hall u hu)]]
      have : ∀ k, sumB (fun _ => 1) k = k := fun k => by
        induction k with
        | zero => rfl
        | succ k ih => unfold sumB; rw [ih]
      rw [this]
      omega
    · have hex : ∃ u, u < ar.length ∧ S u = false := Classical.byContradiction fun hno => hall fun u hu => by
        cases hx : S u
        · exact absurd ⟨u, hu, hx⟩ hno
        · rfl
      obtain ⟨u, hu, hSu⟩ := hex
      have hn := hok.nar
      obtain ⟨y, l, s, h, hl, hs, hy, hSy⟩ := cross_slot hC hU S (u := q) (v := u) (by have := hok.hq; omega) (by omega) hq hSu
      have hya : y < ar.length := (List.getElem?_eq_some_iff.1 hl).1
      have hsl : s < l.length := (List.getElem?_eq_some_iff.1 hs).1
      have hyq : y ≠ q := fun e => by rw [e, hq] at hy; cases hy
      have hne : y ≠ (hv (endsL es) (oppH h)).toNat := fun e => by rw [← e, hy] at hSy; cases hSy
      obtain ⟨n1, n2⟩ := leave_near hok hv' hl hs hyq rfl hne hp
      have hS' : ∀ x, (S x || x == y) = true ↔ S x = true ∨ x = y := fun x => by simp
      have e1 := sumB_upd (g := fun y => if S y = true then 1 else 0) (g' := fun x => if (S x || x == y) = true then 1 else 0) hya fun x hx => by
        simp [hx]
      have e2 := sumB_upd (g := fun y => if S y = true then (ar.getD y []).length else 0) (g' := fun x => if (S x || x == y) = true then (ar.getD x []).length else 0) hya fun x hx => by
        simp [hx]
      simp only [hy, beq_self_eq_true, Bool.or_true, if_true, Bool.false_eq_true, if_false] at e1 e2
      rw [getD_of hl] at e2
      have hp2 := two_pow (D := l.length) (by omega)
      have hpb : 2 ^ b ≤ 2 ^ (b + l.length) := Nat.pow_le_pow_right (by decide) (by omega)
      refine ⟨fun x => S x || x == y, by simp [hq], by show _ ≤ sumB (fun x => if (S x || x == y) = true then 1 else 0) _; omega, b + l.length, by show _ ≤ sumB (fun x => if (S x || x == y) = true then (ar.getD x []).length else 0) _; omega, fun x hx hxa hxq => ?_⟩
      rcases (hS' x).1 hx with h3 | rfl
      · exact Nat.le_trans (hS x h3 hxa hxq) hpb
      · by_cases hq' : (hv (endsL es) (oppH h)).toNat = q
        · have := n1 hq'
          have h5 : 2 ^ l.length ≤ 2 ^ (b + l.length) := Nat.pow_le_pow_right (by decide) (by omega)
          omega
        · have hlt : (hv (endsL es) (oppH h)).toNat < ar.length := by
            obtain ⟨_, w2⟩ := hok.rows _ l hl
            obtain ⟨g, hg, h6, _⟩ := w2 _ (List.mem_of_getElem? hs)
            have hgh : g = h := by omega
            subst hgh
            have := hok.rng _ (oppH_lt h6)
            omega
          have h4 := hS _ hSy hlt hq'
          have h5 : l.length * (visits (chipV ar (endsL es) rot v) (hv (endsL es) (oppH h)).toNat i + 1 + 1) ≤ l.length * 2 ^ b := Nat.mul_le_mul_left _ (by omega)
          have h6 : 2 * l.length * 2 ^ b ≤ 2 ^ l.length * 2 ^ b := Nat.mul_le_mul_right _ hp2
          rw [Nat.pow_add, Nat.mul_comm (2 ^ b)]
          rw [Nat.mul_assoc] at h6
          omega

/-- A chip on a right, small ribbon graph comes to the sink. -/
theorem chip_ends {f : List Nat} (hok : RtOk n es ar q rot) (hC : chkE n es f ar = 0) (hU : gErr n es = 0 → Uf f (eL es)) (hv' : v < ar.length) (hn6 : n ≤ 6) (h9 : (endsL es).length ≤ 9) :
    ∃ i, i < 1048577 ∧ chipV ar (endsL es) rot v i = q ∧ ∀ j, j < i → chipV ar (endsL es) rot v j ≠ q := by
  rcases first_or (chipV ar (endsL es) rot v) q 1048577 with h | hno
  · exact h
  · exfalso
    obtain ⟨i, hi⟩ : ∃ i, i = 1048576 := ⟨_, rfl⟩
    have hp : ∀ j, j ≤ i → chipV ar (endsL es) rot v j ≠ q := fun j hj => hno j (by omega)
    obtain ⟨S, hq, hc, b, hb, hS⟩ := leave_grow hok hC hU hv' hp (ar.length - 1) (by omega)
    obtain ⟨j1, j2, j3⟩ := chkE_zero hC
    have hall : ∀ u, u < ar.length → S u = true := fun u hu => by
      cases hx : S u
      · exfalso
        have e1 := sumB_upd (g := fun y => if S y = true then 1 else 0) (g' := fun x => if (S x || x == u) = true then 1 else 0) hu fun x hx => by
          simp [hx]
        simp only [hx, beq_self_eq_true, Bool.or_true, if_true, Bool.false_eq_true, if_false] at e1
        have e2 := sumB_le (g := fun x => if (S x || x == u) = true then 1 else 0) (b := 1) (k := ar.length) fun x _ => by split <;> omega
        omega
      · rfl
    have hdeg : ∀ y, y < ar.length → (ar.getD y []).length = (halfU (endsL es) (2 * (endsL es).length) y).length := fun y hy => by
      have hl : ar[y]? = some ar[y] := List.getElem?_eq_getElem hy
      have ho : (halfs n es)[y]? = some (halfU (endsL es) (2 * (endsL es).length) y) := halvesU_get (by omega)
      rw [getD_of hl, (listE_perm (rowsE_zero j3 y _ _ hl ho)).length_eq]
    have hb18 : b ≤ 18 := by
      have e3 : sumB (fun y => if S y = true then (ar.getD y []).length else 0) ar.length = sumB (fun y => (halfU (endsL es) (2 * (endsL es).length) y).length) ar.length := sumB_same fun u hu => by
        simp only [hall u hu, if_true]
        exact hdeg u hu
      have e4 := degs_le (endsL es) ar.length (2 * (endsL es).length)
      omega
    have hpow : 2 ^ b ≤ 2 ^ 18 := Nat.pow_le_pow_right (by decide) hb18
    have h18 : (2 : Nat) ^ 18 = 262144 := by decide
    have hvis : ∀ u, u < ar.length → visits (chipV ar (endsL es) rot v) u i ≤ 131072 := fun u hu => by
      by_cases e : u = q
      · subst e
        rw [visits_none fun j hj => hp j (by omega)]
        omega
      · have := hS u (hall u hu) hu e
        omega
    have s1 := sumB_le hvis
    rw [visits_sum (V := chipV ar (endsL es) rot v) (i := i) fun j hj => (hok.along hv' j fun k hk => hp k (by omega)).2] at s1
    have : ar.length * 131072 ≤ 6 * 131072 := Nat.mul_le_mul_right _ (by omega)
    omega
end

end Go.Proofs.Ytopldbnlehjlpaa

set_option linter.unusedVariables false
set_option linter.unusedSimpArgs false
set_option linter.unnecessarySimpa false
namespace Go.Proofs.Ytopldbnlehjlpaa
open Go.RowKit

section
variable {n : Int} {es : List Edg} {ar : List (List Int)} {q : Nat} {rot : List Int} {v : Nat}

theorem step_get (hok : RtOk n es ar q rot) (hv' : v < ar.length) (u : Nat) : (stpR ar rot v).getD u 0 = if v = u then ((stpK ar rot v : Nat) : Int) else rot.getD u 0 := by
  have hvr : v < rot.length := by rw [hok.nrot]; exact hv'
  unfold stpR
  rw [List.getD_eq_getElem?_getD, List.getElem?_set]
  by_cases h : v = u
  · rw [if_pos h, if_pos h]
    simp [hvr]
  · rw [if_neg h, if_neg h, List.getD_eq_getElem?_getD]
theorem stV_step (hok : RtOk n es ar q rot) (hv' : v < ar.length) (E : List (Int × Int)) (u : Nat) : stV ar E (stpR ar rot v) u = if v = u then stpV ar E rot v else stV ar E rot u := by
  unfold stV
  rw [step_get hok hv']
  split
  · rename_i h; subst h; rw [Int.toNat_natCast]; rfl
  · rfl

/-- Where the chip went from u the last time. -/
def lastM (V : Nat → Nat) : Nat → Nat → Option Nat
  | 0, _ => none
  | i + 1, u => if V i = u then some (V (i + 1)) else lastM V i u
theorem lastM_law (hok : RtOk n es ar q rot) (hv' : v < ar.length) : ∀ i, (∀ j, j < i → chipV ar (endsL es) rot v j ≠ q) → ∀ u,
    (∀ x, lastM (chipV ar (endsL es) rot v) i u = some x → stV ar (endsL es) (rotI ar (endsL es) rot v i) u = x ∧ u ≠ q ∧ u < ar.length) ∧
    (lastM (chipV ar (endsL es) rot v) i u = none → (rotI ar (endsL es) rot v i).getD u 0 = rot.getD u 0)
  | 0, _, u => ⟨fun x h => absurd (show (none : Option Nat) = some x from h) (by simp), fun _ => rfl⟩
  | i + 1, hp, u => by
    obtain ⟨h1, h2⟩ := lastM_law hok hv' i (fun j hj => hp j (by omega)) u
    obtain ⟨hR, hlt⟩ := hok.along hv' i fun j hj => hp j (by omega)
    have e1 : stV ar (endsL es) (rotI ar (endsL es) rot v (i + 1)) u = if chipV ar (endsL es) rot v i = u then chipV ar (endsL es) rot v (i + 1) else stV ar (endsL es) (rotI ar (endsL es) rot v i) u := stV_step hR hlt (endsL es) u
    have e2 : (rotI ar (endsL es) rot v (i + 1)).getD u 0 = if chipV ar (endsL es) rot v i = u then ((stpK ar (rotI ar (endsL es) rot v i) (chipV ar (endsL es) rot v i) : Nat) : Int) else (rotI ar (endsL es) rot v i).getD u 0 := step_get hR hlt u
    have e3 : lastM (chipV ar (endsL es) rot v) (i + 1) u = if chipV ar (endsL es) rot v i = u then some (chipV ar (endsL es) rot v (i + 1)) else lastM (chipV ar (endsL es) rot v) i u := rfl
    rw [e1, e2, e3]
    split
    · rename_i h
      exact ⟨fun x hx => ⟨by injection hx, by rw [← h]; exact hp i (by omega), by rw [← h]; exact hlt⟩, fun hx => by cases hx⟩
    · exact ⟨h1, h2⟩
theorem last_exit (hok : RtOk n es ar q rot) (hv' : v < ar.length) : ∀ i, (∀ j, j < i → chipV ar (endsL es) rot v j ≠ q) → ∀ j, j < i →
    ∃ k, j ≤ k ∧ k < i ∧ stV ar (endsL es) (rotI ar (endsL es) rot v i) (chipV ar (endsL es) rot v j) = chipV ar (endsL es) rot v (k + 1)
  | 0, _, j, hj => absurd hj (by omega)
  | i + 1, hp, j, hj => by
    obtain ⟨hR, hlt⟩ := hok.along hv' i fun j hj => hp j (by omega)
    have e1 : stV ar (endsL es) (rotI ar (endsL es) rot v (i + 1)) (chipV ar (endsL es) rot v j) = if chipV ar (endsL es) rot v i = chipV ar (endsL es) rot v j then chipV ar (endsL es) rot v (i + 1) else stV ar (endsL es) (rotI ar (endsL es) rot v i) (chipV ar (endsL es) rot v j) := stV_step hR hlt (endsL es) _
    rw [e1]
    by_cases h : chipV ar (endsL es) rot v i = chipV ar (endsL es) rot v j
    · rw [if_pos h]
      exact ⟨i, by omega, by omega, rfl⟩
    · rw [if_neg h]
      have hji : j < i := by
        rcases Nat.lt_or_ge j i with h1 | h1
        · exact h1
        · exact absurd (by rw [show j = i by omega]) h
      obtain ⟨k, k1, k2, k3⟩ := last_exit hok hv' i (fun j hj => hp j (by omega)) j hji
      exact ⟨k, k1, by omega, k3⟩
theorem itV_front (R : List Int) (u t : Nat) : itV ar (endsL es) R u (t + 1) = itV ar (endsL es) R (stV ar (endsL es) R u) t := by
  rw [Nat.add_comm, itV_add]
  rfl
/-- From a vertex of the way the rotors behind it lead to the sink. -/
theorem way_leads (hok : RtOk n es ar q rot) (hv' : v < ar.length) {T : Nat} (hT : chipV ar (endsL es) rot v T = q) (hp : ∀ j, j < T → chipV ar (endsL es) rot v j ≠ q) :
    ∀ d j, T ≤ j + d → j ≤ T → ∃ t, itV ar (endsL es) (rotI ar (endsL es) rot v T) (chipV ar (endsL es) rot v j) t = q
  | d, j, hd, hj => by
    by_cases e : j = T
    · exact ⟨0, by rw [e]; exact hT⟩
    · match d with
      | 0 => omega
      | d + 1 =>
        obtain ⟨k, k1, k2, k3⟩ := last_exit hok hv' T hp j (by omega)
        obtain ⟨t, ht⟩ := way_leads hok hv' hT hp d (k + 1) (by omega) (by omega)
        exact ⟨t + 1, by rw [itV_front, k3]; exact ht⟩
theorem all_leads (hok : RtOk n es ar q rot) (hv' : v < ar.length) {T : Nat} (hT : chipV ar (endsL es) rot v T = q) (hp : ∀ j, j < T → chipV ar (endsL es) rot v j ≠ q) :
    ∀ t u, itV ar (endsL es) rot u t = q → ∃ t', itV ar (endsL es) (rotI ar (endsL es) rot v T) u t' = q
  | 0, u, h => ⟨0, h⟩
  | t + 1, u, h => by
    by_cases hx : ∃ j, j < T ∧ chipV ar (endsL es) rot v j = u
    · obtain ⟨j, hj, rfl⟩ := hx
      exact way_leads hok hv' hT hp T j (by omega) (by omega)
    · rw [itV_front] at h
      obtain ⟨t', ht⟩ := all_leads hok hv' hT hp t _ h
      refine ⟨t' + 1, ?_⟩
      rw [itV_front]
      have hn : lastM (chipV ar (endsL es) rot v) T u = none := by
        have : ∀ i, i ≤ T → lastM (chipV ar (endsL es) rot v) i u = none := fun i hi => by
          induction i with
          | zero => rfl
          | succ i ih =>
            show (if _ then _ else _) = _
            rw [if_neg fun e => hx ⟨i, by omega, e⟩]
            exact ih (by omega)
        exact this T (Nat.le_refl _)
      have e : stV ar (endsL es) (rotI ar (endsL es) rot v T) u = stV ar (endsL es) rot u := by
        unfold stV
        rw [(lastM_law hok hv' T hp u).2 hn]
      rw [e]
      exact ht
theorem first_of_some (hok : RtOk n es ar q rot) {u : Nat} (hu : u < ar.length) {t : Nat} (ht : itV ar (endsL es) rot u t = q) : (firstAt (itV ar (endsL es) rot u) q ar.length).isSome = true := by
  rcases first_or (itV ar (endsL es) rot u) q (t + 1) with ⟨i, _, h3, h4⟩ | hno
  · by_cases hi : i < ar.length
    · rw [firstAt_some hi h3 h4]; rfl
    · exfalso
      have hn : ((List.range (i + 1)).map (itV ar (endsL es) rot u)).Nodup := by
        unfold List.Nodup
        rw [List.pairwise_map]
        refine (List.pairwise_lt_range (n := i + 1)).imp_of_mem fun {a b} ha hb hab heq => ?_
        have hb2 : b < i + 1 := by simpa using hb
        have e1 := itV_add ar (endsL es) rot u a (i - b)
        have e2 := itV_add ar (endsL es) rot u b (i - b)
        rw [show b + (i - b) = i by omega, ← heq, ← e1, h3] at e2
        exact h4 (a + (i - b)) (by omega) e2.symm
      have := nodup_len hn fun x hx => by
        obtain ⟨j, hj, rfl⟩ := List.mem_map.1 hx
        exact hok.roam hu j fun k hk => h4 k (by simp at hj; omega)
      simp at this
      omega
  · exact absurd ht (hno t (by omega))
/-- Acyclic rotors stay acyclic. -/
theorem acy_keep (hok : RtOk n es ar q rot) (hv' : v < ar.length) {T : Nat} (hT : chipV ar (endsL es) rot v T = q) (hp : ∀ j, j < T → chipV ar (endsL es) rot v j ≠ q)
    (hb : acyB ar (endsL es) q rot ar.length ar.length = true) : acyB ar (endsL es) q (rotI ar (endsL es) rot v T) ar.length ar.length = true := by
  unfold acyB at hb ⊢
  rw [List.all_eq_true] at hb ⊢
  intro u hu
  have h1 := hb u hu
  have hu' : u < ar.length := by simpa using hu
  obtain ⟨i, hi⟩ := Option.isSome_iff_exists.1 h1
  obtain ⟨_, h2, _⟩ := firstAt_is hi
  obtain ⟨t, ht⟩ := all_leads hok hv' hT hp i u h2
  exact first_of_some (hok.along hv' T hp).1 hu' ht

/-- A step goes along an edge. -/
theorem step_betw (hok : RtOk n es ar q rot) (hV : gErr n es = 0) (hv' : v < ar.length) (hvq : v ≠ q) : betw es v (stpV ar (endsL es) rot v : Nat) ≠ 0 := by
  obtain ⟨⟨l, k, g, hl, _, hk, _, hK, hg, _⟩, _⟩ := hok.step hv' hvq
  obtain ⟨_, w2⟩ := hok.rows v l hl
  obtain ⟨g', hg', g2, g3⟩ := w2 _ (List.mem_of_getElem? hg)
  have : g' = g := by omega
  subst this
  have e : stpV ar (endsL es) rot v = (hv (endsL es) (oppH g')).toNat := by
    unfold stpV
    rw [hK, getD_of hl, getD_of hg, Int.toNat_natCast]
  have hr := hok.rng _ (oppH_lt g2)
  have hgl : g' / 2 < (endsL es).length := by omega
  have hgd : (endsL es).getD (g' / 2) (0, 0) = (endsL es)[g' / 2] := by rw [List.getD_eq_getElem?_getD, List.getElem?_eq_getElem hgl]; rfl
  obtain ⟨x, hx, hp⟩ := endsL_mem (List.getElem_mem hgl)
  have hmem : (x.a.toNat, x.b.toNat) ∈ eL es := by unfold eL; exact List.mem_map.2 ⟨x, hx, rfl⟩
  have hall : ∀ x ∈ es, 1 ≤ x.m ∧ x.a ≤ x.b ∧ 0 ≤ x.a ∧ 0 ≤ x.b := fun y hy => by have := (gErr_zero hV).2.1 y hy; omega
  have key : 0 < betw es v (stpV ar (endsL es) rot v : Nat) := by
    rw [betw_pos hall, e]
    by_cases h : g' % 2 = 0
    · have o : oppH g' = g' + 1 := by unfold oppH; rw [if_pos h]
      have v1 : hv (endsL es) g' = x.a := by rw [hv, if_pos h, hgd, hp]
      have v2 : hv (endsL es) (g' + 1) = x.b := by rw [hv, if_neg (by omega), show (g' + 1) / 2 = g' / 2 by omega, hgd, hp]
      left
      rw [o, v2, show v = x.a.toNat by omega]
      exact hmem
    · have o : oppH g' = g' - 1 := by unfold oppH; rw [if_neg h]
      have v1 : hv (endsL es) g' = x.b := by rw [hv, if_neg h, hgd, hp]
      have v2 : hv (endsL es) (g' - 1) = x.a := by rw [hv, if_pos (by omega), show (g' - 1) / 2 = g' / 2 by omega, hgd, hp]
      right
      rw [o, v2, show v = x.b.toNat by omega]
      exact hmem
  omega
end

end Go.Proofs.Ytopldbnlehjlpaa

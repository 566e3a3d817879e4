/-
  RotorTrees: routing from acyclic rotors ends with acyclic ones, and a way is a way along edges to the sink, for all ribbon graphs, rotors and vertices; no condition.
  The walk of RotorTrees.
-/
import Derived.Test.YtopldbnlehjlpaaTr5
import Derived.Deep.DeepCutAuto
import Derived.Test.YtopldbnlehjlpaaRows

set_option linter.unusedVariables false
set_option linter.unusedSimpArgs false
set_option linter.unnecessarySimpa false
namespace Go.Proofs.Ytopldbnlehjlpaa
open Go.RowKit Go.Maps

theorem walkRes_is {n : Int} {es : List Edg} {f : List Nat} {ar : List (List Int)} {q : Nat} {rot : List Int} {v T : Nat} (h : rtE n es f ar q rot = 0) (hv : (v : Int) < n) (h1 : chipV ar (endsL es) rot v T = q) (h2 : ∀ j, j < T → chipV ar (endsL es) rot v j ≠ q) :
    walkRes n es f ar q rot v = if T < 4096 then (wayL (chipV ar (endsL es) rot v) (T + 1), 0) else ([], 12) := by
  have hS : stE n es f ar q rot v = 0 := by unfold stE; rw [if_pos h, if_pos (vtxB_iff.2 ⟨by omega, hv⟩)]
  unfold walkRes
  rw [if_pos hS]
  unfold walkOf
  simp only [Int.toNat_natCast]
  split
  · rename_i i hi
    obtain ⟨i1, i2, i3⟩ := firstAt_is hi
    have : i = T := by
      rcases Nat.lt_trichotomy i T with hh | hh | hh
      · exact absurd i2 (h2 i hh)
      · exact hh
      · exact absurd h1 (i3 T hh)
    subst this
    rw [if_pos i1]
  · rename_i hn
    have h3 := firstAt_no hn
    rw [if_neg (by intro hlt; exact h3 T hlt h1)]
theorem wayL_get (V : Nat → Nat) {k i : Nat} (h : i < k) : (wayL V k)[i]? = some ((V i : Nat) : Int) := by simp [wayL, h]

/-- The map of the last steps. -/
def mapD (V : Nat → Nat) : Nat → DU
  | 0 => .map []
  | k + 1 => (mapD V k).put (kl (V k)) (vl (V (k + 1)))
theorem mapD_law (V : Nat → Nat) (hM : ∀ k, IsMap (mapD V k)) : ∀ k u, Maps.has (mapD V k) (kl u) = (lastM V k u).isSome ∧ ∀ x, lastM V k u = some x → ∀ z, (mapD V k).atKey (kl u) z = vl x
  | 0, u => ⟨rfl, fun x h => absurd (show (none : Option Nat) = some x from h) (by simp)⟩
  | k + 1, u => by
    obtain ⟨h1, h2⟩ := mapD_law V hM k u
    show Maps.has ((mapD V k).put (kl (V k)) (vl (V (k + 1)))) (kl u) = (if V k = u then some (V (k + 1)) else lastM V k u).isSome ∧ ∀ x, (if V k = u then some (V (k + 1)) else lastM V k u) = some x → ∀ z, ((mapD V k).put (kl (V k)) (vl (V (k + 1)))).atKey (kl u) z = vl x
    by_cases e : V k = u
    · subst e
      rw [if_pos rfl]
      refine ⟨by rw [has_put_same (hM k) (show WideAt.IsKeyLit (kl (V k)) from trivial)]; rfl, fun x hx z => ?_⟩
      injection hx with hx
      rw [atKey_put_same (hM k) (show WideAt.IsKeyLit (kl (V k)) from trivial), hx]
    · rw [if_neg e]
      have hne : kl u ≠ kl (V k) := fun h => e (by simp [kl] at h; omega)
      refine ⟨by rw [has_put_other hne]; exact h1, fun x hx z => ?_⟩
      rw [atKey_put_other hne]
      exact h2 x hx z
theorem map_below {w w' : World} {P : Program} {k : TypeId} {R : Value → Option (DU × List MemPlace)} {b n : Nat} {D : DU} (h : w.ownsMap P k R b n D) (hb : Below w.heap.size w w') : w'.ownsMap P k R b n D := by
  have hl := h.lt
  obtain ⟨es, clock, h1, F, hs, hD⟩ := h
  exact ⟨es, clock, (hb.block _ hl).trans h1, F, hs, hD⟩

theorem LawCtx.draw {w : World} {n : Int} {es : List Edg} {oe : Option Addr} {c : Nat} {ar : List (List Int)} {oa : Option Addr} {ca : Nat} {q : Int} {rot : List Int} {ot : Option Addr} {ct : Nat} {v : Int} {W : World}
    (h : LawCtx w n es oe c ar oa ca q rot ot ct v W) : LawCtx w n es oe c ar oa ca q rot ot ct v W.drew :=
  ⟨h.hes.drew1 edgR_ok, h.har.drew1 (slcR_ok intR_ok (by decide)), h.hrt.drew1 intR_ok, h.b1.draw, h.b2.draw, h.low.trans ((Below.refl _ _).drew.mono h.low.size)⟩

set_option maxRecDepth 100000 in
set_option maxHeartbeats 40000000 in
theorem trees_walk (n : Int) (es : List Edg) (oe : Option Addr) (c : Nat) (ar : List (List Int)) (oa : Option Addr) (ca : Nat) (q : Int) (rot : List Int) (ot : Option Addr) (ct : Nat) (v : Int) (w : World)
    (hs : SliceR edgR 3 All w oe es) (hc : es.length ≤ c) (hc2 : es.length ≤ 9223372036854775807) (ha : SliceR (slcR intR 1) 1 All w oa ar) (hac : ar.length ≤ ca) (hac2 : ar.length ≤ 9223372036854775807) (hr : SliceR intR 1 All w ot rot) (hrc : rot.length ≤ ct) (hrl : rot.length ≤ 9223372036854775807) :
    Calls Try.prog 7 #[.agg #[.int .i64 n, .slice oe es.length c, .slice oa ar.length ca], .agg #[.int .i64 q, .slice ot rot.length ct, .int .i64 v]] w fun e w' => e = .returned (.bool true) ∧ Below w.heap.size w w' := by
  have hmm := @run_makeMap Try.prog
  have hU : Hid (gErr n es = 0 → Uf (forest es) (eL es)) := forest_ok n es
  have C0 := LawCtx.new (n := n) (c := c) (ca := ca) (q := q) (ct := ct) (v := v) hs ha hr
  obtain ⟨W1, hW1⟩ : ∃ W1, (w.alloc (.cells #[.int .i64 n, .slice oe es.length c, .slice oa ar.length ca] 27)).alloc (.cells #[.int .i64 q, .slice ot rot.length ct, .int .i64 v] 30) = W1 := ⟨_, rfl⟩
  rw [hW1] at C0
  have HC := hide C0
  have d0 := HC.out.b1.cell 0
  have d1 := HC.out.b1.cell 1
  have d2 := HC.out.b1.cell 2
  have p0 := HC.out.b2.cell 0
  have p1 := HC.out.b2.cell 1
  have p2 := HC.out.b2.cell 2
  simp only [List.getElem?_cons_zero, List.getElem?_cons_succ] at d0 d1 d2 p0 p1 p2
  clear hs ha hr C0
  go_enter Try.func7, Try.ntmps7
  go_wp2_with fail
  clear d0 d1 d2 p0 p1 p2
  refine (few45_any n es oe c ar oa ca All All _ HC.out.hes hc hc2 HC.out.har hac hac2 rot ot ct).mono ?_
  rintro e W2 ⟨rfl, hb⟩
  replace HC := hide (HC.out.below hb)
  clear hb hW1
  by_cases hF : few45 n es ar rot = true
  · obtain ⟨hc3, _, _⟩ := few45_yes hF
    have HF := hide hF
    rw [hF]
    clear hF
    have d0 := HC.out.b1.cell 0
    have d1 := HC.out.b1.cell 1
    have d2 := HC.out.b1.cell 2
    have p0 := HC.out.b2.cell 0
    have p1 := HC.out.b2.cell 1
    have p2 := HC.out.b2.cell 2
    simp only [List.getElem?_cons_zero, List.getElem?_cons_succ] at d0 d1 d2 p0 p1 p2
    go_wp2_with fail
    clear d0 d1 d2 p0 p1 p2
    refine (r45check_any n es oe c ar oa ca All All _ HC.out.hes hc (by omega) HC.out.har hac hac2 (forest es) hU q rot ot ct All HC.out.hrt hrc hrl).mono ?_
    rintro e W3 ⟨rfl, hb⟩
    replace HC := hide (HC.out.below hb)
    clear hb
    by_cases hR : rtE n es (forest es) ar q rot = 0
    · rw [hR]
      have d0 := HC.out.b1.cell 0
      have d1 := HC.out.b1.cell 1
      have d2 := HC.out.b1.cell 2
      have p0 := HC.out.b2.cell 0
      have p1 := HC.out.b2.cell 1
      have p2 := HC.out.b2.cell 2
      simp only [List.getElem?_cons_zero, List.getElem?_cons_succ] at d0 d1 d2 p0 p1 p2
      go_wp2_with fail
      clear d0 d1 d2 p0 p1 p2
      refine (rvertex_any n v oe es.length c W3).mono ?_
      rintro e W4 ⟨rfl, hb⟩
      replace HC := hide (HC.out.below hb)
      clear hb
      by_cases hv : vtxB n v = true
      · rw [hv]
        obtain ⟨hv0, hvn⟩ := vtxB_iff.1 hv
        obtain ⟨v, rfl⟩ := Int.eq_ofNat_of_zero_le hv0
        obtain ⟨q, rfl, hok⟩ := RtOk.of hR (by omega : es.length ≤ 1000)
        have hal := hok.nar
        have hva : v < ar.length := by omega
        obtain ⟨hC, _, hrn, _⟩ := rtE_zero hR
        have hV : Hid (gErr n es = 0) := jErr_zero (chkE_zero hC).1
        obtain ⟨h6, h9⟩ := few45_ends HF.out hV.out
        obtain ⟨T, hT1, hT2, hT3⟩ := chip_ends hok hC hU.out hva h6 (by omega)
        have HOK := hide hok
        have HR := hide hR
        have HT := hide (And.intro hT1 (And.intro hT2 hT3))
        have HRL : Hid (rot.length = ar.length) := hok.nrot
        have KW := hide (fun W (h : LawCtx w n es oe c ar oa ca q rot ot ct v W) => rotWalk_any n es oe c ar oa ca All All W h.hes hc (by omega) h.har hac hac2 (forest es) hU q rot ot ct All h.hrt hrc hrl v)
        have KR := hide (fun W (h : LawCtx w n es oe c ar oa ca q rot ot ct v W) => rotRoute_any n es oe c ar oa ca All All W h.hes hc (by omega) h.har hac hac2 (forest es) hU q rot ot ct All h.hrt hrc hrl v)
        have KA := hide (fun W (h : LawCtx w n es oe c ar oa ca q rot ot ct v W) => rotAcyclic_any n es oe c ar oa ca All All W h.hes hc (by omega) h.har hac hac2 (forest es) hU q rot ot ct All h.hrt hrc hrl)
        rw [routeRes_hit hR hvn hT1 hT2 hT3] at KR
        rw [walkRes_is hR hvn hT2 hT3] at KW
        clear hR hok hal hvn hv hv0 hC hrn h6 h9 hT1 hT2 hT3
        have d0 := HC.out.b1.cell 0
        have d1 := HC.out.b1.cell 1
        have d2 := HC.out.b1.cell 2
        have p0 := HC.out.b2.cell 0
        have p1 := HC.out.b2.cell 1
        have p2 := HC.out.b2.cell 2
        simp only [List.getElem?_cons_zero, List.getElem?_cons_succ] at d0 d1 d2 p0 p1 p2
        go_wp2_with fail
        clear d0 d1 d2 p0 p1 p2
        refine (KA.out _ HC.out).mono ?_
        rintro e W5 ⟨rfl, hb⟩
        replace HC := hide (HC.out.below hb)
        have HA1 : Hid ((acycRes n es (forest es) ar q rot).2 = 0) := by unfold acycRes; rw [if_pos HR.out]; rfl
        have HA2 : Hid ((acycRes n es (forest es) ar q rot).1 = acyB ar (endsL es) q rot ar.length ar.length) := by unfold acycRes; rw [if_pos HR.out, HRL.out]; rfl
        rw [HA1.out, HA2.out]
        clear hb KA HA1 HA2
        generalize hbb : acyB ar (endsL es) q rot ar.length ar.length = bb
        have HBB := hide hbb
        clear hbb
        have d0 := HC.out.b1.cell 0
        have d1 := HC.out.b1.cell 1
        have d2 := HC.out.b1.cell 2
        have p0 := HC.out.b2.cell 0
        have p1 := HC.out.b2.cell 1
        have p2 := HC.out.b2.cell 2
        simp only [List.getElem?_cons_zero, List.getElem?_cons_succ] at d0 d1 d2 p0 p1 p2
        go_wp2_with fail
        clear d0 d1 d2 p0 p1 p2
        refine (KR.out _ HC.out).mono ?_
        rintro e W6 ⟨rv, rfl, ho, hb⟩
        simp only at ho
        obtain ⟨RR, hRR⟩ : ∃ RR, RR = rotI ar (endsL es) rot v T := ⟨_, rfl⟩
        rw [← hRR] at ho
        have hRk : RtOk n es ar q RR := by rw [hRR]; exact (HOK.out.along hva T HT.out.2.2).1
        have hRE : rtE n es (forest es) ar q RR = 0 := rtE_other HR.out hRk
        have HRRL : Hid (RR.length = ar.length) := hRk.nrot
        have HRR := hide hRR
        obtain ⟨oR, cR, rfl, hcR, hsR⟩ := OwnS.given ho
        replace HC := hide (HC.out.below hb)
        have SR := hide hsR
        have KC := hide (fun W (h : LawCtx w n es oe c ar oa ca q rot ot ct v W) (h2 : SliceR intR 1 All W oR RR) => r45check_any n es oe c ar oa ca All All W h.hes hc (by omega) h.har hac hac2 (forest es) hU q RR oR cR All h2 hcR (by rw [HRRL.out]; exact hac2))
        have KA := hide (fun W (h : LawCtx w n es oe c ar oa ca q rot ot ct v W) (h2 : SliceR intR 1 All W oR RR) => rotAcyclic_any n es oe c ar oa ca All All W h.hes hc (by omega) h.har hac hac2 (forest es) hU q RR oR cR All h2 hcR (by rw [HRRL.out]; exact hac2))
        rw [hRE] at KC
        have HRE := hide hRE
        have HRK := hide hRk
        clear ho hb hsR hRR hRE hRk KR
        have d0 := HC.out.b1.cell 0
        have d1 := HC.out.b1.cell 1
        have d2 := HC.out.b1.cell 2
        have p0 := HC.out.b2.cell 0
        have p1 := HC.out.b2.cell 1
        have p2 := HC.out.b2.cell 2
        simp only [List.getElem?_cons_zero, List.getElem?_cons_succ] at d0 d1 d2 p0 p1 p2
        go_wp2_with fail
        clear d0 d1 d2 p0 p1 p2
        refine (KW.out _ HC.out).mono ?_
        rintro e W7 ⟨rv, rfl, ho, hb⟩
        replace HC := hide (HC.out.below hb)
        replace SR := hide (SR.out.below intR_ok hb)
        clear hb KW
        by_cases h4 : T < 4096
        · rw [if_pos h4] at ho ⊢
          simp only at ho
          obtain ⟨oW, cW, rfl, hcW, hsW⟩ := OwnS.given ho
          have hTle : T ≤ 4096 := by omega
          have hgl : Hid (∀ i, i ≤ T → (wayL (chipV ar (endsL es) rot v) (T + 1))[i]? = some ((chipV ar (endsL es) rot v i : Nat) : Int)) := fun i hi => wayL_get _ (by omega)
          have hll : (wayL (chipV ar (endsL es) rot v) (T + 1)).length = T + 1 := wayL_len _ _
          have hV0 : chipV ar (endsL es) rot v 0 = v := rfl
          have HVT := hide HT.out.2.1
          have HVL : Hid (∀ k, k ≤ T → chipV ar (endsL es) rot v k < ar.length) := fun k hk => (HOK.out.along hva k fun j hj => HT.out.2.2 j (by omega)).2
          have HVB : Hid (∀ k, k < T → betw es (chipV ar (endsL es) rot v k : Nat) (chipV ar (endsL es) rot v (k + 1) : Nat) ≠ 0) := fun k hk => by
            have h1 := HOK.out.along hva k fun j hj => HT.out.2.2 j (by omega)
            exact step_betw h1.1 hV.out h1.2 (HT.out.2.2 k hk)
          have HLM : Hid (∀ u, (∀ x, lastM (chipV ar (endsL es) rot v) T u = some x → stV ar (endsL es) RR u = x ∧ u ≠ q ∧ u < ar.length) ∧ (lastM (chipV ar (endsL es) rot v) T u = none → RR.getD u 0 = rot.getD u 0)) := fun u => by
            rw [HRR.out]
            exact lastM_law HOK.out hva T HT.out.2.2 u
          generalize hgv : chipV ar (endsL es) rot v = V at *
          have HGV := hide hgv
          generalize wayL V (T + 1) = l at *
          have hl0 : 0 < l.length := by omega
          have hlT : T < l.length := by omega
          obtain ⟨x0, -, hx0, -, b, off, hod, -, c0⟩ := hsW.int_at hl0
          subst hod
          obtain ⟨xT, -, hxT, -, b', off', hod', -, cT⟩ := hsW.int_at hlT
          injection hod' with hod'
          injection hod' with e1 e2
          subst e1 e2
          have e0 : x0 = (v : Int) := by have := hgl.out 0 (by omega); rw [hx0, hV0] at this; injection this
          have eT : xT = (q : Int) := by have := hgl.out T (by omega); rw [hxT, HVT.out] at this; injection this
          subst e0 eT
          rw [Nat.add_zero] at c0
          rw [hll]
          have HLL := hide hll
          have SW := hide hsW
          clear ho hsW hgv hx0 hxT hll hV0 hl0 hlT
          have d0 := HC.out.b1.cell 0
          have d1 := HC.out.b1.cell 1
          have d2 := HC.out.b1.cell 2
          have p0 := HC.out.b2.cell 0
          have p1 := HC.out.b2.cell 1
          have p2 := HC.out.b2.cell 2
          simp only [List.getElem?_cons_zero, List.getElem?_cons_succ] at d0 d1 d2 p0 p1 p2
          go_wp2_with fail
          have hw1 : IntKind.i64.wrap (IntKind.i64.wrap 0) = 0 := by decide
          have i5 : (0 : Int) ≤ (T : Int) := by omega
          have i6 : (T : Int) < (T : Int) + 1 := by omega
          have hw2 : IntKind.i64.wrap ((T : Int) + 1) = (T : Int) + 1 := by unfold IntKind.wrap; simp [IntKind.signed, IntKind.bits]; omega
          replace HC := hide HC.out.draw
          replace SR := hide (SR.out.drew1 intR_ok)
          replace SW := hide (SW.out.drew1 intR_ok)
          go_region_held3 (fun w' => w'.cell? ⟨w.heap.size, 0, none⟩ = some (.int .i64 n) ∧ w'.cell? ⟨w.heap.size, 1, none⟩ = some (.slice oe es.length c) ∧ w'.cell? ⟨w.heap.size, 2, none⟩ = some (.slice oa ar.length ca) ∧ w'.cell? ⟨w.heap.size + 1, 0, none⟩ = some (.int .i64 q) ∧ w'.cell? ⟨w.heap.size + 1, 2, none⟩ = some (.int .i64 v) ∧ w'.cell? ⟨b, off, none⟩ = some (.int .i64 v) ∧ w'.cell? ⟨b, off + T, none⟩ = some (.int .i64 q)) (first | exact ⟨d0, d1, d2, p0, p2, c0, cT⟩) (first
            | (go_at_call 18; refine (KC.out _ HC.out SR.out).mono ?_; rintro e w8 ⟨rfl, h8⟩; replace HC := hide (HC.out.below h8); replace SR := hide (SR.out.below intR_ok h8); replace SW := hide (SW.out.below intR_ok h8); replace c0 := (h8.cell (World.block_lt_of_cell? _ _ c0)).trans c0; replace cT := (h8.cell (World.block_lt_of_cell? _ _ cT)).trans cT; clear d0 d1 d2 p0 p1 p2; have d0 := HC.out.b1.cell 0; have d1 := HC.out.b1.cell 1; have d2 := HC.out.b1.cell 2; have p0 := HC.out.b2.cell 0; have p1 := HC.out.b2.cell 1; have p2 := HC.out.b2.cell 2; simp only [List.getElem?_cons_zero, List.getElem?_cons_succ] at d0 d1 d2 p0 p1 p2; clear h8))
          clear d0 d1 d2 p0 p1 p2
          clear c0 cT hw1 hw2 i5 i6 KC
          have d0 := HC.out.b1.cell 0
          have d1 := HC.out.b1.cell 1
          have d2 := HC.out.b1.cell 2
          have p0 := HC.out.b2.cell 0
          have p1 := HC.out.b2.cell 1
          have p2 := HC.out.b2.cell 2
          simp only [List.getElem?_cons_zero, List.getElem?_cons_succ] at d0 d1 d2 p0 p1 p2
          go_wp2_with fail
          clear d0 d1 d2 p0 p1 p2
          have hb2 : Hid (bb = true → acyB ar (endsL es) q RR ar.length ar.length = true) := fun h => by
            have h1 := HBB.out
            rw [h] at h1
            have := HRR.out
            rw [this]
            have h3 := HT.out
            rw [← HGV.out] at h3
            exact acy_keep HOK.out hva h3.2.1 h3.2.2 h1
          have KA2 : Hid (∀ W, LawCtx w n es oe c ar oa ca q rot ot ct v W → SliceR intR 1 All W oR RR → Calls Try.prog 24 #[.agg #[.int .i64 n, .slice oe es.length c, .slice oa ar.length ca], .int .i64 q, .slice oR RR.length cR] W (BoolErr W (acyB ar (endsL es) q RR ar.length ar.length) 0)) := fun W h1 h2 => by
            have := KA.out W h1 h2
            have e : acycRes n es (forest es) ar q RR = (acyB ar (endsL es) q RR ar.length ar.length, 0) := by unfold acycRes; rw [if_pos HRE.out, HRRL.out]; rfl
            rw [e] at this
            exact this
          clear KA
          refine (KA2.out _ HC.out SR.out).mono ?_
          rintro e W9 ⟨rfl, hb⟩
          replace HC := hide (HC.out.below hb)
          replace SR := hide (SR.out.below intR_ok hb)
          replace SW := hide (SW.out.below intR_ok hb)
          clear hb KA2
          generalize acyB ar (endsL es) q RR ar.length ar.length = bb2 at *
          clear HBB
          go_upto_region 9 with fail
          go_cut [139] (fun s139 wx => s139 = .bool false ∧ W9 = wx)
          case first =>
            cases bb with
            | false =>
              go_wp2_with fail
              go_meet
              exact ⟨rfl, rfl⟩
            | true =>
              obtain rfl := hb2.out rfl
              go_wp2_with fail
              go_meet
              exact ⟨rfl, rfl⟩
          case rest =>
            obtain ⟨rfl, rfl⟩ := hcut
            clear hb2
            have hm : Hid (∀ x ∈ es, x.m ≤ 50) := fun x hx => ((gErr_zero hV.out).2.1 x hx).2.2.2.1
            have KT := hide (targets_any n es oe c ar oa ca All All _ HC.out.hes hc (by omega) HC.out.har hac hac2 hm q rot HOK.out)
            have d0 := HC.out.b1.cell 0
            have d1 := HC.out.b1.cell 1
            have d2 := HC.out.b1.cell 2
            have p0 := HC.out.b2.cell 0
            have p1 := HC.out.b2.cell 1
            have p2 := HC.out.b2.cell 2
            simp only [List.getElem?_cons_zero, List.getElem?_cons_succ] at d0 d1 d2 p0 p1 p2
            go_wp2_with fail
            clear d0 d1 d2 p0 p1 p2
            refine KT.out.mono ?_
            rintro e W10 ⟨oT, cT', rfl, hcT', hsT, hb⟩
            replace HC := hide (HC.out.below hb)
            replace SR := hide (SR.out.below intR_ok hb)
            replace SW := hide (SW.out.below intR_ok hb)
            have ST := hide hsT
            have HAL := hide HOK.out.nar
            clear hb hsT KT
            go_wp2_with fail
            have hm0 := hide (World.ownsMap_made (H := Unit) W10 Try.prog 3 (plainElem (H := Unit) Try.prog 3))
            have hb0 : Hid (Below W10.heap.size W10 (W10.alloc (.map #[] 0))) := (Below.refl _ _).alloc (Nat.le_refl _) _
            go_loopw [15] (fun iv wr => ∃ k : Nat, k ≤ T ∧ iv = .int .i64 ((k : Int) + 1) ∧ Hid (Below W10.heap.size W10 wr) ∧ Hid (wr.ownsMap Try.prog 3 (plainElem (H := Unit) Try.prog 3) W10.heap.size k (mapD V k))) (fun iv _ => T + 1 - (intOf iv).toNat)
            case atStart => exact ⟨0, by omega, rfl, hb0, hm0⟩
            case round =>
              clear hm0 hb0
              obtain ⟨k, hk, rfl, HB, HM⟩ := hrel
              by_cases hlt : k < T
              · have HCk := hide (HC.out.below HB.out)
                obtain ⟨x0, -, hx0, -, b1, o1, hod, -, ck⟩ := (SW.out.below intR_ok HB.out).int_at (show k < l.length by have := HLL.out; omega)
                injection hod with hod
                injection hod with e1 e2
                subst e1 e2
                obtain ⟨x1, -, hx1, -, b1, o1, hod, -, ck1⟩ := (SW.out.below intR_ok HB.out).int_at (show k + 1 < l.length by have := HLL.out; omega)
                injection hod with hod
                injection hod with e1 e2
                subst e1 e2
                have e0 : x0 = ((V k : Nat) : Int) := by have := hgl.out k (by omega); rw [hx0] at this; injection this
                have e1 : x1 = ((V (k + 1) : Nat) : Int) := by have := hgl.out (k + 1) (by omega); rw [hx1] at this; injection this
                subst e0 e1
                have hv1 := HVL.out k (by omega)
                have hv2 := HVL.out (k + 1) (by omega)
                have KV : Hid (∀ W, Calls Try.prog 31 #[.agg #[.int .i64 n, .slice oe es.length c], .int .i64 (V (k + 1) : Nat)] W fun e w' => e = .returned (.bool true) ∧ Below W.heap.size W w') := fun W => by
                  have := rvertex_any n (V (k + 1) : Nat) oe es.length c W
                  rw [vtxB_iff.2 ⟨by omega, by have := HAL.out; omega⟩] at this
                  exact this
                have KB := hide (fun W (h : SliceR edgR 3 All W oe es) => betw_any n es oe c All W h hc hc2 (V k : Nat) (V (k + 1) : Nat))
                have hnq : V k ≠ q := HT.out.2.2 k hlt
                have q1 : (((V k : Nat) : Int) == (q : Int)) = false := by simp; omega
                have hbt := HVB.out k hlt
                have HM2 := hide (fun (W : World) (h : Below wr.heap.size wr W) => map_below HM.out h)
                have hlow := hide (fun (W : World) (h : Below wr.heap.size wr W) => HB.out.trans (h.mono HB.out.size))
                have d0 := HCk.out.b1.cell 0
                have d1 := HCk.out.b1.cell 1
                have p0 := HCk.out.b2.cell 0
                simp only [List.getElem?_cons_zero, List.getElem?_cons_succ] at d0 d1 p0
                generalize hbe : betw es (V k : Nat) (V (k + 1) : Nat) = be at *
                generalize hvk : V k = vk at *
                generalize hvk1 : V (k + 1) = vk1 at *
                have HVK := hide hvk
                have HVK1 := hide hvk1
                have q3 : (be == 0) = false := by simpa using hbt
                clear hbe hvk hvk1 hx0 hx1
                go_upto_region 16 with fail
                have HBk : Hid (Below wr.heap.size wr wr.drew) := (Below.refl _ _).drew
                replace HCk := hide HCk.out.draw
                have hw3 : IntKind.i64.wrap ((k : Int) + 1 - 1) = (k : Int) := by unfold IntKind.wrap; simp [IntKind.signed, IntKind.bits]; omega
                have hw4 : IntKind.i64.wrap (k : Int) = (k : Int) := by unfold IntKind.wrap; simp [IntKind.signed, IntKind.bits]; omega
                have i1 : (0 : Int) ≤ (k : Int) + 1 := by omega
                have i2 : (k : Int) + 1 < (T : Int) + 1 := by omega
                have i3 : (0 : Int) ≤ (k : Int) := by omega
                have i4 : (k : Int) < (T : Int) + 1 := by omega
                by_cases hvv : vk1 = vk
                · as_aux_lemma =>
                    subst hvv
                    refine wp_region_held_drew (S := fun w' => w'.cell? ⟨w.heap.size, 0, none⟩ = some (.int .i64 n) ∧ w'.cell? ⟨w.heap.size, 1, none⟩ = some (.slice oe es.length c) ∧ w'.cell? ⟨w.heap.size + 1, 0, none⟩ = some (.int .i64 q) ∧ w'.cell? ⟨b, off + k, none⟩ = some (.int .i64 vk1) ∧ w'.cell? ⟨b, off + (k + 1), none⟩ = some (.int .i64 vk1)) (by kernel_rfl) ⟨d0, d1, p0, ck, ck1⟩ (fun hHeld => ?_)
                    refine wpAnyH_take (i := 0) (oi := ?oi0) (v := ?v0) ?hi0 (by as_aux_lemma => kernel_rfl) (by as_aux_lemma => kernel_rfl) (by as_aux_lemma => kernel_rfl) ?hq0 ?hy0 (by assumption) ?rest0
                    case hi0 => simp only [List.getElem?_toArray, List.getElem?_cons_zero, List.getElem?_cons_succ]; rfl
                    case hq0 => exact fun _ _ _ h => h
                    case hy0 => refine Or.inl ⟨by rfl, ?_⟩; intro w hSw; (try dsimp only at hSw); go_simp; (try with_reducible rfl)
                    try simp only [Act.put, List.setIfInBounds_toArray, List.set_cons_zero, List.set_cons_succ]
                    refine wpAnyH_take (i := 1) (oi := ?oi1) (v := ?v1) ?hi1 (by as_aux_lemma => kernel_rfl) (by as_aux_lemma => kernel_rfl) (by as_aux_lemma => kernel_rfl) ?hq1 ?hy1 (by assumption) ?rest1
                    case hi1 => simp only [List.getElem?_toArray, List.getElem?_cons_zero, List.getElem?_cons_succ]; rfl
                    case hq1 => exact fun _ _ _ h => h
                    case hy1 => refine Or.inl ⟨by rfl, ?_⟩; intro w hSw; (try dsimp only at hSw); go_simp; (try with_reducible rfl)
                    try simp only [Act.put, List.setIfInBounds_toArray, List.set_cons_zero, List.set_cons_succ]
                    refine wpAnyH_take (i := 2) (oi := ?oi2) (v := ?v2) ?hi2 (by as_aux_lemma => kernel_rfl) (by as_aux_lemma => kernel_rfl) (by as_aux_lemma => kernel_rfl) ?hq2 ?hy2 (by assumption) ?rest2
                    case hi2 => simp only [List.getElem?_toArray, List.getElem?_cons_zero, List.getElem?_cons_succ]; rfl
                    case hq2 => exact fun _ _ _ h => h
                    case hy2 => refine Or.inl ⟨by rfl, ?_⟩; intro w hSw; (try dsimp only at hSw); go_simp; (try with_reducible rfl)
                    try simp only [Act.put, List.setIfInBounds_toArray, List.set_cons_zero, List.set_cons_succ]
                    refine wpAnyH_take (i := 3) (oi := ?oi3) (v := ?v3) ?hi3 (by as_aux_lemma => kernel_rfl) (by as_aux_lemma => kernel_rfl) (by as_aux_lemma => kernel_rfl) ?hq3 ?hy3 (by assumption) ?rest3
                    case hi3 => simp only [List.getElem?_toArray, List.getElem?_cons_zero, List.getElem?_cons_succ]; rfl
                    case hq3 => exact fun _ _ _ h => h
                    case hy3 => refine Or.inl ⟨by rfl, ?_⟩; intro w hSw; (try dsimp only at hSw); go_simp; (try with_reducible rfl)
                    try simp only [Act.put, List.setIfInBounds_toArray, List.set_cons_zero, List.set_cons_succ]
                    refine wpAnyH_take (i := 4) (oi := ?oi4) (v := ?v4) ?hi4 (by as_aux_lemma => kernel_rfl) (by as_aux_lemma => kernel_rfl) (by as_aux_lemma => kernel_rfl) ?hq4 ?hy4 (by assumption) ?rest4
                    case hi4 => simp only [List.getElem?_toArray, List.getElem?_cons_zero, List.getElem?_cons_succ]; rfl
                    case hq4 => exact fun _ _ _ h => h
                    case hy4 => refine Or.inl ⟨by rfl, ?_⟩; intro w hSw; (try dsimp only at hSw); go_simp; (try with_reducible rfl)
                    try simp only [Act.put, List.setIfInBounds_toArray, List.set_cons_zero, List.set_cons_succ]
                    refine wpAnyH_take (i := 5) (oi := ?oi5) (v := ?v5) ?hi5 (by as_aux_lemma => kernel_rfl) (by as_aux_lemma => kernel_rfl) (by as_aux_lemma => kernel_rfl) ?hq5 ?hy5 (by assumption) ?rest5
                    case hi5 => simp only [List.getElem?_toArray, List.getElem?_cons_zero, List.getElem?_cons_succ]; rfl
                    case hq5 => exact fun _ _ _ h => h
                    case hy5 => refine Or.inl ⟨by rfl, ?_⟩; intro w hSw; (try dsimp only at hSw); go_simp; (try with_reducible rfl)
                    try simp only [Act.put, List.setIfInBounds_toArray, List.set_cons_zero, List.set_cons_succ]
                    refine wpAnyH_ready (rs := [6]) (by as_aux_lemma => kernel_rfl) (by simp) ?_
                    refine AllReadyH.cons (o := ?oi6) ?hi6 ?rest6 AllReadyH.nil
                    case hi6 => simp only [List.getElem?_toArray, List.getElem?_cons_zero, List.getElem?_cons_succ]; rfl
                    intro K hK
                    go_simp
                    go_at_call 31; refine (KV.out _).mono ?_
                    rintro e w8 ⟨rfl, h8⟩
                    replace HCk := hide (HCk.out.below h8)
                    replace HBk := hide (HBk.out.trans (h8.mono HBk.out.size))
                    replace d0 := (h8.cell (World.block_lt_of_cell? _ _ d0)).trans d0
                    replace d1 := (h8.cell (World.block_lt_of_cell? _ _ d1)).trans d1
                    replace p0 := (h8.cell (World.block_lt_of_cell? _ _ p0)).trans p0
                    replace ck := (h8.cell (World.block_lt_of_cell? _ _ ck)).trans ck
                    replace ck1 := (h8.cell (World.block_lt_of_cell? _ _ ck1)).trans ck1
                    clear h8
                    try dsimp only
                    refine hK.out _ _ ⟨d0, d1, p0, ck, ck1⟩ (fun hHeld => ?_)
                    clear hK K
                    try simp only [Act.put, List.setIfInBounds_toArray, List.set_cons_zero, List.set_cons_succ]
                    refine wpAnyH_take (i := 7) (oi := ?oi7) (v := ?v7) ?hi7 (by as_aux_lemma => kernel_rfl) (by as_aux_lemma => kernel_rfl) (by as_aux_lemma => kernel_rfl) ?hq7 ?hy7 (by assumption) ?rest7
                    case hi7 => simp only [List.getElem?_toArray, List.getElem?_cons_zero, List.getElem?_cons_succ]; rfl
                    case hq7 => exact fun _ _ _ h => h
                    case hy7 => refine Or.inl ⟨by rfl, ?_⟩; intro w hSw; (try dsimp only at hSw); go_simp; (try with_reducible rfl)
                    try simp only [Act.put, List.setIfInBounds_toArray, List.set_cons_zero, List.set_cons_succ]
                    refine wpAnyH_take (i := 8) (oi := ?oi8) (v := ?v8) ?hi8 (by as_aux_lemma => kernel_rfl) (by as_aux_lemma => kernel_rfl) (by as_aux_lemma => kernel_rfl) ?hq8 ?hy8 (by assumption) ?rest8
                    case hi8 => simp only [List.getElem?_toArray, List.getElem?_cons_zero, List.getElem?_cons_succ]; rfl
                    case hq8 => exact fun _ _ _ h => h
                    case hy8 => refine Or.inl ⟨by rfl, ?_⟩; intro w hSw; (try dsimp only at hSw); go_simp; (try with_reducible rfl)
                    try simp only [Act.put, List.setIfInBounds_toArray, List.set_cons_zero, List.set_cons_succ]
                    refine wpAnyH_take (i := 9) (oi := ?oi9) (v := ?v9) ?hi9 (by as_aux_lemma => kernel_rfl) (by as_aux_lemma => kernel_rfl) (by as_aux_lemma => kernel_rfl) ?hq9 ?hy9 (by assumption) ?rest9
                    case hi9 => simp only [List.getElem?_toArray, List.getElem?_cons_zero, List.getElem?_cons_succ]; rfl
                    case hq9 => exact fun _ _ _ h => h
                    case hy9 => refine Or.inl ⟨by rfl, ?_⟩; intro w hSw; (try dsimp only at hSw); go_simp; (try with_reducible rfl)
                    try simp only [Act.put, List.setIfInBounds_toArray, List.set_cons_zero, List.set_cons_succ]
                    refine wpAnyH_take (i := 10) (oi := ?oi10) (v := ?v10) ?hi10 (by as_aux_lemma => kernel_rfl) (by as_aux_lemma => kernel_rfl) (by as_aux_lemma => kernel_rfl) ?hq10 ?hy10 (by assumption) ?rest10
                    case hi10 => simp only [List.getElem?_toArray, List.getElem?_cons_zero, List.getElem?_cons_succ]; rfl
                    case hq10 => exact fun _ _ _ h => h
                    case hy10 => refine Or.inl ⟨by rfl, ?_⟩; intro w hSw; (try dsimp only at hSw); go_simp; (try with_reducible rfl)
                    try simp only [Act.put, List.setIfInBounds_toArray, List.set_cons_zero, List.set_cons_succ]
                    refine wpAnyH_take (i := 11) (oi := ?oi11) (v := ?v11) ?hi11 (by as_aux_lemma => kernel_rfl) (by as_aux_lemma => kernel_rfl) (by as_aux_lemma => kernel_rfl) ?hq11 ?hy11 (by assumption) ?rest11
                    case hi11 => simp only [List.getElem?_toArray, List.getElem?_cons_zero, List.getElem?_cons_succ]; rfl
                    case hq11 => exact fun _ _ _ h => h
                    case hy11 => refine Or.inl ⟨by rfl, ?_⟩; intro w hSw; (try dsimp only at hSw); go_simp; (try with_reducible rfl)
                    try simp only [Act.put, List.setIfInBounds_toArray, List.set_cons_zero, List.set_cons_succ]
                    refine wpAnyH_take (i := 12) (oi := ?oi12) (v := ?v12) ?hi12 (by as_aux_lemma => kernel_rfl) (by as_aux_lemma => kernel_rfl) (by as_aux_lemma => kernel_rfl) ?hq12 ?hy12 (by assumption) ?rest12
                    case hi12 => simp only [List.getElem?_toArray, List.getElem?_cons_zero, List.getElem?_cons_succ]; rfl
                    case hq12 => exact fun _ _ _ h => h
                    case hy12 => refine Or.inl ⟨by rfl, ?_⟩; intro w hSw; (try dsimp only at hSw); go_simp; (try with_reducible rfl)
                    try simp only [Act.put, List.setIfInBounds_toArray, List.set_cons_zero, List.set_cons_succ]
                    refine wpAnyH_take (i := 13) (oi := ?oi13) (v := ?v13) ?hi13 (by as_aux_lemma => kernel_rfl) (by as_aux_lemma => kernel_rfl) (by as_aux_lemma => kernel_rfl) ?hq13 ?hy13 (by assumption) ?rest13
                    case hi13 => simp only [List.getElem?_toArray, List.getElem?_cons_zero, List.getElem?_cons_succ]; rfl
                    case hq13 => exact fun _ _ _ h => h
                    case hy13 => refine Or.inl ⟨by rfl, ?_⟩; intro w hSw; (try dsimp only at hSw); go_simp; (try with_reducible rfl)
                    try simp only [Act.put, List.setIfInBounds_toArray, List.set_cons_zero, List.set_cons_succ]
                    refine wpAnyH_take (i := 14) (oi := ?oi14) (v := ?v14) ?hi14 (by as_aux_lemma => kernel_rfl) (by as_aux_lemma => kernel_rfl) (by as_aux_lemma => kernel_rfl) ?hq14 ?hy14 (by assumption) ?rest14
                    case hi14 => simp only [List.getElem?_toArray, List.getElem?_cons_zero, List.getElem?_cons_succ]; rfl
                    case hq14 => exact fun _ _ _ h => h
                    case hy14 => refine Or.inl ⟨by rfl, ?_⟩; intro w hSw; (try dsimp only at hSw); go_simp; (try with_reducible rfl)
                    try simp only [Act.put, List.setIfInBounds_toArray, List.set_cons_zero, List.set_cons_succ]
                    refine wpAnyH_take (i := 15) (oi := ?oi15) (v := ?v15) ?hi15 (by as_aux_lemma => kernel_rfl) (by as_aux_lemma => kernel_rfl) (by as_aux_lemma => kernel_rfl) ?hq15 ?hy15 (by assumption) ?rest15
                    case hi15 => simp only [List.getElem?_toArray, List.getElem?_cons_zero, List.getElem?_cons_succ]; rfl
                    case hq15 => exact fun _ _ _ h => h
                    case hy15 => refine Or.inl ⟨by rfl, ?_⟩; intro w hSw; (try dsimp only at hSw); go_simp; (try with_reducible rfl)
                    try simp only [Act.put, List.setIfInBounds_toArray, List.set_cons_zero, List.set_cons_succ]
                    refine wpAnyH_take (i := 16) (oi := ?oi16) (v := ?v16) ?hi16 (by as_aux_lemma => kernel_rfl) (by as_aux_lemma => kernel_rfl) (by as_aux_lemma => kernel_rfl) ?hq16 ?hy16 (by assumption) ?rest16
                    case hi16 => simp only [List.getElem?_toArray, List.getElem?_cons_zero, List.getElem?_cons_succ]; rfl
                    case hq16 => exact fun _ _ _ h => h
                    case hy16 => refine Or.inl ⟨by rfl, ?_⟩; intro w hSw; (try dsimp only at hSw); go_simp; (try with_reducible rfl)
                    try simp only [Act.put, List.setIfInBounds_toArray, List.set_cons_zero, List.set_cons_succ]
                    refine wpAnyH_take (i := 17) (oi := ?oi17) (v := ?v17) ?hi17 (by as_aux_lemma => kernel_rfl) (by as_aux_lemma => kernel_rfl) (by as_aux_lemma => kernel_rfl) ?hq17 ?hy17 (by assumption) ?rest17
                    case hi17 => simp only [List.getElem?_toArray, List.getElem?_cons_zero, List.getElem?_cons_succ]; rfl
                    case hq17 => exact fun _ _ _ h => h
                    case hy17 => refine Or.inl ⟨by rfl, ?_⟩; intro w hSw; (try dsimp only at hSw); go_simp; (try with_reducible rfl)
                    try simp only [Act.put, List.setIfInBounds_toArray, List.set_cons_zero, List.set_cons_succ]
                    refine wpAnyH_take (i := 18) (oi := ?oi18) (v := ?v18) ?hi18 (by as_aux_lemma => kernel_rfl) (by as_aux_lemma => kernel_rfl) (by as_aux_lemma => kernel_rfl) ?hq18 ?hy18 (by assumption) ?rest18
                    case hi18 => simp only [List.getElem?_toArray, List.getElem?_cons_zero, List.getElem?_cons_succ]; rfl
                    case hq18 => exact fun _ _ _ h => h
                    case hy18 => refine Or.inl ⟨by rfl, ?_⟩; intro w hSw; (try dsimp only at hSw); go_simp; (try with_reducible rfl)
                    try simp only [Act.put, List.setIfInBounds_toArray, List.set_cons_zero, List.set_cons_succ]
                    refine wpAnyH_take (i := 19) (oi := ?oi19) (v := ?v19) ?hi19 (by as_aux_lemma => kernel_rfl) (by as_aux_lemma => kernel_rfl) (by as_aux_lemma => kernel_rfl) ?hq19 ?hy19 (by assumption) ?rest19
                    case hi19 => simp only [List.getElem?_toArray, List.getElem?_cons_zero, List.getElem?_cons_succ]; rfl
                    case hq19 => exact fun _ _ _ h => h
                    case hy19 => refine Or.inl ⟨by rfl, ?_⟩; intro w hSw; (try dsimp only at hSw); go_simp; (try with_reducible rfl)
                    try simp only [Act.put, List.setIfInBounds_toArray, List.set_cons_zero, List.set_cons_succ]
                    refine wpAnyH_take (i := 20) (oi := ?oi20) (v := ?v20) ?hi20 (by as_aux_lemma => kernel_rfl) (by as_aux_lemma => kernel_rfl) (by as_aux_lemma => kernel_rfl) ?hq20 ?hy20 (by assumption) ?rest20
                    case hi20 => simp only [List.getElem?_toArray, List.getElem?_cons_zero, List.getElem?_cons_succ]; rfl
                    case hq20 => exact fun _ _ _ h => h
                    case hy20 => refine Or.inl ⟨by rfl, ?_⟩; intro w hSw; (try dsimp only at hSw); go_simp; (try with_reducible rfl)
                    try simp only [Act.put, List.setIfInBounds_toArray, List.set_cons_zero, List.set_cons_succ]
                    refine wpAnyH_take (i := 21) (oi := ?oi21) (v := ?v21) ?hi21 (by as_aux_lemma => kernel_rfl) (by as_aux_lemma => kernel_rfl) (by as_aux_lemma => kernel_rfl) ?hq21 ?hy21 (by assumption) ?rest21
                    case hi21 => simp only [List.getElem?_toArray, List.getElem?_cons_zero, List.getElem?_cons_succ]; rfl
                    case hq21 => exact fun _ _ _ h => h
                    case hy21 => refine Or.inl ⟨by rfl, ?_⟩; intro w hSw; (try dsimp only at hSw); go_simp; (try with_reducible rfl)
                    try simp only [Act.put, List.setIfInBounds_toArray, List.set_cons_zero, List.set_cons_succ]
                    refine wpAnyH_take (i := 22) (oi := ?oi22) (v := ?v22) ?hi22 (by as_aux_lemma => kernel_rfl) (by as_aux_lemma => kernel_rfl) (by as_aux_lemma => kernel_rfl) ?hq22 ?hy22 (by assumption) ?rest22
                    case hi22 => simp only [List.getElem?_toArray, List.getElem?_cons_zero, List.getElem?_cons_succ]; rfl
                    case hq22 => exact fun _ _ _ h => h
                    case hy22 => refine Or.inl ⟨by rfl, ?_⟩; intro w hSw; (try dsimp only at hSw); go_simp; (try with_reducible rfl)
                    try simp only [Act.put, List.setIfInBounds_toArray, List.set_cons_zero, List.set_cons_succ]
                    refine wpAnyH_take (i := 23) (oi := ?oi23) (v := ?v23) ?hi23 (by as_aux_lemma => kernel_rfl) (by as_aux_lemma => kernel_rfl) (by as_aux_lemma => kernel_rfl) ?hq23 ?hy23 (by assumption) ?rest23
                    case hi23 => simp only [List.getElem?_toArray, List.getElem?_cons_zero, List.getElem?_cons_succ]; rfl
                    case hq23 => exact fun _ _ _ h => h
                    case hy23 => refine Or.inl ⟨by rfl, ?_⟩; intro w hSw; (try dsimp only at hSw); go_simp; (try with_reducible rfl)
                    try simp only [Act.put, List.setIfInBounds_toArray, List.set_cons_zero, List.set_cons_succ]
                    refine wpAnyH_take (i := 24) (oi := ?oi24) (v := ?v24) ?hi24 (by as_aux_lemma => kernel_rfl) (by as_aux_lemma => kernel_rfl) (by as_aux_lemma => kernel_rfl) ?hq24 ?hy24 (by assumption) ?rest24
                    case hi24 => simp only [List.getElem?_toArray, List.getElem?_cons_zero, List.getElem?_cons_succ]; rfl
                    case hq24 => exact fun _ _ _ h => h
                    case hy24 => refine Or.inl ⟨by rfl, ?_⟩; intro w hSw; (try dsimp only at hSw); go_simp; (try with_reducible rfl)
                    try simp only [Act.put, List.setIfInBounds_toArray, List.set_cons_zero, List.set_cons_succ]
                    refine wpAnyH_take (i := 25) (oi := ?oi25) (v := ?v25) ?hi25 (by as_aux_lemma => kernel_rfl) (by as_aux_lemma => kernel_rfl) (by as_aux_lemma => kernel_rfl) ?hq25 ?hy25 (by assumption) ?rest25
                    case hi25 => simp only [List.getElem?_toArray, List.getElem?_cons_zero, List.getElem?_cons_succ]; rfl
                    case hq25 => exact fun _ _ _ h => h
                    case hy25 => refine Or.inl ⟨by rfl, ?_⟩; intro w hSw; (try dsimp only at hSw); go_simp; (try with_reducible rfl)
                    try simp only [Act.put, List.setIfInBounds_toArray, List.set_cons_zero, List.set_cons_succ]
                    refine wpAnyH_take (i := 26) (oi := ?oi26) (v := ?v26) ?hi26 (by as_aux_lemma => kernel_rfl) (by as_aux_lemma => kernel_rfl) (by as_aux_lemma => kernel_rfl) ?hq26 ?hy26 (by assumption) ?rest26
                    case hi26 => simp only [List.getElem?_toArray, List.getElem?_cons_zero, List.getElem?_cons_succ]; rfl
                    case hq26 => exact fun _ _ _ h => h
                    case hy26 => refine Or.inl ⟨by rfl, ?_⟩; intro w hSw; (try dsimp only at hSw); go_simp; (try with_reducible rfl)
                    try simp only [Act.put, List.setIfInBounds_toArray, List.set_cons_zero, List.set_cons_succ]
                    refine wpAnyH_take (i := 27) (oi := ?oi27) (v := ?v27) ?hi27 (by as_aux_lemma => kernel_rfl) (by as_aux_lemma => kernel_rfl) (by as_aux_lemma => kernel_rfl) ?hq27 ?hy27 (by assumption) ?rest27
                    case hi27 => simp only [List.getElem?_toArray, List.getElem?_cons_zero, List.getElem?_cons_succ]; rfl
                    case hq27 => exact fun _ _ _ h => h
                    case hy27 => refine Or.inl ⟨by rfl, ?_⟩; intro w hSw; (try dsimp only at hSw); go_simp; (try with_reducible rfl)
                    try simp only [Act.put, List.setIfInBounds_toArray, List.set_cons_zero, List.set_cons_succ]
                    refine wpAnyH_take (i := 28) (oi := ?oi28) (v := ?v28) ?hi28 (by as_aux_lemma => kernel_rfl) (by as_aux_lemma => kernel_rfl) (by as_aux_lemma => kernel_rfl) ?hq28 ?hy28 (by assumption) ?rest28
                    case hi28 => simp only [List.getElem?_toArray, List.getElem?_cons_zero, List.getElem?_cons_succ]; rfl
                    case hq28 => exact fun _ _ _ h => h
                    case hy28 => refine Or.inl ⟨by rfl, ?_⟩; intro w hSw; (try dsimp only at hSw); go_simp; (try with_reducible rfl)
                    try simp only [Act.put, List.setIfInBounds_toArray, List.set_cons_zero, List.set_cons_succ]
                    refine wpAnyH_take (i := 29) (oi := ?oi29) (v := ?v29) ?hi29 (by as_aux_lemma => kernel_rfl) (by as_aux_lemma => kernel_rfl) (by as_aux_lemma => kernel_rfl) ?hq29 ?hy29 (by assumption) ?rest29
                    case hi29 => simp only [List.getElem?_toArray, List.getElem?_cons_zero, List.getElem?_cons_succ]; rfl
                    case hq29 => exact fun _ _ _ h => h
                    case hy29 => refine Or.inl ⟨by rfl, ?_⟩; intro w hSw; (try dsimp only at hSw); go_simp; (try with_reducible rfl)
                    try simp only [Act.put, List.setIfInBounds_toArray, List.set_cons_zero, List.set_cons_succ]
                    refine wpAnyH_take (i := 30) (oi := ?oi30) (v := undef) ?hi30 (by as_aux_lemma => kernel_rfl) (by as_aux_lemma => kernel_rfl) (by as_aux_lemma => kernel_rfl) ?hq30 ?hy30 (by assumption) ?rest30
                    case hi30 => simp only [List.getElem?_toArray, List.getElem?_cons_zero, List.getElem?_cons_succ]; rfl
                    case hq30 => exact fun _ _ _ h => h
                    case hy30 => exact Or.inr ⟨by rfl, rfl⟩
                    try simp only [Act.put, List.setIfInBounds_toArray, List.set_cons_zero, List.set_cons_succ]
                    refine wpAnyH_take (i := 31) (oi := ?oi31) (v := undef) ?hi31 (by as_aux_lemma => kernel_rfl) (by as_aux_lemma => kernel_rfl) (by as_aux_lemma => kernel_rfl) ?hq31 ?hy31 (by assumption) ?rest31
                    case hi31 => simp only [List.getElem?_toArray, List.getElem?_cons_zero, List.getElem?_cons_succ]; rfl
                    case hq31 => exact fun _ _ _ h => h
                    case hy31 => exact Or.inr ⟨by rfl, rfl⟩
                    try simp only [Act.put, List.setIfInBounds_toArray, List.set_cons_zero, List.set_cons_succ]
                    refine wpAnyH_take (i := 32) (oi := ?oi32) (v := undef) ?hi32 (by as_aux_lemma => kernel_rfl) (by as_aux_lemma => kernel_rfl) (by as_aux_lemma => kernel_rfl) ?hq32 ?hy32 (by assumption) ?rest32
                    case hi32 => simp only [List.getElem?_toArray, List.getElem?_cons_zero, List.getElem?_cons_succ]; rfl
                    case hq32 => exact fun _ _ _ h => h
                    case hy32 => exact Or.inr ⟨by rfl, rfl⟩
                    try simp only [Act.put, List.setIfInBounds_toArray, List.set_cons_zero, List.set_cons_succ]
                    refine wpAnyH_take (i := 33) (oi := ?oi33) (v := undef) ?hi33 (by as_aux_lemma => kernel_rfl) (by as_aux_lemma => kernel_rfl) (by as_aux_lemma => kernel_rfl) ?hq33 ?hy33 (by assumption) ?rest33
                    case hi33 => simp only [List.getElem?_toArray, List.getElem?_cons_zero, List.getElem?_cons_succ]; rfl
                    case hq33 => exact fun _ _ _ h => h
                    case hy33 => exact Or.inr ⟨by rfl, rfl⟩
                    try simp only [Act.put, List.setIfInBounds_toArray, List.set_cons_zero, List.set_cons_succ]
                    refine wpAnyH_take (i := 34) (oi := ?oi34) (v := undef) ?hi34 (by as_aux_lemma => kernel_rfl) (by as_aux_lemma => kernel_rfl) (by as_aux_lemma => kernel_rfl) ?hq34 ?hy34 (by assumption) ?rest34
                    case hi34 => simp only [List.getElem?_toArray, List.getElem?_cons_zero, List.getElem?_cons_succ]; rfl
                    case hq34 => exact fun _ _ _ h => h
                    case hy34 => exact Or.inr ⟨by rfl, rfl⟩
                    try simp only [Act.put, List.setIfInBounds_toArray, List.set_cons_zero, List.set_cons_succ]
                    refine wpAnyH_take (i := 35) (oi := ?oi35) (v := undef) ?hi35 (by as_aux_lemma => kernel_rfl) (by as_aux_lemma => kernel_rfl) (by as_aux_lemma => kernel_rfl) ?hq35 ?hy35 (by assumption) ?rest35
                    case hi35 => simp only [List.getElem?_toArray, List.getElem?_cons_zero, List.getElem?_cons_succ]; rfl
                    case hq35 => exact fun _ _ _ h => h
                    case hy35 => exact Or.inr ⟨by rfl, rfl⟩
                    try simp only [Act.put, List.setIfInBounds_toArray, List.set_cons_zero, List.set_cons_succ]
                    refine wpAnyH_take (i := 36) (oi := ?oi36) (v := undef) ?hi36 (by as_aux_lemma => kernel_rfl) (by as_aux_lemma => kernel_rfl) (by as_aux_lemma => kernel_rfl) ?hq36 ?hy36 (by assumption) ?rest36
                    case hi36 => simp only [List.getElem?_toArray, List.getElem?_cons_zero, List.getElem?_cons_succ]; rfl
                    case hq36 => exact fun _ _ _ h => h
                    case hy36 => exact Or.inr ⟨by rfl, rfl⟩
                    try simp only [Act.put, List.setIfInBounds_toArray, List.set_cons_zero, List.set_cons_succ]
                    refine wpAnyH_take (i := 37) (oi := ?oi37) (v := undef) ?hi37 (by as_aux_lemma => kernel_rfl) (by as_aux_lemma => kernel_rfl) (by as_aux_lemma => kernel_rfl) ?hq37 ?hy37 (by assumption) ?rest37
                    case hi37 => simp only [List.getElem?_toArray, List.getElem?_cons_zero, List.getElem?_cons_succ]; rfl
                    case hq37 => exact fun _ _ _ h => h
                    case hy37 => exact Or.inr ⟨by rfl, rfl⟩
                    try simp only [Act.put, List.setIfInBounds_toArray, List.set_cons_zero, List.set_cons_succ]
                    refine wpAnyH_take (i := 38) (oi := ?oi38) (v := undef) ?hi38 (by as_aux_lemma => kernel_rfl) (by as_aux_lemma => kernel_rfl) (by as_aux_lemma => kernel_rfl) ?hq38 ?hy38 (by assumption) ?rest38
                    case hi38 => simp only [List.getElem?_toArray, List.getElem?_cons_zero, List.getElem?_cons_succ]; rfl
                    case hq38 => exact fun _ _ _ h => h
                    case hy38 => exact Or.inr ⟨by rfl, rfl⟩
                    try simp only [Act.put, List.setIfInBounds_toArray, List.set_cons_zero, List.set_cons_succ]
                    refine wpAnyH_take (i := 39) (oi := ?oi39) (v := undef) ?hi39 (by as_aux_lemma => kernel_rfl) (by as_aux_lemma => kernel_rfl) (by as_aux_lemma => kernel_rfl) ?hq39 ?hy39 (by assumption) ?rest39
                    case hi39 => simp only [List.getElem?_toArray, List.getElem?_cons_zero, List.getElem?_cons_succ]; rfl
                    case hq39 => exact fun _ _ _ h => h
                    case hy39 => exact Or.inr ⟨by rfl, rfl⟩
                    try simp only [Act.put, List.setIfInBounds_toArray, List.set_cons_zero, List.set_cons_succ]
                    refine wpAnyH_take (i := 40) (oi := ?oi40) (v := undef) ?hi40 (by as_aux_lemma => kernel_rfl) (by as_aux_lemma => kernel_rfl) (by as_aux_lemma => kernel_rfl) ?hq40 ?hy40 (by assumption) ?rest40
                    case hi40 => simp only [List.getElem?_toArray, List.getElem?_cons_zero, List.getElem?_cons_succ]; rfl
                    case hq40 => exact fun _ _ _ h => h
                    case hy40 => exact Or.inr ⟨by rfl, rfl⟩
                    try simp only [Act.put, List.setIfInBounds_toArray, List.set_cons_zero, List.set_cons_succ]
                    refine wpAnyH_take (i := 41) (oi := ?oi41) (v := undef) ?hi41 (by as_aux_lemma => kernel_rfl) (by as_aux_lemma => kernel_rfl) (by as_aux_lemma => kernel_rfl) ?hq41 ?hy41 (by assumption) ?rest41
                    case hi41 => simp only [List.getElem?_toArray, List.getElem?_cons_zero, List.getElem?_cons_succ]; rfl
                    case hq41 => exact fun _ _ _ h => h
                    case hy41 => exact Or.inr ⟨by rfl, rfl⟩
                    try simp only [Act.put, List.setIfInBounds_toArray, List.set_cons_zero, List.set_cons_succ]
                    refine wpAnyH_take (i := 42) (oi := ?oi42) (v := undef) ?hi42 (by as_aux_lemma => kernel_rfl) (by as_aux_lemma => kernel_rfl) (by as_aux_lemma => kernel_rfl) ?hq42 ?hy42 (by assumption) ?rest42
                    case hi42 => simp only [List.getElem?_toArray, List.getElem?_cons_zero, List.getElem?_cons_succ]; rfl
                    case hq42 => exact fun _ _ _ h => h
                    case hy42 => exact Or.inr ⟨by rfl, rfl⟩
                    try simp only [Act.put, List.setIfInBounds_toArray, List.set_cons_zero, List.set_cons_succ]
                    refine wpAnyH_take (i := 43) (oi := ?oi43) (v := ?v43) ?hi43 (by as_aux_lemma => kernel_rfl) (by as_aux_lemma => kernel_rfl) (by as_aux_lemma => kernel_rfl) ?hq43 ?hy43 (by assumption) ?rest43
                    case hi43 => simp only [List.getElem?_toArray, List.getElem?_cons_zero, List.getElem?_cons_succ]; rfl
                    case hq43 => exact fun _ _ _ h => h
                    case hy43 => refine Or.inl ⟨by rfl, ?_⟩; intro w hSw; (try dsimp only at hSw); go_simp; (try with_reducible rfl)
                    try simp only [Act.put, List.setIfInBounds_toArray, List.set_cons_zero, List.set_cons_succ]
                    refine wpAnyH_take (i := 44) (oi := ?oi44) (v := ?v44) ?hi44 (by as_aux_lemma => kernel_rfl) (by as_aux_lemma => kernel_rfl) (by as_aux_lemma => kernel_rfl) ?hq44 ?hy44 (by assumption) ?rest44
                    case hi44 => simp only [List.getElem?_toArray, List.getElem?_cons_zero, List.getElem?_cons_succ]; rfl
                    case hq44 => exact fun _ _ _ h => h
                    case hy44 => refine Or.inl ⟨by rfl, ?_⟩; intro w hSw; (try dsimp only at hSw); go_simp; (try with_reducible rfl)
                    try simp only [Act.put, List.setIfInBounds_toArray, List.set_cons_zero, List.set_cons_succ]
                    refine wpAnyH_done (by kernel_rfl) ?_ _
                    go_wp2_with fail
                    clear d0 d1 p0
                    have HMk : Hid (w8.drew.ownsMap Try.prog 3 (plainElem (H := Unit) Try.prog 3) W10.heap.size k (mapD V k)) := (HM2.out _ HBk.out).drew
                    have hwf : (Lit.int .i64 (vk1 : Nat)).wf = true := nat_wf (by omega)
                    have hkey : keyOf Try.prog 3 (.int .i64 (vk1 : Nat)) = some (kl vk1) := keyOf_int_mk Try.underlying3 (nat_wf (by omega))
                    go_still_tail 10, (by kernel_rfl)
                    change wpList _ _ _ _ _ w8.drew
                    go_wp2_with (first
                      | (at_mapUpdate; refine wpList_mapUpdate_own _ rfl _ _ _ 65 rfl 3 3 keyLaw Try.underlying65 (plainElem (H := Unit) Try.prog 3) W10.heap.size k (mapD V k) rfl HMk.out (by unfold maxLen; omega) _ _ (kl vk1) rfl rfl hkey (vl vk1) [] (plainElem_int Try.underlying3 hwf) ?_; intro w9 hmap9 hg9)
                      | fail)
                    have HM9 : Hid (w9.ownsMap Try.prog 3 (plainElem (H := Unit) Try.prog 3) W10.heap.size (k + 1) (mapD V (k + 1))) := by
                      show World.ownsMap _ _ _ _ _ _ ((mapD V k).put (kl (V k)) (vl (V (k + 1))))
                      rw [HVK.out, HVK1.out]
                      exact hmap9
                    have HB9 : Hid (Below W10.heap.size W10 w9) := ((hlow.out _ HBk.out).drew).grown hg9 (by have := (hlow.out _ HBk.out).size; simpa using this) fun q hq => by injection hq with hq; omega
                    clear hmap9 hg9 hwf hkey HMk hw3 hw4
                    go_wp2_with fail
                    go_roundw
                    case rel => exact ⟨k + 1, by omega, by go_num, HB9, HM9⟩
                    case measure => simp [intOf]; omega
                · as_aux_lemma =>
                    have q2 : (((vk1 : Nat) : Int) != (vk : Int)) = true := by simp; omega
                    clear hvv
                    go_region_held3 (fun w' => w'.cell? ⟨w.heap.size, 0, none⟩ = some (.int .i64 n) ∧ w'.cell? ⟨w.heap.size, 1, none⟩ = some (.slice oe es.length c) ∧ w'.cell? ⟨w.heap.size + 1, 0, none⟩ = some (.int .i64 q) ∧ w'.cell? ⟨b, off + k, none⟩ = some (.int .i64 vk) ∧ w'.cell? ⟨b, off + (k + 1), none⟩ = some (.int .i64 vk1)) (first | exact ⟨d0, d1, p0, ck, ck1⟩) (first
                      | (go_at_call 31; refine (KV.out _).mono ?_; rintro e w8 ⟨rfl, h8⟩; replace HCk := hide (HCk.out.below h8); replace HBk := hide (HBk.out.trans (h8.mono HBk.out.size)); replace d0 := (h8.cell (World.block_lt_of_cell? _ _ d0)).trans d0; replace d1 := (h8.cell (World.block_lt_of_cell? _ _ d1)).trans d1; replace p0 := (h8.cell (World.block_lt_of_cell? _ _ p0)).trans p0; replace ck := (h8.cell (World.block_lt_of_cell? _ _ ck)).trans ck; replace ck1 := (h8.cell (World.block_lt_of_cell? _ _ ck1)).trans ck1; clear h8)
                      | (go_at_call 33; refine (KB.out _ HCk.out.hes).mono ?_; rintro e w8 ⟨rfl, h8⟩; replace HCk := hide (HCk.out.below h8); replace HBk := hide (HBk.out.trans (h8.mono HBk.out.size)); replace d0 := (h8.cell (World.block_lt_of_cell? _ _ d0)).trans d0; replace d1 := (h8.cell (World.block_lt_of_cell? _ _ d1)).trans d1; replace p0 := (h8.cell (World.block_lt_of_cell? _ _ p0)).trans p0; replace ck := (h8.cell (World.block_lt_of_cell? _ _ ck)).trans ck; replace ck1 := (h8.cell (World.block_lt_of_cell? _ _ ck1)).trans ck1; clear h8))
                    go_wp2_with fail
                    clear d0 d1 p0
                    have HMk : Hid (w8.drew.ownsMap Try.prog 3 (plainElem (H := Unit) Try.prog 3) W10.heap.size k (mapD V k)) := (HM2.out _ HBk.out).drew
                    have hwf : (Lit.int .i64 (vk1 : Nat)).wf = true := nat_wf (by omega)
                    have hkey : keyOf Try.prog 3 (.int .i64 (vk : Nat)) = some (kl vk) := keyOf_int_mk Try.underlying3 (nat_wf (by omega))
                    go_still_tail 10, (by kernel_rfl)
                    change wpList _ _ _ _ _ w8.drew
                    go_wp2_with (first
                      | (at_mapUpdate; refine wpList_mapUpdate_own _ rfl _ _ _ 65 rfl 3 3 keyLaw Try.underlying65 (plainElem (H := Unit) Try.prog 3) W10.heap.size k (mapD V k) rfl HMk.out (by unfold maxLen; omega) _ _ (kl vk) rfl rfl hkey (vl vk1) [] (plainElem_int Try.underlying3 hwf) ?_; intro w9 hmap9 hg9)
                      | fail)
                    have HM9 : Hid (w9.ownsMap Try.prog 3 (plainElem (H := Unit) Try.prog 3) W10.heap.size (k + 1) (mapD V (k + 1))) := by
                      show World.ownsMap _ _ _ _ _ _ ((mapD V k).put (kl (V k)) (vl (V (k + 1))))
                      rw [HVK.out, HVK1.out]
                      exact hmap9
                    have HB9 : Hid (Below W10.heap.size W10 w9) := ((hlow.out _ HBk.out).drew).grown hg9 (by have := (hlow.out _ HBk.out).size; simpa using this) fun q hq => by injection hq with hq; omega
                    clear hmap9 hg9 hwf hkey HMk hw3 hw4
                    go_wp2_with fail
                    go_roundw
                    case rel => exact ⟨k + 1, by omega, by go_num, HB9, HM9⟩
                    case measure => simp [intOf]; omega
              · have hke : k = T := by omega
                subst hke
                replace HC := hide (HC.out.below HB.out)
                replace SR := hide (SR.out.below intR_ok HB.out)
                replace ST := hide (ST.out.below (slcR_ok intR_ok (by decide)) HB.out)
                have hlow := hide (HC.out.low)
                have HIS : Hid (∀ j, IsMap (mapD V j)) := fun j => by
                  induction j with
                  | zero => exact (World.ownsMap_made (H := Unit) W10 Try.prog 3 (plainElem (H := Unit) Try.prog 3)).isMap
                  | succ j ih => exact ih.put _ _
                have HLAW := hide (mapD_law V HIS.out k)
                generalize hD : mapD V k = D at *
                clear hD HIS
                have d0 := HC.out.b1.cell 0
                have d1 := HC.out.b1.cell 1
                have d2 := HC.out.b1.cell 2
                have p0 := HC.out.b2.cell 0
                have p1 := HC.out.b2.cell 1
                have p2 := HC.out.b2.cell 2
                simp only [List.getElem?_cons_zero, List.getElem?_cons_succ] at d0 d1 d2 p0 p1 p2
                go_wp2_with fail
                clear d0 d1 d2 p0 p1 p2
                obtain ⟨wo, hwo⟩ : ∃ wo : World, wo = wr := ⟨_, rfl⟩
                subst hwo
                go_loopw [207] (fun iv wi => ∃ u : Nat, (u : Int) ≤ n ∧ iv = .int .i64 u ∧ Hid (Below wo.heap.size wo wi)) (fun iv _ => ar.length - (intOf iv).toNat)
                case atStart => exact ⟨0, by have := HAL.out; omega, rfl, Below.refl _ _⟩
                case round =>
                  obtain ⟨u, hu, rfl, HB2⟩ := hrel
                  replace HC := hide (HC.out.below HB2.out)
                  replace SR := hide (SR.out.below intR_ok HB2.out)
                  replace ST := hide (ST.out.below (slcR_ok intR_ok (by decide)) HB2.out)
                  replace HM := hide (map_below HM.out HB2.out)
                  by_cases hul : (u : Int) < n
                  · have hua : u < ar.length := by have := HAL.out; omega
                    have hlaw := HLAW.out u
                    have hlm := HLM.out u
                    have hdec : decide ((u : Int) < n) = true := by simp [hul]
                    obtain ⟨y, -, hy, iy, bR, ofR, hod, -, cy⟩ := SR.out.int_at (show u < RR.length by have := HRRL.out; omega)
                    subst hod
                    obtain ⟨z, -, hz, iz, bO, ofO, hod, -, cz⟩ := HC.out.hrt.int_at (show u < rot.length by have := HRL.out; omega)
                    subst hod
                    have hRl : u < RR.length := by have := HRRL.out; omega
                    have hOl : u < rot.length := by have := HRL.out; omega
                    have hkk : keyOf Try.prog 3 (.int .i64 (u : Nat)) = some (kl u) := keyOf_int_mk Try.underlying3 (nat_wf (by omega))
                    rcases hll : lastM V k u with _ | x
                    · as_aux_lemma =>
                        rw [hll] at hlaw hlm
                        have hhas : Maps.has D (kl u) = false := hlaw.1
                        have hyz : y = z := by have := hlm.2 rfl; rw [getD_of hy, getD_of hz] at this; exact this
                        subst hyz
                        have HH := hide hhas
                        clear hhas hlaw hlm hll hy hz
                        have d0 := HC.out.b1.cell 0
                        have d1 := HC.out.b1.cell 1
                        have d2 := HC.out.b1.cell 2
                        have p0 := HC.out.b2.cell 0
                        have p1 := HC.out.b2.cell 1
                        have p2 := HC.out.b2.cell 2
                        simp only [List.getElem?_cons_zero, List.getElem?_cons_succ] at d0 d1 d2 p0 p1 p2
                        go_wp2_with (first
                          | (at_lookup; refine wpList_lookup_own_ok_int _ rfl _ _ 65 rfl 3 3 .i64 keyLaw Try.underlying65 Try.underlying3 (zeroInt _) W10.heap.size k D rfl HM.out _ (kl u) rfl hkk ?_; intro cc hat hwc; rw [HH.out]; clear hat hwc)
                          | fail)
                        go_quiet (fail)
                        clear d0 d1 d2 p0 p1 p2
                        go_wp2_with fail
                        go_roundw
                        case rel => exact ⟨u + 1, by omega, by go_num, below_drewN HB2.out _⟩
                        case measure => simp [intOf]; omega
                    · as_aux_lemma =>
                        rw [hll] at hlaw hlm
                        have hhas : Maps.has D (kl u) = true := hlaw.1
                        have hatx := hlaw.2 x rfl
                        obtain ⟨hst, huq, _⟩ := hlm.1 x rfl
                        obtain ⟨m, kk, hm1, hm2, hm3, hm4⟩ := tg_look HRK.out hua huq
                        rw [hst] at hm4
                        have hyk : y = (kk : Int) := by rw [hy] at hm2; injection hm2
                        subst hyk
                        obtain ⟨m', -, hm', bT, ofT, oM, cM, hod, -, cT, hmc, -, hsM⟩ := ST.out.slc_at (show u < (tgL ar (endsL es)).length by rw [tgL_len]; exact hua)
                        subst hod
                        have : m' = m := by rw [hm1] at hm'; injection hm' with h; exact h.symm
                        subst this
                        obtain ⟨x', -, hx', -, bM, ofM, hod, -, cX⟩ := hsM.int_at hm3
                        subst hod
                        have : x' = (x : Int) := by rw [hm4] at hx'; injection hx' with h; exact h.symm
                        subst this
                        have hul3 : u < (tgL ar (endsL es)).length := by rw [tgL_len]; exact hua
                        have HH := hide hhas
                        have HAT := hide hatx
                        clear hhas hatx hlaw hlm hll hy hz hst hm1 hm2 hm4 hm' hx' hsM huq
                        have d0 := HC.out.b1.cell 0
                        have d1 := HC.out.b1.cell 1
                        have d2 := HC.out.b1.cell 2
                        have p0 := HC.out.b2.cell 0
                        have p1 := HC.out.b2.cell 1
                        have p2 := HC.out.b2.cell 2
                        simp only [List.getElem?_cons_zero, List.getElem?_cons_succ] at d0 d1 d2 p0 p1 p2
                        go_wp2_with (first
                          | (at_lookup; refine wpList_lookup_own_ok_int _ rfl _ _ 65 rfl 3 3 .i64 keyLaw Try.underlying65 Try.underlying3 (zeroInt _) W10.heap.size k D rfl HM.out _ (kl u) rfl hkk ?_; intro cc hat hwc; rw [HH.out]; (obtain rfl : cc = (x : Int) := by (have h9 := (HAT.out (.lit (.int .i64 0))).symm.trans hat; unfold vl at h9; injection h9 with h9; injection h9 with _ h9; exact h9.symm)); clear hat hwc)
                          | fail)
                        go_quiet (fail)
                        clear d0 d1 d2 p0 p1 p2
                        go_wp2_with fail
                        go_roundw
                        case rel => exact ⟨u + 1, by omega, by go_num, below_drewN HB2.out _⟩
                        case measure => simp [intOf]; omega
                  · have hue : (u : Int) = n := by omega
                    have hdec : decide ((u : Int) < n) = false := by simp; omega
                    clear hue
                    go_wp2_with fail
                    refine (awake45_any _).mono ?_
                    rintro e W12 ⟨rfl, hb⟩
                    replace HC := hide (HC.out.below hb)
                    clear hb
                    go_wp2_with fail
                    go_ret
                    exact ⟨rfl, HC.out.low⟩
        · as_aux_lemma =>
            rw [if_neg h4] at ho ⊢
            clear ho h4
            have d0 := HC.out.b1.cell 0
            have d1 := HC.out.b1.cell 1
            have d2 := HC.out.b1.cell 2
            have p0 := HC.out.b2.cell 0
            have p1 := HC.out.b2.cell 1
            have p2 := HC.out.b2.cell 2
            simp only [List.getElem?_cons_zero, List.getElem?_cons_succ] at d0 d1 d2 p0 p1 p2
            go_wp2_with fail
            go_quiet (fail)
            clear d0 d1 d2 p0 p1 p2
            go_wp2_with fail
            refine (awake45_any _).mono ?_
            rintro e W8 ⟨rfl, hb⟩
            have hlow := hide ((below_drewN HC.out.low nq).trans (hb.mono (below_drewN HC.out.low nq).size))
            clear hb
            go_wp2_with fail
            go_ret
            exact ⟨rfl, hlow.out⟩
      · have hv2 : vtxB n v = false := by simpa using hv
        rw [hv2]
        clear hv hv2
        go_wp2_with fail
        refine (awake45_any _).mono ?_
        rintro e W8 ⟨rfl, hb⟩
        replace HC := hide (HC.out.below hb)
        clear hb
        go_wp2_with fail
        go_ret
        exact ⟨rfl, HC.out.low⟩
    · have q1 : (rtE n es (forest es) ar q rot != 0) = true := by simpa using hR
      clear hR
      generalize rtE n es (forest es) ar q rot = er at *
      go_wp2_with fail
      refine (awake45_any _).mono ?_
      rintro e W8 ⟨rfl, hb⟩
      replace HC := hide (HC.out.below hb)
      clear hb
      go_wp2_with fail
      go_ret
      exact ⟨rfl, HC.out.low⟩
  · have hF2 : few45 n es ar rot = false := by simpa using hF
    rw [hF2]
    clear hF hF2
    go_wp2_with fail
    refine (awake45_any _).mono ?_
    rintro e W8 ⟨rfl, hb⟩
    replace HC := hide (HC.out.below hb)
    clear hb
    go_wp2_with fail
    go_ret
    exact ⟨rfl, HC.out.low⟩

theorem trees_claim (w : World) (n : Int) (es : List Edg) (oe : Option Addr) (c : Nat) (ar : List (List Int)) (oa : Option Addr) (ca : Nat) (hc : es.length ≤ c) (hc2 : es.length ≤ 9223372036854775807) (hs : SliceR edgR 3 All w oe es) (hac : ar.length ≤ ca) (hac2 : ar.length ≤ 9223372036854775807) (ha : SliceR (slcR intR 1) 1 All w oa ar)
    (q : Int) (rot : List Int) (ot : Option Addr) (ct : Nat) (v : Int) (hrc : rot.length ≤ ct) (hrl : rot.length ≤ 9223372036854775807) (hr : SliceR intR 1 All w ot rot) :
    Calls Try.prog 7 #[.agg #[.int .i64 n, .slice oe es.length c, .slice oa ar.length ca], .agg #[.int .i64 q, .slice ot rot.length ct, .int .i64 v]] w fun e w' => e = .returned (.bool true) ∧ Below w.heap.size w w' :=
  trees_walk n es oe c ar oa ca q rot ot ct v w hs hc hc2 ha hac hac2 hr hrc hrl

end Go.Proofs.Ytopldbnlehjlpaa

set_option linter.unusedVariables false
namespace Go.Proofs.Ytopldbnlehjlpaa
open Go.RowKit Go.ChangeShapes Go.WideShapes Go.ChangeAt Go.Deep

set_option maxRecDepth 100000 in
theorem rotorTrees_lifted (os : Os) (started : os.Started) (H : Type) (enc : TypeId × Value → H) :
    ReturnsInHanded {} Try.checked os 7 .any (Rows.rotorTreesSpec.pre6 enc Try.prog Try.f7 Rows.rotorTreesRow.domain false) (Rows.rotorTreesSpec.post enc Try.prog Try.f7 false true false false) := by
  refine returnsInHanded_of_change (C := Try.checked) own_knob started (by kernel_rfl) Try.func7
    (ChangeSpec.witness6 (enc := enc) (C := Try.checked) false ⟨#[], #[.agg #[.int .i64 0, .slice none 0 0, .slice none 0 0], .agg #[.int .i64 0, .slice none 0 0, .int .i64 0]], []⟩ 8 (by kernel_rfl) (by kernel_rfl) (by kernel_rfl) (by kernel_rfl)) ?_
  intro W base args ds gs before hval0 hW _ _
  have hval : ∀ (j : Nat) t v, Try.f7.params[j]? = some t → args[j]? = some v → Value.okWide Try.prog W .any base t v := hval0
  have hW' := hW
  obtain ⟨p, q, hA0, hV, rfl, _, _⟩ := hW
  have hA : DataW.TrodAll enc Try.prog W 0 (fun _ => true) true Try.f7.params.toList args.toList ds p := hA0
  rw [Try.params7] at hA hval
  obtain ⟨v0, v1, d0, d1, p0, p1, rfl, rfl, rfl, h0, h1⟩ := trodAll_two hA
  obtain ⟨rfl, rfl⟩ := trodVars_none hV
  have h0k := h0
  have h1k := h1
  obtain ⟨n0, es0, oe0, c0, ar0, oa0, ca0, rfl, hc0, hl0, he0, hac0, hal0, ha0⟩ := open_rib (hval 0 27 v0 rfl rfl) h0
  obtain ⟨q1, rot1, ot1, ct1, u1, rfl, hrc1, hrl1, hr1⟩ := open_place (hval 1 30 v1 rfl rfl) h1
  clear hA0 hval0
  simp only [List.append_nil] at hW'
  have hlt0 : ∀ y ∈ p0, y.block < W.heap.size := fun y hy => by simpa using hW'.lt y (by simp [hy])
  have hlt1 : ∀ y ∈ p1, y.block < W.heap.size := fun y hy => by simpa using hW'.lt y (by simp [hy])
  refine (trees_claim W n0 es0 oe0 c0 ar0 oa0 ca0 hc0 hl0 he0 hac0 hal0 ha0 q1 rot1 ot1 ct1 u1 hrc1 hrl1 hr1).mono fun e W' ⟨he, hn⟩ => ?_
  subst he
  exact ⟨_, rfl, _, _, _, [], _, [], hW', trodAll_mk1 (shut_bool Try.underlying4 true), trodAll_mk2 (Below.trod laid_out (by kernel_rfl) (of_decide_eq_true (by kernel_rfl)) h0k hn hlt0) (Below.trod laid_out (by kernel_rfl) (of_decide_eq_true (by kernel_rfl)) h1k hn hlt1), rfl, hn.frame _, fun h => by cases h⟩

theorem rotorTrees_holds : Rows.RotorTreesSaid :=
  OpenClaim.holds_of_wide 7 Try.f7 rfl rfl rfl rfl rfl rfl rfl ⟨rfl, rfl, rfl, rfl, rfl⟩ rfl rfl rfl rfl rfl (by kernel_rfl) Try.func7 (by kernel_rfl)
    (of_decide_eq_true (by kernel_rfl)) (by unfold Func.isWrapper; first | (rw [if_pos (by decide +kernel)]; kernel_rfl) | (rw [if_neg (by decide +kernel)]; exact ⟨rfl, rfl⟩))
    (fun os started H enc _ => rotorTrees_lifted os started H enc)

#print axioms rotorTrees_holds
end Go.Proofs.Ytopldbnlehjlpaa

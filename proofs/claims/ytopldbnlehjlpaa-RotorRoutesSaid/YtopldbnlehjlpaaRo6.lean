/-
  RotorRoutes: Route, Edges and Acyclic of the program give what the reference gives, for all ribbon graphs, sinks, rotors and vertices; no condition.
  The walk of RotorRoutes.
  ref45.Singles, Edges, Leads, Acyclic.
  The walk of RotorSteps.
  ref45.Walk, ref45.Route (printed by wip/mkRefWalk.py).
  awake: the examples of chapter 45 hold.
  What the functions give at the triangle: numbers.
  rotor.Acyclic.
-/
import Derived.Test.YtopldbnlehjlpaaRo5
import Derived.BigRegionIn
import Derived.Deep.RegionHeld3
import Derived.Deep.RegionLaw
import Derived.BigQuiet
import Derived.Test.YtopldbnlehjlpaaRows

set_option linter.unusedVariables false
set_option linter.unusedSimpArgs false
set_option linter.unnecessarySimpa false
namespace Go.Proofs.Ytopldbnlehjlpaa
open Go.RowKit Go.Shelf

attribute [local go_sem] Oper.semAt_some

theorem agg_bool : ∀ w, (isAgg 4).run Try.prog w = .ok false w := by intro w; kernel_rfl
/-- From each vertex one comes to the sink, before len steps. -/
def acyB (ar : List (List Int)) (E : List (Int × Int)) (q : Nat) (rot : List Int) (m k : Nat) : Bool := (List.range k).all fun v => (firstAt (itV ar E rot v) q m).isSome

def BoolErr (w : World) (b : Bool) (x : Int) (e : Ending) (w' : World) : Prop := e = .returned (.tuple #[.bool b, .int .i64 x]) ∧ Below w.heap.size w w'

set_option maxRecDepth 100000 in
set_option maxHeartbeats 4000000 in
theorem acyclic_in (n0 : Nat) (hn0 : 4 ≤ n0) (n : Int) (es : List Edg) (oe : Option Addr) (c : Nat) (ar : List (List Int)) (oa : Option Addr) (ca : Nat) (F G : Foot) (w : World) (hs : SliceR edgR 3 F w oe es) (hc : es.length ≤ c) (hc2 : es.length ≤ 1000)
    (ha : SliceR (slcR intR 1) 1 G w oa ar) (hac : ar.length ≤ ca) (hac2 : ar.length ≤ 9223372036854775807) (f : List Nat) (hU : Hid (gErr n es = 0 → Uf f (eL es)))
    (q : Nat) (rot : List Int) (ot : Option Addr) (ct : Nat) (H : Foot) (hr : SliceR intR 1 H w ot rot) (hrc : rot.length ≤ ct) (hrl : rot.length ≤ 9223372036854775807)
    (hE : Hid (rtE n es f ar q rot = 0)) (hok : RtOk n es ar q rot) :
    CallsIn Go.Fence.wide n0 Try.prog 24 #[.agg #[.int .i64 n, .slice oe es.length c, .slice oa ar.length ca], .int .i64 q, .slice ot rot.length ct] w
      (BoolErr w (acyB ar (endsL es) q rot rot.length rot.length) 0) := by
  have h1 : 1 ≤ n0 := by omega
  have HOK := hide hok
  have cA : ∀ W : World, Below w.heap.size w W → CallsIn Go.Fence.wide (n0 - 1) Try.prog 49 #[.agg #[.int .i64 n, .slice oe es.length c, .slice oa ar.length ca], .int .i64 q, .slice ot rot.length ct] W (BoardPost W n es f ar oa ca q rot) := fun W hW =>
    callsIn_wide.2 (boardOf_any n es oe c ar oa ca F G W (hs.below edgR_ok hW) hc hc2 (ha.below (slcR_ok intR_ok (by decide)) hW) hac hac2 f hU q rot ot ct H (hr.below intR_ok hW) hrc hrl hE)
  have HA := hide cA
  have hf1 : Go.Fence.wide.fn 49 := trivial
  have hf2 : Go.Fence.wide.fn 45 := trivial
  have haB : ∀ W : World, Below w.heap.size w W → SliceR (slcR intR 1) 1 (Lt W.heap.size) W oa ar := fun W hW => (ha.below (slcR_ok intR_ok (by decide)) hW).loc (slcR_ok intR_ok (by decide)) (by decide)
  obtain ⟨w1, hw1⟩ : ∃ w1, ((w.alloc (.cells #[.int .i64 n, .slice oe es.length c, .slice oa ar.length ca] 27)).alloc (.cells #[.bool false] 4)).alloc (.cells #[.int .i64 0] 33) = w1 := ⟨_, rfl⟩
  have hB1 : Below w.heap.size w w1 := by rw [← hw1]; exact bnew (bnew (bnew (Below.refl _ _) _) _) _
  have hsz1 : w1.heap.size = w.heap.size + 3 := by rw [← hw1]; simp
  have bR1 : Boxed w1 (w.heap.size + 1) 4 (.bool false) := by rw [← hw1]; have := (Boxed.new (w.alloc (.cells #[.int .i64 n, .slice oe es.length c, .slice oa ar.length ca] 27)) 4 (.bool false)).alloc (.cells #[.int .i64 0] 33); simpa using this
  have bR2 : Boxed w1 (w.heap.size + 2) 33 (.int .i64 0) := by rw [← hw1]; have := Boxed.new ((w.alloc (.cells #[.int .i64 n, .slice oe es.length c, .slice oa ar.length ca] 27)).alloc (.cells #[.bool false] 4)) 33 (.int .i64 0); simpa using this
  have d012 : ∀ i x, #[Value.int .i64 n, .slice oe es.length c, .slice oa ar.length ca][i]? = some x → w1.cell? ⟨w.heap.size, i, none⟩ = some x := fun i x hx => by
    have hbb : Below (w.heap.size + 1) (w.alloc (.cells #[.int .i64 n, .slice oe es.length c, .slice oa ar.length ca] 27)) w1 := by
      rw [← hw1]; exact ((box_refl _ _).alloc (by simp) _).alloc (by simp) _
    rw [box_cell hbb i, hx]
  have d0 := d012 0 _ rfl
  have d1 := d012 1 _ rfl
  have d2 := d012 2 _ rfl
  have HAB1 := hide (haB _ hB1)
  have HBR := hide (And.intro bR1 bR2)
  have HB1 := hide hB1
  have hrl12 : rot.length ≤ 12 := by rw [hok.nrot]; exact hok.n12
  clear d012 bR1 bR2 hB1 haB cA hok
  refine callsIn_of_wp_marks Try.func24 rfl trivial ?_ rfl
  simp only [Try.ntmps24, List.size_toArray, List.length_cons, List.length_nil, Nat.reduceAdd, Nat.reduceSub, Array.replicate_succ, Array.replicate_zero, List.push_toArray, List.append_toArray, List.nil_append, List.cons_append]
  gi_wp2_with (first | (gi_at_call 49; refine (HA.out _ HB1.out).mono ?_; rintro e w2 ⟨p, rg, cap, tv, rest, rfl, hDo, hbo⟩; have d3 := hDo.box.cell 3; simp only [List.getElem?_cons_zero, List.getElem?_cons_succ] at d3; have hp2 := hDo.box.lt; replace hDo := hide hDo; replace hbo := hide hbo; clear d0 d1 d2))
  obtain ⟨W2, hW2⟩ : ∃ W2, w2.alloc (.cells #[.pointer (some ⟨p, 0, none⟩)] 80) = W2 := ⟨_, rfl⟩
  have hszW2 : W2.heap.size = w2.heap.size + 1 := by rw [← hW2]; simp
  have hpb2 : Boxed W2 w2.heap.size 80 (.pointer (some ⟨p, 0, none⟩)) := by rw [← hW2]; exact Boxed.new w2 _ _
  have hl2 : Below w2.heap.size w2 W2 := by rw [← hW2]; exact bnew (Below.refl _ _) _
  have hs12 := hbo.out.size
  rw [hW2]
  have HD2 := hide (hDo.out.below hl2)
  have HL2 := hide (hbo.out.trans (hl2.mono hs12))
  have HP2 := hide hpb2
  clear hW2 hl2 hpb2 d3 hDo hbo
  have hfin : ∀ (W9 : World) (bv : Bool) (ds : List Deferred) (tmps : Array Value), Boxed W9 (w.heap.size + 1) 4 (.bool bv) → Boxed W9 (w.heap.size + 2) 33 (.int .i64 0) → Below w.heap.size w W9 → Marks w2.heap.size ds W9 →
      bv = acyB ar (endsL es) q rot rot.length rot.length → tmps.getD 6 undef = .pointer (some ⟨w.heap.size + 1, 0, none⟩) → tmps.getD 7 undef = .pointer (some ⟨w.heap.size + 1 + 1, 0, none⟩) →
      bodyPostM Go.Fence.wide n0 Try.prog Try.f24 (BoolErr w (acyB ar (endsL es) q rot rot.length rot.length) 0) .ret { tmps := tmps, defers := ds } W9 := by
    intro W9 bv ds tmps b1 b2 hb hm he h6 h7
    obtain ⟨Ds, rfl, hnd, hDs⟩ := hm
    refine leaves_marks (B := w2.heap.size) Ds W9 hnd hDs fun w' hb' hc' => ?_
    refine ⟨_, results_cells2 rfl agg_bool agg_errno _ _ _ _ _ _ h6 h7 (Boxed.cell (show Boxed w' _ _ _ from hc' _ _ b1 rfl)) (Boxed.cell (show Boxed w' _ _ _ from hc' _ _ b2 rfl)), ?_⟩
    exact ⟨by rw [he], hb.trans (hb'.mono (by omega))⟩
  have HFIN := hide hfin
  clear hfin
  refine wpIn_loop (fun a' w' => ∃ (k : Nat) (ds : List Deferred) (u10 u11 u28 u29 u30 u31 u32 u33 u34 u35 u36 u37 u38 u39 u40 u41 u42 u43 u44 : Value), (k ≤ rot.length ∧ Marks w2.heap.size ds w' ∧ Below W2.heap.size W2 w' ∧ Hid (acyB ar (endsL es) q rot rot.length k = true)) ∧ a' = { tmps := #[.agg #[.int .i64 n, .slice oe es.length c, .slice oa ar.length ca], .int .i64 q, .slice ot rot.length ct, .pointer (some ⟨w.heap.size, 0, none⟩), undef, undef, .pointer (some ⟨w.heap.size + 1, 0, none⟩), .pointer (some ⟨w.heap.size + 1 + 1, 0, none⟩), .pointer (some ⟨w2.heap.size, 0, none⟩), .int .i64 0, u10, u11, .tuple #[.pointer (some ⟨p, 0, none⟩), .int .i64 0], .agg #[.int .i64 n, .slice oe es.length c, .slice oa ar.length ca], .int .i64 q, .slice ot rot.length ct, .tuple #[.pointer (some ⟨p, 0, none⟩), .int .i64 0], .pointer (some ⟨p, 0, none⟩), .int .i64 0, .int .i64 0, .bool false, undef, .pointer (some ⟨p, 0, none⟩), .pointer (some ⟨p, 0, none⟩), .pointer (some ⟨p, 3, none⟩), .slice (some ⟨rg, 0, none⟩) rot.length cap, .int .i64 rot.length, .int .i64 (k : Nat), u28, u29, u30, u31, u32, u33, u34, u35, u36, u37, u38, u39, u40, u41, u42, u43, u44], defers := ds })
    (fun a' _ => rot.length - (intOf (a'.tmps.getD 27 undef)).toNat) ?atStart ?round
  case atStart =>
    exact ⟨0, [], _, _, _, _, _, _, _, _, _, _, _, _, _, _, _, _, _, _, _, ⟨by omega, Marks.nil _ _, Below.refl _ _, rfl⟩, rfl⟩
  case round =>
    rintro a' wr ⟨k, ds, u10, u11, u28, u29, u30, u31, u32, u33, u34, u35, u36, u37, u38, u39, u40, u41, u42, u43, u44, ⟨hk, hM, hbW, HAy⟩, rfl⟩
    have hszr := hbW.size
    have hDr := HD2.out.below hbW
    have hpbr := boxed_same HP2.out (hbW.block _ (by omega))
    have HLr := hide (HL2.out.trans (hbW.mono (by omega)))
    have HM := hide hM
    have HBW := hide hbW
    by_cases hlt : k < rot.length
    · have hkar : k < ar.length := by rw [← HOK.out.nrot]; exact hlt
      have cW : CallsIn Go.Fence.wide (n0 - 1) Try.prog 45 #[.int .i64 k, .int .i64 q, .func (.func 51) #[] #[.pointer (some ⟨w2.heap.size, 0, none⟩)]] (wr.alloc (.cells #[.int .i64 0] 3)) _ := callsIn_wide.2 (way_any k q _ _ _ _)
      have HW := hide cW
      have HDr := hide hDr
      have HPr := hide hpbr
      clear hM hbW hDr hpbr cW
      gi_wp2_with (first | (gi_at_call 45; refine HW.out.mono ?_; rintro e w3 ⟨rfl, rfl⟩))
      obtain ⟨W1, hW1⟩ : ∃ W1, (((wr.alloc (.cells #[.int .i64 0] 3)).alloc (.cells #[.int .i64 (k : Int)] 3)).alloc (.cells #[.int .i64 (q : Int)] 3)).alloc (.cells #[.func (.func 51) #[] #[.pointer (some ⟨w2.heap.size, 0, none⟩)]] 83) = W1 := ⟨_, rfl⟩
      have hszW : W1.heap.size = wr.heap.size + 4 := by rw [← hW1]; simp
      have hWB : WayBox W1 (wr.heap.size + 1) k q (.func (.func 51) #[] #[.pointer (some ⟨w2.heap.size, 0, none⟩)]) := by
        have := way_boxes k q (.func (.func 51) #[] #[.pointer (some ⟨w2.heap.size, 0, none⟩)]) (wr.alloc (.cells #[.int .i64 0] 3))
        rw [← hW1]
        simpa using this
      have hBO : Boxed W1 wr.heap.size 3 (.int .i64 ((0 : Nat) : Int)) := by rw [← hW1]; exact (((Boxed.new wr _ _).alloc _).alloc _).alloc _
      have hb21 : Below wr.heap.size wr W1 := by rw [← hW1]; exact bnew (bnew (bnew (bnew (Below.refl _ _) _) _) _) _
      have har : SliceR (slcR intR 1) 1 (Lt w1.heap.size) wr oa ar := HAB1.out.below (slcR_ok intR_ok (by decide)) (HL2.out.trans (HBW.out.mono (by omega)))
      rw [hW1]
      clear hW1
      refine wpIn_rangeFunc_joint rfl h1 (gf := 72) (lb := #[.pointer (some ⟨wr.heap.size + 1, 0, none⟩), .pointer (some ⟨wr.heap.size + 1 + 1, 0, none⟩), .pointer (some ⟨wr.heap.size + 1 + 2, 0, none⟩)]) rfl trivial (enters_of Try.func72 (by kernel_rfl) rfl) _ (fun _ => rfl) _ _
        (fun c W => c = .ret ∧ (Boxed W (w.heap.size + 1) 4 (.bool false) ∧ Boxed W (w.heap.size + 2) 33 (.int .i64 0) ∧ Below w.heap.size w W ∧ (∀ j, w2.heap.size ≤ j → j < wr.heap.size → W.heap[j]? = wr.heap[j]?) ∧ Hid (∀ j, j < rot.length → itV ar (endsL es) rot k j ≠ q))) _
        (looks_seq HOK.out hkar (n0 - 1) (by omega) w1.heap.size wr (wr.heap.size + 1) wr.heap.size w2.heap.size p rg cap tv oa ca rest HPr.out HDr.out har (by omega) (by omega) rot.length)
        (looksJ (by omega) _ _ _) (looksJ (by omega) _ _ _)
        ((ownFrom_const _).and (((boxed_own _ _ (fun _ : Code => _)).from _).and (((boxed_own _ _ (fun _ : Code => _)).from _).and ((ownFrom_below (by omega) (by omega)).and ((ownFrom_keeps (by omega)).and (ownFrom_const _))))))
        (looksJd (by omega) _ _ _)
        ⟨hWB, ⟨hBO, hb21⟩, ⟨by omega, fun j hj => absurd hj (by omega)⟩⟩ ?act1 ?assign ?body ?done ?stop
      case assign =>
        intro l i W K hK
        gi_wp2
        exact hK
      case body =>
        rintro l i W ⟨hb, hL, hM⟩
        have hc := hL.cnt.cell
        have hf := hL.cnt.frozen
        have hszl := hL.low.size
        have hlt1 : wr.heap.size + 1 + 2 < W.heap.size := hb.bs.lt
        have hlw := HLr.out.trans (hL.low.mono (by omega))
        have b1 : Boxed W (w.heap.size + 1) 4 (.bool false) := boxed_same HBR.out.1 (hlw.block _ (by omega))
        have b2 : Boxed W (w.heap.size + 2) 33 (.int .i64 0) := boxed_same HBR.out.2 (hlw.block _ (by omega))
        obtain ⟨W5, hW5⟩ : ∃ W5, W.setCell ⟨wr.heap.size, 0, none⟩ (.int .i64 ((i : Int) + 1)) = W5 := ⟨_, rfl⟩
        have hn5 : ∀ j, j ≠ wr.heap.size → W5.heap[j]? = W.heap[j]? := fun j hj => by rw [← hW5]; exact Below.heap_setCell _ _ _ j (by simpa using hj)
        have hc5 : Boxed W5 wr.heap.size 3 (.int .i64 ((i : Int) + 1)) := by rw [← hW5]; exact hL.cnt.set _
        have hk5 : KeepsOthers W W5 := by rw [← hW5]; exact KeepsOthers.setCell _ _ _
        have hl5 : Below wr.heap.size wr W5 := by rw [← hW5]; exact hL.low.setCell (p := ⟨wr.heap.size, 0, none⟩) (by simp) _
        have p5 := boxed_same HPr.out (hl5.block _ (HPr.out.lt))
        have p0 := p5.cell
        have d3 := (HDr.out.below hl5).box.cell 3
        simp only [List.getElem?_cons_zero, List.getElem?_cons_succ] at d3
        have e0 := hc5.cell
        have b15 := boxed_same b1 (hn5 _ (by omega))
        have b25 := boxed_same b2 (hn5 _ (by omega))
        have c1 := b15.cell
        have f1 := b15.frozen
        have c2 := b25.cell
        have f2 := b25.frozen
        have HX5 := hide (And.intro hc5 (And.intro hk5 (And.intro hl5 (And.intro hn5 (And.intro b15 b25)))))
        have hi1 : i ≤ rot.length := hM.out.1
        replace hb := hide hb
        replace hL := hide hL
        clear hc5 hk5 hl5 p5 hn5 b15 b25 b1 b2 hlw
        by_cases hi : i = rot.length
        · have q1 : decide ((rot.length : Int) < (i : Int) + 1) = true := by simp; omega
          replace hi := hide hi
          gi_wp2
          gi_region
          all_goals
            gi_wp2
            obtain ⟨hc5, hk5, hl5, hn5, b15, b25⟩ := HX5.out
            have hi' := hi.out
            have hbel : Below w.heap.size w W5.drew := (HB1.out.trans ((HLr.out.trans (hl5.mono (by omega))).mono (by omega))).drew
            have hkd : KeepsOthers W W5.drew := ⟨hk5.size, hk5.same⟩
            refine ⟨(hkd.trans (KeepsOthers.setCell _ _ _)).trans (KeepsOthers.setCell _ _ _), rfl, (Boxed.set (.bool false) (show Boxed W5.drew _ _ _ from b15)).other (by omega) _, (Boxed.other (show Boxed W5.drew _ _ _ from b25) (by omega) _).set _,
              (hbel.setCell (p := ⟨w.heap.size + 1, 0, none⟩) (by simp) _).setCell (p := ⟨w.heap.size + 1 + 1, 0, none⟩) (by simp; omega) _, fun j hj1 hj2 => ?_, fun j hj => hM.out.2 j (by omega)⟩
            show ((W5.setCell ⟨w.heap.size + 1, 0, none⟩ (.bool false)).setCell ⟨w.heap.size + 1 + 1, 0, none⟩ (.int .i64 0)).heap[j]? = _
            rw [Below.heap_setCell _ _ _ j (by simp; omega), Below.heap_setCell _ _ _ j (by simp; omega)]
            exact hl5.block j hj2
        · have q1 : decide ((rot.length : Int) < (i : Int) + 1) = false := by simp; omega
          have hi3 : i < rot.length := by omega
          clear hi
          gi_wp2
          gi_region
          all_goals
            gi_wp2
            obtain ⟨hc5, hk5, hl5, hn5, b15, b25⟩ := HX5.out
            refine ⟨⟨hk5.size, hk5.same⟩, hb.out.keep (fun j hj1 hj2 hj3 => hn5 j (by omega)), ⟨?_, hl5.drew⟩, ⟨hi3, hM.out.2⟩⟩
            rw [show ((i + 1 : Nat) : Int) = (i : Int) + 1 by omega]
            exact hc5
      case done =>
        rintro D W hDl ⟨i, hVi, hL, hM⟩ hK
        have hsl := hL.low.size
        have hmk : Marks w2.heap.size ({ target := .collected D, args := #[] } :: ds) W := HM.out.cons (fun j _ hj => hL.low.block j hj) (by omega) (by omega) hK
        have hac1 : acyB ar (endsL es) q rot rot.length (k + 1) = true := by
          have h3 := HAy.out
          unfold acyB at h3 ⊢
          rw [List.range_succ, List.all_append, h3, List.all_cons, List.all_nil, firstAt_some hM.out.1 hVi hM.out.2]
          rfl
        have HF := hide (And.intro hmk (And.intro (HBW.out.trans (hL.low.mono hszr)) hac1))
        clear hmk hac1
        gi_wp2
        exact ⟨⟨k + 1, _, _, _, _, _, _, _, _, _, _, _, _, _, _, _, _, _, _, _, _, ⟨by omega, HF.out.1, HF.out.2.1, HF.out.2.2⟩, by first | rfl | (simp; done)⟩, by simp [intOf]; omega⟩
      case stop =>
        rintro D c W hDl ⟨rfl, b1, b2, hB, hkp, hno⟩ hK
        have hmk : Marks w2.heap.size ({ target := .collected D, args := #[] } :: ds) W := HM.out.cons (fun j hj1 hj2 => hkp j hj1 hj2) (by omega) (by omega) hK
        have HRes : Hid (false = acyB ar (endsL es) q rot rot.length rot.length) := by
          show _ = _
          symm
          unfold acyB
          rw [List.all_eq_false]
          exact ⟨k, by simpa using hlt, by rw [firstAt_none hno.out]; simp⟩
        gi_wp2
        exact HFIN.out _ false _ _ b1 b2 hB hmk HRes.out rfl rfl
    · have hke : k = rot.length := by omega
      have HRes : Hid (acyB ar (endsL es) q rot rot.length rot.length = true) := by have := HAy.out; rw [hke] at this; exact this
      have b1 : Boxed wr (w.heap.size + 1) 4 (.bool false) := boxed_same HBR.out.1 (HLr.out.block _ (by omega))
      have b2 : Boxed wr (w.heap.size + 2) 33 (.int .i64 0) := boxed_same HBR.out.2 (HLr.out.block _ (by omega))
      have c1 := b1.cell
      have f1 := b1.frozen
      have c2 := b2.cell
      have f2 := b2.frozen
      have HB := hide (And.intro b1 b2)
      clear hM hbW hDr hpbr b1 b2 hke
      gi_wp2
      obtain ⟨b1, b2⟩ := HB.out
      refine HFIN.out _ true ds _ ((b1.set (.bool true)).other (by omega) _) ((b2.other (by omega) _).set _) (((HB1.out.trans (HLr.out.mono (by omega))).setCell (p := ⟨w.heap.size + 1, 0, none⟩) (by simp) _).setCell (p := ⟨w.heap.size + 1 + 1, 0, none⟩) (by simp; omega) _) (HM.out.keep fun j hj => ?_) HRes.out.symm rfl rfl
      rw [Below.heap_setCell _ _ _ j (by simp; omega), Below.heap_setCell _ _ _ j (by simp; omega)]

section
variable (n : Int) (es : List Edg) (oe : Option Addr) (c : Nat) (ar : List (List Int)) (oa : Option Addr) (ca : Nat) (F G : Foot) (w : World) (hs : SliceR edgR 3 F w oe es) (hc : es.length ≤ c) (hc2 : es.length ≤ 1000)
    (ha : SliceR (slcR intR 1) 1 G w oa ar) (hac : ar.length ≤ ca) (hac2 : ar.length ≤ 9223372036854775807) (f : List Nat) (hU : Hid (gErr n es = 0 → Uf f (eL es)))
    (q : Int) (rot : List Int) (ot : Option Addr) (ct : Nat) (H : Foot) (hr : SliceR intR 1 H w ot rot) (hrc : rot.length ≤ ct) (hrl : rot.length ≤ 9223372036854775807)
include hs hc hc2 ha hac hac2 hU hr hrc hrl

set_option maxRecDepth 100000 in
set_option maxHeartbeats 2000000 in
theorem acyclic_no (hE : Hid (rtE n es f ar q rot ≠ 0)) :
    Calls Try.prog 24 #[.agg #[.int .i64 n, .slice oe es.length c, .slice oa ar.length ca], .int .i64 q, .slice ot rot.length ct] w (BoolErr w false (rtE n es f ar q rot)) := by
  go_enter Try.func24, Try.ntmps24
  obtain ⟨w1, hw1⟩ : ∃ w1, ((w.alloc (.cells #[.int .i64 n, .slice oe es.length c, .slice oa ar.length ca] 27)).alloc (.cells #[.bool false] 4)).alloc (.cells #[.int .i64 0] 33) = w1 := ⟨_, rfl⟩
  have hB1 : Below w.heap.size w w1 := by rw [← hw1]; exact bnew (bnew (bnew (Below.refl _ _) _) _) _
  have hsz1 : w1.heap.size = w.heap.size + 3 := by rw [← hw1]; simp
  have bR1 : Boxed w1 (w.heap.size + 1) 4 (.bool false) := by rw [← hw1]; have := (Boxed.new (w.alloc (.cells #[.int .i64 n, .slice oe es.length c, .slice oa ar.length ca] 27)) 4 (.bool false)).alloc (.cells #[.int .i64 0] 33); simpa using this
  have bR2 : Boxed w1 (w.heap.size + 2) 33 (.int .i64 0) := by rw [← hw1]; have := Boxed.new ((w.alloc (.cells #[.int .i64 n, .slice oe es.length c, .slice oa ar.length ca] 27)).alloc (.cells #[.bool false] 4)) 33 (.int .i64 0); simpa using this
  have d012 : ∀ i x, #[Value.int .i64 n, .slice oe es.length c, .slice oa ar.length ca][i]? = some x → w1.cell? ⟨w.heap.size, i, none⟩ = some x := fun i x hx => by
    have hbb : Below (w.heap.size + 1) (w.alloc (.cells #[.int .i64 n, .slice oe es.length c, .slice oa ar.length ca] 27)) w1 := by
      rw [← hw1]; exact ((box_refl _ _).alloc (by simp) _).alloc (by simp) _
    rw [box_cell hbb i, hx]
  have d0 := d012 0 _ rfl
  have d1 := d012 1 _ rfl
  have d2 := d012 2 _ rfl
  have HA := hide (boardOf_err n es oe c ar oa ca F G w1 (hs.below edgR_ok hB1) hc hc2 (ha.below (slcR_ok intR_ok (by decide)) hB1) hac hac2 f hU q rot ot ct H (hr.below intR_ok hB1) hrc hrl hE)
  have HBR := hide (And.intro hB1 (And.intro bR1 bR2))
  clear d012 bR1 bR2 hB1
  go_wp2_with fail
  refine HA.out.mono ?_
  rintro e w2 ⟨rfl, hb2⟩
  have hq : (rtE n es f ar q rot != 0) = true := by simpa using hE.out
  have b1 : Boxed w2 (w.heap.size + 1) 4 (.bool false) := boxed_same HBR.out.2.1 (hb2.block _ (by omega))
  have b2 : Boxed w2 (w.heap.size + 2) 33 (.int .i64 0) := boxed_same HBR.out.2.2 (hb2.block _ (by omega))
  have c1 := b1.cell
  have f1 := b1.frozen
  have c2 := b2.cell
  have f2 := b2.frozen
  have z1 := b1.lt
  have z2 := b2.lt
  have HB := hide (And.intro b1 (And.intro b2 hb2))
  clear b1 b2 hb2
  go_wp2_with fail
  obtain ⟨b1, b2, hb3⟩ := HB.out
  have b1 := ((b1.set (.bool false)).other (show w.heap.size + 1 ≠ w.heap.size + 1 + 1 by omega) (.int .i64 (rtE n es f ar q rot))).alloc (.cells #[.pointer none] 80)
  have b2 := ((b2.other (show w.heap.size + 2 ≠ w.heap.size + 1 by omega) (.bool false)).set (.int .i64 (rtE n es f ar q rot))).alloc (.cells #[.pointer none] 80)
  refine bodyPost_ret (results_cells2 rfl agg_bool agg_errno _ _ _ _ _ _ rfl rfl b1.cell b2.cell) rfl ?_
  exact ⟨rfl, bnew (((HBR.out.1.trans (hb3.mono (by omega))).setCell (p := ⟨w.heap.size + 1, 0, none⟩) (by simp) _).setCell (p := ⟨w.heap.size + 1 + 1, 0, none⟩) (by simp; omega) _) _⟩

/-- Whether rotors are acyclic, or the error. -/
def acycRes (n : Int) (es : List Edg) (f : List Nat) (ar : List (List Int)) (q : Int) (rot : List Int) : Bool × Int :=
  if rtE n es f ar q rot = 0 then (acyB ar (endsL es) q.toNat rot rot.length rot.length, 0) else (false, rtE n es f ar q rot)
theorem rotAcyclic_any :
    Calls Try.prog 24 #[.agg #[.int .i64 n, .slice oe es.length c, .slice oa ar.length ca], .int .i64 q, .slice ot rot.length ct] w (BoolErr w (acycRes n es f ar q rot).1 (acycRes n es f ar q rot).2) := by
  by_cases hR : rtE n es f ar q rot = 0
  · obtain ⟨q', rfl, hok⟩ := RtOk.of hR hc2
    rw [acycRes, if_pos hR]
    exact (callsIn_wide (n := 4)).1 (acyclic_in 4 (by omega) n es oe c ar oa ca F G w hs hc hc2 ha hac hac2 f hU q' rot ot ct H hr hrc hrl hR hok)
  · rw [acycRes, if_neg hR]
    exact acyclic_no n es oe c ar oa ca F G w hs hc hc2 ha hac hac2 f hU q rot ot ct H hr hrc hrl hR
end

end Go.Proofs.Ytopldbnlehjlpaa

set_option linter.unusedVariables false
set_option linter.unusedSimpArgs false
namespace Go.Proofs.Ytopldbnlehjlpaa
open Go.RowKit

theorem tv_rt : rtE 3 triE (forest triE) triA 0 [0, 0, 0] = 0 := by decide +kernel
theorem tv_rt2 : rtE 3 triE (forest triE) triA 0 [0, 0, 1] = 0 := by decide +kernel
theorem tv_st : stE 3 triE (forest triE) triA 0 [0, 0, 0] 1 = 0 := by
  unfold stE
  rw [if_pos tv_rt]
  decide +kernel
theorem tv_step : stepRes 3 triE (forest triE) triA 0 [0, 0, 0] 1 = ([0, 1, 0], 2, 0) := by
  unfold stepRes
  rw [if_pos tv_st]
  decide +kernel
theorem tv_c0 : chipV triA (endsL triE) [0, 0, 0] 1 3 = 0 := by decide +kernel
theorem tv_c1 : ∀ j, j < 3 → chipV triA (endsL triE) [0, 0, 0] 1 j ≠ 0 := by decide +kernel
theorem tv_walk : walkRes 3 triE (forest triE) triA 0 [0, 0, 0] 1 = ([1, 2, 1, 0], 0) := by
  unfold walkRes
  rw [if_pos tv_st]
  show walkOf triA (endsL triE) 0 [0, 0, 0] 1 = _
  unfold walkOf
  rw [firstAt_some (i := 3) (by omega) tv_c0 tv_c1]
  decide +kernel
theorem tv_route : routeRes 3 triE (forest triE) triA 0 [0, 0, 0] 1 = ([0, 0, 1], 3, 0) := by
  unfold routeRes
  rw [if_pos tv_st]
  show routeOf triA (endsL triE) 0 [0, 0, 0] 1 = _
  rw [routeOf_hit (i := 3) (by omega) tv_c0 tv_c1]
  decide +kernel
theorem tv_acyc : acycRes 3 triE (forest triE) triA 0 [0, 0, 1] = (true, 0) := by
  unfold acycRes
  rw [if_pos tv_rt2]
  decide +kernel
theorem tv_edges : edR 3 triE (forest triE) triA 0 [0, 0, 1] = [0, 2] := by
  unfold edR
  rw [if_pos tv_rt2]
  decide +kernel
theorem tv_all : allRes 3 triE (forest triE) triA 0 [0, 0, 0] [0, 1, 1] = ([0, 0, 0], [0, 2, 2], 0) := by
  have hg : gvE 3 triE (forest triE) triA 0 [0, 0, 0] [0, 1, 1] = 0 := by
    unfold gvE
    rw [if_pos tv_rt]
    decide +kernel
  unfold allRes
  rw [if_pos hg]
  show movesOf triA (endsL triE) 0 pk0 [0, 0, 0] [0, 1, 1] = _
  rw [movesOf_hit (i := 4) (s := ([0, 0, 0], [2, 0, 0], [0, 2, 2])) (by omega) (by decide +kernel) (by decide +kernel) (by decide +kernel)]

end Go.Proofs.Ytopldbnlehjlpaa

set_option linter.unusedVariables false
set_option linter.unusedSimpArgs false
set_option linter.unnecessarySimpa false
namespace Go.Proofs.Ytopldbnlehjlpaa
open Go.RowKit

/-- What awake leans on between its calls. -/
structure TriCtx (g h z bx : Nat) (W : World) : Prop where
  es : SliceR edgR 3 All W (some ⟨g, 0, none⟩) triE
  ar : SliceR (slcR intR 1) 1 All W (some ⟨h, 0, none⟩) triA
  zs : SliceR intR 1 All W (some ⟨z, 0, none⟩) [0, 0, 0]
  box : Box W bx [.int .i64 3, .slice (some ⟨g, 0, none⟩) 3 3, .slice (some ⟨h, 0, none⟩) 3 3] 27
theorem TriCtx.below {g h z bx : Nat} {W W' : World} (c : TriCtx g h z bx W) (hb : Below W.heap.size W W') : TriCtx g h z bx W' :=
  ⟨c.es.below edgR_ok hb, c.ar.below (slcR_ok intR_ok (by decide)) hb, c.zs.below intR_ok hb, c.box.below hb⟩
/-- A list that a call gave, in later worlds. -/
theorem OwnS.given {B : Nat} {W : World} {rv : Value} {l : List Int} (h : OwnS intR 1 B 3 Non W rv l) : ∃ oa c, rv = .slice oa l.length c ∧ l.length ≤ c ∧ SliceR intR 1 All W oa l := by
  obtain ⟨oa, c, e, hc, hs⟩ := h.slice intR_ok
  exact ⟨oa, c, e, hc, hs.all intR_ok (by decide)⟩

section
variable {g h z bx : Nat} {W : World} (C : TriCtx g h z bx W) (hU : Hid (gErr 3 triE = 0 → Uf (forest triE) (eL triE)))
include C hU
theorem tri_walk : Calls Try.prog 15 #[.agg #[.int .i64 3, .slice (some ⟨g, 0, none⟩) 3 3, .slice (some ⟨h, 0, none⟩) 3 3], .int .i64 0, .slice (some ⟨z, 0, none⟩) 3 3, .int .i64 1] W (ListErr W [1, 2, 1, 0] 0) := by
  have := rotWalk_any 3 triE (some ⟨g, 0, none⟩) 3 triA (some ⟨h, 0, none⟩) 3 All All W C.es (by decide) (by decide) C.ar (by decide) (by decide) (forest triE) hU 0 [0, 0, 0] (some ⟨z, 0, none⟩) 3 All C.zs (by decide) (by decide) 1
  rw [tv_walk] at this
  exact this
theorem tri_route : Calls Try.prog 20 #[.agg #[.int .i64 3, .slice (some ⟨g, 0, none⟩) 3 3, .slice (some ⟨h, 0, none⟩) 3 3], .int .i64 0, .slice (some ⟨z, 0, none⟩) 3 3, .int .i64 1] W (StepRes W ([0, 0, 1], 3, 0)) := by
  have := rotRoute_any 3 triE (some ⟨g, 0, none⟩) 3 triA (some ⟨h, 0, none⟩) 3 All All W C.es (by decide) (by decide) C.ar (by decide) (by decide) (forest triE) hU 0 [0, 0, 0] (some ⟨z, 0, none⟩) 3 All C.zs (by decide) (by decide) 1
  rw [tv_route] at this
  exact this
theorem tri_step : Calls Try.prog 13 #[.agg #[.int .i64 3, .slice (some ⟨g, 0, none⟩) 3 3, .slice (some ⟨h, 0, none⟩) 3 3], .int .i64 0, .slice (some ⟨z, 0, none⟩) 3 3, .int .i64 1] W (StepRes W ([0, 1, 0], 2, 0)) := by
  have := rotStep_any 3 triE (some ⟨g, 0, none⟩) 3 triA (some ⟨h, 0, none⟩) 3 All All W C.es (by decide) (by decide) C.ar (by decide) (by decide) (forest triE) hU 0 [0, 0, 0] (some ⟨z, 0, none⟩) 3 All C.zs (by decide) (by decide) 1
  rw [tv_step] at this
  exact this
theorem tri_acyc (oa : Option Addr) (c : Nat) (hc : 3 ≤ c) (hs : SliceR intR 1 All W oa [0, 0, 1]) : Calls Try.prog 24 #[.agg #[.int .i64 3, .slice (some ⟨g, 0, none⟩) 3 3, .slice (some ⟨h, 0, none⟩) 3 3], .int .i64 0, .slice oa 3 c] W (BoolErr W true 0) := by
  have := rotAcyclic_any 3 triE (some ⟨g, 0, none⟩) 3 triA (some ⟨h, 0, none⟩) 3 All All W C.es (by decide) (by decide) C.ar (by decide) (by decide) (forest triE) hU 0 [0, 0, 1] oa c All hs hc (by decide)
  rw [tv_acyc] at this
  exact this
theorem tri_edges (oa : Option Addr) (c : Nat) (hc : 3 ≤ c) (hs : SliceR intR 1 All W oa [0, 0, 1]) : Calls Try.prog 22 #[.agg #[.int .i64 3, .slice (some ⟨g, 0, none⟩) 3 3, .slice (some ⟨h, 0, none⟩) 3 3], .int .i64 0, .slice oa 3 c] W (ListErr W [0, 2] 0) := by
  have := rotEdges_any 3 triE (some ⟨g, 0, none⟩) 3 triA (some ⟨h, 0, none⟩) 3 All All W C.es (by decide) (by decide) C.ar (by decide) (by decide) (forest triE) hU 0 [0, 0, 1] oa c All hs hc (by decide)
  rw [tv_edges, tv_rt2] at this
  exact this
theorem tri_all (oa : Option Addr) (hs : SliceR intR 1 All W oa [0, 1, 1]) : Calls Try.prog 27 #[.agg #[.int .i64 3, .slice (some ⟨g, 0, none⟩) 3 3, .slice (some ⟨h, 0, none⟩) 3 3], .int .i64 0, .slice (some ⟨z, 0, none⟩) 3 3, .slice oa 3 3] W (MovesPost W.heap.size W ([0, 0, 0], [0, 2, 2], 0)) := by
  have := rotAll_any 3 triE (some ⟨g, 0, none⟩) 3 triA (some ⟨h, 0, none⟩) 3 All All W C.es (by decide) (by decide) C.ar (by decide) (by decide) (forest triE) hU 0 [0, 0, 0] (some ⟨z, 0, none⟩) 3 All C.zs (by decide) (by decide) [0, 1, 1] oa 3 All hs (by decide) (by decide)
  rw [tv_all] at this
  exact this
end
theorem eq_lit (l m : List Int) (oa : Option Addr) (c : Nat) (hc : l.length ≤ c) (hl : l.length ≤ 9223372036854775807) (W : World) (hs : SliceR intR 1 All W oa l) (hm : ∀ x ∈ m, 0 ≤ x ∧ x ≤ 100) (cs : Array Value) (hcs : cs = (m.map (Value.int .i64)).toArray) (k : Nat) (hk : k = m.length) (j : Nat) (hj : j = l.length) :
    Calls Try.prog 19 #[.slice oa j c, .slice (some ⟨W.heap.size, 0, none⟩) k k] (W.alloc (.cells cs 3)) fun e w' => e = .returned (.bool (decide (l = m))) ∧ Below W.heap.size W w' := by
  subst hcs hk hj
  refine (equalInt_any l m oa (some ⟨W.heap.size, 0, none⟩) c m.length All _ (hs.below intR_ok (bnew (Below.refl _ _) _)) (ints_lit (F := All) (G := All) W 3 m (fun x hx => i64_s (hm x hx)) trivial) hc hl).mono ?_
  rintro e w' ⟨rfl, hb⟩
  exact ⟨rfl, (bnew (Below.refl _ _) _).trans (hb.mono (by simp))⟩

set_option maxRecDepth 100000 in
set_option maxHeartbeats 4000000 in
theorem awake45_any (w : World) : Calls Try.prog 12 #[] w fun e w' => e = .returned (.bool true) ∧ Below w.heap.size w w' := by
  have hU : Hid (gErr 3 triE = 0 → Uf (forest triE) (eL triE)) := forest_ok 3 triE
  go_enter Try.func12, Try.ntmps12
  go_wp2_with fail
  refine (tri45_any _).mono ?_
  rintro e w1 ⟨g, h, rfl, hE, hA, hb1⟩
  obtain ⟨W2, hW2⟩ : ∃ W2, (w1.alloc (.cells #[.int .i64 0, .int .i64 0, .int .i64 0] 3)).alloc (.cells #[.int .i64 3, .slice (some ⟨g, 0, none⟩) 3 3, .slice (some ⟨h, 0, none⟩) 3 3] 27) = W2 := ⟨_, rfl⟩
  have hb12 : Below w1.heap.size w1 W2 := by rw [← hW2]; exact bnew (bnew (Below.refl _ _) _) _
  have C2 : TriCtx g h w1.heap.size (w1.heap.size + 1) W2 := by
    refine ⟨hE.below edgR_ok hb12, hA.below (slcR_ok intR_ok (by decide)) hb12, ?_, ?_⟩
    · have := (ints_lit (F := All) (G := All) w1 3 [0, 0, 0] (by intro x hx; simp at hx; subst hx; exact i64_s (by decide)) trivial).below intR_ok (bnew (Below.refl _ _) (.cells #[.int .i64 3, .slice (some ⟨g, 0, none⟩) 3 3, .slice (some ⟨h, 0, none⟩) 3 3] 27))
      rw [← hW2]
      simpa using this
    · have := Box.new (w1.alloc (.cells #[.int .i64 0, .int .i64 0, .int .i64 0] 3)) [.int .i64 3, .slice (some ⟨g, 0, none⟩) 3 3, .slice (some ⟨h, 0, none⟩) 3 3] 27
      rw [← hW2]
      simpa using this
  have HC := hide C2
  have hB2 := hide (hb1.trans (hb12.mono hb1.size))
  have d0 := C2.box.cell 0
  have d1 := C2.box.cell 1
  have d2 := C2.box.cell 2
  simp only [List.getElem?_cons_zero, List.getElem?_cons_succ] at d0 d1 d2
  clear hE hA hb1 hb12 C2
  go_wp2_with fail
  clear d0 d1 d2 hW2
  refine (tri_walk HC.out hU).mono ?_
  rintro e W3 ⟨rv, rfl, ho, hb⟩
  obtain ⟨oa3, c3, rfl, hc3, hs3⟩ := OwnS.given ho
  have HC := hide (HC.out.below hb)
  have hB2 := hide (hB2.out.trans (hb.mono hB2.out.size))
  have d0 := HC.out.box.cell 0
  have d1 := HC.out.box.cell 1
  have d2 := HC.out.box.cell 2
  simp only [List.getElem?_cons_zero, List.getElem?_cons_succ] at d0 d1 d2
  have s3 := hide hs3
  clear ho hb hs3
  go_wp2_with fail
  clear d0 d1 d2
  refine (tri_route HC.out hU).mono ?_
  rintro e W4 ⟨rv, rfl, ho, hb⟩
  obtain ⟨oa4, c4, rfl, hc4, hs4⟩ := OwnS.given ho
  have HC := hide (HC.out.below hb)
  have hB2 := hide (hB2.out.trans (hb.mono hB2.out.size))
  have s3 := hide (s3.out.below intR_ok hb)
  have d0 := HC.out.box.cell 0
  have d1 := HC.out.box.cell 1
  have d2 := HC.out.box.cell 2
  simp only [List.getElem?_cons_zero, List.getElem?_cons_succ] at d0 d1 d2
  have s4 := hide hs4
  clear ho hb hs4
  go_wp2_with fail
  clear d0 d1 d2
  refine (tri_step HC.out hU).mono ?_
  rintro e W5 ⟨rv, rfl, ho, hb⟩
  obtain ⟨oa5, c5, rfl, hc5, hs5⟩ := OwnS.given ho
  have HC := hide (HC.out.below hb)
  have hB2 := hide (hB2.out.trans (hb.mono hB2.out.size))
  have s3 := hide (s3.out.below intR_ok hb)
  have s4 := hide (s4.out.below intR_ok hb)
  have d0 := HC.out.box.cell 0
  have d1 := HC.out.box.cell 1
  have d2 := HC.out.box.cell 2
  simp only [List.getElem?_cons_zero, List.getElem?_cons_succ] at d0 d1 d2
  have s5 := hide hs5
  clear ho hb hs5
  go_wp2_with fail
  clear d0 d1 d2
  refine (eq_lit [1, 2, 1, 0] [1, 2, 1, 0] oa3 c3 hc3 (by decide) _ s3.out (by decide) _ rfl _ rfl _ rfl).mono ?_
  rintro e W6 ⟨rfl, hb⟩
  have HC := hide (HC.out.below hb)
  have hB2 := hide (hB2.out.trans (hb.mono hB2.out.size))
  have s4 := hide (s4.out.below intR_ok hb)
  have s5 := hide (s5.out.below intR_ok hb)
  have d0 := HC.out.box.cell 0
  have d1 := HC.out.box.cell 1
  have d2 := HC.out.box.cell 2
  simp only [List.getElem?_cons_zero, List.getElem?_cons_succ] at d0 d1 d2
  clear hb
  go_wp2_with fail
  clear d0 d1 d2
  refine (eq_lit [0, 0, 1] [0, 0, 1] oa4 c4 hc4 (by decide) _ s4.out (by decide) _ rfl _ rfl _ rfl).mono ?_
  rintro e W7 ⟨rfl, hb⟩
  have HC := hide (HC.out.below hb)
  have hB2 := hide (hB2.out.trans (hb.mono hB2.out.size))
  have s4 := hide (s4.out.below intR_ok hb)
  have s5 := hide (s5.out.below intR_ok hb)
  have d0 := HC.out.box.cell 0
  have d1 := HC.out.box.cell 1
  have d2 := HC.out.box.cell 2
  simp only [List.getElem?_cons_zero, List.getElem?_cons_succ] at d0 d1 d2
  clear hb
  go_wp2_with fail
  clear d0 d1 d2
  refine (eq_lit [0, 1, 0] [0, 1, 0] oa5 c5 hc5 (by decide) _ s5.out (by decide) _ rfl _ rfl _ rfl).mono ?_
  rintro e W8 ⟨rfl, hb⟩
  have HC := hide (HC.out.below hb)
  have hB2 := hide (hB2.out.trans (hb.mono hB2.out.size))
  have s4 := hide (s4.out.below intR_ok hb)
  have d0 := HC.out.box.cell 0
  have d1 := HC.out.box.cell 1
  have d2 := HC.out.box.cell 2
  simp only [List.getElem?_cons_zero, List.getElem?_cons_succ] at d0 d1 d2
  clear hb
  go_wp2_with fail
  clear d0 d1 d2
  refine (tri_acyc HC.out hU oa4 c4 hc4 s4.out).mono ?_
  rintro e W9 ⟨rfl, hb⟩
  have HC := hide (HC.out.below hb)
  have hB2 := hide (hB2.out.trans (hb.mono hB2.out.size))
  have s4 := hide (s4.out.below intR_ok hb)
  have d0 := HC.out.box.cell 0
  have d1 := HC.out.box.cell 1
  have d2 := HC.out.box.cell 2
  simp only [List.getElem?_cons_zero, List.getElem?_cons_succ] at d0 d1 d2
  clear hb
  go_wp2_with fail
  clear d0 d1 d2
  refine (tri_edges HC.out hU oa4 c4 hc4 s4.out).mono ?_
  rintro e W10 ⟨rv, rfl, ho, hb⟩
  obtain ⟨oa10, c10, rfl, hc10, hs10⟩ := OwnS.given ho
  have HC := hide (HC.out.below hb)
  have hB2 := hide (hB2.out.trans (hb.mono hB2.out.size))
  have d0 := HC.out.box.cell 0
  have d1 := HC.out.box.cell 1
  have d2 := HC.out.box.cell 2
  simp only [List.getElem?_cons_zero, List.getElem?_cons_succ] at d0 d1 d2
  have s10 := hide hs10
  clear ho hb hs10
  go_wp2_with fail
  clear d0 d1 d2
  have hbq := bnew (Below.refl W10.heap.size W10) (.cells #[.int .i64 0, .int .i64 1, .int .i64 1] 3)
  have hsq := ints_lit (F := All) (G := All) W10 3 [0, 1, 1] (by intro x hx; simp at hx; rcases hx with rfl | rfl <;> exact i64_s (by decide)) trivial
  refine (tri_all (HC.out.below hbq) hU _ hsq).mono ?_
  rintro e W11 ⟨rv, cv, rfl, ho1, ho2, hb⟩
  replace hb := hbq.trans (hb.mono hbq.size)
  obtain ⟨oa11, c11, rfl, hc11, hs11⟩ := OwnS.given ho1
  obtain ⟨oa12, c12, rfl, hc12, hs12⟩ := OwnS.given ho2
  have HC := hide (HC.out.below hb)
  have hB2 := hide (hB2.out.trans (hb.mono hB2.out.size))
  have s10 := hide (s10.out.below intR_ok hb)
  have s11 := hide hs11
  have s12 := hide hs12
  clear ho1 ho2 hb hs11 hs12 hbq hsq
  go_wp2_with fail
  refine (eq_lit [0, 2] [0, 2] oa10 c10 hc10 (by decide) _ s10.out (by decide) _ rfl _ rfl _ rfl).mono ?_
  rintro e W13 ⟨rfl, hb⟩
  have HC := hide (HC.out.below hb)
  have hB2 := hide (hB2.out.trans (hb.mono hB2.out.size))
  have s11 := hide (s11.out.below intR_ok hb)
  have s12 := hide (s12.out.below intR_ok hb)
  clear hb
  go_wp2_with fail
  refine (equalInt_any [0, 0, 0] [0, 0, 0] oa11 (some ⟨w1.heap.size, 0, none⟩) c11 3 All _ s11.out HC.out.zs hc11 (by decide)).mono ?_
  rintro e W14 ⟨rfl, hb⟩
  have HC := hide (HC.out.below hb)
  have hB2 := hide (hB2.out.trans (hb.mono hB2.out.size))
  have s12 := hide (s12.out.below intR_ok hb)
  clear hb
  go_wp2_with fail
  have hbq := bnew (Below.refl W14.heap.size W14) (.cells #[.int .i64 0, .int .i64 2, .int .i64 2] 3)
  refine (sameS_any [0, 2, 2] [0, 2, 2] oa12 (some ⟨W14.heap.size, 0, none⟩) c12 3 All _ (s12.out.below intR_ok hbq) (ints_lit (F := All) (G := All) W14 3 [0, 2, 2] (by intro x hx; simp at hx; rcases hx with rfl | rfl <;> exact i64_s (by decide)) trivial) hc12 (by decide)).mono ?_
  rintro e W15 ⟨rfl, hb⟩
  have hB15 := hide (hB2.out.trans ((hbq.trans (hb.mono hbq.size)).mono hB2.out.size))
  clear hb hbq
  go_wp2_with fail
  go_ret
  exact ⟨rfl, hB15.out⟩

end Go.Proofs.Ytopldbnlehjlpaa

set_option linter.unusedVariables false
set_option linter.unusedSimpArgs false
set_option linter.unnecessarySimpa false
namespace Go.Proofs.Ytopldbnlehjlpaa
open Go.RowKit

section
variable (n : Int) (es : List Edg) (oe : Option Addr) (c : Nat) (ar : List (List Int)) (oa : Option Addr) (ca : Nat) (F G : Foot) (w : World) (hs : SliceR edgR 3 F w oe es) (hc : es.length ≤ c) (hc2 : es.length ≤ 1000)
    (ha : SliceR (slcR intR 1) 1 G w oa ar) (hac : ar.length ≤ ca) (hac2 : ar.length ≤ 9223372036854775807) (f : List Nat) (hU : Hid (gErr n es = 0 → Uf f (eL es)))
    (q : Int) (rot : List Int) (ot : Option Addr) (ct : Nat) (H : Foot) (hr : SliceR intR 1 H w ot rot) (hrc : rot.length ≤ ct) (hrl : rot.length ≤ 9223372036854775807)
include hs hc hc2 ha hac hac2 hU hr hrc hrl

set_option maxRecDepth 100000 in
set_option maxHeartbeats 4000000 in
theorem refWalk_any (v : Int) :
    Calls Try.prog 16 #[.agg #[.int .i64 n, .slice oe es.length c, .slice oa ar.length ca], .int .i64 q, .slice ot rot.length ct, .int .i64 v] w (ListErr w (walkRes n es f ar q rot v).1 (walkRes n es f ar q rot v).2) := by
  go_enter Try.func16, Try.ntmps16
  go_wp2_with fail
  have hb0 := box_refl w (.cells #[.int .i64 n, .slice oe es.length c, .slice oa ar.length ca] 27)
  refine (r45check_any n es oe c ar oa ca F G _ (hs.below edgR_ok (below_box hb0)) hc hc2 (ha.below (slcR_ok intR_ok (by decide)) (below_box hb0)) hac hac2 f hU q rot ot ct H (hr.below intR_ok (below_box hb0)) hrc hrl).mono ?_
  rintro e w2 ⟨rfl, hb2⟩
  have hx2 := hb2.mono (B' := w.heap.size + 1) (by simp)
  have d0 := box_cell hx2 0
  have d1 := box_cell hx2 1
  simp at d0 d1
  have HX := hide (below_box hx2)
  have HX2 := hide hx2
  clear hb2 hb0 hx2
  by_cases hR : rtE n es f ar q rot = 0
  · have HR := hide hR
    rw [hR]
    clear hR
    by_cases hV : vtxB n v = true
    · have HS : Hid (stE n es f ar q rot v = 0) := by show _ = _; unfold stE; rw [if_pos HR.out, if_pos hV]
      have HV := hide hV
      clear hV
      go_wp2_with fail
      refine (rvertex_any n v oe es.length c _).mono ?_
      rintro e w3 ⟨rfl, hb3⟩
      rw [HV.out]
      have HX3 := hide (box_then HX2.out (by simp) hb3)
      have hx3 := box_cell HX3.out 0
      have hx31 := box_cell HX3.out 1
      have hx32 := box_cell HX3.out 2
      simp at hx3 hx31 hx32
      clear hb3 d0 d1
      obtain ⟨q', hq', hok⟩ := RtOk.of HR.out hc2
      have hv2 := vtxB_iff.1 HV.out
      obtain ⟨V, rfl⟩ := Int.eq_ofNat_of_zero_le hv2.1
      have hVar : V < ar.length := by have := hok.nar; omega
      have HRes : Hid (walkRes n es f ar q rot V = walkOf ar (endsL es) q' rot V) := by
        show _ = _
        unfold walkRes
        rw [if_pos HS.out, hq']
        rfl
      have HMU := hide (rt_mult HR.out)
      have HT := hide (routed_any n es oe c ar oa ca F G w3 (hs.below edgR_ok (below_box HX3.out)) hc hc2 (ha.below (slcR_ok intR_ok (by decide)) (below_box HX3.out)) hac hac2 HMU q' rot ot ct H (hr.below intR_ok (below_box HX3.out)) hrc V hok hVar)
      subst hq'
      clear hok hv2
      go_wp2_with fail
      refine HT.out.mono ?_
      rintro e w4 ⟨o1, n1, c1, o2, n2, c2, k, o, rfl, hb4, hcase⟩
      have HB4 := hide ((below_box HX3.out).trans (hb4.mono (below_box HX3.out).size))
      have hsz4 := HB4.out.size
      have HC := hide hcase
      clear hb4 hcase hx3 hx31 hx32
      rcases HC.out with ⟨i, h1, h2, h3, h4, h5, h6, h7, h8⟩ | ⟨h1, h2⟩
      · subst h1 h2
        by_cases hi : i + 1 ≤ 4096
        · have q1 : decide ((4096 : Int) < (i : Int) + 1) = false := by simp; omega
          have HF : Hid (walkOf ar (endsL es) q' rot V = (wayL (chipV ar (endsL es) rot V) (i + 1), 0)) := by
            show _ = _
            unfold walkOf
            rw [firstAt_some (by omega) h5 h6]
          have hk : keptN i = i + 1 := if_pos hi
          rw [hk] at h8
          have HO := hide (h8.rebase (base' := w.heap.size) (by have := (below_box HX3.out).size; omega))
          clear h3 h5 h6 h7 h8 hi hk HC
          go_wp2_with fail
          refine bodyPost_ret ?_ rfl ⟨_, by rw [HRes.out, HF.out], by rw [HRes.out, HF.out]; exact HO.out.below intR_ok (bnew (Below.refl _ _) _), bnew HB4.out _⟩
          simp [results]
        · have q1 : decide ((4096 : Int) < (i : Int) + 1) = true := by simp; omega
          have HF : Hid (walkOf ar (endsL es) q' rot V = ([], 12)) := by
            show _ = _
            unfold walkOf
            rw [firstAt_none (fun j hj => h6 j (by omega))]
          clear h3 h5 h6 h7 h8 hi HC
          go_wp2_with fail
          refine bodyPost_ret ?_ rfl ⟨_, by rw [HRes.out, HF.out], by rw [HRes.out, HF.out]; exact OwnS.nil _ _ _ _ _ _, bnew HB4.out _⟩
          simp [results]
      · subst h1
        have HF : Hid (walkOf ar (endsL es) q' rot V = ([], 12)) := by
          show _ = _
          unfold walkOf
          rw [firstAt_none (fun j hj => h2 j (by omega))]
        clear h2 HC
        go_wp2_with fail
        refine bodyPost_ret ?_ rfl ⟨_, by rw [HRes.out, HF.out], by rw [HRes.out, HF.out]; exact OwnS.nil _ _ _ _ _ _, bnew HB4.out _⟩
        simp [results]
    · have HS : Hid (stE n es f ar q rot v = 2) := by show _ = _; unfold stE; rw [if_pos HR.out, if_neg hV]
      have HRes : Hid (walkRes n es f ar q rot v = ([], 2)) := by show _ = _; unfold walkRes; rw [if_neg (by rw [HS.out]; decide), HS.out]
      have HV : Hid (vtxB n v = false) := by show _ = _; simpa using hV
      clear hV
      go_wp2_with fail
      refine (rvertex_any n v oe es.length c _).mono ?_
      rintro e w3 ⟨rfl, hb3⟩
      rw [HV.out]
      have HX3 := hide (box_then HX2.out (by simp) hb3)
      clear hb3 d0 d1
      go_wp2_with fail
      refine bodyPost_ret ?_ rfl ⟨_, by rw [HRes.out], by rw [HRes.out]; exact OwnS.nil _ _ _ _ _ _, below_box HX3.out⟩
      simp [results]
  · have HRes : Hid (walkRes n es f ar q rot v = ([], rtE n es f ar q rot)) := by
      have h1 : stE n es f ar q rot v = rtE n es f ar q rot := if_neg hR
      show _ = _
      unfold walkRes
      rw [h1, if_neg hR]
    have hq : (rtE n es f ar q rot != 0) = true := by simpa using hR
    clear hR
    go_wp2_with fail
    refine bodyPost_ret ?_ rfl ⟨_, by rw [HRes.out], by rw [HRes.out]; exact OwnS.nil _ _ _ _ _ _, HX.out⟩
    simp [results]

set_option maxRecDepth 100000 in
set_option maxHeartbeats 4000000 in
theorem refRoute_any (v : Int) :
    Calls Try.prog 21 #[.agg #[.int .i64 n, .slice oe es.length c, .slice oa ar.length ca], .int .i64 q, .slice ot rot.length ct, .int .i64 v] w (StepRes w (routeRes n es f ar q rot v)) := by
  go_enter Try.func21, Try.ntmps21
  go_wp2_with fail
  have hb0 := box_refl w (.cells #[.int .i64 n, .slice oe es.length c, .slice oa ar.length ca] 27)
  refine (r45check_any n es oe c ar oa ca F G _ (hs.below edgR_ok (below_box hb0)) hc hc2 (ha.below (slcR_ok intR_ok (by decide)) (below_box hb0)) hac hac2 f hU q rot ot ct H (hr.below intR_ok (below_box hb0)) hrc hrl).mono ?_
  rintro e w2 ⟨rfl, hb2⟩
  have hx2 := hb2.mono (B' := w.heap.size + 1) (by simp)
  have d0 := box_cell hx2 0
  have d1 := box_cell hx2 1
  simp at d0 d1
  have HX := hide (below_box hx2)
  have HX2 := hide hx2
  clear hb2 hb0 hx2
  by_cases hR : rtE n es f ar q rot = 0
  · have HR := hide hR
    rw [hR]
    clear hR
    by_cases hV : vtxB n v = true
    · have HS : Hid (stE n es f ar q rot v = 0) := by show _ = _; unfold stE; rw [if_pos HR.out, if_pos hV]
      have HV := hide hV
      clear hV
      go_wp2_with fail
      refine (rvertex_any n v oe es.length c _).mono ?_
      rintro e w3 ⟨rfl, hb3⟩
      rw [HV.out]
      have HX3 := hide (box_then HX2.out (by simp) hb3)
      have hx3 := box_cell HX3.out 0
      have hx31 := box_cell HX3.out 1
      have hx32 := box_cell HX3.out 2
      simp at hx3 hx31 hx32
      clear hb3 d0 d1
      obtain ⟨q', hq', hok⟩ := RtOk.of HR.out hc2
      have hv2 := vtxB_iff.1 HV.out
      obtain ⟨V, rfl⟩ := Int.eq_ofNat_of_zero_le hv2.1
      have hVar : V < ar.length := by have := hok.nar; omega
      have HRes : Hid (routeRes n es f ar q rot V = routeOf ar (endsL es) q' rot V) := by
        show _ = _
        unfold routeRes
        rw [if_pos HS.out, hq']
        rfl
      have HMU := hide (rt_mult HR.out)
      have HT := hide (routed_any n es oe c ar oa ca F G w3 (hs.below edgR_ok (below_box HX3.out)) hc hc2 (ha.below (slcR_ok intR_ok (by decide)) (below_box HX3.out)) hac hac2 HMU q' rot ot ct H (hr.below intR_ok (below_box HX3.out)) hrc V hok hVar)
      subst hq'
      clear hok hv2
      go_wp2_with fail
      refine HT.out.mono ?_
      rintro e w4 ⟨o1, n1, c1, o2, n2, c2, k, o, rfl, hb4, hcase⟩
      have HB4 := hide ((below_box HX3.out).trans (hb4.mono (below_box HX3.out).size))
      have hsz4 := HB4.out.size
      have HC := hide hcase
      clear hb4 hcase hx3 hx31 hx32
      rcases HC.out with ⟨i, h1, h2, h3, h4, h5, h6, h7, h8⟩ | ⟨h1, h2⟩
      · subst h1 h2
        have HF : Hid (routeOf ar (endsL es) q' rot V = (rotI ar (endsL es) rot V i, (i : Int), 0)) := routeOf_hit h4 h5 h6
        have HO := hide (h7.rebase (base' := w.heap.size) (by have := (below_box HX3.out).size; omega))
        clear h3 h5 h6 h7 h8 HC
        go_wp2_with fail
        go_quiet (fail)
        go_wp2_with fail
        refine bodyPost_ret ?_ rfl ⟨_, by rw [HRes.out, HF.out], by rw [HRes.out, HF.out]; exact ownS_keep' (HO.out.below intR_ok (bnew (Below.refl _ _) _)) (fun _ => rfl), below_drewN (bnew HB4.out _) _⟩
        simp [results]
      · subst h1
        have HF : Hid (routeOf ar (endsL es) q' rot V = ([], 0, 12)) := routeOf_none h2
        clear h2 HC
        go_wp2_with fail
        refine bodyPost_ret ?_ rfl ⟨_, by rw [HRes.out, HF.out], by rw [HRes.out, HF.out]; exact OwnS.nil _ _ _ _ _ _, bnew HB4.out _⟩
        simp [results]
    · have HS : Hid (stE n es f ar q rot v = 2) := by show _ = _; unfold stE; rw [if_pos HR.out, if_neg hV]
      have HRes : Hid (routeRes n es f ar q rot v = ([], 0, 2)) := by show _ = _; unfold routeRes; rw [if_neg (by rw [HS.out]; decide), HS.out]
      have HV : Hid (vtxB n v = false) := by show _ = _; simpa using hV
      clear hV
      go_wp2_with fail
      refine (rvertex_any n v oe es.length c _).mono ?_
      rintro e w3 ⟨rfl, hb3⟩
      rw [HV.out]
      have HX3 := hide (box_then HX2.out (by simp) hb3)
      clear hb3 d0 d1
      go_wp2_with fail
      refine bodyPost_ret ?_ rfl ⟨_, by rw [HRes.out], by rw [HRes.out]; exact OwnS.nil _ _ _ _ _ _, below_box HX3.out⟩
      simp [results]
  · have HRes : Hid (routeRes n es f ar q rot v = ([], 0, rtE n es f ar q rot)) := by
      have h1 : stE n es f ar q rot v = rtE n es f ar q rot := if_neg hR
      show _ = _
      unfold routeRes
      rw [h1, if_neg hR]
    have hq : (rtE n es f ar q rot != 0) = true := by simpa using hR
    clear hR
    go_wp2_with fail
    refine bodyPost_ret ?_ rfl ⟨_, by rw [HRes.out], by rw [HRes.out]; exact OwnS.nil _ _ _ _ _ _, HX.out⟩
    simp [results]
end

end Go.Proofs.Ytopldbnlehjlpaa

set_option linter.unusedVariables false
set_option linter.unusedSimpArgs false
set_option linter.unnecessarySimpa false
namespace Go.Proofs.Ytopldbnlehjlpaa
open Go.RowKit

/-- What the laws' functions lean on between their calls. -/
structure LawCtx (w : World) (n : Int) (es : List Edg) (oe : Option Addr) (c : Nat) (ar : List (List Int)) (oa : Option Addr) (ca : Nat) (q : Int) (rot : List Int) (ot : Option Addr) (ct : Nat) (v : Int) (W : World) : Prop where
  hes : SliceR edgR 3 All W oe es
  har : SliceR (slcR intR 1) 1 All W oa ar
  hrt : SliceR intR 1 All W ot rot
  b1 : Box W w.heap.size [.int .i64 n, .slice oe es.length c, .slice oa ar.length ca] 27
  b2 : Box W (w.heap.size + 1) [.int .i64 q, .slice ot rot.length ct, .int .i64 v] 30
  low : Below w.heap.size w W
theorem LawCtx.below {w : World} {n : Int} {es : List Edg} {oe : Option Addr} {c : Nat} {ar : List (List Int)} {oa : Option Addr} {ca : Nat} {q : Int} {rot : List Int} {ot : Option Addr} {ct : Nat} {v : Int} {W W' : World}
    (h : LawCtx w n es oe c ar oa ca q rot ot ct v W) (hb : Below W.heap.size W W') : LawCtx w n es oe c ar oa ca q rot ot ct v W' :=
  ⟨h.hes.below edgR_ok hb, h.har.below (slcR_ok intR_ok (by decide)) hb, h.hrt.below intR_ok hb, h.b1.below hb, h.b2.below hb, h.low.trans (hb.mono h.low.size)⟩
theorem LawCtx.new {w : World} {n : Int} {es : List Edg} {oe : Option Addr} {c : Nat} {ar : List (List Int)} {oa : Option Addr} {ca : Nat} {q : Int} {rot : List Int} {ot : Option Addr} {ct : Nat} {v : Int}
    (h1 : SliceR edgR 3 All w oe es) (h2 : SliceR (slcR intR 1) 1 All w oa ar) (h3 : SliceR intR 1 All w ot rot) :
    LawCtx w n es oe c ar oa ca q rot ot ct v ((w.alloc (.cells #[.int .i64 n, .slice oe es.length c, .slice oa ar.length ca] 27)).alloc (.cells #[.int .i64 q, .slice ot rot.length ct, .int .i64 v] 30)) := by
  have hb := bnew (bnew (Below.refl w.heap.size w) (.cells #[.int .i64 n, .slice oe es.length c, .slice oa ar.length ca] 27)) (.cells #[.int .i64 q, .slice ot rot.length ct, .int .i64 v] 30)
  refine ⟨h1.below edgR_ok hb, h2.below (slcR_ok intR_ok (by decide)) hb, h3.below intR_ok hb, (Box.new w [.int .i64 n, .slice oe es.length c, .slice oa ar.length ca] 27).next _, ?_, hb⟩
  have := Box.new (w.alloc (.cells #[.int .i64 n, .slice oe es.length c, .slice oa ar.length ca] 27)) [.int .i64 q, .slice ot rot.length ct, .int .i64 v] 30
  simpa using this

theorem OwnS.small {B : Nat} {W : World} {rv : Value} {l : List Int} (h : OwnS intR 1 B 3 Non W rv l) : l.length ≤ 9223372036854775807 := by
  obtain ⟨cells, ho, _⟩ := h
  rcases ho.2 with ⟨_, hn⟩ | ⟨g, cap, cur, _, _, _, hle, hcm, _, _⟩
  · omega
  · unfold maxLen at hcm
    omega
set_option maxRecDepth 100000 in
set_option maxHeartbeats 8000000 in
theorem steps_walk (n : Int) (es : List Edg) (oe : Option Addr) (c : Nat) (ar : List (List Int)) (oa : Option Addr) (ca : Nat) (q : Int) (rot : List Int) (ot : Option Addr) (ct : Nat) (v : Int) (w : World)
    (hs : SliceR edgR 3 All w oe es) (hc : es.length ≤ c) (hc2 : es.length ≤ 9223372036854775807) (ha : SliceR (slcR intR 1) 1 All w oa ar) (hac : ar.length ≤ ca) (hac2 : ar.length ≤ 9223372036854775807) (hr : SliceR intR 1 All w ot rot) (hrc : rot.length ≤ ct) (hrl : rot.length ≤ 9223372036854775807) :
    Calls Try.prog 3 #[.agg #[.int .i64 n, .slice oe es.length c, .slice oa ar.length ca], .agg #[.int .i64 q, .slice ot rot.length ct, .int .i64 v]] w fun e w' => e = .returned (.bool true) ∧ Below w.heap.size w w' := by
  have hU : Hid (gErr n es = 0 → Uf (forest es) (eL es)) := forest_ok n es
  have C0 := LawCtx.new (n := n) (c := c) (ca := ca) (q := q) (ct := ct) (v := v) hs ha hr
  obtain ⟨W1, hW1⟩ : ∃ W1, (w.alloc (.cells #[.int .i64 n, .slice oe es.length c, .slice oa ar.length ca] 27)).alloc (.cells #[.int .i64 q, .slice ot rot.length ct, .int .i64 v] 30) = W1 := ⟨_, rfl⟩
  rw [hW1] at C0
  have HC := hide C0
  have d0 := HC.out.b1.cell 0
  have d1 := HC.out.b1.cell 1
  have d2 := HC.out.b1.cell 2
  have p0 := HC.out.b2.cell 0
  have p1 := HC.out.b2.cell 1
  have p2 := HC.out.b2.cell 2
  simp only [List.getElem?_cons_zero, List.getElem?_cons_succ] at d0 d1 d2 p0 p1 p2
  clear hs ha hr C0
  go_enter Try.func3, Try.ntmps3
  go_wp2_with fail
  refine (few45_any n es oe c ar oa ca All All _ HC.out.hes hc hc2 HC.out.har hac hac2 rot ot ct).mono ?_
  rintro e W2 ⟨rfl, hb⟩
  replace HC := hide (HC.out.below hb)
  clear hb d0 d1 d2 p0 p1 p2 hW1
  by_cases hF : few45 n es ar rot = true
  · obtain ⟨hc3, _, _⟩ := few45_yes hF
    rw [hF]
    clear hF
    have d0 := HC.out.b1.cell 0
    have d1 := HC.out.b1.cell 1
    have d2 := HC.out.b1.cell 2
    have p0 := HC.out.b2.cell 0
    have p1 := HC.out.b2.cell 1
    have p2 := HC.out.b2.cell 2
    simp only [List.getElem?_cons_zero, List.getElem?_cons_succ] at d0 d1 d2 p0 p1 p2
    go_wp2_with fail
    clear d0 d1 d2 p0 p1 p2
    refine (rotStep_any n es oe c ar oa ca All All _ HC.out.hes hc (by omega) HC.out.har hac hac2 (forest es) hU q rot ot ct All HC.out.hrt hrc hrl v).mono ?_
    rintro e W3 ⟨rv, rfl, ho, hb⟩
    have hl3 := hide (OwnS.small ho)
    obtain ⟨oa3, c3, rfl, hc3', hs3⟩ := OwnS.given ho
    replace HC := hide (HC.out.below hb)
    have s3 := hide hs3
    clear ho hb hs3
    have d0 := HC.out.b1.cell 0
    have d1 := HC.out.b1.cell 1
    have d2 := HC.out.b1.cell 2
    have p0 := HC.out.b2.cell 0
    have p1 := HC.out.b2.cell 1
    have p2 := HC.out.b2.cell 2
    simp only [List.getElem?_cons_zero, List.getElem?_cons_succ] at d0 d1 d2 p0 p1 p2
    go_wp2_with fail
    clear d0 d1 d2 p0 p1 p2
    refine (refStep_any n es oe c ar oa ca All All _ HC.out.hes hc (by omega) HC.out.har hac hac2 (forest es) hU q rot ot ct All HC.out.hrt hrc hrl v).mono ?_
    rintro e W4 ⟨rv, rfl, ho, hb⟩
    obtain ⟨oa4, c4, rfl, hc4', hs4⟩ := OwnS.given ho
    replace HC := hide (HC.out.below hb)
    replace s3 := hide (s3.out.below intR_ok hb)
    have s4 := hide hs4
    clear ho hb hs4
    have d0 := HC.out.b1.cell 0
    have d1 := HC.out.b1.cell 1
    have d2 := HC.out.b1.cell 2
    have p0 := HC.out.b2.cell 0
    have p1 := HC.out.b2.cell 1
    have p2 := HC.out.b2.cell 2
    simp only [List.getElem?_cons_zero, List.getElem?_cons_succ] at d0 d1 d2 p0 p1 p2
    go_wp2_with fail
    clear d0 d1 d2 p0 p1 p2
    refine (rotWalk_any n es oe c ar oa ca All All _ HC.out.hes hc (by omega) HC.out.har hac hac2 (forest es) hU q rot ot ct All HC.out.hrt hrc hrl v).mono ?_
    rintro e W5 ⟨rv, rfl, ho, hb⟩
    have hl5 := hide (OwnS.small ho)
    obtain ⟨oa5, c5, rfl, hc5', hs5⟩ := OwnS.given ho
    replace HC := hide (HC.out.below hb)
    replace s3 := hide (s3.out.below intR_ok hb)
    replace s4 := hide (s4.out.below intR_ok hb)
    have s5 := hide hs5
    clear ho hb hs5
    have d0 := HC.out.b1.cell 0
    have d1 := HC.out.b1.cell 1
    have d2 := HC.out.b1.cell 2
    have p0 := HC.out.b2.cell 0
    have p1 := HC.out.b2.cell 1
    have p2 := HC.out.b2.cell 2
    simp only [List.getElem?_cons_zero, List.getElem?_cons_succ] at d0 d1 d2 p0 p1 p2
    go_wp2_with fail
    clear d0 d1 d2 p0 p1 p2
    refine (refWalk_any n es oe c ar oa ca All All _ HC.out.hes hc (by omega) HC.out.har hac hac2 (forest es) hU q rot ot ct All HC.out.hrt hrc hrl v).mono ?_
    rintro e W6 ⟨rv, rfl, ho, hb⟩
    obtain ⟨oa6, c6, rfl, hc6', hs6⟩ := OwnS.given ho
    replace HC := hide (HC.out.below hb)
    replace s3 := hide (s3.out.below intR_ok hb)
    replace s4 := hide (s4.out.below intR_ok hb)
    replace s5 := hide (s5.out.below intR_ok hb)
    have s6 := hide hs6
    clear ho hb hs6
    have d0 := HC.out.b1.cell 0
    have d1 := HC.out.b1.cell 1
    have d2 := HC.out.b1.cell 2
    have p0 := HC.out.b2.cell 0
    have p1 := HC.out.b2.cell 1
    have p2 := HC.out.b2.cell 2
    simp only [List.getElem?_cons_zero, List.getElem?_cons_succ] at d0 d1 d2 p0 p1 p2
    go_wp2_with fail
    replace HC := hide (show LawCtx w n es oe c ar oa ca q rot ot ct v W6.drew from ⟨HC.out.hes.keep edgR_ok (fun _ _ _ => rfl), HC.out.har.keep (slcR_ok intR_ok (by decide)) (fun _ _ _ => rfl), HC.out.hrt.keep intR_ok (fun _ _ _ => rfl), HC.out.b1, HC.out.b2, HC.out.low.drew⟩)
    replace s3 := hide (s3.out.keep (w' := W6.drew) intR_ok (fun _ _ _ => rfl))
    replace s4 := hide (s4.out.keep (w' := W6.drew) intR_ok (fun _ _ _ => rfl))
    replace s5 := hide (s5.out.keep (w' := W6.drew) intR_ok (fun _ _ _ => rfl))
    replace s6 := hide (s6.out.keep (w' := W6.drew) intR_ok (fun _ _ _ => rfl))
    replace hl3 : (stepRes n es (forest es) ar q rot v).1.length ≤ 9223372036854775807 := hl3.out
    replace hl5 : (walkRes n es (forest es) ar q rot v).1.length ≤ 9223372036854775807 := hl5.out
    have K17 : ∀ W : World, LawCtx w n es oe c ar oa ca q rot ot ct v W → Calls Try.prog 17 #[.agg #[.int .i64 n, .slice oe es.length c, .slice oa ar.length ca], .int .i64 q, .slice ot rot.length ct] W (ErrPost W (rtE n es (forest es) ar q rot)) := fun W h => rotcheck_any n es oe c ar oa ca All All W h.hes hc (by omega) h.har hac hac2 (forest es) hU q rot ot ct All h.hrt hrc hrl
    have K18 : ∀ W : World, LawCtx w n es oe c ar oa ca q rot ot ct v W → Calls Try.prog 18 #[.agg #[.int .i64 n, .slice oe es.length c, .slice oa ar.length ca], .int .i64 q, .slice ot rot.length ct] W (ErrPost W (rtE n es (forest es) ar q rot)) := fun W h => r45check_any n es oe c ar oa ca All All W h.hes hc (by omega) h.har hac hac2 (forest es) hU q rot ot ct All h.hrt hrc hrl
    replace K17 := hide K17
    replace K18 := hide K18
    generalize rtE n es (forest es) ar q rot = E at *
    generalize (stepRes n es (forest es) ar q rot v).2.1 = r1 at *
    generalize (stepRes n es (forest es) ar q rot v).2.2 = r2 at *
    generalize (stepRes n es (forest es) ar q rot v).1 = l3 at *
    generalize (walkRes n es (forest es) ar q rot v).2 = r3 at *
    generalize (walkRes n es (forest es) ar q rot v).1 = l5 at *
    have K19a : Hid (∀ W : World, SliceR intR 1 All W oa3 l3 → SliceR intR 1 All W oa4 l3 → Calls Try.prog 19 #[.slice oa3 l3.length c3, .slice oa4 l3.length c4] W fun e w' => e = .returned (.bool true) ∧ Below W.heap.size W w') := fun W h1 h2 => (equalInt_any l3 l3 oa3 oa4 c3 c4 All W h1 h2 hc3' hl3).mono fun e w' h => ⟨by rw [h.1]; simp, h.2⟩
    have K19b : Hid (∀ W : World, SliceR intR 1 All W oa5 l5 → SliceR intR 1 All W oa6 l5 → Calls Try.prog 19 #[.slice oa5 l5.length c5, .slice oa6 l5.length c6] W fun e w' => e = .returned (.bool true) ∧ Below W.heap.size W w') := fun W h1 h2 => (equalInt_any l5 l5 oa5 oa6 c5 c6 All W h1 h2 hc5' hl5).mono fun e w' h => ⟨by rw [h.1]; simp, h.2⟩
    clear p2 hU hc hc2 hc3 hac hac2 hrc hrl
    obtain ⟨RR, hRR⟩ : ∃ RR, Value.agg #[.int .i64 n, .slice oe es.length c, .slice oa ar.length ca] = RR := ⟨_, rfl⟩
    obtain ⟨T1, hT1⟩ : ∃ T, Value.tuple #[.slice oa3 l3.length c3, .int .i64 r1, .int .i64 r2] = T := ⟨_, rfl⟩
    obtain ⟨T2, hT2⟩ : ∃ T, Value.tuple #[.slice oa4 l3.length c4, .int .i64 r1, .int .i64 r2] = T := ⟨_, rfl⟩
    obtain ⟨T3, hT3⟩ : ∃ T, Value.tuple #[.slice oa5 l5.length c5, .int .i64 r3] = T := ⟨_, rfl⟩
    obtain ⟨T4, hT4⟩ : ∃ T, Value.tuple #[.slice oa6 l5.length c6, .int .i64 r3] = T := ⟨_, rfl⟩
    rw [hRR, hT1, hT2, hT3, hT4]
    rw [hRR] at K17 K18
    clear hT1 hT2 hT3 hT4 hc3' hc4' hc5' hc6' hl3 hl5
    go_region_held3 (fun w' => w'.cell? ⟨w.heap.size, 0, none⟩ = some (.int .i64 n) ∧ w'.cell? ⟨w.heap.size, 1, none⟩ = some (.slice oe es.length c) ∧ w'.cell? ⟨w.heap.size, 2, none⟩ = some (.slice oa ar.length ca) ∧ w'.cell? ⟨w.heap.size + 1, 0, none⟩ = some (.int .i64 q) ∧ w'.cell? ⟨w.heap.size + 1, 1, none⟩ = some (.slice ot rot.length ct)) (first | exact ⟨d0, d1, d2, p0, p1⟩) (first
      | (go_at_call 12; refine (awake45_any _).mono ?_; rintro e w5 ⟨rfl, h5⟩; replace d0 := (h5.cell (World.block_lt_of_cell? _ _ d0)).trans d0; replace d1 := (h5.cell (World.block_lt_of_cell? _ _ d1)).trans d1; replace d2 := (h5.cell (World.block_lt_of_cell? _ _ d2)).trans d2; replace p0 := (h5.cell (World.block_lt_of_cell? _ _ p0)).trans p0; replace p1 := (h5.cell (World.block_lt_of_cell? _ _ p1)).trans p1; replace HC := hide (HC.out.below h5); replace s3 := hide (s3.out.below intR_ok h5); replace s4 := hide (s4.out.below intR_ok h5); replace s5 := hide (s5.out.below intR_ok h5); replace s6 := hide (s6.out.below intR_ok h5); clear h5)
      | (go_at_call 17; refine (K17.out _ HC.out).mono ?_; rintro e w5 ⟨rfl, h5⟩; replace d0 := (h5.cell (World.block_lt_of_cell? _ _ d0)).trans d0; replace d1 := (h5.cell (World.block_lt_of_cell? _ _ d1)).trans d1; replace d2 := (h5.cell (World.block_lt_of_cell? _ _ d2)).trans d2; replace p0 := (h5.cell (World.block_lt_of_cell? _ _ p0)).trans p0; replace p1 := (h5.cell (World.block_lt_of_cell? _ _ p1)).trans p1; replace HC := hide (HC.out.below h5); replace s3 := hide (s3.out.below intR_ok h5); replace s4 := hide (s4.out.below intR_ok h5); replace s5 := hide (s5.out.below intR_ok h5); replace s6 := hide (s6.out.below intR_ok h5); clear h5)
      | (go_at_call 18; refine (K18.out _ HC.out).mono ?_; rintro e w5 ⟨rfl, h5⟩; replace d0 := (h5.cell (World.block_lt_of_cell? _ _ d0)).trans d0; replace d1 := (h5.cell (World.block_lt_of_cell? _ _ d1)).trans d1; replace d2 := (h5.cell (World.block_lt_of_cell? _ _ d2)).trans d2; replace p0 := (h5.cell (World.block_lt_of_cell? _ _ p0)).trans p0; replace p1 := (h5.cell (World.block_lt_of_cell? _ _ p1)).trans p1; replace HC := hide (HC.out.below h5); replace s3 := hide (s3.out.below intR_ok h5); replace s4 := hide (s4.out.below intR_ok h5); replace s5 := hide (s5.out.below intR_ok h5); replace s6 := hide (s6.out.below intR_ok h5); clear h5)
      | (go_at_call 19; with_reducible refine (K19a.out _ s3.out s4.out).mono ?_; rintro e w5 ⟨rfl, h5⟩; replace d0 := (h5.cell (World.block_lt_of_cell? _ _ d0)).trans d0; replace d1 := (h5.cell (World.block_lt_of_cell? _ _ d1)).trans d1; replace d2 := (h5.cell (World.block_lt_of_cell? _ _ d2)).trans d2; replace p0 := (h5.cell (World.block_lt_of_cell? _ _ p0)).trans p0; replace p1 := (h5.cell (World.block_lt_of_cell? _ _ p1)).trans p1; replace HC := hide (HC.out.below h5); replace s3 := hide (s3.out.below intR_ok h5); replace s4 := hide (s4.out.below intR_ok h5); replace s5 := hide (s5.out.below intR_ok h5); replace s6 := hide (s6.out.below intR_ok h5); clear h5)
      | (go_at_call 19; with_reducible refine (K19b.out _ s5.out s6.out).mono ?_; rintro e w5 ⟨rfl, h5⟩; replace d0 := (h5.cell (World.block_lt_of_cell? _ _ d0)).trans d0; replace d1 := (h5.cell (World.block_lt_of_cell? _ _ d1)).trans d1; replace d2 := (h5.cell (World.block_lt_of_cell? _ _ d2)).trans d2; replace p0 := (h5.cell (World.block_lt_of_cell? _ _ p0)).trans p0; replace p1 := (h5.cell (World.block_lt_of_cell? _ _ p1)).trans p1; replace HC := hide (HC.out.below h5); replace s3 := hide (s3.out.below intR_ok h5); replace s4 := hide (s4.out.below intR_ok h5); replace s5 := hide (s5.out.below intR_ok h5); replace s6 := hide (s6.out.below intR_ok h5); clear h5))
    all_goals
      go_wp2_with fail
      go_ret
      exact ⟨rfl, HC.out.low⟩
  · have hF2 : few45 n es ar rot = false := by simpa using hF
    rw [hF2]
    clear hF hF2
    have d0 := HC.out.b1.cell 0
    have d1 := HC.out.b1.cell 1
    have d2 := HC.out.b1.cell 2
    have p0 := HC.out.b2.cell 0
    have p1 := HC.out.b2.cell 1
    have p2 := HC.out.b2.cell 2
    simp only [List.getElem?_cons_zero, List.getElem?_cons_succ] at d0 d1 d2 p0 p1 p2
    go_wp2_with fail
    refine (awake45_any _).mono ?_
    rintro e W3 ⟨rfl, hb⟩
    replace HC := hide (HC.out.below hb)
    clear hb d0 d1 d2 p0 p1 p2
    go_wp2_with fail
    go_ret
    exact ⟨rfl, HC.out.low⟩

theorem steps_claim (w : World) (n : Int) (es : List Edg) (oe : Option Addr) (c : Nat) (ar : List (List Int)) (oa : Option Addr) (ca : Nat) (hc : es.length ≤ c) (hc2 : es.length ≤ 9223372036854775807) (hs : SliceR edgR 3 All w oe es) (hac : ar.length ≤ ca) (hac2 : ar.length ≤ 9223372036854775807) (ha : SliceR (slcR intR 1) 1 All w oa ar)
    (q : Int) (rot : List Int) (ot : Option Addr) (ct : Nat) (v : Int) (hrc : rot.length ≤ ct) (hrl : rot.length ≤ 9223372036854775807) (hr : SliceR intR 1 All w ot rot) :
    Calls Try.prog 3 #[.agg #[.int .i64 n, .slice oe es.length c, .slice oa ar.length ca], .agg #[.int .i64 q, .slice ot rot.length ct, .int .i64 v]] w fun e w' => e = .returned (.bool true) ∧ Below w.heap.size w w' :=
  steps_walk n es oe c ar oa ca q rot ot ct v w hs hc hc2 ha hac hac2 hr hrc hrl

end Go.Proofs.Ytopldbnlehjlpaa

set_option linter.unusedVariables false
set_option linter.unusedSimpArgs false
set_option linter.unnecessarySimpa false
namespace Go.Proofs.Ytopldbnlehjlpaa
open Go.RowKit

set_option maxRecDepth 100000 in
set_option maxHeartbeats 4000000 in
theorem refSingles_any (n : Int) (es : List Edg) (oe : Option Addr) (c : Nat) (ar : List (List Int)) (oa : Option Addr) (ca : Nat) (F G : Foot) (w : World)
    (ha : SliceR (slcR intR 1) 1 G w oa ar) (hac : ar.length ≤ ca) (hac2 : ar.length ≤ 9223372036854775807) (q : Nat) (rot : List Int) (ot : Option Addr) (ct : Nat) (H : Foot) (hr : SliceR intR 1 H w ot rot) (hrc : rot.length ≤ ct) (hok : RtOk n es ar q rot) :
    Calls Try.prog 50 #[.agg #[.int .i64 n, .slice oe es.length c, .slice oa ar.length ca], .int .i64 q, .slice ot rot.length ct] w fun e w' => ∃ rv, e = .returned rv ∧ OwnS intR 1 w.heap.size 3 Non w' rv (edL ar q rot rot.length) ∧ Below w.heap.size w w' := by
  have HOK := hide hok
  have hrl12 : rot.length ≤ 12 := by rw [hok.nrot]; exact hok.n12
  have hra := hide hok.nrot
  clear hok
  go_enter Try.func50, Try.ntmps50
  go_wp2_with fail
  go_loopw [8, 7] (fun iv ov wr => ∃ k : Nat, k ≤ rot.length ∧ iv = .int .i64 k ∧ OwnS intR 1 (w.heap.size + 1) 3 Non wr ov (edL ar q rot k) ∧ Below (w.heap.size + 1) (w.alloc (.cells #[.int .i64 n, .slice oe es.length c, .slice oa ar.length ca] 27)) wr) (fun iv _ _ => rot.length - (intOf iv).toNat)
  case atStart => exact ⟨0, by omega, rfl, OwnS.nil _ _ _ _ _ _, box_refl _ _⟩
  case round =>
    obtain ⟨k, hk, rfl, hown, hbW⟩ := hrel
    by_cases hlt : k < rot.length
    · have hkar : k < ar.length := by rw [← hra.out]; exact hlt
      by_cases hkq : k = q
      · have HE : Hid (edL ar q rot (k + 1) = edL ar q rot k) := by show _ = _; rw [hkq]; exact edL_skip
        have q1 : ((k : Int) != (q : Int)) = false := by simp [hkq]
        have HKQ := hide hkq
        clear hkq
        go_wp2_with fail
        go_roundw
        case rel => exact ⟨k + 1, by omega, by go_num, by rw [HE.out]; exact hown, hbW⟩
        case measure => simp [intOf]; omega
      · obtain ⟨l, K, g, hl, hK, hKl, hll, hg, hgE⟩ := HOK.out.at hkar hkq
        obtain ⟨x, _, hx, b, off, ol, cl, hoa, hbB, c0, hxl, _, hsl⟩ := (ha.below (slcR_ok intR_ok (by decide)) (below_box hbW)).slc_at hkar
        rw [hl] at hx
        injection hx with hx
        subst hx
        subst hoa
        obtain ⟨y, _, hy, iy, b2, off2, hol, hb2, e0⟩ := hsl.int_at hKl
        rw [hg] at hy
        injection hy with hy
        subst hy
        subst hol
        obtain ⟨z, _, hz, iz, b3, off3, hot, hb3, r0⟩ := (hr.below intR_ok (below_box hbW)).int_at hlt
        rw [hK] at hz
        injection hz with hz
        subst hz
        subst hot
        obtain ⟨g2, hg2⟩ : ∃ g2, g2 = g / 2 := ⟨_, rfl⟩
        have HE : Hid (edL ar q rot (k + 1) = edL ar q rot k ++ [(g2 : Int)]) := by show _ = _; rw [hg2]; exact edL_step hl hK hg hkq
        have hq1 : ((g : Int)).tdiv 2 = (g2 : Int) := by rw [Int.tdiv_eq_ediv_of_nonneg (by omega)]; omega
        have hg3 : g2 ≤ 100000 := by have := HOK.out.cap; omega
        have q1 : ((k : Int) != (q : Int)) = true := by simp; omega
        have hel := edL_len ar q rot k
        have hI : I64 (g2 : Int) := ⟨by omega, by omega⟩
        have d2 := box_cell hbW 2
        simp at d2
        have hsz := box_lt hbW
        have hbl := World.block_lt_of_cell? _ _ c0
        have hbl2 := World.block_lt_of_cell? _ _ e0
        have hbl3 := World.block_lt_of_cell? _ _ r0
        simp only at hbl hbl2 hbl3
        replace hkq := hide hkq
        replace hg2 := hide hg2
        clear hl hK hg
        obtain ⟨T, hT⟩ : ∃ T, T = edL ar q rot k := ⟨_, rfl⟩
        rw [← hT] at hown HE hel
        clear hT
        go_wp2_with fail
        have hwr : IntKind.i64.wrap (g2 : Int) = (g2 : Int) := IntWalk.i64_in _ (by omega)
        go_region_law (refine step_append_rep rfl (.tmp 18) (.tmp 31) 28 rfl (w.heap.size + 1) 3 _ 1 8 Try.underlying28 iInfo rfl (by decide) intR_ok Non All u7 T (by simp [Act.eval, Act.put]) ((hown.draw intR_ok).new intR_ok _) (some ⟨wr.heap.size, 0, none⟩) 1 [(g2 : Int)] (by simp [Act.eval, Act.put]) (one_lit wr.drew 3 hI) (fun _ _ h => h) (fun _ h => h.elim) (by simp; omega) (by simp; omega) (by simp; omega) ?_; intro v' w3 ho hb1 hg)
        all_goals
          clear hwr
          go_wp2_with fail
          go_roundw
          case rel => exact ⟨k + 1, by omega, by go_num, by rw [HE.out]; exact ho, (box_new hbW.drew (by simp) _).trans hb1⟩
          case measure => simp [intOf]; omega
    · have hke : k = rot.length := by omega
      rw [hke] at hown
      clear hke
      go_wp2_with fail
      go_ret
      exact ⟨_, rfl, hown.rebase (by omega), below_box hbW⟩

theorem firstAt_is {v : Nat → Nat} {q M i : Nat} (h : firstAt v q M = some i) : i < M ∧ v i = q ∧ ∀ j, j < i → v j ≠ q := by
  unfold firstAt at h
  rw [List.find?_eq_some_iff_getElem] at h
  obtain ⟨h1, k, hk, h2, h3⟩ := h
  simp at h2
  subst h2
  refine ⟨by simpa using hk, by simpa using h1, fun j hj => ?_⟩
  have := h3 j hj
  simpa using this
theorem firstAt_no {v : Nat → Nat} {q M : Nat} (h : firstAt v q M = none) : ∀ j, j < M → v j ≠ q := by
  unfold firstAt at h
  rw [List.find?_eq_none] at h
  intro j hj
  have := h j (by simpa using hj)
  simpa using this
theorem itV_add (ar : List (List Int)) (E : List (Int × Int)) (rot : List Int) (v a : Nat) : ∀ t, itV ar E rot v (a + t) = itV ar E rot (itV ar E rot v a) t
  | 0 => rfl
  | t + 1 => by
    show stV ar E rot (itV ar E rot v (a + t)) = stV ar E rot (itV ar E rot (itV ar E rot v a) t)
    rw [itV_add ar E rot v a t]
/-- Who comes to the sink comes in fewer steps than there are vertices. -/
theorem lead_law {n : Int} {es : List Edg} {ar : List (List Int)} {q : Nat} {rot : List Int} (h : RtOk n es ar q rot) {v : Nat} (hv : v < ar.length) :
    (firstAt (itV ar (endsL es) rot v) q ar.length).isSome = (firstAt (itV ar (endsL es) rot v) q (ar.length + 1)).isSome := by
  cases h1 : firstAt (itV ar (endsL es) rot v) q (ar.length + 1) with
  | none =>
    have h2 := firstAt_no h1
    rw [firstAt_none fun j hj => h2 j (by omega)]
  | some i =>
    obtain ⟨h2, h3, h4⟩ := firstAt_is h1
    by_cases hi : i < ar.length
    · rw [firstAt_some hi h3 h4]
    · exfalso
      have hie : i = ar.length := by omega
      subst hie
      have hn : ((List.range (ar.length + 1)).map (itV ar (endsL es) rot v)).Nodup := by
        unfold List.Nodup
        rw [List.pairwise_map]
        refine (List.pairwise_lt_range (n := ar.length + 1)).imp_of_mem fun {a b} ha hb hab heq => ?_
        have hb2 : b < ar.length + 1 := by simpa using hb
        have e1 := itV_add ar (endsL es) rot v a (ar.length - b)
        have e2 := itV_add ar (endsL es) rot v b (ar.length - b)
        rw [show b + (ar.length - b) = ar.length by omega, ← heq, ← e1, h3] at e2
        exact h4 (a + (ar.length - b)) (by omega) e2.symm
      have := nodup_len hn fun x hx => by
        obtain ⟨j, hj, rfl⟩ := List.mem_map.1 hx
        exact h.roam hv j fun k hk => h4 k (by simp at hj; omega)
      simp at this
      omega
theorem tg_look {n : Int} {es : List Edg} {ar : List (List Int)} {q : Nat} {rot : List Int} (h : RtOk n es ar q rot) {v : Nat} (hv' : v < ar.length) (hvq : v ≠ q) :
    ∃ (m : List Int) (k : Nat), (tgL ar (endsL es))[v]? = some m ∧ rot[v]? = some (k : Int) ∧ k < m.length ∧ m[k]? = some ((stV ar (endsL es) rot v : Nat) : Int) := by
  obtain ⟨l, k, g, h1, h2, h3, h4, h5, h6, _, h8⟩ := h.look hv' hvq
  refine ⟨_, k, tgL_get h1, h2, by simpa using h3, ?_⟩
  rw [List.getElem?_map, h5]
  rw [toL_get _ g h8] at h6
  injection h6 with h6
  simp [h6]

/-- What Leads gives. -/
def ldB (ar : List (List Int)) (E : List (Int × Int)) (q : Nat) (rot : List Int) (m k : Nat) : Bool := (List.range k).all fun v => (firstAt (itV ar E rot v) q (m + 1)).isSome
theorem ldB_acyB {n : Int} {es : List Edg} {ar : List (List Int)} {q : Nat} {rot : List Int} (h : RtOk n es ar q rot) : ldB ar (endsL es) q rot rot.length rot.length = acyB ar (endsL es) q rot rot.length rot.length := by
  unfold ldB acyB
  rw [Bool.eq_iff_iff, List.all_eq_true, List.all_eq_true, h.nrot]
  exact ⟨fun k v hv => by rw [lead_law h (by simpa using hv)]; exact k v hv, fun k v hv => by rw [← lead_law h (by simpa using hv)]; exact k v hv⟩
theorem ldB_succ (ar : List (List Int)) (E : List (Int × Int)) (q : Nat) (rot : List Int) (m k : Nat) : ldB ar E q rot m (k + 1) = (ldB ar E q rot m k && (firstAt (itV ar E rot k) q (m + 1)).isSome) := by
  unfold ldB
  rw [List.range_succ, List.all_append]
  simp

set_option maxRecDepth 100000 in
set_option maxHeartbeats 4000000 in
theorem refLeads_any (n : Int) (es : List Edg) (oe : Option Addr) (c : Nat) (ar : List (List Int)) (oa : Option Addr) (ca : Nat) (F G : Foot) (w : World) (hs : SliceR edgR 3 F w oe es) (hc : es.length ≤ c) (hc2 : es.length ≤ 1000)
    (ha : SliceR (slcR intR 1) 1 G w oa ar) (hac : ar.length ≤ ca) (hac2 : ar.length ≤ 9223372036854775807) (hm : Hid (∀ x ∈ es, x.m ≤ 50)) (q : Nat) (rot : List Int) (ot : Option Addr) (ct : Nat) (H : Foot) (hr : SliceR intR 1 H w ot rot) (hrc : rot.length ≤ ct) (hok : RtOk n es ar q rot) :
    Calls Try.prog 52 #[.agg #[.int .i64 n, .slice oe es.length c, .slice oa ar.length ca], .int .i64 q, .slice ot rot.length ct] w fun e w' => e = .returned (.bool (ldB ar (endsL es) q rot rot.length rot.length)) ∧ Below w.heap.size w w' := by
  have HOK := hide hok
  have hrl12 : rot.length ≤ 12 := by rw [hok.nrot]; exact hok.n12
  have hra := hide hok.nrot
  have hb0 := bnew (Below.refl w.heap.size w) (.cells #[.int .i64 n, .slice oe es.length c, .slice oa ar.length ca] 27)
  have HT := hide (targets_any n es oe c ar oa ca F G _ (hs.below edgR_ok hb0) hc hc2 (ha.below (slcR_ok intR_ok (by decide)) hb0) hac hac2 hm q rot hok)
  clear hok hb0
  go_enter Try.func52, Try.ntmps52
  go_wp2_with fail
  refine HT.out.mono ?_
  rintro e w4 ⟨tg, tc, rfl, htc, hT, hb4⟩
  have HB4 := hide (below_box (hb4.mono (B' := w.heap.size + 1) (by simp)))
  have HTL := hide (hT.loc (slcR_ok intR_ok (by decide)) (by decide))
  have HR4 := hide ((hr.below intR_ok HB4.out).loc intR_ok (by decide))
  clear hb4 hT
  go_wp2_with fail
  go_loopw [8] (fun iv wr => ∃ k : Nat, k ≤ rot.length ∧ iv = .int .i64 k ∧ Hid (ldB ar (endsL es) q rot rot.length k = true) ∧ Below w4.heap.size w4 wr) (fun iv _ => rot.length - (intOf iv).toNat)
  case atStart => exact ⟨0, by omega, rfl, rfl, Below.refl _ _⟩
  case round =>
    obtain ⟨k, hk, rfl, HA, hbW⟩ := hrel
    by_cases hlt : k < rot.length
    · have hkar : k < ar.length := by rw [← hra.out]; exact hlt
      go_wp2_with fail
      obtain ⟨wo, hwo⟩ : ∃ wo : World, wo = wr := ⟨_, rfl⟩
      subst hwo
      go_loopw [10, 9] (fun jv uv wi => ∃ j : Nat, j ≤ rot.length ∧ jv = .int .i64 j ∧ uv = .int .i64 (itV ar (endsL es) rot k j : Nat) ∧ Hid (∀ i, i < j → itV ar (endsL es) rot k i ≠ q) ∧ Below w4.heap.size w4 wi) (fun jv _ _ => rot.length - (intOf jv).toNat)
      case atStart => exact ⟨0, by omega, rfl, rfl, fun i hi => absurd hi (by omega), hbW⟩
      case round =>
        clear hbW
        obtain ⟨j, hj, rfl, rfl, HNO, hbW⟩ := hrel
        have hvr := HOK.out.roam hkar j HNO.out
        obtain ⟨U, hU⟩ : ∃ U, U = itV ar (endsL es) rot k j := ⟨_, rfl⟩
        rw [← hU] at hvr ⊢
        have HU := hide hU
        clear hU
        by_cases hjl : j < rot.length
        · by_cases hUq : U = q
          · have q1 : ((U : Int) != (q : Int)) = false := by simp [hUq]
            have HL : Hid (ldB ar (endsL es) q rot rot.length (k + 1) = true) := by
              show _ = _
              rw [ldB_succ, HA.out, firstAt_some (i := j) (by omega) (by rw [← HU.out]; exact hUq) HNO.out]
              rfl
            have HUQ := hide hUq
            clear hUq
            go_wp2_with fail
            go_roundw
            case rel => exact ⟨k + 1, by omega, by go_num, HL, hbW⟩
            case measure => simp [intOf]; omega
          · have q1 : ((U : Int) != (q : Int)) = true := by simp; omega
            obtain ⟨m, K, ht, hK, hKm, hmK⟩ := tg_look HOK.out hvr hUq
            have hT2 := HTL.out.keep (slcR_ok intR_ok (by decide)) (SameOn.of_lt hbW)
            have hr2 := HR4.out.keep intR_ok (SameOn.of_lt hbW)
            have hUt : U < (tgL ar (endsL es)).length := by rw [tgL_len]; exact hvr
            obtain ⟨m', _, hm', b, off, ol, cl, htg, hbB, t0, hml, _, hsm⟩ := hT2.slc_at hUt
            rw [ht] at hm'
            injection hm' with hm'
            subst hm'
            subst htg
            obtain ⟨y, _, hy, iy, b2, off2, hol, hb2, t1⟩ := hsm.int_at hKm
            rw [hmK] at hy
            injection hy with hy
            subst hy
            subst hol
            have hUr : U < rot.length := by rw [hra.out]; exact hvr
            obtain ⟨z, _, hz, iz, b3, off3, hot, hb3, r0⟩ := hr2.int_at hUr
            rw [hK] at hz
            injection hz with hz
            subst hz
            subst hot
            have HNO2 : Hid (∀ i, i < j + 1 → itV ar (endsL es) rot k i ≠ q) := fun i hi => by
              by_cases hij : i = j
              · rw [hij, ← HU.out]; exact hUq
              · exact HNO.out i (by omega)
            have HST : Hid (stV ar (endsL es) rot U = itV ar (endsL es) rot k (j + 1)) := by show _ = _; rw [HU.out]; rfl
            have HBW := hide hbW
            replace hUq := hide hUq
            clear ht hK hmK hT2 hr2 hsm hbW
            go_wp2_with fail
            go_quiet (fail)
            rw [HST.out]
            go_wp2_with fail
            go_roundw
            case rel => exact ⟨j + 1, by omega, by go_num, rfl, HNO2, below_drewN HBW.out _⟩
            case measure => simp [intOf]; omega
        · have hje : j = rot.length := by omega
          by_cases hUq : U = q
          · have q1 : ((U : Int) != (q : Int)) = false := by simp [hUq]
            have HL : Hid (ldB ar (endsL es) q rot rot.length (k + 1) = true) := by
              show _ = _
              rw [ldB_succ, HA.out, firstAt_some (i := j) (by omega) (by rw [← HU.out]; exact hUq) HNO.out]
              rfl
            have HUQ := hide hUq
            clear hUq hje
            go_wp2_with fail
            go_roundw
            case rel => exact ⟨k + 1, by omega, by go_num, HL, hbW⟩
            case measure => simp [intOf]; omega
          · have q1 : ((U : Int) != (q : Int)) = true := by simp; omega
            have HL : Hid (ldB ar (endsL es) q rot rot.length rot.length = false) := by
              show _ = _
              unfold ldB
              rw [List.all_eq_false]
              refine ⟨k, by simpa using hlt, ?_⟩
              rw [firstAt_none fun i hi => ?_]
              · simp
              · by_cases hij : i = j
                · rw [hij, ← HU.out]; exact hUq
                · exact HNO.out i (by omega)
            have HUQ := hide hUq
            clear hUq hje
            go_wp2_with fail
            go_ret
            exact ⟨ret_bool HL.out.symm, HB4.out.trans (hbW.mono HB4.out.size)⟩
    · have hke : k = rot.length := by omega
      have HL : Hid (ldB ar (endsL es) q rot rot.length rot.length = true) := by have := HA.out; rw [hke] at this; exact this
      clear hke
      go_wp2_with fail
      go_ret
      exact ⟨ret_bool HL.out.symm, HB4.out.trans (hbW.mono HB4.out.size)⟩

section
variable (n : Int) (es : List Edg) (oe : Option Addr) (c : Nat) (ar : List (List Int)) (oa : Option Addr) (ca : Nat) (F G : Foot) (w : World) (hs : SliceR edgR 3 F w oe es) (hc : es.length ≤ c) (hc2 : es.length ≤ 1000)
    (ha : SliceR (slcR intR 1) 1 G w oa ar) (hac : ar.length ≤ ca) (hac2 : ar.length ≤ 9223372036854775807) (f : List Nat) (hU : Hid (gErr n es = 0 → Uf f (eL es)))
    (q : Int) (rot : List Int) (ot : Option Addr) (ct : Nat) (H : Foot) (hr : SliceR intR 1 H w ot rot) (hrc : rot.length ≤ ct) (hrl : rot.length ≤ 9223372036854775807)
include hs hc hc2 ha hac hac2 hU hr hrc hrl

set_option maxRecDepth 100000 in
set_option maxHeartbeats 2000000 in
theorem refEdges_any : Calls Try.prog 23 #[.agg #[.int .i64 n, .slice oe es.length c, .slice oa ar.length ca], .int .i64 q, .slice ot rot.length ct] w (ListErr w (edR n es f ar q rot) (rtE n es f ar q rot)) := by
  go_enter Try.func23, Try.ntmps23
  go_wp2_with fail
  have hb0 := box_refl w (.cells #[.int .i64 n, .slice oe es.length c, .slice oa ar.length ca] 27)
  refine (r45check_any n es oe c ar oa ca F G _ (hs.below edgR_ok (below_box hb0)) hc hc2 (ha.below (slcR_ok intR_ok (by decide)) (below_box hb0)) hac hac2 f hU q rot ot ct H (hr.below intR_ok (below_box hb0)) hrc hrl).mono ?_
  rintro e w2 ⟨rfl, hb2⟩
  have hx2 := hb2.mono (B' := w.heap.size + 1) (by simp)
  have d0 := box_cell hx2 0
  have d1 := box_cell hx2 1
  have d2 := box_cell hx2 2
  simp at d0 d1 d2
  have HX := hide (below_box hx2)
  clear hb2 hb0 hx2
  by_cases hR : rtE n es f ar q rot = 0
  · obtain ⟨q', rfl, hok⟩ := RtOk.of hR hc2
    have HR : Hid (edR n es f ar q' rot = edL ar q' rot rot.length) := if_pos hR
    have HK := hide (refSingles_any n es oe c ar oa ca F G w2 (ha.below (slcR_ok intR_ok (by decide)) HX.out) hac hac2 q' rot ot ct H (hr.below intR_ok HX.out) hrc hok)
    rw [hR]
    have HRZ := hide hR
    clear hR hok
    go_wp2_with fail
    refine HK.out.mono ?_
    rintro e w3 ⟨rv, rfl, ho, hb3⟩
    have HO := hide (ho.rebase HX.out.size)
    have HB := hide (HX.out.trans (hb3.mono HX.out.size))
    clear ho hb3
    go_wp2_with fail
    go_ret2
    exact ⟨_, by rw [HRZ.out]; rfl, by rw [HR.out]; exact HO.out, HB.out⟩
  · have HR : Hid (edR n es f ar q rot = []) := if_neg hR
    have hq : (rtE n es f ar q rot != 0) = true := by simpa using hR
    replace hR := hide hR
    go_wp2_with fail
    go_ret2
    exact ⟨_, rfl, by rw [HR.out]; exact OwnS.nil _ _ _ _ _ _, HX.out⟩

set_option maxRecDepth 100000 in
set_option maxHeartbeats 2000000 in
theorem refAcyclic_any : Calls Try.prog 25 #[.agg #[.int .i64 n, .slice oe es.length c, .slice oa ar.length ca], .int .i64 q, .slice ot rot.length ct] w (BoolErr w (acycRes n es f ar q rot).1 (acycRes n es f ar q rot).2) := by
  go_enter Try.func25, Try.ntmps25
  go_wp2_with fail
  have hb0 := box_refl w (.cells #[.int .i64 n, .slice oe es.length c, .slice oa ar.length ca] 27)
  refine (r45check_any n es oe c ar oa ca F G _ (hs.below edgR_ok (below_box hb0)) hc hc2 (ha.below (slcR_ok intR_ok (by decide)) (below_box hb0)) hac hac2 f hU q rot ot ct H (hr.below intR_ok (below_box hb0)) hrc hrl).mono ?_
  rintro e w2 ⟨rfl, hb2⟩
  have hx2 := hb2.mono (B' := w.heap.size + 1) (by simp)
  have d0 := box_cell hx2 0
  have d1 := box_cell hx2 1
  have d2 := box_cell hx2 2
  simp at d0 d1 d2
  have HX := hide (below_box hx2)
  clear hb2 hb0 hx2
  by_cases hR : rtE n es f ar q rot = 0
  · have HMU := hide (rt_mult hR)
    obtain ⟨q', rfl, hok⟩ := RtOk.of hR hc2
    have HR : Hid (acycRes n es f ar q' rot = (ldB ar (endsL es) q' rot rot.length rot.length, 0)) := by
      show _ = _
      rw [ldB_acyB hok]
      exact if_pos hR
    have HK := hide (refLeads_any n es oe c ar oa ca F G w2 (hs.below edgR_ok HX.out) hc hc2 (ha.below (slcR_ok intR_ok (by decide)) HX.out) hac hac2 HMU q' rot ot ct H (hr.below intR_ok HX.out) hrc hok)
    rw [hR]
    clear hR hok
    go_wp2_with fail
    refine HK.out.mono ?_
    rintro e w3 ⟨rfl, hb3⟩
    have HB := hide (HX.out.trans (hb3.mono HX.out.size))
    clear hb3
    go_wp2_with fail
    go_ret2
    exact ⟨by rw [HR.out]; rfl, HB.out⟩
  · have HR : Hid (acycRes n es f ar q rot = (false, rtE n es f ar q rot)) := if_neg hR
    have hq : (rtE n es f ar q rot != 0) = true := by simpa using hR
    replace hR := hide hR
    go_wp2_with fail
    go_ret2
    exact ⟨by rw [HR.out]; rfl, HX.out⟩
end

end Go.Proofs.Ytopldbnlehjlpaa

set_option linter.unusedVariables false
set_option linter.unusedSimpArgs false
set_option linter.unnecessarySimpa false
namespace Go.Proofs.Ytopldbnlehjlpaa
open Go.RowKit

set_option maxRecDepth 100000 in
set_option maxHeartbeats 8000000 in
theorem routes_walk (n : Int) (es : List Edg) (oe : Option Addr) (c : Nat) (ar : List (List Int)) (oa : Option Addr) (ca : Nat) (q : Int) (rot : List Int) (ot : Option Addr) (ct : Nat) (v : Int) (w : World)
    (hs : SliceR edgR 3 All w oe es) (hc : es.length ≤ c) (hc2 : es.length ≤ 9223372036854775807) (ha : SliceR (slcR intR 1) 1 All w oa ar) (hac : ar.length ≤ ca) (hac2 : ar.length ≤ 9223372036854775807) (hr : SliceR intR 1 All w ot rot) (hrc : rot.length ≤ ct) (hrl : rot.length ≤ 9223372036854775807) :
    Calls Try.prog 4 #[.agg #[.int .i64 n, .slice oe es.length c, .slice oa ar.length ca], .agg #[.int .i64 q, .slice ot rot.length ct, .int .i64 v]] w fun e w' => e = .returned (.bool true) ∧ Below w.heap.size w w' := by
  have hU : Hid (gErr n es = 0 → Uf (forest es) (eL es)) := forest_ok n es
  have C0 := LawCtx.new (n := n) (c := c) (ca := ca) (q := q) (ct := ct) (v := v) hs ha hr
  obtain ⟨W1, hW1⟩ : ∃ W1, (w.alloc (.cells #[.int .i64 n, .slice oe es.length c, .slice oa ar.length ca] 27)).alloc (.cells #[.int .i64 q, .slice ot rot.length ct, .int .i64 v] 30) = W1 := ⟨_, rfl⟩
  rw [hW1] at C0
  have HC := hide C0
  have d0 := HC.out.b1.cell 0
  have d1 := HC.out.b1.cell 1
  have d2 := HC.out.b1.cell 2
  have p0 := HC.out.b2.cell 0
  have p1 := HC.out.b2.cell 1
  have p2 := HC.out.b2.cell 2
  simp only [List.getElem?_cons_zero, List.getElem?_cons_succ] at d0 d1 d2 p0 p1 p2
  clear hs ha hr C0
  go_enter Try.func4, Try.ntmps4
  go_wp2_with fail
  refine (few45_any n es oe c ar oa ca All All _ HC.out.hes hc hc2 HC.out.har hac hac2 rot ot ct).mono ?_
  rintro e W2 ⟨rfl, hb⟩
  replace HC := hide (HC.out.below hb)
  clear hb d0 d1 d2 p0 p1 p2 hW1
  by_cases hF : few45 n es ar rot = true
  · obtain ⟨hc3, _, _⟩ := few45_yes hF
    rw [hF]
    clear hF
    have d0 := HC.out.b1.cell 0
    have d1 := HC.out.b1.cell 1
    have d2 := HC.out.b1.cell 2
    have p0 := HC.out.b2.cell 0
    have p1 := HC.out.b2.cell 1
    have p2 := HC.out.b2.cell 2
    simp only [List.getElem?_cons_zero, List.getElem?_cons_succ] at d0 d1 d2 p0 p1 p2
    go_wp2_with fail
    clear d0 d1 d2 p0 p1 p2
    refine (rotRoute_any n es oe c ar oa ca All All _ HC.out.hes hc (by omega) HC.out.har hac hac2 (forest es) hU q rot ot ct All HC.out.hrt hrc hrl v).mono ?_
    rintro e W3 ⟨rv, rfl, ho, hb⟩
    have hl3 := hide (OwnS.small ho)
    obtain ⟨oa3, c3, rfl, hc3', hs3⟩ := OwnS.given ho
    replace HC := hide (HC.out.below hb)
    have s3 := hide hs3
    clear ho hb hs3
    have d0 := HC.out.b1.cell 0
    have d1 := HC.out.b1.cell 1
    have d2 := HC.out.b1.cell 2
    have p0 := HC.out.b2.cell 0
    have p1 := HC.out.b2.cell 1
    have p2 := HC.out.b2.cell 2
    simp only [List.getElem?_cons_zero, List.getElem?_cons_succ] at d0 d1 d2 p0 p1 p2
    go_wp2_with fail
    clear d0 d1 d2 p0 p1 p2
    refine (refRoute_any n es oe c ar oa ca All All _ HC.out.hes hc (by omega) HC.out.har hac hac2 (forest es) hU q rot ot ct All HC.out.hrt hrc hrl v).mono ?_
    rintro e W4 ⟨rv, rfl, ho, hb⟩
    have hl4 := hide (OwnS.small ho)
    obtain ⟨oa4, c4, rfl, hc4', hs4⟩ := OwnS.given ho
    replace HC := hide (HC.out.below hb)
    replace s3 := hide (s3.out.below intR_ok hb)
    have s4 := hide hs4
    clear ho hb hs4
    have d0 := HC.out.b1.cell 0
    have d1 := HC.out.b1.cell 1
    have d2 := HC.out.b1.cell 2
    have p0 := HC.out.b2.cell 0
    have p1 := HC.out.b2.cell 1
    have p2 := HC.out.b2.cell 2
    simp only [List.getElem?_cons_zero, List.getElem?_cons_succ] at d0 d1 d2 p0 p1 p2
    go_wp2_with fail
    clear d0 d1 d2 p0 p1 p2
    refine (rotEdges_any n es oe c ar oa ca All All _ HC.out.hes hc (by omega) HC.out.har hac hac2 (forest es) hU q rot ot ct All HC.out.hrt hrc hrl).mono ?_
    rintro e W5 ⟨rv, rfl, ho, hb⟩
    have hl5 := hide (OwnS.small ho)
    obtain ⟨oa5, c5, rfl, hc5', hs5⟩ := OwnS.given ho
    replace HC := hide (HC.out.below hb)
    replace s3 := hide (s3.out.below intR_ok hb)
    replace s4 := hide (s4.out.below intR_ok hb)
    have s5 := hide hs5
    clear ho hb hs5
    have d0 := HC.out.b1.cell 0
    have d1 := HC.out.b1.cell 1
    have d2 := HC.out.b1.cell 2
    have p0 := HC.out.b2.cell 0
    have p1 := HC.out.b2.cell 1
    have p2 := HC.out.b2.cell 2
    simp only [List.getElem?_cons_zero, List.getElem?_cons_succ] at d0 d1 d2 p0 p1 p2
    go_wp2_with fail
    clear d0 d1 d2 p0 p1 p2
    refine (refEdges_any n es oe c ar oa ca All All _ HC.out.hes hc (by omega) HC.out.har hac hac2 (forest es) hU q rot ot ct All HC.out.hrt hrc hrl).mono ?_
    rintro e W6 ⟨rv, rfl, ho, hb⟩
    have hl6 := hide (OwnS.small ho)
    obtain ⟨oa6, c6, rfl, hc6', hs6⟩ := OwnS.given ho
    replace HC := hide (HC.out.below hb)
    replace s3 := hide (s3.out.below intR_ok hb)
    replace s4 := hide (s4.out.below intR_ok hb)
    replace s5 := hide (s5.out.below intR_ok hb)
    have s6 := hide hs6
    clear ho hb hs6
    have d0 := HC.out.b1.cell 0
    have d1 := HC.out.b1.cell 1
    have d2 := HC.out.b1.cell 2
    have p0 := HC.out.b2.cell 0
    have p1 := HC.out.b2.cell 1
    have p2 := HC.out.b2.cell 2
    simp only [List.getElem?_cons_zero, List.getElem?_cons_succ] at d0 d1 d2 p0 p1 p2
    go_wp2_with fail
    clear d0 d1 d2 p0 p1 p2
    refine (equalInt_any _ _ oa3 oa4 c3 c4 All _ s3.out s4.out hc3' hl3.out).mono ?_
    rintro e W7 ⟨rfl, hb⟩
    replace HC := hide (HC.out.below hb)
    replace s5 := hide (s5.out.below intR_ok hb)
    replace s6 := hide (s6.out.below intR_ok hb)
    clear hb
    simp only [decide_true]
    have d0 := HC.out.b1.cell 0
    have d1 := HC.out.b1.cell 1
    have d2 := HC.out.b1.cell 2
    have p0 := HC.out.b2.cell 0
    have p1 := HC.out.b2.cell 1
    have p2 := HC.out.b2.cell 2
    simp only [List.getElem?_cons_zero, List.getElem?_cons_succ] at d0 d1 d2 p0 p1 p2
    go_wp2_with fail
    clear d0 d1 d2 p0 p1 p2
    refine (equalInt_any _ _ oa5 oa6 c5 c6 All _ s5.out s6.out hc5' hl5.out).mono ?_
    rintro e W8 ⟨rfl, hb⟩
    replace HC := hide (HC.out.below hb)
    clear hb
    simp only [decide_true]
    have d0 := HC.out.b1.cell 0
    have d1 := HC.out.b1.cell 1
    have d2 := HC.out.b1.cell 2
    have p0 := HC.out.b2.cell 0
    have p1 := HC.out.b2.cell 1
    have p2 := HC.out.b2.cell 2
    simp only [List.getElem?_cons_zero, List.getElem?_cons_succ] at d0 d1 d2 p0 p1 p2
    go_wp2_with fail
    clear d0 d1 d2 p0 p1 p2
    refine (rotAcyclic_any n es oe c ar oa ca All All _ HC.out.hes hc (by omega) HC.out.har hac hac2 (forest es) hU q rot ot ct All HC.out.hrt hrc hrl).mono ?_
    rintro e W9 ⟨rfl, hb⟩
    replace HC := hide (HC.out.below hb)
    clear hb
    have d0 := HC.out.b1.cell 0
    have d1 := HC.out.b1.cell 1
    have d2 := HC.out.b1.cell 2
    have p0 := HC.out.b2.cell 0
    have p1 := HC.out.b2.cell 1
    have p2 := HC.out.b2.cell 2
    simp only [List.getElem?_cons_zero, List.getElem?_cons_succ] at d0 d1 d2 p0 p1 p2
    go_wp2_with fail
    clear d0 d1 d2 p0 p1 p2
    refine (refAcyclic_any n es oe c ar oa ca All All _ HC.out.hes hc (by omega) HC.out.har hac hac2 (forest es) hU q rot ot ct All HC.out.hrt hrc hrl).mono ?_
    rintro e W10 ⟨rfl, hb⟩
    replace HC := hide (HC.out.below hb)
    clear hb
    have d0 := HC.out.b1.cell 0
    have d1 := HC.out.b1.cell 1
    have d2 := HC.out.b1.cell 2
    have p0 := HC.out.b2.cell 0
    have p1 := HC.out.b2.cell 1
    have p2 := HC.out.b2.cell 2
    simp only [List.getElem?_cons_zero, List.getElem?_cons_succ] at d0 d1 d2 p0 p1 p2
    go_wp2_with fail
    clear d0 d1 d2 p0 p1 p2
    refine (awake45_any _).mono ?_
    rintro e W11 ⟨rfl, hb⟩
    replace HC := hide (HC.out.below hb)
    clear hb
    go_wp2_with fail
    go_ret
    exact ⟨rfl, HC.out.low⟩
  · have hF2 : few45 n es ar rot = false := by simpa using hF
    rw [hF2]
    clear hF hF2
    have d0 := HC.out.b1.cell 0
    have d1 := HC.out.b1.cell 1
    have d2 := HC.out.b1.cell 2
    have p0 := HC.out.b2.cell 0
    have p1 := HC.out.b2.cell 1
    have p2 := HC.out.b2.cell 2
    simp only [List.getElem?_cons_zero, List.getElem?_cons_succ] at d0 d1 d2 p0 p1 p2
    go_wp2_with fail
    refine (awake45_any _).mono ?_
    rintro e W3 ⟨rfl, hb⟩
    replace HC := hide (HC.out.below hb)
    clear hb d0 d1 d2 p0 p1 p2
    go_wp2_with fail
    go_ret
    exact ⟨rfl, HC.out.low⟩

theorem routes_claim (w : World) (n : Int) (es : List Edg) (oe : Option Addr) (c : Nat) (ar : List (List Int)) (oa : Option Addr) (ca : Nat) (hc : es.length ≤ c) (hc2 : es.length ≤ 9223372036854775807) (hs : SliceR edgR 3 All w oe es) (hac : ar.length ≤ ca) (hac2 : ar.length ≤ 9223372036854775807) (ha : SliceR (slcR intR 1) 1 All w oa ar)
    (q : Int) (rot : List Int) (ot : Option Addr) (ct : Nat) (v : Int) (hrc : rot.length ≤ ct) (hrl : rot.length ≤ 9223372036854775807) (hr : SliceR intR 1 All w ot rot) :
    Calls Try.prog 4 #[.agg #[.int .i64 n, .slice oe es.length c, .slice oa ar.length ca], .agg #[.int .i64 q, .slice ot rot.length ct, .int .i64 v]] w fun e w' => e = .returned (.bool true) ∧ Below w.heap.size w w' :=
  routes_walk n es oe c ar oa ca q rot ot ct v w hs hc hc2 ha hac hac2 hr hrc hrl

end Go.Proofs.Ytopldbnlehjlpaa

set_option linter.unusedVariables false
namespace Go.Proofs.Ytopldbnlehjlpaa
open Go.RowKit Go.ChangeShapes Go.WideShapes Go.ChangeAt Go.Deep

set_option maxRecDepth 100000 in
theorem rotorRoutes_lifted (os : Os) (started : os.Started) (H : Type) (enc : TypeId × Value → H) :
    ReturnsInHanded {} Try.checked os 4 .any (Rows.rotorRoutesSpec.pre6 enc Try.prog Try.f4 Rows.rotorRoutesRow.domain false) (Rows.rotorRoutesSpec.post enc Try.prog Try.f4 false true false false) := by
  refine returnsInHanded_of_change (C := Try.checked) own_knob started (by kernel_rfl) Try.func4
    (ChangeSpec.witness6 (enc := enc) (C := Try.checked) false ⟨#[], #[.agg #[.int .i64 0, .slice none 0 0, .slice none 0 0], .agg #[.int .i64 0, .slice none 0 0, .int .i64 0]], []⟩ 8 (by kernel_rfl) (by kernel_rfl) (by kernel_rfl) (by kernel_rfl)) ?_
  intro W base args ds gs before hval0 hW _ _
  have hval : ∀ (j : Nat) t v, Try.f4.params[j]? = some t → args[j]? = some v → Value.okWide Try.prog W .any base t v := hval0
  have hW' := hW
  obtain ⟨p, q, hA0, hV, rfl, _, _⟩ := hW
  have hA : DataW.TrodAll enc Try.prog W 0 (fun _ => true) true Try.f4.params.toList args.toList ds p := hA0
  rw [Try.params4] at hA hval
  obtain ⟨v0, v1, d0, d1, p0, p1, rfl, rfl, rfl, h0, h1⟩ := trodAll_two hA
  obtain ⟨rfl, rfl⟩ := trodVars_none hV
  have h0k := h0
  have h1k := h1
  obtain ⟨n0, es0, oe0, c0, ar0, oa0, ca0, rfl, hc0, hl0, he0, hac0, hal0, ha0⟩ := open_rib (hval 0 27 v0 rfl rfl) h0
  obtain ⟨q1, rot1, ot1, ct1, u1, rfl, hrc1, hrl1, hr1⟩ := open_place (hval 1 30 v1 rfl rfl) h1
  clear hA0 hval0
  simp only [List.append_nil] at hW'
  have hlt0 : ∀ y ∈ p0, y.block < W.heap.size := fun y hy => by simpa using hW'.lt y (by simp [hy])
  have hlt1 : ∀ y ∈ p1, y.block < W.heap.size := fun y hy => by simpa using hW'.lt y (by simp [hy])
  refine (routes_claim W n0 es0 oe0 c0 ar0 oa0 ca0 hc0 hl0 he0 hac0 hal0 ha0 q1 rot1 ot1 ct1 u1 hrc1 hrl1 hr1).mono fun e W' ⟨he, hn⟩ => ?_
  subst he
  exact ⟨_, rfl, _, _, _, [], _, [], hW', trodAll_mk1 (shut_bool Try.underlying4 true), trodAll_mk2 (Below.trod laid_out (by kernel_rfl) (of_decide_eq_true (by kernel_rfl)) h0k hn hlt0) (Below.trod laid_out (by kernel_rfl) (of_decide_eq_true (by kernel_rfl)) h1k hn hlt1), rfl, hn.frame _, fun h => by cases h⟩

theorem rotorRoutes_holds : Rows.RotorRoutesSaid :=
  OpenClaim.holds_of_wide 4 Try.f4 rfl rfl rfl rfl rfl rfl rfl ⟨rfl, rfl, rfl, rfl, rfl⟩ rfl rfl rfl rfl rfl (by kernel_rfl) Try.func4 (by kernel_rfl)
    (of_decide_eq_true (by kernel_rfl)) (by unfold Func.isWrapper; first | (rw [if_pos (by decide +kernel)]; kernel_rfl) | (rw [if_neg (by decide +kernel)]; exact ⟨rfl, rfl⟩))
    (fun os started H enc _ => rotorRoutes_lifted os started H enc)

#print axioms rotorRoutes_holds
end Go.Proofs.Ytopldbnlehjlpaa

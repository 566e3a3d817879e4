/-
  rotor.Route.
  rotor.Edges.
-/
import Derived.Test.YtopldbnlehjlpaaFi3
import Derived.BigRegionIn

set_option linter.unusedVariables false
set_option linter.unusedSimpArgs false
set_option linter.unnecessarySimpa false
namespace Go.Proofs.Ytopldbnlehjlpaa
open Go.RowKit Go.Shelf

attribute [local go_sem] Oper.semAt_some

def routeUp (M : Nat) (ar : List (List Int)) (E : List (Int × Int)) (q : Nat) (rot : List Int) (v : Nat) : List Int × Int × Int :=
  match firstAt (chipV ar E rot v) q M with
  | some i => (rotI ar E rot v i, (i : Int), 0)
  | none => ([], 0, 12)
theorem routeUp_hit {M : Nat} {ar : List (List Int)} {E : List (Int × Int)} {q v i : Nat} {rot : List Int} (hi : i < M) (h1 : chipV ar E rot v i = q) (h2 : ∀ j, j < i → chipV ar E rot v j ≠ q) : routeUp M ar E q rot v = (rotI ar E rot v i, (i : Int), 0) := by
  unfold routeUp
  rw [firstAt_some hi h1 h2]
theorem routeUp_none {M : Nat} {ar : List (List Int)} {E : List (Int × Int)} {q v : Nat} {rot : List Int} (h2 : ∀ j, j < M → chipV ar E rot v j ≠ q) : routeUp M ar E q rot v = ([], 0, 12) := by
  unfold routeUp
  rw [firstAt_none h2]
def routeOf (ar : List (List Int)) (E : List (Int × Int)) (q : Nat) (rot : List Int) (v : Nat) : List Int × Int × Int := routeUp 1048577 ar E q rot v
theorem routeOf_hit {ar : List (List Int)} {E : List (Int × Int)} {q v i : Nat} {rot : List Int} (hi : i < 1048577) (h1 : chipV ar E rot v i = q) (h2 : ∀ j, j < i → chipV ar E rot v j ≠ q) : routeOf ar E q rot v = (rotI ar E rot v i, (i : Int), 0) := routeUp_hit hi h1 h2
theorem routeOf_none {ar : List (List Int)} {E : List (Int × Int)} {q v : Nat} {rot : List Int} (h2 : ∀ j, j < 1048577 → chipV ar E rot v j ≠ q) : routeOf ar E q rot v = ([], 0, 12) := routeUp_none h2
/-- The rotors behind the way of a chip and the number of steps, or the error. -/
def routeRes (n : Int) (es : List Edg) (f : List Nat) (ar : List (List Int)) (q : Int) (rot : List Int) (v : Int) : List Int × Int × Int :=
  if stE n es f ar q rot v = 0 then routeOf ar (endsL es) q.toNat rot v.toNat else ([], 0, stE n es f ar q rot v)

/-- The caller's own of Route: the count. -/
def RCnt (b : Nat) (k : Nat) (W : World) : Prop := Boxed W b 3 (.int .i64 ((k : Int) - 1))
theorem sized_set (W : World) (a : Addr) (v : Value) : (W.setCell a v).heap.size = W.heap.size := by show (W.heap.modify _ _).size = _; rw [Array.size_modify]
theorem RCnt.from (b B : Nat) : OwnFrom B (RCnt b) := (boxed_own b 3 (fun k : Nat => Value.int .i64 ((k : Int) - 1))).from B

set_option maxRecDepth 100000 in
set_option maxHeartbeats 4000000 in
theorem route_in (n0 : Nat) (hn0 : 4 ≤ n0) (n : Int) (es : List Edg) (oe : Option Addr) (c : Nat) (ar : List (List Int)) (oa : Option Addr) (ca : Nat) (F G : Foot) (w : World) (hs : SliceR edgR 3 F w oe es) (hc : es.length ≤ c) (hc2 : es.length ≤ 1000)
    (ha : SliceR (slcR intR 1) 1 G w oa ar) (hac : ar.length ≤ ca) (hac2 : ar.length ≤ 9223372036854775807) (f : List Nat) (hU : Hid (gErr n es = 0 → Uf f (eL es)))
    (q : Nat) (rot : List Int) (ot : Option Addr) (ct : Nat) (H : Foot) (hr : SliceR intR 1 H w ot rot) (hrc : rot.length ≤ ct) (hrl : rot.length ≤ 9223372036854775807) (v : Nat)
    (hE : Hid (rtE n es f ar q rot = 0)) (hok : RtOk n es ar q rot) (hv : v < ar.length) :
    CallsIn Go.Fence.wide n0 Try.prog 20 #[.agg #[.int .i64 n, .slice oe es.length c, .slice oa ar.length ca], .int .i64 q, .slice ot rot.length ct, .int .i64 v] w
      (StepRes w (routeOf ar (endsL es) q rot v)) := by
  have h1 : 1 ≤ n0 := by omega
  obtain ⟨i0, hi, hz0, hz1, hz2⟩ := info_parts iInfo
  have HI := hide (And.intro hi (And.intro hz0 (And.intro hz1 hz2)))
  have HOK := hide hok
  have hvn : (0 : Int) ≤ (v : Int) ∧ (v : Int) < n := by have := hok.nar; omega
  have cA : ∀ W : World, Below w.heap.size w W → CallsIn Go.Fence.wide (n0 - 1) Try.prog 42 #[.agg #[.int .i64 n, .slice oe es.length c, .slice oa ar.length ca], .int .i64 q, .slice ot rot.length ct, .int .i64 v] W (BoardPost W n es f ar oa ca q rot) := fun W hW =>
    callsIn_wide.2 (at_yes n es oe c ar oa ca F G W (hs.below edgR_ok hW) hc hc2 (ha.below (slcR_ok intR_ok (by decide)) hW) hac hac2 f hU q rot ot ct H (hr.below intR_ok hW) hrc hrl v hE hvn)
  have cW : ∀ (p : Nat) (W : World), CallsIn Go.Fence.wide (n0 - 1) Try.prog 45 #[.int .i64 v, .int .i64 q, .func (.func 43) #[.pointer (some ⟨p, 0, none⟩)] #[]] W _ := fun p W => callsIn_wide.2 (way_any v q _ _ _ W)
  have HA := hide cA
  have HW := hide cW
  have hf1 : Go.Fence.wide.fn 42 := trivial
  have hf2 : Go.Fence.wide.fn 45 := trivial
  have haB : ∀ W : World, Below w.heap.size w W → SliceR (slcR intR 1) 1 (Lt W.heap.size) W oa ar := fun W hW => (ha.below (slcR_ok intR_ok (by decide)) hW).loc (slcR_ok intR_ok (by decide)) (by decide)
  have HAB := hide haB
  clear hi hz0 hz1 hz2 cA cW haB hok hvn
  refine callsIn_of_wp_marks Try.func20 rfl trivial ?_ rfl
  simp only [Try.ntmps20, List.size_toArray, List.length_cons, List.length_nil, Nat.reduceAdd, Nat.reduceSub, Array.replicate_succ, Array.replicate_zero, List.push_toArray, List.append_toArray, List.nil_append, List.cons_append]
  obtain ⟨w1, hw1⟩ : ∃ w1, (((w.alloc (.cells #[.int .i64 n, .slice oe es.length c, .slice oa ar.length ca] 27)).alloc (.cells #[.slice none 0 0] 28)).alloc (.cells #[.int .i64 0] 3)).alloc (.cells #[.int .i64 0] 33) = w1 := ⟨_, rfl⟩
  have hB1 : Below w.heap.size w w1 := by rw [← hw1]; exact bnew (bnew (bnew (bnew (Below.refl _ _) _) _) _) _
  have hsz1 : w1.heap.size = w.heap.size + 4 := by rw [← hw1]; simp
  have bR1 : Boxed w1 (w.heap.size + 1) 28 (.slice none 0 0) := by rw [← hw1]; have := ((Boxed.new (w.alloc (.cells #[.int .i64 n, .slice oe es.length c, .slice oa ar.length ca] 27)) 28 (.slice none 0 0)).alloc (.cells #[.int .i64 0] 3)).alloc (.cells #[.int .i64 0] 33); simpa using this
  have bR2 : Boxed w1 (w.heap.size + 2) 3 (.int .i64 0) := by rw [← hw1]; have := (Boxed.new ((w.alloc (.cells #[.int .i64 n, .slice oe es.length c, .slice oa ar.length ca] 27)).alloc (.cells #[.slice none 0 0] 28)) 3 (.int .i64 0)).alloc (.cells #[.int .i64 0] 33); simpa using this
  have bR3 : Boxed w1 (w.heap.size + 3) 33 (.int .i64 0) := by rw [← hw1]; have := Boxed.new (((w.alloc (.cells #[.int .i64 n, .slice oe es.length c, .slice oa ar.length ca] 27)).alloc (.cells #[.slice none 0 0] 28)).alloc (.cells #[.int .i64 0] 3)) 33 (.int .i64 0); simpa using this
  have d012 : ∀ i x, #[Value.int .i64 n, .slice oe es.length c, .slice oa ar.length ca][i]? = some x → w1.cell? ⟨w.heap.size, i, none⟩ = some x := fun i x hx => by
    have hbb : Below (w.heap.size + 1) (w.alloc (.cells #[.int .i64 n, .slice oe es.length c, .slice oa ar.length ca] 27)) w1 := by
      rw [← hw1]; exact (((box_refl _ _).alloc (by simp) _).alloc (by simp) _).alloc (by simp) _
    rw [box_cell hbb i, hx]
  have d0 := d012 0 _ rfl
  have d1 := d012 1 _ rfl
  have d2 := d012 2 _ rfl
  have HAB1 := hide (HAB.out _ hB1)
  have HBR := hide (And.intro bR1 (And.intro bR2 bR3))
  have HB1 := hide hB1
  clear d012 bR1 bR2 bR3 hB1 HAB
  gi_wp2_with (first | (gi_at_call 42; refine (HA.out _ HB1.out).mono ?_; rintro e w2 ⟨p, rg, cap, tv, rest, rfl, hDo, hbo⟩; replace hDo := hide hDo; replace hbo := hide hbo) | (gi_at_call 45; refine (HW.out _ _).mono ?_; rintro e w3 ⟨rfl, rfl⟩))
  replace hDo := hDo.out
  replace hbo := hbo.out
  have hsz0 : (w2.alloc (.cells #[.int .i64 (-1)] 3)).heap.size = w2.heap.size + 1 := by simp
  have hbx0 : Boxed (w2.alloc (.cells #[.int .i64 (-1)] 3)) w2.heap.size 3 (.int .i64 (-1)) := Boxed.new w2 _ _
  have hbl0 : Below w2.heap.size w2 (w2.alloc (.cells #[.int .i64 (-1)] 3)) := bnew (Below.refl _ _) _
  obtain ⟨W1, hW1⟩ : ∃ W1, (((w2.alloc (.cells #[.int .i64 (-1)] 3)).alloc (.cells #[.int .i64 (v : Int)] 3)).alloc (.cells #[.int .i64 (q : Int)] 3)).alloc (.cells #[.func (.func 43) #[.pointer (some ⟨p, 0, none⟩)] #[]] 83) = W1 := ⟨_, rfl⟩
  obtain ⟨W0, hW0⟩ : ∃ W0, (w2.alloc (.cells #[.int .i64 (-1)] 3)) = W0 := ⟨_, rfl⟩
  rw [hW0] at hsz0 hbx0 hbl0 hW1
  have hszW : W1.heap.size = w2.heap.size + 4 := by rw [← hW1]; simp; omega
  have hWB : WayBox W1 (w2.heap.size + 1) v q (.func (.func 43) #[.pointer (some ⟨p, 0, none⟩)] #[]) := by
    have := way_boxes v q (.func (.func 43) #[.pointer (some ⟨p, 0, none⟩)] #[]) W0
    rw [hsz0] at this
    rw [← hW1]
    exact this
  have hBO : Boxed W1 w2.heap.size 3 (.int .i64 (-1)) := by rw [← hW1]; exact ((hbx0.alloc _).alloc _).alloc _
  have hb21 : Below w2.heap.size w2 W1 := by rw [← hW1]; exact bnew (bnew (bnew hbl0 _) _) _
  have hDW := hDo.below hb21
  have hBW : Below w1.heap.size w1 W1 := hbo.trans (hb21.mono hbo.size)
  have hs12 := hbo.size
  have hp2 : p < w2.heap.size := hDo.box.lt
  have hrg2 : rg < w2.heap.size := hDo.row.lt
  have htv2 : ∀ g, tv.ownBlock = some g → g < w2.heap.size + 1 := fun g hg => by have := (hDo.tos.block g hg).2; omega
  have htv3 : ∀ g, tv.ownBlock = some g → g < w2.heap.size := fun g hg => (hDo.tos.block g hg).2
  rw [hW0, hW1]
  clear hW1 hW0 hsz0 hbx0 hbl0 hDo hbo hb21 d0 d1 d2
  refine wpIn_rangeFunc_joint rfl h1 (gf := 72) (lb := #[.pointer (some ⟨w2.heap.size + 1, 0, none⟩), .pointer (some ⟨w2.heap.size + 1 + 1, 0, none⟩), .pointer (some ⟨w2.heap.size + 1 + 2, 0, none⟩)]) rfl trivial (enters_of Try.func72 (by kernel_rfl) rfl) _ (fun _ => rfl) _ _
    (fun c W => c = .ret ∧ (Boxed W (w.heap.size + 1) 28 (.slice none 0 0) ∧ Boxed W (w.heap.size + 2) 3 (.int .i64 0) ∧ Boxed W (w.heap.size + 3) 33 (.int .i64 12) ∧ Below w.heap.size w W ∧ Hid (∀ j, j < 1048577 → chipV ar (endsL es) rot v j ≠ q))) _
    (turns_seq HOK.out hv (n0 - 1) (by omega) w1 (w2.heap.size + 1) p rg cap tv oa ca rest HAB1.out (by omega) (by omega) (by omega) htv2 1048577 (RCnt w2.heap.size)
      (fun k W W' hk hg => Boxed.kept hk hg (fun e => by injection e; omega)) (fun k W x hk => Boxed.other hk (by omega) _))
    (turnsJ (by omega) (RCnt.from _ _) _ _ _) (turnsJ (by omega) (RCnt.from _ _) _ _ _)
    ((ownFrom_const _).and (((boxed_own _ _ (fun _ : Code => _)).from _).and (((boxed_own _ _ (fun _ : Code => _)).from _).and (((boxed_own _ _ (fun _ : Code => _)).from _).and ((ownFrom_below (by omega) (by omega)).and (ownFrom_const _))))))
    (turnsJd (by omega) (RCnt.from _ _) _ _ _)
    ⟨hWB, ⟨hDW, hBO, hBW⟩, ⟨by omega, fun j hj => absurd hj (by omega)⟩⟩ ?act1 ?assign ?body ?done ?stop
  case assign =>
    intro l i W K hK
    gi_wp2
    exact hK
  case body =>
    rintro l i W ⟨hb, ⟨hD, hv1, hBl⟩, hM⟩
    unfold RCnt at hv1
    have hc := hv1.cell
    have hf := hv1.frozen
    have hszl := hBl.size
    have hlt1 : w2.heap.size + 1 + 2 < W.heap.size := hb.bs.lt
    have HWR : Hid (wrap64 (i : Int) = (i : Int)) := by have := hM.out.1; show _ = _; unfold wrap64; omega
    have b1 : Boxed W (w.heap.size + 1) 28 (.slice none 0 0) := boxed_same HBR.out.1 (hBl.block _ (by omega))
    have b2 : Boxed W (w.heap.size + 2) 3 (.int .i64 0) := boxed_same HBR.out.2.1 (hBl.block _ (by omega))
    have b3 : Boxed W (w.heap.size + 3) 33 (.int .i64 0) := boxed_same HBR.out.2.2 (hBl.block _ (by omega))
    have hW2 : ∃ W2, W.setCell ⟨w2.heap.size, 0, none⟩ (.int .i64 (i : Int)) = W2 := ⟨_, rfl⟩
    obtain ⟨W2, hW2⟩ := hW2
    have hv2 : Boxed W2 w2.heap.size 3 (.int .i64 (i : Int)) := by rw [← hW2]; exact hv1.set _
    have hk2 : KeepsOthers W W2 := by rw [← hW2]; exact KeepsOthers.setCell _ _ _
    have hn2 : ∀ k, k ≠ w2.heap.size → W2.heap[k]? = W.heap[k]? := fun k hk => by rw [← hW2]; exact Below.heap_setCell _ _ _ k (by simpa using hk)
    have hbl2 : Below w1.heap.size w1 W2 := by rw [← hW2]; exact hBl.setCell (p := ⟨w2.heap.size, 0, none⟩) (by simp; omega) _
    have b1 := boxed_same b1 (hn2 (w.heap.size + 1) (by omega))
    have b2 := boxed_same b2 (hn2 (w.heap.size + 2) (by omega))
    have b3 := boxed_same b3 (hn2 (w.heap.size + 3) (by omega))
    have hc2 := hv2.cell
    have g1 := b1.cell
    have k1 := b1.frozen
    have g2 := b2.cell
    have k2 := b2.frozen
    have g3 := b3.cell
    have k3 := b3.frozen
    have HBX := hide (And.intro b1 (And.intro b2 b3))
    have HKN := hide (And.intro hk2 (And.intro hbl2 hn2))
    have HV2 := hide hv2
    replace hb := hide hb
    replace hD := hide hD
    clear b1 b2 b3 hk2 hn2 hbl2 hv1 hv2
    by_cases hi : i = 1048577
    · have q1 : decide ((1048576 : Int) < (i : Int)) = true := by simp; omega
      replace hi := hide hi
      have hw1' := HWR.out
      gi_wp2
      clear hw1'
      obtain ⟨b1, b2, b3⟩ := HBX.out
      obtain ⟨hk2, hbl2, hn2⟩ := HKN.out
      have hi' := hi.out
      refine ⟨((hk2.trans (KeepsOthers.setCell _ _ _)).trans (KeepsOthers.setCell _ _ _)).trans (KeepsOthers.setCell _ _ _), rfl, ((b1.set (.slice none 0 0)).other (by omega) (.int .i64 0)).other (by omega) (.int .i64 12), ((b2.other (by omega) (.slice none 0 0)).set (.int .i64 0)).other (by omega) (.int .i64 12), ((b3.other (by omega) (.slice none 0 0)).other (by omega) (.int .i64 0)).set (.int .i64 12), ?_, fun j hj => hM.out.2 j (by omega)⟩
      exact (((HB1.out.trans (hbl2.mono (by omega))).setCell (p := ⟨w.heap.size + 1, 0, none⟩) (by simp) _).setCell (p := ⟨w.heap.size + 1 + 1, 0, none⟩) (by simp; omega) _).setCell (p := ⟨w.heap.size + 1 + 1 + 1, 0, none⟩) (by simp; omega) _
    · have hi2 : i ≤ 1048577 := hM.out.1
      have q1 : decide ((1048576 : Int) < (i : Int)) = false := by simp; omega
      have hw1' := HWR.out
      gi_wp2
      clear hw1'
      obtain ⟨hk2, hbl2, hn2⟩ := HKN.out
      refine ⟨hk2, hb.out.keep (fun k h1 h2 h3 => hn2 k (by omega)), ⟨hD.out.keep (fun k h1 h2 hor => hn2 k ?_), ?_, hbl2⟩, ⟨by omega, hM.out.2⟩⟩
      · rcases hor with rfl | rfl | e
        · omega
        · omega
        · have := htv3 k e; omega
      · unfold RCnt
        rw [show ((i + 1 : Nat) : Int) - 1 = (i : Int) by omega]
        exact HV2.out
  case done =>
    rintro D W hDl ⟨i, hVi, ⟨hD, hv1, hBl⟩, hM⟩ hK
    unfold RCnt at hv1
    rw [show ((i + 1 : Nat) : Int) - 1 = (i : Int) by omega] at hv1
    have hc := hv1.cell
    have hszl := hBl.size
    have b1 : Boxed W (w.heap.size + 1) 28 (.slice none 0 0) := boxed_same HBR.out.1 (hBl.block _ (by omega))
    have b2 : Boxed W (w.heap.size + 2) 3 (.int .i64 0) := boxed_same HBR.out.2.1 (hBl.block _ (by omega))
    have b3 : Boxed W (w.heap.size + 3) 33 (.int .i64 0) := boxed_same HBR.out.2.2 (hBl.block _ (by omega))
    have c1 := b1.cell
    have f1 := b1.frozen
    have c2 := b2.cell
    have f2 := b2.frozen
    have c3 := b3.cell
    have f3 := b3.frozen
    have d3 := hD.box.cell 3
    simp at d3
    have hpB := hD.pB
    have HB := hide (And.intro b1 (And.intro b2 b3))
    have HD := hide hD
    have hpn1 : p ≠ w.heap.size + 1 := by omega
    have hpn2 : p ≠ w.heap.size + 2 := by omega
    have hpn3 : p ≠ w.heap.size + 3 := by omega
    clear b1 b2 b3 hD
    gi_wp2
    gi_region
    all_goals
      gi_wp2
      obtain ⟨b1, b2, b3⟩ := HB.out
      have hD := HD.out
      have b1 := Boxed.putO (((b1.set (.slice (some ⟨rg, 0, none⟩) (rotI ar (endsL es) rot v i).length cap)).other (show w.heap.size + 1 ≠ w.heap.size + 1 + 1 by omega) (.int .i64 i)).other (show w.heap.size + 1 ≠ w.heap.size + 1 + 1 + 1 by omega) (.int .i64 0)) (D := D) (by omega) (.deferred none)
      have b2 := Boxed.putO (((b2.other (show w.heap.size + 2 ≠ w.heap.size + 1 by omega) (.slice (some ⟨rg, 0, none⟩) (rotI ar (endsL es) rot v i).length cap)).set (.int .i64 i)).other (show w.heap.size + 2 ≠ w.heap.size + 1 + 1 + 1 by omega) (.int .i64 0)) (D := D) (by omega) (.deferred none)
      have b3 := Boxed.putO (((b3.other (show w.heap.size + 3 ≠ w.heap.size + 1 by omega) (.slice (some ⟨rg, 0, none⟩) (rotI ar (endsL es) rot v i).length cap)).other (show w.heap.size + 3 ≠ w.heap.size + 1 + 1 by omega) (.int .i64 i)).set (.int .i64 0)) (D := D) (by omega) (.deferred none)
      obtain ⟨W3, hW3⟩ : ∃ W3, ((W.setCell ⟨w.heap.size + 1, 0, none⟩ (.slice (some ⟨rg, 0, none⟩) (rotI ar (endsL es) rot v i).length cap)).setCell ⟨w.heap.size + 1 + 1, 0, none⟩ (.int .i64 i)).setCell ⟨w.heap.size + 1 + 1 + 1, 0, none⟩ (.int .i64 0) = W3 := ⟨_, rfl⟩
      have hn3 : ∀ k, w1.heap.size ≤ k → W3.heap[k]? = W.heap[k]? := fun k hk => by
        rw [← hW3, Below.heap_setCell _ _ _ k (by simp; omega), Below.heap_setCell _ _ _ k (by simp; omega), Below.heap_setCell _ _ _ k (by simp; omega)]
      have hlow : Below w.heap.size w W3 := by
        rw [← hW3]
        exact (((HB1.out.trans (hBl.mono (by omega))).setCell (p := ⟨w.heap.size + 1, 0, none⟩) (by simp) _).setCell (p := ⟨w.heap.size + 1 + 1, 0, none⟩) (by simp; omega) _).setCell (p := ⟨w.heap.size + 1 + 1 + 1, 0, none⟩) (by simp; omega) _
      rw [hW3] at b1 b2 b3 ⊢
      have hK2 : W3.heap[D]? = some (.deferred (some [])) := (hn3 D (by omega)).trans hK
      refine ⟨by simp, .inl ⟨_, _, rfl, run_takeDeferred (w := W3.drew) hK2, ?_⟩⟩
      refine ⟨_, results_cells3 rfl agg_ints agg_int agg_errno _ _ _ _ _ _ _ _ rfl rfl rfl b1.cell b2.cell b3.cell, ?_⟩
      have hW : routeOf ar (endsL es) q rot v = (rotI ar (endsL es) rot v i, (i : Int), 0) := routeOf_hit hM.out.1 hVi hM.out.2
      rw [hW]
      have hok2 := (HOK.out.along hv i hM.out.2).1
      have hD3 := hD.keep (w' := W3.drew.putObj D (.deferred none)) fun k hk1 hk2 hor => by
        have hkD : k ≠ D := fun e => by
          rcases hor with rfl | rfl | e2
          · omega
          · omega
          · have := htv3 k e2; omega
        rw [World.putObj_heap_other hkD]
        exact hn3 k hk1
      refine ⟨_, rfl, (hD3.own hok2.i64).rebase (by omega), ?_⟩
      exact (below_drewN hlow 1).trans (belowK_b (w := w) (Nat.le_refl _) W3.drew D _ _ (by omega) hK2 rfl rfl)
  case stop =>
    rintro D c W hDl ⟨rfl, b1, b2, b3, hB, hno⟩ hK
    gi_wp2
    have b1 := Boxed.putO b1 (D := D) (by omega) (.deferred none)
    have b2 := Boxed.putO b2 (D := D) (by omega) (.deferred none)
    have b3 := Boxed.putO b3 (D := D) (by omega) (.deferred none)
    refine ⟨by simp, .inl ⟨_, _, rfl, run_takeDeferred hK, ?_⟩⟩
    refine ⟨_, results_cells3 rfl agg_ints agg_int agg_errno _ _ _ _ _ _ _ _ rfl rfl rfl b1.cell b2.cell b3.cell, ?_⟩
    have hW : routeOf ar (endsL es) q rot v = ([], 0, 12) := routeOf_none hno.out
    rw [hW]
    exact ⟨_, rfl, OwnS.nil _ _ _ _ _ _, hB.trans (belowK_b (w := w) (Nat.le_refl _) _ D _ _ (by omega) hK rfl rfl)⟩

section
variable (n : Int) (es : List Edg) (oe : Option Addr) (c : Nat) (ar : List (List Int)) (oa : Option Addr) (ca : Nat) (F G : Foot) (w : World) (hs : SliceR edgR 3 F w oe es) (hc : es.length ≤ c) (hc2 : es.length ≤ 1000)
    (ha : SliceR (slcR intR 1) 1 G w oa ar) (hac : ar.length ≤ ca) (hac2 : ar.length ≤ 9223372036854775807) (f : List Nat) (hU : Hid (gErr n es = 0 → Uf f (eL es)))
    (q : Int) (rot : List Int) (ot : Option Addr) (ct : Nat) (H : Foot) (hr : SliceR intR 1 H w ot rot) (hrc : rot.length ≤ ct) (hrl : rot.length ≤ 9223372036854775807)
include hs hc hc2 ha hac hac2 hU hr hrc hrl

set_option maxRecDepth 100000 in
set_option maxHeartbeats 2000000 in
theorem route_no (v : Int) (hE : Hid (stE n es f ar q rot v ≠ 0)) :
    Calls Try.prog 20 #[.agg #[.int .i64 n, .slice oe es.length c, .slice oa ar.length ca], .int .i64 q, .slice ot rot.length ct, .int .i64 v] w (StepRes w ([], 0, stE n es f ar q rot v)) := by
  go_enter Try.func20, Try.ntmps20
  obtain ⟨w1, hw1⟩ : ∃ w1, (((w.alloc (.cells #[.int .i64 n, .slice oe es.length c, .slice oa ar.length ca] 27)).alloc (.cells #[.slice none 0 0] 28)).alloc (.cells #[.int .i64 0] 3)).alloc (.cells #[.int .i64 0] 33) = w1 := ⟨_, rfl⟩
  have hB1 : Below w.heap.size w w1 := by rw [← hw1]; exact bnew (bnew (bnew (bnew (Below.refl _ _) _) _) _) _
  have hsz1 : w1.heap.size = w.heap.size + 4 := by rw [← hw1]; simp
  have bR1 : Boxed w1 (w.heap.size + 1) 28 (.slice none 0 0) := by rw [← hw1]; have := ((Boxed.new (w.alloc (.cells #[.int .i64 n, .slice oe es.length c, .slice oa ar.length ca] 27)) 28 (.slice none 0 0)).alloc (.cells #[.int .i64 0] 3)).alloc (.cells #[.int .i64 0] 33); simpa using this
  have bR2 : Boxed w1 (w.heap.size + 2) 3 (.int .i64 0) := by rw [← hw1]; have := (Boxed.new ((w.alloc (.cells #[.int .i64 n, .slice oe es.length c, .slice oa ar.length ca] 27)).alloc (.cells #[.slice none 0 0] 28)) 3 (.int .i64 0)).alloc (.cells #[.int .i64 0] 33); simpa using this
  have bR3 : Boxed w1 (w.heap.size + 3) 33 (.int .i64 0) := by rw [← hw1]; have := Boxed.new (((w.alloc (.cells #[.int .i64 n, .slice oe es.length c, .slice oa ar.length ca] 27)).alloc (.cells #[.slice none 0 0] 28)).alloc (.cells #[.int .i64 0] 3)) 33 (.int .i64 0); simpa using this
  have d012 : ∀ i x, #[Value.int .i64 n, .slice oe es.length c, .slice oa ar.length ca][i]? = some x → w1.cell? ⟨w.heap.size, i, none⟩ = some x := fun i x hx => by
    have hbb : Below (w.heap.size + 1) (w.alloc (.cells #[.int .i64 n, .slice oe es.length c, .slice oa ar.length ca] 27)) w1 := by
      rw [← hw1]; exact (((box_refl _ _).alloc (by simp) _).alloc (by simp) _).alloc (by simp) _
    rw [box_cell hbb i, hx]
  have d0 := d012 0 _ rfl
  have d1 := d012 1 _ rfl
  have d2 := d012 2 _ rfl
  have HA := hide (at_no n es oe c ar oa ca F G w1 (hs.below edgR_ok hB1) hc hc2 (ha.below (slcR_ok intR_ok (by decide)) hB1) hac hac2 f hU q rot ot ct H (hr.below intR_ok hB1) hrc hrl v hE)
  have HBR := hide (And.intro hB1 (And.intro bR1 (And.intro bR2 bR3)))
  clear d012 bR1 bR2 bR3 hB1
  go_wp2_with fail
  refine HA.out.mono ?_
  rintro e w2 ⟨rfl, hb2⟩
  have hq : (stE n es f ar q rot v != 0) = true := by simpa using hE.out
  have b1 : Boxed w2 (w.heap.size + 1) 28 (.slice none 0 0) := boxed_same HBR.out.2.1 (hb2.block _ (by omega))
  have b2 : Boxed w2 (w.heap.size + 2) 3 (.int .i64 0) := boxed_same HBR.out.2.2.1 (hb2.block _ (by omega))
  have b3 : Boxed w2 (w.heap.size + 3) 33 (.int .i64 0) := boxed_same HBR.out.2.2.2 (hb2.block _ (by omega))
  have c1 := b1.cell
  have f1 := b1.frozen
  have c2 := b2.cell
  have f2 := b2.frozen
  have c3 := b3.cell
  have f3 := b3.frozen
  have HB := hide (And.intro b1 (And.intro b2 (And.intro b3 hb2)))
  clear b1 b2 b3 hb2
  go_wp2_with fail
  obtain ⟨b1, b2, b3, hb2⟩ := HB.out
  have b1 := ((b1.set (.slice none 0 0)).other (show w.heap.size + 1 ≠ w.heap.size + 1 + 1 by omega) (.int .i64 0)).other (show w.heap.size + 1 ≠ w.heap.size + 1 + 1 + 1 by omega) (.int .i64 (stE n es f ar q rot v))
  have b2 := ((b2.other (show w.heap.size + 2 ≠ w.heap.size + 1 by omega) (.slice none 0 0)).set (.int .i64 0)).other (show w.heap.size + 2 ≠ w.heap.size + 1 + 1 + 1 by omega) (.int .i64 (stE n es f ar q rot v))
  have b3 := ((b3.other (show w.heap.size + 3 ≠ w.heap.size + 1 by omega) (.slice none 0 0)).other (show w.heap.size + 3 ≠ w.heap.size + 1 + 1 by omega) (.int .i64 0)).set (.int .i64 (stE n es f ar q rot v))
  refine bodyPost_ret (results_cells3 rfl agg_ints agg_int agg_errno _ _ _ _ _ _ _ _ rfl rfl rfl b1.cell b2.cell b3.cell) rfl ?_
  exact ⟨_, rfl, OwnS.nil _ _ _ _ _ _, (((HBR.out.1.trans (hb2.mono (by omega))).setCell (p := ⟨w.heap.size + 1, 0, none⟩) (by simp) _).setCell (p := ⟨w.heap.size + 1 + 1, 0, none⟩) (by simp; omega) _).setCell (p := ⟨w.heap.size + 1 + 1 + 1, 0, none⟩) (by simp; omega) _⟩

theorem rotRoute_any (v : Int) :
    Calls Try.prog 20 #[.agg #[.int .i64 n, .slice oe es.length c, .slice oa ar.length ca], .int .i64 q, .slice ot rot.length ct, .int .i64 v] w (StepRes w (routeRes n es f ar q rot v)) := by
  by_cases hS : stE n es f ar q rot v = 0
  · obtain ⟨h1, h2⟩ := stE_zero hS
    obtain ⟨q', rfl, hok⟩ := RtOk.of h1 hc2
    obtain ⟨V, rfl⟩ := Int.eq_ofNat_of_zero_le h2.1
    have := (callsIn_wide (n := 4)).1 (route_in 4 (by omega) n es oe c ar oa ca F G w hs hc hc2 ha hac hac2 f hU q' rot ot ct H hr hrc hrl V h1 hok (by have := hok.nar; omega))
    rw [routeRes, if_pos hS]
    exact this
  · rw [routeRes, if_neg hS]
    exact route_no n es oe c ar oa ca F G w hs hc hc2 ha hac hac2 f hU q rot ot ct H hr hrc hrl v hS
end

end Go.Proofs.Ytopldbnlehjlpaa

set_option linter.unusedVariables false
set_option linter.unusedSimpArgs false
set_option linter.unnecessarySimpa false
namespace Go.Proofs.Ytopldbnlehjlpaa
open Go.RowKit

/-- The single edges along which the rotors of the first k vertices point. -/
def edL (ar : List (List Int)) (q : Nat) (rot : List Int) : Nat → List Int
  | 0 => []
  | k + 1 => edL ar q rot k ++ (if k = q then [] else [((((ar.getD k []).getD (rot.getD k 0).toNat 0).toNat / 2 : Nat) : Int)])
theorem edL_len (ar : List (List Int)) (q : Nat) (rot : List Int) : ∀ k, (edL ar q rot k).length ≤ k
  | 0 => by simp [edL]
  | k + 1 => by have := edL_len ar q rot k; unfold edL; split <;> simp <;> omega
def edR (n : Int) (es : List Edg) (f : List Nat) (ar : List (List Int)) (q : Int) (rot : List Int) : List Int := if rtE n es f ar q rot = 0 then edL ar q.toNat rot rot.length else []
theorem one_lit (w : World) (t : TypeId) {x : Int} (hx : I64 x) : SliceR intR 1 All (w.alloc (.cells #[.int .i64 x] t)) (some ⟨w.heap.size, 0, none⟩) [x] := by
  have := ints_lit (F := All) (G := All) w t [x] (by intro y hy; simp at hy; subst hy; exact hx) trivial
  simpa using this

/-- What the rotor at a vertex points to. -/
theorem RtOk.at {n : Int} {es : List Edg} {ar : List (List Int)} {q : Nat} {rot : List Int} (h : RtOk n es ar q rot) {v : Nat} (hv' : v < ar.length) (hvq : v ≠ q) :
    ∃ (l : List Int) (k g : Nat), ar[v]? = some l ∧ rot[v]? = some (k : Int) ∧ k < l.length ∧ l.length ≤ 1000000 ∧ l[k]? = some (g : Int) ∧ g < 2 * (endsL es).length := by
  have hl : ar[v]? = some ar[v] := List.getElem?_eq_getElem hv'
  have hk0 : rot[v]? = some (rot[v]'(by rw [h.nrot]; exact hv')) := List.getElem?_eq_getElem (by rw [h.nrot]; exact hv')
  obtain ⟨r1, _, r3⟩ := h.rots v _ _ hk0 hl
  generalize rot[v]'(by rw [h.nrot]; exact hv') = k at hk0 r1 r3
  generalize ar[v] = l at *
  obtain ⟨k, rfl⟩ := Int.eq_ofNat_of_zero_le r1
  have hkl : k < l.length := by have := r3 hvq; omega
  obtain ⟨w1, w2⟩ := h.rows v l hl
  obtain ⟨g, hg, hg2, _⟩ := w2 _ (List.getElem_mem hkl)
  exact ⟨l, k, g, hl, hk0, hkl, by have := h.cap; omega, by rw [List.getElem?_eq_getElem hkl, hg], hg2⟩
theorem edL_step {ar : List (List Int)} {q : Nat} {rot : List Int} {v k g : Nat} {l : List Int} (h1 : ar[v]? = some l) (h2 : rot[v]? = some (k : Int)) (h3 : l[k]? = some (g : Int)) (hvq : v ≠ q) :
    edL ar q rot (v + 1) = edL ar q rot v ++ [((g / 2 : Nat) : Int)] := by
  show edL ar q rot v ++ (if v = q then [] else [((((ar.getD v []).getD (rot.getD v 0).toNat 0).toNat / 2 : Nat) : Int)]) = _
  rw [if_neg hvq, getD_of h1, getD_of h2, Int.toNat_natCast, getD_of h3, Int.toNat_natCast]
theorem edL_skip {ar : List (List Int)} {q : Nat} {rot : List Int} : edL ar q rot (q + 1) = edL ar q rot q := by
  show edL ar q rot q ++ (if q = q then [] else _) = _
  rw [if_pos rfl, List.append_nil]

set_option maxRecDepth 100000 in
set_option maxHeartbeats 4000000 in
theorem rotEdges_any (n : Int) (es : List Edg) (oe : Option Addr) (c : Nat) (ar : List (List Int)) (oa : Option Addr) (ca : Nat) (F G : Foot) (w : World) (hs : SliceR edgR 3 F w oe es) (hc : es.length ≤ c) (hc2 : es.length ≤ 1000)
    (ha : SliceR (slcR intR 1) 1 G w oa ar) (hac : ar.length ≤ ca) (hac2 : ar.length ≤ 9223372036854775807) (f : List Nat) (hU : Hid (gErr n es = 0 → Uf f (eL es)))
    (q : Int) (rot : List Int) (ot : Option Addr) (ct : Nat) (H : Foot) (hr : SliceR intR 1 H w ot rot) (hrc : rot.length ≤ ct) (hrl : rot.length ≤ 9223372036854775807) :
    Calls Try.prog 22 #[.agg #[.int .i64 n, .slice oe es.length c, .slice oa ar.length ca], .int .i64 q, .slice ot rot.length ct] w
      (ListErr w (edR n es f ar q rot) (rtE n es f ar q rot)) := by
  go_enter Try.func22, Try.ntmps22
  go_wp2_with fail
  have hb0 := box_refl w (.cells #[.int .i64 n, .slice oe es.length c, .slice oa ar.length ca] 27)
  by_cases hS : rtE n es f ar q rot = 0
  · obtain ⟨q', rfl, hok⟩ := RtOk.of hS hc2
    have HR : Hid (edR n es f ar q' rot = edL ar q' rot rot.length) := if_pos hS
    have HS := hide hS
    have haB : SliceR (slcR intR 1) 1 (Lt (w.heap.size + 1)) (w.alloc (.cells #[.int .i64 n, .slice oe es.length c, .slice oa ar.length ca] 27)) oa ar := by
      have := (ha.below (slcR_ok intR_ok (by decide)) (below_box hb0)).loc (slcR_ok intR_ok (by decide)) (by decide)
      simpa using this
    refine (boardOf_any n es oe c ar oa ca F G _ (hs.below edgR_ok (below_box hb0)) hc hc2 (ha.below (slcR_ok intR_ok (by decide)) (below_box hb0)) hac hac2 f hU q' rot ot ct H (hr.below intR_ok (below_box hb0)) hrc hrl hS).mono ?_
    rintro e w2 ⟨p, rg, cap, tv, rest, rfl, hD, hb2⟩
    have hx2 := hb2.mono (B' := w.heap.size + 1) (by simp)
    have HX := hide (below_box hx2)
    have HD := hide (hD.rebase (show w.heap.size + 1 ≤ _ by simp))
    have ha2 : SliceR (slcR intR 1) 1 (Lt (w.heap.size + 1)) w2 oa ar := haB.below (slcR_ok intR_ok (by decide)) hb2
    have hsz2 := box_lt hx2
    have d1 := hD.box.cell 1
    have d3 := hD.box.cell 3
    simp at d1 d3
    have hlen := hD.len
    have hrl12 : rot.length ≤ 12 := by rw [hok.nrot]; exact hok.n12
    have hrcap : rot.length ≤ cap := by omega
    have hra := hide hok.nrot
    clear hb2 hb0 hx2 hD haB hS hlen
    go_wp2_with fail
    go_loopw [10, 28] (fun ov iv wr => ∃ k : Nat, k ≤ rot.length ∧ iv = .int .i64 k ∧ OwnS intR 1 w2.heap.size 3 Non wr ov (edL ar q' rot k) ∧ Below w2.heap.size w2 wr) (fun _ iv _ => rot.length - (intOf iv).toNat)
    case atStart => exact ⟨0, by omega, rfl, OwnS.nil _ _ _ _ _ _, Below.refl _ _⟩
    case round =>
      clear d1 d3
      obtain ⟨k, hk, rfl, hown, hbW⟩ := hrel
      have hD := HD.out.below hbW
      have d1 := hD.box.cell 1
      simp at d1
      have hszW := hbW.size
      by_cases hlt : k < rot.length
      · have hkar : k < ar.length := by rw [← hra.out]; exact hlt
        by_cases hkq : k = q'
        · obtain ⟨x, hx⟩ : ∃ x, rot[k]? = some x := ⟨_, List.getElem?_eq_getElem hlt⟩
          have r0 := hD.row.cell hx
          have HE : Hid (edL ar q' rot (k + 1) = edL ar q' rot k) := by show _ = _; rw [hkq]; exact edL_skip
          have q1 : ((k : Int) != (q' : Int)) = false := by simp [hkq]
          have HKQ := hide hkq
          clear hx hD hkq
          go_wp2_with fail
          go_roundw
          case rel => exact ⟨k + 1, by omega, by go_num, by rw [HE.out]; exact hown, hbW⟩
          case measure => simp [intOf]; omega
        · obtain ⟨l, K, g, hl, hK, hKl, hll, hg, hgE⟩ := hok.at hkar hkq
          obtain ⟨x, _, hx, b, off, ol, cl, hoa, hbB, c0, hxl, _, hsl⟩ := (ha2.below (slcR_ok intR_ok (by decide)) hbW).slc_at hkar
          rw [hl] at hx
          injection hx with hx
          subst hx
          subst hoa
          obtain ⟨y, _, hy, iy, b2, off2, hol, hb2, e0⟩ := hsl.int_at hKl
          rw [hg] at hy
          injection hy with hy
          subst hy
          subst hol
          have r0 := hD.row.cell hK
          obtain ⟨g2, hg2⟩ : ∃ g2, g2 = g / 2 := ⟨_, rfl⟩
          have HE : Hid (edL ar q' rot (k + 1) = edL ar q' rot k ++ [(g2 : Int)]) := by show _ = _; rw [hg2]; exact edL_step hl hK hg hkq
          have hq1 : ((g : Int)).tdiv 2 = (g2 : Int) := by rw [Int.tdiv_eq_ediv_of_nonneg (by omega)]; omega
          have hg3 : g2 ≤ 100000 := by have := hok.cap; omega
          have q1 : ((k : Int) != (q' : Int)) = true := by simp; omega
          have hel := edL_len ar q' rot k
          have hI : I64 (g2 : Int) := ⟨by omega, by omega⟩
          have hlit := one_lit wr 3 hI
          replace hkq := hide hkq
          replace hg2 := hide hg2
          clear hl hK hg hD
          obtain ⟨T, hT⟩ : ∃ T, T = edL ar q' rot k := ⟨_, rfl⟩
          rw [← hT] at hown HE hel
          clear hT
          have hB1 : (T.length + [(g2 : Int)].length) * 8 ≤ 140737488355328 := by simp; omega
          have hB2 : T.length + [(g2 : Int)].length ≤ 9223372036854775807 := by simp; omega
          have hB3 : w2.heap.size ≤ (wr.alloc (.cells #[.int .i64 (g2 : Int)] 3)).heap.size := by simp; omega
          have hwq : wrap64 (g2 : Int) = (g2 : Int) := by unfold wrap64; omega
          go_wp2_with (at_builtin; refine wpList_append_rep rfl (.tmp 36) (.tmp 48) 28 rfl w2.heap.size 3 _ 1 8 Try.underlying28 iInfo rfl (by decide) intR_ok Non All _ T rfl (hown.new intR_ok _) (some ⟨wr.heap.size, 0, none⟩) 1 [(g2 : Int)] rfl hlit (fun _ _ h => h) (fun _ h => h.elim) hB1 hB2 hB3 ?_; intro v' w8 ho hb8 hg8)
          clear hwq
          go_roundw
          case rel => exact ⟨k + 1, by omega, by go_num, by rw [HE.out]; exact ho, (hbW.alloc hszW _).trans hb8⟩
          case measure => simp [intOf]; omega
      · have : k = rot.length := by omega
        subst this
        go_wp2_with fail
        go_ret2
        exact ⟨_, by rw [HS.out]; rfl, by rw [HR.out]; exact hown.rebase (by omega), HX.out.trans (hbW.mono (by omega))⟩
  · have hq : (rtE n es f ar q rot != 0) = true := by simpa using hS
    refine (boardOf_err n es oe c ar oa ca F G _ (hs.below edgR_ok (below_box hb0)) hc hc2 (ha.below (slcR_ok intR_ok (by decide)) (below_box hb0)) hac hac2 f hU q rot ot ct H (hr.below intR_ok (below_box hb0)) hrc hrl hS).mono ?_
    rintro e w2 ⟨rfl, hb2⟩
    have HX := hide (below_box (hb2.mono (B' := w.heap.size + 1) (by simp)))
    have HR : Hid (edR n es f ar q rot = []) := if_neg hS
    replace hS := hide hS
    clear hb2 hb0
    go_wp2_with fail
    go_ret2
    exact ⟨_, rfl, by rw [HR.out]; exact OwnS.nil _ _ _ _ _ _, HX.out⟩

end Go.Proofs.Ytopldbnlehjlpaa

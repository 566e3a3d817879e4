/-
  RotorSteps: Check, Step and Walk of the program give what the reference gives, for all ribbon graphs, sinks, rotors and vertices; no condition.
  The walk of RotorSteps.
  ref45.Walk, ref45.Route (printed by wip/mkRefWalk.py).
  awake: the examples of chapter 45 hold.
  What the functions give at the triangle: numbers.
  rotor.Acyclic.
  rotor.Acyclic: its closure; deferred marks of many ranges.
  rotor.All.
-/
import Derived.Test.YtopldbnlehjlpaaSt5
import Derived.BigRegionIn
import Derived.Deep.RegionHeld3
import Derived.Test.YtopldbnlehjlpaaRows

set_option linter.unusedVariables false
set_option linter.unusedSimpArgs false
set_option linter.unnecessarySimpa false
namespace Go.Proofs.Ytopldbnlehjlpaa
open Go.RowKit

def allRes (n : Int) (es : List Edg) (f : List Nat) (ar : List (List Int)) (q : Int) (rot d : List Int) : List Int × List Int × Int :=
  if gvE n es f ar q rot d = 0 then movesOf ar (endsL es) q.toNat pk0 rot d else ([], [], gvE n es f ar q rot d)

theorem gvE_zero {n : Int} {es : List Edg} {f : List Nat} {ar : List (List Int)} {q : Int} {rot d : List Int} (h : gvE n es f ar q rot d = 0) : rtE n es f ar q rot = 0 ∧ dErr n d = 0 := by
  unfold gvE at h
  split at h
  · rename_i h1
    split at h
    · rename_i h2; exact ⟨h1, h2⟩
    · rename_i h2; exact absurd h h2
  · rename_i h1; exact absurd h h1

set_option maxRecDepth 100000 in
set_option maxHeartbeats 4000000 in
theorem rotAll_any (n : Int) (es : List Edg) (oe : Option Addr) (c : Nat) (ar : List (List Int)) (oa : Option Addr) (ca : Nat) (F G : Foot) (w : World) (hs : SliceR edgR 3 F w oe es) (hc : es.length ≤ c) (hc2 : es.length ≤ 1000)
    (ha : SliceR (slcR intR 1) 1 G w oa ar) (hac : ar.length ≤ ca) (hac2 : ar.length ≤ 9223372036854775807) (f : List Nat) (hU : Hid (gErr n es = 0 → Uf f (eL es)))
    (q : Int) (rot : List Int) (ot : Option Addr) (ct : Nat) (H : Foot) (hr : SliceR intR 1 H w ot rot) (hrc : rot.length ≤ ct) (hrl : rot.length ≤ 9223372036854775807)
    (d : List Int) (od : Option Addr) (cd : Nat) (D : Foot) (hd : SliceR intR 1 D w od d) (hdc : d.length ≤ cd) (hdl : d.length ≤ 9223372036854775807) :
    Calls Try.prog 27 #[.agg #[.int .i64 n, .slice oe es.length c, .slice oa ar.length ca], .int .i64 q, .slice ot rot.length ct, .slice od d.length cd] w (MovesPost w.heap.size w (allRes n es f ar q rot d)) := by
  go_enter Try.func27, Try.ntmps27
  go_wp2_with fail
  have hb0 := box_refl w (.cells #[.int .i64 n, .slice oe es.length c, .slice oa ar.length ca] 27)
  have haB : SliceR (slcR intR 1) 1 (Lt (w.heap.size + 1)) (w.alloc (.cells #[.int .i64 n, .slice oe es.length c, .slice oa ar.length ca] 27)) oa ar := by
    have := (ha.below (slcR_ok intR_ok (by decide)) (below_box hb0)).loc (slcR_ok intR_ok (by decide)) (by decide)
    simpa using this
  refine (given_any n es oe c ar oa ca F G _ (hs.below edgR_ok (below_box hb0)) hc hc2 (ha.below (slcR_ok intR_ok (by decide)) (below_box hb0)) hac hac2 f hU q rot ot ct H (hr.below intR_ok (below_box hb0)) hrc hrl d od cd D (hd.below intR_ok (below_box hb0)) hdc hdl).mono ?_
  rintro e w2 (⟨hG, p, rg, cap, tv, rest, rfl, hD, hb2⟩ | ⟨hG, rfl, hb2⟩)
  · have hx2 := hb2.mono (B' := w.heap.size + 1) (by simp)
    have HX := hide (below_box hx2)
    have hD2 : Brd (w.heap.size + 1) w2 p rg cap tv q (.slice oa ar.length ca) (toL (endsL es)) rot rest := hD.rebase (by simp)
    have ha2 : SliceR (slcR intR 1) 1 (Lt (w.heap.size + 1)) w2 oa ar := haB.below (slcR_ok intR_ok (by decide)) hb2
    have hsz2 := box_lt hx2
    obtain ⟨h1, h2⟩ := gvE_zero hG
    obtain ⟨q', rfl, hok⟩ := RtOk.of h1 hc2
    obtain ⟨k1, k2, k3⟩ := dErr_zero h2
    have HR : Hid (allRes n es f ar q' rot d = movesOf ar (endsL es) q' pk0 rot d) := if_pos hG
    have hrt := routeC_any (w.heap.size + 1) w2 p rg cap tv q' n es ar rot rest oa ca hD2 ha2 hok (by omega) d od cd D (hd.below intR_ok HX.out) hdc (by have := hok.nar; omega) k3
    have HRT := hide hrt
    clear hb2 hb0 hx2 hD hD2 haB ha2 h1 h2 hok k1 k2 k3 hG hrt
    go_wp2_with fail
    refine HRT.out.mono ?_
    rintro e w3 ⟨rv, cv, rfl, ho1, ho2, hb3⟩
    have HF : Hid (OwnS intR 1 w.heap.size 3 Non w3 rv (movesOf ar (endsL es) q' pk0 rot d).1 ∧ OwnS intR 1 w.heap.size 3 Non w3 cv (movesOf ar (endsL es) q' pk0 rot d).2.1 ∧ Below w.heap.size w w3) := ⟨ho1.rebase (by omega), ho2.rebase (by omega), HX.out.trans (hb3.mono (by omega))⟩
    clear ho1 ho2 hb3
    go_wp2_with fail
    refine bodyPost_ret (results_tmp3 rfl _ _ _) rfl ⟨_, _, by rw [HR.out]; rfl, ?_⟩
    rw [HR.out]
    exact HF.out
  · have HX := hide (below_box (hb2.mono (B' := w.heap.size + 1) (by simp)))
    have HR : Hid (allRes n es f ar q rot d = ([], [], gvE n es f ar q rot d)) := if_neg hG
    have hq : (gvE n es f ar q rot d != 0) = true := by simpa using hG
    clear hb2 hb0 haB hG
    go_wp2_with fail
    refine bodyPost_ret (results_tmp3 rfl _ _ _) rfl ⟨_, _, by rw [HR.out]; rfl, ?_⟩
    rw [HR.out]
    exact ⟨OwnS.nil _ _ _ _ _ _, OwnS.nil _ _ _ _ _ _, HX.out⟩

end Go.Proofs.Ytopldbnlehjlpaa

set_option linter.unusedVariables false
set_option linter.unusedSimpArgs false
set_option linter.unnecessarySimpa false
namespace Go.Proofs.Ytopldbnlehjlpaa
open Go.RowKit Go.Shelf

/-- Where the rotor at u points, and where one is behind i such steps. -/
def stV (ar : List (List Int)) (E : List (Int × Int)) (rot : List Int) (u : Nat) : Nat := (hv E (oppH ((ar.getD u []).getD (rot.getD u 0).toNat 0).toNat)).toNat
def itV (ar : List (List Int)) (E : List (Int × Int)) (rot : List Int) (v : Nat) : Nat → Nat
  | 0 => v
  | i + 1 => stV ar E rot (itV ar E rot v i)
theorem RtOk.look {n : Int} {es : List Edg} {ar : List (List Int)} {q : Nat} {rot : List Int} (h : RtOk n es ar q rot) {v : Nat} (hv' : v < ar.length) (hvq : v ≠ q) :
    ∃ (l : List Int) (k g : Nat), ar[v]? = some l ∧ rot[v]? = some (k : Int) ∧ k < l.length ∧ l.length ≤ 1000000 ∧ l[k]? = some (g : Int) ∧ (toL (endsL es))[g]? = some ((stV ar (endsL es) rot v : Nat) : Int) ∧ stV ar (endsL es) rot v < ar.length ∧ g < 2 * (endsL es).length := by
  obtain ⟨l, k, g, h1, h2, h3, h4, h5, h6⟩ := h.at hv' hvq
  have hr := h.rng _ (oppH_lt h6)
  have hn := h.nar
  have hV : stV ar (endsL es) rot v = (hv (endsL es) (oppH g)).toNat := by
    unfold stV
    rw [getD_of h1, getD_of h2, Int.toNat_natCast, getD_of h5, Int.toNat_natCast]
  refine ⟨l, k, g, h1, h2, h3, h4, h5, ?_, by rw [hV]; omega, h6⟩
  rw [toL_get _ g h6, hV]
  congr 1
  omega
theorem RtOk.roam {n : Int} {es : List Edg} {ar : List (List Int)} {q : Nat} {rot : List Int} (h : RtOk n es ar q rot) {v : Nat} (hv : v < ar.length) :
    ∀ i, (∀ j, j < i → itV ar (endsL es) rot v j ≠ q) → itV ar (endsL es) rot v i < ar.length
  | 0, _ => hv
  | i + 1, hp => by
    have h2 := h.roam hv i fun j hj => hp j (by omega)
    obtain ⟨_, _, _, _, _, _, _, _, _, h3, _⟩ := h.look h2 (hp i (by omega))
    exact h3

set_option maxRecDepth 100000 in
set_option maxHeartbeats 4000000 in
theorem acyc1_any (B : Nat) (w : World) (pb p rg cap : Nat) (tv : Value) (q : Nat) (n : Int) (es : List Edg) (ar : List (List Int)) (rot : List Int) (rest : List Value) (oa : Option Addr) (ca : Nat) (hpb : Boxed w pb 80 (.pointer (some ⟨p, 0, none⟩)))
    (hD : Brd B w p rg cap tv q (.slice oa ar.length ca) (toL (endsL es)) rot rest) (ha : SliceR (slcR intR 1) 1 (Lt B) w oa ar) (hok : RtOk n es ar q rot) (v : Nat) (hv' : v < ar.length) (hvq : v ≠ q) :
    Calls Try.prog 51 #[.int .i64 v, .pointer (some ⟨pb, 0, none⟩)] w fun e w' => e = .returned (.int .i64 (stV ar (endsL es) rot v : Nat)) ∧ ∃ nq, w' = w.drewN nq := by
  obtain ⟨l, k, g, h1, h2, h3, h4, h5, h6, _, h8⟩ := hok.look hv' hvq
  obtain ⟨x, _, hx, b, off, ol, cl, hoa, hbB, c0, hxl, _, hsl⟩ := ha.slc_at hv'
  rw [h1] at hx
  injection hx with hx
  subst hx
  subst hoa
  obtain ⟨y, _, hy, iy, b2, off2, hol, hb2, e0⟩ := hsl.int_at h3
  rw [h5] at hy
  injection hy with hy
  subst hy
  subst hol
  obtain ⟨ot, ct, rfl, htc, hst⟩ := hD.tos.slice intR_ok
  have htl : g < (toL (endsL es)).length := (List.getElem?_eq_some_iff.1 h6).1
  obtain ⟨z, _, hz, iz, b3, off3, hot, _, t0⟩ := hst.int_at htl
  rw [h6] at hz
  injection hz with hz
  subst hz
  subst hot
  have d1 := hD.box.cell 1
  have d2 := hD.box.cell 2
  have d3 := hD.box.cell 3
  simp only [List.getElem?_cons_zero, List.getElem?_cons_succ] at d1 d2 d3
  have r0 := hD.row.cell h2
  have hrl : v < rot.length := by rw [hok.nrot]; exact hv'
  have p0 := hpb.cell
  have hcap := hok.cap
  have hn12 := hok.n12
  clear h1 h2 h5 h6 hD hok hsl hst ha
  go_enter Try.func51, Try.ntmps51
  go_wp2_with fail
  go_quiet (fail)
  go_wp2_with fail
  go_ret
  exact ⟨rfl, _, rfl⟩

/-- The marks of ranges that are over. -/
def Marks (B : Nat) (ds : List Deferred) (w : World) : Prop := ∃ Ds : List Nat, ds = Ds.map (fun D => ({ target := .collected D, args := #[] } : Deferred)) ∧ Ds.Nodup ∧ ∀ D ∈ Ds, B ≤ D ∧ w.heap[D]? = some (.deferred (some []))
theorem Marks.nil (B : Nat) (w : World) : Marks B [] w := ⟨[], rfl, List.nodup_nil, fun _ h => by cases h⟩
theorem Marks.cons {B D : Nat} {ds : List Deferred} {w w' : World} (h : Marks B ds w) (hb : ∀ k, B ≤ k → k < w.heap.size → w'.heap[k]? = w.heap[k]?) (hD : w.heap.size ≤ D) (hB : B ≤ w.heap.size) (hk : w'.heap[D]? = some (.deferred (some []))) : Marks B ({ target := .collected D, args := #[] } :: ds) w' := by
  obtain ⟨Ds, rfl, h1, h2⟩ := h
  have hl : ∀ D' ∈ Ds, D' < w.heap.size := fun D' hD' => (Array.getElem?_eq_some_iff.1 (h2 D' hD').2).1
  refine ⟨D :: Ds, rfl, List.nodup_cons.2 ⟨fun hm => ?_, h1⟩, fun D' hD' => ?_⟩
  · have := hl D hm; omega
  · rcases List.mem_cons.1 hD' with rfl | hm
    · exact ⟨by omega, hk⟩
    · exact ⟨(h2 D' hm).1, (hb D' (h2 D' hm).1 (hl D' hm)).trans (h2 D' hm).2⟩
theorem Marks.keep {B : Nat} {ds : List Deferred} {w w' : World} (h : Marks B ds w) (hb : ∀ k, B ≤ k → w'.heap[k]? = w.heap[k]?) : Marks B ds w' := by
  obtain ⟨Ds, e, h1, h2⟩ := h
  exact ⟨Ds, e, h1, fun D' hD' => ⟨(h2 D' hD').1, (hb D' (h2 D' hD').1).trans (h2 D' hD').2⟩⟩
theorem ownFrom_keeps {β : Type} {lo B : Nat} {wr : World} (hB : wr.heap.size ≤ B) : OwnFrom B (fun (_ : β) W => ∀ k, lo ≤ k → k < wr.heap.size → W.heap[k]? = wr.heap[k]?) := fun _ X Y row h hg hr k h1 h2 => by
  have h3 := h k h1 h2
  have hl : k < X.heap.size := by
    rw [Array.getElem?_eq_getElem h2] at h3
    exact (Array.getElem?_eq_some_iff.1 h3).1
  rw [hg.block k hl (fun e => by have := (hr k e.symm).1; omega), h3]
theorem Marks.below {B : Nat} {ds : List Deferred} {w w' : World} (h : Marks B ds w) (hb : Below w.heap.size w w') : Marks B ds w' := by
  obtain ⟨Ds, e, h1, h2⟩ := h
  exact ⟨Ds, e, h1, fun D' hD' => ⟨(h2 D' hD').1, (hb.block D' (Array.getElem?_eq_some_iff.1 (h2 D' hD').2).1).trans (h2 D' hD').2⟩⟩
/-- The function leaves over its marks. -/
theorem leaves_marks {F : Fence} {n : Nat} {P : Program} {fn : Func} {tmps : Array Value} {R : Ending → World → Prop} {B : Nat} : ∀ (Ds : List Nat) (w : World), Ds.Nodup → (∀ D ∈ Ds, B ≤ D ∧ w.heap[D]? = some (.deferred (some []))) →
    (∀ w' : World, Below B w w' → (∀ (k : Nat) (o : Obj), w.heap[k]? = some o → o.isCells = true → w'.heap[k]? = some o) → LeavesInM F n P fn tmps R [] .returning w') →
    LeavesInM F n P fn tmps R (Ds.map (fun D => ({ target := .collected D, args := #[] } : Deferred))) .returning w
  | [], w, _, _, hf => hf w (Below.refl _ _) fun _ _ h _ => h
  | D :: Ds, w, hn, hm, hf => by
    obtain ⟨h1, h2⟩ := List.nodup_cons.1 hn
    obtain ⟨hB, hD⟩ := hm D (List.mem_cons_self ..)
    refine ⟨by simp, .inl ⟨D, _, rfl, run_takeDeferred hD, ?_⟩⟩
    refine leaves_marks (B := B) Ds _ h2 (fun D' hD' => ?_) fun w' hb hc => hf w' ?_ fun k o hk ho => hc k o ?_ ho
    · have hne : D' ≠ D := fun e => h1 (e ▸ hD')
      exact ⟨(hm D' (List.mem_cons_of_mem _ hD')).1, (World.putObj_heap_other hne).trans (hm D' (List.mem_cons_of_mem _ hD')).2⟩
    · have h0 : Below B w (w.putObj D (.deferred none)) := ⟨rfl, rfl, rfl, by simp, fun k hk => World.putObj_heap_other (by omega)⟩
      exact h0.trans hb
    · refine (World.putObj_heap_other fun e => ?_).trans hk
      subst e
      rw [hD] at hk
      injection hk with hk
      subst hk
      cases ho

/-- Between the yields of a way that only looks: the count in box b, and what lay before. -/
structure LA (wr : World) (b k : Nat) (W : World) : Prop where
  cnt : Boxed W b 3 (.int .i64 (k : Int))
  low : Below wr.heap.size wr W
theorem LA.from {β : Type} {wr : World} {b B : Nat} (hB : wr.heap.size ≤ B) (k : β → Nat) : OwnFrom B (fun (s : β) W => LA wr b (k s) W) := fun s X Y row h hg hr =>
  ⟨boxed_own b 3 (fun s : β => Value.int .i64 (k s : Nat)) s X Y row h.cnt hg (fun r e => (hr r e).2), ownFrom_below (β := Unit) (Nat.le_refl _) hB () X Y row h.low hg hr⟩
theorem looksJ {wr : World} {b B h q : Nat} {fv : Value} (hB : wr.heap.size ≤ B) (V k : Nat → Nat) (P : Nat → Prop) : OwnFrom B (fun i W => WayBox W h (V i) q fv ∧ (LA wr b (k i) W ∧ P i)) :=
  ((WayBox.own V).from B).and ((LA.from hB k).and (ownFrom_const P))
theorem looksJd {wr : World} {b B q : Nat} (hB : wr.heap.size ≤ B) (V k : Nat → Nat) (P : Nat → Prop) : OwnFrom B (fun (_ : Unit) W => ∃ i, V i = q ∧ (LA wr b (k i) W ∧ P i)) :=
  ownFrom_ex ((ownFrom_const (fun i => V i = q)).and ((LA.from hB k).and (ownFrom_const P)))

set_option maxHeartbeats 1000000 in
theorem looks_seq {n : Int} {es : List Edg} {ar : List (List Int)} {q : Nat} {rot : List Int} (hok : RtOk n es ar q rot) {v : Nat} (hv : v < ar.length) (m : Nat) (hm : 1 ≤ m) (B : Nat) (wr : World) (h b pb p rg cap : Nat) (tv : Value) (oa : Option Addr) (ca : Nat) (rest : List Value)
    (hpb : Boxed wr pb 80 (.pointer (some ⟨p, 0, none⟩))) (hD : Brd B wr p rg cap tv q (.slice oa ar.length ca) (toL (endsL es)) rot rest) (ha : SliceR (slcR intR 1) 1 (Lt B) wr oa ar) (hbh : b < h) (hbw : wr.heap.size ≤ b) (M : Nat) :
    SeqJoint Go.Fence.wide m Try.prog 72 #[.pointer (some ⟨h, 0, none⟩), .pointer (some ⟨h + 1, 0, none⟩), .pointer (some ⟨h + 2, 0, none⟩)] (fun i => #[.int .i64 (itV ar (endsL es) rot v i : Nat)])
      (fun i W => WayBox W h (itV ar (endsL es) rot v i) q (.func (.func 51) #[] #[.pointer (some ⟨pb, 0, none⟩)]) ∧ (LA wr b i W ∧ Hid (i ≤ M ∧ ∀ j, j < i → itV ar (endsL es) rot v j ≠ q)))
      (fun i W => WayBox W h (itV ar (endsL es) rot v i) q (.func (.func 51) #[] #[.pointer (some ⟨pb, 0, none⟩)]) ∧ (LA wr b (i + 1) W ∧ Hid (i < M ∧ ∀ j, j < i → itV ar (endsL es) rot v j ≠ q)))
      (fun W => ∃ i, itV ar (endsL es) rot v i = q ∧ (LA wr b (i + 1) W ∧ Hid (i < M ∧ ∀ j, j < i → itV ar (endsL es) rot v j ≠ q))) := by
  refine way1_looks Go.Fence.wide m trivial trivial rfl hm h pb (itV ar (endsL es) rot v) q M _ _ (fun i W hy => hy.2.out.1) ?_ ?_
  · rintro i W ⟨hA, hM⟩ hne
    have hv2 := hok.roam hv i hM.out.2
    refine callsIn_wide.2 ((acyc1_any B W pb p rg cap tv q n es ar rot rest oa ca (boxed_same hpb (hA.low.block pb hpb.lt)) (hD.below hA.low) (ha.below (slcR_ok intR_ok (by decide)) hA.low) hok _ hv2 hne).mono ?_)
    rintro e W' ⟨rfl, nq, rfl⟩
    refine ⟨rfl, ⟨⟨hA.cnt, below_drewN hA.low nq⟩, ⟨hM.out.1, fun j hj => ?_⟩⟩, ⟨Nat.le_refl _, fun _ _ h _ => h⟩, fun _ _ _ _ => rfl⟩
    by_cases hji : j = i
    · subst hji; exact hne
    · exact hM.out.2 j (by omega)
  · rintro i W x ⟨hA, hM⟩
    exact ⟨⟨hA.cnt.other (by omega) _, hA.low.setCell (p := ⟨h, 0, none⟩) (by simp; omega) x⟩, hM⟩

end Go.Proofs.Ytopldbnlehjlpaa

set_option linter.unusedVariables false
set_option linter.unusedSimpArgs false
set_option linter.unnecessarySimpa false
namespace Go.Proofs.Ytopldbnlehjlpaa
open Go.RowKit Go.Shelf

attribute [local go_sem] Oper.semAt_some

theorem agg_bool : ∀ w, (isAgg 4).run Try.prog w = .ok false w := by intro w; kernel_rfl
/-- From each vertex one comes to the sink, before len steps. -/
def acyB (ar : List (List Int)) (E : List (Int × Int)) (q : Nat) (rot : List Int) (m k : Nat) : Bool := (List.range k).all fun v => (firstAt (itV ar E rot v) q m).isSome

def BoolErr (w : World) (b : Bool) (x : Int) (e : Ending) (w' : World) : Prop := e = .returned (.tuple #[.bool b, .int .i64 x]) ∧ Below w.heap.size w w'

set_option maxRecDepth 100000 in
set_option maxHeartbeats 4000000 in
theorem acyclic_in (n0 : Nat) (hn0 : 4 ≤ n0) (n : Int) (es : List Edg) (oe : Option Addr) (c : Nat) (ar : List (List Int)) (oa : Option Addr) (ca : Nat) (F G : Foot) (w : World) (hs : SliceR edgR 3 F w oe es) (hc : es.length ≤ c) (hc2 : es.length ≤ 1000)
    (ha : SliceR (slcR intR 1) 1 G w oa ar) (hac : ar.length ≤ ca) (hac2 : ar.length ≤ 9223372036854775807) (f : List Nat) (hU : Hid (gErr n es = 0 → Uf f (eL es)))
    (q : Nat) (rot : List Int) (ot : Option Addr) (ct : Nat) (H : Foot) (hr : SliceR intR 1 H w ot rot) (hrc : rot.length ≤ ct) (hrl : rot.length ≤ 9223372036854775807)
    (hE : Hid (rtE n es f ar q rot = 0)) (hok : RtOk n es ar q rot) :
    CallsIn Go.Fence.wide n0 Try.prog 24 #[.agg #[.int .i64 n, .slice oe es.length c, .slice oa ar.length ca], .int .i64 q, .slice ot rot.length ct] w
      (BoolErr w (acyB ar (endsL es) q rot rot.length rot.length) 0) := by
  have h1 : 1 ≤ n0 := by omega
  have HOK := hide hok
  have cA : ∀ W : World, Below w.heap.size w W → CallsIn Go.Fence.wide (n0 - 1) Try.prog 49 #[.agg #[.int .i64 n, .slice oe es.length c, .slice oa ar.length ca], .int .i64 q, .slice ot rot.length ct] W (BoardPost W n es f ar oa ca q rot) := fun W hW =>
    callsIn_wide.2 (boardOf_any n es oe c ar oa ca F G W (hs.below edgR_ok hW) hc hc2 (ha.below (slcR_ok intR_ok (by decide)) hW) hac hac2 f hU q rot ot ct H (hr.below intR_ok hW) hrc hrl hE)
  have HA := hide cA
  have hf1 : Go.Fence.wide.fn 49 := trivial
  have hf2 : Go.Fence.wide.fn 45 := trivial
  have haB : ∀ W : World, Below w.heap.size w W → SliceR (slcR intR 1) 1 (Lt W.heap.size) W oa ar := fun W hW => (ha.below (slcR_ok intR_ok (by decide)) hW).loc (slcR_ok intR_ok (by decide)) (by decide)
  obtain ⟨w1, hw1⟩ : ∃ w1, ((w.alloc (.cells #[.int .i64 n, .slice oe es.length c, .slice oa ar.length ca] 27)).alloc (.cells #[.bool false] 4)).alloc (.cells #[.int .i64 0] 33) = w1 := ⟨_, rfl⟩
  have hB1 : Below w.heap.size w w1 := by rw [← hw1]; exact bnew (bnew (bnew (Below.refl _ _) _) _) _
  have hsz1 : w1.heap.size = w.heap.size + 3 := by rw [← hw1]; simp
  have bR1 : Boxed w1 (w.heap.size + 1) 4 (.bool false) := by rw [← hw1]; have := (Boxed.new (w.alloc (.cells #[.int .i64 n, .slice oe es.length c, .slice oa ar.length ca] 27)) 4 (.bool false)).alloc (.cells #[.int .i64 0] 33); simpa using this
  have bR2 : Boxed w1 (w.heap.size + 2) 33 (.int .i64 0) := by rw [← hw1]; have := Boxed.new ((w.alloc (.cells #[.int .i64 n, .slice oe es.length c, .slice oa ar.length ca] 27)).alloc (.cells #[.bool false] 4)) 33 (.int .i64 0); simpa using this
  have d012 : ∀ i x, #[Value.int .i64 n, .slice oe es.length c, .slice oa ar.length ca][i]? = some x → w1.cell? ⟨w.heap.size, i, none⟩ = some x := fun i x hx => by
    have hbb : Below (w.heap.size + 1) (w.alloc (.cells #[.int .i64 n, .slice oe es.length c, .slice oa ar.length ca] 27)) w1 := by
      rw [← hw1]; exact ((box_refl _ _).alloc (by simp) _).alloc (by simp) _
    rw [box_cell hbb i, hx]
  have d0 := d012 0 _ rfl
  have d1 := d012 1 _ rfl
  have d2 := d012 2 _ rfl
  have HAB1 := hide (haB _ hB1)
  have HBR := hide (And.intro bR1 bR2)
  have HB1 := hide hB1
  have hrl12 : rot.length ≤ 12 := by rw [hok.nrot]; exact hok.n12
  clear d012 bR1 bR2 hB1 haB cA hok
  refine callsIn_of_wp_marks Try.func24 rfl trivial ?_ rfl
  simp only [Try.ntmps24, List.size_toArray, List.length_cons, List.length_nil, Nat.reduceAdd, Nat.reduceSub, Array.replicate_succ, Array.replicate_zero, List.push_toArray, List.append_toArray, List.nil_append, List.cons_append]
  gi_wp2_with (first | (gi_at_call 49; refine (HA.out _ HB1.out).mono ?_; rintro e w2 ⟨p, rg, cap, tv, rest, rfl, hDo, hbo⟩; have d3 := hDo.box.cell 3; simp only [List.getElem?_cons_zero, List.getElem?_cons_succ] at d3; have hp2 := hDo.box.lt; replace hDo := hide hDo; replace hbo := hide hbo; clear d0 d1 d2))
  obtain ⟨W2, hW2⟩ : ∃ W2, w2.alloc (.cells #[.pointer (some ⟨p, 0, none⟩)] 80) = W2 := ⟨_, rfl⟩
  have hszW2 : W2.heap.size = w2.heap.size + 1 := by rw [← hW2]; simp
  have hpb2 : Boxed W2 w2.heap.size 80 (.pointer (some ⟨p, 0, none⟩)) := by rw [← hW2]; exact Boxed.new w2 _ _
  have hl2 : Below w2.heap.size w2 W2 := by rw [← hW2]; exact bnew (Below.refl _ _) _
  have hs12 := hbo.out.size
  rw [hW2]
  have HD2 := hide (hDo.out.below hl2)
  have HL2 := hide (hbo.out.trans (hl2.mono hs12))
  have HP2 := hide hpb2
  clear hW2 hl2 hpb2 d3 hDo hbo
  have hfin : ∀ (W9 : World) (bv : Bool) (ds : List Deferred) (tmps : Array Value), Boxed W9 (w.heap.size + 1) 4 (.bool bv) → Boxed W9 (w.heap.size + 2) 33 (.int .i64 0) → Below w.heap.size w W9 → Marks w2.heap.size ds W9 →
      bv = acyB ar (endsL es) q rot rot.length rot.length → tmps.getD 6 undef = .pointer (some ⟨w.heap.size + 1, 0, none⟩) → tmps.getD 7 undef = .pointer (some ⟨w.heap.size + 1 + 1, 0, none⟩) →
      bodyPostM Go.Fence.wide n0 Try.prog Try.f24 (BoolErr w (acyB ar (endsL es) q rot rot.length rot.length) 0) .ret { tmps := tmps, defers := ds } W9 := by
    intro W9 bv ds tmps b1 b2 hb hm he h6 h7
    obtain ⟨Ds, rfl, hnd, hDs⟩ := hm
    refine leaves_marks (B := w2.heap.size) Ds W9 hnd hDs fun w' hb' hc' => ?_
    refine ⟨_, results_cells2 rfl agg_bool agg_errno _ _ _ _ _ _ h6 h7 (Boxed.cell (show Boxed w' _ _ _ from hc' _ _ b1 rfl)) (Boxed.cell (show Boxed w' _ _ _ from hc' _ _ b2 rfl)), ?_⟩
    exact ⟨by rw [he], hb.trans (hb'.mono (by omega))⟩
  have HFIN := hide hfin
  clear hfin
  refine wpIn_loop (fun a' w' => ∃ (k : Nat) (ds : List Deferred) (u10 u11 u28 u29 u30 u31 u32 u33 u34 u35 u36 u37 u38 u39 u40 u41 u42 u43 u44 : Value), (k ≤ rot.length ∧ Marks w2.heap.size ds w' ∧ Below W2.heap.size W2 w' ∧ Hid (acyB ar (endsL es) q rot rot.length k = true)) ∧ a' = { tmps := #[.agg #[.int .i64 n, .slice oe es.length c, .slice oa ar.length ca], .int .i64 q, .slice ot rot.length ct, .pointer (some ⟨w.heap.size, 0, none⟩), undef, undef, .pointer (some ⟨w.heap.size + 1, 0, none⟩), .pointer (some ⟨w.heap.size + 1 + 1, 0, none⟩), .pointer (some ⟨w2.heap.size, 0, none⟩), .int .i64 0, u10, u11, .tuple #[.pointer (some ⟨p, 0, none⟩), .int .i64 0], .agg #[.int .i64 n, .slice oe es.length c, .slice oa ar.length ca], .int .i64 q, .slice ot rot.length ct, .tuple #[.pointer (some ⟨p, 0, none⟩), .int .i64 0], .pointer (some ⟨p, 0, none⟩), .int .i64 0, .int .i64 0, .bool false, undef, .pointer (some ⟨p, 0, none⟩), .pointer (some ⟨p, 0, none⟩), .pointer (some ⟨p, 3, none⟩), .slice (some ⟨rg, 0, none⟩) rot.length cap, .int .i64 rot.length, .int .i64 (k : Nat), u28, u29, u30, u31, u32, u33, u34, u35, u36, u37, u38, u39, u40, u41, u42, u43, u44], defers := ds })
    (fun a' _ => rot.length - (intOf (a'.tmps.getD 27 undef)).toNat) ?atStart ?round
  case atStart =>
    exact ⟨0, [], _, _, _, _, _, _, _, _, _, _, _, _, _, _, _, _, _, _, _, ⟨by omega, Marks.nil _ _, Below.refl _ _, rfl⟩, rfl⟩
  case round =>
    rintro a' wr ⟨k, ds, u10, u11, u28, u29, u30, u31, u32, u33, u34, u35, u36, u37, u38, u39, u40, u41, u42, u43, u44, ⟨hk, hM, hbW, HAy⟩, rfl⟩
    have hszr := hbW.size
    have hDr := HD2.out.below hbW
    have hpbr := boxed_same HP2.out (hbW.block _ (by omega))
    have HLr := hide (HL2.out.trans (hbW.mono (by omega)))
    have HM := hide hM
    have HBW := hide hbW
    by_cases hlt : k < rot.length
    · have hkar : k < ar.length := by rw [← HOK.out.nrot]; exact hlt
      have cW : CallsIn Go.Fence.wide (n0 - 1) Try.prog 45 #[.int .i64 k, .int .i64 q, .func (.func 51) #[] #[.pointer (some ⟨w2.heap.size, 0, none⟩)]] (wr.alloc (.cells #[.int .i64 0] 3)) _ := callsIn_wide.2 (way_any k q _ _ _ _)
      have HW := hide cW
      have HDr := hide hDr
      have HPr := hide hpbr
      clear hM hbW hDr hpbr cW
      gi_wp2_with (first | (gi_at_call 45; refine HW.out.mono ?_; rintro e w3 ⟨rfl, rfl⟩))
      obtain ⟨W1, hW1⟩ : ∃ W1, (((wr.alloc (.cells #[.int .i64 0] 3)).alloc (.cells #[.int .i64 (k : Int)] 3)).alloc (.cells #[.int .i64 (q : Int)] 3)).alloc (.cells #[.func (.func 51) #[] #[.pointer (some ⟨w2.heap.size, 0, none⟩)]] 83) = W1 := ⟨_, rfl⟩
      have hszW : W1.heap.size = wr.heap.size + 4 := by rw [← hW1]; simp
      have hWB : WayBox W1 (wr.heap.size + 1) k q (.func (.func 51) #[] #[.pointer (some ⟨w2.heap.size, 0, none⟩)]) := by
        have := way_boxes k q (.func (.func 51) #[] #[.pointer (some ⟨w2.heap.size, 0, none⟩)]) (wr.alloc (.cells #[.int .i64 0] 3))
        rw [← hW1]
        simpa using this
      have hBO : Boxed W1 wr.heap.size 3 (.int .i64 ((0 : Nat) : Int)) := by rw [← hW1]; exact (((Boxed.new wr _ _).alloc _).alloc _).alloc _
      have hb21 : Below wr.heap.size wr W1 := by rw [← hW1]; exact bnew (bnew (bnew (bnew (Below.refl _ _) _) _) _) _
      have har : SliceR (slcR intR 1) 1 (Lt w1.heap.size) wr oa ar := HAB1.out.below (slcR_ok intR_ok (by decide)) (HL2.out.trans (HBW.out.mono (by omega)))
      rw [hW1]
      clear hW1
      refine wpIn_rangeFunc_joint rfl h1 (gf := 72) (lb := #[.pointer (some ⟨wr.heap.size + 1, 0, none⟩), .pointer (some ⟨wr.heap.size + 1 + 1, 0, none⟩), .pointer (some ⟨wr.heap.size + 1 + 2, 0, none⟩)]) rfl trivial (enters_of Try.func72 (by kernel_rfl) rfl) _ (fun _ => rfl) _ _
        (fun c W => c = .ret ∧ (Boxed W (w.heap.size + 1) 4 (.bool false) ∧ Boxed W (w.heap.size + 2) 33 (.int .i64 0) ∧ Below w.heap.size w W ∧ (∀ j, w2.heap.size ≤ j → j < wr.heap.size → W.heap[j]? = wr.heap[j]?) ∧ Hid (∀ j, j < rot.length → itV ar (endsL es) rot k j ≠ q))) _
        (looks_seq HOK.out hkar (n0 - 1) (by omega) w1.heap.size wr (wr.heap.size + 1) wr.heap.size w2.heap.size p rg cap tv oa ca rest HPr.out HDr.out har (by omega) (by omega) rot.length)
        (looksJ (by omega) _ _ _) (looksJ (by omega) _ _ _)
        ((ownFrom_const _).and (((boxed_own _ _ (fun _ : Code => _)).from _).and (((boxed_own _ _ (fun _ : Code => _)).from _).and ((ownFrom_below (by omega) (by omega)).and ((ownFrom_keeps (by omega)).and (ownFrom_const _))))))
        (looksJd (by omega) _ _ _)
        ⟨hWB, ⟨hBO, hb21⟩, ⟨by omega, fun j hj => absurd hj (by omega)⟩⟩ ?act1 ?assign ?body ?done ?stop
      case assign =>
        intro l i W K hK
        gi_wp2
        exact hK
      case body =>
        rintro l i W ⟨hb, hL, hM⟩
        have hc := hL.cnt.cell
        have hf := hL.cnt.frozen
        have hszl := hL.low.size
        have hlt1 : wr.heap.size + 1 + 2 < W.heap.size := hb.bs.lt
        have hlw := HLr.out.trans (hL.low.mono (by omega))
        have b1 : Boxed W (w.heap.size + 1) 4 (.bool false) := boxed_same HBR.out.1 (hlw.block _ (by omega))
        have b2 : Boxed W (w.heap.size + 2) 33 (.int .i64 0) := boxed_same HBR.out.2 (hlw.block _ (by omega))
        obtain ⟨W5, hW5⟩ : ∃ W5, W.setCell ⟨wr.heap.size, 0, none⟩ (.int .i64 ((i : Int) + 1)) = W5 := ⟨_, rfl⟩
        have hn5 : ∀ j, j ≠ wr.heap.size → W5.heap[j]? = W.heap[j]? := fun j hj => by rw [← hW5]; exact Below.heap_setCell _ _ _ j (by simpa using hj)
        have hc5 : Boxed W5 wr.heap.size 3 (.int .i64 ((i : Int) + 1)) := by rw [← hW5]; exact hL.cnt.set _
        have hk5 : KeepsOthers W W5 := by rw [← hW5]; exact KeepsOthers.setCell _ _ _
        have hl5 : Below wr.heap.size wr W5 := by rw [← hW5]; exact hL.low.setCell (p := ⟨wr.heap.size, 0, none⟩) (by simp) _
        have p5 := boxed_same HPr.out (hl5.block _ (HPr.out.lt))
        have p0 := p5.cell
        have d3 := (HDr.out.below hl5).box.cell 3
        simp only [List.getElem?_cons_zero, List.getElem?_cons_succ] at d3
        have e0 := hc5.cell
        have b15 := boxed_same b1 (hn5 _ (by omega))
        have b25 := boxed_same b2 (hn5 _ (by omega))
        have c1 := b15.cell
        have f1 := b15.frozen
        have c2 := b25.cell
        have f2 := b25.frozen
        have HX5 := hide (And.intro hc5 (And.intro hk5 (And.intro hl5 (And.intro hn5 (And.intro b15 b25)))))
        have hi1 : i ≤ rot.length := hM.out.1
        replace hb := hide hb
        replace hL := hide hL
        clear hc5 hk5 hl5 p5 hn5 b15 b25 b1 b2 hlw
        by_cases hi : i = rot.length
        · have q1 : decide ((rot.length : Int) < (i : Int) + 1) = true := by simp; omega
          replace hi := hide hi
          gi_wp2
          gi_region
          all_goals
            gi_wp2
            obtain ⟨hc5, hk5, hl5, hn5, b15, b25⟩ := HX5.out
            have hi' := hi.out
            have hbel : Below w.heap.size w W5.drew := (HB1.out.trans ((HLr.out.trans (hl5.mono (by omega))).mono (by omega))).drew
            have hkd : KeepsOthers W W5.drew := ⟨hk5.size, hk5.same⟩
            refine ⟨(hkd.trans (KeepsOthers.setCell _ _ _)).trans (KeepsOthers.setCell _ _ _), rfl, (Boxed.set (.bool false) (show Boxed W5.drew _ _ _ from b15)).other (by omega) _, (Boxed.other (show Boxed W5.drew _ _ _ from b25) (by omega) _).set _,
              (hbel.setCell (p := ⟨w.heap.size + 1, 0, none⟩) (by simp) _).setCell (p := ⟨w.heap.size + 1 + 1, 0, none⟩) (by simp; omega) _, fun j hj1 hj2 => ?_, fun j hj => hM.out.2 j (by omega)⟩
            show ((W5.setCell ⟨w.heap.size + 1, 0, none⟩ (.bool false)).setCell ⟨w.heap.size + 1 + 1, 0, none⟩ (.int .i64 0)).heap[j]? = _
            rw [Below.heap_setCell _ _ _ j (by simp; omega), Below.heap_setCell _ _ _ j (by simp; omega)]
            exact hl5.block j hj2
        · have q1 : decide ((rot.length : Int) < (i : Int) + 1) = false := by simp; omega
          have hi3 : i < rot.length := by omega
          clear hi
          gi_wp2
          gi_region
          all_goals
            gi_wp2
            obtain ⟨hc5, hk5, hl5, hn5, b15, b25⟩ := HX5.out
            refine ⟨⟨hk5.size, hk5.same⟩, hb.out.keep (fun j hj1 hj2 hj3 => hn5 j (by omega)), ⟨?_, hl5.drew⟩, ⟨hi3, hM.out.2⟩⟩
            rw [show ((i + 1 : Nat) : Int) = (i : Int) + 1 by omega]
            exact hc5
      case done =>
        rintro D W hDl ⟨i, hVi, hL, hM⟩ hK
        have hsl := hL.low.size
        have hmk : Marks w2.heap.size ({ target := .collected D, args := #[] } :: ds) W := HM.out.cons (fun j _ hj => hL.low.block j hj) (by omega) (by omega) hK
        have hac1 : acyB ar (endsL es) q rot rot.length (k + 1) = true := by
          have h3 := HAy.out
          unfold acyB at h3 ⊢
          rw [List.range_succ, List.all_append, h3, List.all_cons, List.all_nil, firstAt_some hM.out.1 hVi hM.out.2]
          rfl
        have HF := hide (And.intro hmk (And.intro (HBW.out.trans (hL.low.mono hszr)) hac1))
        clear hmk hac1
        gi_wp2
        exact ⟨⟨k + 1, _, _, _, _, _, _, _, _, _, _, _, _, _, _, _, _, _, _, _, _, ⟨by omega, HF.out.1, HF.out.2.1, HF.out.2.2⟩, by first | rfl | (simp; done)⟩, by simp [intOf]; omega⟩
      case stop =>
        rintro D c W hDl ⟨rfl, b1, b2, hB, hkp, hno⟩ hK
        have hmk : Marks w2.heap.size ({ target := .collected D, args := #[] } :: ds) W := HM.out.cons (fun j hj1 hj2 => hkp j hj1 hj2) (by omega) (by omega) hK
        have HRes : Hid (false = acyB ar (endsL es) q rot rot.length rot.length) := by
          show _ = _
          symm
          unfold acyB
          rw [List.all_eq_false]
          exact ⟨k, by simpa using hlt, by rw [firstAt_none hno.out]; simp⟩
        gi_wp2
        exact HFIN.out _ false _ _ b1 b2 hB hmk HRes.out rfl rfl
    · have hke : k = rot.length := by omega
      have HRes : Hid (acyB ar (endsL es) q rot rot.length rot.length = true) := by have := HAy.out; rw [hke] at this; exact this
      have b1 : Boxed wr (w.heap.size + 1) 4 (.bool false) := boxed_same HBR.out.1 (HLr.out.block _ (by omega))
      have b2 : Boxed wr (w.heap.size + 2) 33 (.int .i64 0) := boxed_same HBR.out.2 (HLr.out.block _ (by omega))
      have c1 := b1.cell
      have f1 := b1.frozen
      have c2 := b2.cell
      have f2 := b2.frozen
      have HB := hide (And.intro b1 b2)
      clear hM hbW hDr hpbr b1 b2 hke
      gi_wp2
      obtain ⟨b1, b2⟩ := HB.out
      refine HFIN.out _ true ds _ ((b1.set (.bool true)).other (by omega) _) ((b2.other (by omega) _).set _) (((HB1.out.trans (HLr.out.mono (by omega))).setCell (p := ⟨w.heap.size + 1, 0, none⟩) (by simp) _).setCell (p := ⟨w.heap.size + 1 + 1, 0, none⟩) (by simp; omega) _) (HM.out.keep fun j hj => ?_) HRes.out.symm rfl rfl
      rw [Below.heap_setCell _ _ _ j (by simp; omega), Below.heap_setCell _ _ _ j (by simp; omega)]

section
variable (n : Int) (es : List Edg) (oe : Option Addr) (c : Nat) (ar : List (List Int)) (oa : Option Addr) (ca : Nat) (F G : Foot) (w : World) (hs : SliceR edgR 3 F w oe es) (hc : es.length ≤ c) (hc2 : es.length ≤ 1000)
    (ha : SliceR (slcR intR 1) 1 G w oa ar) (hac : ar.length ≤ ca) (hac2 : ar.length ≤ 9223372036854775807) (f : List Nat) (hU : Hid (gErr n es = 0 → Uf f (eL es)))
    (q : Int) (rot : List Int) (ot : Option Addr) (ct : Nat) (H : Foot) (hr : SliceR intR 1 H w ot rot) (hrc : rot.length ≤ ct) (hrl : rot.length ≤ 9223372036854775807)
include hs hc hc2 ha hac hac2 hU hr hrc hrl

set_option maxRecDepth 100000 in
set_option maxHeartbeats 2000000 in
theorem acyclic_no (hE : Hid (rtE n es f ar q rot ≠ 0)) :
    Calls Try.prog 24 #[.agg #[.int .i64 n, .slice oe es.length c, .slice oa ar.length ca], .int .i64 q, .slice ot rot.length ct] w (BoolErr w false (rtE n es f ar q rot)) := by
  go_enter Try.func24, Try.ntmps24
  obtain ⟨w1, hw1⟩ : ∃ w1, ((w.alloc (.cells #[.int .i64 n, .slice oe es.length c, .slice oa ar.length ca] 27)).alloc (.cells #[.bool false] 4)).alloc (.cells #[.int .i64 0] 33) = w1 := ⟨_, rfl⟩
  have hB1 : Below w.heap.size w w1 := by rw [← hw1]; exact bnew (bnew (bnew (Below.refl _ _) _) _) _
  have hsz1 : w1.heap.size = w.heap.size + 3 := by rw [← hw1]; simp
  have bR1 : Boxed w1 (w.heap.size + 1) 4 (.bool false) := by rw [← hw1]; have := (Boxed.new (w.alloc (.cells #[.int .i64 n, .slice oe es.length c, .slice oa ar.length ca] 27)) 4 (.bool false)).alloc (.cells #[.int .i64 0] 33); simpa using this
  have bR2 : Boxed w1 (w.heap.size + 2) 33 (.int .i64 0) := by rw [← hw1]; have := Boxed.new ((w.alloc (.cells #[.int .i64 n, .slice oe es.length c, .slice oa ar.length ca] 27)).alloc (.cells #[.bool false] 4)) 33 (.int .i64 0); simpa using this
  have d012 : ∀ i x, #[Value.int .i64 n, .slice oe es.length c, .slice oa ar.length ca][i]? = some x → w1.cell? ⟨w.heap.size, i, none⟩ = some x := fun i x hx => by
    have hbb : Below (w.heap.size + 1) (w.alloc (.cells #[.int .i64 n, .slice oe es.length c, .slice oa ar.length ca] 27)) w1 := by
      rw [← hw1]; exact ((box_refl _ _).alloc (by simp) _).alloc (by simp) _
    rw [box_cell hbb i, hx]
  have d0 := d012 0 _ rfl
  have d1 := d012 1 _ rfl
  have d2 := d012 2 _ rfl
  have HA := hide (boardOf_err n es oe c ar oa ca F G w1 (hs.below edgR_ok hB1) hc hc2 (ha.below (slcR_ok intR_ok (by decide)) hB1) hac hac2 f hU q rot ot ct H (hr.below intR_ok hB1) hrc hrl hE)
  have HBR := hide (And.intro hB1 (And.intro bR1 bR2))
  clear d012 bR1 bR2 hB1
  go_wp2_with fail
  refine HA.out.mono ?_
  rintro e w2 ⟨rfl, hb2⟩
  have hq : (rtE n es f ar q rot != 0) = true := by simpa using hE.out
  have b1 : Boxed w2 (w.heap.size + 1) 4 (.bool false) := boxed_same HBR.out.2.1 (hb2.block _ (by omega))
  have b2 : Boxed w2 (w.heap.size + 2) 33 (.int .i64 0) := boxed_same HBR.out.2.2 (hb2.block _ (by omega))
  have c1 := b1.cell
  have f1 := b1.frozen
  have c2 := b2.cell
  have f2 := b2.frozen
  have z1 := b1.lt
  have z2 := b2.lt
  have HB := hide (And.intro b1 (And.intro b2 hb2))
  clear b1 b2 hb2
  go_wp2_with fail
  obtain ⟨b1, b2, hb3⟩ := HB.out
  have b1 := ((b1.set (.bool false)).other (show w.heap.size + 1 ≠ w.heap.size + 1 + 1 by omega) (.int .i64 (rtE n es f ar q rot))).alloc (.cells #[.pointer none] 80)
  have b2 := ((b2.other (show w.heap.size + 2 ≠ w.heap.size + 1 by omega) (.bool false)).set (.int .i64 (rtE n es f ar q rot))).alloc (.cells #[.pointer none] 80)
  refine bodyPost_ret (results_cells2 rfl agg_bool agg_errno _ _ _ _ _ _ rfl rfl b1.cell b2.cell) rfl ?_
  exact ⟨rfl, bnew (((HBR.out.1.trans (hb3.mono (by omega))).setCell (p := ⟨w.heap.size + 1, 0, none⟩) (by simp) _).setCell (p := ⟨w.heap.size + 1 + 1, 0, none⟩) (by simp; omega) _) _⟩

/-- Whether rotors are acyclic, or the error. -/
def acycRes (n : Int) (es : List Edg) (f : List Nat) (ar : List (List Int)) (q : Int) (rot : List Int) : Bool × Int :=
  if rtE n es f ar q rot = 0 then (acyB ar (endsL es) q.toNat rot rot.length rot.length, 0) else (false, rtE n es f ar q rot)
theorem rotAcyclic_any :
    Calls Try.prog 24 #[.agg #[.int .i64 n, .slice oe es.length c, .slice oa ar.length ca], .int .i64 q, .slice ot rot.length ct] w (BoolErr w (acycRes n es f ar q rot).1 (acycRes n es f ar q rot).2) := by
  by_cases hR : rtE n es f ar q rot = 0
  · obtain ⟨q', rfl, hok⟩ := RtOk.of hR hc2
    rw [acycRes, if_pos hR]
    exact (callsIn_wide (n := 4)).1 (acyclic_in 4 (by omega) n es oe c ar oa ca F G w hs hc hc2 ha hac hac2 f hU q' rot ot ct H hr hrc hrl hR hok)
  · rw [acycRes, if_neg hR]
    exact acyclic_no n es oe c ar oa ca F G w hs hc hc2 ha hac hac2 f hU q rot ot ct H hr hrc hrl hR
end

end Go.Proofs.Ytopldbnlehjlpaa

set_option linter.unusedVariables false
set_option linter.unusedSimpArgs false
namespace Go.Proofs.Ytopldbnlehjlpaa
open Go.RowKit

theorem tv_rt : rtE 3 triE (forest triE) triA 0 [0, 0, 0] = 0 := by decide +kernel
theorem tv_rt2 : rtE 3 triE (forest triE) triA 0 [0, 0, 1] = 0 := by decide +kernel
theorem tv_st : stE 3 triE (forest triE) triA 0 [0, 0, 0] 1 = 0 := by
  unfold stE
  rw [if_pos tv_rt]
  decide +kernel
theorem tv_step : stepRes 3 triE (forest triE) triA 0 [0, 0, 0] 1 = ([0, 1, 0], 2, 0) := by
  unfold stepRes
  rw [if_pos tv_st]
  decide +kernel
theorem tv_c0 : chipV triA (endsL triE) [0, 0, 0] 1 3 = 0 := by decide +kernel
theorem tv_c1 : ∀ j, j < 3 → chipV triA (endsL triE) [0, 0, 0] 1 j ≠ 0 := by decide +kernel
theorem tv_walk : walkRes 3 triE (forest triE) triA 0 [0, 0, 0] 1 = ([1, 2, 1, 0], 0) := by
  unfold walkRes
  rw [if_pos tv_st]
  show walkOf triA (endsL triE) 0 [0, 0, 0] 1 = _
  unfold walkOf
  rw [firstAt_some (i := 3) (by omega) tv_c0 tv_c1]
  decide +kernel
theorem tv_route : routeRes 3 triE (forest triE) triA 0 [0, 0, 0] 1 = ([0, 0, 1], 3, 0) := by
  unfold routeRes
  rw [if_pos tv_st]
  show routeOf triA (endsL triE) 0 [0, 0, 0] 1 = _
  rw [routeOf_hit (i := 3) (by omega) tv_c0 tv_c1]
  decide +kernel
theorem tv_acyc : acycRes 3 triE (forest triE) triA 0 [0, 0, 1] = (true, 0) := by
  unfold acycRes
  rw [if_pos tv_rt2]
  decide +kernel
theorem tv_edges : edR 3 triE (forest triE) triA 0 [0, 0, 1] = [0, 2] := by
  unfold edR
  rw [if_pos tv_rt2]
  decide +kernel
theorem tv_all : allRes 3 triE (forest triE) triA 0 [0, 0, 0] [0, 1, 1] = ([0, 0, 0], [0, 2, 2], 0) := by
  have hg : gvE 3 triE (forest triE) triA 0 [0, 0, 0] [0, 1, 1] = 0 := by
    unfold gvE
    rw [if_pos tv_rt]
    decide +kernel
  unfold allRes
  rw [if_pos hg]
  show movesOf triA (endsL triE) 0 pk0 [0, 0, 0] [0, 1, 1] = _
  rw [movesOf_hit (i := 4) (s := ([0, 0, 0], [2, 0, 0], [0, 2, 2])) (by omega) (by decide +kernel) (by decide +kernel) (by decide +kernel)]

end Go.Proofs.Ytopldbnlehjlpaa

set_option linter.unusedVariables false
set_option linter.unusedSimpArgs false
set_option linter.unnecessarySimpa false
namespace Go.Proofs.Ytopldbnlehjlpaa
open Go.RowKit

/-- What awake leans on between its calls. -/
structure TriCtx (g h z bx : Nat) (W : World) : Prop where
  es : SliceR edgR 3 All W (some ⟨g, 0, none⟩) triE
  ar : SliceR (slcR intR 1) 1 All W (some ⟨h, 0, none⟩) triA
  zs : SliceR intR 1 All W (some ⟨z, 0, none⟩) [0, 0, 0]
  box : Box W bx [.int .i64 3, .slice (some ⟨g, 0, none⟩) 3 3, .slice (some ⟨h, 0, none⟩) 3 3] 27
theorem TriCtx.below {g h z bx : Nat} {W W' : World} (c : TriCtx g h z bx W) (hb : Below W.heap.size W W') : TriCtx g h z bx W' :=
  ⟨c.es.below edgR_ok hb, c.ar.below (slcR_ok intR_ok (by decide)) hb, c.zs.below intR_ok hb, c.box.below hb⟩
/-- A list that a call gave, in later worlds. -/
theorem OwnS.given {B : Nat} {W : World} {rv : Value} {l : List Int} (h : OwnS intR 1 B 3 Non W rv l) : ∃ oa c, rv = .slice oa l.length c ∧ l.length ≤ c ∧ SliceR intR 1 All W oa l := by
  obtain ⟨oa, c, e, hc, hs⟩ := h.slice intR_ok
  exact ⟨oa, c, e, hc, hs.all intR_ok (by decide)⟩

section
variable {g h z bx : Nat} {W : World} (C : TriCtx g h z bx W) (hU : Hid (gErr 3 triE = 0 → Uf (forest triE) (eL triE)))
include C hU
theorem tri_walk : Calls Try.prog 15 #[.agg #[.int .i64 3, .slice (some ⟨g, 0, none⟩) 3 3, .slice (some ⟨h, 0, none⟩) 3 3], .int .i64 0, .slice (some ⟨z, 0, none⟩) 3 3, .int .i64 1] W (ListErr W [1, 2, 1, 0] 0) := by
  have := rotWalk_any 3 triE (some ⟨g, 0, none⟩) 3 triA (some ⟨h, 0, none⟩) 3 All All W C.es (by decide) (by decide) C.ar (by decide) (by decide) (forest triE) hU 0 [0, 0, 0] (some ⟨z, 0, none⟩) 3 All C.zs (by decide) (by decide) 1
  rw [tv_walk] at this
  exact this
theorem tri_route : Calls Try.prog 20 #[.agg #[.int .i64 3, .slice (some ⟨g, 0, none⟩) 3 3, .slice (some ⟨h, 0, none⟩) 3 3], .int .i64 0, .slice (some ⟨z, 0, none⟩) 3 3, .int .i64 1] W (StepRes W ([0, 0, 1], 3, 0)) := by
  have := rotRoute_any 3 triE (some ⟨g, 0, none⟩) 3 triA (some ⟨h, 0, none⟩) 3 All All W C.es (by decide) (by decide) C.ar (by decide) (by decide) (forest triE) hU 0 [0, 0, 0] (some ⟨z, 0, none⟩) 3 All C.zs (by decide) (by decide) 1
  rw [tv_route] at this
  exact this
theorem tri_step : Calls Try.prog 13 #[.agg #[.int .i64 3, .slice (some ⟨g, 0, none⟩) 3 3, .slice (some ⟨h, 0, none⟩) 3 3], .int .i64 0, .slice (some ⟨z, 0, none⟩) 3 3, .int .i64 1] W (StepRes W ([0, 1, 0], 2, 0)) := by
  have := rotStep_any 3 triE (some ⟨g, 0, none⟩) 3 triA (some ⟨h, 0, none⟩) 3 All All W C.es (by decide) (by decide) C.ar (by decide) (by decide) (forest triE) hU 0 [0, 0, 0] (some ⟨z, 0, none⟩) 3 All C.zs (by decide) (by decide) 1
  rw [tv_step] at this
  exact this
theorem tri_acyc (oa : Option Addr) (c : Nat) (hc : 3 ≤ c) (hs : SliceR intR 1 All W oa [0, 0, 1]) : Calls Try.prog 24 #[.agg #[.int .i64 3, .slice (some ⟨g, 0, none⟩) 3 3, .slice (some ⟨h, 0, none⟩) 3 3], .int .i64 0, .slice oa 3 c] W (BoolErr W true 0) := by
  have := rotAcyclic_any 3 triE (some ⟨g, 0, none⟩) 3 triA (some ⟨h, 0, none⟩) 3 All All W C.es (by decide) (by decide) C.ar (by decide) (by decide) (forest triE) hU 0 [0, 0, 1] oa c All hs hc (by decide)
  rw [tv_acyc] at this
  exact this
theorem tri_edges (oa : Option Addr) (c : Nat) (hc : 3 ≤ c) (hs : SliceR intR 1 All W oa [0, 0, 1]) : Calls Try.prog 22 #[.agg #[.int .i64 3, .slice (some ⟨g, 0, none⟩) 3 3, .slice (some ⟨h, 0, none⟩) 3 3], .int .i64 0, .slice oa 3 c] W (ListErr W [0, 2] 0) := by
  have := rotEdges_any 3 triE (some ⟨g, 0, none⟩) 3 triA (some ⟨h, 0, none⟩) 3 All All W C.es (by decide) (by decide) C.ar (by decide) (by decide) (forest triE) hU 0 [0, 0, 1] oa c All hs hc (by decide)
  rw [tv_edges, tv_rt2] at this
  exact this
theorem tri_all (oa : Option Addr) (hs : SliceR intR 1 All W oa [0, 1, 1]) : Calls Try.prog 27 #[.agg #[.int .i64 3, .slice (some ⟨g, 0, none⟩) 3 3, .slice (some ⟨h, 0, none⟩) 3 3], .int .i64 0, .slice (some ⟨z, 0, none⟩) 3 3, .slice oa 3 3] W (MovesPost W.heap.size W ([0, 0, 0], [0, 2, 2], 0)) := by
  have := rotAll_any 3 triE (some ⟨g, 0, none⟩) 3 triA (some ⟨h, 0, none⟩) 3 All All W C.es (by decide) (by decide) C.ar (by decide) (by decide) (forest triE) hU 0 [0, 0, 0] (some ⟨z, 0, none⟩) 3 All C.zs (by decide) (by decide) [0, 1, 1] oa 3 All hs (by decide) (by decide)
  rw [tv_all] at this
  exact this
end
theorem eq_lit (l m : List Int) (oa : Option Addr) (c : Nat) (hc : l.length ≤ c) (hl : l.length ≤ 9223372036854775807) (W : World) (hs : SliceR intR 1 All W oa l) (hm : ∀ x ∈ m, 0 ≤ x ∧ x ≤ 100) (cs : Array Value) (hcs : cs = (m.map (Value.int .i64)).toArray) (k : Nat) (hk : k = m.length) (j : Nat) (hj : j = l.length) :
    Calls Try.prog 19 #[.slice oa j c, .slice (some ⟨W.heap.size, 0, none⟩) k k] (W.alloc (.cells cs 3)) fun e w' => e = .returned (.bool (decide (l = m))) ∧ Below W.heap.size W w' := by
  subst hcs hk hj
  refine (equalInt_any l m oa (some ⟨W.heap.size, 0, none⟩) c m.length All _ (hs.below intR_ok (bnew (Below.refl _ _) _)) (ints_lit (F := All) (G := All) W 3 m (fun x hx => i64_s (hm x hx)) trivial) hc hl).mono ?_
  rintro e w' ⟨rfl, hb⟩
  exact ⟨rfl, (bnew (Below.refl _ _) _).trans (hb.mono (by simp))⟩

set_option maxRecDepth 100000 in
set_option maxHeartbeats 4000000 in
theorem awake45_any (w : World) : Calls Try.prog 12 #[] w fun e w' => e = .returned (.bool true) ∧ Below w.heap.size w w' := by
  have hU : Hid (gErr 3 triE = 0 → Uf (forest triE) (eL triE)) := forest_ok 3 triE
  go_enter Try.func12, Try.ntmps12
  go_wp2_with fail
  refine (tri45_any _).mono ?_
  rintro e w1 ⟨g, h, rfl, hE, hA, hb1⟩
  obtain ⟨W2, hW2⟩ : ∃ W2, (w1.alloc (.cells #[.int .i64 0, .int .i64 0, .int .i64 0] 3)).alloc (.cells #[.int .i64 3, .slice (some ⟨g, 0, none⟩) 3 3, .slice (some ⟨h, 0, none⟩) 3 3] 27) = W2 := ⟨_, rfl⟩
  have hb12 : Below w1.heap.size w1 W2 := by rw [← hW2]; exact bnew (bnew (Below.refl _ _) _) _
  have C2 : TriCtx g h w1.heap.size (w1.heap.size + 1) W2 := by
    refine ⟨hE.below edgR_ok hb12, hA.below (slcR_ok intR_ok (by decide)) hb12, ?_, ?_⟩
    · have := (ints_lit (F := All) (G := All) w1 3 [0, 0, 0] (by intro x hx; simp at hx; subst hx; exact i64_s (by decide)) trivial).below intR_ok (bnew (Below.refl _ _) (.cells #[.int .i64 3, .slice (some ⟨g, 0, none⟩) 3 3, .slice (some ⟨h, 0, none⟩) 3 3] 27))
      rw [← hW2]
      simpa using this
    · have := Box.new (w1.alloc (.cells #[.int .i64 0, .int .i64 0, .int .i64 0] 3)) [.int .i64 3, .slice (some ⟨g, 0, none⟩) 3 3, .slice (some ⟨h, 0, none⟩) 3 3] 27
      rw [← hW2]
      simpa using this
  have HC := hide C2
  have hB2 := hide (hb1.trans (hb12.mono hb1.size))
  have d0 := C2.box.cell 0
  have d1 := C2.box.cell 1
  have d2 := C2.box.cell 2
  simp only [List.getElem?_cons_zero, List.getElem?_cons_succ] at d0 d1 d2
  clear hE hA hb1 hb12 C2
  go_wp2_with fail
  clear d0 d1 d2 hW2
  refine (tri_walk HC.out hU).mono ?_
  rintro e W3 ⟨rv, rfl, ho, hb⟩
  obtain ⟨oa3, c3, rfl, hc3, hs3⟩ := OwnS.given ho
  have HC := hide (HC.out.below hb)
  have hB2 := hide (hB2.out.trans (hb.mono hB2.out.size))
  have d0 := HC.out.box.cell 0
  have d1 := HC.out.box.cell 1
  have d2 := HC.out.box.cell 2
  simp only [List.getElem?_cons_zero, List.getElem?_cons_succ] at d0 d1 d2
  have s3 := hide hs3
  clear ho hb hs3
  go_wp2_with fail
  clear d0 d1 d2
  refine (tri_route HC.out hU).mono ?_
  rintro e W4 ⟨rv, rfl, ho, hb⟩
  obtain ⟨oa4, c4, rfl, hc4, hs4⟩ := OwnS.given ho
  have HC := hide (HC.out.below hb)
  have hB2 := hide (hB2.out.trans (hb.mono hB2.out.size))
  have s3 := hide (s3.out.below intR_ok hb)
  have d0 := HC.out.box.cell 0
  have d1 := HC.out.box.cell 1
  have d2 := HC.out.box.cell 2
  simp only [List.getElem?_cons_zero, List.getElem?_cons_succ] at d0 d1 d2
  have s4 := hide hs4
  clear ho hb hs4
  go_wp2_with fail
  clear d0 d1 d2
  refine (tri_step HC.out hU).mono ?_
  rintro e W5 ⟨rv, rfl, ho, hb⟩
  obtain ⟨oa5, c5, rfl, hc5, hs5⟩ := OwnS.given ho
  have HC := hide (HC.out.below hb)
  have hB2 := hide (hB2.out.trans (hb.mono hB2.out.size))
  have s3 := hide (s3.out.below intR_ok hb)
  have s4 := hide (s4.out.below intR_ok hb)
  have d0 := HC.out.box.cell 0
  have d1 := HC.out.box.cell 1
  have d2 := HC.out.box.cell 2
  simp only [List.getElem?_cons_zero, List.getElem?_cons_succ] at d0 d1 d2
  have s5 := hide hs5
  clear ho hb hs5
  go_wp2_with fail
  clear d0 d1 d2
  refine (eq_lit [1, 2, 1, 0] [1, 2, 1, 0] oa3 c3 hc3 (by decide) _ s3.out (by decide) _ rfl _ rfl _ rfl).mono ?_
  rintro e W6 ⟨rfl, hb⟩
  have HC := hide (HC.out.below hb)
  have hB2 := hide (hB2.out.trans (hb.mono hB2.out.size))
  have s4 := hide (s4.out.below intR_ok hb)
  have s5 := hide (s5.out.below intR_ok hb)
  have d0 := HC.out.box.cell 0
  have d1 := HC.out.box.cell 1
  have d2 := HC.out.box.cell 2
  simp only [List.getElem?_cons_zero, List.getElem?_cons_succ] at d0 d1 d2
  clear hb
  go_wp2_with fail
  clear d0 d1 d2
  refine (eq_lit [0, 0, 1] [0, 0, 1] oa4 c4 hc4 (by decide) _ s4.out (by decide) _ rfl _ rfl _ rfl).mono ?_
  rintro e W7 ⟨rfl, hb⟩
  have HC := hide (HC.out.below hb)
  have hB2 := hide (hB2.out.trans (hb.mono hB2.out.size))
  have s4 := hide (s4.out.below intR_ok hb)
  have s5 := hide (s5.out.below intR_ok hb)
  have d0 := HC.out.box.cell 0
  have d1 := HC.out.box.cell 1
  have d2 := HC.out.box.cell 2
  simp only [List.getElem?_cons_zero, List.getElem?_cons_succ] at d0 d1 d2
  clear hb
  go_wp2_with fail
  clear d0 d1 d2
  refine (eq_lit [0, 1, 0] [0, 1, 0] oa5 c5 hc5 (by decide) _ s5.out (by decide) _ rfl _ rfl _ rfl).mono ?_
  rintro e W8 ⟨rfl, hb⟩
  have HC := hide (HC.out.below hb)
  have hB2 := hide (hB2.out.trans (hb.mono hB2.out.size))
  have s4 := hide (s4.out.below intR_ok hb)
  have d0 := HC.out.box.cell 0
  have d1 := HC.out.box.cell 1
  have d2 := HC.out.box.cell 2
  simp only [List.getElem?_cons_zero, List.getElem?_cons_succ] at d0 d1 d2
  clear hb
  go_wp2_with fail
  clear d0 d1 d2
  refine (tri_acyc HC.out hU oa4 c4 hc4 s4.out).mono ?_
  rintro e W9 ⟨rfl, hb⟩
  have HC := hide (HC.out.below hb)
  have hB2 := hide (hB2.out.trans (hb.mono hB2.out.size))
  have s4 := hide (s4.out.below intR_ok hb)
  have d0 := HC.out.box.cell 0
  have d1 := HC.out.box.cell 1
  have d2 := HC.out.box.cell 2
  simp only [List.getElem?_cons_zero, List.getElem?_cons_succ] at d0 d1 d2
  clear hb
  go_wp2_with fail
  clear d0 d1 d2
  refine (tri_edges HC.out hU oa4 c4 hc4 s4.out).mono ?_
  rintro e W10 ⟨rv, rfl, ho, hb⟩
  obtain ⟨oa10, c10, rfl, hc10, hs10⟩ := OwnS.given ho
  have HC := hide (HC.out.below hb)
  have hB2 := hide (hB2.out.trans (hb.mono hB2.out.size))
  have d0 := HC.out.box.cell 0
  have d1 := HC.out.box.cell 1
  have d2 := HC.out.box.cell 2
  simp only [List.getElem?_cons_zero, List.getElem?_cons_succ] at d0 d1 d2
  have s10 := hide hs10
  clear ho hb hs10
  go_wp2_with fail
  clear d0 d1 d2
  have hbq := bnew (Below.refl W10.heap.size W10) (.cells #[.int .i64 0, .int .i64 1, .int .i64 1] 3)
  have hsq := ints_lit (F := All) (G := All) W10 3 [0, 1, 1] (by intro x hx; simp at hx; rcases hx with rfl | rfl <;> exact i64_s (by decide)) trivial
  refine (tri_all (HC.out.below hbq) hU _ hsq).mono ?_
  rintro e W11 ⟨rv, cv, rfl, ho1, ho2, hb⟩
  replace hb := hbq.trans (hb.mono hbq.size)
  obtain ⟨oa11, c11, rfl, hc11, hs11⟩ := OwnS.given ho1
  obtain ⟨oa12, c12, rfl, hc12, hs12⟩ := OwnS.given ho2
  have HC := hide (HC.out.below hb)
  have hB2 := hide (hB2.out.trans (hb.mono hB2.out.size))
  have s10 := hide (s10.out.below intR_ok hb)
  have s11 := hide hs11
  have s12 := hide hs12
  clear ho1 ho2 hb hs11 hs12 hbq hsq
  go_wp2_with fail
  refine (eq_lit [0, 2] [0, 2] oa10 c10 hc10 (by decide) _ s10.out (by decide) _ rfl _ rfl _ rfl).mono ?_
  rintro e W13 ⟨rfl, hb⟩
  have HC := hide (HC.out.below hb)
  have hB2 := hide (hB2.out.trans (hb.mono hB2.out.size))
  have s11 := hide (s11.out.below intR_ok hb)
  have s12 := hide (s12.out.below intR_ok hb)
  clear hb
  go_wp2_with fail
  refine (equalInt_any [0, 0, 0] [0, 0, 0] oa11 (some ⟨w1.heap.size, 0, none⟩) c11 3 All _ s11.out HC.out.zs hc11 (by decide)).mono ?_
  rintro e W14 ⟨rfl, hb⟩
  have HC := hide (HC.out.below hb)
  have hB2 := hide (hB2.out.trans (hb.mono hB2.out.size))
  have s12 := hide (s12.out.below intR_ok hb)
  clear hb
  go_wp2_with fail
  have hbq := bnew (Below.refl W14.heap.size W14) (.cells #[.int .i64 0, .int .i64 2, .int .i64 2] 3)
  refine (sameS_any [0, 2, 2] [0, 2, 2] oa12 (some ⟨W14.heap.size, 0, none⟩) c12 3 All _ (s12.out.below intR_ok hbq) (ints_lit (F := All) (G := All) W14 3 [0, 2, 2] (by intro x hx; simp at hx; rcases hx with rfl | rfl <;> exact i64_s (by decide)) trivial) hc12 (by decide)).mono ?_
  rintro e W15 ⟨rfl, hb⟩
  have hB15 := hide (hB2.out.trans ((hbq.trans (hb.mono hbq.size)).mono hB2.out.size))
  clear hb hbq
  go_wp2_with fail
  go_ret
  exact ⟨rfl, hB15.out⟩

end Go.Proofs.Ytopldbnlehjlpaa

set_option linter.unusedVariables false
set_option linter.unusedSimpArgs false
set_option linter.unnecessarySimpa false
namespace Go.Proofs.Ytopldbnlehjlpaa
open Go.RowKit

section
variable (n : Int) (es : List Edg) (oe : Option Addr) (c : Nat) (ar : List (List Int)) (oa : Option Addr) (ca : Nat) (F G : Foot) (w : World) (hs : SliceR edgR 3 F w oe es) (hc : es.length ≤ c) (hc2 : es.length ≤ 1000)
    (ha : SliceR (slcR intR 1) 1 G w oa ar) (hac : ar.length ≤ ca) (hac2 : ar.length ≤ 9223372036854775807) (f : List Nat) (hU : Hid (gErr n es = 0 → Uf f (eL es)))
    (q : Int) (rot : List Int) (ot : Option Addr) (ct : Nat) (H : Foot) (hr : SliceR intR 1 H w ot rot) (hrc : rot.length ≤ ct) (hrl : rot.length ≤ 9223372036854775807)
include hs hc hc2 ha hac hac2 hU hr hrc hrl

set_option maxRecDepth 100000 in
set_option maxHeartbeats 4000000 in
theorem refWalk_any (v : Int) :
    Calls Try.prog 16 #[.agg #[.int .i64 n, .slice oe es.length c, .slice oa ar.length ca], .int .i64 q, .slice ot rot.length ct, .int .i64 v] w (ListErr w (walkRes n es f ar q rot v).1 (walkRes n es f ar q rot v).2) := by
  go_enter Try.func16, Try.ntmps16
  go_wp2_with fail
  have hb0 := box_refl w (.cells #[.int .i64 n, .slice oe es.length c, .slice oa ar.length ca] 27)
  refine (r45check_any n es oe c ar oa ca F G _ (hs.below edgR_ok (below_box hb0)) hc hc2 (ha.below (slcR_ok intR_ok (by decide)) (below_box hb0)) hac hac2 f hU q rot ot ct H (hr.below intR_ok (below_box hb0)) hrc hrl).mono ?_
  rintro e w2 ⟨rfl, hb2⟩
  have hx2 := hb2.mono (B' := w.heap.size + 1) (by simp)
  have d0 := box_cell hx2 0
  have d1 := box_cell hx2 1
  simp at d0 d1
  have HX := hide (below_box hx2)
  have HX2 := hide hx2
  clear hb2 hb0 hx2
  by_cases hR : rtE n es f ar q rot = 0
  · have HR := hide hR
    rw [hR]
    clear hR
    by_cases hV : vtxB n v = true
    · have HS : Hid (stE n es f ar q rot v = 0) := by show _ = _; unfold stE; rw [if_pos HR.out, if_pos hV]
      have HV := hide hV
      clear hV
      go_wp2_with fail
      refine (rvertex_any n v oe es.length c _).mono ?_
      rintro e w3 ⟨rfl, hb3⟩
      rw [HV.out]
      have HX3 := hide (box_then HX2.out (by simp) hb3)
      have hx3 := box_cell HX3.out 0
      have hx31 := box_cell HX3.out 1
      have hx32 := box_cell HX3.out 2
      simp at hx3 hx31 hx32
      clear hb3 d0 d1
      obtain ⟨q', hq', hok⟩ := RtOk.of HR.out hc2
      have hv2 := vtxB_iff.1 HV.out
      obtain ⟨V, rfl⟩ := Int.eq_ofNat_of_zero_le hv2.1
      have hVar : V < ar.length := by have := hok.nar; omega
      have HRes : Hid (walkRes n es f ar q rot V = walkOf ar (endsL es) q' rot V) := by
        show _ = _
        unfold walkRes
        rw [if_pos HS.out, hq']
        rfl
      have HMU := hide (rt_mult HR.out)
      have HT := hide (routed_any n es oe c ar oa ca F G w3 (hs.below edgR_ok (below_box HX3.out)) hc hc2 (ha.below (slcR_ok intR_ok (by decide)) (below_box HX3.out)) hac hac2 HMU q' rot ot ct H (hr.below intR_ok (below_box HX3.out)) hrc V hok hVar)
      subst hq'
      clear hok hv2
      go_wp2_with fail
      refine HT.out.mono ?_
      rintro e w4 ⟨o1, n1, c1, o2, n2, c2, k, o, rfl, hb4, hcase⟩
      have HB4 := hide ((below_box HX3.out).trans (hb4.mono (below_box HX3.out).size))
      have hsz4 := HB4.out.size
      have HC := hide hcase
      clear hb4 hcase hx3 hx31 hx32
      rcases HC.out with ⟨i, h1, h2, h3, h4, h5, h6, h7, h8⟩ | ⟨h1, h2⟩
      · subst h1 h2
        by_cases hi : i + 1 ≤ 4096
        · have q1 : decide ((4096 : Int) < (i : Int) + 1) = false := by simp; omega
          have HF : Hid (walkOf ar (endsL es) q' rot V = (wayL (chipV ar (endsL es) rot V) (i + 1), 0)) := by
            show _ = _
            unfold walkOf
            rw [firstAt_some (by omega) h5 h6]
          have hk : keptN i = i + 1 := if_pos hi
          rw [hk] at h8
          have HO := hide (h8.rebase (base' := w.heap.size) (by have := (below_box HX3.out).size; omega))
          clear h3 h5 h6 h7 h8 hi hk HC
          go_wp2_with fail
          refine bodyPost_ret ?_ rfl ⟨_, by rw [HRes.out, HF.out], by rw [HRes.out, HF.out]; exact HO.out.below intR_ok (bnew (Below.refl _ _) _), bnew HB4.out _⟩
          simp [results]
        · have q1 : decide ((4096 : Int) < (i : Int) + 1) = true := by simp; omega
          have HF : Hid (walkOf ar (endsL es) q' rot V = ([], 12)) := by
            show _ = _
            unfold walkOf
            rw [firstAt_none (fun j hj => h6 j (by omega))]
          clear h3 h5 h6 h7 h8 hi HC
          go_wp2_with fail
          refine bodyPost_ret ?_ rfl ⟨_, by rw [HRes.out, HF.out], by rw [HRes.out, HF.out]; exact OwnS.nil _ _ _ _ _ _, bnew HB4.out _⟩
          simp [results]
      · subst h1
        have HF : Hid (walkOf ar (endsL es) q' rot V = ([], 12)) := by
          show _ = _
          unfold walkOf
          rw [firstAt_none (fun j hj => h2 j (by omega))]
        clear h2 HC
        go_wp2_with fail
        refine bodyPost_ret ?_ rfl ⟨_, by rw [HRes.out, HF.out], by rw [HRes.out, HF.out]; exact OwnS.nil _ _ _ _ _ _, bnew HB4.out _⟩
        simp [results]
    · have HS : Hid (stE n es f ar q rot v = 2) := by show _ = _; unfold stE; rw [if_pos HR.out, if_neg hV]
      have HRes : Hid (walkRes n es f ar q rot v = ([], 2)) := by show _ = _; unfold walkRes; rw [if_neg (by rw [HS.out]; decide), HS.out]
      have HV : Hid (vtxB n v = false) := by show _ = _; simpa using hV
      clear hV
      go_wp2_with fail
      refine (rvertex_any n v oe es.length c _).mono ?_
      rintro e w3 ⟨rfl, hb3⟩
      rw [HV.out]
      have HX3 := hide (box_then HX2.out (by simp) hb3)
      clear hb3 d0 d1
      go_wp2_with fail
      refine bodyPost_ret ?_ rfl ⟨_, by rw [HRes.out], by rw [HRes.out]; exact OwnS.nil _ _ _ _ _ _, below_box HX3.out⟩
      simp [results]
  · have HRes : Hid (walkRes n es f ar q rot v = ([], rtE n es f ar q rot)) := by
      have h1 : stE n es f ar q rot v = rtE n es f ar q rot := if_neg hR
      show _ = _
      unfold walkRes
      rw [h1, if_neg hR]
    have hq : (rtE n es f ar q rot != 0) = true := by simpa using hR
    clear hR
    go_wp2_with fail
    refine bodyPost_ret ?_ rfl ⟨_, by rw [HRes.out], by rw [HRes.out]; exact OwnS.nil _ _ _ _ _ _, HX.out⟩
    simp [results]

set_option maxRecDepth 100000 in
set_option maxHeartbeats 4000000 in
theorem refRoute_any (v : Int) :
    Calls Try.prog 21 #[.agg #[.int .i64 n, .slice oe es.length c, .slice oa ar.length ca], .int .i64 q, .slice ot rot.length ct, .int .i64 v] w (StepRes w (routeRes n es f ar q rot v)) := by
  go_enter Try.func21, Try.ntmps21
  go_wp2_with fail
  have hb0 := box_refl w (.cells #[.int .i64 n, .slice oe es.length c, .slice oa ar.length ca] 27)
  refine (r45check_any n es oe c ar oa ca F G _ (hs.below edgR_ok (below_box hb0)) hc hc2 (ha.below (slcR_ok intR_ok (by decide)) (below_box hb0)) hac hac2 f hU q rot ot ct H (hr.below intR_ok (below_box hb0)) hrc hrl).mono ?_
  rintro e w2 ⟨rfl, hb2⟩
  have hx2 := hb2.mono (B' := w.heap.size + 1) (by simp)
  have d0 := box_cell hx2 0
  have d1 := box_cell hx2 1
  simp at d0 d1
  have HX := hide (below_box hx2)
  have HX2 := hide hx2
  clear hb2 hb0 hx2
  by_cases hR : rtE n es f ar q rot = 0
  · have HR := hide hR
    rw [hR]
    clear hR
    by_cases hV : vtxB n v = true
    · have HS : Hid (stE n es f ar q rot v = 0) := by show _ = _; unfold stE; rw [if_pos HR.out, if_pos hV]
      have HV := hide hV
      clear hV
      go_wp2_with fail
      refine (rvertex_any n v oe es.length c _).mono ?_
      rintro e w3 ⟨rfl, hb3⟩
      rw [HV.out]
      have HX3 := hide (box_then HX2.out (by simp) hb3)
      have hx3 := box_cell HX3.out 0
      have hx31 := box_cell HX3.out 1
      have hx32 := box_cell HX3.out 2
      simp at hx3 hx31 hx32
      clear hb3 d0 d1
      obtain ⟨q', hq', hok⟩ := RtOk.of HR.out hc2
      have hv2 := vtxB_iff.1 HV.out
      obtain ⟨V, rfl⟩ := Int.eq_ofNat_of_zero_le hv2.1
      have hVar : V < ar.length := by have := hok.nar; omega
      have HRes : Hid (routeRes n es f ar q rot V = routeOf ar (endsL es) q' rot V) := by
        show _ = _
        unfold routeRes
        rw [if_pos HS.out, hq']
        rfl
      have HMU := hide (rt_mult HR.out)
      have HT := hide (routed_any n es oe c ar oa ca F G w3 (hs.below edgR_ok (below_box HX3.out)) hc hc2 (ha.below (slcR_ok intR_ok (by decide)) (below_box HX3.out)) hac hac2 HMU q' rot ot ct H (hr.below intR_ok (below_box HX3.out)) hrc V hok hVar)
      subst hq'
      clear hok hv2
      go_wp2_with fail
      refine HT.out.mono ?_
      rintro e w4 ⟨o1, n1, c1, o2, n2, c2, k, o, rfl, hb4, hcase⟩
      have HB4 := hide ((below_box HX3.out).trans (hb4.mono (below_box HX3.out).size))
      have hsz4 := HB4.out.size
      have HC := hide hcase
      clear hb4 hcase hx3 hx31 hx32
      rcases HC.out with ⟨i, h1, h2, h3, h4, h5, h6, h7, h8⟩ | ⟨h1, h2⟩
      · subst h1 h2
        have HF : Hid (routeOf ar (endsL es) q' rot V = (rotI ar (endsL es) rot V i, (i : Int), 0)) := routeOf_hit h4 h5 h6
        have HO := hide (h7.rebase (base' := w.heap.size) (by have := (below_box HX3.out).size; omega))
        clear h3 h5 h6 h7 h8 HC
        go_wp2_with fail
        go_quiet (fail)
        go_wp2_with fail
        refine bodyPost_ret ?_ rfl ⟨_, by rw [HRes.out, HF.out], by rw [HRes.out, HF.out]; exact ownS_keep' (HO.out.below intR_ok (bnew (Below.refl _ _) _)) (fun _ => rfl), below_drewN (bnew HB4.out _) _⟩
        simp [results]
      · subst h1
        have HF : Hid (routeOf ar (endsL es) q' rot V = ([], 0, 12)) := routeOf_none h2
        clear h2 HC
        go_wp2_with fail
        refine bodyPost_ret ?_ rfl ⟨_, by rw [HRes.out, HF.out], by rw [HRes.out, HF.out]; exact OwnS.nil _ _ _ _ _ _, bnew HB4.out _⟩
        simp [results]
    · have HS : Hid (stE n es f ar q rot v = 2) := by show _ = _; unfold stE; rw [if_pos HR.out, if_neg hV]
      have HRes : Hid (routeRes n es f ar q rot v = ([], 0, 2)) := by show _ = _; unfold routeRes; rw [if_neg (by rw [HS.out]; decide), HS.out]
      have HV : Hid (vtxB n v = false) := by show _ = _; simpa using hV
      clear hV
      go_wp2_with fail
      refine (rvertex_any n v oe es.length c _).mono ?_
      rintro e w3 ⟨rfl, hb3⟩
      rw [HV.out]
      have HX3 := hide (box_then HX2.out (by simp) hb3)
      clear hb3 d0 d1
      go_wp2_with fail
      refine bodyPost_ret ?_ rfl ⟨_, by rw [HRes.out], by rw [HRes.out]; exact OwnS.nil _ _ _ _ _ _, below_box HX3.out⟩
      simp [results]
  · have HRes : Hid (routeRes n es f ar q rot v = ([], 0, rtE n es f ar q rot)) := by
      have h1 : stE n es f ar q rot v = rtE n es f ar q rot := if_neg hR
      show _ = _
      unfold routeRes
      rw [h1, if_neg hR]
    have hq : (rtE n es f ar q rot != 0) = true := by simpa using hR
    clear hR
    go_wp2_with fail
    refine bodyPost_ret ?_ rfl ⟨_, by rw [HRes.out], by rw [HRes.out]; exact OwnS.nil _ _ _ _ _ _, HX.out⟩
    simp [results]
end

end Go.Proofs.Ytopldbnlehjlpaa

set_option linter.unusedVariables false
set_option linter.unusedSimpArgs false
set_option linter.unnecessarySimpa false
namespace Go.Proofs.Ytopldbnlehjlpaa
open Go.RowKit

/-- What the laws' functions lean on between their calls. -/
structure LawCtx (w : World) (n : Int) (es : List Edg) (oe : Option Addr) (c : Nat) (ar : List (List Int)) (oa : Option Addr) (ca : Nat) (q : Int) (rot : List Int) (ot : Option Addr) (ct : Nat) (v : Int) (W : World) : Prop where
  hes : SliceR edgR 3 All W oe es
  har : SliceR (slcR intR 1) 1 All W oa ar
  hrt : SliceR intR 1 All W ot rot
  b1 : Box W w.heap.size [.int .i64 n, .slice oe es.length c, .slice oa ar.length ca] 27
  b2 : Box W (w.heap.size + 1) [.int .i64 q, .slice ot rot.length ct, .int .i64 v] 30
  low : Below w.heap.size w W
theorem LawCtx.below {w : World} {n : Int} {es : List Edg} {oe : Option Addr} {c : Nat} {ar : List (List Int)} {oa : Option Addr} {ca : Nat} {q : Int} {rot : List Int} {ot : Option Addr} {ct : Nat} {v : Int} {W W' : World}
    (h : LawCtx w n es oe c ar oa ca q rot ot ct v W) (hb : Below W.heap.size W W') : LawCtx w n es oe c ar oa ca q rot ot ct v W' :=
  ⟨h.hes.below edgR_ok hb, h.har.below (slcR_ok intR_ok (by decide)) hb, h.hrt.below intR_ok hb, h.b1.below hb, h.b2.below hb, h.low.trans (hb.mono h.low.size)⟩
theorem LawCtx.new {w : World} {n : Int} {es : List Edg} {oe : Option Addr} {c : Nat} {ar : List (List Int)} {oa : Option Addr} {ca : Nat} {q : Int} {rot : List Int} {ot : Option Addr} {ct : Nat} {v : Int}
    (h1 : SliceR edgR 3 All w oe es) (h2 : SliceR (slcR intR 1) 1 All w oa ar) (h3 : SliceR intR 1 All w ot rot) :
    LawCtx w n es oe c ar oa ca q rot ot ct v ((w.alloc (.cells #[.int .i64 n, .slice oe es.length c, .slice oa ar.length ca] 27)).alloc (.cells #[.int .i64 q, .slice ot rot.length ct, .int .i64 v] 30)) := by
  have hb := bnew (bnew (Below.refl w.heap.size w) (.cells #[.int .i64 n, .slice oe es.length c, .slice oa ar.length ca] 27)) (.cells #[.int .i64 q, .slice ot rot.length ct, .int .i64 v] 30)
  refine ⟨h1.below edgR_ok hb, h2.below (slcR_ok intR_ok (by decide)) hb, h3.below intR_ok hb, (Box.new w [.int .i64 n, .slice oe es.length c, .slice oa ar.length ca] 27).next _, ?_, hb⟩
  have := Box.new (w.alloc (.cells #[.int .i64 n, .slice oe es.length c, .slice oa ar.length ca] 27)) [.int .i64 q, .slice ot rot.length ct, .int .i64 v] 30
  simpa using this

theorem OwnS.small {B : Nat} {W : World} {rv : Value} {l : List Int} (h : OwnS intR 1 B 3 Non W rv l) : l.length ≤ 9223372036854775807 := by
  obtain ⟨cells, ho, _⟩ := h
  rcases ho.2 with ⟨_, hn⟩ | ⟨g, cap, cur, _, _, _, hle, hcm, _, _⟩
  · omega
  · unfold maxLen at hcm
    omega
set_option maxRecDepth 100000 in
set_option maxHeartbeats 8000000 in
theorem steps_walk (n : Int) (es : List Edg) (oe : Option Addr) (c : Nat) (ar : List (List Int)) (oa : Option Addr) (ca : Nat) (q : Int) (rot : List Int) (ot : Option Addr) (ct : Nat) (v : Int) (w : World)
    (hs : SliceR edgR 3 All w oe es) (hc : es.length ≤ c) (hc2 : es.length ≤ 9223372036854775807) (ha : SliceR (slcR intR 1) 1 All w oa ar) (hac : ar.length ≤ ca) (hac2 : ar.length ≤ 9223372036854775807) (hr : SliceR intR 1 All w ot rot) (hrc : rot.length ≤ ct) (hrl : rot.length ≤ 9223372036854775807) :
    Calls Try.prog 3 #[.agg #[.int .i64 n, .slice oe es.length c, .slice oa ar.length ca], .agg #[.int .i64 q, .slice ot rot.length ct, .int .i64 v]] w fun e w' => e = .returned (.bool true) ∧ Below w.heap.size w w' := by
  have hU : Hid (gErr n es = 0 → Uf (forest es) (eL es)) := forest_ok n es
  have C0 := LawCtx.new (n := n) (c := c) (ca := ca) (q := q) (ct := ct) (v := v) hs ha hr
  obtain ⟨W1, hW1⟩ : ∃ W1, (w.alloc (.cells #[.int .i64 n, .slice oe es.length c, .slice oa ar.length ca] 27)).alloc (.cells #[.int .i64 q, .slice ot rot.length ct, .int .i64 v] 30) = W1 := ⟨_, rfl⟩
  rw [hW1] at C0
  have HC := hide C0
  have d0 := HC.out.b1.cell 0
  have d1 := HC.out.b1.cell 1
  have d2 := HC.out.b1.cell 2
  have p0 := HC.out.b2.cell 0
  have p1 := HC.out.b2.cell 1
  have p2 := HC.out.b2.cell 2
  simp only [List.getElem?_cons_zero, List.getElem?_cons_succ] at d0 d1 d2 p0 p1 p2
  clear hs ha hr C0
  go_enter Try.func3, Try.ntmps3
  go_wp2_with fail
  refine (few45_any n es oe c ar oa ca All All _ HC.out.hes hc hc2 HC.out.har hac hac2 rot ot ct).mono ?_
  rintro e W2 ⟨rfl, hb⟩
  replace HC := hide (HC.out.below hb)
  clear hb d0 d1 d2 p0 p1 p2 hW1
  by_cases hF : few45 n es ar rot = true
  · obtain ⟨hc3, _, _⟩ := few45_yes hF
    rw [hF]
    clear hF
    have d0 := HC.out.b1.cell 0
    have d1 := HC.out.b1.cell 1
    have d2 := HC.out.b1.cell 2
    have p0 := HC.out.b2.cell 0
    have p1 := HC.out.b2.cell 1
    have p2 := HC.out.b2.cell 2
    simp only [List.getElem?_cons_zero, List.getElem?_cons_succ] at d0 d1 d2 p0 p1 p2
    go_wp2_with fail
    clear d0 d1 d2 p0 p1 p2
    refine (rotStep_any n es oe c ar oa ca All All _ HC.out.hes hc (by omega) HC.out.har hac hac2 (forest es) hU q rot ot ct All HC.out.hrt hrc hrl v).mono ?_
    rintro e W3 ⟨rv, rfl, ho, hb⟩
    have hl3 := hide (OwnS.small ho)
    obtain ⟨oa3, c3, rfl, hc3', hs3⟩ := OwnS.given ho
    replace HC := hide (HC.out.below hb)
    have s3 := hide hs3
    clear ho hb hs3
    have d0 := HC.out.b1.cell 0
    have d1 := HC.out.b1.cell 1
    have d2 := HC.out.b1.cell 2
    have p0 := HC.out.b2.cell 0
    have p1 := HC.out.b2.cell 1
    have p2 := HC.out.b2.cell 2
    simp only [List.getElem?_cons_zero, List.getElem?_cons_succ] at d0 d1 d2 p0 p1 p2
    go_wp2_with fail
    clear d0 d1 d2 p0 p1 p2
    refine (refStep_any n es oe c ar oa ca All All _ HC.out.hes hc (by omega) HC.out.har hac hac2 (forest es) hU q rot ot ct All HC.out.hrt hrc hrl v).mono ?_
    rintro e W4 ⟨rv, rfl, ho, hb⟩
    obtain ⟨oa4, c4, rfl, hc4', hs4⟩ := OwnS.given ho
    replace HC := hide (HC.out.below hb)
    replace s3 := hide (s3.out.below intR_ok hb)
    have s4 := hide hs4
    clear ho hb hs4
    have d0 := HC.out.b1.cell 0
    have d1 := HC.out.b1.cell 1
    have d2 := HC.out.b1.cell 2
    have p0 := HC.out.b2.cell 0
    have p1 := HC.out.b2.cell 1
    have p2 := HC.out.b2.cell 2
    simp only [List.getElem?_cons_zero, List.getElem?_cons_succ] at d0 d1 d2 p0 p1 p2
    go_wp2_with fail
    clear d0 d1 d2 p0 p1 p2
    refine (rotWalk_any n es oe c ar oa ca All All _ HC.out.hes hc (by omega) HC.out.har hac hac2 (forest es) hU q rot ot ct All HC.out.hrt hrc hrl v).mono ?_
    rintro e W5 ⟨rv, rfl, ho, hb⟩
    have hl5 := hide (OwnS.small ho)
    obtain ⟨oa5, c5, rfl, hc5', hs5⟩ := OwnS.given ho
    replace HC := hide (HC.out.below hb)
    replace s3 := hide (s3.out.below intR_ok hb)
    replace s4 := hide (s4.out.below intR_ok hb)
    have s5 := hide hs5
    clear ho hb hs5
    have d0 := HC.out.b1.cell 0
    have d1 := HC.out.b1.cell 1
    have d2 := HC.out.b1.cell 2
    have p0 := HC.out.b2.cell 0
    have p1 := HC.out.b2.cell 1
    have p2 := HC.out.b2.cell 2
    simp only [List.getElem?_cons_zero, List.getElem?_cons_succ] at d0 d1 d2 p0 p1 p2
    go_wp2_with fail
    clear d0 d1 d2 p0 p1 p2
    refine (refWalk_any n es oe c ar oa ca All All _ HC.out.hes hc (by omega) HC.out.har hac hac2 (forest es) hU q rot ot ct All HC.out.hrt hrc hrl v).mono ?_
    rintro e W6 ⟨rv, rfl, ho, hb⟩
    obtain ⟨oa6, c6, rfl, hc6', hs6⟩ := OwnS.given ho
    replace HC := hide (HC.out.below hb)
    replace s3 := hide (s3.out.below intR_ok hb)
    replace s4 := hide (s4.out.below intR_ok hb)
    replace s5 := hide (s5.out.below intR_ok hb)
    have s6 := hide hs6
    clear ho hb hs6
    have d0 := HC.out.b1.cell 0
    have d1 := HC.out.b1.cell 1
    have d2 := HC.out.b1.cell 2
    have p0 := HC.out.b2.cell 0
    have p1 := HC.out.b2.cell 1
    have p2 := HC.out.b2.cell 2
    simp only [List.getElem?_cons_zero, List.getElem?_cons_succ] at d0 d1 d2 p0 p1 p2
    go_wp2_with fail
    replace HC := hide (show LawCtx w n es oe c ar oa ca q rot ot ct v W6.drew from ⟨HC.out.hes.keep edgR_ok (fun _ _ _ => rfl), HC.out.har.keep (slcR_ok intR_ok (by decide)) (fun _ _ _ => rfl), HC.out.hrt.keep intR_ok (fun _ _ _ => rfl), HC.out.b1, HC.out.b2, HC.out.low.drew⟩)
    replace s3 := hide (s3.out.keep (w' := W6.drew) intR_ok (fun _ _ _ => rfl))
    replace s4 := hide (s4.out.keep (w' := W6.drew) intR_ok (fun _ _ _ => rfl))
    replace s5 := hide (s5.out.keep (w' := W6.drew) intR_ok (fun _ _ _ => rfl))
    replace s6 := hide (s6.out.keep (w' := W6.drew) intR_ok (fun _ _ _ => rfl))
    replace hl3 : (stepRes n es (forest es) ar q rot v).1.length ≤ 9223372036854775807 := hl3.out
    replace hl5 : (walkRes n es (forest es) ar q rot v).1.length ≤ 9223372036854775807 := hl5.out
    have K17 : ∀ W : World, LawCtx w n es oe c ar oa ca q rot ot ct v W → Calls Try.prog 17 #[.agg #[.int .i64 n, .slice oe es.length c, .slice oa ar.length ca], .int .i64 q, .slice ot rot.length ct] W (ErrPost W (rtE n es (forest es) ar q rot)) := fun W h => rotcheck_any n es oe c ar oa ca All All W h.hes hc (by omega) h.har hac hac2 (forest es) hU q rot ot ct All h.hrt hrc hrl
    have K18 : ∀ W : World, LawCtx w n es oe c ar oa ca q rot ot ct v W → Calls Try.prog 18 #[.agg #[.int .i64 n, .slice oe es.length c, .slice oa ar.length ca], .int .i64 q, .slice ot rot.length ct] W (ErrPost W (rtE n es (forest es) ar q rot)) := fun W h => r45check_any n es oe c ar oa ca All All W h.hes hc (by omega) h.har hac hac2 (forest es) hU q rot ot ct All h.hrt hrc hrl
    replace K17 := hide K17
    replace K18 := hide K18
    generalize rtE n es (forest es) ar q rot = E at *
    generalize (stepRes n es (forest es) ar q rot v).2.1 = r1 at *
    generalize (stepRes n es (forest es) ar q rot v).2.2 = r2 at *
    generalize (stepRes n es (forest es) ar q rot v).1 = l3 at *
    generalize (walkRes n es (forest es) ar q rot v).2 = r3 at *
    generalize (walkRes n es (forest es) ar q rot v).1 = l5 at *
    have K19a : Hid (∀ W : World, SliceR intR 1 All W oa3 l3 → SliceR intR 1 All W oa4 l3 → Calls Try.prog 19 #[.slice oa3 l3.length c3, .slice oa4 l3.length c4] W fun e w' => e = .returned (.bool true) ∧ Below W.heap.size W w') := fun W h1 h2 => (equalInt_any l3 l3 oa3 oa4 c3 c4 All W h1 h2 hc3' hl3).mono fun e w' h => ⟨by rw [h.1]; simp, h.2⟩
    have K19b : Hid (∀ W : World, SliceR intR 1 All W oa5 l5 → SliceR intR 1 All W oa6 l5 → Calls Try.prog 19 #[.slice oa5 l5.length c5, .slice oa6 l5.length c6] W fun e w' => e = .returned (.bool true) ∧ Below W.heap.size W w') := fun W h1 h2 => (equalInt_any l5 l5 oa5 oa6 c5 c6 All W h1 h2 hc5' hl5).mono fun e w' h => ⟨by rw [h.1]; simp, h.2⟩
    clear p2 hU hc hc2 hc3 hac hac2 hrc hrl
    obtain ⟨RR, hRR⟩ : ∃ RR, Value.agg #[.int .i64 n, .slice oe es.length c, .slice oa ar.length ca] = RR := ⟨_, rfl⟩
    obtain ⟨T1, hT1⟩ : ∃ T, Value.tuple #[.slice oa3 l3.length c3, .int .i64 r1, .int .i64 r2] = T := ⟨_, rfl⟩
    obtain ⟨T2, hT2⟩ : ∃ T, Value.tuple #[.slice oa4 l3.length c4, .int .i64 r1, .int .i64 r2] = T := ⟨_, rfl⟩
    obtain ⟨T3, hT3⟩ : ∃ T, Value.tuple #[.slice oa5 l5.length c5, .int .i64 r3] = T := ⟨_, rfl⟩
    obtain ⟨T4, hT4⟩ : ∃ T, Value.tuple #[.slice oa6 l5.length c6, .int .i64 r3] = T := ⟨_, rfl⟩
    rw [hRR, hT1, hT2, hT3, hT4]
    rw [hRR] at K17 K18
    clear hT1 hT2 hT3 hT4 hc3' hc4' hc5' hc6' hl3 hl5
    go_region_held3 (fun w' => w'.cell? ⟨w.heap.size, 0, none⟩ = some (.int .i64 n) ∧ w'.cell? ⟨w.heap.size, 1, none⟩ = some (.slice oe es.length c) ∧ w'.cell? ⟨w.heap.size, 2, none⟩ = some (.slice oa ar.length ca) ∧ w'.cell? ⟨w.heap.size + 1, 0, none⟩ = some (.int .i64 q) ∧ w'.cell? ⟨w.heap.size + 1, 1, none⟩ = some (.slice ot rot.length ct)) (first | exact ⟨d0, d1, d2, p0, p1⟩) (first
      | (go_at_call 12; refine (awake45_any _).mono ?_; rintro e w5 ⟨rfl, h5⟩; replace d0 := (h5.cell (World.block_lt_of_cell? _ _ d0)).trans d0; replace d1 := (h5.cell (World.block_lt_of_cell? _ _ d1)).trans d1; replace d2 := (h5.cell (World.block_lt_of_cell? _ _ d2)).trans d2; replace p0 := (h5.cell (World.block_lt_of_cell? _ _ p0)).trans p0; replace p1 := (h5.cell (World.block_lt_of_cell? _ _ p1)).trans p1; replace HC := hide (HC.out.below h5); replace s3 := hide (s3.out.below intR_ok h5); replace s4 := hide (s4.out.below intR_ok h5); replace s5 := hide (s5.out.below intR_ok h5); replace s6 := hide (s6.out.below intR_ok h5); clear h5)
      | (go_at_call 17; refine (K17.out _ HC.out).mono ?_; rintro e w5 ⟨rfl, h5⟩; replace d0 := (h5.cell (World.block_lt_of_cell? _ _ d0)).trans d0; replace d1 := (h5.cell (World.block_lt_of_cell? _ _ d1)).trans d1; replace d2 := (h5.cell (World.block_lt_of_cell? _ _ d2)).trans d2; replace p0 := (h5.cell (World.block_lt_of_cell? _ _ p0)).trans p0; replace p1 := (h5.cell (World.block_lt_of_cell? _ _ p1)).trans p1; replace HC := hide (HC.out.below h5); replace s3 := hide (s3.out.below intR_ok h5); replace s4 := hide (s4.out.below intR_ok h5); replace s5 := hide (s5.out.below intR_ok h5); replace s6 := hide (s6.out.below intR_ok h5); clear h5)
      | (go_at_call 18; refine (K18.out _ HC.out).mono ?_; rintro e w5 ⟨rfl, h5⟩; replace d0 := (h5.cell (World.block_lt_of_cell? _ _ d0)).trans d0; replace d1 := (h5.cell (World.block_lt_of_cell? _ _ d1)).trans d1; replace d2 := (h5.cell (World.block_lt_of_cell? _ _ d2)).trans d2; replace p0 := (h5.cell (World.block_lt_of_cell? _ _ p0)).trans p0; replace p1 := (h5.cell (World.block_lt_of_cell? _ _ p1)).trans p1; replace HC := hide (HC.out.below h5); replace s3 := hide (s3.out.below intR_ok h5); replace s4 := hide (s4.out.below intR_ok h5); replace s5 := hide (s5.out.below intR_ok h5); replace s6 := hide (s6.out.below intR_ok h5); clear h5)
      | (go_at_call 19; with_reducible refine (K19a.out _ s3.out s4.out).mono ?_; rintro e w5 ⟨rfl, h5⟩; replace d0 := (h5.cell (World.block_lt_of_cell? _ _ d0)).trans d0; replace d1 := (h5.cell (World.block_lt_of_cell? _ _ d1)).trans d1; replace d2 := (h5.cell (World.block_lt_of_cell? _ _ d2)).trans d2; replace p0 := (h5.cell (World.block_lt_of_cell? _ _ p0)).trans p0; replace p1 := (h5.cell (World.block_lt_of_cell? _ _ p1)).trans p1; replace HC := hide (HC.out.below h5); replace s3 := hide (s3.out.below intR_ok h5); replace s4 := hide (s4.out.below intR_ok h5); replace s5 := hide (s5.out.below intR_ok h5); replace s6 := hide (s6.out.below intR_ok h5); clear h5)
      | (go_at_call 19; with_reducible refine (K19b.out _ s5.out s6.out).mono ?_; rintro e w5 ⟨rfl, h5⟩; replace d0 := (h5.cell (World.block_lt_of_cell? _ _ d0)).trans d0; replace d1 := (h5.cell (World.block_lt_of_cell? _ _ d1)).trans d1; replace d2 := (h5.cell (World.block_lt_of_cell? _ _ d2)).trans d2; replace p0 := (h5.cell (World.block_lt_of_cell? _ _ p0)).trans p0; replace p1 := (h5.cell (World.block_lt_of_cell? _ _ p1)).trans p1; replace HC := hide (HC.out.below h5); replace s3 := hide (s3.out.below intR_ok h5); replace s4 := hide (s4.out.below intR_ok h5); replace s5 := hide (s5.out.below intR_ok h5); replace s6 := hide (s6.out.below intR_ok h5); clear h5))
    all_goals
      go_wp2_with fail
      go_ret
      exact ⟨rfl, HC.out.low⟩
  · have hF2 : few45 n es ar rot = false := by simpa using hF
    rw [hF2]
    clear hF hF2
    have d0 := HC.out.b1.cell 0
    have d1 := HC.out.b1.cell 1
    have d2 := HC.out.b1.cell 2
    have p0 := HC.out.b2.cell 0
    have p1 := HC.out.b2.cell 1
    have p2 := HC.out.b2.cell 2
    simp only [List.getElem?_cons_zero, List.getElem?_cons_succ] at d0 d1 d2 p0 p1 p2
    go_wp2_with fail
    refine (awake45_any _).mono ?_
    rintro e W3 ⟨rfl, hb⟩
    replace HC := hide (HC.out.below hb)
    clear hb d0 d1 d2 p0 p1 p2
    go_wp2_with fail
    go_ret
    exact ⟨rfl, HC.out.low⟩

theorem steps_claim (w : World) (n : Int) (es : List Edg) (oe : Option Addr) (c : Nat) (ar : List (List Int)) (oa : Option Addr) (ca : Nat) (hc : es.length ≤ c) (hc2 : es.length ≤ 9223372036854775807) (hs : SliceR edgR 3 All w oe es) (hac : ar.length ≤ ca) (hac2 : ar.length ≤ 9223372036854775807) (ha : SliceR (slcR intR 1) 1 All w oa ar)
    (q : Int) (rot : List Int) (ot : Option Addr) (ct : Nat) (v : Int) (hrc : rot.length ≤ ct) (hrl : rot.length ≤ 9223372036854775807) (hr : SliceR intR 1 All w ot rot) :
    Calls Try.prog 3 #[.agg #[.int .i64 n, .slice oe es.length c, .slice oa ar.length ca], .agg #[.int .i64 q, .slice ot rot.length ct, .int .i64 v]] w fun e w' => e = .returned (.bool true) ∧ Below w.heap.size w w' :=
  steps_walk n es oe c ar oa ca q rot ot ct v w hs hc hc2 ha hac hac2 hr hrc hrl

end Go.Proofs.Ytopldbnlehjlpaa

set_option linter.unusedVariables false
namespace Go.Proofs.Ytopldbnlehjlpaa
open Go.RowKit Go.ChangeShapes Go.WideShapes Go.ChangeAt Go.Deep

set_option maxRecDepth 100000 in
theorem rotorSteps_lifted (os : Os) (started : os.Started) (H : Type) (enc : TypeId × Value → H) :
    ReturnsInHanded {} Try.checked os 3 .any (Rows.rotorStepsSpec.pre6 enc Try.prog Try.f3 Rows.rotorStepsRow.domain false) (Rows.rotorStepsSpec.post enc Try.prog Try.f3 false true false false) := by
  refine returnsInHanded_of_change (C := Try.checked) own_knob started (by kernel_rfl) Try.func3
    (ChangeSpec.witness6 (enc := enc) (C := Try.checked) false ⟨#[], #[.agg #[.int .i64 0, .slice none 0 0, .slice none 0 0], .agg #[.int .i64 0, .slice none 0 0, .int .i64 0]], []⟩ 8 (by kernel_rfl) (by kernel_rfl) (by kernel_rfl) (by kernel_rfl)) ?_
  intro W base args ds gs before hval0 hW _ _
  have hval : ∀ (j : Nat) t v, Try.f3.params[j]? = some t → args[j]? = some v → Value.okWide Try.prog W .any base t v := hval0
  have hW' := hW
  obtain ⟨p, q, hA0, hV, rfl, _, _⟩ := hW
  have hA : DataW.TrodAll enc Try.prog W 0 (fun _ => true) true Try.f3.params.toList args.toList ds p := hA0
  rw [Try.params3] at hA hval
  obtain ⟨v0, v1, d0, d1, p0, p1, rfl, rfl, rfl, h0, h1⟩ := trodAll_two hA
  obtain ⟨rfl, rfl⟩ := trodVars_none hV
  have h0k := h0
  have h1k := h1
  obtain ⟨n0, es0, oe0, c0, ar0, oa0, ca0, rfl, hc0, hl0, he0, hac0, hal0, ha0⟩ := open_rib (hval 0 27 v0 rfl rfl) h0
  obtain ⟨q1, rot1, ot1, ct1, u1, rfl, hrc1, hrl1, hr1⟩ := open_place (hval 1 30 v1 rfl rfl) h1
  clear hA0 hval0
  simp only [List.append_nil] at hW'
  have hlt0 : ∀ y ∈ p0, y.block < W.heap.size := fun y hy => by simpa using hW'.lt y (by simp [hy])
  have hlt1 : ∀ y ∈ p1, y.block < W.heap.size := fun y hy => by simpa using hW'.lt y (by simp [hy])
  refine (steps_claim W n0 es0 oe0 c0 ar0 oa0 ca0 hc0 hl0 he0 hac0 hal0 ha0 q1 rot1 ot1 ct1 u1 hrc1 hrl1 hr1).mono fun e W' ⟨he, hn⟩ => ?_
  subst he
  exact ⟨_, rfl, _, _, _, [], _, [], hW', trodAll_mk1 (shut_bool Try.underlying4 true), trodAll_mk2 (Below.trod laid_out (by kernel_rfl) (of_decide_eq_true (by kernel_rfl)) h0k hn hlt0) (Below.trod laid_out (by kernel_rfl) (of_decide_eq_true (by kernel_rfl)) h1k hn hlt1), rfl, hn.frame _, fun h => by cases h⟩

theorem rotorSteps_holds : Rows.RotorStepsSaid :=
  OpenClaim.holds_of_wide 3 Try.f3 rfl rfl rfl rfl rfl rfl rfl ⟨rfl, rfl, rfl, rfl, rfl⟩ rfl rfl rfl rfl rfl (by kernel_rfl) Try.func3 (by kernel_rfl)
    (of_decide_eq_true (by kernel_rfl)) (by unfold Func.isWrapper; first | (rw [if_pos (by decide +kernel)]; kernel_rfl) | (rw [if_neg (by decide +kernel)]; exact ⟨rfl, rfl⟩))
    (fun os started H enc _ => rotorSteps_lifted os started H enc)

#print axioms rotorSteps_holds
end Go.Proofs.Ytopldbnlehjlpaa

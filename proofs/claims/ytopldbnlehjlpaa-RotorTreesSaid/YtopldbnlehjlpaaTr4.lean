/-
  rotor.Edges.
  ref45.Routed.
  slices.Equal of ints, ref17.Order, Same, ref18.SameScripts; the sizes that the statements take in (Few).
  The triangle of the examples.
  Routing chips: plain law.
  chips.Check, rotor.given.
  (*rotor.board).route with the first vertex that has chips.
  rotor.All.
  rotor.Acyclic: its closure; deferred marks of many ranges.
  rotor.Acyclic.
  What the functions give at the triangle: numbers.
  awake: the examples of chapter 45 hold.
  ref45.Walk, ref45.Route (printed by wip/mkRefWalk.py).
-/
import Derived.Test.YtopldbnlehjlpaaTr3
import Derived.BigQuiet
import Derived.BigRegionIn

set_option linter.unusedVariables false
set_option linter.unusedSimpArgs false
set_option linter.unnecessarySimpa false
namespace Go.Proofs.Ytopldbnlehjlpaa
open Go.RowKit

/-- The single edges along which the rotors of the first k vertices point. -/
def edL (ar : List (List Int)) (q : Nat) (rot : List Int) : Nat → List Int
  | 0 => []
  | k + 1 => edL ar q rot k ++ (if k = q then [] else [((((ar.getD k []).getD (rot.getD k 0).toNat 0).toNat / 2 : Nat) : Int)])
theorem edL_len (ar : List (List Int)) (q : Nat) (rot : List Int) : ∀ k, (edL ar q rot k).length ≤ k
  | 0 => by simp [edL]
  | k + 1 => by have := edL_len ar q rot k; unfold edL; split <;> simp <;> omega
def edR (n : Int) (es : List Edg) (f : List Nat) (ar : List (List Int)) (q : Int) (rot : List Int) : List Int := if rtE n es f ar q rot = 0 then edL ar q.toNat rot rot.length else []
theorem one_lit (w : World) (t : TypeId) {x : Int} (hx : I64 x) : SliceR intR 1 All (w.alloc (.cells #[.int .i64 x] t)) (some ⟨w.heap.size, 0, none⟩) [x] := by
  have := ints_lit (F := All) (G := All) w t [x] (by intro y hy; simp at hy; subst hy; exact hx) trivial
  simpa using this

/-- What the rotor at a vertex points to. -/
theorem RtOk.at {n : Int} {es : List Edg} {ar : List (List Int)} {q : Nat} {rot : List Int} (h : RtOk n es ar q rot) {v : Nat} (hv' : v < ar.length) (hvq : v ≠ q) :
    ∃ (l : List Int) (k g : Nat), ar[v]? = some l ∧ rot[v]? = some (k : Int) ∧ k < l.length ∧ l.length ≤ 1000000 ∧ l[k]? = some (g : Int) ∧ g < 2 * (endsL es).length := by
  have hl : ar[v]? = some ar[v] := List.getElem?_eq_getElem hv'
  have hk0 : rot[v]? = some (rot[v]'(by rw [h.nrot]; exact hv')) := List.getElem?_eq_getElem (by rw [h.nrot]; exact hv')
  obtain ⟨r1, _, r3⟩ := h.rots v _ _ hk0 hl
  generalize rot[v]'(by rw [h.nrot]; exact hv') = k at hk0 r1 r3
  generalize ar[v] = l at *
  obtain ⟨k, rfl⟩ := Int.eq_ofNat_of_zero_le r1
  have hkl : k < l.length := by have := r3 hvq; omega
  obtain ⟨w1, w2⟩ := h.rows v l hl
  obtain ⟨g, hg, hg2, _⟩ := w2 _ (List.getElem_mem hkl)
  exact ⟨l, k, g, hl, hk0, hkl, by have := h.cap; omega, by rw [List.getElem?_eq_getElem hkl, hg], hg2⟩
theorem edL_step {ar : List (List Int)} {q : Nat} {rot : List Int} {v k g : Nat} {l : List Int} (h1 : ar[v]? = some l) (h2 : rot[v]? = some (k : Int)) (h3 : l[k]? = some (g : Int)) (hvq : v ≠ q) :
    edL ar q rot (v + 1) = edL ar q rot v ++ [((g / 2 : Nat) : Int)] := by
  show edL ar q rot v ++ (if v = q then [] else [((((ar.getD v []).getD (rot.getD v 0).toNat 0).toNat / 2 : Nat) : Int)]) = _
  rw [if_neg hvq, getD_of h1, getD_of h2, Int.toNat_natCast, getD_of h3, Int.toNat_natCast]
theorem edL_skip {ar : List (List Int)} {q : Nat} {rot : List Int} : edL ar q rot (q + 1) = edL ar q rot q := by
  show edL ar q rot q ++ (if q = q then [] else _) = _
  rw [if_pos rfl, List.append_nil]

set_option maxRecDepth 100000 in
set_option maxHeartbeats 4000000 in
theorem rotEdges_any (n : Int) (es : List Edg) (oe : Option Addr) (c : Nat) (ar : List (List Int)) (oa : Option Addr) (ca : Nat) (F G : Foot) (w : World) (hs : SliceR edgR 3 F w oe es) (hc : es.length ≤ c) (hc2 : es.length ≤ 1000)
    (ha : SliceR (slcR intR 1) 1 G w oa ar) (hac : ar.length ≤ ca) (hac2 : ar.length ≤ 9223372036854775807) (f : List Nat) (hU : Hid (gErr n es = 0 → Uf f (eL es)))
    (q : Int) (rot : List Int) (ot : Option Addr) (ct : Nat) (H : Foot) (hr : SliceR intR 1 H w ot rot) (hrc : rot.length ≤ ct) (hrl : rot.length ≤ 9223372036854775807) :
    Calls Try.prog 22 #[.agg #[.int .i64 n, .slice oe es.length c, .slice oa ar.length ca], .int .i64 q, .slice ot rot.length ct] w
      (ListErr w (edR n es f ar q rot) (rtE n es f ar q rot)) := by
  go_enter Try.func22, Try.ntmps22
  go_wp2_with fail
  have hb0 := box_refl w (.cells #[.int .i64 n, .slice oe es.length c, .slice oa ar.length ca] 27)
  by_cases hS : rtE n es f ar q rot = 0
  · obtain ⟨q', rfl, hok⟩ := RtOk.of hS hc2
    have HR : Hid (edR n es f ar q' rot = edL ar q' rot rot.length) := if_pos hS
    have HS := hide hS
    have haB : SliceR (slcR intR 1) 1 (Lt (w.heap.size + 1)) (w.alloc (.cells #[.int .i64 n, .slice oe es.length c, .slice oa ar.length ca] 27)) oa ar := by
      have := (ha.below (slcR_ok intR_ok (by decide)) (below_box hb0)).loc (slcR_ok intR_ok (by decide)) (by decide)
      simpa using this
    refine (boardOf_any n es oe c ar oa ca F G _ (hs.below edgR_ok (below_box hb0)) hc hc2 (ha.below (slcR_ok intR_ok (by decide)) (below_box hb0)) hac hac2 f hU q' rot ot ct H (hr.below intR_ok (below_box hb0)) hrc hrl hS).mono ?_
    rintro e w2 ⟨p, rg, cap, tv, rest, rfl, hD, hb2⟩
    have hx2 := hb2.mono (B' := w.heap.size + 1) (by simp)
    have HX := hide (below_box hx2)
    have HD := hide (hD.rebase (show w.heap.size + 1 ≤ _ by simp))
    have ha2 : SliceR (slcR intR 1) 1 (Lt (w.heap.size + 1)) w2 oa ar := haB.below (slcR_ok intR_ok (by decide)) hb2
    have hsz2 := box_lt hx2
    have d1 := hD.box.cell 1
    have d3 := hD.box.cell 3
    simp at d1 d3
    have hlen := hD.len
    have hrl12 : rot.length ≤ 12 := by rw [hok.nrot]; exact hok.n12
    have hrcap : rot.length ≤ cap := by omega
    have hra := hide hok.nrot
    clear hb2 hb0 hx2 hD haB hS hlen
    go_wp2_with fail
    go_loopw [10, 28] (fun ov iv wr => ∃ k : Nat, k ≤ rot.length ∧ iv = .int .i64 k ∧ OwnS intR 1 w2.heap.size 3 Non wr ov (edL ar q' rot k) ∧ Below w2.heap.size w2 wr) (fun _ iv _ => rot.length - (intOf iv).toNat)
    case atStart => exact ⟨0, by omega, rfl, OwnS.nil _ _ _ _ _ _, Below.refl _ _⟩
    case round =>
      clear d1 d3
      obtain ⟨k, hk, rfl, hown, hbW⟩ := hrel
      have hD := HD.out.below hbW
      have d1 := hD.box.cell 1
      simp at d1
      have hszW := hbW.size
      by_cases hlt : k < rot.length
      · have hkar : k < ar.length := by rw [← hra.out]; exact hlt
        by_cases hkq : k = q'
        · obtain ⟨x, hx⟩ : ∃ x, rot[k]? = some x := ⟨_, List.getElem?_eq_getElem hlt⟩
          have r0 := hD.row.cell hx
          have HE : Hid (edL ar q' rot (k + 1) = edL ar q' rot k) := by show _ = _; rw [hkq]; exact edL_skip
          have q1 : ((k : Int) != (q' : Int)) = false := by simp [hkq]
          have HKQ := hide hkq
          clear hx hD hkq
          go_wp2_with fail
          go_roundw
          case rel => exact ⟨k + 1, by omega, by go_num, by rw [HE.out]; exact hown, hbW⟩
          case measure => simp [intOf]; omega
        · obtain ⟨l, K, g, hl, hK, hKl, hll, hg, hgE⟩ := hok.at hkar hkq
          obtain ⟨x, _, hx, b, off, ol, cl, hoa, hbB, c0, hxl, _, hsl⟩ := (ha2.below (slcR_ok intR_ok (by decide)) hbW).slc_at hkar
          rw [hl] at hx
          injection hx with hx
          subst hx
          subst hoa
          obtain ⟨y, _, hy, iy, b2, off2, hol, hb2, e0⟩ := hsl.int_at hKl
          rw [hg] at hy
          injection hy with hy
          subst hy
          subst hol
          have r0 := hD.row.cell hK
          obtain ⟨g2, hg2⟩ : ∃ g2, g2 = g / 2 := ⟨_, rfl⟩
          have HE : Hid (edL ar q' rot (k + 1) = edL ar q' rot k ++ [(g2 : Int)]) := by show _ = _; rw [hg2]; exact edL_step hl hK hg hkq
          have hq1 : ((g : Int)).tdiv 2 = (g2 : Int) := by rw [Int.tdiv_eq_ediv_of_nonneg (by omega)]; omega
          have hg3 : g2 ≤ 100000 := by have := hok.cap; omega
          have q1 : ((k : Int) != (q' : Int)) = true := by simp; omega
          have hel := edL_len ar q' rot k
          have hI : I64 (g2 : Int) := ⟨by omega, by omega⟩
          have hlit := one_lit wr 3 hI
          replace hkq := hide hkq
          replace hg2 := hide hg2
          clear hl hK hg hD
          obtain ⟨T, hT⟩ : ∃ T, T = edL ar q' rot k := ⟨_, rfl⟩
          rw [← hT] at hown HE hel
          clear hT
          have hB1 : (T.length + [(g2 : Int)].length) * 8 ≤ 140737488355328 := by simp; omega
          have hB2 : T.length + [(g2 : Int)].length ≤ 9223372036854775807 := by simp; omega
          have hB3 : w2.heap.size ≤ (wr.alloc (.cells #[.int .i64 (g2 : Int)] 3)).heap.size := by simp; omega
          have hwq : wrap64 (g2 : Int) = (g2 : Int) := by unfold wrap64; omega
          go_wp2_with (at_builtin; refine wpList_append_rep rfl (.tmp 36) (.tmp 48) 28 rfl w2.heap.size 3 _ 1 8 Try.underlying28 iInfo rfl (by decide) intR_ok Non All _ T rfl (hown.new intR_ok _) (some ⟨wr.heap.size, 0, none⟩) 1 [(g2 : Int)] rfl hlit (fun _ _ h => h) (fun _ h => h.elim) hB1 hB2 hB3 ?_; intro v' w8 ho hb8 hg8)
          clear hwq
          go_roundw
          case rel => exact ⟨k + 1, by omega, by go_num, by rw [HE.out]; exact ho, (hbW.alloc hszW _).trans hb8⟩
          case measure => simp [intOf]; omega
      · have : k = rot.length := by omega
        subst this
        go_wp2_with fail
        go_ret2
        exact ⟨_, by rw [HS.out]; rfl, by rw [HR.out]; exact hown.rebase (by omega), HX.out.trans (hbW.mono (by omega))⟩
  · have hq : (rtE n es f ar q rot != 0) = true := by simpa using hS
    refine (boardOf_err n es oe c ar oa ca F G _ (hs.below edgR_ok (below_box hb0)) hc hc2 (ha.below (slcR_ok intR_ok (by decide)) (below_box hb0)) hac hac2 f hU q rot ot ct H (hr.below intR_ok (below_box hb0)) hrc hrl hS).mono ?_
    rintro e w2 ⟨rfl, hb2⟩
    have HX := hide (below_box (hb2.mono (B' := w.heap.size + 1) (by simp)))
    have HR : Hid (edR n es f ar q rot = []) := if_neg hS
    replace hS := hide hS
    clear hb2 hb0
    go_wp2_with fail
    go_ret2
    exact ⟨_, rfl, by rw [HR.out]; exact OwnS.nil _ _ _ _ _ _, HX.out⟩

end Go.Proofs.Ytopldbnlehjlpaa

set_option linter.unusedVariables false
set_option linter.unusedSimpArgs false
set_option linter.unnecessarySimpa false
namespace Go.Proofs.Ytopldbnlehjlpaa
open Go.RowKit

/-- The vertices that Routed keeps. -/
def keptN (i : Nat) : Nat := if i + 1 ≤ 4096 then i + 1 else 4097

def RoutedPost (w : World) (ar : List (List Int)) (E : List (Int × Int)) (q : Nat) (rot : List Int) (v : Nat) (e : Ending) (w' : World) : Prop :=
  ∃ o1 n1 c1 o2 n2 c2 k o, e = .returned (.agg #[.slice o1 n1 c1, .int .i64 k, .slice o2 n2 c2, .bool o]) ∧ Below w.heap.size w w' ∧
    ((∃ i : Nat, o = false ∧ k = (i : Int) ∧ firstAt (chipV ar E rot v) q 1048577 = some i ∧ i < 1048577 ∧ chipV ar E rot v i = q ∧ (∀ j, j < i → chipV ar E rot v j ≠ q) ∧
        OwnS intR 1 w.heap.size 3 Non w' (.slice o1 n1 c1) (rotI ar E rot v i) ∧ OwnS intR 1 w.heap.size 3 Non w' (.slice o2 n2 c2) (wayL (chipV ar E rot v) (keptN i))) ∨
     (o = true ∧ ∀ j, j < 1048577 → chipV ar E rot v j ≠ q))

theorem results_row1 {fn : Func} {a : Tmp} {ty : TypeId} (h : fn.results = #[.cell a ty]) {P : Program} (tmps : Array Value) (w : World) (g : Nat) (cs : Array Value)
    (ha : tmps.getD a undef = .pointer (some ⟨g, 0, none⟩)) (e2 : (loadVar ty ⟨g, 0, none⟩).run P w = .ok (.agg cs) w) :
    (results fn tmps).run P w = .ok (.agg cs) w := by
  have e1 := run_cellAddr (P := P) (w := w) ha
  have e3 : (asAddr (tmps[a]?.getD undef)).run P w = .ok ⟨g, 0, none⟩ w := by simpa using e1
  simp [results, h, Sem.run_bind, e3, e2, Result.andThen]

/-- Between the steps of Routed. -/
structure RtSt (w4 : World) (B xb rg cp : Nat) (rest : List Value) (m : Nat) (R : Nat → List Int) (V : Nat → Nat) (i : Nat) (W : World) : Prop where
  box : ∃ o2 c2, Box W xb [.slice (some ⟨rg, 0, none⟩) m cp, .int .i64 i, .slice o2 (keptN i) c2, .bool false] 91 ∧ OwnS intR 1 B 3 Non W (.slice o2 (keptN i) c2) (wayL V (keptN i))
  row : Row1 (Value.int .i64) W rg 3 (R i) rest
  low : Below w4.heap.size w4 W

def stepsOf (W : World) (xb : Nat) : Nat := match W.cell? ⟨xb, 1, none⟩ with | some v => (intOf v).toNat | none => 0
theorem stepsOf_box {W : World} {xb i : Nat} {a b c : Value} {t : TypeId} (h : Box W xb [a, .int .i64 (i : Int), b, c] t) : stepsOf W xb = i := by
  unfold stepsOf
  rw [h.cell 1]
  simp [intOf]
theorem ownS_ne_box {W : World} {B xb : Nat} {t : TypeId} {v : Value} {xs : List Int} {cs : List Value} (h : OwnS intR 1 B 3 Non W v xs) (hb : Box W xb cs t) (ht : t ≠ 3) : ∀ g, v.ownBlock = some g → g ≠ xb := fun g hg he => by
  obtain ⟨cells, ho, _⟩ := h
  rcases ho.2 with ⟨h1, _⟩ | ⟨g2, c3, cur, h1, _, h2, _⟩
  · rw [h1] at hg; simp [Value.ownBlock] at hg
  · rw [h1] at hg
    simp only [Value.ownBlock, Option.some.injEq] at hg
    subst hg
    have h5 : W.heap[xb]? = _ := hb
    rw [← he, h2] at h5
    injection h5 with h5
    injection h5 with _ h5
    exact ht h5.symm

set_option maxRecDepth 100000 in
set_option maxHeartbeats 4000000 in
theorem routed_any (n : Int) (es : List Edg) (oe : Option Addr) (c : Nat) (ar : List (List Int)) (oa : Option Addr) (ca : Nat) (F G : Foot) (w : World) (hs : SliceR edgR 3 F w oe es) (hc : es.length ≤ c) (hc2 : es.length ≤ 1000)
    (ha : SliceR (slcR intR 1) 1 G w oa ar) (hac : ar.length ≤ ca) (hac2 : ar.length ≤ 9223372036854775807) (hm : Hid (∀ x ∈ es, x.m ≤ 50))
    (q : Nat) (rot : List Int) (ot : Option Addr) (ct : Nat) (H : Foot) (hr : SliceR intR 1 H w ot rot) (hrc : rot.length ≤ ct) (v : Nat) (hok : RtOk n es ar q rot) (hv : v < ar.length) :
    Calls Try.prog 46 #[.agg #[.int .i64 n, .slice oe es.length c, .slice oa ar.length ca], .int .i64 q, .slice ot rot.length ct, .int .i64 v] w (RoutedPost w ar (endsL es) q rot v) := by
  have HOK := hide hok
  have hrl12 : rot.length ≤ 12 := by rw [hok.nrot]; exact hok.n12
  have hr0 : rot ≠ [] := by intro e; have := hok.nrot; rw [e] at this; simp at this; omega
  have hi64 := hide hok.i64
  go_enter Try.func46, Try.ntmps46
  obtain ⟨w1, hw1⟩ : ∃ w1, (w.alloc (.cells #[.int .i64 n, .slice oe es.length c, .slice oa ar.length ca] 27)).alloc (.cells #[.slice none 0 0, .int .i64 0, .slice none 0 0, .bool false] 91) = w1 := ⟨_, rfl⟩
  have hB1 : Below w.heap.size w w1 := by rw [← hw1]; exact bnew (bnew (Below.refl _ _) _) _
  have hsz1 : w1.heap.size = w.heap.size + 2 := by rw [← hw1]; simp
  have bR : Box w1 (w.heap.size + 1) [.slice none 0 0, .int .i64 0, .slice none 0 0, .bool false] 91 := by rw [← hw1]; have := Box.new (w.alloc (.cells #[.int .i64 n, .slice oe es.length c, .slice oa ar.length ca] 27)) [.slice none 0 0, .int .i64 0, .slice none 0 0, .bool false] 91; simpa using this
  have d012 : ∀ i x, #[Value.int .i64 n, .slice oe es.length c, .slice oa ar.length ca][i]? = some x → w1.cell? ⟨w.heap.size, i, none⟩ = some x := fun i x hx => by
    have hbb : Below (w.heap.size + 1) (w.alloc (.cells #[.int .i64 n, .slice oe es.length c, .slice oa ar.length ca] 27)) w1 := by
      rw [← hw1]; exact (box_refl _ _).alloc (by simp) _
    rw [box_cell hbb i, hx]
  have d0 := d012 0 _ rfl
  have d1 := d012 1 _ rfl
  have d2 := d012 2 _ rfl
  have HT := hide (targets_any n es oe c ar oa ca F G w1 (hs.below edgR_ok hB1) hc hc2 (ha.below (slcR_ok intR_ok (by decide)) hB1) hac hac2 hm q rot hok)
  have HBR := hide (And.intro hB1 bR)
  clear d012 bR hB1 hok
  go_wp2_with fail
  refine HT.out.mono ?_
  rintro e w4 ⟨tg, tc, rfl, htc, hT, hb4⟩
  have HB4 := hide (HBR.out.1.trans (hb4.mono HBR.out.1.size))
  have HRB := hide (HBR.out.2.below hb4)
  have hr4 := hr.below intR_ok HB4.out
  have HTL := hide (hT.loc (slcR_ok intR_ok (by decide)) (by decide))
  have hlit := OwnS.ints w4 3 [] (by intro x hx; cases hx) (by simp)
  have hr5 := hr4.below intR_ok (bnew (Below.refl _ w4) (.cells #[] 3))
  have hbt : (([] : List Int).length + rot.length) * 8 ≤ 140737488355328 := by simp; omega
  have hbl : ([] : List Int).length + rot.length ≤ 9223372036854775807 := by simp; omega
  have hsz4 := hb4.size
  clear hb4 hT hw1 d0 d1 d2 hr4
  go_wp2_with (first
    | (at_builtin; refine wpList_append_rep rfl (.tmp 13) (.tmp 14) 28 rfl w4.heap.size 3 _ 1 8 Try.underlying28 iInfo rfl (by decide) intR_ok Non H _ [] rfl hlit ot ct rot rfl hr5 (fun _ _ h => h) (fun _ h => h.elim) hbt hbl (by simp) ?_; intro v' w8 ho hb8 hg8; rw [List.nil_append] at ho; obtain ⟨rg, cp, rest, rfl, hgB, hcp, hcm, hrow, _⟩ := ho.row hr0; replace hcp := hide hcp; replace hb8 := hide ((bnew (Below.refl _ w4) (.cells #[] 3)).trans hb8); clear hg8; replace ho := hide ho)
    | fail)
  obtain ⟨W0, hW0⟩ : ∃ W0, ((w8.alloc (.cells #[.int .i64 (v : Int)] 3)).alloc (.cells #[.slice (some ⟨rg, 0, none⟩) rot.length cp, .int .i64 0, .slice (some ⟨w8.heap.size, 0, none⟩) 1 1, .bool false] 91)) = W0 := ⟨_, rfl⟩
  have hb80 : Below w8.heap.size w8 W0 := by rw [← hW0]; exact bnew (bnew (Below.refl _ _) _) _
  have hrgl := hrow.lt
  have hxb : ∃ o2 c2, Box W0 (w8.heap.size + 1) [.slice (some ⟨rg, 0, none⟩) rot.length cp, .int .i64 ((0 : Nat) : Int), .slice o2 (keptN 0) c2, .bool false] 91 ∧ OwnS intR 1 w8.heap.size 3 Non W0 (.slice o2 (keptN 0) c2) (wayL (chipV ar (endsL es) rot v) (keptN 0)) := by
    have hk0 : keptN 0 = 1 := rfl
    rw [hk0]
    refine ⟨some ⟨w8.heap.size, 0, none⟩, 1, ?_, ?_⟩
    · have := Box.new (w8.alloc (.cells #[.int .i64 (v : Int)] 3)) [.slice (some ⟨rg, 0, none⟩) rot.length cp, .int .i64 0, .slice (some ⟨w8.heap.size, 0, none⟩) 1 1, .bool false] 91
      rw [hW0] at this
      simpa using this
    · have hI : I64 (v : Int) := by have := HOK.out.n12; unfold I64; omega
      have := (OwnS.ints w8 3 [(v : Int)] (by intro x hx; simp at hx; subst hx; exact hI) (by simp)).below intR_ok (bnew (Below.refl _ _) (.cells #[.slice (some ⟨rg, 0, none⟩) rot.length cp, .int .i64 0, .slice (some ⟨w8.heap.size, 0, none⟩) 1 1, .bool false] 91))
      rw [← hW0]
      simpa [wayL, chipV, rtN] using this
  have h0 : RtSt w4 w8.heap.size (w8.heap.size + 1) rg cp rest rot.length (rotI ar (endsL es) rot v) (chipV ar (endsL es) rot v) 0 W0 := ⟨hxb, hrow.below hb80, hb8.out.trans (hb80.mono hb8.out.size)⟩
  have hs48 := hb8.out.size
  rw [hW0]
  clear hW0 hb80 hxb hrow hb8 ho hlit hr5 hbt hbl
  obtain ⟨P, hP⟩ : ∃ P : Nat → World → Prop, P = fun i wr => RtSt w4 w8.heap.size (w8.heap.size + 1) rg cp rest rot.length (rotI ar (endsL es) rot v) (chipV ar (endsL es) rot v) i wr ∧ (∀ j, j < i → chipV ar (endsL es) rot v j ≠ q) := ⟨_, rfl⟩
  have HPP := hide hP
  clear hP
  go_loopw [3] (fun vv wr => ∃ i, i ≤ 1048576 ∧ P i wr ∧ vv = .int .i64 (chipV ar (endsL es) rot v i : Nat)) (fun _ wr => 1048577 - stepsOf wr (w8.heap.size + 1))
  case atStart => exact ⟨0, by omega, by rw [HPP.out]; exact ⟨h0, fun j hj => absurd hj (by omega)⟩, rfl⟩
  case round =>
    clear h0
    obtain ⟨i, hi, hPi, rfl⟩ := hrel
    have HPi := hide hPi
    rw [HPP.out] at hPi
    obtain ⟨hst, hno⟩ := hPi
    obtain ⟨o2, c2, hbx, hvs⟩ := hst.box
    have HNO := hide hno
    have HST := hide hst
    have HM1 : Hid (stepsOf wr (w8.heap.size + 1) = i) := stepsOf_box hbx
    have hszr := hst.low.size
    obtain ⟨hok2, hv2⟩ := HOK.out.along hv i hno
    have HOK2 := hide hok2
    have hvr : chipV ar (endsL es) rot v i < ar.length := hv2
    have hlen2 : (rotI ar (endsL es) rot v i).length = rot.length := by rw [show rotI ar (endsL es) rot v i = (rtN ar (endsL es) rot v i).1 from rfl, hok2.nrot, HOK.out.nrot]
    have HLEN := hide hlen2
    have x0 := hbx.cell 0
    have x1 := hbx.cell 1
    have x2 := hbx.cell 2
    have x3 := hbx.cell 3
    have y0 := hbx.free 0
    have y1 := hbx.free 1
    have y2 := hbx.free 2
    have y3 := hbx.free 3
    simp only [List.getElem?_cons_zero, List.getElem?_cons_succ] at x0 x1 x2 x3
    have hbr := HRB.out.under hst.low (by omega)
    have g0 := hbr.free 0
    have g1 := hbr.free 1
    have g2 := hbr.free 2
    have g3 := hbr.free 3
    have e0 := hbr.cell 0
    have e1 := hbr.cell 1
    have e2 := hbr.cell 2
    have e3 := hbr.cell 3
    simp only [List.getElem?_cons_zero, List.getElem?_cons_succ] at e0 e1 e2 e3
    have HBX := hide hbx
    have HVS := hide hvs
    have HBRR := hide hbr
    clear hno hst hok2 hv2 hlen2 hbx hvs hbr
    by_cases hq : chipV ar (endsL es) rot v i = q
    · have q1 : (((chipV ar (endsL es) rot v i : Nat) : Int) != (q : Int)) = false := by simp [hq]
      have HQ := hide hq
      clear hq
      go_wp2_with fail
      obtain ⟨W9, hW9⟩ : ∃ W9, (((wr.setCell ⟨w.heap.size + 1, 0, none⟩ (.slice (some ⟨rg, 0, none⟩) rot.length cp)).setCell ⟨w.heap.size + 1, 1, none⟩ (.int .i64 i)).setCell ⟨w.heap.size + 1, 2, none⟩ (.slice o2 (keptN i) c2)).setCell ⟨w.heap.size + 1, 3, none⟩ (.bool false) = W9 := ⟨_, rfl⟩
      have hbr9 : Box W9 (w.heap.size + 1) [.slice (some ⟨rg, 0, none⟩) rot.length cp, .int .i64 i, .slice o2 (keptN i) c2, .bool false] 91 := by
        rw [← hW9]
        have := (((HBRR.out.put 0 (.slice (some ⟨rg, 0, none⟩) rot.length cp)).put 1 (.int .i64 (i : Int))).put 2 (.slice o2 (keptN i) c2)).put 3 (.bool false)
        simpa using this
      have hn9 : ∀ k, k ≠ w.heap.size + 1 → k ≠ w8.heap.size + 1 → W9.heap[k]? = wr.heap[k]? := fun k hk hk2 => by
        rw [← hW9]
        repeat rw [Below.heap_setCell _ _ _ k (by simp; omega)]
      have hb9 : Below w.heap.size w W9 := by
        rw [← hW9]
        exact (((((HB4.out.trans (HST.out.low.mono HB4.out.size)).setCell (p := ⟨w.heap.size + 1, 0, none⟩) (by simp) _).setCell (p := ⟨w.heap.size + 1, 1, none⟩) (by simp) _).setCell (p := ⟨w.heap.size + 1, 2, none⟩) (by simp) _).setCell (p := ⟨w.heap.size + 1, 3, none⟩) (by simp) _)
      rw [hW9]
      clear hW9
      refine bodyPost_ret (results_row1 rfl _ _ (w.heap.size + 1) #[.slice (some ⟨rg, 0, none⟩) rot.length cp, .int .i64 i, .slice o2 (keptN i) c2, .bool false] rfl (run_loadVar_row _ _ _ _ _ _ _ hbr9 Try.underlying91 rfl (by kernel_rfl))) rfl ?_
      refine ⟨_, _, _, _, _, _, (i : Int), false, rfl, hb9, .inl ⟨i, rfl, rfl, firstAt_some (by omega) HQ.out HNO.out, by omega, HQ.out, HNO.out, ?_, ?_⟩⟩
      · have hrow9 := HST.out.row.keep (hn9 rg (by omega) (by omega))
        have := hrow9.ownInts (base := w.heap.size) (F := Non) HOK2.out.i64 (cap := cp) (by omega) (by rw [HLEN.out]; exact hcp.out) hcm
        rw [HLEN.out] at this
        exact this
      · refine (HVS.out.keep intR_ok (fun g hg => ?_) (fun _ hk _ => hk.elim)).rebase (by omega)
        have hgB := (HVS.out.block g hg).1
        refine hn9 g (by omega) fun he => ?_
        obtain ⟨cells, ho, _⟩ := HVS.out
        rcases ho.2 with ⟨h1, _⟩ | ⟨g2, c3, cur, h1, _, h2, _⟩
        · rw [h1] at hg; simp [Value.ownBlock] at hg
        · rw [h1] at hg
          simp only [Value.ownBlock, Option.some.injEq] at hg
          subst hg
          have h3 : wr.heap[w8.heap.size + 1]? = _ := HBX.out
          rw [← he, h2] at h3
          injection h3 with h3
          injection h3 with _ h3
          exact absurd h3 (by decide)
    · have q1 : (((chipV ar (endsL es) rot v i : Nat) : Int) != (q : Int)) = true := by simp; omega
      have HQ := hide hq
      clear hq
      by_cases hi2 : i = 1048576
      · have q2 : ((i : Int) == 1048576) = true := by simp; omega
        have HI2 := hide hi2
        clear hi2
        go_wp2_with fail
        obtain ⟨W9, hW9⟩ : ∃ W9, ((((wr.setCell ⟨w8.heap.size + 1, 3, none⟩ (.bool true)).setCell ⟨w.heap.size + 1, 0, none⟩ (.slice (some ⟨rg, 0, none⟩) rot.length cp)).setCell ⟨w.heap.size + 1, 1, none⟩ (.int .i64 i)).setCell ⟨w.heap.size + 1, 2, none⟩ (.slice o2 (keptN i) c2)).setCell ⟨w.heap.size + 1, 3, none⟩ (.bool true) = W9 := ⟨_, rfl⟩
        have hbr9 : Box W9 (w.heap.size + 1) [.slice (some ⟨rg, 0, none⟩) rot.length cp, .int .i64 i, .slice o2 (keptN i) c2, .bool true] 91 := by
          rw [← hW9]
          have := ((((HBRR.out.other (p := ⟨w8.heap.size + 1, 3, none⟩) (by simp; omega) (.bool true)).put 0 (.slice (some ⟨rg, 0, none⟩) rot.length cp)).put 1 (.int .i64 (i : Int))).put 2 (.slice o2 (keptN i) c2)).put 3 (.bool true)
          simpa using this
        have hn9 : ∀ k, k ≠ w.heap.size + 1 → k ≠ w8.heap.size + 1 → W9.heap[k]? = wr.heap[k]? := fun k hk hk2 => by
          rw [← hW9]
          repeat rw [Below.heap_setCell _ _ _ k (by simp; omega)]
        have hb9 : Below w.heap.size w W9 := by
          rw [← hW9]
          exact ((((((HB4.out.trans (HST.out.low.mono HB4.out.size)).setCell (p := ⟨w8.heap.size + 1, 3, none⟩) (by simp; have := HB4.out.size; omega) _).setCell (p := ⟨w.heap.size + 1, 0, none⟩) (by simp) _).setCell (p := ⟨w.heap.size + 1, 1, none⟩) (by simp) _).setCell (p := ⟨w.heap.size + 1, 2, none⟩) (by simp) _).setCell (p := ⟨w.heap.size + 1, 3, none⟩) (by simp) _)
        rw [hW9]
        clear hW9
        refine bodyPost_ret (results_row1 rfl _ _ (w.heap.size + 1) #[.slice (some ⟨rg, 0, none⟩) rot.length cp, .int .i64 i, .slice o2 (keptN i) c2, .bool true] rfl (run_loadVar_row _ _ _ _ _ _ _ hbr9 Try.underlying91 rfl (by kernel_rfl))) rfl ?_
        have hi2 := HI2.out
        refine ⟨_, _, _, _, _, _, (i : Int), true, rfl, hb9, .inr ⟨rfl, fun j hj => ?_⟩⟩
        by_cases hji : j = i
        · rw [hji]; exact HQ.out
        · exact HNO.out j (by omega)
      · have q2 : ((i : Int) == 1048576) = false := by simp; omega
        have hi3 : i < 1048576 := by omega
        clear hi2
        obtain ⟨m, K, ht, hk, hkm, hmm, hst2, hjm, hmv⟩ := tg_step HOK2.out hvr HQ.out
        obtain ⟨J, hJ⟩ : ∃ J, J = (K + 1) % m.length := ⟨_, rfl⟩
        rw [← hJ] at hst2 hjm hmv
        have hvr2 : chipV ar (endsL es) rot v i < rot.length := by rw [HOK.out.nrot]; exact hvr
        have hvr3 : chipV ar (endsL es) rot v i < (rotI ar (endsL es) rot v i).length := by rw [HLEN.out]; exact hvr2
        have hT1 := HTL.out.keep (slcR_ok intR_ok (by decide)) (SameOn.of_lt HST.out.low)
        have r0 := HST.out.row.cell hk
        have f0 := HST.out.row.free (chipV ar (endsL es) rot v i)
        have HJ := hide hJ
        have HR1 : Hid (rotI ar (endsL es) rot v (i + 1) = (rotI ar (endsL es) rot v i).set (chipV ar (endsL es) rot v i) (J : Int)) := by
          show stpR ar (rtN ar (endsL es) rot v i).1 (rtN ar (endsL es) rot v i).2 = _
          have hst3 : stpK ar (rtN ar (endsL es) rot v i).1 (rtN ar (endsL es) rot v i).2 = J := hst2
          unfold stpR
          rw [hst3]
          rfl
        have HV1 : Hid (stpV ar (endsL es) (rtN ar (endsL es) rot v i).1 (rtN ar (endsL es) rot v i).2 = chipV ar (endsL es) rot v (i + 1)) := rfl
        rw [show (rtN ar (endsL es) rot v i).1 = rotI ar (endsL es) rot v i from rfl, show (rtN ar (endsL es) rot v i).2 = chipV ar (endsL es) rot v i from rfl] at *
        clear hJ e0 e1 e2 e3 g0 g1 g2 g3
        go_wp2_with fail
        go_still_tail 12, (by kernel_rfl)
        still_call ((turned_any _ tg tc (Lt w4.heap.size) wr.drew (hT1.keep (slcR_ok intR_ok (by decide)) (fun _ _ _ => rfl)) _ m ht K hkm hmm J HJ.out).mono fun e w' he => ⟨he.1, he.2.symm⟩)
        repeat still_step
        refine wpStill_nil ?_
        change wpList _ _ _ _ _ wr.drew
        go_wp2_with fail
        obtain ⟨W2, hW2⟩ : ∃ W2, (wr.setCell ⟨rg, chipV ar (endsL es) rot v i, none⟩ (.int .i64 (J : Int))).drew = W2 := ⟨_, rfl⟩
        have hn2 : ∀ k, k ≠ rg → W2.heap[k]? = wr.heap[k]? := fun k hk => by
          rw [← hW2]
          exact Below.heap_setCell _ _ _ k (by simpa using hk)
        have hbx2 := HBX.out.keep (hn2 (w8.heap.size + 1) (by omega))
        have hrow2 : Row1 (Value.int .i64) W2 rg 3 (rotI ar (endsL es) rot v (i + 1)) rest := by
          rw [← hW2, HR1.out]
          exact (HST.out.row.put hvr3 (J : Int)).draw
        have hvs2 : OwnS intR 1 w8.heap.size 3 Non W2 (.slice o2 (keptN i) c2) (wayL (chipV ar (endsL es) rot v) (keptN i)) := HVS.out.keep intR_ok (fun g hg => hn2 g (by have := (HVS.out.block g hg).1; omega)) (fun _ hk _ => hk.elim)
        have hlow2 : Below w4.heap.size w4 W2 := by
          rw [← hW2]
          exact (HST.out.low.setCell (p := ⟨rg, chipV ar (endsL es) rot v i, none⟩) hgB _).drew
        rw [hW2]
        have hr1 := hrow2.cell (i := chipV ar (endsL es) rot v i) (x := (J : Int)) (by rw [HR1.out]; exact List.getElem?_set_self hvr3)
        have hT2 := HTL.out.keep (slcR_ok intR_ok (by decide)) (SameOn.of_lt hlow2)
        have hvt : chipV ar (endsL es) rot v i < (tgL ar (endsL es)).length := by rw [tgL_len]; exact hvr
        obtain ⟨m', _, hm', b, off, ol, cl, htg, hbB, t0, hml, _, hsm⟩ := hT2.slc_at hvt
        rw [ht] at hm'
        injection hm' with hm'
        subst hm'
        subst htg
        obtain ⟨y, _, hy, iy, b2, off2, hol, hb2, t1⟩ := hsm.int_at hjm
        rw [hmv] at hy
        injection hy with hy
        subst hy
        subst hol
        clear x0 x1 x2 x3 y0 y1 y2 y3 r0 f0 hT1 hW2 hn2
        have x0 := hbx2.cell 0
        simp only [List.getElem?_cons_zero, List.getElem?_cons_succ] at x0
        have HBX2 := hide hbx2
        have HVS2 := hide hvs2
        have HROW2 := hide hrow2
        have HLOW2 := hide hlow2
        have htl : ((tgL ar (endsL es)).length : Int) = ar.length := by rw [tgL_len]
        clear hbx2 hvs2 hrow2 hlow2 hT2 hsm ht hk hmv hst2
        go_quiet (fail)
        rw [HV1.out]
        have h3 : ∀ k : Nat, (W2.drewN nq).heap[k]? = W2.heap[k]? := fun k => rfl
        have hl3 : Below w4.heap.size w4 (W2.drewN nq) := below_drewN HLOW2.out nq
        generalize W2.drewN nq = W3 at h3 hl3 ⊢
        clear hr1 x0 t0 t1
        have HX3 := HBX2.out.keep (h3 _)
        have x0 := HX3.cell 0
        have x1 := HX3.cell 1
        have x2 := HX3.cell 2
        have y1 := HX3.free 1
        simp only [List.getElem?_cons_zero, List.getElem?_cons_succ] at x0 x1 x2
        obtain ⟨W4, hW4⟩ : ∃ W4, W3.setCell ⟨w8.heap.size + 1, 1, none⟩ (.int .i64 ((i : Int) + 1)) = W4 := ⟨_, rfl⟩
        have hbx4 : Box W4 (w8.heap.size + 1) [.slice (some ⟨rg, 0, none⟩) rot.length cp, .int .i64 ((i : Int) + 1), .slice o2 (keptN i) c2, .bool false] 91 := by
          rw [← hW4]
          simpa using HX3.put 1 (.int .i64 ((i : Int) + 1))
        have hn4 : ∀ k, k ≠ w8.heap.size + 1 → W4.heap[k]? = W2.heap[k]? := fun k hk => by
          rw [← hW4, Below.heap_setCell _ _ _ k (by simpa using hk)]
          exact h3 k
        have hxvs : ∀ g, (Value.slice o2 (keptN i) c2).ownBlock = some g → g ≠ w8.heap.size + 1 := fun g hg he => by
          obtain ⟨cells, ho, _⟩ := HVS2.out
          rcases ho.2 with ⟨h1, _⟩ | ⟨g2, c3, cur, h1, _, h2, _⟩
          · rw [h1] at hg; simp [Value.ownBlock] at hg
          · rw [h1] at hg
            simp only [Value.ownBlock, Option.some.injEq] at hg
            subst hg
            have h5 : W2.heap[w8.heap.size + 1]? = _ := HBX2.out
            rw [← he, h2] at h5
            injection h5 with h5
            injection h5 with _ h5
            exact absurd h5 (by decide)
        have hrow4 := HROW2.out.keep (hn4 rg (by omega))
        have hvs4 : OwnS intR 1 w8.heap.size 3 Non W4 (.slice o2 (keptN i) c2) (wayL (chipV ar (endsL es) rot v) (keptN i)) := HVS2.out.keep intR_ok (fun g hg => hn4 g (hxvs g hg)) (fun _ hk _ => hk.elim)
        have hl4 : Below w4.heap.size w4 W4 := by rw [← hW4]; exact hl3.setCell (p := ⟨w8.heap.size + 1, 1, none⟩) (by simp; omega) _
        have z2 := hbx4.cell 2
        have u2 := hbx4.free 2
        simp only [List.getElem?_cons_zero, List.getElem?_cons_succ] at z2
        have hsz4' : w8.heap.size + 1 < W4.heap.size := hbx4.lt
        have HB4' := hide hbx4
        have HR4 := hide hrow4
        have HL4 := hide hl4
        have HNO2 : Hid (∀ j, j < i + 1 → chipV ar (endsL es) rot v j ≠ q) := fun j hj => by
          by_cases hji : j = i
          · rw [hji]; exact HQ.out
          · exact HNO.out j (by omega)
        clear hbx4 hrow4 hl4 HX3 h3 hl3
        by_cases hk : i + 1 ≤ 4096
        · have hk1 : keptN i = i + 1 := if_pos hk
          have HK2 : Hid (keptN (i + 1) = keptN i + 1) := by
            show _ = _
            unfold keptN
            rw [if_pos hk]
            split <;> omega
          have hkd : decide ((keptN i : Int) ≤ 4096) = true := by simp; omega
          have hkl : keptN i ≤ 4096 := by omega
          have hvl : (wayL (chipV ar (endsL es) rot v) (keptN i)).length = keptN i := wayL_len _ _
          have HK1 := hide hk1
          have hV64 : I64 (chipV ar (endsL es) rot v (i + 1) : Nat) := by
            have h1 := (HOK.out.along hv (i + 1) HNO2.out).2
            have h2 := HOK.out.n12
            have h4 : chipV ar (endsL es) rot v (i + 1) < ar.length := h1
            unfold I64
            omega
          have HW1 : Hid (wayL (chipV ar (endsL es) rot v) (keptN (i + 1)) = wayL (chipV ar (endsL es) rot v) (keptN i) ++ [((chipV ar (endsL es) rot v (i + 1) : Nat) : Int)]) := by
            show _ = _
            rw [HK2.out, wayL_succ, hk1]
          obtain ⟨T, hTT⟩ : ∃ T, T = wayL (chipV ar (endsL es) rot v) (keptN i) := ⟨_, rfl⟩
          rw [← hTT] at hvl hvs4 HW1
          have hlit := one_lit W4 3 hV64
          have hbb1 : (T.length + [((chipV ar (endsL es) rot v (i + 1) : Nat) : Int)].length) * 8 ≤ 140737488355328 := by simp; omega
          have hbb2 : T.length + [((chipV ar (endsL es) rot v (i + 1) : Nat) : Int)].length ≤ 9223372036854775807 := by simp; omega
          have hbb3 : w8.heap.size ≤ (W4.alloc (.cells #[.int .i64 (chipV ar (endsL es) rot v (i + 1) : Nat)] 3)).heap.size := by simp; omega
          replace hvl := hide hvl
          have hlen5 : Hid ((T ++ [((chipV ar (endsL es) rot v (i + 1) : Nat) : Int)]).length = keptN (i + 1)) := by show _ = _; rw [HK2.out, ← hvl.out]; simp
          clear hk hk1 hTT
          go_wp2_with (first
            | (at_builtin; refine wpList_append_rep rfl (.tmp 59) (.tmp 61) 28 rfl w8.heap.size 3 _ 1 8 Try.underlying28 iInfo rfl (by decide) intR_ok Non All _ T rfl (hvs4.new intR_ok _) (some ⟨W4.heap.size, 0, none⟩) 1 [((chipV ar (endsL es) rot v (i + 1) : Nat) : Int)] rfl hlit (fun _ _ h => h) (fun _ h => h.elim) hbb1 hbb2 hbb3 ?_; intro v' w5 ho5 hb5 hg5; obtain ⟨o5, c5, hv5, _, _⟩ := ho5.slice intR_ok; rw [hlen5.out] at hv5; subst hv5; have hbx5 := (HB4'.out.next _).grown hg5 (fun he => hxvs (w8.heap.size + 1) he.symm rfl); have z5 := hbx5.cell 2; have u5 := hbx5.free 2; simp only [List.getElem?_cons_zero, List.getElem?_cons_succ] at z5; replace hbx5 := hide hbx5; replace ho5 := hide ho5; replace hb5 := hide hb5; replace hg5 := hide hg5)
            | fail)
          have hci : ((i + 1 : Nat) : Int) = (i : Int) + 1 := by omega
          have hbx6 := hbx5.out.put 2 (.slice o5 (keptN (i + 1)) c5)
          have hne5 := ownS_ne_box ho5.out hbx5.out (by decide)
          have hP6 : P (i + 1) (w5.setCell ⟨w8.heap.size + 1, 2, none⟩ (.slice o5 (keptN (i + 1)) c5)) := by
            rw [HPP.out]
            refine ⟨⟨⟨o5, c5, by rw [hci]; simpa using hbx6, ?_⟩, ?_, ?_⟩, HNO2.out⟩
            · rw [HW1.out]
              exact ho5.out.keep intR_ok (fun g hg => Below.heap_setCell _ _ _ g (by simpa using hne5 g hg)) (fun _ hk _ => hk.elim)
            · refine ((HR4.out.new (.cells #[.int .i64 (chipV ar (endsL es) rot v (i + 1) : Nat)] 3)).keep (hb5.out.block rg (by omega))).keep (Below.heap_setCell _ _ _ rg (by simp; omega))
            · exact ((HL4.out.alloc (by omega) _).trans (hb5.out.mono hs48)).setCell (p := ⟨w8.heap.size + 1, 2, none⟩) (by simp; omega) _
          refine ⟨⟨i + 1, by omega, hP6, rfl⟩, ?_⟩
          rw [HPP.out] at hP6
          obtain ⟨o7, c7, h7, _⟩ := hP6.1.box
          rw [stepsOf_box h7, HM1.out]
          omega
        · have hk1 : keptN i = 4097 := if_neg hk
          have HK2 : Hid (keptN (i + 1) = keptN i) := by
            show _ = _
            rw [hk1]
            exact if_neg (by omega)
          have hkd : decide ((keptN i : Int) ≤ 4096) = false := by simp; omega
          have hkl : 4096 < keptN i := by omega
          clear hk hk1
          go_wp2_with fail
          have hci : ((i + 1 : Nat) : Int) = (i : Int) + 1 := by omega
          have hP6 : P (i + 1) W4 := by
            rw [HPP.out]
            exact ⟨⟨⟨o2, c2, by rw [hci, HK2.out]; exact HB4'.out, by rw [HK2.out]; exact hvs4⟩, HR4.out, HL4.out⟩, HNO2.out⟩
          refine ⟨⟨i + 1, by omega, hP6, rfl⟩, ?_⟩
          rw [HPP.out] at hP6
          obtain ⟨o7, c7, h7, _⟩ := hP6.1.box
          rw [stepsOf_box h7, HM1.out]
          omega

end Go.Proofs.Ytopldbnlehjlpaa

set_option linter.unusedVariables false
set_option linter.unusedSimpArgs false
set_option linter.unnecessarySimpa false
namespace Go.Proofs.Ytopldbnlehjlpaa
open Go.RowKit

set_option maxHeartbeats 400000 in
theorem equalInt_any (l m : List Int) (oa ob : Option Addr) (c d : Nat) (F : Foot) (w : World) (hs : SliceR intR 1 F w oa l) (ht : SliceR intR 1 F w ob m) (hc : l.length ≤ c) (hc2 : l.length ≤ 9223372036854775807) :
    Calls Try.prog 19 #[.slice oa l.length c, .slice ob m.length d] w fun e w' => e = .returned (.bool (decide (l = m))) ∧ Below w.heap.size w w' := by
  by_cases hlen : l.length = m.length
  case neg =>
    have hl' : ((l.length : Int) != m.length) = true := by simp; omega
    have HL : Hid (decide (l = m) = false) := decide_eq_false fun h => hlen (by rw [h])
    clear hlen
    go_enter Try.func19, Try.ntmps19
    go_wp2_with fail
    go_ret; exact ⟨ret_bool HL.out.symm, Below.refl _ _⟩
  have hl' : ((l.length : Int) != m.length) = false := by simp [hlen]
  have HL := hide hlen
  clear hlen
  go_enter Try.func19, Try.ntmps19
  go_wp2_with fail
  go_loopw [13] (fun i wr => ∃ k : Nat, k ≤ l.length ∧ i = .int .i64 k ∧ Hid (l = m ↔ l.drop k = m.drop k) ∧ Below w.heap.size w wr) (fun i _ => l.length - (intOf i).toNat)
  case atStart => exact ⟨0, by omega, rfl, Iff.rfl, Below.refl _ _⟩
  case round =>
    obtain ⟨k, hk, rfl, HE, hb⟩ := hrel
    by_cases hlt : k < l.length
    · obtain ⟨x, hd, _, _, b, off, rfl, _, c0⟩ := (hs.below intR_ok hb).int_at hlt
      have hlt2 : k < m.length := by rw [← HL.out]; exact hlt
      obtain ⟨x', hd', _, _, b', off', rfl, _, c0'⟩ := (ht.below intR_ok hb).int_at hlt2
      have HD := hide hd
      have HD' := hide hd'
      clear hd hd' hs ht
      by_cases hx : x = x'
      · obtain rfl := hx
        go_wp2_with fail
        go_quiet (fail)
        go_wp2_with fail
        go_roundw
        case rel =>
          refine ⟨k + 1, by omega, by go_num, ?_, below_drewN hb _⟩
          show _ ↔ _
          rw [HE.out, HD.out, HD'.out]; simp
        case measure => simp [intOf]; omega
      · have hne : (x != x') = true := by simp [hx]
        have HX := hide hx
        clear hx
        go_wp2_with fail
        go_quiet (fail)
        go_wp2_with fail
        go_ret
        refine ⟨ret_bool ?_, below_drewN hb _⟩
        symm
        refine decide_eq_false fun h => HX.out ?_
        have h2 := HE.out.1 h
        rw [HD.out, HD'.out] at h2
        simp at h2
        exact h2.1
    · go_wp2_with fail
      go_ret
      refine ⟨ret_bool ?_, hb⟩
      symm
      refine decide_eq_true (HE.out.2 ?_)
      rw [List.drop_eq_nil_of_le (by omega), List.drop_eq_nil_of_le (by have := HL.out; omega)]

/-- The order of two lists of the same length. -/
def ordE : List Int → List Int → Int
  | [], _ => 0
  | _, [] => 0
  | x :: l, y :: m => if x < y then -1 else if y < x then 1 else ordE l m
theorem ordE_zero : ∀ {l m : List Int}, l.length = m.length → (ordE l m = 0 ↔ l = m)
  | [], [], _ => by simp [ordE]
  | x :: l, y :: m, h => by
    have ih := ordE_zero (l := l) (m := m) (by simpa using h)
    unfold ordE
    by_cases h1 : x < y
    · rw [if_pos h1]; simp; omega
    · by_cases h2 : y < x
      · rw [if_neg h1, if_pos h2]; simp; omega
      · rw [if_neg h1, if_neg h2, ih]
        have : x = y := by omega
        simp [this]
  | [], _ :: _, h => by simp at h
  | _ :: _, [], h => by simp at h

set_option maxHeartbeats 400000 in
theorem order_any (l m : List Int) (oa ob : Option Addr) (c d : Nat) (F : Foot) (w : World) (hs : SliceR intR 1 F w oa l) (ht : SliceR intR 1 F w ob m) (hc : l.length ≤ c) (hc2 : l.length ≤ 9223372036854775807) (hlen : Hid (l.length = m.length)) :
    Calls Try.prog 81 #[.slice oa l.length c, .slice ob m.length d] w fun e w' => e = .returned (.int .i64 (ordE l m)) ∧ Below w.heap.size w w' := by
  go_enter Try.func81, Try.ntmps81
  go_wp2_with fail
  go_loopw [5] (fun i wr => ∃ k : Nat, k ≤ l.length ∧ i = .int .i64 k ∧ Hid (ordE l m = ordE (l.drop k) (m.drop k)) ∧ Below w.heap.size w wr) (fun i _ => l.length - (intOf i).toNat)
  case atStart => exact ⟨0, by omega, rfl, rfl, Below.refl _ _⟩
  case round =>
    obtain ⟨k, hk, rfl, HE, hb⟩ := hrel
    by_cases hlt : k < l.length
    · obtain ⟨x, hd, _, _, b, off, rfl, _, c0⟩ := (hs.below intR_ok hb).int_at hlt
      have hlt2 : k < m.length := by rw [← hlen.out]; exact hlt
      obtain ⟨x', hd', _, _, b', off', rfl, _, c0'⟩ := (ht.below intR_ok hb).int_at hlt2
      have HE2 : Hid (ordE l m = if x < x' then -1 else if x' < x then 1 else ordE (l.drop (k + 1)) (m.drop (k + 1))) := by show _ = _; rw [HE.out, hd, hd']; rfl
      clear hd hd' hs ht
      by_cases hx : x < x'
      · have q1 : decide (x < x') = true := by simp [hx]
        have HR : Hid (ordE l m = -1) := by show _ = _; rw [HE2.out, if_pos hx]
        clear hx
        go_wp2_with fail
        go_quiet (fail)
        go_wp2_with fail
        go_ret
        exact ⟨ret_int HR.out.symm, below_drewN hb _⟩
      · have q1 : decide (x < x') = false := by simp; omega
        by_cases hx2 : x' < x
        · have q2 : decide (x' < x) = true := by simp [hx2]
          have HR : Hid (ordE l m = 1) := by show _ = _; rw [HE2.out, if_neg hx, if_pos hx2]
          clear hx hx2
          go_wp2_with fail
          go_quiet (fail)
          go_wp2_with fail
          go_quiet (fail)
          go_wp2_with fail
          go_ret
          exact ⟨ret_int HR.out.symm, below_drewN (below_drewN hb _) _⟩
        · have q2 : decide (x' < x) = false := by simp; omega
          have HR : Hid (ordE l m = ordE (l.drop (k + 1)) (m.drop (k + 1))) := by show _ = _; rw [HE2.out, if_neg hx, if_neg hx2]
          clear hx hx2
          go_wp2_with fail
          go_quiet (fail)
          go_wp2_with fail
          go_quiet (fail)
          go_wp2_with fail
          go_roundw
          case rel => exact ⟨k + 1, by omega, by go_num, HR, by first | exact below_drewN hb _ | exact below_drewN (below_drewN hb _) _⟩
          case measure => simp [intOf]; omega
    · have hke : k = l.length := by omega
      have HR : Hid (ordE l m = 0) := by show _ = _; rw [HE.out, hke, List.drop_length]; unfold ordE; rfl
      clear hke
      go_wp2_with fail
      go_ret
      exact ⟨ret_int HR.out.symm, hb⟩

theorem same_any (l m : List Int) (oa ob : Option Addr) (c d : Nat) (F : Foot) (w : World) (hs : SliceR intR 1 F w oa l) (ht : SliceR intR 1 F w ob m) (hc : l.length ≤ c) (hc2 : l.length ≤ 9223372036854775807) :
    Calls Try.prog 60 #[.slice oa l.length c, .slice ob m.length d] w fun e w' => e = .returned (.bool (decide (l = m))) ∧ Below w.heap.size w w' := by
  by_cases hlen : l.length = m.length
  · have hl' : ((l.length : Int) != m.length) = false := by simp [hlen]
    have hO := order_any l m oa ob c d F w hs ht hc hc2 hlen
    by_cases hz : ordE l m = 0
    · have HZ : Hid (decide (l = m) = true) := decide_eq_true ((ordE_zero hlen).1 hz)
      rw [hz] at hO
      replace hlen := hide hlen
      clear hz
      go_enter Try.func60, Try.ntmps60
      go_wp2_with fail
      refine hO.mono ?_
      rintro e w' ⟨rfl, hb⟩
      go_wp2_with fail
      go_ret
      exact ⟨ret_bool HZ.out.symm, hb⟩
    · have HZ : Hid (decide (l = m) = false) := decide_eq_false fun h => hz ((ordE_zero hlen).2 h)
      have q1 : (ordE l m == 0) = false := by simpa using hz
      replace hlen := hide hlen
      clear hz
      go_enter Try.func60, Try.ntmps60
      go_wp2_with fail
      refine hO.mono ?_
      rintro e w' ⟨rfl, hb⟩
      go_wp2_with fail
      go_ret
      exact ⟨ret_bool HZ.out.symm, hb⟩
  · have hl' : ((l.length : Int) != m.length) = true := by simp; omega
    have HL : Hid (decide (l = m) = false) := decide_eq_false fun h => hlen (by rw [h])
    clear hlen
    go_enter Try.func60, Try.ntmps60
    go_wp2_with fail
    go_ret
    exact ⟨ret_bool HL.out.symm, Below.refl _ _⟩
theorem sameS_any (l m : List Int) (oa ob : Option Addr) (c d : Nat) (F : Foot) (w : World) (hs : SliceR intR 1 F w oa l) (ht : SliceR intR 1 F w ob m) (hc : l.length ≤ c) (hc2 : l.length ≤ 9223372036854775807) :
    Calls Try.prog 29 #[.slice oa l.length c, .slice ob m.length d] w fun e w' => e = .returned (.bool (decide (l = m))) ∧ Below w.heap.size w w' := by
  have hO := same_any l m oa ob c d F w hs ht hc hc2
  go_enter Try.func29, Try.ntmps29
  go_wp2_with fail
  refine hO.mono ?_
  rintro e w' ⟨rfl, hb⟩
  go_wp2_with fail
  go_ret
  exact ⟨rfl, hb⟩

end Go.Proofs.Ytopldbnlehjlpaa

set_option linter.unusedVariables false
set_option linter.unusedSimpArgs false
set_option linter.unnecessarySimpa false
namespace Go.Proofs.Ytopldbnlehjlpaa
open Go.RowKit

def triE : List Edg := [⟨0, 1, 1⟩, ⟨0, 2, 1⟩, ⟨1, 2, 1⟩]
def triA : List (List Int) := [[0, 2], [1, 4], [3, 5]]

theorem i64_s {x : Int} (h : 0 ≤ x ∧ x ≤ 100) : I64 x := by unfold I64; omega
theorem triE_lit (B : Nat) (w : World) (hB : B ≤ w.heap.size) : SliceR edgR 3 (Ge B) (w.alloc (.cells #[.int .i64 0, .int .i64 1, .int .i64 1, .int .i64 0, .int .i64 2, .int .i64 1, .int .i64 1, .int .i64 2, .int .i64 1] 109)) (some ⟨w.heap.size, 0, none⟩) triE :=
  SliceR.lit (F := Ge B) edgR_ok w 109 [[.int .i64 0, .int .i64 1, .int .i64 1], [.int .i64 0, .int .i64 2, .int .i64 1], [.int .i64 1, .int .i64 2, .int .i64 1]] _ (fun i y hy => by
    match i, hy with
    | 0, hy => simp [triE] at hy; subst hy; exact ⟨_, rfl, rfl, i64_s (by decide), i64_s (by decide), i64_s (by decide)⟩
    | 1, hy => simp [triE] at hy; subst hy; exact ⟨_, rfl, rfl, i64_s (by decide), i64_s (by decide), i64_s (by decide)⟩
    | 2, hy => simp [triE] at hy; subst hy; exact ⟨_, rfl, rfl, i64_s (by decide), i64_s (by decide), i64_s (by decide)⟩
    | i + 3, hy => simp [triE] at hy) rfl (fun _ h => h) hB

set_option maxRecDepth 100000 in
theorem tri18_any (w : World) : Calls Try.prog 71 #[] w fun e w' => ∃ g, e = .returned (.agg #[.int .i64 3, .slice (some ⟨g, 0, none⟩) 3 3]) ∧ SliceR edgR 3 (Ge w.heap.size) w' (some ⟨g, 0, none⟩) triE ∧ Below w.heap.size w w' := by
  go_enter Try.func71, Try.ntmps71
  go_wp2_with fail
  have hb := (Box.new w [.int .i64 3, .slice (some ⟨w.heap.size + 1, 0, none⟩) 3 3] 24).next (.cells #[.int .i64 0, .int .i64 1, .int .i64 1, .int .i64 0, .int .i64 2, .int .i64 1, .int .i64 1, .int .i64 2, .int .i64 1] 109)
  have hl := triE_lit w.heap.size (w.alloc (.cells #[.int .i64 3, .slice (some ⟨w.heap.size + 1, 0, none⟩) 3 3] 24)) (by simp)
  rw [World.size_alloc] at hl
  refine bodyPost_ret (results_row1 rfl _ _ w.heap.size #[.int .i64 3, .slice (some ⟨w.heap.size + 1, 0, none⟩) 3 3] rfl (run_loadVar_row _ _ _ _ _ _ _ hb Try.underlying24 rfl (by kernel_rfl))) rfl ?_
  exact ⟨_, rfl, hl, bnew (bnew (Below.refl _ _) _) _⟩

set_option maxRecDepth 100000 in
theorem tri45_any (w : World) : Calls Try.prog 41 #[] w fun e w' => ∃ g h, e = .returned (.agg #[.int .i64 3, .slice (some ⟨g, 0, none⟩) 3 3, .slice (some ⟨h, 0, none⟩) 3 3]) ∧ SliceR edgR 3 All w' (some ⟨g, 0, none⟩) triE ∧ SliceR (slcR intR 1) 1 All w' (some ⟨h, 0, none⟩) triA ∧ Below w.heap.size w w' := by
  go_enter Try.func41, Try.ntmps41
  go_wp2_with fail
  refine (tri18_any _).mono ?_
  rintro e w2 ⟨g, rfl, hE, hb2⟩
  have hx2 := hb2.mono (B' := w.heap.size + 1) (by simp)
  have hsz2 := box_lt hx2
  obtain ⟨W3, hW3⟩ : ∃ W3, (((w2.alloc (.cells #[.int .i64 0, .int .i64 2] 3)).alloc (.cells #[.int .i64 1, .int .i64 4] 3)).alloc (.cells #[.int .i64 3, .int .i64 5] 3)).alloc (.cells #[.slice (some ⟨w2.heap.size, 0, none⟩) 2 2, .slice (some ⟨w2.heap.size + 1, 0, none⟩) 2 2, .slice (some ⟨w2.heap.size + 1 + 1, 0, none⟩) 2 2] 28) = W3 := ⟨_, rfl⟩
  have hb3 : Below w2.heap.size w2 W3 := by rw [← hW3]; exact bnew (bnew (bnew (bnew (Below.refl _ _) _) _) _) _
  have hx3 := hx2.trans (hb3.mono (by omega))
  have hA : SliceR (slcR intR 1) 1 (Ge w2.heap.size) W3 (some ⟨w2.heap.size + 1 + 1 + 1, 0, none⟩) triA := by
    rw [← hW3]
    have a1 := (ints_lit (F := Ge w2.heap.size) (G := Ge w2.heap.size) w2 3 [0, 2] (by intro x hx; simp at hx; rcases hx with rfl | rfl <;> exact i64_s (by decide)) (by show _ ≤ _; simp; try omega))
    have a2 := (ints_lit (F := Ge w2.heap.size) (G := Ge w2.heap.size) (w2.alloc (.cells #[.int .i64 0, .int .i64 2] 3)) 3 [1, 4] (by intro x hx; simp at hx; rcases hx with rfl | rfl <;> exact i64_s (by decide)) (by show _ ≤ _; simp; try omega))
    have a3 := (ints_lit (F := Ge w2.heap.size) (G := Ge w2.heap.size) ((w2.alloc (.cells #[.int .i64 0, .int .i64 2] 3)).alloc (.cells #[.int .i64 1, .int .i64 4] 3)) 3 [3, 5] (by intro x hx; simp at hx; rcases hx with rfl | rfl <;> exact i64_s (by decide)) (by show _ ≤ _; simp; try omega))
    simp only [List.map_cons, List.map_nil, World.size_alloc] at a1 a2 a3
    have b1 := (a1.below intR_ok (bnew (Below.refl _ _) (.cells #[.int .i64 1, .int .i64 4] 3))).below intR_ok (bnew (Below.refl _ _) (.cells #[.int .i64 3, .int .i64 5] 3))
    have b2 := a2.below intR_ok (bnew (Below.refl _ _) (.cells #[.int .i64 3, .int .i64 5] 3))
    have := SliceR.lit (F := Ge w2.heap.size) (G := Ge w2.heap.size) (slcR_ok intR_ok (by decide)) (((w2.alloc (.cells #[.int .i64 0, .int .i64 2] 3)).alloc (.cells #[.int .i64 1, .int .i64 4] 3)).alloc (.cells #[.int .i64 3, .int .i64 5] 3)) 28
      [[.slice (some ⟨w2.heap.size, 0, none⟩) 2 2], [.slice (some ⟨w2.heap.size + 1, 0, none⟩) 2 2], [.slice (some ⟨w2.heap.size + 1 + 1, 0, none⟩) 2 2]] triA (fun i y hy => by
        match i, hy with
        | 0, hy => simp [triA] at hy; subst hy; exact ⟨_, rfl, _, _, rfl, by decide, by decide, b1⟩
        | 1, hy => simp [triA] at hy; subst hy; exact ⟨_, rfl, _, _, rfl, by decide, by decide, b2⟩
        | 2, hy => simp [triA] at hy; subst hy; exact ⟨_, rfl, _, _, rfl, by decide, by decide, a3⟩
        | i + 3, hy => simp [triA] at hy) rfl (fun _ h => h) (by show _ ≤ _; simp; try omega)
    simpa using this
  have hbx : Box W3 w.heap.size [.int .i64 0, .slice none 0 0, .slice none 0 0] 27 := (Box.new w [.int .i64 0, .slice none 0 0, .slice none 0 0] 27).under hx3 (by omega)
  have d0 := hbx.cell 0
  have d1 := hbx.cell 1
  have d2 := hbx.cell 2
  simp only [List.getElem?_cons_zero, List.getElem?_cons_succ] at d0 d1 d2
  have f0 := hbx.free 0
  have f1 := hbx.free 1
  have f2 := hbx.free 2
  have HE := hide (hE.below edgR_ok hb3)
  have HX := hide hx3
  have HA := hide hA
  have HBX := hide hbx
  clear hb2 hx2 hE hbx hA hx3 hb3
  go_wp2_with fail
  have hbx := ((HBX.out.put 0 (.int .i64 3)).put 1 (.slice (some ⟨g, 0, none⟩) 3 3)).put 2 (.slice (some ⟨w2.heap.size + 1 + 1 + 1, 0, none⟩) 3 3)
  simp only [List.set_cons_zero, List.set_cons_succ] at hbx
  refine bodyPost_ret (results_row1 rfl _ _ w.heap.size #[.int .i64 3, .slice (some ⟨g, 0, none⟩) 3 3, .slice (some ⟨w2.heap.size + 1 + 1 + 1, 0, none⟩) 3 3] rfl (run_loadVar_row _ _ _ _ _ _ _ hbx Try.underlying27 rfl (by kernel_rfl))) rfl ?_
  have hn : ∀ k, w.heap.size < k → (((W3.setCell ⟨w.heap.size, 0, none⟩ (.int .i64 3)).setCell ⟨w.heap.size, 1, none⟩ (.slice (some ⟨g, 0, none⟩) 3 3)).setCell ⟨w.heap.size, 2, none⟩ (.slice (some ⟨w2.heap.size + 1 + 1 + 1, 0, none⟩) 3 3)).heap[k]? = W3.heap[k]? := fun k hk => by
    rw [Below.heap_setCell _ _ _ k (by simp; omega), Below.heap_setCell _ _ _ k (by simp; omega), Below.heap_setCell _ _ _ k (by simp; omega)]
  refine ⟨g, _, rfl, (HE.out.keep edgR_ok fun k hk _ => hn k ?_).all edgR_ok (by decide), (HA.out.keep (slcR_ok intR_ok (by decide)) fun k hk _ => hn k ?_).all (slcR_ok intR_ok (by decide)) (by decide), ?_⟩
  · have h1 : w.heap.size + 1 ≤ k := by simpa [Ge] using hk
    omega
  · have h1 : w2.heap.size ≤ k := hk
    omega
  · exact (((below_box HX.out).setCell (p := ⟨w.heap.size, 0, none⟩) (by simp) _).setCell (p := ⟨w.heap.size, 1, none⟩) (by simp) _).setCell (p := ⟨w.heap.size, 2, none⟩) (by simp) _

end Go.Proofs.Ytopldbnlehjlpaa

set_option linter.unusedVariables false
set_option linter.unusedSimpArgs false
set_option linter.unnecessarySimpa false
namespace Go.Proofs.Ytopldbnlehjlpaa
open Go.RowKit

/-- The vertices below k, other than the sink, that have chips. -/
def liveP (q : Nat) (l : List Int) (k : Nat) : List Int := ((List.range k).filter fun v : Nat => decide (v ≠ q ∧ 0 < l.getD v 0)).map fun v : Nat => (v : Int)
def liveL (q : Nat) (l : List Int) : List Int := liveP q l l.length
theorem liveP_yes {q : Nat} {l : List Int} {k : Nat} {x : Int} (hx : l[k]? = some x) (h1 : k ≠ q) (h2 : 0 < x) : liveP q l (k + 1) = liveP q l k ++ [(k : Int)] := by
  have : l.getD k 0 = x := getD_of hx
  simp only [liveP, List.range_succ, List.filter_append, List.map_append]
  congr 1
  simp only [List.filter_cons, List.filter_nil, this]
  simp [h1, h2]
theorem liveP_no {q : Nat} {l : List Int} {k : Nat} {x : Int} (hx : l[k]? = some x) (h : ¬ (k ≠ q ∧ 0 < x)) : liveP q l (k + 1) = liveP q l k := by
  have : l.getD k 0 = x := getD_of hx
  simp only [liveP, List.range_succ, List.filter_append, List.map_append]
  simp only [List.filter_cons, List.filter_nil, this]
  simp [h]
theorem liveP_len (q : Nat) (l : List Int) (k : Nat) : (liveP q l k).length ≤ k := by
  have := List.length_filter_le (fun v => decide (v ≠ q ∧ 0 < l.getD v 0)) (List.range k)
  simp [liveP]
  simpa using this
theorem live_mem {q : Nat} {l : List Int} {x : Int} (h : x ∈ liveL q l) : ∃ v : Nat, x = v ∧ v < l.length ∧ v ≠ q ∧ 0 < l.getD v 0 := by
  unfold liveL liveP at h
  obtain ⟨v, hv, rfl⟩ := List.mem_map.1 h
  simp only [List.mem_filter, List.mem_range, decide_eq_true_eq] at hv
  exact ⟨v, rfl, hv.1, hv.2.1, hv.2.2⟩

abbrev MSt := List Int × List Int × List Int
def addL (l : List Int) (v : Nat) (x : Int) : List Int := l.set v (l.getD v 0 + x)
theorem addL_len (l : List Int) (v : Nat) (x : Int) : (addL l v x).length = l.length := by simp [addL]
theorem addL_mem {l : List Int} {v : Nat} {x y : Int} (h : y ∈ addL l v x) (hv : v < l.length) : y ∈ l ∨ ∃ z ∈ l, y = z + x := by
  unfold addL at h
  rcases List.mem_or_eq_of_mem_set h with h1 | h1
  · exact .inl h1
  · refine .inr ⟨l[v], List.getElem_mem hv, ?_⟩
    rw [h1, getD_of (List.getElem?_eq_getElem hv)]
/-- A chip moves from v. -/
def mvS (ar : List (List Int)) (E : List (Int × Int)) (s : MSt) (v : Nat) : MSt := (stpR ar s.1 v, addL (addL s.2.1 v (-1)) (stpV ar E s.1 v) 1, addL s.2.2 v 1)
/-- What there is behind i moves, by picks. -/
def mvN (ar : List (List Int)) (E : List (Int × Int)) (q : Nat) (pk : Nat → List Int → Int) (s : MSt) : Nat → MSt
  | 0 => s
  | i + 1 => mvS ar E (mvN ar E q pk s i) (pk i (liveL q (mvN ar E q pk s i).2.1)).toNat

structure MvOk (n : Int) (es : List Edg) (ar : List (List Int)) (q : Nat) (i : Nat) (s : MSt) : Prop where
  rot : RtOk n es ar q s.1
  ll : s.2.1.length = ar.length
  tl : s.2.2.length = ar.length
  lb : ∀ x ∈ s.2.1, -1048576 - (i : Int) ≤ x ∧ x ≤ 1048576 + (i : Int)
  tb : ∀ x ∈ s.2.2, 0 ≤ x ∧ x ≤ (i : Int)
theorem MvOk.step {n : Int} {es : List Edg} {ar : List (List Int)} {q i : Nat} {s : MSt} (h : MvOk n es ar q i s) {v : Nat} (hv : v < ar.length) (hq : v ≠ q) : MvOk n es ar q (i + 1) (mvS ar (endsL es) s v) ∧ stpV ar (endsL es) s.1 v < ar.length := by
  obtain ⟨_, h1, h2⟩ := h.rot.step hv hq
  refine ⟨⟨h1, by simp [mvS, addL_len, h.ll], by simp [mvS, addL_len, h.tl], fun x hx => ?_, fun x hx => ?_⟩, h2⟩
  · rcases addL_mem hx (by rw [addL_len, h.ll]; exact h2) with h3 | ⟨z, h3, rfl⟩
    · rcases addL_mem h3 (by rw [h.ll]; exact hv) with h4 | ⟨y, h4, rfl⟩
      · have := h.lb x h4; omega
      · have := h.lb y h4; omega
    · rcases addL_mem h3 (by rw [h.ll]; exact hv) with h4 | ⟨y, h4, rfl⟩
      · have := h.lb z h4; omega
      · have := h.lb y h4; omega
  · rcases addL_mem hx (by rw [h.tl]; exact hv) with h4 | ⟨y, h4, rfl⟩
    · have := h.tb x h4; omega
    · have := h.tb y h4; omega

def Picks (pk : Nat → List Int → Int) : Prop := ∀ i l, l ≠ [] → pk i l ∈ l
theorem mv_ok {n : Int} {es : List Edg} {ar : List (List Int)} {q : Nat} {s : MSt} {pk : Nat → List Int → Int} (hpk : Picks pk) (h : MvOk n es ar q 0 s) : ∀ i, (∀ j, j < i → (liveL q (mvN ar (endsL es) q pk s j).2.1).length ≠ 0) → MvOk n es ar q i (mvN ar (endsL es) q pk s i)
  | 0, _ => h
  | i + 1, hp => by
    have ih := mv_ok hpk h i fun j hj => hp j (by omega)
    have h1 := hpk i (liveL q (mvN ar (endsL es) q pk s i).2.1) (by intro e; exact hp i (by omega) (by rw [e]; rfl))
    obtain ⟨v, h2, h3, h4, _⟩ := live_mem h1
    unfold mvN
    rw [h2]
    exact (ih.step (by rw [← ih.ll]; simpa using h3) (by simpa using h4)).1

/-- The first pick. -/
def pk0 : Nat → List Int → Int := fun _ l => l.headD 0
theorem pk0_ok : Picks pk0 := fun i l h => by
  cases l with
  | nil => exact absurd rfl h
  | cons x r => simp [pk0]
def start (rot d : List Int) (n : Nat) : MSt := (rot, d, List.replicate n 0)
theorem start_ok {n : Int} {es : List Edg} {ar : List (List Int)} {q : Nat} {rot d : List Int} (h : RtOk n es ar q rot) (hd : d.length = ar.length) (hb : ∀ x ∈ d, -1048576 ≤ x ∧ x ≤ 1048576) : MvOk n es ar q 0 (start rot d d.length) :=
  ⟨h, hd, by simp [start, hd], fun x hx => by have := hb x hx; omega, fun x hx => by
    simp [start] at hx
    omega⟩

/-- The rotors and the numbers of steps, or the error. -/
def movesUp (M : Nat) (ar : List (List Int)) (E : List (Int × Int)) (q : Nat) (pk : Nat → List Int → Int) (rot d : List Int) : List Int × List Int × Int :=
  match firstAt (fun i => (liveL q (mvN ar E q pk (start rot d d.length) i).2.1).length) 0 M with
  | some i => ((mvN ar E q pk (start rot d d.length) i).1, (mvN ar E q pk (start rot d d.length) i).2.2, 0)
  | none => ([], [], 12)
theorem movesUp_hit {M : Nat} {ar : List (List Int)} {E : List (Int × Int)} {q : Nat} {pk : Nat → List Int → Int} {rot d : List Int} {i : Nat} {s : MSt} (hi : i < M) (hs : mvN ar E q pk (start rot d d.length) i = s) (h1 : (liveL q s.2.1).length = 0)
    (h2 : ∀ j, j < i → (liveL q (mvN ar E q pk (start rot d d.length) j).2.1).length ≠ 0) : movesUp M ar E q pk rot d = (s.1, s.2.2, 0) := by
  have h3 : firstAt (fun i => (liveL q (mvN ar E q pk (start rot d d.length) i).2.1).length) 0 M = some i := firstAt_some hi (by rw [hs]; exact h1) h2
  unfold movesUp
  rw [h3]
  simp only [hs]
theorem movesUp_none {M : Nat} {ar : List (List Int)} {E : List (Int × Int)} {q : Nat} {pk : Nat → List Int → Int} {rot d : List Int} (h2 : ∀ j, j < M → (liveL q (mvN ar E q pk (start rot d d.length) j).2.1).length ≠ 0) : movesUp M ar E q pk rot d = ([], [], 12) := by
  have h3 : firstAt (fun i => (liveL q (mvN ar E q pk (start rot d d.length) i).2.1).length) 0 M = none := firstAt_none h2
  unfold movesUp
  rw [h3]
def movesOf (ar : List (List Int)) (E : List (Int × Int)) (q : Nat) (pk : Nat → List Int → Int) (rot d : List Int) : List Int × List Int × Int := movesUp 1048577 ar E q pk rot d
theorem movesOf_hit {ar : List (List Int)} {E : List (Int × Int)} {q : Nat} {pk : Nat → List Int → Int} {rot d : List Int} {i : Nat} {s : MSt} (hi : i < 1048577) (hs : mvN ar E q pk (start rot d d.length) i = s) (h1 : (liveL q s.2.1).length = 0)
    (h2 : ∀ j, j < i → (liveL q (mvN ar E q pk (start rot d d.length) j).2.1).length ≠ 0) : movesOf ar E q pk rot d = (s.1, s.2.2, 0) := movesUp_hit hi hs h1 h2
theorem movesOf_none {ar : List (List Int)} {E : List (Int × Int)} {q : Nat} {pk : Nat → List Int → Int} {rot d : List Int} (h2 : ∀ j, j < 1048577 → (liveL q (mvN ar E q pk (start rot d d.length) j).2.1).length ≠ 0) : movesOf ar E q pk rot d = ([], [], 12) := movesUp_none h2

end Go.Proofs.Ytopldbnlehjlpaa

set_option linter.unusedVariables false
set_option linter.unusedSimpArgs false
set_option linter.unnecessarySimpa false
namespace Go.Proofs.Ytopldbnlehjlpaa
open Go.RowKit

def inChips (k : Int) : Bool := decide (-1048576 ≤ k ∧ k ≤ 1048576)
def dScan : List Int → Int
  | [] => 0
  | x :: r => if inChips x = true then dScan r else 2
/-- The error of a divisor on n vertices. -/
def dErr (n : Int) (d : List Int) : Int := if 1 ≤ n ∧ n ≤ 12 then (if (d.length : Int) = n then dScan d else 8) else 2
theorem dScan_zero : ∀ {d : List Int}, dScan d = 0 → ∀ x ∈ d, -1048576 ≤ x ∧ x ≤ 1048576
  | [], _, x, hx => by cases hx
  | y :: r, h, x, hx => by
    unfold dScan at h
    split at h
    · rename_i h1
      rcases List.mem_cons.1 hx with rfl | h2
      · simpa [inChips] using h1
      · exact dScan_zero h x h2
    · cases h
theorem dErr_zero {n : Int} {d : List Int} (h : dErr n d = 0) : (1 ≤ n ∧ n ≤ 12) ∧ (d.length : Int) = n ∧ ∀ x ∈ d, -1048576 ≤ x ∧ x ≤ 1048576 := by
  unfold dErr at h
  split at h
  · rename_i h1
    split at h
    · rename_i h2; exact ⟨h1, h2, dScan_zero h⟩
    · cases h
  · cases h

theorem within_any (k : Int) (w : World) : Calls Try.prog 99 #[.int .i64 k] w fun e w' => e = .returned (.bool (inChips k)) ∧ Below w.heap.size w w' := by
  by_cases h1 : -1048576 ≤ k
  · by_cases h2 : k ≤ 1048576
    · have HR : Hid (inChips k = true) := by show _ = _; simp [inChips, h1, h2]
      have q1 : decide ((-1048576 : Int) ≤ k) = true := by simp [h1]
      have q2 : decide (k ≤ (1048576 : Int)) = true := by simp [h2]
      clear h1 h2
      go_enter Try.func99, Try.ntmps99
      go_wp2_with fail
      go_ret
      exact ⟨ret_bool HR.out.symm, Below.refl _ _⟩
    · have HR : Hid (inChips k = false) := by show _ = _; simp [inChips]; omega
      have q1 : decide ((-1048576 : Int) ≤ k) = true := by simp [h1]
      have q2 : decide (k ≤ (1048576 : Int)) = false := by simp; omega
      clear h1 h2
      go_enter Try.func99, Try.ntmps99
      go_wp2_with fail
      go_ret
      exact ⟨ret_bool HR.out.symm, Below.refl _ _⟩
  · have HR : Hid (inChips k = false) := by show _ = _; simp [inChips]; omega
    have q1 : decide ((-1048576 : Int) ≤ k) = false := by simp; omega
    clear h1
    go_enter Try.func99, Try.ntmps99
    go_wp2_with fail
    go_ret
    exact ⟨ret_bool HR.out.symm, Below.refl _ _⟩

def vnE (n : Int) : Int := if 1 ≤ n ∧ n ≤ 12 then 0 else 2
theorem vertices_any (n : Int) (w : World) : Calls Try.prog 98 #[.int .i64 n] w (ErrPost w (vnE n)) := by
  by_cases h1 : 1 ≤ n
  · by_cases h2 : n ≤ 12
    · have HR : Hid (vnE n = 0) := if_pos ⟨h1, h2⟩
      have q1 : decide (n < (1 : Int)) = false := by simp; omega
      have q2 : decide ((12 : Int) < n) = false := by simp; omega
      clear h1 h2
      go_enter Try.func98, Try.ntmps98
      go_wp2_with fail
      go_ret
      exact ⟨ret_int HR.out.symm, Below.refl _ _⟩
    · have HR : Hid (vnE n = 2) := if_neg (by omega)
      have q1 : decide (n < (1 : Int)) = false := by simp; omega
      have q2 : decide ((12 : Int) < n) = true := by simp; omega
      clear h1 h2
      go_enter Try.func98, Try.ntmps98
      go_wp2_with fail
      go_ret
      exact ⟨ret_int HR.out.symm, Below.refl _ _⟩
  · have HR : Hid (vnE n = 2) := if_neg (by omega)
    have q1 : decide (n < (1 : Int)) = true := by simp; omega
    clear h1
    go_enter Try.func98, Try.ntmps98
    go_wp2_with fail
    go_ret
    exact ⟨ret_int HR.out.symm, Below.refl _ _⟩

set_option maxRecDepth 100000 in
set_option maxHeartbeats 2000000 in
theorem dcheck_any (n : Int) (d : List Int) (od : Option Addr) (cd : Nat) (F : Foot) (w : World) (hd : SliceR intR 1 F w od d) (hc : d.length ≤ cd) (hc2 : d.length ≤ 9223372036854775807) :
    Calls Try.prog 79 #[.slice od d.length cd, .int .i64 n] w (ErrPost w (dErr n d)) := by
  by_cases h1 : 1 ≤ n ∧ n ≤ 12
  · have HV : Hid (vnE n = 0) := if_pos h1
    by_cases h2 : (d.length : Int) = n
    · have HR : Hid (dErr n d = dScan d) := by show _ = _; unfold dErr; rw [if_pos h1, if_pos h2]
      have q1 : ((d.length : Int) != n) = false := by simp [h2]
      replace h2 := hide h2
      clear h1
      go_enter Try.func79, Try.ntmps79
      go_wp2_with fail
      refine (vertices_any n w).mono ?_
      rintro e w2 ⟨rfl, hb2⟩
      rw [HV.out]
      go_wp2_with fail
      go_loopw [19] (fun iv wr => ∃ k : Nat, k ≤ d.length ∧ iv = .int .i64 k ∧ Hid (dErr n d = dScan (d.drop k)) ∧ Below w.heap.size w wr) (fun iv _ => d.length - (intOf iv).toNat)
      case atStart => exact ⟨0, by omega, rfl, HR, hb2⟩
      case round =>
        clear hb2
        obtain ⟨k, hk, rfl, HS, hbW⟩ := hrel
        by_cases hlt : k < d.length
        · obtain ⟨x, hdr, _, ix, b, off, hod, _, c0⟩ := (hd.below intR_ok hbW).int_at hlt
          subst hod
          have HS2 : Hid (dErr n d = if inChips x = true then dScan (d.drop (k + 1)) else 2) := by show _ = _; rw [HS.out, hdr]; rfl
          clear hdr
          go_wp2_with fail
          refine (within_any x wr).mono ?_
          rintro e w3 ⟨rfl, hb3⟩
          have hb3' := hbW.trans (hb3.mono hbW.size)
          by_cases hx : inChips x = true
          · have HS3 : Hid (dErr n d = dScan (d.drop (k + 1))) := by show _ = _; rw [HS2.out, if_pos hx]
            rw [hx]
            clear hx
            go_wp2_with fail
            go_roundw
            case rel => exact ⟨k + 1, by omega, by go_num, HS3, hb3'⟩
            case measure => simp [intOf]; omega
          · have HS3 : Hid (dErr n d = 2) := by show _ = _; rw [HS2.out, if_neg hx]
            have hx2 : inChips x = false := by simpa using hx
            rw [hx2]
            clear hx hx2
            go_wp2_with fail
            go_ret
            exact ⟨ret_int HS3.out.symm, hb3'⟩
        · have hke : k = d.length := by omega
          have HS3 : Hid (dErr n d = 0) := by show _ = _; rw [HS.out, hke, List.drop_length]; rfl
          clear hke
          go_wp2_with fail
          go_ret
          exact ⟨ret_int HS3.out.symm, hbW⟩
    · have HR : Hid (dErr n d = 8) := by show _ = _; unfold dErr; rw [if_pos h1, if_neg h2]
      have q1 : ((d.length : Int) != n) = true := by simp [h2]
      clear h1 h2
      go_enter Try.func79, Try.ntmps79
      go_wp2_with fail
      refine (vertices_any n w).mono ?_
      rintro e w2 ⟨rfl, hb2⟩
      rw [HV.out]
      go_wp2_with fail
      go_ret
      exact ⟨ret_int HR.out.symm, hb2⟩
  · have HV : Hid (vnE n = 2) := if_neg h1
    have HR : Hid (dErr n d = 2) := if_neg h1
    clear h1
    go_enter Try.func79, Try.ntmps79
    go_wp2_with fail
    refine (vertices_any n w).mono ?_
    rintro e w2 ⟨rfl, hb2⟩
    rw [HV.out]
    go_wp2_with fail
    go_ret
    exact ⟨ret_int HR.out.symm, hb2⟩

/-- Chips that a vertex other than the sink lacks. -/
def gScan (q : Int) : Nat → List Int → Int
  | _, [] => 0
  | v, x :: r => if (v : Int) ≠ q ∧ x < 0 then 2 else gScan q (v + 1) r
/-- The error of rotors with chips. -/
def gvE (n : Int) (es : List Edg) (f : List Nat) (ar : List (List Int)) (q : Int) (rot d : List Int) : Int :=
  if rtE n es f ar q rot = 0 then (if dErr n d = 0 then gScan q 0 d else dErr n d) else rtE n es f ar q rot

section
variable (n : Int) (es : List Edg) (oe : Option Addr) (c : Nat) (ar : List (List Int)) (oa : Option Addr) (ca : Nat) (F G : Foot) (w : World) (hs : SliceR edgR 3 F w oe es) (hc : es.length ≤ c) (hc2 : es.length ≤ 1000)
    (ha : SliceR (slcR intR 1) 1 G w oa ar) (hac : ar.length ≤ ca) (hac2 : ar.length ≤ 9223372036854775807) (f : List Nat) (hU : Hid (gErr n es = 0 → Uf f (eL es)))
    (q : Int) (rot : List Int) (ot : Option Addr) (ct : Nat) (H : Foot) (hr : SliceR intR 1 H w ot rot) (hrc : rot.length ≤ ct) (hrl : rot.length ≤ 9223372036854775807)
    (d : List Int) (od : Option Addr) (cd : Nat) (D : Foot) (hd : SliceR intR 1 D w od d) (hdc : d.length ≤ cd) (hdl : d.length ≤ 9223372036854775807)
include hs hc hc2 ha hac hac2 hU hr hrc hrl hd hdc hdl

def GivenPost (w : World) (n : Int) (es : List Edg) (f : List Nat) (ar : List (List Int)) (oa : Option Addr) (ca : Nat) (q : Int) (rot d : List Int) (e : Ending) (w' : World) : Prop :=
  (gvE n es f ar q rot d = 0 ∧ BoardPost w n es f ar oa ca q rot e w') ∨ (gvE n es f ar q rot d ≠ 0 ∧ BoardErr w (gvE n es f ar q rot d) e w')

set_option maxRecDepth 100000 in
set_option maxHeartbeats 4000000 in
theorem given_any :
    Calls Try.prog 56 #[.agg #[.int .i64 n, .slice oe es.length c, .slice oa ar.length ca], .int .i64 q, .slice ot rot.length ct, .slice od d.length cd] w (GivenPost w n es f ar oa ca q rot d) := by
  go_enter Try.func56, Try.ntmps56
  go_wp2_with fail
  have hb0 := box_refl w (.cells #[.int .i64 n, .slice oe es.length c, .slice oa ar.length ca] 27)
  by_cases hR : rtE n es f ar q rot = 0
  · refine (boardOf_any n es oe c ar oa ca F G _ (hs.below edgR_ok (below_box hb0)) hc hc2 (ha.below (slcR_ok intR_ok (by decide)) (below_box hb0)) hac hac2 f hU q rot ot ct H (hr.below intR_ok (below_box hb0)) hrc hrl hR).mono ?_
    rintro e w2 ⟨p, rg, cap, tv, rest, rfl, hD, hb2⟩
    have hx2 := hb2.mono (B' := w.heap.size + 1) (by simp)
    have d0 := box_cell hx2 0
    simp at d0
    have HX := hide (below_box hx2)
    have HD := hide (hD.rebase (show w.heap.size ≤ _ by simp))
    have HG : Hid (gvE n es f ar q rot d = if dErr n d = 0 then gScan q 0 d else dErr n d) := if_pos hR
    replace hR := hide hR
    have hd2 := hd.below intR_ok HX.out
    clear hb2 hb0 hx2 hD
    go_wp2_with fail
    refine (dcheck_any n d od cd D w2 hd2 hdc hdl).mono ?_
    rintro e w3 ⟨rfl, hb3⟩
    have hb23 := HX.out.trans (hb3.mono HX.out.size)
    have HB3 := hide hb3
    have HX3 := hide hb23
    clear hb3 d0 hd2
    by_cases hE : dErr n d = 0
    · have HG2 : Hid (gvE n es f ar q rot d = gScan q 0 d) := by show _ = _; rw [HG.out, if_pos hE]
      rw [hE]
      clear hE hb23
      go_wp2_with fail
      go_loopw [35] (fun iv wr => ∃ k : Nat, k ≤ d.length ∧ iv = .int .i64 k ∧ Hid (gvE n es f ar q rot d = gScan q k (d.drop k)) ∧ wr = w3) (fun iv _ => d.length - (intOf iv).toNat)
      case atStart => exact ⟨0, by omega, rfl, HG2, rfl⟩
      case round =>
        obtain ⟨k, hk, rfl, HS, rfl⟩ := hrel
        by_cases hlt : k < d.length
        · obtain ⟨x, hdr, _, ix, b, off, hod, _, c0⟩ := (hd.below intR_ok HX3.out).int_at hlt
          subst hod
          have HS2 : Hid (gvE n es f ar q rot d = if (k : Int) ≠ q ∧ x < 0 then 2 else gScan q (k + 1) (d.drop (k + 1))) := by show _ = _; rw [HS.out, hdr]; rfl
          clear hdr
          by_cases hkq : (k : Int) = q
          · have q1 : ((k : Int) != q) = false := by simp [hkq]
            have HS3 : Hid (gvE n es f ar q rot d = gScan q (k + 1) (d.drop (k + 1))) := by show _ = _; rw [HS2.out, if_neg (by intro h; exact h.1 hkq)]
            clear hkq
            go_wp2_with fail
            go_roundw
            case rel => exact ⟨k + 1, by omega, by go_num, HS3, by first | rfl | trivial⟩
            case measure => simp [intOf]; omega
          · have q1 : ((k : Int) != q) = true := by simp [hkq]
            by_cases hx : x < 0
            · have q2 : decide (x < 0) = true := by simp [hx]
              have HS3 : Hid (gvE n es f ar q rot d = 2) := by show _ = _; rw [HS2.out, if_pos ⟨hkq, hx⟩]
              clear hkq hx
              go_wp2_with fail
              go_ret2
              exact .inr ⟨by rw [HS3.out]; decide, by rw [HS3.out]; rfl, HX3.out⟩
            · have q2 : decide (x < 0) = false := by simp; omega
              have HS3 : Hid (gvE n es f ar q rot d = gScan q (k + 1) (d.drop (k + 1))) := by show _ = _; rw [HS2.out, if_neg (by intro h; exact hx h.2)]
              clear hkq hx
              go_wp2_with fail
              go_roundw
              case rel => exact ⟨k + 1, by omega, by go_num, HS3, by first | rfl | trivial⟩
              case measure => simp [intOf]; omega
        · have hke : k = d.length := by omega
          have HS3 : Hid (gvE n es f ar q rot d = 0) := by show _ = _; rw [HS.out, hke, List.drop_length]; rfl
          clear hke
          go_wp2_with fail
          go_ret2
          exact .inl ⟨HS3.out, p, rg, cap, tv, rest, rfl, HD.out.below HB3.out, HX3.out⟩
    · have HG2 : Hid (gvE n es f ar q rot d = dErr n d) := by show _ = _; rw [HG.out, if_neg hE]
      have hq : (dErr n d != 0) = true := by simpa using hE
      replace hE := hide hE
      clear hb23
      go_wp2_with fail
      go_ret2
      exact .inr ⟨by rw [HG2.out]; exact hE.out, by rw [HG2.out]; rfl, HX3.out⟩
  · have HG : Hid (gvE n es f ar q rot d = rtE n es f ar q rot) := if_neg hR
    refine (boardOf_err n es oe c ar oa ca F G _ (hs.below edgR_ok (below_box hb0)) hc hc2 (ha.below (slcR_ok intR_ok (by decide)) (below_box hb0)) hac hac2 f hU q rot ot ct H (hr.below intR_ok (below_box hb0)) hrc hrl hR).mono ?_
    rintro e w2 ⟨rfl, hb2⟩
    have HX := hide (below_box (hb2.mono (B' := w.heap.size + 1) (by simp)))
    have hq : (rtE n es f ar q rot != 0) = true := by simpa using hR
    replace hR := hide hR
    clear hb2 hb0
    go_wp2_with fail
    go_ret2
    exact .inr ⟨by rw [HG.out]; exact hR.out, by rw [HG.out]; rfl, HX.out⟩
end

end Go.Proofs.Ytopldbnlehjlpaa

set_option linter.unusedVariables false
set_option linter.unusedSimpArgs false
set_option linter.unnecessarySimpa false
namespace Go.Proofs.Ytopldbnlehjlpaa
open Go.RowKit

def MovesPost (B : Nat) (w : World) (x : List Int × List Int × Int) (e : Ending) (w' : World) : Prop :=
  ∃ rv cv, e = .returned (.tuple #[rv, cv, .int .i64 x.2.2]) ∧ OwnS intR 1 B 3 Non w' rv x.1 ∧ OwnS intR 1 B 3 Non w' cv x.2.1 ∧ Below B w w'

theorem pick0_any (l : List Int) (oa : Option Addr) (c : Nat) (F : Foot) (w : World) (hs : SliceR intR 1 F w oa l) (hl : l ≠ []) (hc : l.length ≤ c) : Calls Try.prog 58 #[.slice oa l.length c] w fun e w' => e = .returned (.int .i64 (l.headD 0)) ∧ w = w' := by
  have h0 : 0 < l.length := List.length_pos_iff.2 hl
  obtain ⟨x, _, hx, ix, b, off, rfl, _, c0⟩ := hs.int_at h0
  have HX : Hid (l.headD 0 = x) := by
    show _ = _
    cases l with
    | nil => exact absurd rfl hl
    | cons y r => simpa using hx
  have hlp : (0 : Int) < l.length := by omega
  simp only [Nat.add_zero] at c0
  clear hx hl
  go_enter Try.func58, Try.ntmps58
  go_wp2_with fail
  go_ret
  exact ⟨ret_int HX.out.symm, rfl⟩

set_option maxRecDepth 100000 in
set_option maxHeartbeats 4000000 in
theorem routeC_any (B : Nat) (w : World) (p rg cap : Nat) (tv : Value) (q : Nat) (n : Int) (es : List Edg) (ar : List (List Int)) (rot : List Int) (rest : List Value) (oa : Option Addr) (ca : Nat)
    (hD : Brd B w p rg cap tv q (.slice oa ar.length ca) (toL (endsL es)) rot rest) (ha : SliceR (slcR intR 1) 1 (Lt B) w oa ar) (hok : RtOk n es ar q rot) (hBw : B ≤ w.heap.size)
    (d : List Int) (od : Option Addr) (cd : Nat) (D : Foot) (hd : SliceR intR 1 D w od d) (hdc : d.length ≤ cd) (hdn : d.length = ar.length) (hdb : ∀ x ∈ d, -1048576 ≤ x ∧ x ≤ 1048576) :
    Calls Try.prog 57 #[.pointer (some ⟨p, 0, none⟩), .slice od d.length cd, .func (.func 58) #[] #[]] w (MovesPost B w (movesOf ar (endsL es) q pk0 rot d)) := by
  obtain ⟨S, hS⟩ : ∃ S, S = mvN ar (endsL es) q pk0 (start rot d d.length) := ⟨_, rfl⟩
  have HS := hide hS
  have hst := start_ok hok hdn hdb
  have HST := hide hst
  have hn12 := hok.n12
  have hq := hok.hq
  have hd0 : d ≠ [] := by intro e; rw [e] at hdn; simp at hdn; omega
  have hdl : d.length ≤ 12 := by omega
  replace hdn := hide hdn
  clear hS hst
  go_enter Try.func57, Try.ntmps57
  go_wp2_with (first
    | (go_at_call 80; refine (cloneD_any d od cd D w hd hdc (by omega)).mono ?_; rintro e w2 ⟨dv, rfl, hdv, hb2⟩; obtain ⟨dg, dcap, drest, rfl, hdg, hdcap, hdm, hdrow, hd64⟩ := hdv.row hd0; replace hdcap := hide hdcap; replace hd64 := hide hd64)
    | (at_make; refine wpList_make_row w2 rfl _ _ 56 rfl 3 (0 : Int) 8 Try.underlying56 iInfo rfl .i64 .i64 _ _ d.length rfl rfl rfl rfl (by omega) (by unfold maxLen; omega) ?_; intro w3 hcrow hb3 hg3)
    | fail)
  have hb23 := hb2.trans (hb3.mono hb2.size)
  have hD3 := hide ((hD.below hb2).below hb3)
  have hsz2 := hb2.size
  have hsz3 := hb3.size
  have hp1 := hD.box.lt
  have hrg1 := hD.row.lt
  have hpB := hD.pB
  have hgB := hD.gB
  have htv : ∀ g, tv.ownBlock = some g → B ≤ g ∧ g < w.heap.size := fun g hg => hD.tos.block g hg
  have hdrow3 := hdrow.below hb3
  have hdgl := hdrow.lt
  have hcgl := hcrow.lt
  have HB23 := hide hb23
  have hl0 : (S 0).1 = rot ∧ (S 0).2.1 = d ∧ (S 0).2.2 = List.replicate d.length 0 := by rw [HS.out]; exact ⟨rfl, rfl, rfl⟩
  have hS1 : ∀ i, S (i + 1) = mvS ar (endsL es) (S i) (pk0 i (liveL q (S i).2.1)).toNat := fun i => by rw [HS.out]; rfl
  have HS1 := hide hS1
  have hmv : ∀ i, (∀ j, j < i → (liveL q (S j).2.1).length ≠ 0) → MvOk n es ar q i (S i) := by
    rw [HS.out]
    exact mv_ok pk0_ok HST.out
  have HMV := hide hmv
  have hd3 := hD3
  obtain ⟨P, hP⟩ : ∃ P : Nat → World → Prop, P = fun i wr => Brd B wr p rg cap tv q (.slice oa ar.length ca) (toL (endsL es)) (S i).1 rest ∧ Row1 (Value.int .i64) wr dg 3 (S i).2.1 drest ∧ Row1 (Value.int .i64) wr w2.heap.size 3 (S i).2.2 [] ∧ Below B w wr ∧ w3.heap.size ≤ wr.heap.size ∧ (∀ j, j < i → (liveL q (S j).2.1).length ≠ 0) := ⟨_, rfl⟩
  have HPP := hide hP
  have h0 : P 0 w3 := by
    rw [hP]
    refine ⟨by rw [hl0.1]; exact hD3.out, by rw [hl0.2.1]; exact hdrow3, by rw [hl0.2.2]; exact hcrow, hb23.mono hBw, Nat.le_refl _, fun j hj => absurd hj (by omega)⟩
  clear hP hl0 hS1 hmv hd3 hD3 hdrow3 hdrow hcrow hb2 hb3 hb23 hg3 hdv hD
  go_wp2_with fail
  go_loopw [10] (fun nv wr => ∃ i : Nat, i ≤ 1048576 ∧ nv = .int .i64 i ∧ P i wr) (fun nv _ => 1048577 - (intOf nv).toNat)
  case atStart => exact ⟨0, by omega, rfl, h0⟩
  case round =>
    clear h0
    obtain ⟨i, hi, rfl, hPi⟩ := hrel
    rw [HPP.out] at hPi
    obtain ⟨hD, hdr, hcr, hlow, hsw, hno⟩ := hPi
    have hMV := HMV.out i hno
    have hll : (S i).2.1.length = d.length := by rw [hMV.ll, hdn.out]
    have htl : (S i).2.2.length = d.length := by rw [hMV.tl, hdn.out]
    have HNO := hide hno
    have HMVI := hide hMV
    have HDI := hide hD
    have HLL := hide hll
    have HTL := hide htl
    have HDR := hide hdr
    have HCR := hide hcr
    have HLOW := hide hlow
    have d0 := hD.box.cell 0
    simp only [List.getElem?_cons_zero] at d0
    clear hno hMV hD hll htl hdr hcr hlow
    go_wp2_with fail
    obtain ⟨wo, hwo⟩ : ∃ wo : World, wo = wr := ⟨_, rfl⟩
    subst hwo
    go_loopw [24, 11] (fun kv lv wi => ∃ k : Nat, k ≤ d.length ∧ kv = .int .i64 k ∧ OwnN wo.heap.size 3 wi lv (liveP q (S i).2.1 k) ∧ Below wo.heap.size wo wi) (fun kv _ _ => d.length - (intOf kv).toNat)
    case atStart => exact ⟨0, by omega, rfl, OwnN.nil, Below.refl _ _⟩
    case round =>
      clear d0
      obtain ⟨k, hk, rfl, hown, hbi⟩ := hrel
      have hsi := hbi.size
      have hDi := HDI.out.below hbi
      have d0 := hDi.box.cell 0
      simp only [List.getElem?_cons_zero] at d0
      have hpl := hDi.box.lt
      by_cases hlt : k < d.length
      · obtain ⟨x, hx⟩ : ∃ x, (S i).2.1[k]? = some x := ⟨_, List.getElem?_eq_getElem (by rw [HLL.out]; exact hlt)⟩
        have c0 := (HDR.out.below hbi).cell hx
        have hlp := liveP_len q (S i).2.1 k
        by_cases hkq : k = q
        · have q1 : ((k : Int) != (q : Int)) = false := by simp [hkq]
          have HL1 : Hid (liveP q (S i).2.1 (k + 1) = liveP q (S i).2.1 k) := liveP_no hx (by intro h; exact h.1 hkq)
          clear hkq hx hDi
          go_wp2_with fail
          go_roundw
          case rel => exact ⟨k + 1, by omega, by go_num, by rw [HL1.out]; exact hown, hbi⟩
          case measure => simp [intOf]; omega
        · have q1 : ((k : Int) != (q : Int)) = true := by simp; omega
          by_cases hxp : 0 < x
          · have q2 : decide ((0 : Int) < x) = true := by simp [hxp]
            have HL1 : Hid (liveP q (S i).2.1 (k + 1) = liveP q (S i).2.1 k ++ [(k : Int)]) := liveP_yes hx hkq hxp
            have hone := one_cell (w := wr) (t := 3) (v := .int .i64 (k : Nat)) (j := 0) rfl
            have HBI := hide hbi
            clear hkq hx hxp hDi hbi
            generalize liveP q (S i).2.1 k = T at hown HL1 hlp
            go_wp2_with (first
              | (at_builtin; refine wpList_append_n rfl (.tmp 39) (.tmp 41) 28 rfl wo.heap.size 3 _ Try.underlying28 intInfo8 rfl _ T rfl (hown.new _) ⟨wr.heap.size, 0, none⟩ 1 (k : Int) rfl hone (by constructor <;> omega) (by omega) (by simp; omega) ?_; intro v' w6 ho6 hb6 hg6 hv6)
              | fail)
            go_roundw
            case rel => exact ⟨k + 1, by omega, by go_num, by rw [HL1.out]; exact ho6, (HBI.out.alloc (by omega) _).trans hb6⟩
            case measure => simp [intOf]; omega
          · have q2 : decide ((0 : Int) < x) = false := by simp; omega
            have HL1 : Hid (liveP q (S i).2.1 (k + 1) = liveP q (S i).2.1 k) := liveP_no hx (by intro h; exact hxp h.2)
            clear hkq hx hxp hDi
            go_wp2_with fail
            go_roundw
            case rel => exact ⟨k + 1, by omega, by go_num, by rw [HL1.out]; exact hown, hbi⟩
            case measure => simp [intOf]; omega
      · have hke : k = d.length := by omega
        have hlq : liveP q (S i).2.1 k = liveL q (S i).2.1 := by unfold liveL; rw [hke, HLL.out]
        rw [hlq] at hown
        have HBI := hide hbi
        obtain ⟨lo, lc, rfl, hlc, hls⟩ := hown.slice
        have hTL : (liveL q (S i).2.1).length ≤ 12 := by have h1 := liveP_len q (S i).2.1 (S i).2.1.length; have h2 := HLL.out; unfold liveL; omega
        obtain ⟨T, hT⟩ : ∃ T, T = liveL q (S i).2.1 := ⟨_, rfl⟩
        have HT := hide hT
        rw [← hT] at hown hlc hls hTL ⊢
        have d3 := hDi.box.cell 3
        simp only [List.getElem?_cons_zero, List.getElem?_cons_succ] at d3
        have HDW := hide hDi
        have HDRW := hide (HDR.out.below hbi)
        have HCRW := hide (HCR.out.below hbi)
        have HLW := hide (HLOW.out.trans (hbi.mono (by omega)))
        clear hke hlq hT hDi hbi
        by_cases hT0 : T.length = 0
        · have q1 : ((T.length : Int) == 0) = true := by simp [hT0]
          have HR : Hid (movesOf ar (endsL es) q pk0 rot d = ((S i).1, (S i).2.2, 0)) := by
            refine movesOf_hit (i := i) (s := S i) (by omega) (by rw [HS.out]) (by rw [← HT.out]; exact hT0) ?_
            rw [← HS.out]
            exact HNO.out
          have HT0 := hide hT0
          clear hT0
          go_wp2_with fail
          refine bodyPost_ret (results_tmp3 rfl _ _ _) rfl ⟨_, _, by rw [HR.out]; rfl, ?_, ?_, ?_⟩
          · rw [HR.out]
            exact HDW.out.own HMVI.out.rot.i64
          · rw [HR.out]
            have := HCRW.out.ownInts (base := B) (F := Non) (fun x hx => by have := HMVI.out.tb x hx; unfold I64; omega) (cap := d.length) (by omega) (by rw [HTL.out]; simp) (by unfold maxLen; omega)
            rw [HTL.out] at this
            exact this
          · exact HLW.out
        · have q1 : ((T.length : Int) == 0) = false := by simpa using hT0
          have HT0 := hide hT0
          have hTne : T ≠ [] := fun e => hT0 (by rw [e]; rfl)
          clear hT0
          by_cases hi2 : i = 1048576
          · have q2 : ((i : Int) == 1048576) = true := by simp; omega
            have HR : Hid (movesOf ar (endsL es) q pk0 rot d = ([], [], 12)) := by
              refine movesOf_none ?_
              rw [← HS.out]
              intro j hj
              by_cases hji : j = i
              · rw [hji, ← HT.out]; exact HT0.out
              · exact HNO.out j (by omega)
            replace hi2 := hide hi2
            clear hTne
            go_wp2_with fail
            refine bodyPost_ret (results_tmp3 rfl _ _ _) rfl ⟨_, _, by rw [HR.out]; rfl, ?_, ?_, ?_⟩
            · rw [HR.out]; exact OwnS.nil _ _ _ _ _ _
            · rw [HR.out]; exact OwnS.nil _ _ _ _ _ _
            · exact HLW.out
          · have q2 : ((i : Int) == 1048576) = false := by simp; omega
            have hi3 : i < 1048576 := by omega
            clear hi2
            have hmem : T.headD 0 ∈ T := by
              cases hTc : T with
              | nil => exact absurd hTc hTne
              | cons y r => simp
            rw [HT.out] at hmem
            obtain ⟨V, hV, hVl, hVq, hVp⟩ := live_mem hmem
            rw [← HT.out] at hV
            have hVd : V < d.length := by rw [← HLL.out]; exact hVl
            have HSN : Hid (S (i + 1) = mvS ar (endsL es) (S i) V) := by
              show _ = _
              rw [HS1.out i, ← HT.out]
              show mvS ar (endsL es) (S i) (T.headD 0).toNat = _
              rw [hV]
              rfl
            obtain ⟨xc, hxc⟩ : ∃ x, (S i).2.2[V]? = some x := ⟨_, List.getElem?_eq_getElem (by rw [HTL.out]; exact hVd)⟩
            obtain ⟨xd, hxd⟩ : ∃ x, (S i).2.1[V]? = some x := ⟨_, List.getElem?_eq_getElem hVl⟩
            have hcb := HMVI.out.tb xc (List.mem_of_getElem? hxc)
            have hdb2 := HMVI.out.lb xd (List.mem_of_getElem? hxd)
            have hVar : V < ar.length := by rw [← HMVI.out.ll]; exact hVl
            obtain ⟨hM2, hTo⟩ := HMVI.out.step hVar hVq
            have HNO2 : Hid (∀ j, j < i + 1 → (liveL q (S j).2.1).length ≠ 0) := fun j hj => by
              by_cases hji : j = i
              · rw [hji, ← HT.out]; exact HT0.out
              · exact HNO.out j (by omega)
            have cc0 := HCRW.out.cell hxc
            have cf0 := HCRW.out.free V
            have dd0 := HDRW.out.cell hxd
            have df0 := HDRW.out.free V
            have hpk := pick0_any T lo lc _ wr hls hTne hlc
            rw [hV] at hpk
            obtain ⟨W5, hW5⟩ : ∃ W5, wr.setCell ⟨w2.heap.size, V, none⟩ (.int .i64 (xc + 1)) = W5 := ⟨_, rfl⟩
            have hcr5 : Row1 (Value.int .i64) W5 w2.heap.size 3 (addL (S i).2.2 V 1) [] := by
              rw [← hW5]
              have := HCRW.out.put (i := V) (by rw [HTL.out]; exact hVd) (xc + 1)
              unfold addL
              rw [getD_of hxc]
              exact this
            have hdr5 : Row1 (Value.int .i64) W5 dg 3 (S i).2.1 drest := by rw [← hW5]; exact HDRW.out.other (by simp; omega) _
            have hD5 : Brd B W5 p rg cap tv q (.slice oa ar.length ca) (toL (endsL es)) (S i).1 rest := by
              rw [← hW5]
              refine HDW.out.keep fun j hj1 hj2 hor => Below.heap_setCell _ _ _ j ?_
              rcases hor with rfl | rfl | e
              · simp; omega
              · simp; omega
              · have := htv j e; simp; omega
            have hl5 : Below B w W5 := by rw [← hW5]; exact HLW.out.setCell (p := ⟨w2.heap.size, V, none⟩) (by simp; omega) _
            have hs5 : W5.heap.size = wr.heap.size := by rw [← hW5]; exact sized_set _ _ _
            have e5 := hdr5.cell hxd
            have g5 := hdr5.free V
            obtain ⟨W6, hW6⟩ : ∃ W6, W5.setCell ⟨dg, V, none⟩ (.int .i64 (xd - 1)) = W6 := ⟨_, rfl⟩
            have hcr6 : Row1 (Value.int .i64) W6 w2.heap.size 3 (addL (S i).2.2 V 1) [] := by rw [← hW6]; exact hcr5.other (by simp; omega) _
            have hdr6 : Row1 (Value.int .i64) W6 dg 3 (addL (S i).2.1 V (-1)) drest := by
              rw [← hW6]
              have := hdr5.put (i := V) hVl (xd - 1)
              unfold addL
              rw [getD_of hxd]
              exact this
            have hD6 : Brd B W6 p rg cap tv q (.slice oa ar.length ca) (toL (endsL es)) (S i).1 rest := by
              rw [← hW6]
              refine hD5.keep fun j hj1 hj2 hor => Below.heap_setCell _ _ _ j ?_
              rcases hor with rfl | rfl | e
              · simp; omega
              · simp; omega
              · have := htv j e; simp; omega
            have hl6 : Below B w W6 := by rw [← hW6]; exact hl5.setCell (p := ⟨dg, V, none⟩) (by simp; omega) _
            have hs6 : W6.heap.size = wr.heap.size := by rw [← hW6, sized_set]; exact hs5
            have hstep := step_ok hD6 (ha.keep (slcR_ok intR_ok (by decide)) (SameOn.of_lt hl6)) HMVI.out.rot hVar hVq
            obtain ⟨U, hU⟩ : ∃ U, U = stpV ar (endsL es) (S i).1 V := ⟨_, rfl⟩
            rw [← hU] at hstep hTo
            have HU := hide hU
            have hUd : U < (addL (S i).2.1 V (-1)).length := by rw [addL_len, HMVI.out.ll]; exact hTo
            obtain ⟨xu, hxu⟩ : ∃ x, (addL (S i).2.1 V (-1))[U]? = some x := ⟨_, List.getElem?_eq_getElem hUd⟩
            have hub : -4000000 ≤ xu ∧ xu ≤ 4000000 := by
              rcases addL_mem (List.mem_of_getElem? hxu) hVl with h4 | ⟨y, h4, e⟩
              · have := HMVI.out.lb xu h4; omega
              · have := HMVI.out.lb y h4; omega
            have hUdl : U < d.length := by rw [← hdn.out] at hTo; exact hTo
            have HM2 := hide hM2
            have HC6 := hide hcr6
            have HD6' := hide hdr6
            have HL6 := hide hl6
            have HHU := hide hxu
            clear hM2 hcr5 hdr5 hD5 hl5 hcr6 hdr6 hD6 hl6 hU hxc hxd hmem hVp hls hown hTne hxu
            go_wp2_with (first
              | (go_at_call 58; refine hpk.mono ?_; rintro e w' ⟨rfl, rfl⟩)
              | (go_at_call 43; refine hstep.mono ?_; rintro e W7 ⟨rfl, hD7, hg7⟩; have hdr7 := HD6'.out.keep (hg7.block dg (by omega) (fun e => by injection e; omega)); have hcr7 := HC6.out.keep (hg7.block w2.heap.size (by omega) (fun e => by injection e; omega)); have hl7 := HL6.out.grown hg7 (by omega) (fun j hj => by injection hj with hj; omega); have dd7 := hdr7.cell HHU.out; have df7 := hdr7.free U; have hs7 := hg7.size; replace hdr7 := hide hdr7; replace hcr7 := hide hcr7; replace hl7 := hide hl7; replace hD7 := hide hD7; replace hg7 := hide hg7)
              | fail)
            have hci : ((i + 1 : Nat) : Int) = (i : Int) + 1 := by omega
            refine ⟨⟨i + 1, by omega, by rw [hci], ?_⟩, by simp [intOf]; omega⟩
            rw [HPP.out]
            have hUl : U < (addL (S i).2.1 V (-1)).length := hUd
            have e1 : (S (i + 1)).1 = stpR ar (S i).1 V := by rw [HSN.out]; rfl
            have e2 : (S (i + 1)).2.1 = (addL (S i).2.1 V (-1)).set U (xu + 1) := by
              rw [HSN.out]
              show addL (addL (S i).2.1 V (-1)) (stpV ar (endsL es) (S i).1 V) 1 = _
              rw [← HU.out]
              unfold addL
              rw [show (((S i).2.1.set V ((S i).2.1.getD V 0 + -1)).getD U 0) = xu from getD_of HHU.out]
            have e3 : (S (i + 1)).2.2 = addL (S i).2.2 V 1 := by rw [HSN.out]; rfl
            refine ⟨?_, ?_, ?_, ?_, ?_, HNO2.out⟩
            · rw [e1]
              refine hD7.out.keep fun j hj1 hj2 hor => Below.heap_setCell _ _ _ j ?_
              rcases hor with rfl | rfl | e
              · simp; omega
              · simp; omega
              · have := htv j e; simp; omega
            · rw [e2]; exact hdr7.out.put hUl (xu + 1)
            · rw [e3]; exact hcr7.out.other (by simp; omega) _
            · exact hl7.out.setCell (p := ⟨dg, U, none⟩) (by simp; omega) _
            · rw [sized_set]; omega

end Go.Proofs.Ytopldbnlehjlpaa

set_option linter.unusedVariables false
set_option linter.unusedSimpArgs false
set_option linter.unnecessarySimpa false
namespace Go.Proofs.Ytopldbnlehjlpaa
open Go.RowKit

def allRes (n : Int) (es : List Edg) (f : List Nat) (ar : List (List Int)) (q : Int) (rot d : List Int) : List Int × List Int × Int :=
  if gvE n es f ar q rot d = 0 then movesOf ar (endsL es) q.toNat pk0 rot d else ([], [], gvE n es f ar q rot d)

theorem gvE_zero {n : Int} {es : List Edg} {f : List Nat} {ar : List (List Int)} {q : Int} {rot d : List Int} (h : gvE n es f ar q rot d = 0) : rtE n es f ar q rot = 0 ∧ dErr n d = 0 := by
  unfold gvE at h
  split at h
  · rename_i h1
    split at h
    · rename_i h2; exact ⟨h1, h2⟩
    · rename_i h2; exact absurd h h2
  · rename_i h1; exact absurd h h1

set_option maxRecDepth 100000 in
set_option maxHeartbeats 4000000 in
theorem rotAll_any (n : Int) (es : List Edg) (oe : Option Addr) (c : Nat) (ar : List (List Int)) (oa : Option Addr) (ca : Nat) (F G : Foot) (w : World) (hs : SliceR edgR 3 F w oe es) (hc : es.length ≤ c) (hc2 : es.length ≤ 1000)
    (ha : SliceR (slcR intR 1) 1 G w oa ar) (hac : ar.length ≤ ca) (hac2 : ar.length ≤ 9223372036854775807) (f : List Nat) (hU : Hid (gErr n es = 0 → Uf f (eL es)))
    (q : Int) (rot : List Int) (ot : Option Addr) (ct : Nat) (H : Foot) (hr : SliceR intR 1 H w ot rot) (hrc : rot.length ≤ ct) (hrl : rot.length ≤ 9223372036854775807)
    (d : List Int) (od : Option Addr) (cd : Nat) (D : Foot) (hd : SliceR intR 1 D w od d) (hdc : d.length ≤ cd) (hdl : d.length ≤ 9223372036854775807) :
    Calls Try.prog 27 #[.agg #[.int .i64 n, .slice oe es.length c, .slice oa ar.length ca], .int .i64 q, .slice ot rot.length ct, .slice od d.length cd] w (MovesPost w.heap.size w (allRes n es f ar q rot d)) := by
  go_enter Try.func27, Try.ntmps27
  go_wp2_with fail
  have hb0 := box_refl w (.cells #[.int .i64 n, .slice oe es.length c, .slice oa ar.length ca] 27)
  have haB : SliceR (slcR intR 1) 1 (Lt (w.heap.size + 1)) (w.alloc (.cells #[.int .i64 n, .slice oe es.length c, .slice oa ar.length ca] 27)) oa ar := by
    have := (ha.below (slcR_ok intR_ok (by decide)) (below_box hb0)).loc (slcR_ok intR_ok (by decide)) (by decide)
    simpa using this
  refine (given_any n es oe c ar oa ca F G _ (hs.below edgR_ok (below_box hb0)) hc hc2 (ha.below (slcR_ok intR_ok (by decide)) (below_box hb0)) hac hac2 f hU q rot ot ct H (hr.below intR_ok (below_box hb0)) hrc hrl d od cd D (hd.below intR_ok (below_box hb0)) hdc hdl).mono ?_
  rintro e w2 (⟨hG, p, rg, cap, tv, rest, rfl, hD, hb2⟩ | ⟨hG, rfl, hb2⟩)
  · have hx2 := hb2.mono (B' := w.heap.size + 1) (by simp)
    have HX := hide (below_box hx2)
    have hD2 : Brd (w.heap.size + 1) w2 p rg cap tv q (.slice oa ar.length ca) (toL (endsL es)) rot rest := hD.rebase (by simp)
    have ha2 : SliceR (slcR intR 1) 1 (Lt (w.heap.size + 1)) w2 oa ar := haB.below (slcR_ok intR_ok (by decide)) hb2
    have hsz2 := box_lt hx2
    obtain ⟨h1, h2⟩ := gvE_zero hG
    obtain ⟨q', rfl, hok⟩ := RtOk.of h1 hc2
    obtain ⟨k1, k2, k3⟩ := dErr_zero h2
    have HR : Hid (allRes n es f ar q' rot d = movesOf ar (endsL es) q' pk0 rot d) := if_pos hG
    have hrt := routeC_any (w.heap.size + 1) w2 p rg cap tv q' n es ar rot rest oa ca hD2 ha2 hok (by omega) d od cd D (hd.below intR_ok HX.out) hdc (by have := hok.nar; omega) k3
    have HRT := hide hrt
    clear hb2 hb0 hx2 hD hD2 haB ha2 h1 h2 hok k1 k2 k3 hG hrt
    go_wp2_with fail
    refine HRT.out.mono ?_
    rintro e w3 ⟨rv, cv, rfl, ho1, ho2, hb3⟩
    have HF : Hid (OwnS intR 1 w.heap.size 3 Non w3 rv (movesOf ar (endsL es) q' pk0 rot d).1 ∧ OwnS intR 1 w.heap.size 3 Non w3 cv (movesOf ar (endsL es) q' pk0 rot d).2.1 ∧ Below w.heap.size w w3) := ⟨ho1.rebase (by omega), ho2.rebase (by omega), HX.out.trans (hb3.mono (by omega))⟩
    clear ho1 ho2 hb3
    go_wp2_with fail
    refine bodyPost_ret (results_tmp3 rfl _ _ _) rfl ⟨_, _, by rw [HR.out]; rfl, ?_⟩
    rw [HR.out]
    exact HF.out
  · have HX := hide (below_box (hb2.mono (B' := w.heap.size + 1) (by simp)))
    have HR : Hid (allRes n es f ar q rot d = ([], [], gvE n es f ar q rot d)) := if_neg hG
    have hq : (gvE n es f ar q rot d != 0) = true := by simpa using hG
    clear hb2 hb0 haB hG
    go_wp2_with fail
    refine bodyPost_ret (results_tmp3 rfl _ _ _) rfl ⟨_, _, by rw [HR.out]; rfl, ?_⟩
    rw [HR.out]
    exact ⟨OwnS.nil _ _ _ _ _ _, OwnS.nil _ _ _ _ _ _, HX.out⟩

end Go.Proofs.Ytopldbnlehjlpaa

set_option linter.unusedVariables false
set_option linter.unusedSimpArgs false
set_option linter.unnecessarySimpa false
namespace Go.Proofs.Ytopldbnlehjlpaa
open Go.RowKit Go.Shelf

/-- Where the rotor at u points, and where one is behind i such steps. -/
def stV (ar : List (List Int)) (E : List (Int × Int)) (rot : List Int) (u : Nat) : Nat := (hv E (oppH ((ar.getD u []).getD (rot.getD u 0).toNat 0).toNat)).toNat
def itV (ar : List (List Int)) (E : List (Int × Int)) (rot : List Int) (v : Nat) : Nat → Nat
  | 0 => v
  | i + 1 => stV ar E rot (itV ar E rot v i)
theorem RtOk.look {n : Int} {es : List Edg} {ar : List (List Int)} {q : Nat} {rot : List Int} (h : RtOk n es ar q rot) {v : Nat} (hv' : v < ar.length) (hvq : v ≠ q) :
    ∃ (l : List Int) (k g : Nat), ar[v]? = some l ∧ rot[v]? = some (k : Int) ∧ k < l.length ∧ l.length ≤ 1000000 ∧ l[k]? = some (g : Int) ∧ (toL (endsL es))[g]? = some ((stV ar (endsL es) rot v : Nat) : Int) ∧ stV ar (endsL es) rot v < ar.length ∧ g < 2 * (endsL es).length := by
  obtain ⟨l, k, g, h1, h2, h3, h4, h5, h6⟩ := h.at hv' hvq
  have hr := h.rng _ (oppH_lt h6)
  have hn := h.nar
  have hV : stV ar (endsL es) rot v = (hv (endsL es) (oppH g)).toNat := by
    unfold stV
    rw [getD_of h1, getD_of h2, Int.toNat_natCast, getD_of h5, Int.toNat_natCast]
  refine ⟨l, k, g, h1, h2, h3, h4, h5, ?_, by rw [hV]; omega, h6⟩
  rw [toL_get _ g h6, hV]
  congr 1
  omega
theorem RtOk.roam {n : Int} {es : List Edg} {ar : List (List Int)} {q : Nat} {rot : List Int} (h : RtOk n es ar q rot) {v : Nat} (hv : v < ar.length) :
    ∀ i, (∀ j, j < i → itV ar (endsL es) rot v j ≠ q) → itV ar (endsL es) rot v i < ar.length
  | 0, _ => hv
  | i + 1, hp => by
    have h2 := h.roam hv i fun j hj => hp j (by omega)
    obtain ⟨_, _, _, _, _, _, _, _, _, h3, _⟩ := h.look h2 (hp i (by omega))
    exact h3

set_option maxRecDepth 100000 in
set_option maxHeartbeats 4000000 in
theorem acyc1_any (B : Nat) (w : World) (pb p rg cap : Nat) (tv : Value) (q : Nat) (n : Int) (es : List Edg) (ar : List (List Int)) (rot : List Int) (rest : List Value) (oa : Option Addr) (ca : Nat) (hpb : Boxed w pb 80 (.pointer (some ⟨p, 0, none⟩)))
    (hD : Brd B w p rg cap tv q (.slice oa ar.length ca) (toL (endsL es)) rot rest) (ha : SliceR (slcR intR 1) 1 (Lt B) w oa ar) (hok : RtOk n es ar q rot) (v : Nat) (hv' : v < ar.length) (hvq : v ≠ q) :
    Calls Try.prog 51 #[.int .i64 v, .pointer (some ⟨pb, 0, none⟩)] w fun e w' => e = .returned (.int .i64 (stV ar (endsL es) rot v : Nat)) ∧ ∃ nq, w' = w.drewN nq := by
  obtain ⟨l, k, g, h1, h2, h3, h4, h5, h6, _, h8⟩ := hok.look hv' hvq
  obtain ⟨x, _, hx, b, off, ol, cl, hoa, hbB, c0, hxl, _, hsl⟩ := ha.slc_at hv'
  rw [h1] at hx
  injection hx with hx
  subst hx
  subst hoa
  obtain ⟨y, _, hy, iy, b2, off2, hol, hb2, e0⟩ := hsl.int_at h3
  rw [h5] at hy
  injection hy with hy
  subst hy
  subst hol
  obtain ⟨ot, ct, rfl, htc, hst⟩ := hD.tos.slice intR_ok
  have htl : g < (toL (endsL es)).length := (List.getElem?_eq_some_iff.1 h6).1
  obtain ⟨z, _, hz, iz, b3, off3, hot, _, t0⟩ := hst.int_at htl
  rw [h6] at hz
  injection hz with hz
  subst hz
  subst hot
  have d1 := hD.box.cell 1
  have d2 := hD.box.cell 2
  have d3 := hD.box.cell 3
  simp only [List.getElem?_cons_zero, List.getElem?_cons_succ] at d1 d2 d3
  have r0 := hD.row.cell h2
  have hrl : v < rot.length := by rw [hok.nrot]; exact hv'
  have p0 := hpb.cell
  have hcap := hok.cap
  have hn12 := hok.n12
  clear h1 h2 h5 h6 hD hok hsl hst ha
  go_enter Try.func51, Try.ntmps51
  go_wp2_with fail
  go_quiet (fail)
  go_wp2_with fail
  go_ret
  exact ⟨rfl, _, rfl⟩

/-- The marks of ranges that are over. -/
def Marks (B : Nat) (ds : List Deferred) (w : World) : Prop := ∃ Ds : List Nat, ds = Ds.map (fun D => ({ target := .collected D, args := #[] } : Deferred)) ∧ Ds.Nodup ∧ ∀ D ∈ Ds, B ≤ D ∧ w.heap[D]? = some (.deferred (some []))
theorem Marks.nil (B : Nat) (w : World) : Marks B [] w := ⟨[], rfl, List.nodup_nil, fun _ h => by cases h⟩
theorem Marks.cons {B D : Nat} {ds : List Deferred} {w w' : World} (h : Marks B ds w) (hb : ∀ k, B ≤ k → k < w.heap.size → w'.heap[k]? = w.heap[k]?) (hD : w.heap.size ≤ D) (hB : B ≤ w.heap.size) (hk : w'.heap[D]? = some (.deferred (some []))) : Marks B ({ target := .collected D, args := #[] } :: ds) w' := by
  obtain ⟨Ds, rfl, h1, h2⟩ := h
  have hl : ∀ D' ∈ Ds, D' < w.heap.size := fun D' hD' => (Array.getElem?_eq_some_iff.1 (h2 D' hD').2).1
  refine ⟨D :: Ds, rfl, List.nodup_cons.2 ⟨fun hm => ?_, h1⟩, fun D' hD' => ?_⟩
  · have := hl D hm; omega
  · rcases List.mem_cons.1 hD' with rfl | hm
    · exact ⟨by omega, hk⟩
    · exact ⟨(h2 D' hm).1, (hb D' (h2 D' hm).1 (hl D' hm)).trans (h2 D' hm).2⟩
theorem Marks.keep {B : Nat} {ds : List Deferred} {w w' : World} (h : Marks B ds w) (hb : ∀ k, B ≤ k → w'.heap[k]? = w.heap[k]?) : Marks B ds w' := by
  obtain ⟨Ds, e, h1, h2⟩ := h
  exact ⟨Ds, e, h1, fun D' hD' => ⟨(h2 D' hD').1, (hb D' (h2 D' hD').1).trans (h2 D' hD').2⟩⟩
theorem ownFrom_keeps {β : Type} {lo B : Nat} {wr : World} (hB : wr.heap.size ≤ B) : OwnFrom B (fun (_ : β) W => ∀ k, lo ≤ k → k < wr.heap.size → W.heap[k]? = wr.heap[k]?) := fun _ X Y row h hg hr k h1 h2 => by
  have h3 := h k h1 h2
  have hl : k < X.heap.size := by
    rw [Array.getElem?_eq_getElem h2] at h3
    exact (Array.getElem?_eq_some_iff.1 h3).1
  rw [hg.block k hl (fun e => by have := (hr k e.symm).1; omega), h3]
theorem Marks.below {B : Nat} {ds : List Deferred} {w w' : World} (h : Marks B ds w) (hb : Below w.heap.size w w') : Marks B ds w' := by
  obtain ⟨Ds, e, h1, h2⟩ := h
  exact ⟨Ds, e, h1, fun D' hD' => ⟨(h2 D' hD').1, (hb.block D' (Array.getElem?_eq_some_iff.1 (h2 D' hD').2).1).trans (h2 D' hD').2⟩⟩
/-- The function leaves over its marks. -/
theorem leaves_marks {F : Fence} {n : Nat} {P : Program} {fn : Func} {tmps : Array Value} {R : Ending → World → Prop} {B : Nat} : ∀ (Ds : List Nat) (w : World), Ds.Nodup → (∀ D ∈ Ds, B ≤ D ∧ w.heap[D]? = some (.deferred (some []))) →
    (∀ w' : World, Below B w w' → (∀ (k : Nat) (o : Obj), w.heap[k]? = some o → o.isCells = true → w'.heap[k]? = some o) → LeavesInM F n P fn tmps R [] .returning w') →
    LeavesInM F n P fn tmps R (Ds.map (fun D => ({ target := .collected D, args := #[] } : Deferred))) .returning w
  | [], w, _, _, hf => hf w (Below.refl _ _) fun _ _ h _ => h
  | D :: Ds, w, hn, hm, hf => by
    obtain ⟨h1, h2⟩ := List.nodup_cons.1 hn
    obtain ⟨hB, hD⟩ := hm D (List.mem_cons_self ..)
    refine ⟨by simp, .inl ⟨D, _, rfl, run_takeDeferred hD, ?_⟩⟩
    refine leaves_marks (B := B) Ds _ h2 (fun D' hD' => ?_) fun w' hb hc => hf w' ?_ fun k o hk ho => hc k o ?_ ho
    · have hne : D' ≠ D := fun e => h1 (e ▸ hD')
      exact ⟨(hm D' (List.mem_cons_of_mem _ hD')).1, (World.putObj_heap_other hne).trans (hm D' (List.mem_cons_of_mem _ hD')).2⟩
    · have h0 : Below B w (w.putObj D (.deferred none)) := ⟨rfl, rfl, rfl, by simp, fun k hk => World.putObj_heap_other (by omega)⟩
      exact h0.trans hb
    · refine (World.putObj_heap_other fun e => ?_).trans hk
      subst e
      rw [hD] at hk
      injection hk with hk
      subst hk
      cases ho

/-- Between the yields of a way that only looks: the count in box b, and what lay before. -/
structure LA (wr : World) (b k : Nat) (W : World) : Prop where
  cnt : Boxed W b 3 (.int .i64 (k : Int))
  low : Below wr.heap.size wr W
theorem LA.from {β : Type} {wr : World} {b B : Nat} (hB : wr.heap.size ≤ B) (k : β → Nat) : OwnFrom B (fun (s : β) W => LA wr b (k s) W) := fun s X Y row h hg hr =>
  ⟨boxed_own b 3 (fun s : β => Value.int .i64 (k s : Nat)) s X Y row h.cnt hg (fun r e => (hr r e).2), ownFrom_below (β := Unit) (Nat.le_refl _) hB () X Y row h.low hg hr⟩
theorem looksJ {wr : World} {b B h q : Nat} {fv : Value} (hB : wr.heap.size ≤ B) (V k : Nat → Nat) (P : Nat → Prop) : OwnFrom B (fun i W => WayBox W h (V i) q fv ∧ (LA wr b (k i) W ∧ P i)) :=
  ((WayBox.own V).from B).and ((LA.from hB k).and (ownFrom_const P))
theorem looksJd {wr : World} {b B q : Nat} (hB : wr.heap.size ≤ B) (V k : Nat → Nat) (P : Nat → Prop) : OwnFrom B (fun (_ : Unit) W => ∃ i, V i = q ∧ (LA wr b (k i) W ∧ P i)) :=
  ownFrom_ex ((ownFrom_const (fun i => V i = q)).and ((LA.from hB k).and (ownFrom_const P)))

set_option maxHeartbeats 1000000 in
theorem looks_seq {n : Int} {es : List Edg} {ar : List (List Int)} {q : Nat} {rot : List Int} (hok : RtOk n es ar q rot) {v : Nat} (hv : v < ar.length) (m : Nat) (hm : 1 ≤ m) (B : Nat) (wr : World) (h b pb p rg cap : Nat) (tv : Value) (oa : Option Addr) (ca : Nat) (rest : List Value)
    (hpb : Boxed wr pb 80 (.pointer (some ⟨p, 0, none⟩))) (hD : Brd B wr p rg cap tv q (.slice oa ar.length ca) (toL (endsL es)) rot rest) (ha : SliceR (slcR intR 1) 1 (Lt B) wr oa ar) (hbh : b < h) (hbw : wr.heap.size ≤ b) (M : Nat) :
    SeqJoint Go.Fence.wide m Try.prog 72 #[.pointer (some ⟨h, 0, none⟩), .pointer (some ⟨h + 1, 0, none⟩), .pointer (some ⟨h + 2, 0, none⟩)] (fun i => #[.int .i64 (itV ar (endsL es) rot v i : Nat)])
      (fun i W => WayBox W h (itV ar (endsL es) rot v i) q (.func (.func 51) #[] #[.pointer (some ⟨pb, 0, none⟩)]) ∧ (LA wr b i W ∧ Hid (i ≤ M ∧ ∀ j, j < i → itV ar (endsL es) rot v j ≠ q)))
      (fun i W => WayBox W h (itV ar (endsL es) rot v i) q (.func (.func 51) #[] #[.pointer (some ⟨pb, 0, none⟩)]) ∧ (LA wr b (i + 1) W ∧ Hid (i < M ∧ ∀ j, j < i → itV ar (endsL es) rot v j ≠ q)))
      (fun W => ∃ i, itV ar (endsL es) rot v i = q ∧ (LA wr b (i + 1) W ∧ Hid (i < M ∧ ∀ j, j < i → itV ar (endsL es) rot v j ≠ q))) := by
  refine way1_looks Go.Fence.wide m trivial trivial rfl hm h pb (itV ar (endsL es) rot v) q M _ _ (fun i W hy => hy.2.out.1) ?_ ?_
  · rintro i W ⟨hA, hM⟩ hne
    have hv2 := hok.roam hv i hM.out.2
    refine callsIn_wide.2 ((acyc1_any B W pb p rg cap tv q n es ar rot rest oa ca (boxed_same hpb (hA.low.block pb hpb.lt)) (hD.below hA.low) (ha.below (slcR_ok intR_ok (by decide)) hA.low) hok _ hv2 hne).mono ?_)
    rintro e W' ⟨rfl, nq, rfl⟩
    refine ⟨rfl, ⟨⟨hA.cnt, below_drewN hA.low nq⟩, ⟨hM.out.1, fun j hj => ?_⟩⟩, ⟨Nat.le_refl _, fun _ _ h _ => h⟩, fun _ _ _ _ => rfl⟩
    by_cases hji : j = i
    · subst hji; exact hne
    · exact hM.out.2 j (by omega)
  · rintro i W x ⟨hA, hM⟩
    exact ⟨⟨hA.cnt.other (by omega) _, hA.low.setCell (p := ⟨h, 0, none⟩) (by simp; omega) x⟩, hM⟩

end Go.Proofs.Ytopldbnlehjlpaa

set_option linter.unusedVariables false
set_option linter.unusedSimpArgs false
set_option linter.unnecessarySimpa false
namespace Go.Proofs.Ytopldbnlehjlpaa
open Go.RowKit Go.Shelf

attribute [local go_sem] Oper.semAt_some

theorem agg_bool : ∀ w, (isAgg 4).run Try.prog w = .ok false w := by intro w; kernel_rfl
/-- From each vertex one comes to the sink, before len steps. -/
def acyB (ar : List (List Int)) (E : List (Int × Int)) (q : Nat) (rot : List Int) (m k : Nat) : Bool := (List.range k).all fun v => (firstAt (itV ar E rot v) q m).isSome

def BoolErr (w : World) (b : Bool) (x : Int) (e : Ending) (w' : World) : Prop := e = .returned (.tuple #[.bool b, .int .i64 x]) ∧ Below w.heap.size w w'

set_option maxRecDepth 100000 in
set_option maxHeartbeats 4000000 in
theorem acyclic_in (n0 : Nat) (hn0 : 4 ≤ n0) (n : Int) (es : List Edg) (oe : Option Addr) (c : Nat) (ar : List (List Int)) (oa : Option Addr) (ca : Nat) (F G : Foot) (w : World) (hs : SliceR edgR 3 F w oe es) (hc : es.length ≤ c) (hc2 : es.length ≤ 1000)
    (ha : SliceR (slcR intR 1) 1 G w oa ar) (hac : ar.length ≤ ca) (hac2 : ar.length ≤ 9223372036854775807) (f : List Nat) (hU : Hid (gErr n es = 0 → Uf f (eL es)))
    (q : Nat) (rot : List Int) (ot : Option Addr) (ct : Nat) (H : Foot) (hr : SliceR intR 1 H w ot rot) (hrc : rot.length ≤ ct) (hrl : rot.length ≤ 9223372036854775807)
    (hE : Hid (rtE n es f ar q rot = 0)) (hok : RtOk n es ar q rot) :
    CallsIn Go.Fence.wide n0 Try.prog 24 #[.agg #[.int .i64 n, .slice oe es.length c, .slice oa ar.length ca], .int .i64 q, .slice ot rot.length ct] w
      (BoolErr w (acyB ar (endsL es) q rot rot.length rot.length) 0) := by
  have h1 : 1 ≤ n0 := by omega
  have HOK := hide hok
  have cA : ∀ W : World, Below w.heap.size w W → CallsIn Go.Fence.wide (n0 - 1) Try.prog 49 #[.agg #[.int .i64 n, .slice oe es.length c, .slice oa ar.length ca], .int .i64 q, .slice ot rot.length ct] W (BoardPost W n es f ar oa ca q rot) := fun W hW =>
    callsIn_wide.2 (boardOf_any n es oe c ar oa ca F G W (hs.below edgR_ok hW) hc hc2 (ha.below (slcR_ok intR_ok (by decide)) hW) hac hac2 f hU q rot ot ct H (hr.below intR_ok hW) hrc hrl hE)
  have HA := hide cA
  have hf1 : Go.Fence.wide.fn 49 := trivial
  have hf2 : Go.Fence.wide.fn 45 := trivial
  have haB : ∀ W : World, Below w.heap.size w W → SliceR (slcR intR 1) 1 (Lt W.heap.size) W oa ar := fun W hW => (ha.below (slcR_ok intR_ok (by decide)) hW).loc (slcR_ok intR_ok (by decide)) (by decide)
  obtain ⟨w1, hw1⟩ : ∃ w1, ((w.alloc (.cells #[.int .i64 n, .slice oe es.length c, .slice oa ar.length ca] 27)).alloc (.cells #[.bool false] 4)).alloc (.cells #[.int .i64 0] 33) = w1 := ⟨_, rfl⟩
  have hB1 : Below w.heap.size w w1 := by rw [← hw1]; exact bnew (bnew (bnew (Below.refl _ _) _) _) _
  have hsz1 : w1.heap.size = w.heap.size + 3 := by rw [← hw1]; simp
  have bR1 : Boxed w1 (w.heap.size + 1) 4 (.bool false) := by rw [← hw1]; have := (Boxed.new (w.alloc (.cells #[.int .i64 n, .slice oe es.length c, .slice oa ar.length ca] 27)) 4 (.bool false)).alloc (.cells #[.int .i64 0] 33); simpa using this
  have bR2 : Boxed w1 (w.heap.size + 2) 33 (.int .i64 0) := by rw [← hw1]; have := Boxed.new ((w.alloc (.cells #[.int .i64 n, .slice oe es.length c, .slice oa ar.length ca] 27)).alloc (.cells #[.bool false] 4)) 33 (.int .i64 0); simpa using this
  have d012 : ∀ i x, #[Value.int .i64 n, .slice oe es.length c, .slice oa ar.length ca][i]? = some x → w1.cell? ⟨w.heap.size, i, none⟩ = some x := fun i x hx => by
    have hbb : Below (w.heap.size + 1) (w.alloc (.cells #[.int .i64 n, .slice oe es.length c, .slice oa ar.length ca] 27)) w1 := by
      rw [← hw1]; exact ((box_refl _ _).alloc (by simp) _).alloc (by simp) _
    rw [box_cell hbb i, hx]
  have d0 := d012 0 _ rfl
  have d1 := d012 1 _ rfl
  have d2 := d012 2 _ rfl
  have HAB1 := hide (haB _ hB1)
  have HBR := hide (And.intro bR1 bR2)
  have HB1 := hide hB1
  have hrl12 : rot.length ≤ 12 := by rw [hok.nrot]; exact hok.n12
  clear d012 bR1 bR2 hB1 haB cA hok
  refine callsIn_of_wp_marks Try.func24 rfl trivial ?_ rfl
  simp only [Try.ntmps24, List.size_toArray, List.length_cons, List.length_nil, Nat.reduceAdd, Nat.reduceSub, Array.replicate_succ, Array.replicate_zero, List.push_toArray, List.append_toArray, List.nil_append, List.cons_append]
  gi_wp2_with (first | (gi_at_call 49; refine (HA.out _ HB1.out).mono ?_; rintro e w2 ⟨p, rg, cap, tv, rest, rfl, hDo, hbo⟩; have d3 := hDo.box.cell 3; simp only [List.getElem?_cons_zero, List.getElem?_cons_succ] at d3; have hp2 := hDo.box.lt; replace hDo := hide hDo; replace hbo := hide hbo; clear d0 d1 d2))
  obtain ⟨W2, hW2⟩ : ∃ W2, w2.alloc (.cells #[.pointer (some ⟨p, 0, none⟩)] 80) = W2 := ⟨_, rfl⟩
  have hszW2 : W2.heap.size = w2.heap.size + 1 := by rw [← hW2]; simp
  have hpb2 : Boxed W2 w2.heap.size 80 (.pointer (some ⟨p, 0, none⟩)) := by rw [← hW2]; exact Boxed.new w2 _ _
  have hl2 : Below w2.heap.size w2 W2 := by rw [← hW2]; exact bnew (Below.refl _ _) _
  have hs12 := hbo.out.size
  rw [hW2]
  have HD2 := hide (hDo.out.below hl2)
  have HL2 := hide (hbo.out.trans (hl2.mono hs12))
  have HP2 := hide hpb2
  clear hW2 hl2 hpb2 d3 hDo hbo
  have hfin : ∀ (W9 : World) (bv : Bool) (ds : List Deferred) (tmps : Array Value), Boxed W9 (w.heap.size + 1) 4 (.bool bv) → Boxed W9 (w.heap.size + 2) 33 (.int .i64 0) → Below w.heap.size w W9 → Marks w2.heap.size ds W9 →
      bv = acyB ar (endsL es) q rot rot.length rot.length → tmps.getD 6 undef = .pointer (some ⟨w.heap.size + 1, 0, none⟩) → tmps.getD 7 undef = .pointer (some ⟨w.heap.size + 1 + 1, 0, none⟩) →
      bodyPostM Go.Fence.wide n0 Try.prog Try.f24 (BoolErr w (acyB ar (endsL es) q rot rot.length rot.length) 0) .ret { tmps := tmps, defers := ds } W9 := by
    intro W9 bv ds tmps b1 b2 hb hm he h6 h7
    obtain ⟨Ds, rfl, hnd, hDs⟩ := hm
    refine leaves_marks (B := w2.heap.size) Ds W9 hnd hDs fun w' hb' hc' => ?_
    refine ⟨_, results_cells2 rfl agg_bool agg_errno _ _ _ _ _ _ h6 h7 (Boxed.cell (show Boxed w' _ _ _ from hc' _ _ b1 rfl)) (Boxed.cell (show Boxed w' _ _ _ from hc' _ _ b2 rfl)), ?_⟩
    exact ⟨by rw [he], hb.trans (hb'.mono (by omega))⟩
  have HFIN := hide hfin
  clear hfin
  refine wpIn_loop (fun a' w' => ∃ (k : Nat) (ds : List Deferred) (u10 u11 u28 u29 u30 u31 u32 u33 u34 u35 u36 u37 u38 u39 u40 u41 u42 u43 u44 : Value), (k ≤ rot.length ∧ Marks w2.heap.size ds w' ∧ Below W2.heap.size W2 w' ∧ Hid (acyB ar (endsL es) q rot rot.length k = true)) ∧ a' = { tmps := #[.agg #[.int .i64 n, .slice oe es.length c, .slice oa ar.length ca], .int .i64 q, .slice ot rot.length ct, .pointer (some ⟨w.heap.size, 0, none⟩), undef, undef, .pointer (some ⟨w.heap.size + 1, 0, none⟩), .pointer (some ⟨w.heap.size + 1 + 1, 0, none⟩), .pointer (some ⟨w2.heap.size, 0, none⟩), .int .i64 0, u10, u11, .tuple #[.pointer (some ⟨p, 0, none⟩), .int .i64 0], .agg #[.int .i64 n, .slice oe es.length c, .slice oa ar.length ca], .int .i64 q, .slice ot rot.length ct, .tuple #[.pointer (some ⟨p, 0, none⟩), .int .i64 0], .pointer (some ⟨p, 0, none⟩), .int .i64 0, .int .i64 0, .bool false, undef, .pointer (some ⟨p, 0, none⟩), .pointer (some ⟨p, 0, none⟩), .pointer (some ⟨p, 3, none⟩), .slice (some ⟨rg, 0, none⟩) rot.length cap, .int .i64 rot.length, .int .i64 (k : Nat), u28, u29, u30, u31, u32, u33, u34, u35, u36, u37, u38, u39, u40, u41, u42, u43, u44], defers := ds })
    (fun a' _ => rot.length - (intOf (a'.tmps.getD 27 undef)).toNat) ?atStart ?round
  case atStart =>
    exact ⟨0, [], _, _, _, _, _, _, _, _, _, _, _, _, _, _, _, _, _, _, _, ⟨by omega, Marks.nil _ _, Below.refl _ _, rfl⟩, rfl⟩
  case round =>
    rintro a' wr ⟨k, ds, u10, u11, u28, u29, u30, u31, u32, u33, u34, u35, u36, u37, u38, u39, u40, u41, u42, u43, u44, ⟨hk, hM, hbW, HAy⟩, rfl⟩
    have hszr := hbW.size
    have hDr := HD2.out.below hbW
    have hpbr := boxed_same HP2.out (hbW.block _ (by omega))
    have HLr := hide (HL2.out.trans (hbW.mono (by omega)))
    have HM := hide hM
    have HBW := hide hbW
    by_cases hlt : k < rot.length
    · have hkar : k < ar.length := by rw [← HOK.out.nrot]; exact hlt
      have cW : CallsIn Go.Fence.wide (n0 - 1) Try.prog 45 #[.int .i64 k, .int .i64 q, .func (.func 51) #[] #[.pointer (some ⟨w2.heap.size, 0, none⟩)]] (wr.alloc (.cells #[.int .i64 0] 3)) _ := callsIn_wide.2 (way_any k q _ _ _ _)
      have HW := hide cW
      have HDr := hide hDr
      have HPr := hide hpbr
      clear hM hbW hDr hpbr cW
      gi_wp2_with (first | (gi_at_call 45; refine HW.out.mono ?_; rintro e w3 ⟨rfl, rfl⟩))
      obtain ⟨W1, hW1⟩ : ∃ W1, (((wr.alloc (.cells #[.int .i64 0] 3)).alloc (.cells #[.int .i64 (k : Int)] 3)).alloc (.cells #[.int .i64 (q : Int)] 3)).alloc (.cells #[.func (.func 51) #[] #[.pointer (some ⟨w2.heap.size, 0, none⟩)]] 83) = W1 := ⟨_, rfl⟩
      have hszW : W1.heap.size = wr.heap.size + 4 := by rw [← hW1]; simp
      have hWB : WayBox W1 (wr.heap.size + 1) k q (.func (.func 51) #[] #[.pointer (some ⟨w2.heap.size, 0, none⟩)]) := by
        have := way_boxes k q (.func (.func 51) #[] #[.pointer (some ⟨w2.heap.size, 0, none⟩)]) (wr.alloc (.cells #[.int .i64 0] 3))
        rw [← hW1]
        simpa using this
      have hBO : Boxed W1 wr.heap.size 3 (.int .i64 ((0 : Nat) : Int)) := by rw [← hW1]; exact (((Boxed.new wr _ _).alloc _).alloc _).alloc _
      have hb21 : Below wr.heap.size wr W1 := by rw [← hW1]; exact bnew (bnew (bnew (bnew (Below.refl _ _) _) _) _) _
      have har : SliceR (slcR intR 1) 1 (Lt w1.heap.size) wr oa ar := HAB1.out.below (slcR_ok intR_ok (by decide)) (HL2.out.trans (HBW.out.mono (by omega)))
      rw [hW1]
      clear hW1
      refine wpIn_rangeFunc_joint rfl h1 (gf := 72) (lb := #[.pointer (some ⟨wr.heap.size + 1, 0, none⟩), .pointer (some ⟨wr.heap.size + 1 + 1, 0, none⟩), .pointer (some ⟨wr.heap.size + 1 + 2, 0, none⟩)]) rfl trivial (enters_of Try.func72 (by kernel_rfl) rfl) _ (fun _ => rfl) _ _
        (fun c W => c = .ret ∧ (Boxed W (w.heap.size + 1) 4 (.bool false) ∧ Boxed W (w.heap.size + 2) 33 (.int .i64 0) ∧ Below w.heap.size w W ∧ (∀ j, w2.heap.size ≤ j → j < wr.heap.size → W.heap[j]? = wr.heap[j]?) ∧ Hid (∀ j, j < rot.length → itV ar (endsL es) rot k j ≠ q))) _
        (looks_seq HOK.out hkar (n0 - 1) (by omega) w1.heap.size wr (wr.heap.size + 1) wr.heap.size w2.heap.size p rg cap tv oa ca rest HPr.out HDr.out har (by omega) (by omega) rot.length)
        (looksJ (by omega) _ _ _) (looksJ (by omega) _ _ _)
        ((ownFrom_const _).and (((boxed_own _ _ (fun _ : Code => _)).from _).and (((boxed_own _ _ (fun _ : Code => _)).from _).and ((ownFrom_below (by omega) (by omega)).and ((ownFrom_keeps (by omega)).and (ownFrom_const _))))))
        (looksJd (by omega) _ _ _)
        ⟨hWB, ⟨hBO, hb21⟩, ⟨by omega, fun j hj => absurd hj (by omega)⟩⟩ ?act1 ?assign ?body ?done ?stop
      case assign =>
        intro l i W K hK
        gi_wp2
        exact hK
      case body =>
        rintro l i W ⟨hb, hL, hM⟩
        have hc := hL.cnt.cell
        have hf := hL.cnt.frozen
        have hszl := hL.low.size
        have hlt1 : wr.heap.size + 1 + 2 < W.heap.size := hb.bs.lt
        have hlw := HLr.out.trans (hL.low.mono (by omega))
        have b1 : Boxed W (w.heap.size + 1) 4 (.bool false) := boxed_same HBR.out.1 (hlw.block _ (by omega))
        have b2 : Boxed W (w.heap.size + 2) 33 (.int .i64 0) := boxed_same HBR.out.2 (hlw.block _ (by omega))
        obtain ⟨W5, hW5⟩ : ∃ W5, W.setCell ⟨wr.heap.size, 0, none⟩ (.int .i64 ((i : Int) + 1)) = W5 := ⟨_, rfl⟩
        have hn5 : ∀ j, j ≠ wr.heap.size → W5.heap[j]? = W.heap[j]? := fun j hj => by rw [← hW5]; exact Below.heap_setCell _ _ _ j (by simpa using hj)
        have hc5 : Boxed W5 wr.heap.size 3 (.int .i64 ((i : Int) + 1)) := by rw [← hW5]; exact hL.cnt.set _
        have hk5 : KeepsOthers W W5 := by rw [← hW5]; exact KeepsOthers.setCell _ _ _
        have hl5 : Below wr.heap.size wr W5 := by rw [← hW5]; exact hL.low.setCell (p := ⟨wr.heap.size, 0, none⟩) (by simp) _
        have p5 := boxed_same HPr.out (hl5.block _ (HPr.out.lt))
        have p0 := p5.cell
        have d3 := (HDr.out.below hl5).box.cell 3
        simp only [List.getElem?_cons_zero, List.getElem?_cons_succ] at d3
        have e0 := hc5.cell
        have b15 := boxed_same b1 (hn5 _ (by omega))
        have b25 := boxed_same b2 (hn5 _ (by omega))
        have c1 := b15.cell
        have f1 := b15.frozen
        have c2 := b25.cell
        have f2 := b25.frozen
        have HX5 := hide (And.intro hc5 (And.intro hk5 (And.intro hl5 (And.intro hn5 (And.intro b15 b25)))))
        have hi1 : i ≤ rot.length := hM.out.1
        replace hb := hide hb
        replace hL := hide hL
        clear hc5 hk5 hl5 p5 hn5 b15 b25 b1 b2 hlw
        by_cases hi : i = rot.length
        · have q1 : decide ((rot.length : Int) < (i : Int) + 1) = true := by simp; omega
          replace hi := hide hi
          gi_wp2
          gi_region
          all_goals
            gi_wp2
            obtain ⟨hc5, hk5, hl5, hn5, b15, b25⟩ := HX5.out
            have hi' := hi.out
            have hbel : Below w.heap.size w W5.drew := (HB1.out.trans ((HLr.out.trans (hl5.mono (by omega))).mono (by omega))).drew
            have hkd : KeepsOthers W W5.drew := ⟨hk5.size, hk5.same⟩
            refine ⟨(hkd.trans (KeepsOthers.setCell _ _ _)).trans (KeepsOthers.setCell _ _ _), rfl, (Boxed.set (.bool false) (show Boxed W5.drew _ _ _ from b15)).other (by omega) _, (Boxed.other (show Boxed W5.drew _ _ _ from b25) (by omega) _).set _,
              (hbel.setCell (p := ⟨w.heap.size + 1, 0, none⟩) (by simp) _).setCell (p := ⟨w.heap.size + 1 + 1, 0, none⟩) (by simp; omega) _, fun j hj1 hj2 => ?_, fun j hj => hM.out.2 j (by omega)⟩
            show ((W5.setCell ⟨w.heap.size + 1, 0, none⟩ (.bool false)).setCell ⟨w.heap.size + 1 + 1, 0, none⟩ (.int .i64 0)).heap[j]? = _
            rw [Below.heap_setCell _ _ _ j (by simp; omega), Below.heap_setCell _ _ _ j (by simp; omega)]
            exact hl5.block j hj2
        · have q1 : decide ((rot.length : Int) < (i : Int) + 1) = false := by simp; omega
          have hi3 : i < rot.length := by omega
          clear hi
          gi_wp2
          gi_region
          all_goals
            gi_wp2
            obtain ⟨hc5, hk5, hl5, hn5, b15, b25⟩ := HX5.out
            refine ⟨⟨hk5.size, hk5.same⟩, hb.out.keep (fun j hj1 hj2 hj3 => hn5 j (by omega)), ⟨?_, hl5.drew⟩, ⟨hi3, hM.out.2⟩⟩
            rw [show ((i + 1 : Nat) : Int) = (i : Int) + 1 by omega]
            exact hc5
      case done =>
        rintro D W hDl ⟨i, hVi, hL, hM⟩ hK
        have hsl := hL.low.size
        have hmk : Marks w2.heap.size ({ target := .collected D, args := #[] } :: ds) W := HM.out.cons (fun j _ hj => hL.low.block j hj) (by omega) (by omega) hK
        have hac1 : acyB ar (endsL es) q rot rot.length (k + 1) = true := by
          have h3 := HAy.out
          unfold acyB at h3 ⊢
          rw [List.range_succ, List.all_append, h3, List.all_cons, List.all_nil, firstAt_some hM.out.1 hVi hM.out.2]
          rfl
        have HF := hide (And.intro hmk (And.intro (HBW.out.trans (hL.low.mono hszr)) hac1))
        clear hmk hac1
        gi_wp2
        exact ⟨⟨k + 1, _, _, _, _, _, _, _, _, _, _, _, _, _, _, _, _, _, _, _, _, ⟨by omega, HF.out.1, HF.out.2.1, HF.out.2.2⟩, by first | rfl | (simp; done)⟩, by simp [intOf]; omega⟩
      case stop =>
        rintro D c W hDl ⟨rfl, b1, b2, hB, hkp, hno⟩ hK
        have hmk : Marks w2.heap.size ({ target := .collected D, args := #[] } :: ds) W := HM.out.cons (fun j hj1 hj2 => hkp j hj1 hj2) (by omega) (by omega) hK
        have HRes : Hid (false = acyB ar (endsL es) q rot rot.length rot.length) := by
          show _ = _
          symm
          unfold acyB
          rw [List.all_eq_false]
          exact ⟨k, by simpa using hlt, by rw [firstAt_none hno.out]; simp⟩
        gi_wp2
        exact HFIN.out _ false _ _ b1 b2 hB hmk HRes.out rfl rfl
    · have hke : k = rot.length := by omega
      have HRes : Hid (acyB ar (endsL es) q rot rot.length rot.length = true) := by have := HAy.out; rw [hke] at this; exact this
      have b1 : Boxed wr (w.heap.size + 1) 4 (.bool false) := boxed_same HBR.out.1 (HLr.out.block _ (by omega))
      have b2 : Boxed wr (w.heap.size + 2) 33 (.int .i64 0) := boxed_same HBR.out.2 (HLr.out.block _ (by omega))
      have c1 := b1.cell
      have f1 := b1.frozen
      have c2 := b2.cell
      have f2 := b2.frozen
      have HB := hide (And.intro b1 b2)
      clear hM hbW hDr hpbr b1 b2 hke
      gi_wp2
      obtain ⟨b1, b2⟩ := HB.out
      refine HFIN.out _ true ds _ ((b1.set (.bool true)).other (by omega) _) ((b2.other (by omega) _).set _) (((HB1.out.trans (HLr.out.mono (by omega))).setCell (p := ⟨w.heap.size + 1, 0, none⟩) (by simp) _).setCell (p := ⟨w.heap.size + 1 + 1, 0, none⟩) (by simp; omega) _) (HM.out.keep fun j hj => ?_) HRes.out.symm rfl rfl
      rw [Below.heap_setCell _ _ _ j (by simp; omega), Below.heap_setCell _ _ _ j (by simp; omega)]

section
variable (n : Int) (es : List Edg) (oe : Option Addr) (c : Nat) (ar : List (List Int)) (oa : Option Addr) (ca : Nat) (F G : Foot) (w : World) (hs : SliceR edgR 3 F w oe es) (hc : es.length ≤ c) (hc2 : es.length ≤ 1000)
    (ha : SliceR (slcR intR 1) 1 G w oa ar) (hac : ar.length ≤ ca) (hac2 : ar.length ≤ 9223372036854775807) (f : List Nat) (hU : Hid (gErr n es = 0 → Uf f (eL es)))
    (q : Int) (rot : List Int) (ot : Option Addr) (ct : Nat) (H : Foot) (hr : SliceR intR 1 H w ot rot) (hrc : rot.length ≤ ct) (hrl : rot.length ≤ 9223372036854775807)
include hs hc hc2 ha hac hac2 hU hr hrc hrl

set_option maxRecDepth 100000 in
set_option maxHeartbeats 2000000 in
theorem acyclic_no (hE : Hid (rtE n es f ar q rot ≠ 0)) :
    Calls Try.prog 24 #[.agg #[.int .i64 n, .slice oe es.length c, .slice oa ar.length ca], .int .i64 q, .slice ot rot.length ct] w (BoolErr w false (rtE n es f ar q rot)) := by
  go_enter Try.func24, Try.ntmps24
  obtain ⟨w1, hw1⟩ : ∃ w1, ((w.alloc (.cells #[.int .i64 n, .slice oe es.length c, .slice oa ar.length ca] 27)).alloc (.cells #[.bool false] 4)).alloc (.cells #[.int .i64 0] 33) = w1 := ⟨_, rfl⟩
  have hB1 : Below w.heap.size w w1 := by rw [← hw1]; exact bnew (bnew (bnew (Below.refl _ _) _) _) _
  have hsz1 : w1.heap.size = w.heap.size + 3 := by rw [← hw1]; simp
  have bR1 : Boxed w1 (w.heap.size + 1) 4 (.bool false) := by rw [← hw1]; have := (Boxed.new (w.alloc (.cells #[.int .i64 n, .slice oe es.length c, .slice oa ar.length ca] 27)) 4 (.bool false)).alloc (.cells #[.int .i64 0] 33); simpa using this
  have bR2 : Boxed w1 (w.heap.size + 2) 33 (.int .i64 0) := by rw [← hw1]; have := Boxed.new ((w.alloc (.cells #[.int .i64 n, .slice oe es.length c, .slice oa ar.length ca] 27)).alloc (.cells #[.bool false] 4)) 33 (.int .i64 0); simpa using this
  have d012 : ∀ i x, #[Value.int .i64 n, .slice oe es.length c, .slice oa ar.length ca][i]? = some x → w1.cell? ⟨w.heap.size, i, none⟩ = some x := fun i x hx => by
    have hbb : Below (w.heap.size + 1) (w.alloc (.cells #[.int .i64 n, .slice oe es.length c, .slice oa ar.length ca] 27)) w1 := by
      rw [← hw1]; exact ((box_refl _ _).alloc (by simp) _).alloc (by simp) _
    rw [box_cell hbb i, hx]
  have d0 := d012 0 _ rfl
  have d1 := d012 1 _ rfl
  have d2 := d012 2 _ rfl
  have HA := hide (boardOf_err n es oe c ar oa ca F G w1 (hs.below edgR_ok hB1) hc hc2 (ha.below (slcR_ok intR_ok (by decide)) hB1) hac hac2 f hU q rot ot ct H (hr.below intR_ok hB1) hrc hrl hE)
  have HBR := hide (And.intro hB1 (And.intro bR1 bR2))
  clear d012 bR1 bR2 hB1
  go_wp2_with fail
  refine HA.out.mono ?_
  rintro e w2 ⟨rfl, hb2⟩
  have hq : (rtE n es f ar q rot != 0) = true := by simpa using hE.out
  have b1 : Boxed w2 (w.heap.size + 1) 4 (.bool false) := boxed_same HBR.out.2.1 (hb2.block _ (by omega))
  have b2 : Boxed w2 (w.heap.size + 2) 33 (.int .i64 0) := boxed_same HBR.out.2.2 (hb2.block _ (by omega))
  have c1 := b1.cell
  have f1 := b1.frozen
  have c2 := b2.cell
  have f2 := b2.frozen
  have z1 := b1.lt
  have z2 := b2.lt
  have HB := hide (And.intro b1 (And.intro b2 hb2))
  clear b1 b2 hb2
  go_wp2_with fail
  obtain ⟨b1, b2, hb3⟩ := HB.out
  have b1 := ((b1.set (.bool false)).other (show w.heap.size + 1 ≠ w.heap.size + 1 + 1 by omega) (.int .i64 (rtE n es f ar q rot))).alloc (.cells #[.pointer none] 80)
  have b2 := ((b2.other (show w.heap.size + 2 ≠ w.heap.size + 1 by omega) (.bool false)).set (.int .i64 (rtE n es f ar q rot))).alloc (.cells #[.pointer none] 80)
  refine bodyPost_ret (results_cells2 rfl agg_bool agg_errno _ _ _ _ _ _ rfl rfl b1.cell b2.cell) rfl ?_
  exact ⟨rfl, bnew (((HBR.out.1.trans (hb3.mono (by omega))).setCell (p := ⟨w.heap.size + 1, 0, none⟩) (by simp) _).setCell (p := ⟨w.heap.size + 1 + 1, 0, none⟩) (by simp; omega) _) _⟩

/-- Whether rotors are acyclic, or the error. -/
def acycRes (n : Int) (es : List Edg) (f : List Nat) (ar : List (List Int)) (q : Int) (rot : List Int) : Bool × Int :=
  if rtE n es f ar q rot = 0 then (acyB ar (endsL es) q.toNat rot rot.length rot.length, 0) else (false, rtE n es f ar q rot)
theorem rotAcyclic_any :
    Calls Try.prog 24 #[.agg #[.int .i64 n, .slice oe es.length c, .slice oa ar.length ca], .int .i64 q, .slice ot rot.length ct] w (BoolErr w (acycRes n es f ar q rot).1 (acycRes n es f ar q rot).2) := by
  by_cases hR : rtE n es f ar q rot = 0
  · obtain ⟨q', rfl, hok⟩ := RtOk.of hR hc2
    rw [acycRes, if_pos hR]
    exact (callsIn_wide (n := 4)).1 (acyclic_in 4 (by omega) n es oe c ar oa ca F G w hs hc hc2 ha hac hac2 f hU q' rot ot ct H hr hrc hrl hR hok)
  · rw [acycRes, if_neg hR]
    exact acyclic_no n es oe c ar oa ca F G w hs hc hc2 ha hac hac2 f hU q rot ot ct H hr hrc hrl hR
end

end Go.Proofs.Ytopldbnlehjlpaa

set_option linter.unusedVariables false
set_option linter.unusedSimpArgs false
namespace Go.Proofs.Ytopldbnlehjlpaa
open Go.RowKit

theorem tv_rt : rtE 3 triE (forest triE) triA 0 [0, 0, 0] = 0 := by decide +kernel
theorem tv_rt2 : rtE 3 triE (forest triE) triA 0 [0, 0, 1] = 0 := by decide +kernel
theorem tv_st : stE 3 triE (forest triE) triA 0 [0, 0, 0] 1 = 0 := by
  unfold stE
  rw [if_pos tv_rt]
  decide +kernel
theorem tv_step : stepRes 3 triE (forest triE) triA 0 [0, 0, 0] 1 = ([0, 1, 0], 2, 0) := by
  unfold stepRes
  rw [if_pos tv_st]
  decide +kernel
theorem tv_c0 : chipV triA (endsL triE) [0, 0, 0] 1 3 = 0 := by decide +kernel
theorem tv_c1 : ∀ j, j < 3 → chipV triA (endsL triE) [0, 0, 0] 1 j ≠ 0 := by decide +kernel
theorem tv_walk : walkRes 3 triE (forest triE) triA 0 [0, 0, 0] 1 = ([1, 2, 1, 0], 0) := by
  unfold walkRes
  rw [if_pos tv_st]
  show walkOf triA (endsL triE) 0 [0, 0, 0] 1 = _
  unfold walkOf
  rw [firstAt_some (i := 3) (by omega) tv_c0 tv_c1]
  decide +kernel
theorem tv_route : routeRes 3 triE (forest triE) triA 0 [0, 0, 0] 1 = ([0, 0, 1], 3, 0) := by
  unfold routeRes
  rw [if_pos tv_st]
  show routeOf triA (endsL triE) 0 [0, 0, 0] 1 = _
  rw [routeOf_hit (i := 3) (by omega) tv_c0 tv_c1]
  decide +kernel
theorem tv_acyc : acycRes 3 triE (forest triE) triA 0 [0, 0, 1] = (true, 0) := by
  unfold acycRes
  rw [if_pos tv_rt2]
  decide +kernel
theorem tv_edges : edR 3 triE (forest triE) triA 0 [0, 0, 1] = [0, 2] := by
  unfold edR
  rw [if_pos tv_rt2]
  decide +kernel
theorem tv_all : allRes 3 triE (forest triE) triA 0 [0, 0, 0] [0, 1, 1] = ([0, 0, 0], [0, 2, 2], 0) := by
  have hg : gvE 3 triE (forest triE) triA 0 [0, 0, 0] [0, 1, 1] = 0 := by
    unfold gvE
    rw [if_pos tv_rt]
    decide +kernel
  unfold allRes
  rw [if_pos hg]
  show movesOf triA (endsL triE) 0 pk0 [0, 0, 0] [0, 1, 1] = _
  rw [movesOf_hit (i := 4) (s := ([0, 0, 0], [2, 0, 0], [0, 2, 2])) (by omega) (by decide +kernel) (by decide +kernel) (by decide +kernel)]

end Go.Proofs.Ytopldbnlehjlpaa

set_option linter.unusedVariables false
set_option linter.unusedSimpArgs false
set_option linter.unnecessarySimpa false
namespace Go.Proofs.Ytopldbnlehjlpaa
open Go.RowKit

/-- What awake leans on between its calls. -/
structure TriCtx (g h z bx : Nat) (W : World) : Prop where
  es : SliceR edgR 3 All W (some ⟨g, 0, none⟩) triE
  ar : SliceR (slcR intR 1) 1 All W (some ⟨h, 0, none⟩) triA
  zs : SliceR intR 1 All W (some ⟨z, 0, none⟩) [0, 0, 0]
  box : Box W bx [.int .i64 3, .slice (some ⟨g, 0, none⟩) 3 3, .slice (some ⟨h, 0, none⟩) 3 3] 27
theorem TriCtx.below {g h z bx : Nat} {W W' : World} (c : TriCtx g h z bx W) (hb : Below W.heap.size W W') : TriCtx g h z bx W' :=
  ⟨c.es.below edgR_ok hb, c.ar.below (slcR_ok intR_ok (by decide)) hb, c.zs.below intR_ok hb, c.box.below hb⟩
/-- A list that a call gave, in later worlds. -/
theorem OwnS.given {B : Nat} {W : World} {rv : Value} {l : List Int} (h : OwnS intR 1 B 3 Non W rv l) : ∃ oa c, rv = .slice oa l.length c ∧ l.length ≤ c ∧ SliceR intR 1 All W oa l := by
  obtain ⟨oa, c, e, hc, hs⟩ := h.slice intR_ok
  exact ⟨oa, c, e, hc, hs.all intR_ok (by decide)⟩

section
variable {g h z bx : Nat} {W : World} (C : TriCtx g h z bx W) (hU : Hid (gErr 3 triE = 0 → Uf (forest triE) (eL triE)))
include C hU
theorem tri_walk : Calls Try.prog 15 #[.agg #[.int .i64 3, .slice (some ⟨g, 0, none⟩) 3 3, .slice (some ⟨h, 0, none⟩) 3 3], .int .i64 0, .slice (some ⟨z, 0, none⟩) 3 3, .int .i64 1] W (ListErr W [1, 2, 1, 0] 0) := by
  have := rotWalk_any 3 triE (some ⟨g, 0, none⟩) 3 triA (some ⟨h, 0, none⟩) 3 All All W C.es (by decide) (by decide) C.ar (by decide) (by decide) (forest triE) hU 0 [0, 0, 0] (some ⟨z, 0, none⟩) 3 All C.zs (by decide) (by decide) 1
  rw [tv_walk] at this
  exact this
theorem tri_route : Calls Try.prog 20 #[.agg #[.int .i64 3, .slice (some ⟨g, 0, none⟩) 3 3, .slice (some ⟨h, 0, none⟩) 3 3], .int .i64 0, .slice (some ⟨z, 0, none⟩) 3 3, .int .i64 1] W (StepRes W ([0, 0, 1], 3, 0)) := by
  have := rotRoute_any 3 triE (some ⟨g, 0, none⟩) 3 triA (some ⟨h, 0, none⟩) 3 All All W C.es (by decide) (by decide) C.ar (by decide) (by decide) (forest triE) hU 0 [0, 0, 0] (some ⟨z, 0, none⟩) 3 All C.zs (by decide) (by decide) 1
  rw [tv_route] at this
  exact this
theorem tri_step : Calls Try.prog 13 #[.agg #[.int .i64 3, .slice (some ⟨g, 0, none⟩) 3 3, .slice (some ⟨h, 0, none⟩) 3 3], .int .i64 0, .slice (some ⟨z, 0, none⟩) 3 3, .int .i64 1] W (StepRes W ([0, 1, 0], 2, 0)) := by
  have := rotStep_any 3 triE (some ⟨g, 0, none⟩) 3 triA (some ⟨h, 0, none⟩) 3 All All W C.es (by decide) (by decide) C.ar (by decide) (by decide) (forest triE) hU 0 [0, 0, 0] (some ⟨z, 0, none⟩) 3 All C.zs (by decide) (by decide) 1
  rw [tv_step] at this
  exact this
theorem tri_acyc (oa : Option Addr) (c : Nat) (hc : 3 ≤ c) (hs : SliceR intR 1 All W oa [0, 0, 1]) : Calls Try.prog 24 #[.agg #[.int .i64 3, .slice (some ⟨g, 0, none⟩) 3 3, .slice (some ⟨h, 0, none⟩) 3 3], .int .i64 0, .slice oa 3 c] W (BoolErr W true 0) := by
  have := rotAcyclic_any 3 triE (some ⟨g, 0, none⟩) 3 triA (some ⟨h, 0, none⟩) 3 All All W C.es (by decide) (by decide) C.ar (by decide) (by decide) (forest triE) hU 0 [0, 0, 1] oa c All hs hc (by decide)
  rw [tv_acyc] at this
  exact this
theorem tri_edges (oa : Option Addr) (c : Nat) (hc : 3 ≤ c) (hs : SliceR intR 1 All W oa [0, 0, 1]) : Calls Try.prog 22 #[.agg #[.int .i64 3, .slice (some ⟨g, 0, none⟩) 3 3, .slice (some ⟨h, 0, none⟩) 3 3], .int .i64 0, .slice oa 3 c] W (ListErr W [0, 2] 0) := by
  have := rotEdges_any 3 triE (some ⟨g, 0, none⟩) 3 triA (some ⟨h, 0, none⟩) 3 All All W C.es (by decide) (by decide) C.ar (by decide) (by decide) (forest triE) hU 0 [0, 0, 1] oa c All hs hc (by decide)
  rw [tv_edges, tv_rt2] at this
  exact this
theorem tri_all (oa : Option Addr) (hs : SliceR intR 1 All W oa [0, 1, 1]) : Calls Try.prog 27 #[.agg #[.int .i64 3, .slice (some ⟨g, 0, none⟩) 3 3, .slice (some ⟨h, 0, none⟩) 3 3], .int .i64 0, .slice (some ⟨z, 0, none⟩) 3 3, .slice oa 3 3] W (MovesPost W.heap.size W ([0, 0, 0], [0, 2, 2], 0)) := by
  have := rotAll_any 3 triE (some ⟨g, 0, none⟩) 3 triA (some ⟨h, 0, none⟩) 3 All All W C.es (by decide) (by decide) C.ar (by decide) (by decide) (forest triE) hU 0 [0, 0, 0] (some ⟨z, 0, none⟩) 3 All C.zs (by decide) (by decide) [0, 1, 1] oa 3 All hs (by decide) (by decide)
  rw [tv_all] at this
  exact this
end
theorem eq_lit (l m : List Int) (oa : Option Addr) (c : Nat) (hc : l.length ≤ c) (hl : l.length ≤ 9223372036854775807) (W : World) (hs : SliceR intR 1 All W oa l) (hm : ∀ x ∈ m, 0 ≤ x ∧ x ≤ 100) (cs : Array Value) (hcs : cs = (m.map (Value.int .i64)).toArray) (k : Nat) (hk : k = m.length) (j : Nat) (hj : j = l.length) :
    Calls Try.prog 19 #[.slice oa j c, .slice (some ⟨W.heap.size, 0, none⟩) k k] (W.alloc (.cells cs 3)) fun e w' => e = .returned (.bool (decide (l = m))) ∧ Below W.heap.size W w' := by
  subst hcs hk hj
  refine (equalInt_any l m oa (some ⟨W.heap.size, 0, none⟩) c m.length All _ (hs.below intR_ok (bnew (Below.refl _ _) _)) (ints_lit (F := All) (G := All) W 3 m (fun x hx => i64_s (hm x hx)) trivial) hc hl).mono ?_
  rintro e w' ⟨rfl, hb⟩
  exact ⟨rfl, (bnew (Below.refl _ _) _).trans (hb.mono (by simp))⟩

set_option maxRecDepth 100000 in
set_option maxHeartbeats 4000000 in
theorem awake45_any (w : World) : Calls Try.prog 12 #[] w fun e w' => e = .returned (.bool true) ∧ Below w.heap.size w w' := by
  have hU : Hid (gErr 3 triE = 0 → Uf (forest triE) (eL triE)) := forest_ok 3 triE
  go_enter Try.func12, Try.ntmps12
  go_wp2_with fail
  refine (tri45_any _).mono ?_
  rintro e w1 ⟨g, h, rfl, hE, hA, hb1⟩
  obtain ⟨W2, hW2⟩ : ∃ W2, (w1.alloc (.cells #[.int .i64 0, .int .i64 0, .int .i64 0] 3)).alloc (.cells #[.int .i64 3, .slice (some ⟨g, 0, none⟩) 3 3, .slice (some ⟨h, 0, none⟩) 3 3] 27) = W2 := ⟨_, rfl⟩
  have hb12 : Below w1.heap.size w1 W2 := by rw [← hW2]; exact bnew (bnew (Below.refl _ _) _) _
  have C2 : TriCtx g h w1.heap.size (w1.heap.size + 1) W2 := by
    refine ⟨hE.below edgR_ok hb12, hA.below (slcR_ok intR_ok (by decide)) hb12, ?_, ?_⟩
    · have := (ints_lit (F := All) (G := All) w1 3 [0, 0, 0] (by intro x hx; simp at hx; subst hx; exact i64_s (by decide)) trivial).below intR_ok (bnew (Below.refl _ _) (.cells #[.int .i64 3, .slice (some ⟨g, 0, none⟩) 3 3, .slice (some ⟨h, 0, none⟩) 3 3] 27))
      rw [← hW2]
      simpa using this
    · have := Box.new (w1.alloc (.cells #[.int .i64 0, .int .i64 0, .int .i64 0] 3)) [.int .i64 3, .slice (some ⟨g, 0, none⟩) 3 3, .slice (some ⟨h, 0, none⟩) 3 3] 27
      rw [← hW2]
      simpa using this
  have HC := hide C2
  have hB2 := hide (hb1.trans (hb12.mono hb1.size))
  have d0 := C2.box.cell 0
  have d1 := C2.box.cell 1
  have d2 := C2.box.cell 2
  simp only [List.getElem?_cons_zero, List.getElem?_cons_succ] at d0 d1 d2
  clear hE hA hb1 hb12 C2
  go_wp2_with fail
  clear d0 d1 d2 hW2
  refine (tri_walk HC.out hU).mono ?_
  rintro e W3 ⟨rv, rfl, ho, hb⟩
  obtain ⟨oa3, c3, rfl, hc3, hs3⟩ := OwnS.given ho
  have HC := hide (HC.out.below hb)
  have hB2 := hide (hB2.out.trans (hb.mono hB2.out.size))
  have d0 := HC.out.box.cell 0
  have d1 := HC.out.box.cell 1
  have d2 := HC.out.box.cell 2
  simp only [List.getElem?_cons_zero, List.getElem?_cons_succ] at d0 d1 d2
  have s3 := hide hs3
  clear ho hb hs3
  go_wp2_with fail
  clear d0 d1 d2
  refine (tri_route HC.out hU).mono ?_
  rintro e W4 ⟨rv, rfl, ho, hb⟩
  obtain ⟨oa4, c4, rfl, hc4, hs4⟩ := OwnS.given ho
  have HC := hide (HC.out.below hb)
  have hB2 := hide (hB2.out.trans (hb.mono hB2.out.size))
  have s3 := hide (s3.out.below intR_ok hb)
  have d0 := HC.out.box.cell 0
  have d1 := HC.out.box.cell 1
  have d2 := HC.out.box.cell 2
  simp only [List.getElem?_cons_zero, List.getElem?_cons_succ] at d0 d1 d2
  have s4 := hide hs4
  clear ho hb hs4
  go_wp2_with fail
  clear d0 d1 d2
  refine (tri_step HC.out hU).mono ?_
  rintro e W5 ⟨rv, rfl, ho, hb⟩
  obtain ⟨oa5, c5, rfl, hc5, hs5⟩ := OwnS.given ho
  have HC := hide (HC.out.below hb)
  have hB2 := hide (hB2.out.trans (hb.mono hB2.out.size))
  have s3 := hide (s3.out.below intR_ok hb)
  have s4 := hide (s4.out.below intR_ok hb)
  have d0 := HC.out.box.cell 0
  have d1 := HC.out.box.cell 1
  have d2 := HC.out.box.cell 2
  simp only [List.getElem?_cons_zero, List.getElem?_cons_succ] at d0 d1 d2
  have s5 := hide hs5
  clear ho hb hs5
  go_wp2_with fail
  clear d0 d1 d2
  refine (eq_lit [1, 2, 1, 0] [1, 2, 1, 0] oa3 c3 hc3 (by decide) _ s3.out (by decide) _ rfl _ rfl _ rfl).mono ?_
  rintro e W6 ⟨rfl, hb⟩
  have HC := hide (HC.out.below hb)
  have hB2 := hide (hB2.out.trans (hb.mono hB2.out.size))
  have s4 := hide (s4.out.below intR_ok hb)
  have s5 := hide (s5.out.below intR_ok hb)
  have d0 := HC.out.box.cell 0
  have d1 := HC.out.box.cell 1
  have d2 := HC.out.box.cell 2
  simp only [List.getElem?_cons_zero, List.getElem?_cons_succ] at d0 d1 d2
  clear hb
  go_wp2_with fail
  clear d0 d1 d2
  refine (eq_lit [0, 0, 1] [0, 0, 1] oa4 c4 hc4 (by decide) _ s4.out (by decide) _ rfl _ rfl _ rfl).mono ?_
  rintro e W7 ⟨rfl, hb⟩
  have HC := hide (HC.out.below hb)
  have hB2 := hide (hB2.out.trans (hb.mono hB2.out.size))
  have s4 := hide (s4.out.below intR_ok hb)
  have s5 := hide (s5.out.below intR_ok hb)
  have d0 := HC.out.box.cell 0
  have d1 := HC.out.box.cell 1
  have d2 := HC.out.box.cell 2
  simp only [List.getElem?_cons_zero, List.getElem?_cons_succ] at d0 d1 d2
  clear hb
  go_wp2_with fail
  clear d0 d1 d2
  refine (eq_lit [0, 1, 0] [0, 1, 0] oa5 c5 hc5 (by decide) _ s5.out (by decide) _ rfl _ rfl _ rfl).mono ?_
  rintro e W8 ⟨rfl, hb⟩
  have HC := hide (HC.out.below hb)
  have hB2 := hide (hB2.out.trans (hb.mono hB2.out.size))
  have s4 := hide (s4.out.below intR_ok hb)
  have d0 := HC.out.box.cell 0
  have d1 := HC.out.box.cell 1
  have d2 := HC.out.box.cell 2
  simp only [List.getElem?_cons_zero, List.getElem?_cons_succ] at d0 d1 d2
  clear hb
  go_wp2_with fail
  clear d0 d1 d2
  refine (tri_acyc HC.out hU oa4 c4 hc4 s4.out).mono ?_
  rintro e W9 ⟨rfl, hb⟩
  have HC := hide (HC.out.below hb)
  have hB2 := hide (hB2.out.trans (hb.mono hB2.out.size))
  have s4 := hide (s4.out.below intR_ok hb)
  have d0 := HC.out.box.cell 0
  have d1 := HC.out.box.cell 1
  have d2 := HC.out.box.cell 2
  simp only [List.getElem?_cons_zero, List.getElem?_cons_succ] at d0 d1 d2
  clear hb
  go_wp2_with fail
  clear d0 d1 d2
  refine (tri_edges HC.out hU oa4 c4 hc4 s4.out).mono ?_
  rintro e W10 ⟨rv, rfl, ho, hb⟩
  obtain ⟨oa10, c10, rfl, hc10, hs10⟩ := OwnS.given ho
  have HC := hide (HC.out.below hb)
  have hB2 := hide (hB2.out.trans (hb.mono hB2.out.size))
  have d0 := HC.out.box.cell 0
  have d1 := HC.out.box.cell 1
  have d2 := HC.out.box.cell 2
  simp only [List.getElem?_cons_zero, List.getElem?_cons_succ] at d0 d1 d2
  have s10 := hide hs10
  clear ho hb hs10
  go_wp2_with fail
  clear d0 d1 d2
  have hbq := bnew (Below.refl W10.heap.size W10) (.cells #[.int .i64 0, .int .i64 1, .int .i64 1] 3)
  have hsq := ints_lit (F := All) (G := All) W10 3 [0, 1, 1] (by intro x hx; simp at hx; rcases hx with rfl | rfl <;> exact i64_s (by decide)) trivial
  refine (tri_all (HC.out.below hbq) hU _ hsq).mono ?_
  rintro e W11 ⟨rv, cv, rfl, ho1, ho2, hb⟩
  replace hb := hbq.trans (hb.mono hbq.size)
  obtain ⟨oa11, c11, rfl, hc11, hs11⟩ := OwnS.given ho1
  obtain ⟨oa12, c12, rfl, hc12, hs12⟩ := OwnS.given ho2
  have HC := hide (HC.out.below hb)
  have hB2 := hide (hB2.out.trans (hb.mono hB2.out.size))
  have s10 := hide (s10.out.below intR_ok hb)
  have s11 := hide hs11
  have s12 := hide hs12
  clear ho1 ho2 hb hs11 hs12 hbq hsq
  go_wp2_with fail
  refine (eq_lit [0, 2] [0, 2] oa10 c10 hc10 (by decide) _ s10.out (by decide) _ rfl _ rfl _ rfl).mono ?_
  rintro e W13 ⟨rfl, hb⟩
  have HC := hide (HC.out.below hb)
  have hB2 := hide (hB2.out.trans (hb.mono hB2.out.size))
  have s11 := hide (s11.out.below intR_ok hb)
  have s12 := hide (s12.out.below intR_ok hb)
  clear hb
  go_wp2_with fail
  refine (equalInt_any [0, 0, 0] [0, 0, 0] oa11 (some ⟨w1.heap.size, 0, none⟩) c11 3 All _ s11.out HC.out.zs hc11 (by decide)).mono ?_
  rintro e W14 ⟨rfl, hb⟩
  have HC := hide (HC.out.below hb)
  have hB2 := hide (hB2.out.trans (hb.mono hB2.out.size))
  have s12 := hide (s12.out.below intR_ok hb)
  clear hb
  go_wp2_with fail
  have hbq := bnew (Below.refl W14.heap.size W14) (.cells #[.int .i64 0, .int .i64 2, .int .i64 2] 3)
  refine (sameS_any [0, 2, 2] [0, 2, 2] oa12 (some ⟨W14.heap.size, 0, none⟩) c12 3 All _ (s12.out.below intR_ok hbq) (ints_lit (F := All) (G := All) W14 3 [0, 2, 2] (by intro x hx; simp at hx; rcases hx with rfl | rfl <;> exact i64_s (by decide)) trivial) hc12 (by decide)).mono ?_
  rintro e W15 ⟨rfl, hb⟩
  have hB15 := hide (hB2.out.trans ((hbq.trans (hb.mono hbq.size)).mono hB2.out.size))
  clear hb hbq
  go_wp2_with fail
  go_ret
  exact ⟨rfl, hB15.out⟩

end Go.Proofs.Ytopldbnlehjlpaa

set_option linter.unusedVariables false
set_option linter.unusedSimpArgs false
set_option linter.unnecessarySimpa false
namespace Go.Proofs.Ytopldbnlehjlpaa
open Go.RowKit

section
variable (n : Int) (es : List Edg) (oe : Option Addr) (c : Nat) (ar : List (List Int)) (oa : Option Addr) (ca : Nat) (F G : Foot) (w : World) (hs : SliceR edgR 3 F w oe es) (hc : es.length ≤ c) (hc2 : es.length ≤ 1000)
    (ha : SliceR (slcR intR 1) 1 G w oa ar) (hac : ar.length ≤ ca) (hac2 : ar.length ≤ 9223372036854775807) (f : List Nat) (hU : Hid (gErr n es = 0 → Uf f (eL es)))
    (q : Int) (rot : List Int) (ot : Option Addr) (ct : Nat) (H : Foot) (hr : SliceR intR 1 H w ot rot) (hrc : rot.length ≤ ct) (hrl : rot.length ≤ 9223372036854775807)
include hs hc hc2 ha hac hac2 hU hr hrc hrl

set_option maxRecDepth 100000 in
set_option maxHeartbeats 4000000 in
theorem refWalk_any (v : Int) :
    Calls Try.prog 16 #[.agg #[.int .i64 n, .slice oe es.length c, .slice oa ar.length ca], .int .i64 q, .slice ot rot.length ct, .int .i64 v] w (ListErr w (walkRes n es f ar q rot v).1 (walkRes n es f ar q rot v).2) := by
  go_enter Try.func16, Try.ntmps16
  go_wp2_with fail
  have hb0 := box_refl w (.cells #[.int .i64 n, .slice oe es.length c, .slice oa ar.length ca] 27)
  refine (r45check_any n es oe c ar oa ca F G _ (hs.below edgR_ok (below_box hb0)) hc hc2 (ha.below (slcR_ok intR_ok (by decide)) (below_box hb0)) hac hac2 f hU q rot ot ct H (hr.below intR_ok (below_box hb0)) hrc hrl).mono ?_
  rintro e w2 ⟨rfl, hb2⟩
  have hx2 := hb2.mono (B' := w.heap.size + 1) (by simp)
  have d0 := box_cell hx2 0
  have d1 := box_cell hx2 1
  simp at d0 d1
  have HX := hide (below_box hx2)
  have HX2 := hide hx2
  clear hb2 hb0 hx2
  by_cases hR : rtE n es f ar q rot = 0
  · have HR := hide hR
    rw [hR]
    clear hR
    by_cases hV : vtxB n v = true
    · have HS : Hid (stE n es f ar q rot v = 0) := by show _ = _; unfold stE; rw [if_pos HR.out, if_pos hV]
      have HV := hide hV
      clear hV
      go_wp2_with fail
      refine (rvertex_any n v oe es.length c _).mono ?_
      rintro e w3 ⟨rfl, hb3⟩
      rw [HV.out]
      have HX3 := hide (box_then HX2.out (by simp) hb3)
      have hx3 := box_cell HX3.out 0
      have hx31 := box_cell HX3.out 1
      have hx32 := box_cell HX3.out 2
      simp at hx3 hx31 hx32
      clear hb3 d0 d1
      obtain ⟨q', hq', hok⟩ := RtOk.of HR.out hc2
      have hv2 := vtxB_iff.1 HV.out
      obtain ⟨V, rfl⟩ := Int.eq_ofNat_of_zero_le hv2.1
      have hVar : V < ar.length := by have := hok.nar; omega
      have HRes : Hid (walkRes n es f ar q rot V = walkOf ar (endsL es) q' rot V) := by
        show _ = _
        unfold walkRes
        rw [if_pos HS.out, hq']
        rfl
      have HMU := hide (rt_mult HR.out)
      have HT := hide (routed_any n es oe c ar oa ca F G w3 (hs.below edgR_ok (below_box HX3.out)) hc hc2 (ha.below (slcR_ok intR_ok (by decide)) (below_box HX3.out)) hac hac2 HMU q' rot ot ct H (hr.below intR_ok (below_box HX3.out)) hrc V hok hVar)
      subst hq'
      clear hok hv2
      go_wp2_with fail
      refine HT.out.mono ?_
      rintro e w4 ⟨o1, n1, c1, o2, n2, c2, k, o, rfl, hb4, hcase⟩
      have HB4 := hide ((below_box HX3.out).trans (hb4.mono (below_box HX3.out).size))
      have hsz4 := HB4.out.size
      have HC := hide hcase
      clear hb4 hcase hx3 hx31 hx32
      rcases HC.out with ⟨i, h1, h2, h3, h4, h5, h6, h7, h8⟩ | ⟨h1, h2⟩
      · subst h1 h2
        by_cases hi : i + 1 ≤ 4096
        · have q1 : decide ((4096 : Int) < (i : Int) + 1) = false := by simp; omega
          have HF : Hid (walkOf ar (endsL es) q' rot V = (wayL (chipV ar (endsL es) rot V) (i + 1), 0)) := by
            show _ = _
            unfold walkOf
            rw [firstAt_some (by omega) h5 h6]
          have hk : keptN i = i + 1 := if_pos hi
          rw [hk] at h8
          have HO := hide (h8.rebase (base' := w.heap.size) (by have := (below_box HX3.out).size; omega))
          clear h3 h5 h6 h7 h8 hi hk HC
          go_wp2_with fail
          refine bodyPost_ret ?_ rfl ⟨_, by rw [HRes.out, HF.out], by rw [HRes.out, HF.out]; exact HO.out.below intR_ok (bnew (Below.refl _ _) _), bnew HB4.out _⟩
          simp [results]
        · have q1 : decide ((4096 : Int) < (i : Int) + 1) = true := by simp; omega
          have HF : Hid (walkOf ar (endsL es) q' rot V = ([], 12)) := by
            show _ = _
            unfold walkOf
            rw [firstAt_none (fun j hj => h6 j (by omega))]
          clear h3 h5 h6 h7 h8 hi HC
          go_wp2_with fail
          refine bodyPost_ret ?_ rfl ⟨_, by rw [HRes.out, HF.out], by rw [HRes.out, HF.out]; exact OwnS.nil _ _ _ _ _ _, bnew HB4.out _⟩
          simp [results]
      · subst h1
        have HF : Hid (walkOf ar (endsL es) q' rot V = ([], 12)) := by
          show _ = _
          unfold walkOf
          rw [firstAt_none (fun j hj => h2 j (by omega))]
        clear h2 HC
        go_wp2_with fail
        refine bodyPost_ret ?_ rfl ⟨_, by rw [HRes.out, HF.out], by rw [HRes.out, HF.out]; exact OwnS.nil _ _ _ _ _ _, bnew HB4.out _⟩
        simp [results]
    · have HS : Hid (stE n es f ar q rot v = 2) := by show _ = _; unfold stE; rw [if_pos HR.out, if_neg hV]
      have HRes : Hid (walkRes n es f ar q rot v = ([], 2)) := by show _ = _; unfold walkRes; rw [if_neg (by rw [HS.out]; decide), HS.out]
      have HV : Hid (vtxB n v = false) := by show _ = _; simpa using hV
      clear hV
      go_wp2_with fail
      refine (rvertex_any n v oe es.length c _).mono ?_
      rintro e w3 ⟨rfl, hb3⟩
      rw [HV.out]
      have HX3 := hide (box_then HX2.out (by simp) hb3)
      clear hb3 d0 d1
      go_wp2_with fail
      refine bodyPost_ret ?_ rfl ⟨_, by rw [HRes.out], by rw [HRes.out]; exact OwnS.nil _ _ _ _ _ _, below_box HX3.out⟩
      simp [results]
  · have HRes : Hid (walkRes n es f ar q rot v = ([], rtE n es f ar q rot)) := by
      have h1 : stE n es f ar q rot v = rtE n es f ar q rot := if_neg hR
      show _ = _
      unfold walkRes
      rw [h1, if_neg hR]
    have hq : (rtE n es f ar q rot != 0) = true := by simpa using hR
    clear hR
    go_wp2_with fail
    refine bodyPost_ret ?_ rfl ⟨_, by rw [HRes.out], by rw [HRes.out]; exact OwnS.nil _ _ _ _ _ _, HX.out⟩
    simp [results]

set_option maxRecDepth 100000 in
set_option maxHeartbeats 4000000 in
theorem refRoute_any (v : Int) :
    Calls Try.prog 21 #[.agg #[.int .i64 n, .slice oe es.length c, .slice oa ar.length ca], .int .i64 q, .slice ot rot.length ct, .int .i64 v] w (StepRes w (routeRes n es f ar q rot v)) := by
  go_enter Try.func21, Try.ntmps21
  go_wp2_with fail
  have hb0 := box_refl w (.cells #[.int .i64 n, .slice oe es.length c, .slice oa ar.length ca] 27)
  refine (r45check_any n es oe c ar oa ca F G _ (hs.below edgR_ok (below_box hb0)) hc hc2 (ha.below (slcR_ok intR_ok (by decide)) (below_box hb0)) hac hac2 f hU q rot ot ct H (hr.below intR_ok (below_box hb0)) hrc hrl).mono ?_
  rintro e w2 ⟨rfl, hb2⟩
  have hx2 := hb2.mono (B' := w.heap.size + 1) (by simp)
  have d0 := box_cell hx2 0
  have d1 := box_cell hx2 1
  simp at d0 d1
  have HX := hide (below_box hx2)
  have HX2 := hide hx2
  clear hb2 hb0 hx2
  by_cases hR : rtE n es f ar q rot = 0
  · have HR := hide hR
    rw [hR]
    clear hR
    by_cases hV : vtxB n v = true
    · have HS : Hid (stE n es f ar q rot v = 0) := by show _ = _; unfold stE; rw [if_pos HR.out, if_pos hV]
      have HV := hide hV
      clear hV
      go_wp2_with fail
      refine (rvertex_any n v oe es.length c _).mono ?_
      rintro e w3 ⟨rfl, hb3⟩
      rw [HV.out]
      have HX3 := hide (box_then HX2.out (by simp) hb3)
      have hx3 := box_cell HX3.out 0
      have hx31 := box_cell HX3.out 1
      have hx32 := box_cell HX3.out 2
      simp at hx3 hx31 hx32
      clear hb3 d0 d1
      obtain ⟨q', hq', hok⟩ := RtOk.of HR.out hc2
      have hv2 := vtxB_iff.1 HV.out
      obtain ⟨V, rfl⟩ := Int.eq_ofNat_of_zero_le hv2.1
      have hVar : V < ar.length := by have := hok.nar; omega
      have HRes : Hid (routeRes n es f ar q rot V = routeOf ar (endsL es) q' rot V) := by
        show _ = _
        unfold routeRes
        rw [if_pos HS.out, hq']
        rfl
      have HMU := hide (rt_mult HR.out)
      have HT := hide (routed_any n es oe c ar oa ca F G w3 (hs.below edgR_ok (below_box HX3.out)) hc hc2 (ha.below (slcR_ok intR_ok (by decide)) (below_box HX3.out)) hac hac2 HMU q' rot ot ct H (hr.below intR_ok (below_box HX3.out)) hrc V hok hVar)
      subst hq'
      clear hok hv2
      go_wp2_with fail
      refine HT.out.mono ?_
      rintro e w4 ⟨o1, n1, c1, o2, n2, c2, k, o, rfl, hb4, hcase⟩
      have HB4 := hide ((below_box HX3.out).trans (hb4.mono (below_box HX3.out).size))
      have hsz4 := HB4.out.size
      have HC := hide hcase
      clear hb4 hcase hx3 hx31 hx32
      rcases HC.out with ⟨i, h1, h2, h3, h4, h5, h6, h7, h8⟩ | ⟨h1, h2⟩
      · subst h1 h2
        have HF : Hid (routeOf ar (endsL es) q' rot V = (rotI ar (endsL es) rot V i, (i : Int), 0)) := routeOf_hit h4 h5 h6
        have HO := hide (h7.rebase (base' := w.heap.size) (by have := (below_box HX3.out).size; omega))
        clear h3 h5 h6 h7 h8 HC
        go_wp2_with fail
        go_quiet (fail)
        go_wp2_with fail
        refine bodyPost_ret ?_ rfl ⟨_, by rw [HRes.out, HF.out], by rw [HRes.out, HF.out]; exact ownS_keep' (HO.out.below intR_ok (bnew (Below.refl _ _) _)) (fun _ => rfl), below_drewN (bnew HB4.out _) _⟩
        simp [results]
      · subst h1
        have HF : Hid (routeOf ar (endsL es) q' rot V = ([], 0, 12)) := routeOf_none h2
        clear h2 HC
        go_wp2_with fail
        refine bodyPost_ret ?_ rfl ⟨_, by rw [HRes.out, HF.out], by rw [HRes.out, HF.out]; exact OwnS.nil _ _ _ _ _ _, bnew HB4.out _⟩
        simp [results]
    · have HS : Hid (stE n es f ar q rot v = 2) := by show _ = _; unfold stE; rw [if_pos HR.out, if_neg hV]
      have HRes : Hid (routeRes n es f ar q rot v = ([], 0, 2)) := by show _ = _; unfold routeRes; rw [if_neg (by rw [HS.out]; decide), HS.out]
      have HV : Hid (vtxB n v = false) := by show _ = _; simpa using hV
      clear hV
      go_wp2_with fail
      refine (rvertex_any n v oe es.length c _).mono ?_
      rintro e w3 ⟨rfl, hb3⟩
      rw [HV.out]
      have HX3 := hide (box_then HX2.out (by simp) hb3)
      clear hb3 d0 d1
      go_wp2_with fail
      refine bodyPost_ret ?_ rfl ⟨_, by rw [HRes.out], by rw [HRes.out]; exact OwnS.nil _ _ _ _ _ _, below_box HX3.out⟩
      simp [results]
  · have HRes : Hid (routeRes n es f ar q rot v = ([], 0, rtE n es f ar q rot)) := by
      have h1 : stE n es f ar q rot v = rtE n es f ar q rot := if_neg hR
      show _ = _
      unfold routeRes
      rw [h1, if_neg hR]
    have hq : (rtE n es f ar q rot != 0) = true := by simpa using hR
    clear hR
    go_wp2_with fail
    refine bodyPost_ret ?_ rfl ⟨_, by rw [HRes.out], by rw [HRes.out]; exact OwnS.nil _ _ _ _ _ _, HX.out⟩
    simp [results]
end

end Go.Proofs.Ytopldbnlehjlpaa

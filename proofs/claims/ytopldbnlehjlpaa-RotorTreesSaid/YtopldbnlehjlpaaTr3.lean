/-
  rotor.Step.
  ref45.Turned, ref45.Step.
  The sizes that the statements take in: ref08.Few, ref44.Few, ref45.Few.
  There is a forest for every right graph.
  A range over a function whose iterator and whose body both write cells: the law.
  The iterator way: with a step that turns, and with one that only looks (printed by wip/mkWay.py).
  The states on a way; the first time at the sink; what the range over a way needs besides.
  rotor.Walk.
  rotor.Route.
-/
import Derived.Test.YtopldbnlehjlpaaTr2
import Derived.StillTailTactics
import Derived.BigQuiet
import Derived.RangeFuncBox
import Derived.RangeFuncNested
import Derived.RangeFuncLeaves
import Derived.Shelf.Abstract
import Derived.OwnWalkIn
import Derived.TacticsInMore
import Derived.LoopNIn
import Derived.LoopIn
import Derived.Maps.AppendAt
import Derived.BigRegionIn

set_option linter.unusedVariables false
set_option linter.unusedSimpArgs false
set_option linter.unnecessarySimpa false
namespace Go.Proofs.Ytopldbnlehjlpaa
open Go.RowKit

/-- The results of Step. -/
def stepRes (n : Int) (es : List Edg) (f : List Nat) (ar : List (List Int)) (q : Int) (rot : List Int) (v : Int) : List Int × Int × Int :=
  if stE n es f ar q rot v = 0 then (if v = q then ([], 0, 15) else (stpR ar rot v.toNat, ((stpV ar (endsL es) rot v.toNat : Nat) : Int), 0)) else ([], 0, stE n es f ar q rot v)
def StepRes (w : World) (x : List Int × Int × Int) (e : Ending) (w' : World) : Prop := ∃ rv, e = .returned (.tuple #[rv, .int .i64 x.2.1, .int .i64 x.2.2]) ∧ OwnS intR 1 w.heap.size 3 Non w' rv x.1 ∧ Below w.heap.size w w'

theorem stE_zero {n : Int} {es : List Edg} {f : List Nat} {ar : List (List Int)} {q : Int} {rot : List Int} {v : Int} (h : stE n es f ar q rot v = 0) : rtE n es f ar q rot = 0 ∧ 0 ≤ v ∧ v < n := by
  unfold stE at h
  split at h
  · rename_i h1
    split at h
    · rename_i h2; exact ⟨h1, vtxB_iff.1 h2⟩
    · cases h
  · rename_i h1; exact absurd h h1

theorem Brd.own {B : Nat} {w : World} {p rg cap : Nat} {tv : Value} {q : Int} {av : Value} {tl rot : List Int} {rest : List Value} (h : Brd B w p rg cap tv q av tl rot rest) (hx : ∀ x ∈ rot, I64 x) :
    OwnS intR 1 B 3 Non w (.slice (some ⟨rg, 0, none⟩) rot.length cap) rot := h.row.ownInts hx h.gB h.len h.max
theorem RtOk.i64 {n : Int} {es : List Edg} {ar : List (List Int)} {q : Nat} {rot : List Int} (h : RtOk n es ar q rot) : ∀ x ∈ rot, I64 x := by
  intro x hx
  obtain ⟨i, hi, rfl⟩ := List.getElem_of_mem hx
  have hia : i < ar.length := by rw [← h.nrot]; exact hi
  have h1 := h.rots i _ _ (List.getElem?_eq_getElem hi) (List.getElem?_eq_getElem hia)
  have h2 := (h.rows i _ (List.getElem?_eq_getElem hia)).1
  have h3 := h.cap
  unfold I64
  by_cases e : i = q
  · have := h1.2.1 e; omega
  · have := h1.2.2 e; omega

set_option maxRecDepth 100000 in
set_option maxHeartbeats 4000000 in
theorem rotStep_any (n : Int) (es : List Edg) (oe : Option Addr) (c : Nat) (ar : List (List Int)) (oa : Option Addr) (ca : Nat) (F G : Foot) (w : World) (hs : SliceR edgR 3 F w oe es) (hc : es.length ≤ c) (hc2 : es.length ≤ 1000)
    (ha : SliceR (slcR intR 1) 1 G w oa ar) (hac : ar.length ≤ ca) (hac2 : ar.length ≤ 9223372036854775807) (f : List Nat) (hU : Hid (gErr n es = 0 → Uf f (eL es)))
    (q : Int) (rot : List Int) (ot : Option Addr) (ct : Nat) (H : Foot) (hr : SliceR intR 1 H w ot rot) (hrc : rot.length ≤ ct) (hrl : rot.length ≤ 9223372036854775807) (v : Int) :
    Calls Try.prog 13 #[.agg #[.int .i64 n, .slice oe es.length c, .slice oa ar.length ca], .int .i64 q, .slice ot rot.length ct, .int .i64 v] w (StepRes w (stepRes n es f ar q rot v)) := by
  go_enter Try.func13, Try.ntmps13
  go_wp2_with fail
  have hb0 := box_refl w (.cells #[.int .i64 n, .slice oe es.length c, .slice oa ar.length ca] 27)
  by_cases hS : stE n es f ar q rot v = 0
  · obtain ⟨h1, h2⟩ := stE_zero hS
    obtain ⟨q', rfl, hok⟩ := RtOk.of h1 hc2
    obtain ⟨V, rfl⟩ := Int.eq_ofNat_of_zero_le h2.1
    have hR0 : Hid (stepRes n es f ar q' rot V = if (V : Int) = q' then ([], 0, 15) else (stpR ar rot V, ((stpV ar (endsL es) rot V : Nat) : Int), 0)) := if_pos hS
    have haB : SliceR (slcR intR 1) 1 (Lt (w.heap.size + 1)) (w.alloc (.cells #[.int .i64 n, .slice oe es.length c, .slice oa ar.length ca] 27)) oa ar := by
      have := (ha.below (slcR_ok intR_ok (by decide)) (below_box hb0)).loc (slcR_ok intR_ok (by decide)) (by decide)
      simpa using this
    refine (at_yes n es oe c ar oa ca F G _ (hs.below edgR_ok (below_box hb0)) hc hc2 (ha.below (slcR_ok intR_ok (by decide)) (below_box hb0)) hac hac2 f hU q' rot ot ct H (hr.below intR_ok (below_box hb0)) hrc hrl V h1 h2).mono ?_
    rintro e w2 ⟨p, rg, cap, tv, rest, rfl, hD, hb2⟩
    have hx2 := hb2.mono (B' := w.heap.size + 1) (by simp)
    have HX := hide (below_box hx2)
    have hD2 : Brd (w.heap.size + 1) w2 p rg cap tv q' (.slice oa ar.length ca) (toL (endsL es)) rot rest := hD.rebase (by simp)
    have ha2 : SliceR (slcR intR 1) 1 (Lt (w.heap.size + 1)) w2 oa ar := haB.below (slcR_ok intR_ok (by decide)) hb2
    have hsz2 := box_lt hx2
    have hnar := hok.nar
    clear hb2 hb0 hx2 hD haB hS h1
    by_cases hvq : V = q'
    · have HR : Hid (stepRes n es f ar q' rot V = ([], 0, 15)) := by show _ = _; rw [hR0.out, if_pos (by rw [hvq])]
      have q1 : ((V : Int) == (q' : Int)) = true := by simp [hvq]
      replace hvq := hide hvq
      clear hD2 hnar hok
      go_wp2_with fail
      refine bodyPost_ret ?_ rfl ⟨_, by rw [HR.out], by rw [HR.out]; exact OwnS.nil _ _ _ _ _ _, HX.out⟩
      simp [results]
    · have hne : ((V : Int) = (q' : Int)) = False := by simp; omega
      have HR : Hid (stepRes n es f ar q' rot V = (stpR ar rot V, ((stpV ar (endsL es) rot V : Nat) : Int), 0)) := by show _ = _; rw [hR0.out, if_neg (by omega)]
      have q1 : ((V : Int) == (q' : Int)) = false := by simp; omega
      have hVn : V < ar.length := by omega
      have hst := step_ok hD2 ha2 hok hVn hvq
      have hok2 := (hok.step hVn hvq).2.1
      replace hvq := hide hvq
      clear hne hnar hok
      go_wp2_with fail
      refine hst.mono ?_
      rintro e w3 ⟨rfl, hD3, hg3⟩
      have d3 := hD3.box.cell 3
      simp at d3
      have HD := hide hD3
      have hbf : Below w.heap.size w w3 := HX.out.trans ((Below.refl w.heap.size w2).grown hg3 (by omega) fun k hk => by injection hk with hk; have := hD3.gB; omega)
      have HB := hide hbf
      clear hbf hst hD2 hD3
      go_wp2_with fail
      refine bodyPost_ret ?_ rfl ⟨_, by rw [HR.out], by rw [HR.out]; exact (HD.out.own hok2.i64).rebase (by omega), HB.out⟩
      simp [results]
  · have HR : Hid (stepRes n es f ar q rot v = ([], 0, stE n es f ar q rot v)) := if_neg hS
    refine (at_no n es oe c ar oa ca F G _ (hs.below edgR_ok (below_box hb0)) hc hc2 (ha.below (slcR_ok intR_ok (by decide)) (below_box hb0)) hac hac2 f hU q rot ot ct H (hr.below intR_ok (below_box hb0)) hrc hrl v hS).mono ?_
    rintro e w2 ⟨rfl, hb2⟩
    have HX := hide (below_box (hb2.mono (B' := w.heap.size + 1) (by simp)))
    have hq : (stE n es f ar q rot v != 0) = true := by simpa using hS
    replace hS := hide hS
    clear hb2 hb0
    go_wp2_with fail
    refine bodyPost_ret ?_ rfl ⟨_, by rw [HR.out], by rw [HR.out]; exact OwnS.nil _ _ _ _ _ _, HX.out⟩
    simp [results]

end Go.Proofs.Ytopldbnlehjlpaa

set_option linter.unusedVariables false
set_option linter.unusedSimpArgs false
set_option linter.unnecessarySimpa false
namespace Go.Proofs.Ytopldbnlehjlpaa
open Go.RowKit

theorem turned_any (t : List (List Int)) (ot : Option Addr) (ct : Nat) (F : Foot) (w : World) (ht : SliceR (slcR intR 1) 1 F w ot t) (v : Nat) (l : List Int) (hl : t[v]? = some l) (k : Nat) (hk : k < l.length) (hll : l.length ≤ 1000000) (j : Nat) (hj : j = (k + 1) % l.length) :
    Calls Try.prog 44 #[.slice ot t.length ct, .int .i64 v, .int .i64 k] w fun e w' => e = .returned (.int .i64 (j : Nat)) ∧ w = w' := by
  have hvt : v < t.length := (List.getElem?_eq_some_iff.1 hl).1
  obtain ⟨l', _, hl', b, off, ol, cl, hoa, hbB, c0, hxl, _, hsl⟩ := ht.slc_at hvt
  rw [hl] at hl'
  injection hl' with hl'
  subst hl'
  subst hoa
  have hjl : j < l.length := by rw [hj]; exact Nat.mod_lt _ (by omega)
  have hrem : ((k : Int) + 1).tmod (l.length : Int) = (j : Int) := by
    rw [hj, Int.tmod_eq_emod_of_nonneg (by omega)]
    rfl
  have hne : (l.length : Int) ≠ 0 := by omega
  clear hj hl
  go_enter Try.func44, Try.ntmps44
  go_wp2_with fail
  go_ret
  exact ⟨rfl, rfl⟩

/-- A way's step by the lists of targets. -/
theorem tg_step {n : Int} {es : List Edg} {ar : List (List Int)} {q : Nat} {rot : List Int} (h : RtOk n es ar q rot) {v : Nat} (hv' : v < ar.length) (hvq : v ≠ q) :
    ∃ (m : List Int) (k : Nat), (tgL ar (endsL es))[v]? = some m ∧ rot[v]? = some (k : Int) ∧ k < m.length ∧ m.length ≤ 1000000 ∧ stpK ar rot v = (k + 1) % m.length ∧ (k + 1) % m.length < m.length ∧ m[(k + 1) % m.length]? = some ((stpV ar (endsL es) rot v : Nat) : Int) := by
  obtain ⟨⟨l, k, g, h1, h2, h3, h4, h5, h6, h7⟩, _⟩ := h.step hv' hvq
  have hg : (toL (endsL es))[g]? = some (hv (endsL es) (oppH g)) := by
    obtain ⟨_, w2⟩ := h.rows v l h1
    obtain ⟨g', hg', hg2, _⟩ := w2 _ (List.mem_of_getElem? h6)
    have : g = g' := by omega
    subst this
    exact toL_get _ g hg2
  refine ⟨_, k, tgL_get h1, h2, by simpa using h3, by simpa using h4, by simpa using h5, by simpa using Nat.mod_lt (k + 1) (show 0 < l.length by omega), ?_⟩
  rw [List.getElem?_map, List.length_map, h6]
  rw [h7] at hg
  injection hg with hg
  simp [hg]

theorem rt_mult {n : Int} {es : List Edg} {f : List Nat} {ar : List (List Int)} {q : Int} {rot : List Int} (h : rtE n es f ar q rot = 0) : ∀ x ∈ es, x.m ≤ 50 := by
  intro x hx
  exact ((gErr_zero (jErr_zero (chkE_zero (rtE_zero h).1).1)).2.1 x hx).2.2.2.1

theorem ownS_keep' {base : Nat} {e : TypeId} {w w' : World} {v : Value} {xs : List Int} (h : OwnS intR 1 base e Non w v xs) (hh : ∀ k : Nat, w'.heap[k]? = w.heap[k]?) : OwnS intR 1 base e Non w' v xs :=
  h.keep intR_ok (fun g _ => hh g) (fun _ hk _ => hk.elim)
section
variable (n : Int) (es : List Edg) (oe : Option Addr) (c : Nat) (ar : List (List Int)) (oa : Option Addr) (ca : Nat) (F G : Foot) (w : World) (hs : SliceR edgR 3 F w oe es) (hc : es.length ≤ c) (hc2 : es.length ≤ 1000)
    (ha : SliceR (slcR intR 1) 1 G w oa ar) (hac : ar.length ≤ ca) (hac2 : ar.length ≤ 9223372036854775807) (f : List Nat) (hU : Hid (gErr n es = 0 → Uf f (eL es)))
    (q : Int) (rot : List Int) (ot : Option Addr) (ct : Nat) (H : Foot) (hr : SliceR intR 1 H w ot rot) (hrc : rot.length ≤ ct) (hrl : rot.length ≤ 9223372036854775807)
include hs hc hc2 ha hac hac2 hU hr hrc hrl

set_option maxRecDepth 100000 in
set_option maxHeartbeats 4000000 in
theorem refStep_any (v : Int) :
    Calls Try.prog 14 #[.agg #[.int .i64 n, .slice oe es.length c, .slice oa ar.length ca], .int .i64 q, .slice ot rot.length ct, .int .i64 v] w (StepRes w (stepRes n es f ar q rot v)) := by
  go_enter Try.func14, Try.ntmps14
  go_wp2_with fail
  have hb0 := box_refl w (.cells #[.int .i64 n, .slice oe es.length c, .slice oa ar.length ca] 27)
  refine (r45check_any n es oe c ar oa ca F G _ (hs.below edgR_ok (below_box hb0)) hc hc2 (ha.below (slcR_ok intR_ok (by decide)) (below_box hb0)) hac hac2 f hU q rot ot ct H (hr.below intR_ok (below_box hb0)) hrc hrl).mono ?_
  rintro e w2 ⟨rfl, hb2⟩
  have hx2 := hb2.mono (B' := w.heap.size + 1) (by simp)
  have d0 := box_cell hx2 0
  have d1 := box_cell hx2 1
  simp at d0 d1
  have HX := hide (below_box hx2)
  have HX2 := hide hx2
  clear hb2 hb0 hx2
  by_cases hR : rtE n es f ar q rot = 0
  · have HR := hide hR
    rw [hR]
    clear hR
    by_cases hV : vtxB n v = true
    · have HS : Hid (stE n es f ar q rot v = 0) := by show _ = _; unfold stE; rw [if_pos HR.out, if_pos hV]
      have HV := hide hV
      clear hV
      go_wp2_with fail
      refine (rvertex_any n v oe es.length c _).mono ?_
      rintro e w3 ⟨rfl, hb3⟩
      rw [HV.out]
      have HX3 := hide (box_then HX2.out (by simp) hb3)
      have hx3 := box_cell HX3.out 0
      have hx31 := box_cell HX3.out 1
      have hx32 := box_cell HX3.out 2
      simp at hx3 hx31 hx32
      clear hb3 d0 d1
      by_cases hvq : v = q
      · have q1 : (v == q) = true := by simp [hvq]
        have HRes : Hid (stepRes n es f ar q rot v = ([], 0, 15)) := by show _ = _; unfold stepRes; rw [if_pos HS.out, if_pos hvq]
        clear hvq
        go_wp2_with fail
        refine bodyPost_ret ?_ rfl ⟨_, by rw [HRes.out], by rw [HRes.out]; exact OwnS.nil _ _ _ _ _ _, below_box HX3.out⟩
        simp [results]
      · have q1 : (v == q) = false := by simp [hvq]
        obtain ⟨q', hq', hok⟩ := RtOk.of HR.out hc2
        have hv2 := vtxB_iff.1 HV.out
        obtain ⟨V, rfl⟩ := Int.eq_ofNat_of_zero_le hv2.1
        have hVar : V < ar.length := by have := hok.nar; omega
        have hVq : V ≠ q' := by omega
        have HRes : Hid (stepRes n es f ar q rot V = (stpR ar rot V, ((stpV ar (endsL es) rot V : Nat) : Int), 0)) := by show _ = _; unfold stepRes; rw [if_pos HS.out, if_neg hvq]; rfl
        obtain ⟨m, K, ht, hk, hkm, hmm, hst, hjm, hm⟩ := tg_step hok hVar hVq
        obtain ⟨J, hJ⟩ : ∃ J, J = (K + 1) % m.length := ⟨_, rfl⟩
        rw [← hJ] at hst hjm hm
        have HJ := hide hJ
        have hi64 := hok.i64
        have hrl12 : rot.length ≤ 12 := by rw [hok.nrot]; exact hok.n12
        have hVr : V < rot.length := by rw [hok.nrot]; exact hVar
        have HMU := hide (rt_mult HR.out)
        have HOKS := hide (hok.step hVar hVq).2.1
        clear hvq hv2 hVq hJ
        go_wp2_with fail
        refine (targets_any n es oe c ar oa ca F G _ (hs.below edgR_ok (below_box HX3.out)) hc hc2 (ha.below (slcR_ok intR_ok (by decide)) (below_box HX3.out)) hac hac2 HMU q' rot hok).mono ?_
        rintro e w4 ⟨tg, tc, rfl, htc, hT, hb4⟩
        have hb34 := (below_box HX3.out).trans (hb4.mono (below_box HX3.out).size)
        have HB4 := hide hb34
        have hr4 := hr.below intR_ok hb34
        have hTL := hT.loc (slcR_ok intR_ok (by decide)) (by decide)
        have hlit := OwnS.ints w4 3 [] (by intro x hx; cases hx) (by simp)
        have hr5 := hr4.below intR_ok (bnew (Below.refl _ w4) (.cells #[] 3))
        have hbt : (([] : List Int).length + rot.length) * 8 ≤ 140737488355328 := by simp; omega
        have hbl : ([] : List Int).length + rot.length ≤ 9223372036854775807 := by simp; omega
        clear hok hb4 hb34 hx3 hx31 hx32
        go_wp2_with (first
          | (at_builtin; refine wpList_append_rep rfl (.tmp 31) (.tmp 32) 28 rfl w4.heap.size 3 _ 1 8 Try.underlying28 iInfo rfl (by decide) intR_ok Non H _ [] rfl hlit ot ct rot rfl hr5 (fun _ _ h => h) (fun _ h => h.elim) hbt hbl (by simp) ?_; intro v' w8 ho hb8 hg8; rw [List.nil_append] at ho; obtain ⟨rg, cp, rest, rfl, hgB, hcp, hcm, hrow, _⟩ := ho.row (by intro e; rw [e] at hVr; simp at hVr); replace hcp := hide hcp; have hb48 := (bnew (Below.refl _ w4) (.cells #[] 3)).trans hb8; have hT8 := hT.below (slcR_ok intR_ok (by decide)) hb48; have r0 := hrow.cell hk; have f0 := hrow.free V)
          | (go_at_call 44; refine (turned_any _ tg tc All _ hT8 V m ht K hkm hmm J HJ.out).mono ?_; rintro e w' ⟨rfl, rfl⟩)
          | fail)
        clear hg8 r0 f0 hT8
        have hT8 := hTL.keep (slcR_ok intR_ok (by decide)) (SameOn.of_lt hb48)
        have hT9 : SliceR (slcR intR 1) 1 (Lt w4.heap.size) (w8.setCell ⟨rg, V, none⟩ (.int .i64 (J : Nat))) tg (tgL ar (endsL es)) :=
          hT8.keep (slcR_ok intR_ok (by decide)) fun k hk _ => Below.heap_setCell _ _ _ k (by have h1 : k < w4.heap.size := hk; simp; omega)
        have hVt : V < (tgL ar (endsL es)).length := by rw [tgL_len]; exact hVar
        obtain ⟨m', _, hm', b, off, ol, cl, htg, hbB, c0, hml, _, hsm⟩ := hT9.slc_at hVt
        rw [ht] at hm'
        injection hm' with hm'
        subst hm'
        subst htg
        obtain ⟨y, _, hy, iy, b2, off2, hol, hb2, e0⟩ := hsm.int_at hjm
        rw [hm] at hy
        injection hy with hy
        subst hy
        subst hol
        have hrow9 := hrow.put hVr (J : Int)
        have r9 := hrow9.cell (i := V) (x := (J : Int)) (List.getElem?_set_self hVr)
        have HROW := hide (hrow9.ownInts (base := w.heap.size) (F := Non) (by
          have h1 := HOKS.out.i64
          unfold stpR at h1
          rw [hst] at h1
          exact h1) (by have := HB4.out.size; omega) (by rw [List.length_set]; exact hcp.out) hcm)
        have HBF := hide (((HB4.out.trans (hb48.mono HB4.out.size)).setCell (p := ⟨rg, V, none⟩) (by have := HB4.out.size; simp; omega) (.int .i64 (J : Nat))))
        have HRV : Hid (stpR ar rot V = rot.set V (J : Int)) := by show _ = _; unfold stpR; rw [hst]
        clear hrow hrow9 ho hk ht hm hT hTL hT8 hT9 hst hlit hr4 hr5
        go_quiet (fail)
        go_wp2_with fail
        refine bodyPost_ret ?_ rfl ⟨_, by rw [HRes.out], by rw [HRes.out]; show OwnS _ _ _ _ _ _ _ (stpR ar rot V); rw [HRV.out]; exact ownS_keep' HROW.out (fun _ => rfl), below_drewN HBF.out _⟩
        simp [results]
    · have HS : Hid (stE n es f ar q rot v = 2) := by show _ = _; unfold stE; rw [if_pos HR.out, if_neg hV]
      have HRes : Hid (stepRes n es f ar q rot v = ([], 0, 2)) := by show _ = _; unfold stepRes; rw [if_neg (by rw [HS.out]; decide), HS.out]
      have HV : Hid (vtxB n v = false) := by show _ = _; simpa using hV
      clear hV
      go_wp2_with fail
      refine (rvertex_any n v oe es.length c _).mono ?_
      rintro e w3 ⟨rfl, hb3⟩
      rw [HV.out]
      have HX3 := hide (box_then HX2.out (by simp) hb3)
      clear hb3 d0 d1
      go_wp2_with fail
      refine bodyPost_ret ?_ rfl ⟨_, by rw [HRes.out], by rw [HRes.out]; exact OwnS.nil _ _ _ _ _ _, below_box HX3.out⟩
      simp [results]
  · have HRes : Hid (stepRes n es f ar q rot v = ([], 0, rtE n es f ar q rot)) := by
      have h1 : stE n es f ar q rot v = rtE n es f ar q rot := if_neg hR
      show _ = _
      unfold stepRes
      rw [h1, if_neg hR]
    have hq : (rtE n es f ar q rot != 0) = true := by simpa using hR
    clear hR
    go_wp2_with fail
    refine bodyPost_ret ?_ rfl ⟨_, by rw [HRes.out], by rw [HRes.out]; exact OwnS.nil _ _ _ _ _ _, HX.out⟩
    simp [results]
end

end Go.Proofs.Ytopldbnlehjlpaa

set_option linter.unusedVariables false
set_option linter.unusedSimpArgs false
set_option linter.unnecessarySimpa false
namespace Go.Proofs.Ytopldbnlehjlpaa
open Go.RowKit

def smB (n : Int) (es : List Edg) (N M : Int) : Bool := if es.length ≤ 40 then (if gErr n es = 0 then decide (n ≤ N ∧ ((endsL es).length : Int) ≤ M) else true) else false

set_option maxRecDepth 100000 in
set_option maxHeartbeats 2000000 in
theorem small_any (n : Int) (es : List Edg) (oe : Option Addr) (c : Nat) (F : Foot) (w : World) (hs : SliceR edgR 3 F w oe es) (hc : es.length ≤ c) (hc2 : es.length ≤ 9223372036854775807) (N M : Int) :
    Calls Try.prog 86 #[.agg #[.int .i64 n, .slice oe es.length c], .int .i64 N, .int .i64 M] w fun e w' => e = .returned (.bool (smB n es N M)) ∧ Below w.heap.size w w' := by
  have hb0 := box_refl w (.cells #[.int .i64 n, .slice oe es.length c] 24)
  by_cases h40 : es.length ≤ 40
  · have q1 : decide ((40 : Int) < (es.length : Int)) = false := by simp; omega
    have hc3 : es.length ≤ 1000 := by omega
    have HS : Hid (smB n es N M = if gErr n es = 0 then decide (n ≤ N ∧ ((endsL es).length : Int) ≤ M) else true) := if_pos h40
    have HK := hide (rgcheck_any n es oe c F _ (hs.below edgR_ok (below_box hb0)) hc hc2)
    clear h40
    go_enter Try.func86, Try.ntmps86
    go_wp2_with fail
    refine HK.out.mono ?_
    rintro e w2 ⟨rfl, hb2⟩
    have hx2 := hb2.mono (B' := w.heap.size + 1) (by simp)
    have d0 := box_cell hx2 0
    have d1 := box_cell hx2 1
    simp at d0 d1
    have HX := hide hx2
    clear hb0 hb2 hx2
    by_cases hE : gErr n es = 0
    · have HS2 : Hid (smB n es N M = decide (n ≤ N ∧ ((endsL es).length : Int) ≤ M)) := by show _ = _; rw [HS.out, if_pos hE]
      have HM : Hid (∀ x ∈ es, x.m ≤ 50) := fun x hx => ((gErr_zero hE).2.1 x hx).2.2.2.1
      rw [hE]
      clear hE
      by_cases hN : n ≤ N
      · have q2 : decide (n ≤ N) = true := by simp [hN]
        by_cases hM : ((endsL es).length : Int) ≤ M
        · have q3 : decide (((endsL es).length : Int) ≤ M) = true := by simp [hM]
          have HS3 : Hid (smB n es N M = true) := by show _ = _; rw [HS2.out]; exact decide_eq_true ⟨hN, hM⟩
          clear hN hM
          go_wp2_with fail
          refine (rsize_any n es oe c F w2 (hs.below edgR_ok (below_box HX.out)) hc hc3 HM).mono ?_
          rintro e w3 ⟨rfl, hb3⟩
          go_wp2_with fail
          go_ret
          exact ⟨ret_bool HS3.out.symm, (below_box HX.out).trans (hb3.mono (below_box HX.out).size)⟩
        · have q3 : decide (((endsL es).length : Int) ≤ M) = false := by simp; omega
          have HS3 : Hid (smB n es N M = false) := by show _ = _; rw [HS2.out]; exact decide_eq_false (fun h => hM h.2)
          clear hN hM
          go_wp2_with fail
          refine (rsize_any n es oe c F w2 (hs.below edgR_ok (below_box HX.out)) hc hc3 HM).mono ?_
          rintro e w3 ⟨rfl, hb3⟩
          go_wp2_with fail
          go_ret
          exact ⟨ret_bool HS3.out.symm, (below_box HX.out).trans (hb3.mono (below_box HX.out).size)⟩
      · have q2 : decide (n ≤ N) = false := by simp; omega
        have HS3 : Hid (smB n es N M = false) := by show _ = _; rw [HS2.out]; exact decide_eq_false (fun h => hN h.1)
        clear hN
        go_wp2_with fail
        go_ret
        exact ⟨ret_bool HS3.out.symm, below_box HX.out⟩
    · have HS2 : Hid (smB n es N M = true) := by show _ = _; rw [HS.out, if_neg hE]
      have q2 : (gErr n es != 0) = true := by simpa using hE
      clear hE
      go_wp2_with fail
      go_ret
      exact ⟨ret_bool HS2.out.symm, below_box HX.out⟩
  · have q1 : decide ((40 : Int) < (es.length : Int)) = true := by simp; omega
    have HS : Hid (smB n es N M = false) := if_neg h40
    clear h40
    go_enter Try.func86, Try.ntmps86
    go_wp2_with fail
    go_ret
    exact ⟨ret_bool HS.out.symm, below_box hb0⟩

theorem rfew_any (n : Int) (es : List Edg) (oe : Option Addr) (c : Nat) (F : Foot) (w : World) (hs : SliceR edgR 3 F w oe es) (hc : es.length ≤ c) (hc2 : es.length ≤ 9223372036854775807) :
    Calls Try.prog 70 #[.agg #[.int .i64 n, .slice oe es.length c]] w fun e w' => e = .returned (.bool (smB n es 6 9)) ∧ Below w.heap.size w w' := by
  have hb0 := box_refl w (.cells #[.int .i64 n, .slice oe es.length c] 24)
  have HK := hide (small_any n es oe c F _ (hs.below edgR_ok (below_box hb0)) hc hc2 6 9)
  go_enter Try.func70, Try.ntmps70
  go_wp2_with fail
  refine HK.out.mono ?_
  rintro e w2 ⟨rfl, hb2⟩
  go_wp2_with fail
  go_ret
  exact ⟨rfl, below_box (hb2.mono (B' := w.heap.size + 1) (by simp))⟩

/-- No list is longer than 40. -/
def longB : List (List Int) → Bool
  | [] => true
  | l :: r => if l.length ≤ 40 then longB r else false
def few44 (n : Int) (es : List Edg) (ar : List (List Int)) : Bool := if smB n es 6 9 = true then (if ar.length ≤ 20 then longB ar else false) else false
def few45 (n : Int) (es : List Edg) (ar : List (List Int)) (rot : List Int) : Bool := if few44 n es ar = true then decide (rot.length ≤ 30) else false

set_option maxRecDepth 100000 in
set_option maxHeartbeats 2000000 in
theorem few44_any (n : Int) (es : List Edg) (oe : Option Addr) (c : Nat) (ar : List (List Int)) (oa : Option Addr) (ca : Nat) (F G : Foot) (w : World) (hs : SliceR edgR 3 F w oe es) (hc : es.length ≤ c) (hc2 : es.length ≤ 9223372036854775807)
    (ha : SliceR (slcR intR 1) 1 G w oa ar) (hac : ar.length ≤ ca) (hac2 : ar.length ≤ 9223372036854775807) :
    Calls Try.prog 40 #[.agg #[.int .i64 n, .slice oe es.length c, .slice oa ar.length ca]] w fun e w' => e = .returned (.bool (few44 n es ar)) ∧ Below w.heap.size w w' := by
  have hb0 := box_refl w (.cells #[.int .i64 n, .slice oe es.length c, .slice oa ar.length ca] 27)
  have HK := hide (rfew_any n es oe c F _ (hs.below edgR_ok (below_box hb0)) hc hc2)
  go_enter Try.func40, Try.ntmps40
  go_wp2_with fail
  refine HK.out.mono ?_
  rintro e w2 ⟨rfl, hb2⟩
  have hx2 := hb2.mono (B' := w.heap.size + 1) (by simp)
  have d2 := box_cell hx2 2
  simp at d2
  have HX := hide hx2
  clear hb0 hb2 hx2
  by_cases hS : smB n es 6 9 = true
  · have HF : Hid (few44 n es ar = if ar.length ≤ 20 then longB ar else false) := if_pos hS
    rw [hS]
    clear hS
    by_cases h20 : ar.length ≤ 20
    · have HF2 : Hid (few44 n es ar = longB ar) := by show _ = _; rw [HF.out, if_pos h20]
      have q1 : decide ((20 : Int) < (ar.length : Int)) = false := by simp; omega
      go_wp2_with fail
      go_loopw [3] (fun iv wr => ∃ k : Nat, k ≤ ar.length ∧ iv = .int .i64 k ∧ Hid (few44 n es ar = longB (ar.drop k)) ∧ wr = w2) (fun iv _ => ar.length - (intOf iv).toNat)
      case atStart => exact ⟨0, by omega, rfl, HF2, rfl⟩
      case round =>
        obtain ⟨k, hk, rfl, HS, rfl⟩ := hrel
        by_cases hlt : k < ar.length
        · obtain ⟨l, hd, _, b, off, ol, cl, hoa, _, c0, hll, _, _⟩ := (ha.below (slcR_ok intR_ok (by decide)) (below_box HX.out)).slc_at hlt
          subst hoa
          have HS2 : Hid (few44 n es ar = if l.length ≤ 40 then longB (ar.drop (k + 1)) else false) := by show _ = _; rw [HS.out, hd]; rfl
          clear hd
          by_cases hl : l.length ≤ 40
          · have q2 : decide ((40 : Int) < (l.length : Int)) = false := by simp; omega
            have HS3 : Hid (few44 n es ar = longB (ar.drop (k + 1))) := by show _ = _; rw [HS2.out, if_pos hl]
            clear hl
            go_wp2_with fail
            go_roundw
            case rel => exact ⟨k + 1, by omega, by go_num, HS3, by first | rfl | trivial⟩
            case measure => simp [intOf]; omega
          · have q2 : decide ((40 : Int) < (l.length : Int)) = true := by simp; omega
            have HS3 : Hid (few44 n es ar = false) := by show _ = _; rw [HS2.out, if_neg hl]
            clear hl
            go_wp2_with fail
            go_ret
            exact ⟨ret_bool HS3.out.symm, below_box HX.out⟩
        · have hke : k = ar.length := by omega
          have HS3 : Hid (few44 n es ar = true) := by show _ = _; rw [HS.out, hke, List.drop_length]; rfl
          clear hke
          go_wp2_with fail
          go_ret
          exact ⟨ret_bool HS3.out.symm, below_box HX.out⟩
    · have HF2 : Hid (few44 n es ar = false) := by show _ = _; rw [HF.out, if_neg h20]
      have q1 : decide ((20 : Int) < (ar.length : Int)) = true := by simp; omega
      clear h20
      go_wp2_with fail
      go_ret
      exact ⟨ret_bool HF2.out.symm, below_box HX.out⟩
  · have HF : Hid (few44 n es ar = false) := if_neg hS
    have q1 : smB n es 6 9 = false := by simpa using hS
    rw [q1]
    clear hS q1
    go_wp2_with fail
    go_ret
    exact ⟨ret_bool HF.out.symm, below_box HX.out⟩

set_option maxHeartbeats 1000000 in
theorem few45_any (n : Int) (es : List Edg) (oe : Option Addr) (c : Nat) (ar : List (List Int)) (oa : Option Addr) (ca : Nat) (F G : Foot) (w : World) (hs : SliceR edgR 3 F w oe es) (hc : es.length ≤ c) (hc2 : es.length ≤ 9223372036854775807)
    (ha : SliceR (slcR intR 1) 1 G w oa ar) (hac : ar.length ≤ ca) (hac2 : ar.length ≤ 9223372036854775807) (rot : List Int) (ot : Option Addr) (ct : Nat) :
    Calls Try.prog 11 #[.agg #[.int .i64 n, .slice oe es.length c, .slice oa ar.length ca], .slice ot rot.length ct] w fun e w' => e = .returned (.bool (few45 n es ar rot)) ∧ Below w.heap.size w w' := by
  have hb0 := box_refl w (.cells #[.int .i64 n, .slice oe es.length c, .slice oa ar.length ca] 27)
  have HK := hide (few44_any n es oe c ar oa ca F G _ (hs.below edgR_ok (below_box hb0)) hc hc2 (ha.below (slcR_ok intR_ok (by decide)) (below_box hb0)) hac hac2)
  by_cases hF : few44 n es ar = true
  · have HF : Hid (few45 n es ar rot = decide (rot.length ≤ 30)) := if_pos hF
    rw [hF] at HK
    clear hF
    by_cases h30 : rot.length ≤ 30
    · have q1 : decide ((rot.length : Int) ≤ 30) = true := by simp; omega
      have HF2 : Hid (few45 n es ar rot = true) := by show _ = _; rw [HF.out]; exact decide_eq_true h30
      clear h30
      go_enter Try.func11, Try.ntmps11
      go_wp2_with fail
      refine HK.out.mono ?_
      rintro e w2 ⟨rfl, hb2⟩
      go_wp2_with fail
      go_ret
      exact ⟨ret_bool HF2.out.symm, below_box (hb2.mono (B' := w.heap.size + 1) (by simp))⟩
    · have q1 : decide ((rot.length : Int) ≤ 30) = false := by simp; omega
      have HF2 : Hid (few45 n es ar rot = false) := by show _ = _; rw [HF.out]; exact decide_eq_false h30
      clear h30
      go_enter Try.func11, Try.ntmps11
      go_wp2_with fail
      refine HK.out.mono ?_
      rintro e w2 ⟨rfl, hb2⟩
      go_wp2_with fail
      go_ret
      exact ⟨ret_bool HF2.out.symm, below_box (hb2.mono (B' := w.heap.size + 1) (by simp))⟩
  · have HF : Hid (few45 n es ar rot = false) := if_neg hF
    have q1 : few44 n es ar = false := by simpa using hF
    rw [q1] at HK
    clear hF q1
    go_enter Try.func11, Try.ntmps11
    go_wp2_with fail
    refine HK.out.mono ?_
    rintro e w2 ⟨rfl, hb2⟩
    go_wp2_with fail
    go_ret
    exact ⟨ret_bool HF.out.symm, below_box (hb2.mono (B' := w.heap.size + 1) (by simp))⟩
theorem few45_yes {n : Int} {es : List Edg} {ar : List (List Int)} {rot : List Int} (h : few45 n es ar rot = true) : es.length ≤ 40 ∧ ar.length ≤ 20 ∧ rot.length ≤ 30 := by
  unfold few45 at h
  split at h
  · rename_i h1
    unfold few44 at h1
    split at h1
    · rename_i h2
      unfold smB at h2
      split at h2
      · rename_i h3
        split at h1
        · rename_i h4; exact ⟨h3, h4, by simpa using h⟩
        · cases h1
      · cases h2
    · cases h1
  · cases h

end Go.Proofs.Ytopldbnlehjlpaa

set_option linter.unusedVariables false
set_option linter.unusedSimpArgs false
namespace Go.Proofs.Ytopldbnlehjlpaa
open Go.RowKit

def forest (es : List Edg) : List Nat := (eL es).foldl (fun f x => joinF f x.1 x.2) (List.range 12)
theorem forest_go : ∀ (l m : List (Nat × Nat)) (f : List Nat), Uf f m → (∀ x ∈ m, x.1 < 12 ∧ x.2 < 12) → (∀ x ∈ l, x.1 < 12 ∧ x.2 < 12) → Uf (l.foldl (fun f x => joinF f x.1 x.2) f) (m ++ l)
  | [], m, f, h, _, _ => by simpa using h
  | x :: l, m, f, h, hm, hl => by
    obtain ⟨h1, h2⟩ := hl x (List.mem_cons_self ..)
    have := forest_go l (m ++ [x]) (joinF f x.1 x.2) (h.join h1 h2 hm) (fun y hy => by
      rcases List.mem_append.1 hy with h3 | h3
      · exact hm y h3
      · simp at h3; subst h3; exact ⟨h1, h2⟩) (fun y hy => hl y (List.mem_cons_of_mem _ hy))
    rw [List.append_assoc] at this
    exact this
theorem forest_ok (n : Int) (es : List Edg) : gErr n es = 0 → Uf (forest es) (eL es) := fun h => by
  have := forest_go (eL es) [] (List.range 12) Uf.begin (by simp) (fun x hx => ?_)
  · unfold forest; simpa using this
  · have h1 := eL_lt h es.length x
    rw [List.take_length] at h1
    exact h1 hx

end Go.Proofs.Ytopldbnlehjlpaa

set_option linter.unusedVariables false
set_option linter.unusedSimpArgs false
namespace Go.Proofs.Ytopldbnlehjlpaa
open Go.RowKit

/-- How a round may be left. -/
def jointPost (Jy : World → Prop) (Jx : Code → World → Prop) (W : World) : Exit → Act → World → Prop
  | .normal, _, W' => KeepsOthers W W' ∧ Jy W'
  | .ret, _, W' => KeepsOthers W W' ∧ Jx .ret W'
  | .exit id, _, W' => KeepsOthers W W' ∧ Jx (.exit id) W'
  | .goto t, _, W' => KeepsOthers W W' ∧ Jx (.goto t) W'
  | .panic _, _, _ => False
  | .outgrown, _, _ => False

/-- The iterator's word: J i before the i-th yield, Jy i behind it, Jd at the end. -/
def SeqJoint (F : Fence) (n : Nat) (P : Program) (g : Nat) (lb : Array Value) (encs : Nat → Array Value) (J Jy : Nat → World → Prop) (Jd : World → Prop) : Prop :=
  ∀ (l : Nat) (R X : World → Prop) (W : World), (∀ A B, R A → KeepsOthers A B → R B) →
    (∀ i W1, J i W1 → R W1 → YieldAt F (n - 1) P l (encs i) W1 fun e W' => (e = .returned (.bool true) ∧ Jy i W' ∧ R W') ∨ (e = .returned (.bool false) ∧ X W')) →
    J 0 W → R W → CallsIn F n P g (#[.func (.yield l) #[] #[]] ++ lb) W fun e W' => (∃ v, e = .returned v) ∧ ((Jd W' ∧ R W') ∨ X W')

theorem wpIn_rangeFunc_joint {F : Fence} {n : Nat} {P : Program} {g : Operand} {ps : Array Tmp} {assign body : Code} {Q : Exit → Act → World → Prop} {a : Act} {w : World}
    (hro : F.round = none) (h1 : 1 ≤ n) {gf : Nat} {lb : Array Value} (hg : a.eval g = .func (.func gf) #[] lb) (hFg : F.fn gf) (eg : ∀ args w, (callFunc gf args).run P w = .ok (.enter gf args) w)
    (encs : Nat → Array Value) (hps : ∀ i, (encs i).size = ps.size) (J Jy : Nat → World → Prop) (Jx : Code → World → Prop) (Jd : World → Prop) (hseq : SeqJoint F (n - 1) P gf lb encs J Jy Jd)
    (hJ : OwnFrom w.heap.size J) (hJy : OwnFrom w.heap.size Jy) (hJx : OwnFrom w.heap.size Jx) (hJd : OwnFrom w.heap.size (fun _ : Unit => Jd)) (h0 : J 0 w) (a₁ : Nat → Act)
    (hassign : ∀ (l : Nat) (i : Nat) (W : World) (K : Act → World → Prop), K (a₁ i) W →
      assign.wpIn (F.inRound l) (n - 1 - 1) P (Exit.then K (fun _ _ _ => False)) { tmps := (ps.zip (encs i)).foldl (fun t (p, v) => t.setIfInBounds p v) a.tmps, defers := [] } W)
    (hbody : ∀ (l : Nat) (i : Nat) (W : World), J i W → body.wpIn (F.inRound l) (n - 1 - 1) P (jointPost (Jy i) Jx W) (a₁ i) W)
    (hdone : ∀ (D : Nat) (W : World), w.heap.size ≤ D → Jd W → W.heap[D]? = some (.deferred (some [])) → Q .normal { a with defers := { target := .collected D, args := #[] } :: a.defers } W)
    (hstop : ∀ (D : Nat) (c : Code) (W : World), w.heap.size ≤ D → Jx c W → W.heap[D]? = some (.deferred (some [])) → c.wpIn F n P Q { a with defers := { target := .collected D, args := #[] } :: a.defers } W) :
    (Code.rangeFunc g ps assign body).wpIn F n P Q a w := by
  refine wpIn_rangeFunc ?_
  intro fn hfn
  rw [hro]
  obtain ⟨rec, hrec⟩ : ∃ rec : LoopState → Option Code → Loop, rec = fun st pe => { state := st, pending := pe, fn, tmps := a.tmps, params := ps, assign, body, defers := w.heap.size } := ⟨_, rfl⟩
  obtain ⟨W1, hW1⟩ : ∃ W1, (w.alloc (.deferred (some []))).alloc (.loop (rec .ready none)) = W1 := ⟨_, rfl⟩
  have hL1 : W1.heap[w.heap.size + 1]? = some (.loop (rec .ready none)) := by
    rw [← hW1]; have := World.alloc_heap_new (w.alloc (.deferred (some []))) (.loop (rec .ready none)); rwa [World.size_alloc] at this
  have hK1 : W1.heap[w.heap.size]? = some (.deferred (some [])) := by
    rw [← hW1]; exact (Below.heap_alloc _ _ _ (by simp)).trans (World.alloc_heap_new w _)
  have hI1 : J 0 W1 := by rw [← hW1]; exact hJ.alloc _ (hJ.alloc _ h0)
  refine ⟨w.heap.size + 1, [{ target := .collected w.heap.size, args := #[] }], W1, { target := .fn (.func gf) lb, args := #[.func (.yield (w.heap.size + 1)) #[] #[]] }, W1, gf,
    #[.func (.yield (w.heap.size + 1)) #[] #[]] ++ lb, W1, ?_, ?_, ?_, ?_, fun _ => h1, ?_⟩
  · rw [← hW1, hrec]; exact run_enterLoop_outer _ _ _ _ _
  · simp only [resolve, hg]
    simp [go_sem]
  · intro f' hf'; simp [Target.leads] at hf'; subst hf'; exact hFg
  · simp [invoke, go_sem, eg]
  · refine (hseq (w.heap.size + 1)
      (fun W => W.heap[w.heap.size + 1]? = some (.loop (rec .ready none)) ∧ W.heap[w.heap.size]? = some (.deferred (some [])))
      (fun W => ∃ c, Jx c W ∧ W.heap[w.heap.size + 1]? = some (.loop (rec .done (some c))) ∧ W.heap[w.heap.size]? = some (.deferred (some [])))
      W1 (fun A B hR hk => ⟨hk.same _ _ hR.1 rfl, hk.same _ _ hR.2 rfl⟩) ?_ hI1 ⟨hL1, hK1⟩).mono ?_
    · -- one round
      rintro i W hi ⟨hl, hk⟩
      have hlt : w.heap.size + 1 < W.heap.size := (Array.getElem?_eq_some_iff.1 hl).1
      have hy := run_yield (P := P) (args := encs i) hl (by rw [hrec]; exact hps i)
      rw [hrec] at hy
      refine ⟨fn, _, assign, body, hy, roundIn_of_wpIn hfn (hassign _ i W _ ⟨_, run_beginRound hl (by rw [hrec]), ?_⟩)⟩
      have hl2 : (W.putObj (w.heap.size + 1) (.loop { rec .ready none with state := .busy })).heap[w.heap.size + 1]? = some (.loop { rec .ready none with state := .busy }) := World.putObj_heap_same hlt
      have hk2 : (W.putObj (w.heap.size + 1) (.loop { rec .ready none with state := .busy })).heap[w.heap.size]? = some (.deferred (some [])) := (World.putObj_heap_other (by omega)).trans hk
      refine wpIn_mono (hbody _ i _ (hJ.putObj _ hi (by omega) hl rfl)) ?_
      have fin : ∀ (jump : Option Code) (W3 : World), KeepsOthers (W.putObj (w.heap.size + 1) (.loop { rec .ready none with state := .busy })) W3 →
          (Instr.endRound (w.heap.size + 1) jump).run P W3 = .ok (.bool jump.isNone) (W3.putObj (w.heap.size + 1) (.loop (rec (if jump.isNone then .ready else .done) jump))) ∧
          W3.heap[w.heap.size + 1]? = some (.loop { rec .ready none with state := .busy }) ∧
          (W3.putObj (w.heap.size + 1) (.loop (rec (if jump.isNone then .ready else .done) jump))).heap[w.heap.size + 1]? = some (.loop (rec (if jump.isNone then .ready else .done) jump)) ∧
          (W3.putObj (w.heap.size + 1) (.loop (rec (if jump.isNone then .ready else .done) jump))).heap[w.heap.size]? = some (.deferred (some [])) := fun jump W3 hk3 => by
        have hl3 := hk3.same _ _ hl2 rfl
        have := run_endRound (P := P) jump hl3
        rw [hrec] at this ⊢
        exact ⟨this, by rw [hrec] at hl3; exact hl3, World.putObj_heap_same (Array.getElem?_eq_some_iff.1 hl3).1, (World.putObj_heap_other (by omega)).trans (hk3.same _ _ hk2 rfl)⟩
      rintro e a3 W3 hp
      cases e with
      | normal =>
        obtain ⟨hk3, hi3⟩ := hp
        obtain ⟨hr, hl3, hl4, hk4⟩ := fin none W3 hk3
        exact ⟨_, _, hr, .inl ⟨rfl, hJy.putObj _ hi3 (by omega) hl3 rfl, hl4, hk4⟩⟩
      | ret =>
        obtain ⟨hk3, hi3⟩ := hp
        obtain ⟨hr, hl3, hl4, hk4⟩ := fin (some .ret) W3 hk3
        exact ⟨_, _, hr, .inr ⟨rfl, .ret, hJx.putObj _ hi3 (by omega) hl3 rfl, hl4, hk4⟩⟩
      | exit id =>
        obtain ⟨hk3, hi3⟩ := hp
        obtain ⟨hr, hl3, hl4, hk4⟩ := fin (some (.exit id)) W3 hk3
        exact ⟨_, _, hr, .inr ⟨rfl, .exit id, hJx.putObj _ hi3 (by omega) hl3 rfl, hl4, hk4⟩⟩
      | goto t =>
        obtain ⟨hk3, hi3⟩ := hp
        obtain ⟨hr, hl3, hl4, hk4⟩ := fin (some (.goto t)) W3 hk3
        exact ⟨_, _, hr, .inr ⟨rfl, .goto t, hJx.putObj _ hi3 (by omega) hl3 rfl, hl4, hk4⟩⟩
      | panic ch => exact hp.elim
      | outgrown => exact hp.elim
    · -- behind the iterator
      rintro e W2 ⟨⟨v, rfl⟩, (⟨hi, hl, hk⟩ | ⟨c, hi, hl, hk⟩)⟩
      · exact ⟨none, _, by have := run_endLoop (P := P) hl (by rw [hrec]; simp); rw [hrec] at this; exact this, hdone _ _ (Nat.le_refl _) (hJd.putObj (s := ()) _ hi (by omega) hl rfl) ((World.putObj_heap_other (by omega)).trans hk)⟩
      · exact ⟨some c, _, by have := run_endLoop (P := P) hl (by rw [hrec]; simp); rw [hrec] at this; exact this, hstop _ c _ (Nat.le_refl _) (hJx.putObj _ hi (by omega) hl rfl) ((World.putObj_heap_other (by omega)).trans hk)⟩

end Go.Proofs.Ytopldbnlehjlpaa

set_option linter.unusedVariables false
set_option linter.unusedSimpArgs false
namespace Go.Proofs.Ytopldbnlehjlpaa
open Go.RowKit Go.Shelf

attribute [local go_sem] Oper.semAt_some

/-- A measure for a relation with a hidden number. -/
theorem greatest (p : Nat → Prop) : ∀ (M i : Nat), i ≤ M → p i → ∃ j, j ≤ M ∧ p j ∧ ∀ k, k ≤ M → p k → k ≤ j
  | 0, i, hi, h => ⟨i, hi, h, fun k hk _ => by omega⟩
  | M + 1, i, hi, h => by
    by_cases hM : p (M + 1)
    · exact ⟨M + 1, Nat.le_refl _, hM, fun k hk _ => hk⟩
    · have hne : i ≠ M + 1 := fun e => hM (e ▸ h)
      obtain ⟨j, h1, h2, h3⟩ := greatest p M i (by omega) h
      refine ⟨j, by omega, h2, fun k hk hp => h3 k ?_ hp⟩
      have : k ≠ M + 1 := fun e => hM (e ▸ hp)
      omega
theorem ghost (P : Nat → World → Prop) (M : Nat) : ∃ mu : World → Nat, ∀ W i, i ≤ M → P i W → ∃ j, j ≤ M ∧ P j W ∧ mu W = M - j ∧ ∀ k, k ≤ M → P k W → k ≤ j := by
  have : ∀ W, ∃ m, ∀ i, i ≤ M → P i W → ∃ j, j ≤ M ∧ P j W ∧ m = M - j ∧ ∀ k, k ≤ M → P k W → k ≤ j := fun W => by
    by_cases h : ∃ i, i ≤ M ∧ P i W
    · obtain ⟨i, hi, hp⟩ := h
      obtain ⟨j, h1, h2, h3⟩ := greatest (fun k => P k W) M i hi hp
      exact ⟨M - j, fun _ _ _ => ⟨j, h1, h2, rfl, h3⟩⟩
    · exact ⟨0, fun i hi hp => absurd ⟨i, hi, hp⟩ h⟩
  exact ⟨fun W => (this W).choose, fun W => (this W).choose_spec⟩

/-- The boxes of a way: where the chip is, the sink, the step. -/
structure WayBox (W : World) (h : Nat) (v q : Nat) (fv : Value) : Prop where
  bv : Boxed W h 3 (.int .i64 v)
  bq : Boxed W (h + 1) 3 (.int .i64 q)
  bs : Boxed W (h + 2) 83 fv
theorem boxed_same {W W' : World} {B : Nat} {t : TypeId} {v : Value} (h : Boxed W B t v) (e : W'.heap[B]? = W.heap[B]?) : Boxed W' B t v := e.trans h
theorem WayBox.keep {W W' : World} {h v q : Nat} {fv : Value} (hb : WayBox W h v q fv) (hk : ∀ k, h ≤ k → k ≤ h + 2 → k < W.heap.size → W'.heap[k]? = W.heap[k]?) : WayBox W' h v q fv :=
  ⟨boxed_same hb.bv (hk _ (by omega) (by omega) hb.bv.lt), boxed_same hb.bq (hk _ (by omega) (by omega) hb.bq.lt), boxed_same hb.bs (hk _ (by omega) (by omega) hb.bs.lt)⟩
theorem WayBox.put {W : World} {h v q : Nat} {fv : Value} (hb : WayBox W h v q fv) (u : Nat) : WayBox (W.setCell ⟨h, 0, none⟩ (.int .i64 u)) h u q fv :=
  ⟨hb.bv.set _, hb.bq.other (by omega) _, hb.bs.other (by omega) _⟩
theorem WayBox.own {β : Type} {h q : Nat} {fv : Value} (v : β → Nat) : Own (fun (s : β) W => WayBox W h (v s) q fv) := fun s X Y row hs hg hr =>
  ⟨boxed_own h _ (fun s : β => Value.int .i64 (v s : Nat)) s X Y row hs.bv hg hr, boxed_own (h + 1) _ (fun _ : Unit => _) () X Y row hs.bq hg hr, boxed_own (h + 2) _ (fun _ : Unit => _) () X Y row hs.bs hg hr⟩
theorem ownFrom_const {β : Type} {B : Nat} (P : β → Prop) : OwnFrom B (fun (s : β) (_ : World) => P s) := fun _ _ _ _ h _ _ => h
theorem ownFrom_ex {β : Type} {B : Nat} {I : β → World → Prop} (h : OwnFrom B I) : OwnFrom B (fun (_ : Unit) W => ∃ s, I s W) := fun _ X Y row ⟨s, hs⟩ hg hr => ⟨s, h s X Y row hs hg hr⟩
theorem Boxed.putO {W : World} {B D : Nat} {t : TypeId} {v : Value} (h : Boxed W B t v) (hne : B ≠ D) (o : Obj) : Boxed (W.putObj D o) B t v := (World.putObj_heap_other hne).trans h
theorem ownsRow_slice {W : World} {base : Nat} {e : TypeId} {size k : Nat} {v : Value} {xs : List Value} (h : W.ownsRow base e size v k xs) : ∃ a c, v = .slice a k c := by
  rcases h.2 with ⟨rfl, rfl⟩ | ⟨g, cap, cur, rfl, _⟩
  · exact ⟨_, _, rfl⟩
  · exact ⟨_, _, rfl⟩

set_option maxRecDepth 100000 in
set_option maxHeartbeats 2000000 in
theorem way1_turns (F : Fence) (n : Nat) (h72 : F.fn 72) (h43 : F.fn 43) (hro : F.round = none) (hn : 1 ≤ n) (h p : Nat) (v : Nat → Nat) (q M : Nat) (A Ay : Nat → World → Prop)
    (hM : ∀ i W, Ay i W → i < M)
    (hstep : ∀ i W, Ay i W → v i ≠ q → CallsIn F (n - 1) Try.prog 43 #[.pointer (some ⟨p, 0, none⟩), .int .i64 (v i : Nat)] W fun e W' => e = .returned (.int .i64 (v (i + 1) : Nat)) ∧ A (i + 1) W' ∧ KeepsOthers W W' ∧ ∀ k, h ≤ k → k ≤ h + 2 → k < W.heap.size → W'.heap[k]? = W.heap[k]?)
    (hput : ∀ i W x, A i W → A i (W.setCell ⟨h, 0, none⟩ x)) :
    SeqJoint F n Try.prog 72 #[.pointer (some ⟨h, 0, none⟩), .pointer (some ⟨h + 1, 0, none⟩), .pointer (some ⟨h + 2, 0, none⟩)] (fun i => #[.int .i64 (v i : Nat)])
      (fun i W => WayBox W h (v i) q (.func (.func 43) #[.pointer (some ⟨p, 0, none⟩)] #[]) ∧ A i W) (fun i W => WayBox W h (v i) q (.func (.func 43) #[.pointer (some ⟨p, 0, none⟩)] #[]) ∧ Ay i W) (fun W => ∃ i, v i = q ∧ Ay i W) := by
  intro l R X W hRK hY h0 hR
  have HY := hide hY
  have HR := hide hRK
  have HS := hide hstep
  have HP := hide hput
  have HM := hide hM
  clear hY hRK hstep hput hM
  obtain ⟨P, hP⟩ : ∃ P : Nat → World → Prop, P = fun i wr => (WayBox wr h (v i) q (.func (.func 43) #[.pointer (some ⟨p, 0, none⟩)] #[]) ∧ A i wr) ∧ R wr := ⟨_, rfl⟩
  have HPP := hide hP
  obtain ⟨mu, hmu⟩ := ghost P M
  have HMU := hide hmu
  have h00 : P 0 W := by rw [hP]; exact ⟨h0, hR⟩
  clear hP hmu h0 hR
  refine callsIn_of_wp Try.func72 rfl h72 ?_ hro
  simp only [Try.ntmps72, List.size_toArray, List.length_cons, List.length_nil, Nat.reduceAdd, Nat.reduceSub, Array.replicate_succ, Array.replicate_zero, List.push_toArray, List.append_toArray, List.nil_append, List.cons_append]
  gi_wp2
  gi_loopw [] (fun wr => ∃ i, i ≤ M ∧ P i wr) (fun wr => mu wr)
  case atStart => exact ⟨0, Nat.zero_le _, h00⟩
  case round =>
    clear h00
    obtain ⟨i0, hi0, hP0⟩ := hrel
    obtain ⟨i, hi, hPi, hmi, hmax⟩ := HMU.out wr i0 hi0 hP0
    rw [HPP.out] at hPi
    obtain ⟨⟨hb, hA⟩, hR⟩ := hPi
    have c1 := hb.bv.cell
    have c2 := hb.bq.cell
    have c3 := hb.bs.cell
    obtain ⟨fn, tmps, assign, body, hy, hRd⟩ := HY.out i wr ⟨hb, hA⟩ hR
    clear hb hA hR hP0
    gi_wp2
    refine hRd.mono ?_
    rintro e' W3 (⟨rfl, ⟨hb3, hAy⟩, hR3⟩ | ⟨rfl, hX⟩)
    · clear c1 c2 c3 hy hRd
      have c1 := hb3.bv.cell
      have c2 := hb3.bq.cell
      have c3 := hb3.bs.cell
      have hiM := HM.out i W3 hAy
      by_cases hq : v i = q
      · have q1 : ((v i : Int) != (q : Int)) = false := by simp [hq]
        have HE : Hid ((∃ i, v i = q ∧ Ay i W3) ∧ R W3) := ⟨⟨i, hq, hAy⟩, hR3⟩
        clear hq hAy hR3
        gi_wp2
        go_end0
        exact ⟨⟨_, rfl⟩, .inl HE.out⟩
      · have q1 : ((v i : Int) != (q : Int)) = true := by simp; omega
        have hS := HS.out i W3 hAy hq
        replace hq := hide hq
        clear hAy
        gi_wp2
        refine hS.mono ?_
        rintro e4 W4 ⟨rfl, hA4, hK4, hk4⟩
        have hb4 := hb3.keep hk4
        have c4 := hb4.bv.cell
        have f4 := hb4.bv.frozen
        have hR4 := HR.out _ _ hR3 hK4
        have HF : Hid (P (i + 1) (W4.setCell ⟨h, 0, none⟩ (.int .i64 (v (i + 1) : Nat)))) := by
          show P _ _
          rw [HPP.out]
          exact ⟨⟨hb4.put _, HP.out _ _ _ hA4⟩, HR.out _ _ hR4 (KeepsOthers.setCell _ _ _)⟩
        clear hS hA4 hK4 hk4 hb3 hR3 hb4 hR4
        gi_wp2
        go_roundw
        case rel => exact ⟨i + 1, by omega, HF.out⟩
        case measure =>
          obtain ⟨j, hj, _, hmj, hmj2⟩ := HMU.out _ (i + 1) (by omega) HF.out
          have := hmj2 (i + 1) (by omega) HF.out
          omega
    · gi_wp2
      go_end0
      exact ⟨⟨_, rfl⟩, .inr hX⟩

set_option maxRecDepth 100000 in
set_option maxHeartbeats 2000000 in
theorem way1_looks (F : Fence) (n : Nat) (h72 : F.fn 72) (h43 : F.fn 51) (hro : F.round = none) (hn : 1 ≤ n) (h p : Nat) (v : Nat → Nat) (q M : Nat) (A Ay : Nat → World → Prop)
    (hM : ∀ i W, Ay i W → i < M)
    (hstep : ∀ i W, Ay i W → v i ≠ q → CallsIn F (n - 1) Try.prog 51 #[.int .i64 (v i : Nat), .pointer (some ⟨p, 0, none⟩)] W fun e W' => e = .returned (.int .i64 (v (i + 1) : Nat)) ∧ A (i + 1) W' ∧ KeepsOthers W W' ∧ ∀ k, h ≤ k → k ≤ h + 2 → k < W.heap.size → W'.heap[k]? = W.heap[k]?)
    (hput : ∀ i W x, A i W → A i (W.setCell ⟨h, 0, none⟩ x)) :
    SeqJoint F n Try.prog 72 #[.pointer (some ⟨h, 0, none⟩), .pointer (some ⟨h + 1, 0, none⟩), .pointer (some ⟨h + 2, 0, none⟩)] (fun i => #[.int .i64 (v i : Nat)])
      (fun i W => WayBox W h (v i) q (.func (.func 51) #[] #[.pointer (some ⟨p, 0, none⟩)]) ∧ A i W) (fun i W => WayBox W h (v i) q (.func (.func 51) #[] #[.pointer (some ⟨p, 0, none⟩)]) ∧ Ay i W) (fun W => ∃ i, v i = q ∧ Ay i W) := by
  intro l R X W hRK hY h0 hR
  have HY := hide hY
  have HR := hide hRK
  have HS := hide hstep
  have HP := hide hput
  have HM := hide hM
  clear hY hRK hstep hput hM
  obtain ⟨P, hP⟩ : ∃ P : Nat → World → Prop, P = fun i wr => (WayBox wr h (v i) q (.func (.func 51) #[] #[.pointer (some ⟨p, 0, none⟩)]) ∧ A i wr) ∧ R wr := ⟨_, rfl⟩
  have HPP := hide hP
  obtain ⟨mu, hmu⟩ := ghost P M
  have HMU := hide hmu
  have h00 : P 0 W := by rw [hP]; exact ⟨h0, hR⟩
  clear hP hmu h0 hR
  refine callsIn_of_wp Try.func72 rfl h72 ?_ hro
  simp only [Try.ntmps72, List.size_toArray, List.length_cons, List.length_nil, Nat.reduceAdd, Nat.reduceSub, Array.replicate_succ, Array.replicate_zero, List.push_toArray, List.append_toArray, List.nil_append, List.cons_append]
  gi_wp2
  gi_loopw [] (fun wr => ∃ i, i ≤ M ∧ P i wr) (fun wr => mu wr)
  case atStart => exact ⟨0, Nat.zero_le _, h00⟩
  case round =>
    clear h00
    obtain ⟨i0, hi0, hP0⟩ := hrel
    obtain ⟨i, hi, hPi, hmi, hmax⟩ := HMU.out wr i0 hi0 hP0
    rw [HPP.out] at hPi
    obtain ⟨⟨hb, hA⟩, hR⟩ := hPi
    have c1 := hb.bv.cell
    have c2 := hb.bq.cell
    have c3 := hb.bs.cell
    obtain ⟨fn, tmps, assign, body, hy, hRd⟩ := HY.out i wr ⟨hb, hA⟩ hR
    clear hb hA hR hP0
    gi_wp2
    refine hRd.mono ?_
    rintro e' W3 (⟨rfl, ⟨hb3, hAy⟩, hR3⟩ | ⟨rfl, hX⟩)
    · clear c1 c2 c3 hy hRd
      have c1 := hb3.bv.cell
      have c2 := hb3.bq.cell
      have c3 := hb3.bs.cell
      have hiM := HM.out i W3 hAy
      by_cases hq : v i = q
      · have q1 : ((v i : Int) != (q : Int)) = false := by simp [hq]
        have HE : Hid ((∃ i, v i = q ∧ Ay i W3) ∧ R W3) := ⟨⟨i, hq, hAy⟩, hR3⟩
        clear hq hAy hR3
        gi_wp2
        go_end0
        exact ⟨⟨_, rfl⟩, .inl HE.out⟩
      · have q1 : ((v i : Int) != (q : Int)) = true := by simp; omega
        have hS := HS.out i W3 hAy hq
        replace hq := hide hq
        clear hAy
        gi_wp2
        refine hS.mono ?_
        rintro e4 W4 ⟨rfl, hA4, hK4, hk4⟩
        have hb4 := hb3.keep hk4
        have c4 := hb4.bv.cell
        have f4 := hb4.bv.frozen
        have hR4 := HR.out _ _ hR3 hK4
        have HF : Hid (P (i + 1) (W4.setCell ⟨h, 0, none⟩ (.int .i64 (v (i + 1) : Nat)))) := by
          show P _ _
          rw [HPP.out]
          exact ⟨⟨hb4.put _, HP.out _ _ _ hA4⟩, HR.out _ _ hR4 (KeepsOthers.setCell _ _ _)⟩
        clear hS hA4 hK4 hk4 hb3 hR3 hb4 hR4
        gi_wp2
        go_roundw
        case rel => exact ⟨i + 1, by omega, HF.out⟩
        case measure =>
          obtain ⟨j, hj, _, hmj, hmj2⟩ := HMU.out _ (i + 1) (by omega) HF.out
          have := hmj2 (i + 1) (by omega) HF.out
          omega
    · gi_wp2
      go_end0
      exact ⟨⟨_, rfl⟩, .inr hX⟩

/-- way makes its three boxes. -/
theorem way_any (v q : Nat) (g : Fn) (pre cap : Array Value) (w : World) :
    Calls Try.prog 45 #[.int .i64 v, .int .i64 q, .func g pre cap] w fun e w' => e = .returned (.func (.func 72) #[] #[.pointer (some ⟨w.heap.size, 0, none⟩), .pointer (some ⟨w.heap.size + 1, 0, none⟩), .pointer (some ⟨w.heap.size + 2, 0, none⟩)]) ∧
      w' = ((w.alloc (.cells #[.int .i64 v] 3)).alloc (.cells #[.int .i64 q] 3)).alloc (.cells #[.func g pre cap] 83) := by
  go_enter Try.func45, Try.ntmps45
  go_wp2_with fail
  go_ret
  exact ⟨rfl, rfl⟩
theorem way_boxes (v q : Nat) (fv : Value) (w : World) : WayBox (((w.alloc (.cells #[.int .i64 v] 3)).alloc (.cells #[.int .i64 q] 3)).alloc (.cells #[fv] 83)) w.heap.size v q fv := by
  refine ⟨((Boxed.new w _ _).alloc _).alloc _, ?_, ?_⟩
  · have := (Boxed.new (w.alloc (.cells #[.int .i64 v] 3)) 3 (.int .i64 (q : Int))).alloc (.cells #[fv] 83)
    simpa using this
  · have := Boxed.new ((w.alloc (.cells #[.int .i64 v] 3)).alloc (.cells #[.int .i64 q] 3)) 83 fv
    simpa using this

end Go.Proofs.Ytopldbnlehjlpaa

set_option linter.unusedVariables false
set_option linter.unusedSimpArgs false
namespace Go.Proofs.Ytopldbnlehjlpaa
open Go.RowKit

/-- The rotors and the chip behind i steps. -/
def rtN (ar : List (List Int)) (E : List (Int × Int)) (rot : List Int) (v : Nat) : Nat → List Int × Nat
  | 0 => (rot, v)
  | i + 1 => (stpR ar (rtN ar E rot v i).1 (rtN ar E rot v i).2, stpV ar E (rtN ar E rot v i).1 (rtN ar E rot v i).2)
theorem RtOk.along {n : Int} {es : List Edg} {ar : List (List Int)} {q : Nat} {rot : List Int} (h : RtOk n es ar q rot) {v : Nat} (hv : v < ar.length) :
    ∀ i, (∀ j, j < i → (rtN ar (endsL es) rot v j).2 ≠ q) → RtOk n es ar q (rtN ar (endsL es) rot v i).1 ∧ (rtN ar (endsL es) rot v i).2 < ar.length
  | 0, _ => ⟨h, hv⟩
  | i + 1, hp => by
    obtain ⟨h1, h2⟩ := h.along hv i fun j hj => hp j (by omega)
    exact (h1.step h2 (hp i (by omega))).2

/-- The first time at q, before M. -/
def firstAt (v : Nat → Nat) (q M : Nat) : Option Nat := (List.range M).find? (fun i => v i == q)
theorem firstAt_some {v : Nat → Nat} {q M i : Nat} (hi : i < M) (h1 : v i = q) (h2 : ∀ j, j < i → v j ≠ q) : firstAt v q M = some i := by
  unfold firstAt
  rw [List.find?_eq_some_iff_getElem]
  refine ⟨by simp [h1], i, by simpa using hi, by simp, fun j hj => ?_⟩
  simp
  exact h2 j hj
theorem firstAt_none {v : Nat → Nat} {q M : Nat} (h2 : ∀ j, j < M → v j ≠ q) : firstAt v q M = none := by
  unfold firstAt
  rw [List.find?_eq_none]
  intro j hj
  simp at hj ⊢
  exact h2 j hj

/-- The vertices on a way. -/
def wayL (v : Nat → Nat) (k : Nat) : List Int := (List.range k).map fun i => ((v i : Nat) : Int)
theorem wayL_succ (v : Nat → Nat) (k : Nat) : wayL v (k + 1) = wayL v k ++ [((v k : Nat) : Int)] := by simp [wayL, List.range_succ]
theorem wayL_len (v : Nat → Nat) (k : Nat) : (wayL v k).length = k := by simp [wayL]

theorem Brd.owned {β : Type} {B p rg cap : Nat} {tv : Value} {q : Int} {av : Value} {tl : List Int} {rest : List Value} (rot : β → List Int) : Own (fun (s : β) W => Brd B W p rg cap tv q av tl (rot s) rest) := fun s X Y row h hg hr => by
  refine h.keep fun k _ hk hor => ?_
  have hc : ∃ o : Obj, X.heap[k]? = some o ∧ o.isCells = true := by
    rcases hor with rfl | rfl | e
    · exact ⟨_, h.box, rfl⟩
    · exact ⟨_, h.row, rfl⟩
    · obtain ⟨cells, ho, _⟩ := h.tos
      rcases ho.2 with ⟨rfl, _⟩ | ⟨g, c, cur, rfl, _, hg2, _⟩
      · simp [Value.ownBlock] at e
      · simp only [Value.ownBlock, Option.some.injEq] at e
        subst e
        exact ⟨_, hg2, rfl⟩
  obtain ⟨o, ho, hc⟩ := hc
  exact grownBy_keeps_cells hg hr ho hc

/-- out = append(out, ..) where the box lies before the row. -/
theorem Boxed.appendedB {W w1 : World} {n₀ B : Nat} {t e : TypeId} {size : Nat} {v v' : Value} {k m : Nat} {xs ys : List Value} {tmp : Obj}
    (hv : Boxed W B t v) (hte : t ≠ e) (hrow : W.ownsRow n₀ e size v k xs) (hn₀ : n₀ ≤ W.heap.size)
    (hown' : w1.ownsRow n₀ e size v' m ys) (hgrow : (W.alloc tmp).grownBy w1 v.ownBlock) :
    Boxed w1 B t v ∧ Boxed (w1.setCell ⟨B, 0, none⟩ v') B t v' ∧ (w1.setCell ⟨B, 0, none⟩ v').ownsRow n₀ e size v' m ys ∧ KeepsOthers W (w1.setCell ⟨B, 0, none⟩ v') ∧ Below (min n₀ B) W (w1.setCell ⟨B, 0, none⟩ v') ∧
      (∀ j, j < n₀ → j ≠ B → j < W.heap.size → (w1.setCell ⟨B, 0, none⟩ v').heap[j]? = W.heap[j]?) := by
  have hv1 : Boxed w1 B t v := (hv.alloc tmp).kept hgrow (hv.not_row hte hrow)
  have hge : ∀ j, v.ownBlock = some j → n₀ ≤ j := fun j ej => by
    rcases hrow.2 with ⟨rfl, _⟩ | ⟨g, cap, cur, rfl, hb, _, _⟩
    · simp [Value.ownBlock] at ej
    · obtain rfl : g = j := by simpa [Value.ownBlock] using ej
      exact hb
  refine ⟨hv1, hv1.set v', hown'.kept (grownBy_setCell' w1 B v') (.inr (hv1.not_row hte hown').symm), ?_, ?_, ?_⟩
  · refine ((KeepsOthers.alloc W tmp).trans (KeepsOthers.of_grownBy hgrow fun j o ej hj => ?_)).trans (KeepsOthers.setCell _ _ _)
    rcases (hrow.alloc tmp).2 with ⟨rfl, _⟩ | ⟨g, cap, cur, rfl, _, hgb, _⟩
    · simp [Value.ownBlock] at ej
    · obtain rfl : g = j := by simpa [Value.ownBlock] using ej
      rw [hgb] at hj; cases hj; rfl
  · refine (((Below.refl _ W).alloc (by omega) tmp).grown hgrow (by simp; omega) fun j ej => ?_).setCell (p := ⟨B, 0, none⟩) (by simp; omega) v'
    have := hge j ej
    omega
  · intro j hj hjB hjs
    rw [Below.heap_setCell _ _ _ j (by simpa using hjB), hgrow.block j (by simp; omega) (fun e => by have := hge j e.symm; omega)]
    exact Below.heap_alloc W tmp j hjs

theorem ownsRow_up {W : World} {a b : Nat} {e : TypeId} {size : Nat} {v : Value} {k : Nat} {xs : List Value} (h : W.ownsRow a e size v k xs) (hab : b ≤ a) : W.ownsRow b e size v k xs :=
  ⟨h.1, h.2.imp id fun ⟨g, cap, cur, e1, e2, r⟩ => ⟨g, cap, cur, e1, by omega, r⟩⟩
theorem OwnS.ofInts {W : World} {base : Nat} {e : TypeId} {F : Foot} {v : Value} {xs : List Int} (h : W.ownsRow base e 1 v xs.length (xs.map (Value.int .i64))) (hx : ∀ x ∈ xs, I64 x) : OwnS intR 1 base e F W v xs := by
  refine ⟨xs.map (Value.int .i64), h, ?_, ?_⟩
  · intro u hu
    obtain ⟨x, _, rfl⟩ := List.mem_map.1 hu
    rfl
  · intro i x hi
    refine ⟨?_, hx x (List.mem_of_getElem? hi)⟩
    apply List.ext_getElem?
    intro j
    unfold chunk
    match j with
    | 0 =>
      rw [List.getElem?_take_of_lt (by omega), List.getElem?_drop, List.getElem?_map]
      simp [hi]
    | j + 1 => rw [List.getElem?_eq_none (by simp; omega), List.getElem?_eq_none (by simp)]

def ListErr (w : World) (l : List Int) (x : Int) (e : Ending) (w' : World) : Prop := ∃ rv, e = .returned (.tuple #[rv, .int .i64 x]) ∧ OwnS intR 1 w.heap.size 3 Non w' rv l ∧ Below w.heap.size w w'

def chipV (ar : List (List Int)) (E : List (Int × Int)) (rot : List Int) (v : Nat) (i : Nat) : Nat := (rtN ar E rot v i).2
def rotI (ar : List (List Int)) (E : List (Int × Int)) (rot : List Int) (v : Nat) (i : Nat) : List Int := (rtN ar E rot v i).1

/-- Between the yields of a way whose step turns: the board, what is the caller's own (C), and what lay before. -/
structure WA (w1 : World) (p rg cap : Nat) (tv : Value) (q : Int) (av : Value) (tl : List Int) (rest : List Value) (R : Nat → List Int) (C : Nat → World → Prop) (i k : Nat) (W : World) : Prop where
  brd : Brd w1.heap.size W p rg cap tv q av tl (R i) rest
  own : C k W
  low : Below w1.heap.size w1 W
theorem WA.from {β : Type} {w1 : World} {p rg cap : Nat} {tv : Value} {q : Int} {av : Value} {tl : List Int} {rest : List Value} {R : Nat → List Int} {C : Nat → World → Prop} {B : Nat} (hB : w1.heap.size ≤ B) (hC : OwnFrom B C) (i k : β → Nat) :
    OwnFrom B (fun (s : β) W => WA w1 p rg cap tv q av tl rest R C (i s) (k s) W) := fun s X Y row h hg hr =>
  ⟨(Brd.owned (fun s : β => R (i s))).from B s X Y row h.brd hg hr, hC (k s) X Y row h.own hg hr, ownFrom_below (β := Unit) (Nat.le_refl _) hB () X Y row h.low hg hr⟩

section
variable {w1 : World} {p rg cap : Nat} {tv : Value} {q : Int} {av : Value} {tl : List Int} {rest : List Value} {R : Nat → List Int} {C : Nat → World → Prop} {B : Nat} {h q' : Nat} {fv : Value}
theorem turnsJ (hB : w1.heap.size ≤ B) (hC : OwnFrom B C) (V : Nat → Nat) (k : Nat → Nat) (P : Nat → Prop) : OwnFrom B (fun i W => WayBox W h (V i) q' fv ∧ (WA w1 p rg cap tv q av tl rest R C i (k i) W ∧ P i)) :=
  ((WayBox.own V).from B).and ((WA.from hB hC (fun i => i) k).and (ownFrom_const P))
theorem turnsJd (hB : w1.heap.size ≤ B) (hC : OwnFrom B C) (V : Nat → Nat) (k : Nat → Nat) (P : Nat → Prop) : OwnFrom B (fun (_ : Unit) W => ∃ i, V i = q' ∧ (WA w1 p rg cap tv q av tl rest R C i (k i) W ∧ P i)) :=
  ownFrom_ex ((ownFrom_const (fun i => V i = q')).and ((WA.from hB hC (fun i => i) k).and (ownFrom_const P)))
end

set_option maxHeartbeats 1000000 in
theorem turns_seq {n : Int} {es : List Edg} {ar : List (List Int)} {q : Nat} {rot : List Int} (hok : RtOk n es ar q rot) {v : Nat} (hv : v < ar.length) (m : Nat) (hm : 1 ≤ m) (w1 : World) (h p rg cap : Nat) (tv : Value) (oa : Option Addr) (ca : Nat) (rest : List Value)
    (ha : SliceR (slcR intR 1) 1 (Lt w1.heap.size) w1 oa ar) (hh : w1.heap.size ≤ h) (hp : p < h) (hrg : rg < h) (htv : ∀ g, tv.ownBlock = some g → g < h) (M : Nat) (C : Nat → World → Prop)
    (hC1 : ∀ k W W', C k W → W.grownBy W' (some rg) → C k W') (hC2 : ∀ k W x, C k W → C k (W.setCell ⟨h, 0, none⟩ x)) :
    SeqJoint Go.Fence.wide m Try.prog 72 #[.pointer (some ⟨h, 0, none⟩), .pointer (some ⟨h + 1, 0, none⟩), .pointer (some ⟨h + 2, 0, none⟩)] (fun i => #[.int .i64 (chipV ar (endsL es) rot v i : Nat)])
      (fun i W => WayBox W h (chipV ar (endsL es) rot v i) q (.func (.func 43) #[.pointer (some ⟨p, 0, none⟩)] #[]) ∧ (WA w1 p rg cap tv q (.slice oa ar.length ca) (toL (endsL es)) rest (rotI ar (endsL es) rot v) C i i W ∧ Hid (i ≤ M ∧ ∀ j, j < i → chipV ar (endsL es) rot v j ≠ q)))
      (fun i W => WayBox W h (chipV ar (endsL es) rot v i) q (.func (.func 43) #[.pointer (some ⟨p, 0, none⟩)] #[]) ∧ (WA w1 p rg cap tv q (.slice oa ar.length ca) (toL (endsL es)) rest (rotI ar (endsL es) rot v) C i (i + 1) W ∧ Hid (i < M ∧ ∀ j, j < i → chipV ar (endsL es) rot v j ≠ q)))
      (fun W => ∃ i, chipV ar (endsL es) rot v i = q ∧ (WA w1 p rg cap tv q (.slice oa ar.length ca) (toL (endsL es)) rest (rotI ar (endsL es) rot v) C i (i + 1) W ∧ Hid (i < M ∧ ∀ j, j < i → chipV ar (endsL es) rot v j ≠ q))) := by
  refine way1_turns Go.Fence.wide m trivial trivial rfl hm h p (chipV ar (endsL es) rot v) q M _ _ (fun i W hy => hy.2.out.1) ?_ ?_
  · rintro i W ⟨hA, hM⟩ hne
    obtain ⟨hok2, hv2⟩ := hok.along hv i hM.out.2
    refine callsIn_wide.2 ((step_ok hA.brd (ha.below (slcR_ok intR_ok (by decide)) hA.low) hok2 hv2 hne).mono ?_)
    rintro e W' ⟨rfl, hD, hg⟩
    refine ⟨rfl, ⟨⟨hD, hC1 _ _ _ hA.own hg, ?_⟩, ⟨hM.out.1, fun j hj => ?_⟩⟩, ?_, fun k hk1 hk2 hlt => hg.block k hlt (fun e => by injection e with e; omega)⟩
    · exact hA.low.grown hg hA.low.size fun k hk => by injection hk with hk; have := hD.gB; omega
    · by_cases hji : j = i
      · subst hji; exact hne
      · exact hM.out.2 j (by omega)
    · refine KeepsOthers.of_grownBy hg fun j o ej hj => ?_
      injection ej with ej
      subst ej
      rw [hA.brd.row] at hj
      injection hj with hj
      subst hj
      rfl
  · rintro i W x ⟨hA, hM⟩
    refine ⟨⟨?_, hC2 _ _ _ hA.own, hA.low.setCell (p := ⟨h, 0, none⟩) hh x⟩, hM⟩
    refine hA.brd.keep fun k _ hk hor => Below.heap_setCell _ _ _ k ?_
    rcases hor with rfl | rfl | e
    · simp; omega
    · simp; omega
    · have := htv k e
      simp; omega

theorem wayL_i64 {n : Int} {es : List Edg} {ar : List (List Int)} {q : Nat} {rot : List Int} (h : RtOk n es ar q rot) {v : Nat} (hv : v < ar.length) (k : Nat) (hp : ∀ j, j + 1 < k → chipV ar (endsL es) rot v j ≠ q) :
    ∀ x ∈ wayL (chipV ar (endsL es) rot v) k, I64 x := by
  intro x hx
  unfold wayL at hx
  obtain ⟨i, hi, rfl⟩ := List.mem_map.1 hx
  have h1 := (h.along hv i fun j hj => hp j (by simp at hi; omega)).2
  have h2 := h.n12
  unfold chipV I64
  omega

end Go.Proofs.Ytopldbnlehjlpaa

set_option linter.unusedVariables false
set_option linter.unusedSimpArgs false
set_option linter.unnecessarySimpa false
namespace Go.Proofs.Ytopldbnlehjlpaa
open Go.RowKit Go.Shelf

attribute [local go_sem] Oper.semAt_some

def walkOf (ar : List (List Int)) (E : List (Int × Int)) (q : Nat) (rot : List Int) (v : Nat) : List Int × Int :=
  match firstAt (chipV ar E rot v) q 4096 with
  | some i => (wayL (chipV ar E rot v) (i + 1), 0)
  | none => ([], 12)
/-- The vertices on the way of a chip, or the error. -/
def walkRes (n : Int) (es : List Edg) (f : List Nat) (ar : List (List Int)) (q : Int) (rot : List Int) (v : Int) : List Int × Int :=
  if stE n es f ar q rot v = 0 then walkOf ar (endsL es) q.toNat rot v.toNat else ([], stE n es f ar q rot v)

theorem run_cellAddr {P : Program} {tmps : Array Value} {a : Tmp} {w : World} {x : Addr} (ha : tmps.getD a undef = .pointer (some x)) : (asAddr (tmps.getD a undef)).run P w = .ok x w := by
  rw [ha]; simp [asAddr]
theorem run_cellVar {P : Program} {t : TypeId} (h1 : ∀ w, (isAgg t).run P w = .ok false w) {w : World} {x : Addr} {vx : Value} (hx : w.cell? x = some vx) : (loadVar t x).run P w = .ok vx w := by
  simp [loadVar, Sem.run_bind, h1, go_sem, hx]
theorem results_cells2 {fn : Func} {a b : Tmp} {t u : TypeId} (h : fn.results = #[.cell a t, .cell b u]) {P : Program} (h1 : ∀ w, (isAgg t).run P w = .ok false w) (h2 : ∀ w, (isAgg u).run P w = .ok false w) (tmps : Array Value) (w : World) (x y : Addr) (vx vy : Value)
    (ha : tmps.getD a undef = .pointer (some x)) (hb : tmps.getD b undef = .pointer (some y)) (hx : w.cell? x = some vx) (hy : w.cell? y = some vy) : (results fn tmps).run P w = .ok (.tuple #[vx, vy]) w := by
  have : (results fn tmps).run P w = ((asAddr (tmps.getD a undef)).run P w).andThen fun x w1 => ((loadVar t x).run P w1).andThen fun v w2 => ((asAddr (tmps.getD b undef)).run P w2).andThen fun y w3 => ((loadVar u y).run P w3).andThen fun z w4 => .ok (.tuple #[v, z]) w4 := by
    simp only [results, h]
    simp [Sem.run_bind, Result.andThen]
  rw [this]
  simp only [run_cellAddr ha, run_cellAddr hb, run_cellVar h1 hx, run_cellVar h2 hy, Result.andThen_ok]
theorem results_cells3 {fn : Func} {a b c : Tmp} {t u s : TypeId} (h : fn.results = #[.cell a t, .cell b u, .cell c s]) {P : Program} (h1 : ∀ w, (isAgg t).run P w = .ok false w) (h2 : ∀ w, (isAgg u).run P w = .ok false w) (h3 : ∀ w, (isAgg s).run P w = .ok false w) (tmps : Array Value) (w : World) (x y z : Addr) (vx vy vz : Value)
    (ha : tmps.getD a undef = .pointer (some x)) (hb : tmps.getD b undef = .pointer (some y)) (hc : tmps.getD c undef = .pointer (some z)) (hx : w.cell? x = some vx) (hy : w.cell? y = some vy) (hz : w.cell? z = some vz) : (results fn tmps).run P w = .ok (.tuple #[vx, vy, vz]) w := by
  have : (results fn tmps).run P w = ((asAddr (tmps.getD a undef)).run P w).andThen fun x w1 => ((loadVar t x).run P w1).andThen fun v w2 => ((asAddr (tmps.getD b undef)).run P w2).andThen fun y w3 => ((loadVar u y).run P w3).andThen fun z w4 =>
      ((asAddr (tmps.getD c undef)).run P w4).andThen fun y w5 => ((loadVar s y).run P w5).andThen fun z2 w6 => .ok (.tuple #[v, z, z2]) w6 := by
    simp only [results, h]
    simp [Sem.run_bind, Result.andThen]
  rw [this]
  simp only [run_cellAddr ha, run_cellAddr hb, run_cellAddr hc, run_cellVar h1 hx, run_cellVar h2 hy, run_cellVar h3 hz, Result.andThen_ok]
theorem agg_ints : ∀ w, (isAgg 28).run Try.prog w = .ok false w := by intro w; kernel_rfl
theorem agg_errno : ∀ w, (isAgg 33).run Try.prog w = .ok false w := by intro w; kernel_rfl
theorem agg_int : ∀ w, (isAgg 3).run Try.prog w = .ok false w := by intro w; kernel_rfl

/-- The caller's own of Walk: the vertices that have come. -/
def WOut (b n₀ : Nat) (V : Nat → Nat) (k : Nat) (W : World) : Prop := ∃ u, Boxed W b 28 u ∧ W.ownsRow n₀ 3 1 u k ((wayL V k).map (Value.int .i64)) ∧ True
theorem WOut.from (b n₀ B : Nat) (V : Nat → Nat) : OwnFrom B (WOut b n₀ V) := (holdsRow_own n₀ b 28 3 1 (fun k : Nat => k) (fun k => (wayL V k).map (Value.int .i64)) (fun _ _ => True)).from B
theorem ownsRow_other {W W' : World} {n₀ : Nat} {e : TypeId} {size : Nat} {v : Value} {k : Nat} {xs : List Value} (h : W.ownsRow n₀ e size v k xs) {r : Nat} (hr : r < n₀) (hg : W.grownBy W' (some r)) : W'.ownsRow n₀ e size v k xs :=
  h.kept hg (.inr fun e' => by
    rcases h.2 with ⟨rfl, _⟩ | ⟨g, cap, cur, rfl, hb, _, _⟩
    · simp [Value.ownBlock] at e'
    · simp only [Value.ownBlock, Option.some.injEq] at e'
      omega)
theorem WOut.grown {b n₀ : Nat} {V : Nat → Nat} {k r : Nat} {W W' : World} (h : WOut b n₀ V k W) (hg : W.grownBy W' (some r)) (hb : b ≠ r) (hr : r < n₀) : WOut b n₀ V k W' := by
  obtain ⟨u, h1, h2, h3⟩ := h
  exact ⟨u, h1.kept hg (fun e => hb (by injection e)), ownsRow_other h2 hr hg, h3⟩

set_option maxRecDepth 100000 in
set_option maxHeartbeats 4000000 in
theorem walkC_in (n0 : Nat) (hn0 : 4 ≤ n0) (n : Int) (es : List Edg) (oe : Option Addr) (c : Nat) (ar : List (List Int)) (oa : Option Addr) (ca : Nat) (F G : Foot) (w : World) (hs : SliceR edgR 3 F w oe es) (hc : es.length ≤ c) (hc2 : es.length ≤ 1000)
    (ha : SliceR (slcR intR 1) 1 G w oa ar) (hac : ar.length ≤ ca) (hac2 : ar.length ≤ 9223372036854775807) (f : List Nat) (hU : Hid (gErr n es = 0 → Uf f (eL es)))
    (q : Nat) (rot : List Int) (ot : Option Addr) (ct : Nat) (H : Foot) (hr : SliceR intR 1 H w ot rot) (hrc : rot.length ≤ ct) (hrl : rot.length ≤ 9223372036854775807) (v : Nat)
    (hE : Hid (rtE n es f ar q rot = 0)) (hok : RtOk n es ar q rot) (hv : v < ar.length) :
    CallsIn Go.Fence.wide n0 Try.prog 15 #[.agg #[.int .i64 n, .slice oe es.length c, .slice oa ar.length ca], .int .i64 q, .slice ot rot.length ct, .int .i64 v] w
      (ListErr w (walkOf ar (endsL es) q rot v).1 (walkOf ar (endsL es) q rot v).2) := by
  have h1 : 1 ≤ n0 := by omega
  obtain ⟨i0, hi, hz0, hz1, hz2⟩ := info_parts iInfo
  have HI := hide (And.intro hi (And.intro hz0 (And.intro hz1 hz2)))
  have HOK := hide hok
  have hvn : (0 : Int) ≤ (v : Int) ∧ (v : Int) < n := by have := hok.nar; omega
  have cA : ∀ W : World, Below w.heap.size w W → CallsIn Go.Fence.wide (n0 - 1) Try.prog 42 #[.agg #[.int .i64 n, .slice oe es.length c, .slice oa ar.length ca], .int .i64 q, .slice ot rot.length ct, .int .i64 v] W (BoardPost W n es f ar oa ca q rot) := fun W hW =>
    callsIn_wide.2 (at_yes n es oe c ar oa ca F G W (hs.below edgR_ok hW) hc hc2 (ha.below (slcR_ok intR_ok (by decide)) hW) hac hac2 f hU q rot ot ct H (hr.below intR_ok hW) hrc hrl v hE hvn)
  have cW : ∀ (p : Nat) (W : World), CallsIn Go.Fence.wide (n0 - 1) Try.prog 45 #[.int .i64 v, .int .i64 q, .func (.func 43) #[.pointer (some ⟨p, 0, none⟩)] #[]] W _ := fun p W => callsIn_wide.2 (way_any v q _ _ _ W)
  have HA := hide cA
  have HW := hide cW
  have hf1 : Go.Fence.wide.fn 42 := trivial
  have hf2 : Go.Fence.wide.fn 45 := trivial
  have haB : ∀ W : World, Below w.heap.size w W → SliceR (slcR intR 1) 1 (Lt W.heap.size) W oa ar := fun W hW => (ha.below (slcR_ok intR_ok (by decide)) hW).loc (slcR_ok intR_ok (by decide)) (by decide)
  have HAB := hide haB
  clear hi hz0 hz1 hz2 cA cW haB hok hvn
  refine callsIn_of_wp_marks Try.func15 rfl trivial ?_ rfl
  simp only [Try.ntmps15, List.size_toArray, List.length_cons, List.length_nil, Nat.reduceAdd, Nat.reduceSub, Array.replicate_succ, Array.replicate_zero, List.push_toArray, List.append_toArray, List.nil_append, List.cons_append]
  obtain ⟨w1, hw1⟩ : ∃ w1, ((w.alloc (.cells #[.int .i64 n, .slice oe es.length c, .slice oa ar.length ca] 27)).alloc (.cells #[.slice none 0 0] 28)).alloc (.cells #[.int .i64 0] 33) = w1 := ⟨_, rfl⟩
  have hB1 : Below w.heap.size w w1 := by rw [← hw1]; exact bnew (bnew (bnew (Below.refl _ _) _) _) _
  have hsz1 : w1.heap.size = w.heap.size + 3 := by rw [← hw1]; simp
  have bR1 : Boxed w1 (w.heap.size + 1) 28 (.slice none 0 0) := by rw [← hw1]; have := (Boxed.new (w.alloc (.cells #[.int .i64 n, .slice oe es.length c, .slice oa ar.length ca] 27)) 28 (.slice none 0 0)).alloc (.cells #[.int .i64 0] 33); simpa using this
  have bR2 : Boxed w1 (w.heap.size + 2) 33 (.int .i64 0) := by rw [← hw1]; have := Boxed.new ((w.alloc (.cells #[.int .i64 n, .slice oe es.length c, .slice oa ar.length ca] 27)).alloc (.cells #[.slice none 0 0] 28)) 33 (.int .i64 0); simpa using this
  have d012 : ∀ i x, #[Value.int .i64 n, .slice oe es.length c, .slice oa ar.length ca][i]? = some x → w1.cell? ⟨w.heap.size, i, none⟩ = some x := fun i x hx => by
    have hbb : Below (w.heap.size + 1) (w.alloc (.cells #[.int .i64 n, .slice oe es.length c, .slice oa ar.length ca] 27)) w1 := by
      rw [← hw1]; exact ((box_refl _ _).alloc (by simp) _).alloc (by simp) _
    rw [box_cell hbb i, hx]
  have d0 := d012 0 _ rfl
  have d1 := d012 1 _ rfl
  have d2 := d012 2 _ rfl
  have HAB1 := hide (HAB.out _ hB1)
  have HBR := hide (And.intro bR1 bR2)
  have HB1 := hide hB1
  clear d012 bR1 bR2 hB1 HAB
  gi_wp2_with (first | (gi_at_call 42; refine (HA.out _ HB1.out).mono ?_; rintro e w2 ⟨p, rg, cap, tv, rest, rfl, hDo, hbo⟩; replace hDo := hide hDo; replace hbo := hide hbo) | (gi_at_call 45; refine (HW.out _ _).mono ?_; rintro e w3 ⟨rfl, rfl⟩))
  replace hDo := hDo.out
  replace hbo := hbo.out
  obtain ⟨W1, hW1⟩ : ∃ W1, (((w2.alloc (.cells #[.slice none 0 0] 28)).alloc (.cells #[.int .i64 (v : Int)] 3)).alloc (.cells #[.int .i64 (q : Int)] 3)).alloc (.cells #[.func (.func 43) #[.pointer (some ⟨p, 0, none⟩)] #[]] 83) = W1 := ⟨_, rfl⟩
  have hszW : W1.heap.size = w2.heap.size + 4 := by rw [← hW1]; simp
  have hWB : WayBox W1 (w2.heap.size + 1) v q (.func (.func 43) #[.pointer (some ⟨p, 0, none⟩)] #[]) := by
    have := way_boxes v q (.func (.func 43) #[.pointer (some ⟨p, 0, none⟩)] #[]) (w2.alloc (.cells #[.slice none 0 0] 28))
    rw [← hW1]
    simpa using this
  have hBO : Boxed W1 w2.heap.size 28 (.slice none 0 0) := by rw [← hW1]; exact (((Boxed.new w2 _ _).alloc _).alloc _).alloc _
  have hb21 : Below w2.heap.size w2 W1 := by rw [← hW1]; exact bnew (bnew (bnew (bnew (Below.refl _ _) _) _) _) _
  have hDW := hDo.below hb21
  have hBW : Below w1.heap.size w1 W1 := hbo.trans (hb21.mono hbo.size)
  have hs12 := hbo.size
  have hp2 : p < w2.heap.size := hDo.box.lt
  have hrg2 : rg < w2.heap.size := hDo.row.lt
  have htv2 : ∀ g, tv.ownBlock = some g → g < w2.heap.size + 1 := fun g hg => by have := (hDo.tos.block g hg).2; omega
  have htv3 : ∀ g, tv.ownBlock = some g → g < w2.heap.size := fun g hg => (hDo.tos.block g hg).2
  rw [hW1]
  clear hW1 hDo hbo hb21 d0 d1 d2
  refine wpIn_rangeFunc_joint rfl h1 (gf := 72) (lb := #[.pointer (some ⟨w2.heap.size + 1, 0, none⟩), .pointer (some ⟨w2.heap.size + 1 + 1, 0, none⟩), .pointer (some ⟨w2.heap.size + 1 + 2, 0, none⟩)]) rfl trivial (enters_of Try.func72 (by kernel_rfl) rfl) _ (fun _ => rfl) _ _
    (fun c W => c = .ret ∧ (Boxed W (w.heap.size + 1) 28 (.slice none 0 0) ∧ Boxed W (w.heap.size + 2) 33 (.int .i64 12) ∧ Below w.heap.size w W ∧ Hid (∀ j, j < 4096 → chipV ar (endsL es) rot v j ≠ q))) _
    (turns_seq HOK.out hv (n0 - 1) (by omega) w1 (w2.heap.size + 1) p rg cap tv oa ca rest HAB1.out (by omega) (by omega) (by omega) htv2 4096 (WOut w2.heap.size (w2.heap.size + 4) (chipV ar (endsL es) rot v))
      (fun k W W' hk hg => hk.grown hg (by omega) (by omega)) (fun k W x hk => hk.grown (grownBy_setCell' _ _ _) (by omega) (by omega)))
    (turnsJ (by omega) (WOut.from _ _ _ _) _ _ _) (turnsJ (by omega) (WOut.from _ _ _ _) _ _ _)
    ((ownFrom_const _).and (((boxed_own _ _ (fun _ : Code => _)).from _).and (((boxed_own _ _ (fun _ : Code => _)).from _).and ((ownFrom_below (by omega) (by omega)).and (ownFrom_const _)))))
    (turnsJd (by omega) (WOut.from _ _ _ _) _ _ _)
    ⟨hWB, ⟨hDW, ⟨_, hBO, World.ownsRow_nil _ _ _ _, trivial⟩, hBW⟩, ⟨by omega, fun j hj => absurd hj (by omega)⟩⟩ ?act1 ?assign ?body ?done ?stop
  case assign =>
    intro l i W K hK
    gi_wp2
    exact hK
  case body =>
    rintro l i W ⟨hb, ⟨hD, ⟨u, hv1, hrow, _⟩, hBl⟩, hM⟩
    obtain ⟨ua, uc, rfl⟩ := ownsRow_slice hrow
    have hc := hv1.cell
    have hszl := hBl.size
    have hlt1 : w2.heap.size + 1 + 2 < W.heap.size := hb.bs.lt
    replace hb := hide hb
    replace hD := hide hD
    by_cases hi : i = 4096
    · have b1 : Boxed W (w.heap.size + 1) 28 (.slice none 0 0) := boxed_same HBR.out.1 (hBl.block _ (by omega))
      have b2 : Boxed W (w.heap.size + 2) 33 (.int .i64 0) := boxed_same HBR.out.2 (hBl.block _ (by omega))
      have c1 := b1.cell
      have f1 := b1.frozen
      have c2 := b2.cell
      have f2 := b2.frozen
      have q1 : ((i : Int) == 4096) = true := by simp; omega
      have HF : Hid (KeepsOthers W ((W.setCell ⟨w.heap.size + 1, 0, none⟩ (.slice none 0 0)).setCell ⟨w.heap.size + 1 + 1, 0, none⟩ (.int .i64 12)) ∧ Code.ret = Code.ret ∧ (Boxed ((W.setCell ⟨w.heap.size + 1, 0, none⟩ (.slice none 0 0)).setCell ⟨w.heap.size + 1 + 1, 0, none⟩ (.int .i64 12)) (w.heap.size + 1) 28 (.slice none 0 0) ∧ Boxed ((W.setCell ⟨w.heap.size + 1, 0, none⟩ (.slice none 0 0)).setCell ⟨w.heap.size + 1 + 1, 0, none⟩ (.int .i64 12)) (w.heap.size + 2) 33 (.int .i64 12) ∧ Below w.heap.size w ((W.setCell ⟨w.heap.size + 1, 0, none⟩ (.slice none 0 0)).setCell ⟨w.heap.size + 1 + 1, 0, none⟩ (.int .i64 12)) ∧ Hid (∀ j, j < 4096 → chipV ar (endsL es) rot v j ≠ q))) :=
        ⟨(KeepsOthers.setCell _ _ _).trans (KeepsOthers.setCell _ _ _), rfl, ⟨(b1.set _).other (by omega) _, (b2.other (by omega) _).set _, ((HB1.out.trans (hBl.mono (by omega))).setCell (p := ⟨w.heap.size + 1, 0, none⟩) (by simp) _).setCell (p := ⟨w.heap.size + 1 + 1, 0, none⟩) (by simp; omega) _, fun j hj => hM.out.2 j (by omega)⟩⟩
      clear b1 b2
      replace hi := hide hi
      gi_wp2
      exact ⟨HF.out.1, rfl, HF.out.2.2⟩
    · have q1 : ((i : Int) == 4096) = false := by simp; omega
      have hi2 : i ≤ 4096 := hM.out.1
      gi_wp2_with (gi_at_builtin; refine wpListIn_append_own _ rfl _ _ 28 rfl (w2.heap.size + 4) 3 i0 (.int .i64 0) 1 8 Try.underlying28 HI.out.1 HI.out.2.1 HI.out.2.2.1 HI.out.2.2.2 rfl (by decide) _ _ _ rfl (hrow.alloc _) ⟨W.heap.size, 0, none⟩ 1 1 [.int .i64 (chipV ar (endsL es) rot v i : Nat)] rfl rfl (cell_one_new _ _ _) (by simp [Value.oneCell']) (by unfold maxLen; omega) (by omega) (by simp; omega) ?_; intro v' w5 hown' hgrow _; obtain ⟨g', cap', rfl⟩ := ownsRow_succ hown'; obtain ⟨hv5, hv6, hr6, hk6, hb6, hn6⟩ := Boxed.appendedB hv1 (by decide) hrow (by omega) hown' hgrow; have hc5 := hv5.cell; have hf5 := hv5.frozen)
      refine ⟨hk6, hb.out.keep (fun k h1 h2 h3 => hn6 k (by omega) (by omega) h3), ⟨hD.out.keep (fun k h1 h2 hor => hn6 k ?_ ?_ h2), ⟨_, hv6, ?_, trivial⟩, hBl.trans (hb6.mono (by omega))⟩, ⟨by omega, hM.out.2⟩⟩
      · rcases hor with rfl | rfl | e
        · omega
        · omega
        · have := htv2 k e; omega
      · rcases hor with rfl | rfl | e
        · omega
        · omega
        · have := (hD.out.tos.block k e).2; have := htv3 k e; omega
      · rw [wayL_succ]
        simpa using hr6
  case done =>
    rintro D W hDl ⟨i, hVi, ⟨hD, ⟨u, hv1, hrow, _⟩, hBl⟩, hM⟩ hK
    obtain ⟨ua, uc, rfl⟩ := ownsRow_slice hrow
    have hc := hv1.cell
    have hszl := hBl.size
    have b1 : Boxed W (w.heap.size + 1) 28 (.slice none 0 0) := boxed_same HBR.out.1 (hBl.block _ (by omega))
    have b2 : Boxed W (w.heap.size + 2) 33 (.int .i64 0) := boxed_same HBR.out.2 (hBl.block _ (by omega))
    have c1 := b1.cell
    have f1 := b1.frozen
    have c2 := b2.cell
    have f2 := b2.frozen
    have HB := hide (And.intro b1 b2)
    clear b1 b2
    gi_wp2
    obtain ⟨b1, b2⟩ := HB.out
    have b1 := Boxed.putO ((b1.set (.slice ua (i + 1) uc)).other (show w.heap.size + 1 ≠ w.heap.size + 1 + 1 by omega) (.int .i64 0)) (D := D) (by omega) (.deferred none)
    have b2 := Boxed.putO ((b2.other (show w.heap.size + 2 ≠ w.heap.size + 1 by omega) (.slice ua (i + 1) uc)).set (.int .i64 0)) (D := D) (by omega) (.deferred none)
    have hK2 : ((W.setCell ⟨w.heap.size + 1, 0, none⟩ (.slice ua (i + 1) uc)).setCell ⟨w.heap.size + 1 + 1, 0, none⟩ (.int .i64 0)).heap[D]? = some (.deferred (some [])) := by
      rw [Below.heap_setCell _ _ _ D (by simp; omega), Below.heap_setCell _ _ _ D (by simp; omega)]; exact hK
    refine ⟨by simp, .inl ⟨_, _, rfl, run_takeDeferred hK2, ?_⟩⟩
    refine ⟨_, results_cells2 rfl agg_ints agg_errno _ _ _ _ _ _ rfl rfl b1.cell b2.cell, ?_⟩
    have hW : walkOf ar (endsL es) q rot v = (wayL (chipV ar (endsL es) rot v) (i + 1), 0) := by
      unfold walkOf
      rw [firstAt_some hM.out.1 hVi hM.out.2]
    rw [hW]
    have hx : ∀ x ∈ wayL (chipV ar (endsL es) rot v) (i + 1), I64 x := wayL_i64 HOK.out hv (i + 1) (fun j hj => hM.out.2 j (by omega))
    refine ⟨_, rfl, OwnS.ofInts (ownsRow_putObj (o := .deferred (some [])) ?_ _ hK2 rfl) hx, ?_⟩
    · rw [wayL_len]
      exact ownsRow_up (ownsRow_other (ownsRow_other hrow (r := w.heap.size + 1) (by omega) (grownBy_setCell' _ _ _)) (r := w.heap.size + 1 + 1) (by omega) (grownBy_setCell' _ _ _)) (by omega)
    · exact ((HB1.out.trans (hBl.mono (by omega))).setCell (p := ⟨w.heap.size + 1, 0, none⟩) (by simp) _).setCell (p := ⟨w.heap.size + 1 + 1, 0, none⟩) (by simp; omega) _ |>.trans (belowK_b (w := w) (Nat.le_refl _) _ D _ _ (by omega) hK2 rfl rfl)
  case stop =>
    rintro D c W hDl ⟨rfl, b1, b2, hB, hno⟩ hK
    gi_wp2
    have b1 := Boxed.putO b1 (D := D) (by omega) (.deferred none)
    have b2 := Boxed.putO b2 (D := D) (by omega) (.deferred none)
    refine ⟨by simp, .inl ⟨_, _, rfl, run_takeDeferred hK, ?_⟩⟩
    refine ⟨_, results_cells2 rfl agg_ints agg_errno _ _ _ _ _ _ rfl rfl b1.cell b2.cell, ?_⟩
    have hW : walkOf ar (endsL es) q rot v = ([], 12) := by
      unfold walkOf
      rw [firstAt_none hno.out]
    rw [hW]
    exact ⟨_, rfl, OwnS.nil _ _ _ _ _ _, hB.trans (belowK_b (w := w) (Nat.le_refl _) _ D _ _ (by omega) hK rfl rfl)⟩

section
variable (n : Int) (es : List Edg) (oe : Option Addr) (c : Nat) (ar : List (List Int)) (oa : Option Addr) (ca : Nat) (F G : Foot) (w : World) (hs : SliceR edgR 3 F w oe es) (hc : es.length ≤ c) (hc2 : es.length ≤ 1000)
    (ha : SliceR (slcR intR 1) 1 G w oa ar) (hac : ar.length ≤ ca) (hac2 : ar.length ≤ 9223372036854775807) (f : List Nat) (hU : Hid (gErr n es = 0 → Uf f (eL es)))
    (q : Int) (rot : List Int) (ot : Option Addr) (ct : Nat) (H : Foot) (hr : SliceR intR 1 H w ot rot) (hrc : rot.length ≤ ct) (hrl : rot.length ≤ 9223372036854775807)
include hs hc hc2 ha hac hac2 hU hr hrc hrl

set_option maxRecDepth 100000 in
set_option maxHeartbeats 2000000 in
theorem walk_no (v : Int) (hE : Hid (stE n es f ar q rot v ≠ 0)) :
    Calls Try.prog 15 #[.agg #[.int .i64 n, .slice oe es.length c, .slice oa ar.length ca], .int .i64 q, .slice ot rot.length ct, .int .i64 v] w (ListErr w [] (stE n es f ar q rot v)) := by
  go_enter Try.func15, Try.ntmps15
  obtain ⟨w1, hw1⟩ : ∃ w1, ((w.alloc (.cells #[.int .i64 n, .slice oe es.length c, .slice oa ar.length ca] 27)).alloc (.cells #[.slice none 0 0] 28)).alloc (.cells #[.int .i64 0] 33) = w1 := ⟨_, rfl⟩
  have hB1 : Below w.heap.size w w1 := by rw [← hw1]; exact bnew (bnew (bnew (Below.refl _ _) _) _) _
  have hsz1 : w1.heap.size = w.heap.size + 3 := by rw [← hw1]; simp
  have bR1 : Boxed w1 (w.heap.size + 1) 28 (.slice none 0 0) := by rw [← hw1]; have := (Boxed.new (w.alloc (.cells #[.int .i64 n, .slice oe es.length c, .slice oa ar.length ca] 27)) 28 (.slice none 0 0)).alloc (.cells #[.int .i64 0] 33); simpa using this
  have bR2 : Boxed w1 (w.heap.size + 2) 33 (.int .i64 0) := by rw [← hw1]; have := Boxed.new ((w.alloc (.cells #[.int .i64 n, .slice oe es.length c, .slice oa ar.length ca] 27)).alloc (.cells #[.slice none 0 0] 28)) 33 (.int .i64 0); simpa using this
  have d012 : ∀ i x, #[Value.int .i64 n, .slice oe es.length c, .slice oa ar.length ca][i]? = some x → w1.cell? ⟨w.heap.size, i, none⟩ = some x := fun i x hx => by
    have hbb : Below (w.heap.size + 1) (w.alloc (.cells #[.int .i64 n, .slice oe es.length c, .slice oa ar.length ca] 27)) w1 := by
      rw [← hw1]; exact ((box_refl _ _).alloc (by simp) _).alloc (by simp) _
    rw [box_cell hbb i, hx]
  have d0 := d012 0 _ rfl
  have d1 := d012 1 _ rfl
  have d2 := d012 2 _ rfl
  have HA := hide (at_no n es oe c ar oa ca F G w1 (hs.below edgR_ok hB1) hc hc2 (ha.below (slcR_ok intR_ok (by decide)) hB1) hac hac2 f hU q rot ot ct H (hr.below intR_ok hB1) hrc hrl v hE)
  have HBR := hide (And.intro hB1 (And.intro bR1 bR2))
  clear d012 bR1 bR2 hB1
  go_wp2_with fail
  refine HA.out.mono ?_
  rintro e w2 ⟨rfl, hb2⟩
  have hq : (stE n es f ar q rot v != 0) = true := by simpa using hE.out
  have b1 : Boxed w2 (w.heap.size + 1) 28 (.slice none 0 0) := boxed_same HBR.out.2.1 (hb2.block _ (by omega))
  have b2 : Boxed w2 (w.heap.size + 2) 33 (.int .i64 0) := boxed_same HBR.out.2.2 (hb2.block _ (by omega))
  have c1 := b1.cell
  have f1 := b1.frozen
  have c2 := b2.cell
  have f2 := b2.frozen
  have HB := hide (And.intro b1 (And.intro b2 hb2))
  clear b1 b2 hb2
  go_wp2_with fail
  obtain ⟨b1, b2, hb2⟩ := HB.out
  have b1 := (b1.set (.slice none 0 0)).other (show w.heap.size + 1 ≠ w.heap.size + 1 + 1 by omega) (.int .i64 (stE n es f ar q rot v))
  have b2 := (b2.other (show w.heap.size + 2 ≠ w.heap.size + 1 by omega) (.slice none 0 0)).set (.int .i64 (stE n es f ar q rot v))
  refine bodyPost_ret (results_cells2 rfl agg_ints agg_errno _ _ _ _ _ _ rfl rfl b1.cell b2.cell) rfl ?_
  exact ⟨_, rfl, OwnS.nil _ _ _ _ _ _, ((HBR.out.1.trans (hb2.mono (by omega))).setCell (p := ⟨w.heap.size + 1, 0, none⟩) (by simp) _).setCell (p := ⟨w.heap.size + 1 + 1, 0, none⟩) (by simp; omega) _⟩

theorem rotWalk_any (v : Int) :
    Calls Try.prog 15 #[.agg #[.int .i64 n, .slice oe es.length c, .slice oa ar.length ca], .int .i64 q, .slice ot rot.length ct, .int .i64 v] w (ListErr w (walkRes n es f ar q rot v).1 (walkRes n es f ar q rot v).2) := by
  by_cases hS : stE n es f ar q rot v = 0
  · obtain ⟨h1, h2⟩ := stE_zero hS
    obtain ⟨q', rfl, hok⟩ := RtOk.of h1 hc2
    obtain ⟨V, rfl⟩ := Int.eq_ofNat_of_zero_le h2.1
    have := (callsIn_wide (n := 4)).1 (walkC_in 4 (by omega) n es oe c ar oa ca F G w hs hc hc2 ha hac hac2 f hU q' rot ot ct H hr hrc hrl V h1 hok (by have := hok.nar; omega))
    rw [walkRes, if_pos hS]
    exact this
  · rw [walkRes, if_neg hS]
    exact walk_no n es oe c ar oa ca F G w hs hc hc2 ha hac hac2 f hU q rot ot ct H hr hrc hrl v hS
end

end Go.Proofs.Ytopldbnlehjlpaa

set_option linter.unusedVariables false
set_option linter.unusedSimpArgs false
set_option linter.unnecessarySimpa false
namespace Go.Proofs.Ytopldbnlehjlpaa
open Go.RowKit Go.Shelf

attribute [local go_sem] Oper.semAt_some

def routeUp (M : Nat) (ar : List (List Int)) (E : List (Int × Int)) (q : Nat) (rot : List Int) (v : Nat) : List Int × Int × Int :=
  match firstAt (chipV ar E rot v) q M with
  | some i => (rotI ar E rot v i, (i : Int), 0)
  | none => ([], 0, 12)
theorem routeUp_hit {M : Nat} {ar : List (List Int)} {E : List (Int × Int)} {q v i : Nat} {rot : List Int} (hi : i < M) (h1 : chipV ar E rot v i = q) (h2 : ∀ j, j < i → chipV ar E rot v j ≠ q) : routeUp M ar E q rot v = (rotI ar E rot v i, (i : Int), 0) := by
  unfold routeUp
  rw [firstAt_some hi h1 h2]
theorem routeUp_none {M : Nat} {ar : List (List Int)} {E : List (Int × Int)} {q v : Nat} {rot : List Int} (h2 : ∀ j, j < M → chipV ar E rot v j ≠ q) : routeUp M ar E q rot v = ([], 0, 12) := by
  unfold routeUp
  rw [firstAt_none h2]
def routeOf (ar : List (List Int)) (E : List (Int × Int)) (q : Nat) (rot : List Int) (v : Nat) : List Int × Int × Int := routeUp 1048577 ar E q rot v
theorem routeOf_hit {ar : List (List Int)} {E : List (Int × Int)} {q v i : Nat} {rot : List Int} (hi : i < 1048577) (h1 : chipV ar E rot v i = q) (h2 : ∀ j, j < i → chipV ar E rot v j ≠ q) : routeOf ar E q rot v = (rotI ar E rot v i, (i : Int), 0) := routeUp_hit hi h1 h2
theorem routeOf_none {ar : List (List Int)} {E : List (Int × Int)} {q v : Nat} {rot : List Int} (h2 : ∀ j, j < 1048577 → chipV ar E rot v j ≠ q) : routeOf ar E q rot v = ([], 0, 12) := routeUp_none h2
/-- The rotors behind the way of a chip and the number of steps, or the error. -/
def routeRes (n : Int) (es : List Edg) (f : List Nat) (ar : List (List Int)) (q : Int) (rot : List Int) (v : Int) : List Int × Int × Int :=
  if stE n es f ar q rot v = 0 then routeOf ar (endsL es) q.toNat rot v.toNat else ([], 0, stE n es f ar q rot v)

/-- The caller's own of Route: the count. -/
def RCnt (b : Nat) (k : Nat) (W : World) : Prop := Boxed W b 3 (.int .i64 ((k : Int) - 1))
theorem sized_set (W : World) (a : Addr) (v : Value) : (W.setCell a v).heap.size = W.heap.size := by show (W.heap.modify _ _).size = _; rw [Array.size_modify]
theorem RCnt.from (b B : Nat) : OwnFrom B (RCnt b) := (boxed_own b 3 (fun k : Nat => Value.int .i64 ((k : Int) - 1))).from B

set_option maxRecDepth 100000 in
set_option maxHeartbeats 4000000 in
theorem route_in (n0 : Nat) (hn0 : 4 ≤ n0) (n : Int) (es : List Edg) (oe : Option Addr) (c : Nat) (ar : List (List Int)) (oa : Option Addr) (ca : Nat) (F G : Foot) (w : World) (hs : SliceR edgR 3 F w oe es) (hc : es.length ≤ c) (hc2 : es.length ≤ 1000)
    (ha : SliceR (slcR intR 1) 1 G w oa ar) (hac : ar.length ≤ ca) (hac2 : ar.length ≤ 9223372036854775807) (f : List Nat) (hU : Hid (gErr n es = 0 → Uf f (eL es)))
    (q : Nat) (rot : List Int) (ot : Option Addr) (ct : Nat) (H : Foot) (hr : SliceR intR 1 H w ot rot) (hrc : rot.length ≤ ct) (hrl : rot.length ≤ 9223372036854775807) (v : Nat)
    (hE : Hid (rtE n es f ar q rot = 0)) (hok : RtOk n es ar q rot) (hv : v < ar.length) :
    CallsIn Go.Fence.wide n0 Try.prog 20 #[.agg #[.int .i64 n, .slice oe es.length c, .slice oa ar.length ca], .int .i64 q, .slice ot rot.length ct, .int .i64 v] w
      (StepRes w (routeOf ar (endsL es) q rot v)) := by
  have h1 : 1 ≤ n0 := by omega
  obtain ⟨i0, hi, hz0, hz1, hz2⟩ := info_parts iInfo
  have HI := hide (And.intro hi (And.intro hz0 (And.intro hz1 hz2)))
  have HOK := hide hok
  have hvn : (0 : Int) ≤ (v : Int) ∧ (v : Int) < n := by have := hok.nar; omega
  have cA : ∀ W : World, Below w.heap.size w W → CallsIn Go.Fence.wide (n0 - 1) Try.prog 42 #[.agg #[.int .i64 n, .slice oe es.length c, .slice oa ar.length ca], .int .i64 q, .slice ot rot.length ct, .int .i64 v] W (BoardPost W n es f ar oa ca q rot) := fun W hW =>
    callsIn_wide.2 (at_yes n es oe c ar oa ca F G W (hs.below edgR_ok hW) hc hc2 (ha.below (slcR_ok intR_ok (by decide)) hW) hac hac2 f hU q rot ot ct H (hr.below intR_ok hW) hrc hrl v hE hvn)
  have cW : ∀ (p : Nat) (W : World), CallsIn Go.Fence.wide (n0 - 1) Try.prog 45 #[.int .i64 v, .int .i64 q, .func (.func 43) #[.pointer (some ⟨p, 0, none⟩)] #[]] W _ := fun p W => callsIn_wide.2 (way_any v q _ _ _ W)
  have HA := hide cA
  have HW := hide cW
  have hf1 : Go.Fence.wide.fn 42 := trivial
  have hf2 : Go.Fence.wide.fn 45 := trivial
  have haB : ∀ W : World, Below w.heap.size w W → SliceR (slcR intR 1) 1 (Lt W.heap.size) W oa ar := fun W hW => (ha.below (slcR_ok intR_ok (by decide)) hW).loc (slcR_ok intR_ok (by decide)) (by decide)
  have HAB := hide haB
  clear hi hz0 hz1 hz2 cA cW haB hok hvn
  refine callsIn_of_wp_marks Try.func20 rfl trivial ?_ rfl
  simp only [Try.ntmps20, List.size_toArray, List.length_cons, List.length_nil, Nat.reduceAdd, Nat.reduceSub, Array.replicate_succ, Array.replicate_zero, List.push_toArray, List.append_toArray, List.nil_append, List.cons_append]
  obtain ⟨w1, hw1⟩ : ∃ w1, (((w.alloc (.cells #[.int .i64 n, .slice oe es.length c, .slice oa ar.length ca] 27)).alloc (.cells #[.slice none 0 0] 28)).alloc (.cells #[.int .i64 0] 3)).alloc (.cells #[.int .i64 0] 33) = w1 := ⟨_, rfl⟩
  have hB1 : Below w.heap.size w w1 := by rw [← hw1]; exact bnew (bnew (bnew (bnew (Below.refl _ _) _) _) _) _
  have hsz1 : w1.heap.size = w.heap.size + 4 := by rw [← hw1]; simp
  have bR1 : Boxed w1 (w.heap.size + 1) 28 (.slice none 0 0) := by rw [← hw1]; have := ((Boxed.new (w.alloc (.cells #[.int .i64 n, .slice oe es.length c, .slice oa ar.length ca] 27)) 28 (.slice none 0 0)).alloc (.cells #[.int .i64 0] 3)).alloc (.cells #[.int .i64 0] 33); simpa using this
  have bR2 : Boxed w1 (w.heap.size + 2) 3 (.int .i64 0) := by rw [← hw1]; have := (Boxed.new ((w.alloc (.cells #[.int .i64 n, .slice oe es.length c, .slice oa ar.length ca] 27)).alloc (.cells #[.slice none 0 0] 28)) 3 (.int .i64 0)).alloc (.cells #[.int .i64 0] 33); simpa using this
  have bR3 : Boxed w1 (w.heap.size + 3) 33 (.int .i64 0) := by rw [← hw1]; have := Boxed.new (((w.alloc (.cells #[.int .i64 n, .slice oe es.length c, .slice oa ar.length ca] 27)).alloc (.cells #[.slice none 0 0] 28)).alloc (.cells #[.int .i64 0] 3)) 33 (.int .i64 0); simpa using this
  have d012 : ∀ i x, #[Value.int .i64 n, .slice oe es.length c, .slice oa ar.length ca][i]? = some x → w1.cell? ⟨w.heap.size, i, none⟩ = some x := fun i x hx => by
    have hbb : Below (w.heap.size + 1) (w.alloc (.cells #[.int .i64 n, .slice oe es.length c, .slice oa ar.length ca] 27)) w1 := by
      rw [← hw1]; exact (((box_refl _ _).alloc (by simp) _).alloc (by simp) _).alloc (by simp) _
    rw [box_cell hbb i, hx]
  have d0 := d012 0 _ rfl
  have d1 := d012 1 _ rfl
  have d2 := d012 2 _ rfl
  have HAB1 := hide (HAB.out _ hB1)
  have HBR := hide (And.intro bR1 (And.intro bR2 bR3))
  have HB1 := hide hB1
  clear d012 bR1 bR2 bR3 hB1 HAB
  gi_wp2_with (first | (gi_at_call 42; refine (HA.out _ HB1.out).mono ?_; rintro e w2 ⟨p, rg, cap, tv, rest, rfl, hDo, hbo⟩; replace hDo := hide hDo; replace hbo := hide hbo) | (gi_at_call 45; refine (HW.out _ _).mono ?_; rintro e w3 ⟨rfl, rfl⟩))
  replace hDo := hDo.out
  replace hbo := hbo.out
  have hsz0 : (w2.alloc (.cells #[.int .i64 (-1)] 3)).heap.size = w2.heap.size + 1 := by simp
  have hbx0 : Boxed (w2.alloc (.cells #[.int .i64 (-1)] 3)) w2.heap.size 3 (.int .i64 (-1)) := Boxed.new w2 _ _
  have hbl0 : Below w2.heap.size w2 (w2.alloc (.cells #[.int .i64 (-1)] 3)) := bnew (Below.refl _ _) _
  obtain ⟨W1, hW1⟩ : ∃ W1, (((w2.alloc (.cells #[.int .i64 (-1)] 3)).alloc (.cells #[.int .i64 (v : Int)] 3)).alloc (.cells #[.int .i64 (q : Int)] 3)).alloc (.cells #[.func (.func 43) #[.pointer (some ⟨p, 0, none⟩)] #[]] 83) = W1 := ⟨_, rfl⟩
  obtain ⟨W0, hW0⟩ : ∃ W0, (w2.alloc (.cells #[.int .i64 (-1)] 3)) = W0 := ⟨_, rfl⟩
  rw [hW0] at hsz0 hbx0 hbl0 hW1
  have hszW : W1.heap.size = w2.heap.size + 4 := by rw [← hW1]; simp; omega
  have hWB : WayBox W1 (w2.heap.size + 1) v q (.func (.func 43) #[.pointer (some ⟨p, 0, none⟩)] #[]) := by
    have := way_boxes v q (.func (.func 43) #[.pointer (some ⟨p, 0, none⟩)] #[]) W0
    rw [hsz0] at this
    rw [← hW1]
    exact this
  have hBO : Boxed W1 w2.heap.size 3 (.int .i64 (-1)) := by rw [← hW1]; exact ((hbx0.alloc _).alloc _).alloc _
  have hb21 : Below w2.heap.size w2 W1 := by rw [← hW1]; exact bnew (bnew (bnew hbl0 _) _) _
  have hDW := hDo.below hb21
  have hBW : Below w1.heap.size w1 W1 := hbo.trans (hb21.mono hbo.size)
  have hs12 := hbo.size
  have hp2 : p < w2.heap.size := hDo.box.lt
  have hrg2 : rg < w2.heap.size := hDo.row.lt
  have htv2 : ∀ g, tv.ownBlock = some g → g < w2.heap.size + 1 := fun g hg => by have := (hDo.tos.block g hg).2; omega
  have htv3 : ∀ g, tv.ownBlock = some g → g < w2.heap.size := fun g hg => (hDo.tos.block g hg).2
  rw [hW0, hW1]
  clear hW1 hW0 hsz0 hbx0 hbl0 hDo hbo hb21 d0 d1 d2
  refine wpIn_rangeFunc_joint rfl h1 (gf := 72) (lb := #[.pointer (some ⟨w2.heap.size + 1, 0, none⟩), .pointer (some ⟨w2.heap.size + 1 + 1, 0, none⟩), .pointer (some ⟨w2.heap.size + 1 + 2, 0, none⟩)]) rfl trivial (enters_of Try.func72 (by kernel_rfl) rfl) _ (fun _ => rfl) _ _
    (fun c W => c = .ret ∧ (Boxed W (w.heap.size + 1) 28 (.slice none 0 0) ∧ Boxed W (w.heap.size + 2) 3 (.int .i64 0) ∧ Boxed W (w.heap.size + 3) 33 (.int .i64 12) ∧ Below w.heap.size w W ∧ Hid (∀ j, j < 1048577 → chipV ar (endsL es) rot v j ≠ q))) _
    (turns_seq HOK.out hv (n0 - 1) (by omega) w1 (w2.heap.size + 1) p rg cap tv oa ca rest HAB1.out (by omega) (by omega) (by omega) htv2 1048577 (RCnt w2.heap.size)
      (fun k W W' hk hg => Boxed.kept hk hg (fun e => by injection e; omega)) (fun k W x hk => Boxed.other hk (by omega) _))
    (turnsJ (by omega) (RCnt.from _ _) _ _ _) (turnsJ (by omega) (RCnt.from _ _) _ _ _)
    ((ownFrom_const _).and (((boxed_own _ _ (fun _ : Code => _)).from _).and (((boxed_own _ _ (fun _ : Code => _)).from _).and (((boxed_own _ _ (fun _ : Code => _)).from _).and ((ownFrom_below (by omega) (by omega)).and (ownFrom_const _))))))
    (turnsJd (by omega) (RCnt.from _ _) _ _ _)
    ⟨hWB, ⟨hDW, hBO, hBW⟩, ⟨by omega, fun j hj => absurd hj (by omega)⟩⟩ ?act1 ?assign ?body ?done ?stop
  case assign =>
    intro l i W K hK
    gi_wp2
    exact hK
  case body =>
    rintro l i W ⟨hb, ⟨hD, hv1, hBl⟩, hM⟩
    unfold RCnt at hv1
    have hc := hv1.cell
    have hf := hv1.frozen
    have hszl := hBl.size
    have hlt1 : w2.heap.size + 1 + 2 < W.heap.size := hb.bs.lt
    have HWR : Hid (wrap64 (i : Int) = (i : Int)) := by have := hM.out.1; show _ = _; unfold wrap64; omega
    have b1 : Boxed W (w.heap.size + 1) 28 (.slice none 0 0) := boxed_same HBR.out.1 (hBl.block _ (by omega))
    have b2 : Boxed W (w.heap.size + 2) 3 (.int .i64 0) := boxed_same HBR.out.2.1 (hBl.block _ (by omega))
    have b3 : Boxed W (w.heap.size + 3) 33 (.int .i64 0) := boxed_same HBR.out.2.2 (hBl.block _ (by omega))
    have hW2 : ∃ W2, W.setCell ⟨w2.heap.size, 0, none⟩ (.int .i64 (i : Int)) = W2 := ⟨_, rfl⟩
    obtain ⟨W2, hW2⟩ := hW2
    have hv2 : Boxed W2 w2.heap.size 3 (.int .i64 (i : Int)) := by rw [← hW2]; exact hv1.set _
    have hk2 : KeepsOthers W W2 := by rw [← hW2]; exact KeepsOthers.setCell _ _ _
    have hn2 : ∀ k, k ≠ w2.heap.size → W2.heap[k]? = W.heap[k]? := fun k hk => by rw [← hW2]; exact Below.heap_setCell _ _ _ k (by simpa using hk)
    have hbl2 : Below w1.heap.size w1 W2 := by rw [← hW2]; exact hBl.setCell (p := ⟨w2.heap.size, 0, none⟩) (by simp; omega) _
    have b1 := boxed_same b1 (hn2 (w.heap.size + 1) (by omega))
    have b2 := boxed_same b2 (hn2 (w.heap.size + 2) (by omega))
    have b3 := boxed_same b3 (hn2 (w.heap.size + 3) (by omega))
    have hc2 := hv2.cell
    have g1 := b1.cell
    have k1 := b1.frozen
    have g2 := b2.cell
    have k2 := b2.frozen
    have g3 := b3.cell
    have k3 := b3.frozen
    have HBX := hide (And.intro b1 (And.intro b2 b3))
    have HKN := hide (And.intro hk2 (And.intro hbl2 hn2))
    have HV2 := hide hv2
    replace hb := hide hb
    replace hD := hide hD
    clear b1 b2 b3 hk2 hn2 hbl2 hv1 hv2
    by_cases hi : i = 1048577
    · have q1 : decide ((1048576 : Int) < (i : Int)) = true := by simp; omega
      replace hi := hide hi
      have hw1' := HWR.out
      gi_wp2
      clear hw1'
      obtain ⟨b1, b2, b3⟩ := HBX.out
      obtain ⟨hk2, hbl2, hn2⟩ := HKN.out
      have hi' := hi.out
      refine ⟨((hk2.trans (KeepsOthers.setCell _ _ _)).trans (KeepsOthers.setCell _ _ _)).trans (KeepsOthers.setCell _ _ _), rfl, ((b1.set (.slice none 0 0)).other (by omega) (.int .i64 0)).other (by omega) (.int .i64 12), ((b2.other (by omega) (.slice none 0 0)).set (.int .i64 0)).other (by omega) (.int .i64 12), ((b3.other (by omega) (.slice none 0 0)).other (by omega) (.int .i64 0)).set (.int .i64 12), ?_, fun j hj => hM.out.2 j (by omega)⟩
      exact (((HB1.out.trans (hbl2.mono (by omega))).setCell (p := ⟨w.heap.size + 1, 0, none⟩) (by simp) _).setCell (p := ⟨w.heap.size + 1 + 1, 0, none⟩) (by simp; omega) _).setCell (p := ⟨w.heap.size + 1 + 1 + 1, 0, none⟩) (by simp; omega) _
    · have hi2 : i ≤ 1048577 := hM.out.1
      have q1 : decide ((1048576 : Int) < (i : Int)) = false := by simp; omega
      have hw1' := HWR.out
      gi_wp2
      clear hw1'
      obtain ⟨hk2, hbl2, hn2⟩ := HKN.out
      refine ⟨hk2, hb.out.keep (fun k h1 h2 h3 => hn2 k (by omega)), ⟨hD.out.keep (fun k h1 h2 hor => hn2 k ?_), ?_, hbl2⟩, ⟨by omega, hM.out.2⟩⟩
      · rcases hor with rfl | rfl | e
        · omega
        · omega
        · have := htv3 k e; omega
      · unfold RCnt
        rw [show ((i + 1 : Nat) : Int) - 1 = (i : Int) by omega]
        exact HV2.out
  case done =>
    rintro D W hDl ⟨i, hVi, ⟨hD, hv1, hBl⟩, hM⟩ hK
    unfold RCnt at hv1
    rw [show ((i + 1 : Nat) : Int) - 1 = (i : Int) by omega] at hv1
    have hc := hv1.cell
    have hszl := hBl.size
    have b1 : Boxed W (w.heap.size + 1) 28 (.slice none 0 0) := boxed_same HBR.out.1 (hBl.block _ (by omega))
    have b2 : Boxed W (w.heap.size + 2) 3 (.int .i64 0) := boxed_same HBR.out.2.1 (hBl.block _ (by omega))
    have b3 : Boxed W (w.heap.size + 3) 33 (.int .i64 0) := boxed_same HBR.out.2.2 (hBl.block _ (by omega))
    have c1 := b1.cell
    have f1 := b1.frozen
    have c2 := b2.cell
    have f2 := b2.frozen
    have c3 := b3.cell
    have f3 := b3.frozen
    have d3 := hD.box.cell 3
    simp at d3
    have hpB := hD.pB
    have HB := hide (And.intro b1 (And.intro b2 b3))
    have HD := hide hD
    have hpn1 : p ≠ w.heap.size + 1 := by omega
    have hpn2 : p ≠ w.heap.size + 2 := by omega
    have hpn3 : p ≠ w.heap.size + 3 := by omega
    clear b1 b2 b3 hD
    gi_wp2
    gi_region
    all_goals
      gi_wp2
      obtain ⟨b1, b2, b3⟩ := HB.out
      have hD := HD.out
      have b1 := Boxed.putO (((b1.set (.slice (some ⟨rg, 0, none⟩) (rotI ar (endsL es) rot v i).length cap)).other (show w.heap.size + 1 ≠ w.heap.size + 1 + 1 by omega) (.int .i64 i)).other (show w.heap.size + 1 ≠ w.heap.size + 1 + 1 + 1 by omega) (.int .i64 0)) (D := D) (by omega) (.deferred none)
      have b2 := Boxed.putO (((b2.other (show w.heap.size + 2 ≠ w.heap.size + 1 by omega) (.slice (some ⟨rg, 0, none⟩) (rotI ar (endsL es) rot v i).length cap)).set (.int .i64 i)).other (show w.heap.size + 2 ≠ w.heap.size + 1 + 1 + 1 by omega) (.int .i64 0)) (D := D) (by omega) (.deferred none)
      have b3 := Boxed.putO (((b3.other (show w.heap.size + 3 ≠ w.heap.size + 1 by omega) (.slice (some ⟨rg, 0, none⟩) (rotI ar (endsL es) rot v i).length cap)).other (show w.heap.size + 3 ≠ w.heap.size + 1 + 1 by omega) (.int .i64 i)).set (.int .i64 0)) (D := D) (by omega) (.deferred none)
      obtain ⟨W3, hW3⟩ : ∃ W3, ((W.setCell ⟨w.heap.size + 1, 0, none⟩ (.slice (some ⟨rg, 0, none⟩) (rotI ar (endsL es) rot v i).length cap)).setCell ⟨w.heap.size + 1 + 1, 0, none⟩ (.int .i64 i)).setCell ⟨w.heap.size + 1 + 1 + 1, 0, none⟩ (.int .i64 0) = W3 := ⟨_, rfl⟩
      have hn3 : ∀ k, w1.heap.size ≤ k → W3.heap[k]? = W.heap[k]? := fun k hk => by
        rw [← hW3, Below.heap_setCell _ _ _ k (by simp; omega), Below.heap_setCell _ _ _ k (by simp; omega), Below.heap_setCell _ _ _ k (by simp; omega)]
      have hlow : Below w.heap.size w W3 := by
        rw [← hW3]
        exact (((HB1.out.trans (hBl.mono (by omega))).setCell (p := ⟨w.heap.size + 1, 0, none⟩) (by simp) _).setCell (p := ⟨w.heap.size + 1 + 1, 0, none⟩) (by simp; omega) _).setCell (p := ⟨w.heap.size + 1 + 1 + 1, 0, none⟩) (by simp; omega) _
      rw [hW3] at b1 b2 b3 ⊢
      have hK2 : W3.heap[D]? = some (.deferred (some [])) := (hn3 D (by omega)).trans hK
      refine ⟨by simp, .inl ⟨_, _, rfl, run_takeDeferred (w := W3.drew) hK2, ?_⟩⟩
      refine ⟨_, results_cells3 rfl agg_ints agg_int agg_errno _ _ _ _ _ _ _ _ rfl rfl rfl b1.cell b2.cell b3.cell, ?_⟩
      have hW : routeOf ar (endsL es) q rot v = (rotI ar (endsL es) rot v i, (i : Int), 0) := routeOf_hit hM.out.1 hVi hM.out.2
      rw [hW]
      have hok2 := (HOK.out.along hv i hM.out.2).1
      have hD3 := hD.keep (w' := W3.drew.putObj D (.deferred none)) fun k hk1 hk2 hor => by
        have hkD : k ≠ D := fun e => by
          rcases hor with rfl | rfl | e2
          · omega
          · omega
          · have := htv3 k e2; omega
        rw [World.putObj_heap_other hkD]
        exact hn3 k hk1
      refine ⟨_, rfl, (hD3.own hok2.i64).rebase (by omega), ?_⟩
      exact (below_drewN hlow 1).trans (belowK_b (w := w) (Nat.le_refl _) W3.drew D _ _ (by omega) hK2 rfl rfl)
  case stop =>
    rintro D c W hDl ⟨rfl, b1, b2, b3, hB, hno⟩ hK
    gi_wp2
    have b1 := Boxed.putO b1 (D := D) (by omega) (.deferred none)
    have b2 := Boxed.putO b2 (D := D) (by omega) (.deferred none)
    have b3 := Boxed.putO b3 (D := D) (by omega) (.deferred none)
    refine ⟨by simp, .inl ⟨_, _, rfl, run_takeDeferred hK, ?_⟩⟩
    refine ⟨_, results_cells3 rfl agg_ints agg_int agg_errno _ _ _ _ _ _ _ _ rfl rfl rfl b1.cell b2.cell b3.cell, ?_⟩
    have hW : routeOf ar (endsL es) q rot v = ([], 0, 12) := routeOf_none hno.out
    rw [hW]
    exact ⟨_, rfl, OwnS.nil _ _ _ _ _ _, hB.trans (belowK_b (w := w) (Nat.le_refl _) _ D _ _ (by omega) hK rfl rfl)⟩

section
variable (n : Int) (es : List Edg) (oe : Option Addr) (c : Nat) (ar : List (List Int)) (oa : Option Addr) (ca : Nat) (F G : Foot) (w : World) (hs : SliceR edgR 3 F w oe es) (hc : es.length ≤ c) (hc2 : es.length ≤ 1000)
    (ha : SliceR (slcR intR 1) 1 G w oa ar) (hac : ar.length ≤ ca) (hac2 : ar.length ≤ 9223372036854775807) (f : List Nat) (hU : Hid (gErr n es = 0 → Uf f (eL es)))
    (q : Int) (rot : List Int) (ot : Option Addr) (ct : Nat) (H : Foot) (hr : SliceR intR 1 H w ot rot) (hrc : rot.length ≤ ct) (hrl : rot.length ≤ 9223372036854775807)
include hs hc hc2 ha hac hac2 hU hr hrc hrl

set_option maxRecDepth 100000 in
set_option maxHeartbeats 2000000 in
theorem route_no (v : Int) (hE : Hid (stE n es f ar q rot v ≠ 0)) :
    Calls Try.prog 20 #[.agg #[.int .i64 n, .slice oe es.length c, .slice oa ar.length ca], .int .i64 q, .slice ot rot.length ct, .int .i64 v] w (StepRes w ([], 0, stE n es f ar q rot v)) := by
  go_enter Try.func20, Try.ntmps20
  obtain ⟨w1, hw1⟩ : ∃ w1, (((w.alloc (.cells #[.int .i64 n, .slice oe es.length c, .slice oa ar.length ca] 27)).alloc (.cells #[.slice none 0 0] 28)).alloc (.cells #[.int .i64 0] 3)).alloc (.cells #[.int .i64 0] 33) = w1 := ⟨_, rfl⟩
  have hB1 : Below w.heap.size w w1 := by rw [← hw1]; exact bnew (bnew (bnew (bnew (Below.refl _ _) _) _) _) _
  have hsz1 : w1.heap.size = w.heap.size + 4 := by rw [← hw1]; simp
  have bR1 : Boxed w1 (w.heap.size + 1) 28 (.slice none 0 0) := by rw [← hw1]; have := ((Boxed.new (w.alloc (.cells #[.int .i64 n, .slice oe es.length c, .slice oa ar.length ca] 27)) 28 (.slice none 0 0)).alloc (.cells #[.int .i64 0] 3)).alloc (.cells #[.int .i64 0] 33); simpa using this
  have bR2 : Boxed w1 (w.heap.size + 2) 3 (.int .i64 0) := by rw [← hw1]; have := (Boxed.new ((w.alloc (.cells #[.int .i64 n, .slice oe es.length c, .slice oa ar.length ca] 27)).alloc (.cells #[.slice none 0 0] 28)) 3 (.int .i64 0)).alloc (.cells #[.int .i64 0] 33); simpa using this
  have bR3 : Boxed w1 (w.heap.size + 3) 33 (.int .i64 0) := by rw [← hw1]; have := Boxed.new (((w.alloc (.cells #[.int .i64 n, .slice oe es.length c, .slice oa ar.length ca] 27)).alloc (.cells #[.slice none 0 0] 28)).alloc (.cells #[.int .i64 0] 3)) 33 (.int .i64 0); simpa using this
  have d012 : ∀ i x, #[Value.int .i64 n, .slice oe es.length c, .slice oa ar.length ca][i]? = some x → w1.cell? ⟨w.heap.size, i, none⟩ = some x := fun i x hx => by
    have hbb : Below (w.heap.size + 1) (w.alloc (.cells #[.int .i64 n, .slice oe es.length c, .slice oa ar.length ca] 27)) w1 := by
      rw [← hw1]; exact (((box_refl _ _).alloc (by simp) _).alloc (by simp) _).alloc (by simp) _
    rw [box_cell hbb i, hx]
  have d0 := d012 0 _ rfl
  have d1 := d012 1 _ rfl
  have d2 := d012 2 _ rfl
  have HA := hide (at_no n es oe c ar oa ca F G w1 (hs.below edgR_ok hB1) hc hc2 (ha.below (slcR_ok intR_ok (by decide)) hB1) hac hac2 f hU q rot ot ct H (hr.below intR_ok hB1) hrc hrl v hE)
  have HBR := hide (And.intro hB1 (And.intro bR1 (And.intro bR2 bR3)))
  clear d012 bR1 bR2 bR3 hB1
  go_wp2_with fail
  refine HA.out.mono ?_
  rintro e w2 ⟨rfl, hb2⟩
  have hq : (stE n es f ar q rot v != 0) = true := by simpa using hE.out
  have b1 : Boxed w2 (w.heap.size + 1) 28 (.slice none 0 0) := boxed_same HBR.out.2.1 (hb2.block _ (by omega))
  have b2 : Boxed w2 (w.heap.size + 2) 3 (.int .i64 0) := boxed_same HBR.out.2.2.1 (hb2.block _ (by omega))
  have b3 : Boxed w2 (w.heap.size + 3) 33 (.int .i64 0) := boxed_same HBR.out.2.2.2 (hb2.block _ (by omega))
  have c1 := b1.cell
  have f1 := b1.frozen
  have c2 := b2.cell
  have f2 := b2.frozen
  have c3 := b3.cell
  have f3 := b3.frozen
  have HB := hide (And.intro b1 (And.intro b2 (And.intro b3 hb2)))
  clear b1 b2 b3 hb2
  go_wp2_with fail
  obtain ⟨b1, b2, b3, hb2⟩ := HB.out
  have b1 := ((b1.set (.slice none 0 0)).other (show w.heap.size + 1 ≠ w.heap.size + 1 + 1 by omega) (.int .i64 0)).other (show w.heap.size + 1 ≠ w.heap.size + 1 + 1 + 1 by omega) (.int .i64 (stE n es f ar q rot v))
  have b2 := ((b2.other (show w.heap.size + 2 ≠ w.heap.size + 1 by omega) (.slice none 0 0)).set (.int .i64 0)).other (show w.heap.size + 2 ≠ w.heap.size + 1 + 1 + 1 by omega) (.int .i64 (stE n es f ar q rot v))
  have b3 := ((b3.other (show w.heap.size + 3 ≠ w.heap.size + 1 by omega) (.slice none 0 0)).other (show w.heap.size + 3 ≠ w.heap.size + 1 + 1 by omega) (.int .i64 0)).set (.int .i64 (stE n es f ar q rot v))
  refine bodyPost_ret (results_cells3 rfl agg_ints agg_int agg_errno _ _ _ _ _ _ _ _ rfl rfl rfl b1.cell b2.cell b3.cell) rfl ?_
  exact ⟨_, rfl, OwnS.nil _ _ _ _ _ _, (((HBR.out.1.trans (hb2.mono (by omega))).setCell (p := ⟨w.heap.size + 1, 0, none⟩) (by simp) _).setCell (p := ⟨w.heap.size + 1 + 1, 0, none⟩) (by simp; omega) _).setCell (p := ⟨w.heap.size + 1 + 1 + 1, 0, none⟩) (by simp; omega) _⟩

theorem rotRoute_any (v : Int) :
    Calls Try.prog 20 #[.agg #[.int .i64 n, .slice oe es.length c, .slice oa ar.length ca], .int .i64 q, .slice ot rot.length ct, .int .i64 v] w (StepRes w (routeRes n es f ar q rot v)) := by
  by_cases hS : stE n es f ar q rot v = 0
  · obtain ⟨h1, h2⟩ := stE_zero hS
    obtain ⟨q', rfl, hok⟩ := RtOk.of h1 hc2
    obtain ⟨V, rfl⟩ := Int.eq_ofNat_of_zero_le h2.1
    have := (callsIn_wide (n := 4)).1 (route_in 4 (by omega) n es oe c ar oa ca F G w hs hc hc2 ha hac hac2 f hU q' rot ot ct H hr hrc hrl V h1 hok (by have := hok.nar; omega))
    rw [routeRes, if_pos hS]
    exact this
  · rw [routeRes, if_neg hS]
    exact route_no n es oe c ar oa ca F G w hs hc hc2 ha hac hac2 f hU q rot ot ct H hr hrc hrl v hS
end

end Go.Proofs.Ytopldbnlehjlpaa

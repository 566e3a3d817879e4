/-
  fraction.both, (*steps).do at the three operations. Written by mkFrDo.py.
  The closures of fraction: Mul$1, Div$1, combined$1.
  fraction.made with its closures. Written by mkFrMade.py.
  fraction's operations. Written by mkFrOps.py.
  fraction.Neg, Floor, Text, Compare, Of.
  Sums of fractions: what both sides return. No function of the program is named here.
  fraction.Sum. Printed by mkFrSum.py.
  fraction.Compare.
  strings.Cut at "/".
  fraction.Parse.
  Digits in memory: a slice of ints, the least one first, without zeros at the end. Made of XRepW and XNatRep.
  ref01.cut, digit, order.
  A slice that the call has just made, and that holds nothing yet.
  Graphs as plain Lean; how they lie in memory; which are right.
  Slices that a literal lays.
  Comparing pairs: cmp.Compare, cmp.Or, (pair).compare; vertices.
  Check of graphs: the program and the reference.
  Check of graphs: the reference.
  The single edges of a graph: the iterator, Ends.
  append to a slice of the call's own, as one step of a region that draws its order. No program is named here.
  The ends of the single edges: the program and the reference.
  slices.Contains at lists of integers.
  The reference's counts on graphs: Between, Valence, Degree, Size, Half, At, Holds.
  Which states are reachable: plain Lean. Within k steps; after S steps nothing new.
  The search for reachable states, and the fixed point: plain Lean.
  Joined vertices: the forest of the program, and what is reached: plain Lean.
-/
import Derived.Test.YthpknfoahimopaaGreatDoorF2
import Derived.IntWalk
import Derived.Lib.Bytealg
import Derived.Lib.CutLaws
import Derived.Test.YthpknfoahimopaaGreatDoorProg
import Derived.Deep.RegionHeld3
import Derived.RangeFuncBox
import Derived.RangeFuncNested
import Derived.RangeFuncLeaves
import Derived.Shelf.Abstract
import Derived.OwnWalkIn
import Derived.TacticsInMore
import Derived.LoopNIn
import Derived.LoopIn
import Derived.Maps.AppendAt
import Derived.Deep.RegionLaw
import Derived.BigQuiet

set_option linter.unusedVariables false
set_option linter.unusedSimpArgs false
set_option linter.unnecessarySimpa false
namespace Go.Proofs.YthpknfoahimopaaGreatDoor
open Go.RowKit

set_option maxRecDepth 100000 in
set_option maxHeartbeats 4000000 in
theorem fboth_any (s t u v : ByteArray) (hs : s.size ≤ 140737488355328) (ht : t.size ≤ 140737488355328) (hu : u.size ≤ 140737488355328) (hv : v.size ≤ 140737488355328) {e1 e2 e : Int} (h1 : chkF s.data.toList t.data.toList = e1) (h2 : chkF u.data.toList v.data.toList = e2) (he : errOr e1 e2 = e) {w : World} (htb : Tbl w) :
    Calls Tryz.prog 77 #[.agg #[.string s, .string t], .agg #[.string u, .string v]] w fun r w' => r = .returned (.int .i64 e) ∧ Below w.heap.size w w' := by
  have H1 : Hid (∀ w', Below w.heap.size w w' → Calls Tryz.prog 25 #[.agg #[.string s, .string t]] w' fun e w2 => e = .returned (.int .i64 e1) ∧ Below w'.heap.size w' w2) := fun w' hb => by rw [← h1]; exact fcheck_any s t hs ht (htb.below hb)
  have H2 : Hid (∀ w', Below w.heap.size w w' → Calls Tryz.prog 25 #[.agg #[.string u, .string v]] w' fun e w2 => e = .returned (.int .i64 e2) ∧ Below w'.heap.size w' w2) := fun w' hb => by rw [← h2]; exact fcheck_any u v hu hv (htb.below hb)
  have HE := hide he
  have HB0 : Hid (Below w.heap.size w ((w.alloc (.cells #[.string s, .string t] 26)).alloc (.cells #[.string u, .string v] 26))) := bnew (bnew (Below.refl _ _) _) _
  have HA : Hid (Box ((w.alloc (.cells #[.string s, .string t] 26)).alloc (.cells #[.string u, .string v] 26)) w.heap.size [.string s, .string t] 26) := (Box.new w _ _).next _
  have hbx : Box ((w.alloc (.cells #[.string s, .string t] 26)).alloc (.cells #[.string u, .string v] 26)) (w.heap.size + 1) [.string u, .string v] 26 := by
    have h5 := Box.new (w.alloc (.cells #[.string s, .string t] 26)) [.string u, .string v] 26
    rw [World.size_alloc] at h5
    exact h5
  have HBX := hide hbx
  clear h1 h2 he hs ht hu hv htb hbx
  go_enter Tryz.func77, Tryz.ntmps77
  by_cases h : e1 = 0
  · have tq : (e1 != 0) = false := by simp [h]
    have HRE : Hid (e2 = e) := by show e2 = e; rw [← HE.out]; unfold errOr; rw [if_neg (by simp [h])]
    clear h
    go_wp2_with (first
      | (go_at_call 25; have _t := HB0; (with_reducible refine (H1.out _ HB0.out).mono ?_); rintro ec w5 ⟨rfl, hb5⟩; have HB5 := hide (below_then HB0.out hb5); have c0 := (HBX.out.below hb5).cell 0; have c1 := (HBX.out.below hb5).cell 1; simp only [List.getElem?_cons_zero, List.getElem?_cons_succ] at c0 c1; clear HB0 hb5 _t)
      | (go_at_call 25; (with_reducible refine (H2.out _ HB5.out).mono ?_); rintro ec w6 ⟨rfl, hb6⟩; have HB6 := hide (below_then HB5.out hb6); clear hb6))
    go_ret
    exact ⟨by rw [← HRE.out]; rfl, HB6.out⟩
  · have tq : (e1 != 0) = true := by simpa using h
    have HRE : Hid (e1 = e) := by show e1 = e; rw [← HE.out]; unfold errOr; rw [if_pos h]
    clear h
    go_wp2_with (go_at_call 25; (with_reducible refine (H1.out _ HB0.out).mono ?_); rintro ec w5 ⟨rfl, hb5⟩; have HB5 := hide (below_then HB0.out hb5); clear hb5)
    go_ret
    exact ⟨by rw [← HRE.out]; rfl, HB5.out⟩
/-- The number of the error that steps remember. -/
def errK (ok : Bool) : Int := if ok then 0 else 11
/-- The steps lie just above the world W. -/
def Stp (W w : World) (ok : Bool) : Prop := Below W.heap.size W w ∧ Box w W.heap.size [.int .i64 (errK ok)] 97
/-- What a step leaves. -/
instance (z : Int) : Decidable (Lim z) := inferInstanceAs (Decidable (lenI z ≤ 1024))
def doE (ok : Bool) (r : Int) : Bool := ok && decide (Lim r)
def doZ (ok : Bool) (r : Int) : Int := if ok && decide (Lim r) then r else 0
theorem lim_zero : Lim 0 := by show lenI 0 ≤ 1024; decide
theorem lim_doZ (ok : Bool) (r : Int) : Lim (doZ ok r) := by
  unfold doZ
  by_cases h : (ok && decide (Lim r)) = true
  · rw [if_pos h]
    simp at h
    exact h.2
  · rw [if_neg h]
    exact lim_zero
theorem doZ_ok {ok : Bool} {r : Int} (h : doE ok r = true) : doZ ok r = r := if_pos h
def DoPost (W : World) (ok : Bool) (r : Int) (e : Ending) (w' : World) : Prop := e = .returned (.string (strN (txtI (doZ ok r)))) ∧ Stp W w' (doE ok r)
def stepsP (W : World) : Value := .pointer (some ⟨W.heap.size, 0, none⟩)
theorem strN_txt0 : strN (txtI 0) = ⟨#[48]⟩ := rfl
set_option maxRecDepth 100000 in
set_option maxHeartbeats 4000000 in
theorem fdo_mul {x y : Int} (hx : Lim x) (hy : Lim y) {W w : World} {ok : Bool} (ht : Tbl W) (hs : Stp W w ok) : Calls Tryz.prog 62 #[.pointer (some ⟨W.heap.size, 0, none⟩), .func (.func 44) #[] #[], .string (strN (txtI x)), .string (strN (txtI y))] w (DoPost W ok (x * y)) := by
  obtain ⟨hb, hbx⟩ := hs
  have HOP := hide (imul_any hx hy (ht.below hb))
  have c0 := hbx.cell 0
  simp only [List.getElem?_cons_zero] at c0
  have HBX := hide hbx
  have HB := hide hb
  obtain ⟨s, hs⟩ : ∃ s, s = strN (txtI x) := ⟨_, rfl⟩
  obtain ⟨t, htt⟩ : ∃ t, t = strN (txtI y) := ⟨_, rfl⟩
  rw [← hs, ← htt] at HOP ⊢
  obtain ⟨r, hr⟩ : ∃ r, r = x * y := ⟨_, rfl⟩
  rw [← hr] at HOP ⊢
  unfold DoPost
  clear hb hbx hx hy ht hs htt hr
  by_cases hok : ok = true
  · subst hok
    have c0 : w.cell? ⟨W.heap.size, 0, none⟩ = some (.int .i64 0) := c0
    have f0 := HBX.out.free 0
    by_cases hl : Lim r
    · rw [resI_lim hl] at HOP
      have HRV : Hid (doZ true r = r) := by show doZ true r = r; unfold doZ; rw [if_pos (by simpa using hl)]
      have HRE : Hid (doE true r = true) := by show doE true r = true; unfold doE; simpa using hl
      clear hl
      go_enter Tryz.func62, Tryz.ntmps62
      go_wp2_with (go_at_call 44; (with_reducible refine HOP.out.mono ?_); rintro ec w5 ⟨rfl, hb5⟩; have HB5 := hide (HB.out.trans (hb5.mono (Nat.le_of_lt HBX.out.lt))); have HX5 := hide (HBX.out.below hb5); have c5 := HX5.out.cell 0; have f5 := HX5.out.free 0; have HX6 := hide (HX5.out.put 0 (.int .i64 0)); have c6 := HX6.out.cell 0; simp only [List.set, List.getElem?_cons_zero] at c5 c6; clear hb5)
      go_ret
      refine ⟨by rw [HRV.out]; rfl, ?_⟩
      rw [HRE.out]
      exact ⟨HB5.out.setCell (Nat.le_refl _) _, HX6.out⟩
    · rw [show resI r = .tuple #[.string ⟨#[]⟩, .int .i64 11] from by unfold resI; rw [if_pos (by have : ¬ lenI r ≤ 1024 := hl; omega)]] at HOP
      have HRV : Hid (doZ true r = 0) := by show doZ true r = 0; unfold doZ; rw [if_neg (by simpa using hl)]
      have HRE : Hid (doE true r = false) := by show doE true r = false; unfold doE; simpa using hl
      clear hl
      go_enter Tryz.func62, Tryz.ntmps62
      go_wp2_with (go_at_call 44; (with_reducible refine HOP.out.mono ?_); rintro ec w5 ⟨rfl, hb5⟩; have HB5 := hide (HB.out.trans (hb5.mono (Nat.le_of_lt HBX.out.lt))); have HX5 := hide (HBX.out.below hb5); have c5 := HX5.out.cell 0; have f5 := HX5.out.free 0; have HX6 := hide (HX5.out.put 0 (.int .i64 11)); have c6 := HX6.out.cell 0; simp only [List.set, List.getElem?_cons_zero] at c5 c6; clear hb5)
      go_ret
      refine ⟨by rw [HRV.out]; rfl, ?_⟩
      rw [HRE.out]
      exact ⟨HB5.out.setCell (Nat.le_refl _) _, HX6.out⟩
  · obtain rfl : ok = false := by simpa using hok
    have c0 : w.cell? ⟨W.heap.size, 0, none⟩ = some (.int .i64 11) := c0
    clear hok
    go_enter Tryz.func62, Tryz.ntmps62
    go_wp2_with fail
    go_ret
    exact ⟨rfl, HB.out, HBX.out⟩
set_option maxRecDepth 100000 in
set_option maxHeartbeats 4000000 in
theorem fdo_add {x y : Int} (hx : Lim x) (hy : Lim y) {W w : World} {ok : Bool} (ht : Tbl W) (hs : Stp W w ok) : Calls Tryz.prog 62 #[.pointer (some ⟨W.heap.size, 0, none⟩), .func (.func 59) #[] #[], .string (strN (txtI x)), .string (strN (txtI y))] w (DoPost W ok (x + y)) := by
  obtain ⟨hb, hbx⟩ := hs
  have HOP := hide (iadd_any hx hy (ht.below hb))
  have c0 := hbx.cell 0
  simp only [List.getElem?_cons_zero] at c0
  have HBX := hide hbx
  have HB := hide hb
  obtain ⟨s, hs⟩ : ∃ s, s = strN (txtI x) := ⟨_, rfl⟩
  obtain ⟨t, htt⟩ : ∃ t, t = strN (txtI y) := ⟨_, rfl⟩
  rw [← hs, ← htt] at HOP ⊢
  obtain ⟨r, hr⟩ : ∃ r, r = x + y := ⟨_, rfl⟩
  rw [← hr] at HOP ⊢
  unfold DoPost
  clear hb hbx hx hy ht hs htt hr
  by_cases hok : ok = true
  · subst hok
    have c0 : w.cell? ⟨W.heap.size, 0, none⟩ = some (.int .i64 0) := c0
    have f0 := HBX.out.free 0
    by_cases hl : Lim r
    · rw [resI_lim hl] at HOP
      have HRV : Hid (doZ true r = r) := by show doZ true r = r; unfold doZ; rw [if_pos (by simpa using hl)]
      have HRE : Hid (doE true r = true) := by show doE true r = true; unfold doE; simpa using hl
      clear hl
      go_enter Tryz.func62, Tryz.ntmps62
      go_wp2_with (go_at_call 59; (with_reducible refine HOP.out.mono ?_); rintro ec w5 ⟨rfl, hb5⟩; have HB5 := hide (HB.out.trans (hb5.mono (Nat.le_of_lt HBX.out.lt))); have HX5 := hide (HBX.out.below hb5); have c5 := HX5.out.cell 0; have f5 := HX5.out.free 0; have HX6 := hide (HX5.out.put 0 (.int .i64 0)); have c6 := HX6.out.cell 0; simp only [List.set, List.getElem?_cons_zero] at c5 c6; clear hb5)
      go_ret
      refine ⟨by rw [HRV.out]; rfl, ?_⟩
      rw [HRE.out]
      exact ⟨HB5.out.setCell (Nat.le_refl _) _, HX6.out⟩
    · rw [show resI r = .tuple #[.string ⟨#[]⟩, .int .i64 11] from by unfold resI; rw [if_pos (by have : ¬ lenI r ≤ 1024 := hl; omega)]] at HOP
      have HRV : Hid (doZ true r = 0) := by show doZ true r = 0; unfold doZ; rw [if_neg (by simpa using hl)]
      have HRE : Hid (doE true r = false) := by show doE true r = false; unfold doE; simpa using hl
      clear hl
      go_enter Tryz.func62, Tryz.ntmps62
      go_wp2_with (go_at_call 59; (with_reducible refine HOP.out.mono ?_); rintro ec w5 ⟨rfl, hb5⟩; have HB5 := hide (HB.out.trans (hb5.mono (Nat.le_of_lt HBX.out.lt))); have HX5 := hide (HBX.out.below hb5); have c5 := HX5.out.cell 0; have f5 := HX5.out.free 0; have HX6 := hide (HX5.out.put 0 (.int .i64 11)); have c6 := HX6.out.cell 0; simp only [List.set, List.getElem?_cons_zero] at c5 c6; clear hb5)
      go_ret
      refine ⟨by rw [HRV.out]; rfl, ?_⟩
      rw [HRE.out]
      exact ⟨HB5.out.setCell (Nat.le_refl _) _, HX6.out⟩
  · obtain rfl : ok = false := by simpa using hok
    have c0 : w.cell? ⟨W.heap.size, 0, none⟩ = some (.int .i64 11) := c0
    clear hok
    go_enter Tryz.func62, Tryz.ntmps62
    go_wp2_with fail
    go_ret
    exact ⟨rfl, HB.out, HBX.out⟩
set_option maxRecDepth 100000 in
set_option maxHeartbeats 4000000 in
theorem fdo_sub {x y : Int} (hx : Lim x) (hy : Lim y) {W w : World} {ok : Bool} (ht : Tbl W) (hs : Stp W w ok) : Calls Tryz.prog 62 #[.pointer (some ⟨W.heap.size, 0, none⟩), .func (.func 72) #[] #[], .string (strN (txtI x)), .string (strN (txtI y))] w (DoPost W ok (x - y)) := by
  obtain ⟨hb, hbx⟩ := hs
  have HOP := hide (isub_any hx hy (ht.below hb))
  have c0 := hbx.cell 0
  simp only [List.getElem?_cons_zero] at c0
  have HBX := hide hbx
  have HB := hide hb
  obtain ⟨s, hs⟩ : ∃ s, s = strN (txtI x) := ⟨_, rfl⟩
  obtain ⟨t, htt⟩ : ∃ t, t = strN (txtI y) := ⟨_, rfl⟩
  rw [← hs, ← htt] at HOP ⊢
  obtain ⟨r, hr⟩ : ∃ r, r = x - y := ⟨_, rfl⟩
  rw [← hr] at HOP ⊢
  unfold DoPost
  clear hb hbx hx hy ht hs htt hr
  by_cases hok : ok = true
  · subst hok
    have c0 : w.cell? ⟨W.heap.size, 0, none⟩ = some (.int .i64 0) := c0
    have f0 := HBX.out.free 0
    by_cases hl : Lim r
    · rw [resI_lim hl] at HOP
      have HRV : Hid (doZ true r = r) := by show doZ true r = r; unfold doZ; rw [if_pos (by simpa using hl)]
      have HRE : Hid (doE true r = true) := by show doE true r = true; unfold doE; simpa using hl
      clear hl
      go_enter Tryz.func62, Tryz.ntmps62
      go_wp2_with (go_at_call 72; (with_reducible refine HOP.out.mono ?_); rintro ec w5 ⟨rfl, hb5⟩; have HB5 := hide (HB.out.trans (hb5.mono (Nat.le_of_lt HBX.out.lt))); have HX5 := hide (HBX.out.below hb5); have c5 := HX5.out.cell 0; have f5 := HX5.out.free 0; have HX6 := hide (HX5.out.put 0 (.int .i64 0)); have c6 := HX6.out.cell 0; simp only [List.set, List.getElem?_cons_zero] at c5 c6; clear hb5)
      go_ret
      refine ⟨by rw [HRV.out]; rfl, ?_⟩
      rw [HRE.out]
      exact ⟨HB5.out.setCell (Nat.le_refl _) _, HX6.out⟩
    · rw [show resI r = .tuple #[.string ⟨#[]⟩, .int .i64 11] from by unfold resI; rw [if_pos (by have : ¬ lenI r ≤ 1024 := hl; omega)]] at HOP
      have HRV : Hid (doZ true r = 0) := by show doZ true r = 0; unfold doZ; rw [if_neg (by simpa using hl)]
      have HRE : Hid (doE true r = false) := by show doE true r = false; unfold doE; simpa using hl
      clear hl
      go_enter Tryz.func62, Tryz.ntmps62
      go_wp2_with (go_at_call 72; (with_reducible refine HOP.out.mono ?_); rintro ec w5 ⟨rfl, hb5⟩; have HB5 := hide (HB.out.trans (hb5.mono (Nat.le_of_lt HBX.out.lt))); have HX5 := hide (HBX.out.below hb5); have c5 := HX5.out.cell 0; have f5 := HX5.out.free 0; have HX6 := hide (HX5.out.put 0 (.int .i64 11)); have c6 := HX6.out.cell 0; simp only [List.set, List.getElem?_cons_zero] at c5 c6; clear hb5)
      go_ret
      refine ⟨by rw [HRV.out]; rfl, ?_⟩
      rw [HRE.out]
      exact ⟨HB5.out.setCell (Nat.le_refl _) _, HX6.out⟩
  · obtain rfl : ok = false := by simpa using hok
    have c0 : w.cell? ⟨W.heap.size, 0, none⟩ = some (.int .i64 11) := c0
    clear hok
    go_enter Tryz.func62, Tryz.ntmps62
    go_wp2_with fail
    go_ret
    exact ⟨rfl, HB.out, HBX.out⟩
end Go.Proofs.YthpknfoahimopaaGreatDoor

set_option linter.unusedVariables false
set_option linter.unusedSimpArgs false
set_option linter.unnecessarySimpa false
namespace Go.Proofs.YthpknfoahimopaaGreatDoor
open Go.RowKit

/-- Two terms, computed by steps. -/
def TermsPost (W : World) (n m : Int) (k : Bool) (e : Ending) (w' : World) : Prop :=
  ∃ x y, e = .returned (.tuple #[.string (strN (txtI x)), .string (strN (txtI y))]) ∧ Lim x ∧ Lim y ∧ Stp W w' k ∧ (k = true → x = n ∧ y = m)
/-- A fraction in a box. -/
def FBox (w : World) (A : Nat) (p q : Int) : Prop := Box w A [.string (strN (txtI p)), .string (strN (txtI q))] 26
theorem FBox.at {W w : World} {A : Nat} {p q : Int} {k : Bool} (h : FBox W A p q) (hs : Stp W w k) : FBox w A p q := Box.below h hs.1
theorem FBox.cells {w : World} {A B : Nat} {p q r s : Int} (h : FBox w A p q) (h' : FBox w B r s) : w.cell? ⟨A, 0, none⟩ = some (.string (strN (txtI p))) ∧ w.cell? ⟨A, 1, none⟩ = some (.string (strN (txtI q))) ∧ w.cell? ⟨B, 0, none⟩ = some (.string (strN (txtI r))) ∧ w.cell? ⟨B, 1, none⟩ = some (.string (strN (txtI s))) :=
  ⟨Box.cell h 0, Box.cell h 1, Box.cell h' 0, Box.cell h' 1⟩
theorem Stp.draw {W w : World} {k : Bool} (h : Stp W w k) : Stp W w.drew k := ⟨h.1.drew, h.2.draw⟩
theorem doE_left {k : Bool} {r : Int} (h : doE k r = true) : k = true := by
  unfold doE at h
  simp at h
  exact h.1
/-- Two terms of a sum or a difference, computed by steps: n and m are the crossed products, o is what becomes of them, d the product of the denominators. -/
def combK (n m o d : Int) : Bool := doE (doE (doE (doE true n) m) o) d
def CombPost (W : World) (n m o d : Int) (e : Ending) (w' : World) : Prop :=
  ∃ x y k, e = .returned (.tuple #[.string (strN (txtI x)), .string (strN (txtI y))]) ∧ Lim x ∧ Lim y ∧ Stp W w' k ∧ k = combK n m o d ∧ (k = true → x = o ∧ y = d)
theorem cells5 {w : World} {C : Nat} {v : Value} {t : TypeId} {p : Prop} (h : Box w C [v] t) (hp : p) : w.cell? ⟨C, 0, none⟩ = some v ∧ p := ⟨h.cell 0, hp⟩
theorem combK_eq {x y n m d : Int} {k : Bool} {f : Int → Int → Int} (h : k = true → x = n ∧ y = m) : doE (doE k (f x y)) d = doE (doE k (f n m)) d := by
  cases k
  · rfl
  · obtain ⟨rfl, rfl⟩ := h rfl
    rfl
set_option maxRecDepth 100000 in
set_option maxHeartbeats 4000000 in
theorem mul_terms {p q r s : Int} (hp : Lim p) (hq : Lim q) (hr : Lim r) (hs : Lim s) {W w : World} {A B : Nat} (ht : Tbl W) (hst : Stp W w true) (hA : FBox W A p q) (hB : FBox W B r s) :
    Calls Tryz.prog 61 #[.pointer (some ⟨W.heap.size, 0, none⟩), .pointer (some ⟨A, 0, none⟩), .pointer (some ⟨B, 0, none⟩)] w (TermsPost W (p * r) (q * s) (doE (doE true (p * r)) (q * s))) := by
  have HS := hide hst.draw
  have HA := hide hA
  have HB := hide hB
  have HC : Hid (_ ∧ _) := (hA.at hst.draw).cells (hB.at hst.draw)
  have H1 : Hid (∀ w k, Stp W w k → Calls Tryz.prog 62 #[.pointer (some ⟨W.heap.size, 0, none⟩), .func (.func 44) #[] #[], .string (strN (txtI p)), .string (strN (txtI r))] w (DoPost W k (p * r))) := fun w k h => fdo_mul hp hr ht h
  have H2 : Hid (∀ w k, Stp W w k → Calls Tryz.prog 62 #[.pointer (some ⟨W.heap.size, 0, none⟩), .func (.func 44) #[] #[], .string (strN (txtI q)), .string (strN (txtI s))] w (DoPost W k (q * s))) := fun w k h => fdo_mul hq hs ht h
  clear hst hA hB hp hq hr hs ht
  go_enter Tryz.func61, Tryz.ntmps61
  go_upto_region 1 with fail
  go_region_held3 (fun w' => w'.cell? ⟨A, 0, none⟩ = some (.string (strN (txtI p))) ∧ w'.cell? ⟨A, 1, none⟩ = some (.string (strN (txtI q))) ∧ w'.cell? ⟨B, 0, none⟩ = some (.string (strN (txtI r))) ∧ w'.cell? ⟨B, 1, none⟩ = some (.string (strN (txtI s)))) (first | with_reducible exact HC.out) (first
    | (go_at_call 62; (with_reducible refine (H1.out _ _ HS.out).mono ?_); rintro ec wz ⟨rfl, hbz⟩; have HC : Hid (_ ∧ _) := (HA.out.at hbz).cells (HB.out.at hbz); have HS := hide hbz; clear hbz)
    | (go_at_call 62; (with_reducible refine (H2.out _ _ HS.out).mono ?_); rintro ec wz ⟨rfl, hbz⟩; have HC : Hid (_ ∧ _) := (HA.out.at hbz).cells (HB.out.at hbz); have HS := hide hbz; clear hbz))
  go_wp2_with fail
  go_ret2
  exact ⟨_, _, rfl, lim_doZ _ _, lim_doZ _ _, HS.out, fun hk => ⟨doZ_ok (doE_left hk), doZ_ok hk⟩⟩
set_option maxRecDepth 100000 in
set_option maxHeartbeats 4000000 in
theorem div_terms {p q r s : Int} (hp : Lim p) (hq : Lim q) (hr : Lim r) (hs : Lim s) {W w : World} {A B : Nat} (ht : Tbl W) (hst : Stp W w true) (hA : FBox W A p q) (hB : FBox W B r s) :
    Calls Tryz.prog 78 #[.pointer (some ⟨W.heap.size, 0, none⟩), .pointer (some ⟨A, 0, none⟩), .pointer (some ⟨B, 0, none⟩)] w (TermsPost W (p * s) (q * r) (doE (doE true (p * s)) (q * r))) := by
  have HS := hide hst.draw
  have HA := hide hA
  have HB := hide hB
  have HC : Hid (_ ∧ _) := (hA.at hst.draw).cells (hB.at hst.draw)
  have H1 : Hid (∀ w k, Stp W w k → Calls Tryz.prog 62 #[.pointer (some ⟨W.heap.size, 0, none⟩), .func (.func 44) #[] #[], .string (strN (txtI p)), .string (strN (txtI s))] w (DoPost W k (p * s))) := fun w k h => fdo_mul hp hs ht h
  have H2 : Hid (∀ w k, Stp W w k → Calls Tryz.prog 62 #[.pointer (some ⟨W.heap.size, 0, none⟩), .func (.func 44) #[] #[], .string (strN (txtI q)), .string (strN (txtI r))] w (DoPost W k (q * r))) := fun w k h => fdo_mul hq hr ht h
  clear hst hA hB hp hq hr hs ht
  go_enter Tryz.func78, Tryz.ntmps78
  go_upto_region 1 with fail
  go_region_held3 (fun w' => w'.cell? ⟨A, 0, none⟩ = some (.string (strN (txtI p))) ∧ w'.cell? ⟨A, 1, none⟩ = some (.string (strN (txtI q))) ∧ w'.cell? ⟨B, 0, none⟩ = some (.string (strN (txtI r))) ∧ w'.cell? ⟨B, 1, none⟩ = some (.string (strN (txtI s)))) (first | with_reducible exact HC.out) (first
    | (go_at_call 62; (with_reducible refine (H1.out _ _ HS.out).mono ?_); rintro ec wz ⟨rfl, hbz⟩; have HC : Hid (_ ∧ _) := (HA.out.at hbz).cells (HB.out.at hbz); have HS := hide hbz; clear hbz)
    | (go_at_call 62; (with_reducible refine (H2.out _ _ HS.out).mono ?_); rintro ec wz ⟨rfl, hbz⟩; have HC : Hid (_ ∧ _) := (HA.out.at hbz).cells (HB.out.at hbz); have HS := hide hbz; clear hbz))
  go_wp2_with fail
  go_ret2
  exact ⟨_, _, rfl, lim_doZ _ _, lim_doZ _ _, HS.out, fun hk => ⟨doZ_ok (doE_left hk), doZ_ok hk⟩⟩
set_option maxRecDepth 100000 in
set_option maxHeartbeats 4000000 in
theorem comb_terms_add {p q r s : Int} (hp : Lim p) (hq : Lim q) (hr : Lim r) (hs : Lim s) {W w : World} {A B C : Nat} (ht : Tbl W) (hst : Stp W w true) (hA : FBox W A p q) (hB : FBox W B r s) (hC : Box W C [.func (.func 59) #[] #[]] 69) :
    Calls Tryz.prog 99 #[.pointer (some ⟨W.heap.size, 0, none⟩), .pointer (some ⟨A, 0, none⟩), .pointer (some ⟨B, 0, none⟩), .pointer (some ⟨C, 0, none⟩)] w (CombPost W (p * s) (r * q) (p * s + r * q) (q * s)) := by
  have HS := hide hst.draw
  have HA := hide hA
  have HB := hide hB
  have HCB := hide hC
  have HC : Hid (_ ∧ _) := (hA.at hst.draw).cells (hB.at hst.draw)
  have H1 : Hid (∀ w k, Stp W w k → Calls Tryz.prog 62 #[.pointer (some ⟨W.heap.size, 0, none⟩), .func (.func 44) #[] #[], .string (strN (txtI p)), .string (strN (txtI s))] w (DoPost W k (p * s))) := fun w k h => fdo_mul hp hs ht h
  have H2 : Hid (∀ w k, Stp W w k → Calls Tryz.prog 62 #[.pointer (some ⟨W.heap.size, 0, none⟩), .func (.func 44) #[] #[], .string (strN (txtI r)), .string (strN (txtI q))] w (DoPost W k (r * q))) := fun w k h => fdo_mul hr hq ht h
  have H3 : Hid (∀ w k x y, Lim x → Lim y → Stp W w k → Calls Tryz.prog 62 #[.pointer (some ⟨W.heap.size, 0, none⟩), .func (.func 59) #[] #[], .string (strN (txtI x)), .string (strN (txtI y))] w (DoPost W k (x + y))) := fun w k x y h1 h2 h => fdo_add h1 h2 ht h
  have H4 : Hid (∀ w k, Stp W w k → Calls Tryz.prog 62 #[.pointer (some ⟨W.heap.size, 0, none⟩), .func (.func 44) #[] #[], .string (strN (txtI q)), .string (strN (txtI s))] w (DoPost W k (q * s))) := fun w k h => fdo_mul hq hs ht h
  clear hst hA hB hC hp hq hr hs ht
  go_enter Tryz.func99, Tryz.ntmps99
  go_upto_region 1 with fail
  go_region_held3 (fun w' => w'.cell? ⟨A, 0, none⟩ = some (.string (strN (txtI p))) ∧ w'.cell? ⟨A, 1, none⟩ = some (.string (strN (txtI q))) ∧ w'.cell? ⟨B, 0, none⟩ = some (.string (strN (txtI r))) ∧ w'.cell? ⟨B, 1, none⟩ = some (.string (strN (txtI s)))) (first | with_reducible exact HC.out) (first
    | (go_at_call 62; (with_reducible refine (H1.out _ _ HS.out).mono ?_); rintro ec wz ⟨rfl, hbz⟩; have HC : Hid (_ ∧ _) := (HA.out.at hbz).cells (HB.out.at hbz); have HS := hide hbz; clear hbz)
    | (go_at_call 62; (with_reducible refine (H2.out _ _ HS.out).mono ?_); rintro ec wz ⟨rfl, hbz⟩; have HC : Hid (_ ∧ _) := (HA.out.at hbz).cells (HB.out.at hbz); have HS := hide hbz; clear hbz))
  go_upto_region 2 with fail
  have HX := hide (lim_doZ true (p * s))
  have HY := hide (lim_doZ (doE true (p * s)) (r * q))
  have HV : Hid (doE (doE true (p * s)) (r * q) = true → doZ true (p * s) = p * s ∧ doZ (doE true (p * s)) (r * q) = r * q) := fun hk => ⟨doZ_ok (doE_left hk), doZ_ok hk⟩
  obtain ⟨k, hk⟩ : ∃ k, k = doE (doE true (p * s)) (r * q) := ⟨_, rfl⟩
  rw [← hk] at HS HV
  have HK := hide hk
  clear hk
  generalize doZ true (p * s) = x at *
  generalize doZ (doE true (p * s)) (r * q) = y at *
  have HC : Hid (_ ∧ _ ∧ _) := cells5 (HCB.out.below HS.out.draw.1) ((HA.out.at HS.out.draw).cells (HB.out.at HS.out.draw))
  have HS := hide HS.out.draw
  go_region_held3 (fun w' => w'.cell? ⟨C, 0, none⟩ = some (.func (.func 59) #[] #[]) ∧ w'.cell? ⟨A, 0, none⟩ = some (.string (strN (txtI p))) ∧ w'.cell? ⟨A, 1, none⟩ = some (.string (strN (txtI q))) ∧ w'.cell? ⟨B, 0, none⟩ = some (.string (strN (txtI r))) ∧ w'.cell? ⟨B, 1, none⟩ = some (.string (strN (txtI s)))) (first | with_reducible exact HC.out) (first
    | (go_at_call 62; (with_reducible refine (H3.out _ _ _ _ HX.out HY.out HS.out).mono ?_); rintro ec wz ⟨rfl, hbz⟩; have HC : Hid (_ ∧ _ ∧ _) := cells5 (HCB.out.below hbz.1) ((HA.out.at hbz).cells (HB.out.at hbz)); have HS := hide hbz; clear hbz)
    | (go_at_call 62; (with_reducible refine (H4.out _ _ HS.out).mono ?_); rintro ec wz ⟨rfl, hbz⟩; have HC : Hid (_ ∧ _ ∧ _) := cells5 (HCB.out.below hbz.1) ((HA.out.at hbz).cells (HB.out.at hbz)); have HS := hide hbz; clear hbz))
  go_wp2_with fail
  go_ret2
  refine ⟨_, _, _, rfl, lim_doZ _ _, lim_doZ _ _, HS.out, ?_, fun h => ?_⟩
  · rw [combK_eq (f := fun x y => x + y) HV.out, HK.out]; rfl
  · obtain ⟨rfl, rfl⟩ := HV.out (doE_left (doE_left h))
    exact ⟨doZ_ok (doE_left h), doZ_ok h⟩
set_option maxRecDepth 100000 in
set_option maxHeartbeats 4000000 in
theorem comb_terms_sub {p q r s : Int} (hp : Lim p) (hq : Lim q) (hr : Lim r) (hs : Lim s) {W w : World} {A B C : Nat} (ht : Tbl W) (hst : Stp W w true) (hA : FBox W A p q) (hB : FBox W B r s) (hC : Box W C [.func (.func 72) #[] #[]] 69) :
    Calls Tryz.prog 99 #[.pointer (some ⟨W.heap.size, 0, none⟩), .pointer (some ⟨A, 0, none⟩), .pointer (some ⟨B, 0, none⟩), .pointer (some ⟨C, 0, none⟩)] w (CombPost W (p * s) (r * q) (p * s - r * q) (q * s)) := by
  have HS := hide hst.draw
  have HA := hide hA
  have HB := hide hB
  have HCB := hide hC
  have HC : Hid (_ ∧ _) := (hA.at hst.draw).cells (hB.at hst.draw)
  have H1 : Hid (∀ w k, Stp W w k → Calls Tryz.prog 62 #[.pointer (some ⟨W.heap.size, 0, none⟩), .func (.func 44) #[] #[], .string (strN (txtI p)), .string (strN (txtI s))] w (DoPost W k (p * s))) := fun w k h => fdo_mul hp hs ht h
  have H2 : Hid (∀ w k, Stp W w k → Calls Tryz.prog 62 #[.pointer (some ⟨W.heap.size, 0, none⟩), .func (.func 44) #[] #[], .string (strN (txtI r)), .string (strN (txtI q))] w (DoPost W k (r * q))) := fun w k h => fdo_mul hr hq ht h
  have H3 : Hid (∀ w k x y, Lim x → Lim y → Stp W w k → Calls Tryz.prog 62 #[.pointer (some ⟨W.heap.size, 0, none⟩), .func (.func 72) #[] #[], .string (strN (txtI x)), .string (strN (txtI y))] w (DoPost W k (x - y))) := fun w k x y h1 h2 h => fdo_sub h1 h2 ht h
  have H4 : Hid (∀ w k, Stp W w k → Calls Tryz.prog 62 #[.pointer (some ⟨W.heap.size, 0, none⟩), .func (.func 44) #[] #[], .string (strN (txtI q)), .string (strN (txtI s))] w (DoPost W k (q * s))) := fun w k h => fdo_mul hq hs ht h
  clear hst hA hB hC hp hq hr hs ht
  go_enter Tryz.func99, Tryz.ntmps99
  go_upto_region 1 with fail
  go_region_held3 (fun w' => w'.cell? ⟨A, 0, none⟩ = some (.string (strN (txtI p))) ∧ w'.cell? ⟨A, 1, none⟩ = some (.string (strN (txtI q))) ∧ w'.cell? ⟨B, 0, none⟩ = some (.string (strN (txtI r))) ∧ w'.cell? ⟨B, 1, none⟩ = some (.string (strN (txtI s)))) (first | with_reducible exact HC.out) (first
    | (go_at_call 62; (with_reducible refine (H1.out _ _ HS.out).mono ?_); rintro ec wz ⟨rfl, hbz⟩; have HC : Hid (_ ∧ _) := (HA.out.at hbz).cells (HB.out.at hbz); have HS := hide hbz; clear hbz)
    | (go_at_call 62; (with_reducible refine (H2.out _ _ HS.out).mono ?_); rintro ec wz ⟨rfl, hbz⟩; have HC : Hid (_ ∧ _) := (HA.out.at hbz).cells (HB.out.at hbz); have HS := hide hbz; clear hbz))
  go_upto_region 2 with fail
  have HX := hide (lim_doZ true (p * s))
  have HY := hide (lim_doZ (doE true (p * s)) (r * q))
  have HV : Hid (doE (doE true (p * s)) (r * q) = true → doZ true (p * s) = p * s ∧ doZ (doE true (p * s)) (r * q) = r * q) := fun hk => ⟨doZ_ok (doE_left hk), doZ_ok hk⟩
  obtain ⟨k, hk⟩ : ∃ k, k = doE (doE true (p * s)) (r * q) := ⟨_, rfl⟩
  rw [← hk] at HS HV
  have HK := hide hk
  clear hk
  generalize doZ true (p * s) = x at *
  generalize doZ (doE true (p * s)) (r * q) = y at *
  have HC : Hid (_ ∧ _ ∧ _) := cells5 (HCB.out.below HS.out.draw.1) ((HA.out.at HS.out.draw).cells (HB.out.at HS.out.draw))
  have HS := hide HS.out.draw
  go_region_held3 (fun w' => w'.cell? ⟨C, 0, none⟩ = some (.func (.func 72) #[] #[]) ∧ w'.cell? ⟨A, 0, none⟩ = some (.string (strN (txtI p))) ∧ w'.cell? ⟨A, 1, none⟩ = some (.string (strN (txtI q))) ∧ w'.cell? ⟨B, 0, none⟩ = some (.string (strN (txtI r))) ∧ w'.cell? ⟨B, 1, none⟩ = some (.string (strN (txtI s)))) (first | with_reducible exact HC.out) (first
    | (go_at_call 62; (with_reducible refine (H3.out _ _ _ _ HX.out HY.out HS.out).mono ?_); rintro ec wz ⟨rfl, hbz⟩; have HC : Hid (_ ∧ _ ∧ _) := cells5 (HCB.out.below hbz.1) ((HA.out.at hbz).cells (HB.out.at hbz)); have HS := hide hbz; clear hbz)
    | (go_at_call 62; (with_reducible refine (H4.out _ _ HS.out).mono ?_); rintro ec wz ⟨rfl, hbz⟩; have HC : Hid (_ ∧ _ ∧ _) := cells5 (HCB.out.below hbz.1) ((HA.out.at hbz).cells (HB.out.at hbz)); have HS := hide hbz; clear hbz))
  go_wp2_with fail
  go_ret2
  refine ⟨_, _, _, rfl, lim_doZ _ _, lim_doZ _ _, HS.out, ?_, fun h => ?_⟩
  · rw [combK_eq (f := fun x y => x - y) HV.out, HK.out]; rfl
  · obtain ⟨rfl, rfl⟩ := HV.out (doE_left (doE_left h))
    exact ⟨doZ_ok (doE_left h), doZ_ok h⟩
end Go.Proofs.YthpknfoahimopaaGreatDoor

set_option linter.unusedVariables false
set_option linter.unusedSimpArgs false
set_option linter.unnecessarySimpa false
namespace Go.Proofs.YthpknfoahimopaaGreatDoor
open Go.RowKit

/-- A right fraction of short numbers. -/
structure Good (p q : Int) : Prop where
  num : Lim p
  den : Lim q
  low : LowQ p q
theorem strN_data (l : List UInt8) : (strN l).data.toList = l := by simp [strN]
theorem Good.chk {p q : Int} (h : Good p q) : chkF (strN (txtI p)).data.toList (strN (txtI q)).data.toList = 0 := by
  unfold chkF
  rw [strN_data, strN_data, chk_lim h.num, chk_lim h.den, if_neg (by simp), if_neg (by simp), readI_txtI, readI_txtI]
  exact if_pos h.low
theorem lim_size {z : Int} (h : Lim z) : (strN (txtI z)).size ≤ 140737488355328 := by
  have h1 := txtI_len z
  have h2 : lenI z ≤ 1024 := h
  show (txtI z).length ≤ _
  omega
/-- Two texts and the number of an error. -/
def frT (a b : ByteArray) (e : Int) : Value := .tuple #[.agg #[.string a, .string b], .int .i64 e]
/-- What an operation returns: a fraction, or the error of too long numbers. -/
def opV (k : Bool) (x : Int × Int) : Value := if k then frT (strN (txtI x.1)) (strN (txtI x.2)) 0 else frT ⟨#[]⟩ ⟨#[]⟩ 11
theorem opV_frT (k : Bool) (x : Int × Int) : ∃ a b e, opV k x = frT a b e := by
  unfold opV
  split <;> exact ⟨_, _, _, rfl⟩
theorem CombPost.terms {W : World} {n m o d : Int} {e : Ending} {w' : World} (h : CombPost W n m o d e w') : TermsPost W o d (combK n m o d) e w' := by
  obtain ⟨x, y, k, he, h1, h2, h3, rfl, h5⟩ := h
  exact ⟨x, y, he, h1, h2, h3, h5⟩
/-- The three boxes of a function with two fractions. -/
abbrev W3 (w : World) (s t u v : ByteArray) : World := ((w.alloc (.cells #[.string s, .string t] 26)).alloc (.cells #[.string u, .string v] 26)).alloc (.cells #[.string ⟨#[]⟩, .string ⟨#[]⟩] 26)
theorem W3.low (w : World) (s t u v : ByteArray) : Below w.heap.size w (W3 w s t u v) := bnew (bnew (bnew (Below.refl _ _) _) _) _
theorem W3.a (w : World) (s t u v : ByteArray) : Box (W3 w s t u v) w.heap.size [.string s, .string t] 26 := ((Box.new w _ _).next _).next _
theorem W3.b (w : World) (s t u v : ByteArray) : Box (W3 w s t u v) (w.heap.size + 1) [.string u, .string v] 26 := by
  have h5 := Box.new (w.alloc (.cells #[.string s, .string t] 26)) [.string u, .string v] 26
  rw [World.size_alloc] at h5
  exact h5.next _
theorem W3.c (w : World) (s t u v : ByteArray) : Box (W3 w s t u v) (w.heap.size + 1 + 1) [.string ⟨#[]⟩, .string ⟨#[]⟩] 26 := by
  have h5 := Box.new ((w.alloc (.cells #[.string s, .string t] 26)).alloc (.cells #[.string u, .string v] 26)) [.string ⟨#[]⟩, .string ⟨#[]⟩] 26
  rw [World.size_alloc, World.size_alloc] at h5
  exact h5
theorem Box.two {w : World} {B : Nat} {u v : Value} {t : TypeId} (h : Box w B [u, v] t) : w.cell? ⟨B, 0, none⟩ = some u ∧ w.cell? ⟨B, 1, none⟩ = some v ∧ w.frozen? ⟨B, 0, none⟩ = false ∧ w.frozen? ⟨B, 1, none⟩ = false := ⟨h.cell 0, h.cell 1, h.free 0, h.free 1⟩
theorem Box.past {w : World} {B C : Nat} {cs : List Value} {t : TypeId} (h : Box w B cs t) (hne : B ≠ C) (a b : Value) : ((w.setCell ⟨C, 0, none⟩ a).setCell ⟨C, 1, none⟩ b).cell? ⟨B, 0, none⟩ = cs[0]? := ((h.other (p := ⟨C, 0, none⟩) hne a).other (p := ⟨C, 1, none⟩) hne b).cell 0
theorem Box.full {w : World} {B : Nat} {u v a b : Value} {t : TypeId} (h : Box w B [u, v] t) : ((w.setCell ⟨B, 0, none⟩ a).setCell ⟨B, 1, none⟩ b).cell? ⟨B, 0, none⟩ = some a ∧ ((w.setCell ⟨B, 0, none⟩ a).setCell ⟨B, 1, none⟩ b).cell? ⟨B, 1, none⟩ = some b := ⟨((h.put 0 a).put 1 b).cell 0, ((h.put 0 a).put 1 b).cell 1⟩
set_option maxRecDepth 100000 in
set_option maxHeartbeats 4000000 in
theorem made_bad (s t u v : ByteArray) (f : Value) {e : Int} (he0 : e ≠ 0) {w : World}
    (HBO : Calls Tryz.prog 77 #[.agg #[.string s, .string t], .agg #[.string u, .string v]] (W3 w s t u v) fun r w' => r = .returned (.int .i64 e) ∧ Below (W3 w s t u v).heap.size (W3 w s t u v) w') :
    Calls Tryz.prog 60 #[.agg #[.string s, .string t], .agg #[.string u, .string v], f] w fun r w' => r = .returned (frT ⟨#[]⟩ ⟨#[]⟩ e) ∧ Below w.heap.size w w' := by
  have H1 := hide HBO
  have HW := hide (W3.low w s t u v)
  have HX := hide (W3.c w s t u v)
  have tq : (e != 0) = true := by simpa using he0
  unfold frT
  clear HBO he0
  go_enter Tryz.func60, Tryz.ntmps60
  go_wp2_with (go_at_call 77; (with_reducible refine H1.out.mono ?_); rintro ec w5 ⟨rfl, hb5⟩; have HB5 := hide (below_then HW.out hb5); have HX5 := hide (HX.out.below hb5); obtain ⟨c0, c1, f0, f1⟩ := HX5.out.two; clear hb5)
  obtain ⟨j0, j1⟩ := HX5.out.full (a := .string ⟨#[]⟩) (b := .string ⟨#[]⟩)
  refine bodyPost_ret (v := .tuple #[.agg #[.string ⟨#[]⟩, .string ⟨#[]⟩], .int .i64 e]) (by simp [results, Tryz.results60, go_sem, j0, j1]) rfl ⟨rfl, ?_⟩
  exact ((HB5.out.setCell (by show w.heap.size ≤ w.heap.size + 1 + 1; omega) _).setCell (by show w.heap.size ≤ w.heap.size + 1 + 1; omega) _)
set_option maxRecDepth 100000 in
set_option maxHeartbeats 4000000 in
theorem made_mul {p q r s : Int} (h1 : Good p q) (h2 : Good r s) {w : World} {A B : Nat} (ht : Tbl w) (hA : FBox w A p q) (hB : FBox w B r s) :
    Calls Tryz.prog 60 #[.agg #[.string (strN (txtI p)), .string (strN (txtI q))], .agg #[.string (strN (txtI r)), .string (strN (txtI s))], .func (.func 61) #[] #[.pointer (some ⟨A, 0, none⟩), .pointer (some ⟨B, 0, none⟩)]] w fun e w' => e = .returned (opV (doE (doE true (p * r)) (q * s)) (lowF (p * r) (q * s))) ∧ Below w.heap.size w w' := by
  have hm0 : q * s ≠ 0 := by have h5 := Int.mul_pos h1.low.1 h2.low.1; omega
  have HT := hide ht
  have H1 : Hid (∀ w', Below w.heap.size w w' → Calls Tryz.prog 77 #[.agg #[.string (strN (txtI p)), .string (strN (txtI q))], .agg #[.string (strN (txtI r)), .string (strN (txtI s))]] w' fun r w2 => r = .returned (.int .i64 0) ∧ Below w'.heap.size w' w2) := fun w' hb => fboth_any _ _ _ _ (lim_size h1.num) (lim_size h1.den) (lim_size h2.num) (lim_size h2.den) h1.chk h2.chk rfl (ht.below hb)
  have H2 : Hid (∀ W w6, Below w.heap.size w W → Stp W w6 true → Calls Tryz.prog 61 #[.pointer (some ⟨W.heap.size, 0, none⟩), .pointer (some ⟨A, 0, none⟩), .pointer (some ⟨B, 0, none⟩)] w6 (TermsPost W (p * r) (q * s) (doE (doE true (p * r)) (q * s)))) := fun W w6 hb hst => mul_terms h1.num h1.den h2.num h2.den (ht.below hb) hst (Box.below hA hb) (Box.below hB hb)
  obtain ⟨k, hk⟩ : ∃ k, k = doE (doE true (p * r)) (q * s) := ⟨_, rfl⟩
  obtain ⟨n, hn⟩ : ∃ n, n = p * r := ⟨_, rfl⟩
  obtain ⟨m, hm⟩ : ∃ m, m = q * s := ⟨_, rfl⟩
  rw [← hk, ← hn, ← hm] at H2 ⊢
  rw [← hm] at hm0
  have HM0 := hide hm0
  obtain ⟨sp, hsp⟩ : ∃ sp, sp = strN (txtI p) := ⟨_, rfl⟩
  obtain ⟨sq, hsq⟩ : ∃ sq, sq = strN (txtI q) := ⟨_, rfl⟩
  obtain ⟨sr, hsr⟩ : ∃ sr, sr = strN (txtI r) := ⟨_, rfl⟩
  obtain ⟨ss, hss⟩ : ∃ ss, ss = strN (txtI s) := ⟨_, rfl⟩
  rw [← hsp, ← hsq, ← hsr, ← hss] at H1 ⊢
  have HW := hide (W3.low w sp sq sr ss)
  have HX := hide (W3.c w sp sq sr ss)
  clear ht hA hB h1 h2 hk hn hm hsp hsq hsr hss hm0
  cases k
  · unfold opV frT
    rw [if_neg (by simp)]
    go_enter Tryz.func60, Tryz.ntmps60
    go_wp2_with (first
      | (go_at_call 77; (with_reducible refine (H1.out _ HW.out).mono ?_); rintro ec w5 ⟨rfl, hb5⟩; have HB5 := hide (below_then HW.out hb5); have HX5 := hide (HX.out.below hb5); have HST : Hid (Stp w5 (w5.alloc (.cells #[.int .i64 0] 97)) true) := ⟨bnew (Below.refl _ _) _, Box.new _ _ _⟩; clear hb5)
      | (go_at_call 61; (with_reducible refine (H2.out _ _ HB5.out HST.out).mono ?_); rintro ec w6 ⟨x, y, rfl, hx, hy, hst, hv⟩; have HS6 := hide hst; have HB6 := hide (below_then HB5.out hst.1); have HX6 := hide (HX5.out.below hst.1); have c6 := hst.2.cell 0; simp only [List.getElem?_cons_zero] at c6; have c6 : w6.cell? ⟨w5.heap.size, 0, none⟩ = some (.int .i64 11) := c6; obtain ⟨d0, d1, f0, f1⟩ := HX6.out.two; clear hx hy hst hv))
    have q7 : ((w6.setCell ⟨w.heap.size + 1 + 1, 0, none⟩ (.string ⟨#[]⟩)).setCell ⟨w.heap.size + 1 + 1, 1, none⟩ (.string ⟨#[]⟩)).cell? ⟨w5.heap.size, 0, none⟩ = some (.int .i64 11) := HS6.out.2.past (by have h5 := HX5.out.lt; omega) _ _
    have q8 : ((w6.setCell ⟨w.heap.size + 1 + 1, 0, none⟩ (.string ⟨#[]⟩)).setCell ⟨w.heap.size + 1 + 1, 1, none⟩ (.string ⟨#[]⟩)).drew.cell? ⟨w5.heap.size, 0, none⟩ = some (.int .i64 11) := q7
    obtain ⟨j0, j1⟩ := HX6.out.full (a := .string ⟨#[]⟩) (b := .string ⟨#[]⟩)
    have j2 : ((w6.setCell ⟨w.heap.size + 1 + 1, 0, none⟩ (.string ⟨#[]⟩)).setCell ⟨w.heap.size + 1 + 1, 1, none⟩ (.string ⟨#[]⟩)).drew.cell? ⟨w.heap.size + 1 + 1, 0, none⟩ = some (.string ⟨#[]⟩) := j0
    have j3 : ((w6.setCell ⟨w.heap.size + 1 + 1, 0, none⟩ (.string ⟨#[]⟩)).setCell ⟨w.heap.size + 1 + 1, 1, none⟩ (.string ⟨#[]⟩)).drew.cell? ⟨w.heap.size + 1 + 1, 1, none⟩ = some (.string ⟨#[]⟩) := j1
    have HBF : Hid (Below w.heap.size w ((w6.setCell ⟨w.heap.size + 1 + 1, 0, none⟩ (.string ⟨#[]⟩)).setCell ⟨w.heap.size + 1 + 1, 1, none⟩ (.string ⟨#[]⟩)).drew) := ((HB6.out.setCell (by show w.heap.size ≤ w.heap.size + 1 + 1; omega) _).setCell (by show w.heap.size ≤ w.heap.size + 1 + 1; omega) _).drew
    go_region
    all_goals go_wp2_with fail
    all_goals exact bodyPost_ret (v := .tuple #[.agg #[.string ⟨#[]⟩, .string ⟨#[]⟩], .int .i64 11]) (by simp [results, Tryz.results60, go_sem, j0, j1, j2, j3, errK]) rfl ⟨rfl, HBF.out⟩
  · unfold opV frT
    rw [if_pos rfl]
    have HMK : Hid (∀ w', Lim n → Lim m → Below w.heap.size w w' → Calls Tryz.prog 12 #[.string (strN (txtI n)), .string (strN (txtI m))] w' fun e w2 => e = .returned (.tuple #[fracV (lowF n m), .int .i64 0]) ∧ Below w'.heap.size w' w2) := fun w' h1 h2 hb => fmake_any h1 h2 HM0.out (HT.out.below hb)
    unfold fracV at HMK
    obtain ⟨a, ha⟩ : ∃ a, a = strN (txtI (lowF n m).1) := ⟨_, rfl⟩
    obtain ⟨b, hb⟩ : ∃ b, b = strN (txtI (lowF n m).2) := ⟨_, rfl⟩
    rw [← ha, ← hb] at HMK ⊢
    clear ha hb
    go_enter Tryz.func60, Tryz.ntmps60
    go_wp2_with (first
      | (go_at_call 77; (with_reducible refine (H1.out _ HW.out).mono ?_); rintro ec w5 ⟨rfl, hb5⟩; have HB5 := hide (below_then HW.out hb5); have HX5 := hide (HX.out.below hb5); have HST : Hid (Stp w5 (w5.alloc (.cells #[.int .i64 0] 97)) true) := ⟨bnew (Below.refl _ _) _, Box.new _ _ _⟩; clear hb5)
      | (go_at_call 61; (with_reducible refine (H2.out _ _ HB5.out HST.out).mono ?_); rintro ec w6 ⟨x, y, rfl, hx, hy, hst, hv⟩; obtain ⟨rfl, rfl⟩ := hv rfl; have HLX := hide hx; have HLY := hide hy; have HB6 := hide (below_then HB5.out hst.1); have HX6 := hide (HX5.out.below hst.1); have c6 := hst.2.cell 0; simp only [List.getElem?_cons_zero] at c6; have c6 : w6.cell? ⟨w5.heap.size, 0, none⟩ = some (.int .i64 0) := c6; clear hx hy hst hv)
      | (go_at_call 12; (with_reducible refine (HMK.out _ HLX.out HLY.out HB6.out).mono ?_); rintro ec w7 ⟨rfl, hb7⟩; have HB7 := hide (below_then HB6.out hb7); have HX7 := hide (HX6.out.below hb7); obtain ⟨d0, d1, f0, f1⟩ := HX7.out.two; clear hb7))
    obtain ⟨j0, j1⟩ := HX7.out.full (a := .string a) (b := .string b)
    refine bodyPost_ret (v := .tuple #[.agg #[.string a, .string b], .int .i64 0]) (by simp [results, Tryz.results60, go_sem, j0, j1]) rfl ⟨rfl, ?_⟩
    exact ((HB7.out.setCell (by show w.heap.size ≤ w.heap.size + 1 + 1; omega) _).setCell (by show w.heap.size ≤ w.heap.size + 1 + 1; omega) _)
set_option maxRecDepth 100000 in
set_option maxHeartbeats 4000000 in
theorem made_div {p q r s : Int} (h1 : Good p q) (h2 : Good r s) (hr0 : r ≠ 0) {w : World} {A B : Nat} (ht : Tbl w) (hA : FBox w A p q) (hB : FBox w B r s) :
    Calls Tryz.prog 60 #[.agg #[.string (strN (txtI p)), .string (strN (txtI q))], .agg #[.string (strN (txtI r)), .string (strN (txtI s))], .func (.func 78) #[] #[.pointer (some ⟨A, 0, none⟩), .pointer (some ⟨B, 0, none⟩)]] w fun e w' => e = .returned (opV (doE (doE true (p * s)) (q * r)) (lowF (p * s) (q * r))) ∧ Below w.heap.size w w' := by
  have hm0 : q * r ≠ 0 := Int.mul_ne_zero (by have h5 := h1.low.1; omega) hr0
  have HT := hide ht
  have H1 : Hid (∀ w', Below w.heap.size w w' → Calls Tryz.prog 77 #[.agg #[.string (strN (txtI p)), .string (strN (txtI q))], .agg #[.string (strN (txtI r)), .string (strN (txtI s))]] w' fun r w2 => r = .returned (.int .i64 0) ∧ Below w'.heap.size w' w2) := fun w' hb => fboth_any _ _ _ _ (lim_size h1.num) (lim_size h1.den) (lim_size h2.num) (lim_size h2.den) h1.chk h2.chk rfl (ht.below hb)
  have H2 : Hid (∀ W w6, Below w.heap.size w W → Stp W w6 true → Calls Tryz.prog 78 #[.pointer (some ⟨W.heap.size, 0, none⟩), .pointer (some ⟨A, 0, none⟩), .pointer (some ⟨B, 0, none⟩)] w6 (TermsPost W (p * s) (q * r) (doE (doE true (p * s)) (q * r)))) := fun W w6 hb hst => div_terms h1.num h1.den h2.num h2.den (ht.below hb) hst (Box.below hA hb) (Box.below hB hb)
  obtain ⟨k, hk⟩ : ∃ k, k = doE (doE true (p * s)) (q * r) := ⟨_, rfl⟩
  obtain ⟨n, hn⟩ : ∃ n, n = p * s := ⟨_, rfl⟩
  obtain ⟨m, hm⟩ : ∃ m, m = q * r := ⟨_, rfl⟩
  rw [← hk, ← hn, ← hm] at H2 ⊢
  rw [← hm] at hm0
  have HM0 := hide hm0
  obtain ⟨sp, hsp⟩ : ∃ sp, sp = strN (txtI p) := ⟨_, rfl⟩
  obtain ⟨sq, hsq⟩ : ∃ sq, sq = strN (txtI q) := ⟨_, rfl⟩
  obtain ⟨sr, hsr⟩ : ∃ sr, sr = strN (txtI r) := ⟨_, rfl⟩
  obtain ⟨ss, hss⟩ : ∃ ss, ss = strN (txtI s) := ⟨_, rfl⟩
  rw [← hsp, ← hsq, ← hsr, ← hss] at H1 ⊢
  have HW := hide (W3.low w sp sq sr ss)
  have HX := hide (W3.c w sp sq sr ss)
  clear ht hA hB h1 h2 hk hn hm hsp hsq hsr hss hm0 hr0
  cases k
  · unfold opV frT
    rw [if_neg (by simp)]
    go_enter Tryz.func60, Tryz.ntmps60
    go_wp2_with (first
      | (go_at_call 77; (with_reducible refine (H1.out _ HW.out).mono ?_); rintro ec w5 ⟨rfl, hb5⟩; have HB5 := hide (below_then HW.out hb5); have HX5 := hide (HX.out.below hb5); have HST : Hid (Stp w5 (w5.alloc (.cells #[.int .i64 0] 97)) true) := ⟨bnew (Below.refl _ _) _, Box.new _ _ _⟩; clear hb5)
      | (go_at_call 78; (with_reducible refine (H2.out _ _ HB5.out HST.out).mono ?_); rintro ec w6 ⟨x, y, rfl, hx, hy, hst, hv⟩; have HS6 := hide hst; have HB6 := hide (below_then HB5.out hst.1); have HX6 := hide (HX5.out.below hst.1); have c6 := hst.2.cell 0; simp only [List.getElem?_cons_zero] at c6; have c6 : w6.cell? ⟨w5.heap.size, 0, none⟩ = some (.int .i64 11) := c6; obtain ⟨d0, d1, f0, f1⟩ := HX6.out.two; clear hx hy hst hv))
    have q7 : ((w6.setCell ⟨w.heap.size + 1 + 1, 0, none⟩ (.string ⟨#[]⟩)).setCell ⟨w.heap.size + 1 + 1, 1, none⟩ (.string ⟨#[]⟩)).cell? ⟨w5.heap.size, 0, none⟩ = some (.int .i64 11) := HS6.out.2.past (by have h5 := HX5.out.lt; omega) _ _
    have q8 : ((w6.setCell ⟨w.heap.size + 1 + 1, 0, none⟩ (.string ⟨#[]⟩)).setCell ⟨w.heap.size + 1 + 1, 1, none⟩ (.string ⟨#[]⟩)).drew.cell? ⟨w5.heap.size, 0, none⟩ = some (.int .i64 11) := q7
    obtain ⟨j0, j1⟩ := HX6.out.full (a := .string ⟨#[]⟩) (b := .string ⟨#[]⟩)
    have j2 : ((w6.setCell ⟨w.heap.size + 1 + 1, 0, none⟩ (.string ⟨#[]⟩)).setCell ⟨w.heap.size + 1 + 1, 1, none⟩ (.string ⟨#[]⟩)).drew.cell? ⟨w.heap.size + 1 + 1, 0, none⟩ = some (.string ⟨#[]⟩) := j0
    have j3 : ((w6.setCell ⟨w.heap.size + 1 + 1, 0, none⟩ (.string ⟨#[]⟩)).setCell ⟨w.heap.size + 1 + 1, 1, none⟩ (.string ⟨#[]⟩)).drew.cell? ⟨w.heap.size + 1 + 1, 1, none⟩ = some (.string ⟨#[]⟩) := j1
    have HBF : Hid (Below w.heap.size w ((w6.setCell ⟨w.heap.size + 1 + 1, 0, none⟩ (.string ⟨#[]⟩)).setCell ⟨w.heap.size + 1 + 1, 1, none⟩ (.string ⟨#[]⟩)).drew) := ((HB6.out.setCell (by show w.heap.size ≤ w.heap.size + 1 + 1; omega) _).setCell (by show w.heap.size ≤ w.heap.size + 1 + 1; omega) _).drew
    go_region
    all_goals go_wp2_with fail
    all_goals exact bodyPost_ret (v := .tuple #[.agg #[.string ⟨#[]⟩, .string ⟨#[]⟩], .int .i64 11]) (by simp [results, Tryz.results60, go_sem, j0, j1, j2, j3, errK]) rfl ⟨rfl, HBF.out⟩
  · unfold opV frT
    rw [if_pos rfl]
    have HMK : Hid (∀ w', Lim n → Lim m → Below w.heap.size w w' → Calls Tryz.prog 12 #[.string (strN (txtI n)), .string (strN (txtI m))] w' fun e w2 => e = .returned (.tuple #[fracV (lowF n m), .int .i64 0]) ∧ Below w'.heap.size w' w2) := fun w' h1 h2 hb => fmake_any h1 h2 HM0.out (HT.out.below hb)
    unfold fracV at HMK
    obtain ⟨a, ha⟩ : ∃ a, a = strN (txtI (lowF n m).1) := ⟨_, rfl⟩
    obtain ⟨b, hb⟩ : ∃ b, b = strN (txtI (lowF n m).2) := ⟨_, rfl⟩
    rw [← ha, ← hb] at HMK ⊢
    clear ha hb
    go_enter Tryz.func60, Tryz.ntmps60
    go_wp2_with (first
      | (go_at_call 77; (with_reducible refine (H1.out _ HW.out).mono ?_); rintro ec w5 ⟨rfl, hb5⟩; have HB5 := hide (below_then HW.out hb5); have HX5 := hide (HX.out.below hb5); have HST : Hid (Stp w5 (w5.alloc (.cells #[.int .i64 0] 97)) true) := ⟨bnew (Below.refl _ _) _, Box.new _ _ _⟩; clear hb5)
      | (go_at_call 78; (with_reducible refine (H2.out _ _ HB5.out HST.out).mono ?_); rintro ec w6 ⟨x, y, rfl, hx, hy, hst, hv⟩; obtain ⟨rfl, rfl⟩ := hv rfl; have HLX := hide hx; have HLY := hide hy; have HB6 := hide (below_then HB5.out hst.1); have HX6 := hide (HX5.out.below hst.1); have c6 := hst.2.cell 0; simp only [List.getElem?_cons_zero] at c6; have c6 : w6.cell? ⟨w5.heap.size, 0, none⟩ = some (.int .i64 0) := c6; clear hx hy hst hv)
      | (go_at_call 12; (with_reducible refine (HMK.out _ HLX.out HLY.out HB6.out).mono ?_); rintro ec w7 ⟨rfl, hb7⟩; have HB7 := hide (below_then HB6.out hb7); have HX7 := hide (HX6.out.below hb7); obtain ⟨d0, d1, f0, f1⟩ := HX7.out.two; clear hb7))
    obtain ⟨j0, j1⟩ := HX7.out.full (a := .string a) (b := .string b)
    refine bodyPost_ret (v := .tuple #[.agg #[.string a, .string b], .int .i64 0]) (by simp [results, Tryz.results60, go_sem, j0, j1]) rfl ⟨rfl, ?_⟩
    exact ((HB7.out.setCell (by show w.heap.size ≤ w.heap.size + 1 + 1; omega) _).setCell (by show w.heap.size ≤ w.heap.size + 1 + 1; omega) _)
set_option maxRecDepth 100000 in
set_option maxHeartbeats 4000000 in
theorem made_add {p q r s : Int} (h1 : Good p q) (h2 : Good r s) {w : World} {A B C : Nat} (ht : Tbl w) (hA : FBox w A p q) (hB : FBox w B r s) (hC : Box w C [.func (.func 59) #[] #[]] 69) :
    Calls Tryz.prog 60 #[.agg #[.string (strN (txtI p)), .string (strN (txtI q))], .agg #[.string (strN (txtI r)), .string (strN (txtI s))], .func (.func 99) #[] #[.pointer (some ⟨A, 0, none⟩), .pointer (some ⟨B, 0, none⟩), .pointer (some ⟨C, 0, none⟩)]] w fun e w' => e = .returned (opV (combK (p * s) (r * q) (p * s + r * q) (q * s)) (lowF (p * s + r * q) (q * s))) ∧ Below w.heap.size w w' := by
  have hm0 : q * s ≠ 0 := by have h5 := Int.mul_pos h1.low.1 h2.low.1; omega
  have HT := hide ht
  have H1 : Hid (∀ w', Below w.heap.size w w' → Calls Tryz.prog 77 #[.agg #[.string (strN (txtI p)), .string (strN (txtI q))], .agg #[.string (strN (txtI r)), .string (strN (txtI s))]] w' fun r w2 => r = .returned (.int .i64 0) ∧ Below w'.heap.size w' w2) := fun w' hb => fboth_any _ _ _ _ (lim_size h1.num) (lim_size h1.den) (lim_size h2.num) (lim_size h2.den) h1.chk h2.chk rfl (ht.below hb)
  have H2 : Hid (∀ W w6, Below w.heap.size w W → Stp W w6 true → Calls Tryz.prog 99 #[.pointer (some ⟨W.heap.size, 0, none⟩), .pointer (some ⟨A, 0, none⟩), .pointer (some ⟨B, 0, none⟩), .pointer (some ⟨C, 0, none⟩)] w6 (TermsPost W (p * s + r * q) (q * s) (combK (p * s) (r * q) (p * s + r * q) (q * s)))) := fun W w6 hb hst => (comb_terms_add h1.num h1.den h2.num h2.den (ht.below hb) hst (Box.below hA hb) (Box.below hB hb) (hC.below hb)).mono fun _ _ h => h.terms
  obtain ⟨k, hk⟩ : ∃ k, k = combK (p * s) (r * q) (p * s + r * q) (q * s) := ⟨_, rfl⟩
  obtain ⟨n, hn⟩ : ∃ n, n = p * s + r * q := ⟨_, rfl⟩
  obtain ⟨m, hm⟩ : ∃ m, m = q * s := ⟨_, rfl⟩
  rw [← hk, ← hn, ← hm] at H2 ⊢
  rw [← hm] at hm0
  have HM0 := hide hm0
  obtain ⟨sp, hsp⟩ : ∃ sp, sp = strN (txtI p) := ⟨_, rfl⟩
  obtain ⟨sq, hsq⟩ : ∃ sq, sq = strN (txtI q) := ⟨_, rfl⟩
  obtain ⟨sr, hsr⟩ : ∃ sr, sr = strN (txtI r) := ⟨_, rfl⟩
  obtain ⟨ss, hss⟩ : ∃ ss, ss = strN (txtI s) := ⟨_, rfl⟩
  rw [← hsp, ← hsq, ← hsr, ← hss] at H1 ⊢
  have HW := hide (W3.low w sp sq sr ss)
  have HX := hide (W3.c w sp sq sr ss)
  clear ht hA hB hC h1 h2 hk hn hm hsp hsq hsr hss hm0
  cases k
  · unfold opV frT
    rw [if_neg (by simp)]
    go_enter Tryz.func60, Tryz.ntmps60
    go_wp2_with (first
      | (go_at_call 77; (with_reducible refine (H1.out _ HW.out).mono ?_); rintro ec w5 ⟨rfl, hb5⟩; have HB5 := hide (below_then HW.out hb5); have HX5 := hide (HX.out.below hb5); have HST : Hid (Stp w5 (w5.alloc (.cells #[.int .i64 0] 97)) true) := ⟨bnew (Below.refl _ _) _, Box.new _ _ _⟩; clear hb5)
      | (go_at_call 99; (with_reducible refine (H2.out _ _ HB5.out HST.out).mono ?_); rintro ec w6 ⟨x, y, rfl, hx, hy, hst, hv⟩; have HS6 := hide hst; have HB6 := hide (below_then HB5.out hst.1); have HX6 := hide (HX5.out.below hst.1); have c6 := hst.2.cell 0; simp only [List.getElem?_cons_zero] at c6; have c6 : w6.cell? ⟨w5.heap.size, 0, none⟩ = some (.int .i64 11) := c6; obtain ⟨d0, d1, f0, f1⟩ := HX6.out.two; clear hx hy hst hv))
    have q7 : ((w6.setCell ⟨w.heap.size + 1 + 1, 0, none⟩ (.string ⟨#[]⟩)).setCell ⟨w.heap.size + 1 + 1, 1, none⟩ (.string ⟨#[]⟩)).cell? ⟨w5.heap.size, 0, none⟩ = some (.int .i64 11) := HS6.out.2.past (by have h5 := HX5.out.lt; omega) _ _
    have q8 : ((w6.setCell ⟨w.heap.size + 1 + 1, 0, none⟩ (.string ⟨#[]⟩)).setCell ⟨w.heap.size + 1 + 1, 1, none⟩ (.string ⟨#[]⟩)).drew.cell? ⟨w5.heap.size, 0, none⟩ = some (.int .i64 11) := q7
    obtain ⟨j0, j1⟩ := HX6.out.full (a := .string ⟨#[]⟩) (b := .string ⟨#[]⟩)
    have j2 : ((w6.setCell ⟨w.heap.size + 1 + 1, 0, none⟩ (.string ⟨#[]⟩)).setCell ⟨w.heap.size + 1 + 1, 1, none⟩ (.string ⟨#[]⟩)).drew.cell? ⟨w.heap.size + 1 + 1, 0, none⟩ = some (.string ⟨#[]⟩) := j0
    have j3 : ((w6.setCell ⟨w.heap.size + 1 + 1, 0, none⟩ (.string ⟨#[]⟩)).setCell ⟨w.heap.size + 1 + 1, 1, none⟩ (.string ⟨#[]⟩)).drew.cell? ⟨w.heap.size + 1 + 1, 1, none⟩ = some (.string ⟨#[]⟩) := j1
    have HBF : Hid (Below w.heap.size w ((w6.setCell ⟨w.heap.size + 1 + 1, 0, none⟩ (.string ⟨#[]⟩)).setCell ⟨w.heap.size + 1 + 1, 1, none⟩ (.string ⟨#[]⟩)).drew) := ((HB6.out.setCell (by show w.heap.size ≤ w.heap.size + 1 + 1; omega) _).setCell (by show w.heap.size ≤ w.heap.size + 1 + 1; omega) _).drew
    go_region
    all_goals go_wp2_with fail
    all_goals exact bodyPost_ret (v := .tuple #[.agg #[.string ⟨#[]⟩, .string ⟨#[]⟩], .int .i64 11]) (by simp [results, Tryz.results60, go_sem, j0, j1, j2, j3, errK]) rfl ⟨rfl, HBF.out⟩
  · unfold opV frT
    rw [if_pos rfl]
    have HMK : Hid (∀ w', Lim n → Lim m → Below w.heap.size w w' → Calls Tryz.prog 12 #[.string (strN (txtI n)), .string (strN (txtI m))] w' fun e w2 => e = .returned (.tuple #[fracV (lowF n m), .int .i64 0]) ∧ Below w'.heap.size w' w2) := fun w' h1 h2 hb => fmake_any h1 h2 HM0.out (HT.out.below hb)
    unfold fracV at HMK
    obtain ⟨a, ha⟩ : ∃ a, a = strN (txtI (lowF n m).1) := ⟨_, rfl⟩
    obtain ⟨b, hb⟩ : ∃ b, b = strN (txtI (lowF n m).2) := ⟨_, rfl⟩
    rw [← ha, ← hb] at HMK ⊢
    clear ha hb
    go_enter Tryz.func60, Tryz.ntmps60
    go_wp2_with (first
      | (go_at_call 77; (with_reducible refine (H1.out _ HW.out).mono ?_); rintro ec w5 ⟨rfl, hb5⟩; have HB5 := hide (below_then HW.out hb5); have HX5 := hide (HX.out.below hb5); have HST : Hid (Stp w5 (w5.alloc (.cells #[.int .i64 0] 97)) true) := ⟨bnew (Below.refl _ _) _, Box.new _ _ _⟩; clear hb5)
      | (go_at_call 99; (with_reducible refine (H2.out _ _ HB5.out HST.out).mono ?_); rintro ec w6 ⟨x, y, rfl, hx, hy, hst, hv⟩; obtain ⟨rfl, rfl⟩ := hv rfl; have HLX := hide hx; have HLY := hide hy; have HB6 := hide (below_then HB5.out hst.1); have HX6 := hide (HX5.out.below hst.1); have c6 := hst.2.cell 0; simp only [List.getElem?_cons_zero] at c6; have c6 : w6.cell? ⟨w5.heap.size, 0, none⟩ = some (.int .i64 0) := c6; clear hx hy hst hv)
      | (go_at_call 12; (with_reducible refine (HMK.out _ HLX.out HLY.out HB6.out).mono ?_); rintro ec w7 ⟨rfl, hb7⟩; have HB7 := hide (below_then HB6.out hb7); have HX7 := hide (HX6.out.below hb7); obtain ⟨d0, d1, f0, f1⟩ := HX7.out.two; clear hb7))
    obtain ⟨j0, j1⟩ := HX7.out.full (a := .string a) (b := .string b)
    refine bodyPost_ret (v := .tuple #[.agg #[.string a, .string b], .int .i64 0]) (by simp [results, Tryz.results60, go_sem, j0, j1]) rfl ⟨rfl, ?_⟩
    exact ((HB7.out.setCell (by show w.heap.size ≤ w.heap.size + 1 + 1; omega) _).setCell (by show w.heap.size ≤ w.heap.size + 1 + 1; omega) _)
set_option maxRecDepth 100000 in
set_option maxHeartbeats 4000000 in
theorem made_sub {p q r s : Int} (h1 : Good p q) (h2 : Good r s) {w : World} {A B C : Nat} (ht : Tbl w) (hA : FBox w A p q) (hB : FBox w B r s) (hC : Box w C [.func (.func 72) #[] #[]] 69) :
    Calls Tryz.prog 60 #[.agg #[.string (strN (txtI p)), .string (strN (txtI q))], .agg #[.string (strN (txtI r)), .string (strN (txtI s))], .func (.func 99) #[] #[.pointer (some ⟨A, 0, none⟩), .pointer (some ⟨B, 0, none⟩), .pointer (some ⟨C, 0, none⟩)]] w fun e w' => e = .returned (opV (combK (p * s) (r * q) (p * s - r * q) (q * s)) (lowF (p * s - r * q) (q * s))) ∧ Below w.heap.size w w' := by
  have hm0 : q * s ≠ 0 := by have h5 := Int.mul_pos h1.low.1 h2.low.1; omega
  have HT := hide ht
  have H1 : Hid (∀ w', Below w.heap.size w w' → Calls Tryz.prog 77 #[.agg #[.string (strN (txtI p)), .string (strN (txtI q))], .agg #[.string (strN (txtI r)), .string (strN (txtI s))]] w' fun r w2 => r = .returned (.int .i64 0) ∧ Below w'.heap.size w' w2) := fun w' hb => fboth_any _ _ _ _ (lim_size h1.num) (lim_size h1.den) (lim_size h2.num) (lim_size h2.den) h1.chk h2.chk rfl (ht.below hb)
  have H2 : Hid (∀ W w6, Below w.heap.size w W → Stp W w6 true → Calls Tryz.prog 99 #[.pointer (some ⟨W.heap.size, 0, none⟩), .pointer (some ⟨A, 0, none⟩), .pointer (some ⟨B, 0, none⟩), .pointer (some ⟨C, 0, none⟩)] w6 (TermsPost W (p * s - r * q) (q * s) (combK (p * s) (r * q) (p * s - r * q) (q * s)))) := fun W w6 hb hst => (comb_terms_sub h1.num h1.den h2.num h2.den (ht.below hb) hst (Box.below hA hb) (Box.below hB hb) (hC.below hb)).mono fun _ _ h => h.terms
  obtain ⟨k, hk⟩ : ∃ k, k = combK (p * s) (r * q) (p * s - r * q) (q * s) := ⟨_, rfl⟩
  obtain ⟨n, hn⟩ : ∃ n, n = p * s - r * q := ⟨_, rfl⟩
  obtain ⟨m, hm⟩ : ∃ m, m = q * s := ⟨_, rfl⟩
  rw [← hk, ← hn, ← hm] at H2 ⊢
  rw [← hm] at hm0
  have HM0 := hide hm0
  obtain ⟨sp, hsp⟩ : ∃ sp, sp = strN (txtI p) := ⟨_, rfl⟩
  obtain ⟨sq, hsq⟩ : ∃ sq, sq = strN (txtI q) := ⟨_, rfl⟩
  obtain ⟨sr, hsr⟩ : ∃ sr, sr = strN (txtI r) := ⟨_, rfl⟩
  obtain ⟨ss, hss⟩ : ∃ ss, ss = strN (txtI s) := ⟨_, rfl⟩
  rw [← hsp, ← hsq, ← hsr, ← hss] at H1 ⊢
  have HW := hide (W3.low w sp sq sr ss)
  have HX := hide (W3.c w sp sq sr ss)
  clear ht hA hB hC h1 h2 hk hn hm hsp hsq hsr hss hm0
  cases k
  · unfold opV frT
    rw [if_neg (by simp)]
    go_enter Tryz.func60, Tryz.ntmps60
    go_wp2_with (first
      | (go_at_call 77; (with_reducible refine (H1.out _ HW.out).mono ?_); rintro ec w5 ⟨rfl, hb5⟩; have HB5 := hide (below_then HW.out hb5); have HX5 := hide (HX.out.below hb5); have HST : Hid (Stp w5 (w5.alloc (.cells #[.int .i64 0] 97)) true) := ⟨bnew (Below.refl _ _) _, Box.new _ _ _⟩; clear hb5)
      | (go_at_call 99; (with_reducible refine (H2.out _ _ HB5.out HST.out).mono ?_); rintro ec w6 ⟨x, y, rfl, hx, hy, hst, hv⟩; have HS6 := hide hst; have HB6 := hide (below_then HB5.out hst.1); have HX6 := hide (HX5.out.below hst.1); have c6 := hst.2.cell 0; simp only [List.getElem?_cons_zero] at c6; have c6 : w6.cell? ⟨w5.heap.size, 0, none⟩ = some (.int .i64 11) := c6; obtain ⟨d0, d1, f0, f1⟩ := HX6.out.two; clear hx hy hst hv))
    have q7 : ((w6.setCell ⟨w.heap.size + 1 + 1, 0, none⟩ (.string ⟨#[]⟩)).setCell ⟨w.heap.size + 1 + 1, 1, none⟩ (.string ⟨#[]⟩)).cell? ⟨w5.heap.size, 0, none⟩ = some (.int .i64 11) := HS6.out.2.past (by have h5 := HX5.out.lt; omega) _ _
    have q8 : ((w6.setCell ⟨w.heap.size + 1 + 1, 0, none⟩ (.string ⟨#[]⟩)).setCell ⟨w.heap.size + 1 + 1, 1, none⟩ (.string ⟨#[]⟩)).drew.cell? ⟨w5.heap.size, 0, none⟩ = some (.int .i64 11) := q7
    obtain ⟨j0, j1⟩ := HX6.out.full (a := .string ⟨#[]⟩) (b := .string ⟨#[]⟩)
    have j2 : ((w6.setCell ⟨w.heap.size + 1 + 1, 0, none⟩ (.string ⟨#[]⟩)).setCell ⟨w.heap.size + 1 + 1, 1, none⟩ (.string ⟨#[]⟩)).drew.cell? ⟨w.heap.size + 1 + 1, 0, none⟩ = some (.string ⟨#[]⟩) := j0
    have j3 : ((w6.setCell ⟨w.heap.size + 1 + 1, 0, none⟩ (.string ⟨#[]⟩)).setCell ⟨w.heap.size + 1 + 1, 1, none⟩ (.string ⟨#[]⟩)).drew.cell? ⟨w.heap.size + 1 + 1, 1, none⟩ = some (.string ⟨#[]⟩) := j1
    have HBF : Hid (Below w.heap.size w ((w6.setCell ⟨w.heap.size + 1 + 1, 0, none⟩ (.string ⟨#[]⟩)).setCell ⟨w.heap.size + 1 + 1, 1, none⟩ (.string ⟨#[]⟩)).drew) := ((HB6.out.setCell (by show w.heap.size ≤ w.heap.size + 1 + 1; omega) _).setCell (by show w.heap.size ≤ w.heap.size + 1 + 1; omega) _).drew
    go_region
    all_goals go_wp2_with fail
    all_goals exact bodyPost_ret (v := .tuple #[.agg #[.string ⟨#[]⟩, .string ⟨#[]⟩], .int .i64 11]) (by simp [results, Tryz.results60, go_sem, j0, j1, j2, j3, errK]) rfl ⟨rfl, HBF.out⟩
  · unfold opV frT
    rw [if_pos rfl]
    have HMK : Hid (∀ w', Lim n → Lim m → Below w.heap.size w w' → Calls Tryz.prog 12 #[.string (strN (txtI n)), .string (strN (txtI m))] w' fun e w2 => e = .returned (.tuple #[fracV (lowF n m), .int .i64 0]) ∧ Below w'.heap.size w' w2) := fun w' h1 h2 hb => fmake_any h1 h2 HM0.out (HT.out.below hb)
    unfold fracV at HMK
    obtain ⟨a, ha⟩ : ∃ a, a = strN (txtI (lowF n m).1) := ⟨_, rfl⟩
    obtain ⟨b, hb⟩ : ∃ b, b = strN (txtI (lowF n m).2) := ⟨_, rfl⟩
    rw [← ha, ← hb] at HMK ⊢
    clear ha hb
    go_enter Tryz.func60, Tryz.ntmps60
    go_wp2_with (first
      | (go_at_call 77; (with_reducible refine (H1.out _ HW.out).mono ?_); rintro ec w5 ⟨rfl, hb5⟩; have HB5 := hide (below_then HW.out hb5); have HX5 := hide (HX.out.below hb5); have HST : Hid (Stp w5 (w5.alloc (.cells #[.int .i64 0] 97)) true) := ⟨bnew (Below.refl _ _) _, Box.new _ _ _⟩; clear hb5)
      | (go_at_call 99; (with_reducible refine (H2.out _ _ HB5.out HST.out).mono ?_); rintro ec w6 ⟨x, y, rfl, hx, hy, hst, hv⟩; obtain ⟨rfl, rfl⟩ := hv rfl; have HLX := hide hx; have HLY := hide hy; have HB6 := hide (below_then HB5.out hst.1); have HX6 := hide (HX5.out.below hst.1); have c6 := hst.2.cell 0; simp only [List.getElem?_cons_zero] at c6; have c6 : w6.cell? ⟨w5.heap.size, 0, none⟩ = some (.int .i64 0) := c6; clear hx hy hst hv)
      | (go_at_call 12; (with_reducible refine (HMK.out _ HLX.out HLY.out HB6.out).mono ?_); rintro ec w7 ⟨rfl, hb7⟩; have HB7 := hide (below_then HB6.out hb7); have HX7 := hide (HX6.out.below hb7); obtain ⟨d0, d1, f0, f1⟩ := HX7.out.two; clear hb7))
    obtain ⟨j0, j1⟩ := HX7.out.full (a := .string a) (b := .string b)
    refine bodyPost_ret (v := .tuple #[.agg #[.string a, .string b], .int .i64 0]) (by simp [results, Tryz.results60, go_sem, j0, j1]) rfl ⟨rfl, ?_⟩
    exact ((HB7.out.setCell (by show w.heap.size ≤ w.heap.size + 1 + 1; omega) _).setCell (by show w.heap.size ≤ w.heap.size + 1 + 1; omega) _)
end Go.Proofs.YthpknfoahimopaaGreatDoor

set_option linter.unusedVariables false
set_option linter.unusedSimpArgs false
set_option linter.unnecessarySimpa false
namespace Go.Proofs.YthpknfoahimopaaGreatDoor
open Go.RowKit

/-- The four boxes of fraction.combined. -/
abbrev W4 (w : World) (s t u v : ByteArray) (f : Value) : World := (((w.alloc (.cells #[.string s, .string t] 26)).alloc (.cells #[.string u, .string v] 26)).alloc (.cells #[f] 69)).alloc (.cells #[.string ⟨#[]⟩, .string ⟨#[]⟩] 26)
theorem W4.low (w : World) (s t u v : ByteArray) (f : Value) : Below w.heap.size w (W4 w s t u v f) := bnew (bnew (bnew (bnew (Below.refl _ _) _) _) _) _
theorem W4.a (w : World) (s t u v : ByteArray) (f : Value) : Box (W4 w s t u v f) w.heap.size [.string s, .string t] 26 := (((Box.new w _ _).next _).next _).next _
theorem W4.b (w : World) (s t u v : ByteArray) (f : Value) : Box (W4 w s t u v f) (w.heap.size + 1) [.string u, .string v] 26 := by
  have h5 := Box.new (w.alloc (.cells #[.string s, .string t] 26)) [.string u, .string v] 26
  rw [World.size_alloc] at h5
  exact (h5.next _).next _
theorem W4.f (w : World) (s t u v : ByteArray) (f : Value) : Box (W4 w s t u v f) (w.heap.size + 1 + 1) [f] 69 := by
  have h5 := Box.new ((w.alloc (.cells #[.string s, .string t] 26)).alloc (.cells #[.string u, .string v] 26)) [f] 69
  rw [World.size_alloc, World.size_alloc] at h5
  exact h5.next _
theorem W4.c (w : World) (s t u v : ByteArray) (f : Value) : Box (W4 w s t u v f) (w.heap.size + 1 + 1 + 1) [.string ⟨#[]⟩, .string ⟨#[]⟩] 26 := by
  have h5 := Box.new (((w.alloc (.cells #[.string s, .string t] 26)).alloc (.cells #[.string u, .string v] 26)).alloc (.cells #[f] 69)) [.string ⟨#[]⟩, .string ⟨#[]⟩] 26
  rw [World.size_alloc, World.size_alloc, World.size_alloc] at h5
  exact h5
set_option maxRecDepth 100000 in
set_option maxHeartbeats 4000000 in
theorem fcomb_wrap {s t u v a b : ByteArray} {f : Fn} {e : Int} {w : World} (H : Calls Tryz.prog 60 #[.agg #[.string s, .string t], .agg #[.string u, .string v], .func (.func 99) #[] #[.pointer (some ⟨w.heap.size, 0, none⟩), .pointer (some ⟨w.heap.size + 1, 0, none⟩), .pointer (some ⟨w.heap.size + 1 + 1, 0, none⟩)]] (W4 w s t u v (.func f #[] #[])) fun r w' => r = .returned (frT a b e) ∧ Below (W4 w s t u v (.func f #[] #[])).heap.size (W4 w s t u v (.func f #[] #[])) w') :
    Calls Tryz.prog 58 #[.agg #[.string s, .string t], .agg #[.string u, .string v], .func f #[] #[]] w fun r w' => r = .returned (frT a b e) ∧ Below w.heap.size w w' := by
  unfold frT at *
  have H1 := hide H
  have HW := hide (W4.low w s t u v (.func f #[] #[]))
  have HX := hide (W4.c w s t u v (.func f #[] #[]))
  clear H
  go_enter Tryz.func58, Tryz.ntmps58
  go_wp2_with (go_at_call 60; (with_reducible refine H1.out.mono ?_); rintro ec w5 ⟨rfl, hb5⟩; have HB5 := hide (below_then HW.out hb5); have HX5 := hide (HX.out.below hb5); obtain ⟨d0, d1, f0, f1⟩ := HX5.out.two; clear hb5)
  obtain ⟨j0, j1⟩ := HX5.out.full (a := .string a) (b := .string b)
  refine bodyPost_ret (v := .tuple #[.agg #[.string a, .string b], .int .i64 e]) (by simp [results, Tryz.results58, go_sem, j0, j1]) rfl ⟨rfl, ?_⟩
  exact ((HB5.out.setCell (by show w.heap.size ≤ w.heap.size + 1 + 1 + 1; omega) _).setCell (by show w.heap.size ≤ w.heap.size + 1 + 1 + 1; omega) _)
set_option maxRecDepth 100000 in
set_option maxHeartbeats 4000000 in
theorem fadd_wrap {s t u v a b : ByteArray} {e : Int} {w : World} (H : Calls Tryz.prog 58 #[.agg #[.string s, .string t], .agg #[.string u, .string v], .func (.func 59) #[] #[]] (W3 w s t u v) fun r w' => r = .returned (frT a b e) ∧ Below (W3 w s t u v).heap.size (W3 w s t u v) w') :
    Calls Tryz.prog 21 #[.agg #[.string s, .string t], .agg #[.string u, .string v]] w fun r w' => r = .returned (frT a b e) ∧ Below w.heap.size w w' := by
  unfold frT at *
  have H1 := hide H
  have HW := hide (W3.low w s t u v)
  have HX := hide (W3.c w s t u v)
  clear H
  go_enter Tryz.func21, Tryz.ntmps21
  go_wp2_with (go_at_call 58; (with_reducible refine H1.out.mono ?_); rintro ec w5 ⟨rfl, hb5⟩; have HB5 := hide (below_then HW.out hb5); have HX5 := hide (HX.out.below hb5); obtain ⟨d0, d1, f0, f1⟩ := HX5.out.two; clear hb5)
  obtain ⟨j0, j1⟩ := HX5.out.full (a := .string a) (b := .string b)
  refine bodyPost_ret (v := .tuple #[.agg #[.string a, .string b], .int .i64 e]) (by simp [results, Tryz.results21, go_sem, j0, j1]) rfl ⟨rfl, ?_⟩
  exact ((HB5.out.setCell (by show w.heap.size ≤ w.heap.size + 1 + 1; omega) _).setCell (by show w.heap.size ≤ w.heap.size + 1 + 1; omega) _)
theorem fadd_ok {p q r s : Int} (h1 : Good p q) (h2 : Good r s) {w : World} (ht : Tbl w) : Calls Tryz.prog 21 #[.agg #[.string (strN (txtI p)), .string (strN (txtI q))], .agg #[.string (strN (txtI r)), .string (strN (txtI s))]] w fun e w' => e = .returned (opV (combK (p * s) (r * q) (p * s + r * q) (q * s)) (lowF (p * s + r * q) (q * s))) ∧ Below w.heap.size w w' := by
  obtain ⟨a, b, e, h⟩ := opV_frT (combK (p * s) (r * q) (p * s + r * q) (q * s)) (lowF (p * s + r * q) (q * s))
  rw [h]
  refine fadd_wrap ?_
  refine fcomb_wrap ?_
  rw [← h]
  exact made_add h1 h2 ((ht.below (W3.low _ _ _ _ _)).below (W4.low _ _ _ _ _ _)) (W4.a _ _ _ _ _ _) (W4.b _ _ _ _ _ _) (W4.f _ _ _ _ _ _)
theorem fadd_bad (s t u v : ByteArray) (hs : s.size ≤ 140737488355328) (ht : t.size ≤ 140737488355328) (hu : u.size ≤ 140737488355328) (hv : v.size ≤ 140737488355328) {e : Int} (he0 : e ≠ 0) (he : errOr (chkF s.data.toList t.data.toList) (chkF u.data.toList v.data.toList) = e) {w : World} (htb : Tbl w) : Calls Tryz.prog 21 #[.agg #[.string s, .string t], .agg #[.string u, .string v]] w fun r w' => r = .returned (frT ⟨#[]⟩ ⟨#[]⟩ e) ∧ Below w.heap.size w w' := by
  refine fadd_wrap ?_
  refine fcomb_wrap ?_
  exact made_bad s t u v _ he0 (fboth_any s t u v hs ht hu hv rfl rfl he (((htb.below (W3.low _ _ _ _ _)).below (W4.low _ _ _ _ _ _)).below (W3.low _ _ _ _ _)))
set_option maxRecDepth 100000 in
set_option maxHeartbeats 4000000 in
theorem fsub_wrap {s t u v a b : ByteArray} {e : Int} {w : World} (H : Calls Tryz.prog 58 #[.agg #[.string s, .string t], .agg #[.string u, .string v], .func (.func 72) #[] #[]] (W3 w s t u v) fun r w' => r = .returned (frT a b e) ∧ Below (W3 w s t u v).heap.size (W3 w s t u v) w') :
    Calls Tryz.prog 35 #[.agg #[.string s, .string t], .agg #[.string u, .string v]] w fun r w' => r = .returned (frT a b e) ∧ Below w.heap.size w w' := by
  unfold frT at *
  have H1 := hide H
  have HW := hide (W3.low w s t u v)
  have HX := hide (W3.c w s t u v)
  clear H
  go_enter Tryz.func35, Tryz.ntmps35
  go_wp2_with (go_at_call 58; (with_reducible refine H1.out.mono ?_); rintro ec w5 ⟨rfl, hb5⟩; have HB5 := hide (below_then HW.out hb5); have HX5 := hide (HX.out.below hb5); obtain ⟨d0, d1, f0, f1⟩ := HX5.out.two; clear hb5)
  obtain ⟨j0, j1⟩ := HX5.out.full (a := .string a) (b := .string b)
  refine bodyPost_ret (v := .tuple #[.agg #[.string a, .string b], .int .i64 e]) (by simp [results, Tryz.results35, go_sem, j0, j1]) rfl ⟨rfl, ?_⟩
  exact ((HB5.out.setCell (by show w.heap.size ≤ w.heap.size + 1 + 1; omega) _).setCell (by show w.heap.size ≤ w.heap.size + 1 + 1; omega) _)
theorem fsub_ok {p q r s : Int} (h1 : Good p q) (h2 : Good r s) {w : World} (ht : Tbl w) : Calls Tryz.prog 35 #[.agg #[.string (strN (txtI p)), .string (strN (txtI q))], .agg #[.string (strN (txtI r)), .string (strN (txtI s))]] w fun e w' => e = .returned (opV (combK (p * s) (r * q) (p * s - r * q) (q * s)) (lowF (p * s - r * q) (q * s))) ∧ Below w.heap.size w w' := by
  obtain ⟨a, b, e, h⟩ := opV_frT (combK (p * s) (r * q) (p * s - r * q) (q * s)) (lowF (p * s - r * q) (q * s))
  rw [h]
  refine fsub_wrap ?_
  refine fcomb_wrap ?_
  rw [← h]
  exact made_sub h1 h2 ((ht.below (W3.low _ _ _ _ _)).below (W4.low _ _ _ _ _ _)) (W4.a _ _ _ _ _ _) (W4.b _ _ _ _ _ _) (W4.f _ _ _ _ _ _)
theorem fsub_bad (s t u v : ByteArray) (hs : s.size ≤ 140737488355328) (ht : t.size ≤ 140737488355328) (hu : u.size ≤ 140737488355328) (hv : v.size ≤ 140737488355328) {e : Int} (he0 : e ≠ 0) (he : errOr (chkF s.data.toList t.data.toList) (chkF u.data.toList v.data.toList) = e) {w : World} (htb : Tbl w) : Calls Tryz.prog 35 #[.agg #[.string s, .string t], .agg #[.string u, .string v]] w fun r w' => r = .returned (frT ⟨#[]⟩ ⟨#[]⟩ e) ∧ Below w.heap.size w w' := by
  refine fsub_wrap ?_
  refine fcomb_wrap ?_
  exact made_bad s t u v _ he0 (fboth_any s t u v hs ht hu hv rfl rfl he (((htb.below (W3.low _ _ _ _ _)).below (W4.low _ _ _ _ _ _)).below (W3.low _ _ _ _ _)))
set_option maxRecDepth 100000 in
set_option maxHeartbeats 4000000 in
theorem fmul_wrap {s t u v a b : ByteArray} {e : Int} {w : World} (H : Calls Tryz.prog 60 #[.agg #[.string s, .string t], .agg #[.string u, .string v], .func (.func 61) #[] #[.pointer (some ⟨w.heap.size, 0, none⟩), .pointer (some ⟨w.heap.size + 1, 0, none⟩)]] (W3 w s t u v) fun r w' => r = .returned (frT a b e) ∧ Below (W3 w s t u v).heap.size (W3 w s t u v) w') :
    Calls Tryz.prog 23 #[.agg #[.string s, .string t], .agg #[.string u, .string v]] w fun r w' => r = .returned (frT a b e) ∧ Below w.heap.size w w' := by
  unfold frT at *
  have H1 := hide H
  have HW := hide (W3.low w s t u v)
  have HX := hide (W3.c w s t u v)
  clear H
  go_enter Tryz.func23, Tryz.ntmps23
  go_wp2_with (go_at_call 60; (with_reducible refine H1.out.mono ?_); rintro ec w5 ⟨rfl, hb5⟩; have HB5 := hide (below_then HW.out hb5); have HX5 := hide (HX.out.below hb5); obtain ⟨d0, d1, f0, f1⟩ := HX5.out.two; clear hb5)
  obtain ⟨j0, j1⟩ := HX5.out.full (a := .string a) (b := .string b)
  refine bodyPost_ret (v := .tuple #[.agg #[.string a, .string b], .int .i64 e]) (by simp [results, Tryz.results23, go_sem, j0, j1]) rfl ⟨rfl, ?_⟩
  exact ((HB5.out.setCell (by show w.heap.size ≤ w.heap.size + 1 + 1; omega) _).setCell (by show w.heap.size ≤ w.heap.size + 1 + 1; omega) _)
theorem fmul_ok {p q r s : Int} (h1 : Good p q) (h2 : Good r s) {w : World} (ht : Tbl w) : Calls Tryz.prog 23 #[.agg #[.string (strN (txtI p)), .string (strN (txtI q))], .agg #[.string (strN (txtI r)), .string (strN (txtI s))]] w fun e w' => e = .returned (opV (doE (doE true (p * r)) (q * s)) (lowF (p * r) (q * s))) ∧ Below w.heap.size w w' := by
  obtain ⟨a, b, e, h⟩ := opV_frT (doE (doE true (p * r)) (q * s)) (lowF (p * r) (q * s))
  rw [h]
  refine fmul_wrap ?_
  rw [← h]
  exact made_mul h1 h2 (ht.below (W3.low _ _ _ _ _)) (W3.a _ _ _ _ _) (W3.b _ _ _ _ _)
theorem fmul_bad (s t u v : ByteArray) (hs : s.size ≤ 140737488355328) (ht : t.size ≤ 140737488355328) (hu : u.size ≤ 140737488355328) (hv : v.size ≤ 140737488355328) {e : Int} (he0 : e ≠ 0) (he : errOr (chkF s.data.toList t.data.toList) (chkF u.data.toList v.data.toList) = e) {w : World} (htb : Tbl w) : Calls Tryz.prog 23 #[.agg #[.string s, .string t], .agg #[.string u, .string v]] w fun r w' => r = .returned (frT ⟨#[]⟩ ⟨#[]⟩ e) ∧ Below w.heap.size w w' := by
  refine fmul_wrap ?_
  exact made_bad s t u v _ he0 (fboth_any s t u v hs ht hu hv rfl rfl he ((htb.below (W3.low _ _ _ _ _)).below (W3.low _ _ _ _ _)))
set_option maxRecDepth 100000 in
set_option maxHeartbeats 4000000 in
theorem fdiv_ok {p q r s : Int} (h1 : Good p q) (h2 : Good r s) (hr0 : r ≠ 0) {w : World} (ht : Tbl w) : Calls Tryz.prog 38 #[.agg #[.string (strN (txtI p)), .string (strN (txtI q))], .agg #[.string (strN (txtI r)), .string (strN (txtI s))]] w fun e w' => e = .returned (opV (doE (doE true (p * s)) (q * r)) (lowF (p * s) (q * r))) ∧ Below w.heap.size w w' := by
  obtain ⟨a, b, e, h⟩ := opV_frT (doE (doE true (p * s)) (q * r)) (lowF (p * s) (q * r))
  have HBO : Hid (∀ w', Below w.heap.size w w' → Calls Tryz.prog 77 #[.agg #[.string (strN (txtI p)), .string (strN (txtI q))], .agg #[.string (strN (txtI r)), .string (strN (txtI s))]] w' fun r w2 => r = .returned (.int .i64 0) ∧ Below w'.heap.size w' w2) := fun w' hb => fboth_any _ _ _ _ (lim_size h1.num) (lim_size h1.den) (lim_size h2.num) (lim_size h2.den) h1.chk h2.chk rfl (ht.below hb)
  have H1 : Hid (∀ w' A B, Below w.heap.size w w' → FBox w' A p q → FBox w' B r s → Calls Tryz.prog 60 #[.agg #[.string (strN (txtI p)), .string (strN (txtI q))], .agg #[.string (strN (txtI r)), .string (strN (txtI s))], .func (.func 78) #[] #[.pointer (some ⟨A, 0, none⟩), .pointer (some ⟨B, 0, none⟩)]] w' fun r w2 => r = .returned (frT a b e) ∧ Below w'.heap.size w' w2) := fun w' A B hb hA hB => by
    rw [← h]
    exact made_div h1 h2 hr0 (ht.below hb) hA hB
  have tz : ((strN (txtI r)).toList == [48]) = false := txtI_ne0 hr0
  unfold FBox at H1
  rw [h]
  unfold frT at *
  obtain ⟨sp, hsp⟩ : ∃ sp, sp = strN (txtI p) := ⟨_, rfl⟩
  obtain ⟨sq, hsq⟩ : ∃ sq, sq = strN (txtI q) := ⟨_, rfl⟩
  obtain ⟨sr, hsr⟩ : ∃ sr, sr = strN (txtI r) := ⟨_, rfl⟩
  obtain ⟨ss, hss⟩ : ∃ ss, ss = strN (txtI s) := ⟨_, rfl⟩
  rw [← hsp, ← hsq, ← hsr, ← hss] at H1 HBO ⊢
  rw [← hsr] at tz
  have HW := hide (W3.low w sp sq sr ss)
  have HX := hide (W3.c w sp sq sr ss)
  have HA := hide (W3.a w sp sq sr ss)
  have HB := hide (W3.b w sp sq sr ss)
  clear h1 h2 hr0 ht h hsp hsq hsr hss
  go_enter Tryz.func38, Tryz.ntmps38
  go_wp2_with (first
    | (go_at_call 77; (with_reducible refine (HBO.out _ HW.out).mono ?_); rintro ec w5 ⟨rfl, hb5⟩; have HB5 := hide (below_then HW.out hb5); have HX5 := hide (HX.out.below hb5); have HA5 := hide (HA.out.below hb5); have HY5 := hide (HB.out.below hb5); obtain ⟨d0, d1, f0, f1⟩ := HA5.out.two; obtain ⟨e0, e1, g0, g1⟩ := HY5.out.two; clear hb5)
    | (go_at_call 60; (with_reducible refine (H1.out _ _ _ HB5.out HA5.out HY5.out).mono ?_); rintro ec w6 ⟨rfl, hb6⟩; have HB6 := hide (below_then HB5.out hb6); have HX6 := hide (HX5.out.below hb6); obtain ⟨k0, k1, l0, l1⟩ := HX6.out.two; clear hb6))
  obtain ⟨j0, j1⟩ := HX6.out.full (a := .string a) (b := .string b)
  refine bodyPost_ret (v := .tuple #[.agg #[.string a, .string b], .int .i64 e]) (by simp [results, Tryz.results38, go_sem, j0, j1]) rfl ⟨rfl, ?_⟩
  exact ((HB6.out.setCell (by show w.heap.size ≤ w.heap.size + 1 + 1; omega) _).setCell (by show w.heap.size ≤ w.heap.size + 1 + 1; omega) _)
set_option maxRecDepth 100000 in
set_option maxHeartbeats 4000000 in
theorem fdiv_zero {p q s : Int} (h1 : Good p q) (h2 : Good 0 s) {w : World} (ht : Tbl w) : Calls Tryz.prog 38 #[.agg #[.string (strN (txtI p)), .string (strN (txtI q))], .agg #[.string (strN (txtI 0)), .string (strN (txtI s))]] w fun e w' => e = .returned (frT ⟨#[]⟩ ⟨#[]⟩ 10) ∧ Below w.heap.size w w' := by
  have HBO : Hid (∀ w', Below w.heap.size w w' → Calls Tryz.prog 77 #[.agg #[.string (strN (txtI p)), .string (strN (txtI q))], .agg #[.string (strN (txtI 0)), .string (strN (txtI s))]] w' fun r w2 => r = .returned (.int .i64 0) ∧ Below w'.heap.size w' w2) := fun w' hb => fboth_any _ _ _ _ (lim_size h1.num) (lim_size h1.den) (lim_size h2.num) (lim_size h2.den) h1.chk h2.chk rfl (ht.below hb)
  have tz : ((strN (txtI 0)).toList == [48]) = true := by rw [strN_toList]; rfl
  unfold frT at *
  obtain ⟨sp, hsp⟩ : ∃ sp, sp = strN (txtI p) := ⟨_, rfl⟩
  obtain ⟨sq, hsq⟩ : ∃ sq, sq = strN (txtI q) := ⟨_, rfl⟩
  obtain ⟨sr, hsr⟩ : ∃ sr, sr = strN (txtI 0) := ⟨_, rfl⟩
  obtain ⟨ss, hss⟩ : ∃ ss, ss = strN (txtI s) := ⟨_, rfl⟩
  rw [← hsp, ← hsq, ← hsr, ← hss] at HBO ⊢
  rw [← hsr] at tz
  have HW := hide (W3.low w sp sq sr ss)
  have HX := hide (W3.c w sp sq sr ss)
  have HB := hide (W3.b w sp sq sr ss)
  clear h1 h2 ht hsp hsq hsr hss
  go_enter Tryz.func38, Tryz.ntmps38
  go_wp2_with (go_at_call 77; (with_reducible refine (HBO.out _ HW.out).mono ?_); rintro ec w5 ⟨rfl, hb5⟩; have HB5 := hide (below_then HW.out hb5); have HX5 := hide (HX.out.below hb5); have HY5 := hide (HB.out.below hb5); obtain ⟨d0, d1, f0, f1⟩ := HX5.out.two; obtain ⟨e0, e1, g0, g1⟩ := HY5.out.two; clear hb5)
  obtain ⟨j0, j1⟩ := HX5.out.full (a := .string ⟨#[]⟩) (b := .string ⟨#[]⟩)
  refine bodyPost_ret (v := .tuple #[.agg #[.string ⟨#[]⟩, .string ⟨#[]⟩], .int .i64 10]) (by simp [results, Tryz.results38, go_sem, j0, j1]) rfl ⟨rfl, ?_⟩
  exact ((HB5.out.setCell (by show w.heap.size ≤ w.heap.size + 1 + 1; omega) _).setCell (by show w.heap.size ≤ w.heap.size + 1 + 1; omega) _)
set_option maxRecDepth 100000 in
set_option maxHeartbeats 4000000 in
theorem fdiv_bad (s t u v : ByteArray) (hs : s.size ≤ 140737488355328) (ht : t.size ≤ 140737488355328) (hu : u.size ≤ 140737488355328) (hv : v.size ≤ 140737488355328) {e : Int} (he0 : e ≠ 0) (he : errOr (chkF s.data.toList t.data.toList) (chkF u.data.toList v.data.toList) = e) {w : World} (htb : Tbl w) : Calls Tryz.prog 38 #[.agg #[.string s, .string t], .agg #[.string u, .string v]] w fun r w' => r = .returned (frT ⟨#[]⟩ ⟨#[]⟩ e) ∧ Below w.heap.size w w' := by
  have HBO := hide (fboth_any s t u v hs ht hu hv rfl rfl he (htb.below (W3.low _ s t u v)))
  have HW := hide (W3.low w s t u v)
  have HX := hide (W3.c w s t u v)
  have tq : (e != 0) = true := by simpa using he0
  unfold frT
  clear hs ht hu hv he0 he htb
  go_enter Tryz.func38, Tryz.ntmps38
  go_wp2_with (go_at_call 77; (with_reducible refine HBO.out.mono ?_); rintro ec w5 ⟨rfl, hb5⟩; have HB5 := hide (below_then HW.out hb5); have HX5 := hide (HX.out.below hb5); obtain ⟨d0, d1, f0, f1⟩ := HX5.out.two; clear hb5)
  obtain ⟨j0, j1⟩ := HX5.out.full (a := .string ⟨#[]⟩) (b := .string ⟨#[]⟩)
  refine bodyPost_ret (v := .tuple #[.agg #[.string ⟨#[]⟩, .string ⟨#[]⟩], .int .i64 e]) (by simp [results, Tryz.results38, go_sem, j0, j1]) rfl ⟨rfl, ?_⟩
  exact ((HB5.out.setCell (by show w.heap.size ≤ w.heap.size + 1 + 1; omega) _).setCell (by show w.heap.size ≤ w.heap.size + 1 + 1; omega) _)
end Go.Proofs.YthpknfoahimopaaGreatDoor

set_option linter.unusedVariables false
set_option linter.unusedSimpArgs false
set_option linter.unnecessarySimpa false
namespace Go.Proofs.YthpknfoahimopaaGreatDoor
open Go.RowKit

/-- The boxes of a function with one fraction. -/
abbrev W2 (w : World) (s t : ByteArray) : World := (w.alloc (.cells #[.string s, .string t] 26)).alloc (.cells #[.string ⟨#[]⟩, .string ⟨#[]⟩] 26)
theorem W2.low (w : World) (s t : ByteArray) : Below w.heap.size w (W2 w s t) := bnew (bnew (Below.refl _ _) _) _
theorem W2.a (w : World) (s t : ByteArray) : Box (W2 w s t) w.heap.size [.string s, .string t] 26 := (Box.new w _ _).next _
theorem W2.c (w : World) (s t : ByteArray) : Box (W2 w s t) (w.heap.size + 1) [.string ⟨#[]⟩, .string ⟨#[]⟩] 26 := by
  have h5 := Box.new (w.alloc (.cells #[.string s, .string t] 26)) [.string ⟨#[]⟩, .string ⟨#[]⟩] 26
  rw [World.size_alloc] at h5
  exact h5
theorem Good.check {p q : Int} (h : Good p q) {w : World} (ht : Tbl w) : Calls Tryz.prog 25 #[.agg #[.string (strN (txtI p)), .string (strN (txtI q))]] w fun e w' => e = .returned (.int .i64 0) ∧ Below w.heap.size w w' := by
  rw [← h.chk]
  exact fcheck_any _ _ (lim_size h.num) (lim_size h.den) ht
set_option maxRecDepth 100000 in
set_option maxHeartbeats 4000000 in
theorem fneg_ok {p q : Int} (h : Good p q) {w : World} (ht : Tbl w) : Calls Tryz.prog 27 #[.agg #[.string (strN (txtI p)), .string (strN (txtI q))]] w fun e w' => e = .returned (frT (strN (txtI (-p))) (strN (txtI q)) 0) ∧ Below w.heap.size w w' := by
  have H1 : Hid (∀ w', Below w.heap.size w w' → Calls Tryz.prog 25 #[.agg #[.string (strN (txtI p)), .string (strN (txtI q))]] w' fun e w2 => e = .returned (.int .i64 0) ∧ Below w'.heap.size w' w2) := fun w' hb => h.check (ht.below hb)
  have H2 : Hid (∀ w', Below w.heap.size w w' → Calls Tryz.prog 51 #[.string (strN (txtI p))] w' fun e w2 => e = .returned (.tuple #[.string (strN (txtI (-p))), .int .i64 0]) ∧ Below w'.heap.size w' w2) := fun w' hb => by
    have h5 := ineg_any h.num (ht.below hb)
    rw [resI_lim (lim_neg h.num)] at h5
    exact h5
  unfold frT
  obtain ⟨s, hs⟩ : ∃ s, s = strN (txtI p) := ⟨_, rfl⟩
  obtain ⟨t, htt⟩ : ∃ t, t = strN (txtI q) := ⟨_, rfl⟩
  obtain ⟨n, hn⟩ : ∃ n, n = strN (txtI (-p)) := ⟨_, rfl⟩
  rw [← hs, ← htt] at H1 ⊢
  rw [← hs, ← hn] at H2
  rw [← hn]
  have HW := hide (W2.low w s t)
  have HA := hide (W2.a w s t)
  have HX := hide (W2.c w s t)
  clear h ht hs htt hn
  go_enter Tryz.func27, Tryz.ntmps27
  go_wp2_with (first
    | (go_at_call 25; (with_reducible refine (H1.out _ HW.out).mono ?_); rintro ec w5 ⟨rfl, hb5⟩; have HB5 := hide (below_then HW.out hb5); have HX5 := hide (HX.out.below hb5); have HA5 := hide (HA.out.below hb5); obtain ⟨d0, d1, f0, f1⟩ := HA5.out.two; clear hb5)
    | (go_at_call 51; (with_reducible refine (H2.out _ HB5.out).mono ?_); rintro ec w6 ⟨rfl, hb6⟩; have HB6 := hide (below_then HB5.out hb6); have HX6 := hide (HX5.out.below hb6); obtain ⟨k0, k1, l0, l1⟩ := HX6.out.two; obtain ⟨d0, d1, f0, f1⟩ := (HA5.out.below hb6).two; clear hb6))
  obtain ⟨j0, j1⟩ := HX6.out.full (a := .string n) (b := .string t)
  refine bodyPost_ret (v := .tuple #[.agg #[.string n, .string t], .int .i64 0]) (by simp [results, Tryz.results27, go_sem, j0, j1]) rfl ⟨rfl, ?_⟩
  exact ((HB6.out.setCell (by show w.heap.size ≤ w.heap.size + 1; omega) _).setCell (by show w.heap.size ≤ w.heap.size + 1; omega) _)
set_option maxRecDepth 100000 in
set_option maxHeartbeats 4000000 in
theorem fneg_bad (s t : ByteArray) (hs : s.size ≤ 140737488355328) (ht : t.size ≤ 140737488355328) {e : Int} (he0 : e ≠ 0) (he : chkF s.data.toList t.data.toList = e) {w : World} (htb : Tbl w) : Calls Tryz.prog 27 #[.agg #[.string s, .string t]] w fun r w' => r = .returned (frT ⟨#[]⟩ ⟨#[]⟩ e) ∧ Below w.heap.size w w' := by
  have HBO := hide (fcheck_any s t hs ht (htb.below (W2.low _ s t)))
  rw [he] at HBO
  have HW := hide (W2.low w s t)
  have HX := hide (W2.c w s t)
  have tq : (e != 0) = true := by simpa using he0
  unfold frT
  clear hs ht he0 he htb
  go_enter Tryz.func27, Tryz.ntmps27
  go_wp2_with (go_at_call 25; (with_reducible refine HBO.out.mono ?_); rintro ec w5 ⟨rfl, hb5⟩; have HB5 := hide (below_then HW.out hb5); have HX5 := hide (HX.out.below hb5); obtain ⟨d0, d1, f0, f1⟩ := HX5.out.two; clear hb5)
  obtain ⟨j0, j1⟩ := HX5.out.full (a := .string ⟨#[]⟩) (b := .string ⟨#[]⟩)
  refine bodyPost_ret (v := .tuple #[.agg #[.string ⟨#[]⟩, .string ⟨#[]⟩], .int .i64 e]) (by simp [results, Tryz.results27, go_sem, j0, j1]) rfl ⟨rfl, ?_⟩
  exact ((HB5.out.setCell (by show w.heap.size ≤ w.heap.size + 1; omega) _).setCell (by show w.heap.size ≤ w.heap.size + 1; omega) _)
set_option maxRecDepth 100000 in
theorem ffloor_ok {p q : Int} (h : Good p q) {w : World} (ht : Tbl w) : Calls Tryz.prog 29 #[.agg #[.string (strN (txtI p)), .string (strN (txtI q))]] w fun e w' => e = .returned (.tuple #[.string (strN (txtI (p.fdiv q))), .int .i64 0]) ∧ Below w.heap.size w w' := by
  have H1 : Hid (∀ w', Below w.heap.size w w' → Calls Tryz.prog 25 #[.agg #[.string (strN (txtI p)), .string (strN (txtI q))]] w' fun e w2 => e = .returned (.int .i64 0) ∧ Below w'.heap.size w' w2) := fun w' hb => h.check (ht.below hb)
  have hq0 : q ≠ 0 := by have := h.low.1; omega
  have H2 : Hid (∀ w', Below w.heap.size w w' → Calls Tryz.prog 52 #[.string (strN (txtI p)), .string (strN (txtI q))] w' fun e w2 => e = .returned (.tuple #[.string (strN (txtI (p.fdiv q))), .int .i64 0]) ∧ Below w'.heap.size w' w2) := fun w' hb => by
    have h5 := iquo_any h.num h.den hq0 (ht.below hb)
    rw [resI_lim (lim_fdiv h.num hq0)] at h5
    exact h5
  obtain ⟨s, hs⟩ : ∃ s, s = strN (txtI p) := ⟨_, rfl⟩
  obtain ⟨t, htt⟩ : ∃ t, t = strN (txtI q) := ⟨_, rfl⟩
  obtain ⟨n, hn⟩ : ∃ n, n = strN (txtI (p.fdiv q)) := ⟨_, rfl⟩
  rw [← hs, ← htt] at H1 ⊢
  rw [← hs, ← htt, ← hn] at H2
  rw [← hn]
  have HW : Hid (Below w.heap.size w (w.alloc (.cells #[.string s, .string t] 26))) := bnew (Below.refl _ _) _
  have HA := hide (Box.new w [.string s, .string t] 26)
  clear h ht hs htt hn hq0
  go_enter Tryz.func29, Tryz.ntmps29
  go_wp2_with (first
    | (go_at_call 25; (with_reducible refine (H1.out _ HW.out).mono ?_); rintro ec w5 ⟨rfl, hb5⟩; have HB5 := hide (below_then HW.out hb5); obtain ⟨d0, d1, f0, f1⟩ := (HA.out.below hb5).two; clear hb5)
    | (go_at_call 52; (with_reducible refine (H2.out _ HB5.out).mono ?_); rintro ec w6 ⟨rfl, hb6⟩; have HB6 := hide (below_then HB5.out hb6); clear hb6))
  go_ret2
  exact ⟨rfl, HB6.out⟩
set_option maxRecDepth 100000 in
theorem ffloor_bad (s t : ByteArray) (hs : s.size ≤ 140737488355328) (ht : t.size ≤ 140737488355328) {e : Int} (he0 : e ≠ 0) (he : chkF s.data.toList t.data.toList = e) {w : World} (htb : Tbl w) : Calls Tryz.prog 29 #[.agg #[.string s, .string t]] w fun r w' => r = .returned (.tuple #[.string ⟨#[]⟩, .int .i64 e]) ∧ Below w.heap.size w w' := by
  have HW : Hid (Below w.heap.size w (w.alloc (.cells #[.string s, .string t] 26))) := bnew (Below.refl _ _) _
  have HBO := hide (fcheck_any s t hs ht (htb.below HW.out))
  rw [he] at HBO
  have tq : (e != 0) = true := by simpa using he0
  clear hs ht he0 he htb
  go_enter Tryz.func29, Tryz.ntmps29
  go_wp2_with (go_at_call 25; (with_reducible refine HBO.out.mono ?_); rintro ec w5 ⟨rfl, hb5⟩; have HB5 := hide (below_then HW.out hb5); clear hb5)
  go_ret2
  exact ⟨rfl, HB5.out⟩
/-- The text of a fraction. -/
def txtF (p q : Int) : List UInt8 := if q = 1 then txtI p else txtI p ++ 47 :: txtI q
set_option maxRecDepth 100000 in
theorem ftext_ok {p q : Int} (h : Good p q) {w : World} (ht : Tbl w) : Calls Tryz.prog 31 #[.agg #[.string (strN (txtI p)), .string (strN (txtI q))]] w fun e w' => e = .returned (.tuple #[.string (strN (txtF p q)), .int .i64 0]) ∧ Below w.heap.size w w' := by
  have HW : Hid (Below w.heap.size w (w.alloc (.cells #[.string (strN (txtI p)), .string (strN (txtI q))] 26))) := bnew (Below.refl _ _) _
  have H1 := hide (h.check (ht.below HW.out))
  have HA := hide (Box.new w [.string (strN (txtI p)), .string (strN (txtI q))] 26)
  have t1 : ¬ 9223372036854775807 < (strN (txtI p)).size + 1 := by have := lim_size h.num; omega
  have t2 : ¬ 9223372036854775807 < (strN (txtI p)).size + 1 + (strN (txtI q)).size := by have := lim_size h.num; have := lim_size h.den; omega
  clear h ht
  by_cases hq : q = 1
  · have tz : ((strN (txtI q)).toList == [49]) = true := by rw [strN_toList, hq]; exact beq_iff_eq.2 txtI_one
    have HT : Hid (strN (txtF p q) = strN (txtI p)) := by show _ = _; unfold txtF; rw [if_pos hq]
    clear hq
    go_enter Tryz.func31, Tryz.ntmps31
    go_wp2_with (go_at_call 25; (with_reducible refine H1.out.mono ?_); rintro ec w5 ⟨rfl, hb5⟩; have HB5 := hide (below_then HW.out hb5); obtain ⟨d0, d1, f0, f1⟩ := (HA.out.below hb5).two; clear hb5)
    go_ret2
    exact ⟨by rw [HT.out]; rfl, HB5.out⟩
  · have tz : ((strN (txtI q)).toList == [49]) = false := by
      rw [strN_toList, Bool.eq_false_iff]
      exact fun e => hq (txtI_inj ((eq_of_beq e).trans txtI_one.symm))
    have HT : Hid (strN (txtF p q) = strN (txtI p) ++ ⟨#[47]⟩ ++ strN (txtI q)) := by
      show _ = _
      unfold txtF
      rw [if_neg hq]
      apply ByteArray.ext
      simp [strN, ByteArray.data_append]
    clear hq
    go_enter Tryz.func31, Tryz.ntmps31
    go_wp2_with (go_at_call 25; (with_reducible refine H1.out.mono ?_); rintro ec w5 ⟨rfl, hb5⟩; have HB5 := hide (below_then HW.out hb5); obtain ⟨d0, d1, f0, f1⟩ := (HA.out.below hb5).two; clear hb5)
    go_ret2
    exact ⟨by rw [HT.out]; rfl, HB5.out⟩
set_option maxRecDepth 100000 in
theorem ftext_bad (s t : ByteArray) (hs : s.size ≤ 140737488355328) (ht : t.size ≤ 140737488355328) {e : Int} (he0 : e ≠ 0) (he : chkF s.data.toList t.data.toList = e) {w : World} (htb : Tbl w) : Calls Tryz.prog 31 #[.agg #[.string s, .string t]] w fun r w' => r = .returned (.tuple #[.string ⟨#[]⟩, .int .i64 e]) ∧ Below w.heap.size w w' := by
  have HW : Hid (Below w.heap.size w (w.alloc (.cells #[.string s, .string t] 26))) := bnew (Below.refl _ _) _
  have HBO := hide (fcheck_any s t hs ht (htb.below HW.out))
  rw [he] at HBO
  have tq : (e != 0) = true := by simpa using he0
  clear hs ht he0 he htb
  go_enter Tryz.func31, Tryz.ntmps31
  go_wp2_with (go_at_call 25; (with_reducible refine HBO.out.mono ?_); rintro ec w5 ⟨rfl, hb5⟩; have HB5 := hide (below_then HW.out hb5); clear hb5)
  go_ret2
  exact ⟨rfl, HB5.out⟩
theorem lim_i64 {n : Int} (h : I64 n) : Lim n := by
  obtain ⟨h1, h2⟩ := h
  have h3 : (digB 10 n.natAbs).length ≤ 20 := digB_len_le (by omega) (by omega)
  by_cases h0 : n.natAbs = 0
  · have e : n = 0 := by omega
    subst e
    exact lim_zero
  · show (txtN n.natAbs).length ≤ 1024
    rw [txtN_len h0]
    omega
/-- What Make returns for two numbers. -/
def makeV (p q : Int) : Value := if q = 0 then frT ⟨#[]⟩ ⟨#[]⟩ 10 else frT (strN (txtI (lowF p q).1)) (strN (txtI (lowF p q).2)) 0
theorem fmake_lim {p q : Int} (hp : Lim p) (hq : Lim q) {w : World} (ht : Tbl w) : Calls Tryz.prog 12 #[.string (strN (txtI p)), .string (strN (txtI q))] w fun e w' => e = .returned (makeV p q) ∧ Below w.heap.size w w' := by
  unfold makeV
  by_cases h : q = 0
  · subst h
    rw [if_pos rfl]
    exact fmake_zero hp
  · rw [if_neg h]
    exact fmake_any hp hq h ht
set_option maxRecDepth 100000 in
set_option maxHeartbeats 4000000 in
theorem fof_any {n m : Int} (hn : I64 n) (hm : I64 m) {w : World} (ht : Tbl w) : Calls Tryz.prog 17 #[.int .i64 n, .int .i64 m] w fun e w' => e = .returned (makeV n m) ∧ Below w.heap.size w w' := by
  obtain ⟨a, b, e, h⟩ : ∃ a b e, makeV n m = frT a b e := by unfold makeV; split <;> exact ⟨_, _, _, rfl⟩
  have H1 : Hid (∀ w', Below w.heap.size w w' → Calls Tryz.prog 43 #[.int .i64 n] w' fun e w2 => e = .returned (.string (strN (txtI n))) ∧ Below w'.heap.size w' w2) := fun w' hb => iof_any hn (ht.below hb)
  have H2 : Hid (∀ w', Below w.heap.size w w' → Calls Tryz.prog 43 #[.int .i64 m] w' fun e w2 => e = .returned (.string (strN (txtI m))) ∧ Below w'.heap.size w' w2) := fun w' hb => iof_any hm (ht.below hb)
  have H3 : Hid (∀ w', Below w.heap.size w w' → Calls Tryz.prog 12 #[.string (strN (txtI n)), .string (strN (txtI m))] w' fun r w2 => r = .returned (frT a b e) ∧ Below w'.heap.size w' w2) := fun w' hb => by
    rw [← h]
    exact fmake_lim (lim_i64 hn) (lim_i64 hm) (ht.below hb)
  rw [h]
  unfold frT at *
  have HW : Hid (Below w.heap.size w (w.alloc (.cells #[.string ⟨#[]⟩, .string ⟨#[]⟩] 26))) := bnew (Below.refl _ _) _
  have HX := hide (Box.new w [.string ⟨#[]⟩, .string ⟨#[]⟩] 26)
  clear h ht hn hm
  go_enter Tryz.func17, Tryz.ntmps17
  go_wp2_with (first
    | (go_at_call 43; have _t := HX; (with_reducible refine (H1.out _ HW.out).mono ?_); rintro ec w5 ⟨rfl, hb5⟩; have HB5 := hide (below_then HW.out hb5); have HX5 := hide (HX.out.below hb5); clear HX hb5 _t)
    | (go_at_call 43; (with_reducible refine (H2.out _ HB5.out).mono ?_); rintro ec w6 ⟨rfl, hb6⟩; have HB6 := hide (below_then HB5.out hb6); have HX6 := hide (HX5.out.below hb6); clear hb6)
    | (go_at_call 12; (with_reducible refine (H3.out _ HB6.out).mono ?_); rintro ec w7 ⟨rfl, hb7⟩; have HB7 := hide (below_then HB6.out hb7); have HX7 := hide (HX6.out.below hb7); obtain ⟨k0, k1, l0, l1⟩ := HX7.out.two; clear hb7))
  obtain ⟨j0, j1⟩ := HX7.out.full (a := .string a) (b := .string b)
  refine bodyPost_ret (v := .tuple #[.agg #[.string a, .string b], .int .i64 e]) (by simp [results, Tryz.results17, go_sem, j0, j1]) rfl ⟨rfl, ?_⟩
  exact ((HB7.out.setCell (Nat.le_refl _) _).setCell (Nat.le_refl _) _)
end Go.Proofs.YthpknfoahimopaaGreatDoor

set_option linter.unusedVariables false
set_option linter.unusedSimpArgs false
namespace Go.Proofs.YthpknfoahimopaaGreatDoor
open Go.RowKit

/-- A fraction as two texts. -/
abbrev FrX := List UInt8 × List UInt8
def frR : Rep FrX := fun _ _ cs x => cs = [.string (strN x.1), .string (strN x.2)] ∧ x.1.length ≤ 140737488355328 ∧ x.2.length ≤ 140737488355328
theorem frR_ok : RepOk frR 2 where
  len := by rintro F w cs x ⟨rfl, _⟩; rfl
  one := by rintro F w cs x ⟨rfl, _⟩ u hu; simp at hu; rcases hu with rfl | rfl <;> rfl
  keep := by rintro F w w' cs x h _; exact h
  wide := by rintro F F' w cs x h _; exact h
theorem SliceR.fr_at {F : Foot} {w : World} {oa : Option Addr} {xs : List FrX} (h : SliceR frR 2 F w oa xs) {i : Nat} (hi : i < xs.length) :
    ∃ s t, xs.drop i = (s, t) :: xs.drop (i + 1) ∧ xs[i]? = some (s, t) ∧ s.length ≤ 140737488355328 ∧ t.length ≤ 140737488355328 ∧ ∃ b off, oa = some ⟨b, off, none⟩ ∧ F b ∧ w.cell? ⟨b, off + i * 2, none⟩ = some (.string (strN s)) ∧ w.cell? ⟨b, off + i * 2 + 1, none⟩ = some (.string (strN t)) := by
  obtain ⟨⟨s, t⟩, h1, h2, b, off, cs, h3, h4, ⟨rfl, h5, h6⟩, h7⟩ := h.at hi
  exact ⟨s, t, h1, h2, h5, h6, b, off, h3, h4, by simpa using h7 0 _ rfl, by simpa using h7 1 _ rfl⟩
/-- The first error of a list. -/
def firstE : List FrX → Int
  | [] => 0
  | x :: r => errOr (chkF x.1 x.2) (firstE r)
theorem firstE_all : ∀ {l : List FrX}, firstE l = 0 → ∀ x ∈ l, chkF x.1 x.2 = 0
  | [], _, x, hx => by simp at hx
  | y :: r, h, x, hx => by
    unfold firstE errOr at h
    by_cases hc : chkF y.1 y.2 = 0
    · rw [if_neg (by simp [hc])] at h
      rcases List.mem_cons.1 hx with rfl | hx
      · exact hc
      · exact firstE_all h x hx
    · rw [if_pos hc] at h
      exact absurd h hc
theorem chkF_good {l m : List UInt8} (h : chkF l m = 0) : ∃ p q, l = txtI p ∧ m = txtI q ∧ Good p q := by
  unfold chkF at h
  by_cases h1 : chkI l = 0
  · by_cases h2 : chkI m = 0
    · rw [if_neg (by simp [h1]), if_neg (by simp [h2])] at h
      obtain ⟨p, rfl, hp⟩ := chkI_ok h1
      obtain ⟨q, rfl, hq⟩ := chkI_ok h2
      rw [readI_txtI, readI_txtI] at h
      refine ⟨p, q, rfl, rfl, hp, hq, ?_⟩
      by_cases h3 : 0 < q ∧ p.gcd q = 1
      · exact h3
      · rw [if_neg h3] at h
        omega
    · rw [if_neg (by simp [h1]), if_pos h2] at h
      exact absurd h h2
  · rw [if_pos h1] at h
    exact absurd h h1
/-- The sum from a fraction on. -/
def sumG : Int × Int → List FrX → Option (Int × Int)
  | a, [] => some a
  | a, x :: r => if combK (a.1 * readI x.2) (readI x.1 * a.2) (a.1 * readI x.2 + readI x.1 * a.2) (a.2 * readI x.2) then sumG (lowF (a.1 * readI x.2 + readI x.1 * a.2) (a.2 * readI x.2)) r else none
/-- What Sum returns. -/
def sumV (l : List FrX) : Value :=
  if 4096 < l.length then frT ⟨#[]⟩ ⟨#[]⟩ 5 else if firstE l ≠ 0 then frT ⟨#[]⟩ ⟨#[]⟩ (firstE l) else
    match sumG (0, 1) l with
    | some a => frT (strN (txtI a.1)) (strN (txtI a.2)) 0
    | none => frT ⟨#[]⟩ ⟨#[]⟩ 11
theorem good_01 : Good 0 1 := ⟨lim_zero, lim_i64 (by constructor <;> omega), by constructor <;> decide⟩
theorem good_low {n d : Int} (hn : Lim n) (hd : Lim d) (h0 : d ≠ 0) : Good (lowF n d).1 (lowF n d).2 := by
  have hg0 : 0 < n.gcd d := Int.gcd_pos_of_ne_zero_right n h0
  have hG0 : lowG n d ≠ 0 := by unfold lowG; split <;> omega
  exact ⟨lim_fdiv hn hG0, lim_fdiv hd hG0, (lowF_ok h0).1⟩
theorem combK_lims {n m o d : Int} (h : combK n m o d = true) : Lim n ∧ Lim m ∧ Lim o ∧ Lim d := by
  unfold combK doE at h
  simp only [Bool.true_and, Bool.and_eq_true, decide_eq_true_eq] at h
  obtain ⟨⟨⟨h1, h2⟩, h3⟩, h4⟩ := h
  exact ⟨h1, h2, h3, h4⟩
theorem good_comb {n m o d : Int} (h : combK n m o d = true) (h0 : d ≠ 0) : Good (lowF o d).1 (lowF o d).2 := by
  obtain ⟨_, _, h3, h4⟩ := combK_lims h
  exact good_low h3 h4 h0
theorem good_do {n d : Int} (h : doE (doE true n) d = true) (h0 : d ≠ 0) : Good (lowF n d).1 (lowF n d).2 := by
  unfold doE at h
  simp only [Bool.true_and, Bool.and_eq_true, decide_eq_true_eq] at h
  exact good_low h.1 h.2 h0
theorem Good.mul0 {p q r s : Int} (h1 : Good p q) (h2 : Good r s) : q * s ≠ 0 := by
  have h5 := Int.mul_pos h1.low.1 h2.low.1
  omega
end Go.Proofs.YthpknfoahimopaaGreatDoor

set_option linter.unusedVariables false
set_option linter.unusedSimpArgs false
set_option linter.unnecessarySimpa false
namespace Go.Proofs.YthpknfoahimopaaGreatDoor
open Go.RowKit


set_option maxRecDepth 100000 in
set_option maxHeartbeats 4000000 in
theorem fsum_many (xs : List FrX) (oa : Option Addr) (c : Nat) (w : World) (hl : 4096 < xs.length) (hm : xs.length ≤ 9223372036854775807) : Calls Tryz.prog 46 #[.slice oa xs.length c] w fun e w' => e = .returned (sumV xs) ∧ Below w.heap.size w w' := by
  have HR : Hid (sumV xs = frT ⟨#[]⟩ ⟨#[]⟩ 5) := if_pos hl
  unfold frT at HR
  have q1 : decide ((4096 : Int) < (xs.length : Int)) = true := by simp; omega
  have HB : Hid (Below w.heap.size w (w.alloc (.cells #[.string ⟨#[]⟩, .string ⟨#[]⟩] 26))) := bnew (Below.refl _ _) _
  have HX := hide (Box.new w [.string ⟨#[]⟩, .string ⟨#[]⟩] 26)
  clear hl
  go_enter Tryz.func46, Tryz.ntmps46
  go_wp2_with fail
  obtain ⟨j0, j1, _, _⟩ := HX.out.two
  exact bodyPost_ret (v := .tuple #[.agg #[.string ⟨#[]⟩, .string ⟨#[]⟩], .int .i64 5]) (by simp [results, Tryz.results46, go_sem, j0, j1]) rfl ⟨by rw [HR.out], HB.out⟩

set_option maxRecDepth 100000 in
set_option maxHeartbeats 4000000 in
theorem fsum_any (xs : List FrX) (oa : Option Addr) (c : Nat) (F : Foot) {w : World} (hs : SliceR frR 2 F w oa xs) (hl : xs.length ≤ 4096) (ht : Tbl w) : Calls Tryz.prog 46 #[.slice oa xs.length c] w fun e w' => e = .returned (sumV xs) ∧ Below w.heap.size w w' := by
  have HS := hide hs
  have HT := hide ht
  have HL := hide hl
  have HRV : Hid (sumV xs = if firstE xs ≠ 0 then frT ⟨#[]⟩ ⟨#[]⟩ (firstE xs) else
    match sumG (0, 1) xs with
    | some a => frT (strN (txtI a.1)) (strN (txtI a.2)) 0
    | none => frT ⟨#[]⟩ ⟨#[]⟩ 11) := if_neg (by omega)
  obtain ⟨res, hres⟩ : ∃ r, r = sumV xs := ⟨_, rfl⟩
  rw [← hres] at HRV ⊢
  have q1 : decide ((4096 : Int) < (xs.length : Int)) = false := by simp; omega
  have HB : Hid (Below w.heap.size w (w.alloc (.cells #[.string ⟨#[]⟩, .string ⟨#[]⟩] 26))) := bnew (Below.refl _ _) _
  have HX := hide (Box.new w [.string ⟨#[]⟩, .string ⟨#[]⟩] 26)
  clear hs ht hl hres
  go_enter Tryz.func46, Tryz.ntmps46
  go_upto_region 4 with fail
  go_loopw [18] (fun i wr => ∃ k : Nat, k ≤ xs.length ∧ i = .int .i64 k ∧ Hid (firstE xs = firstE (xs.drop k)) ∧ Hid (Below w.heap.size w wr) ∧ Hid (Box wr w.heap.size [.string ⟨#[]⟩, .string ⟨#[]⟩] 26)) (fun i _ => xs.length - (intOf i).toNat)
  case atStart => exact ⟨0, by omega, rfl, rfl, HB, HX⟩
  case round =>
    clear HB HX
    obtain ⟨k, hk, rfl, HE, HB, HX⟩ := hrel
    by_cases hlt : k < xs.length
    · obtain ⟨s, t, hd, hget, hsl, htl, b, off, rfl, _, c0, c1⟩ := (HS.out.below frR_ok HB.out).fr_at hlt
      have HD := hide hd
      have hk0 : (0 : Int) ≤ k := by omega
      have hk1 : (k : Int) < xs.length := by omega
      have hll := HL.out
      obtain ⟨e, he⟩ : ∃ e, e = chkF s t := ⟨_, rfl⟩
      have H1 : Hid (∀ w', Below w.heap.size w w' → Calls Tryz.prog 25 #[.agg #[.string (strN s), .string (strN t)]] w' fun r w2 => r = .returned (.int .i64 e) ∧ Below w'.heap.size w' w2) := fun w' hb => by
        have h5 := fcheck_any (strN s) (strN t) hsl htl (HT.out.below hb)
        rw [strN_data, strN_data, ← he] at h5
        exact h5
      have HE2 : Hid (firstE xs = errOr e (firstE (xs.drop (k + 1)))) := by
        show _ = _
        rw [HE.out, HD.out, he]
        rfl
      generalize strN s = sp at *
      generalize strN t = sq at *
      clear hd hget hsl htl he
      by_cases h0 : e = 0
      · have q0 : (e != 0) = false := by simp [h0]
        have HE3 : Hid (firstE xs = firstE (xs.drop (k + 1))) := HE2.out.trans (if_neg (by simp [h0]))
        clear h0
        go_wp2_with (go_at_call 25; (with_reducible refine (H1.out _ (bnew HB.out _)).mono ?_); rintro ec w5 ⟨rfl, hbz⟩; have HB5 := hide (below_then (bnew HB.out _) hbz); have HX5 := hide ((HX.out.next _).below hbz); clear hbz)
        go_roundw
        case rel => exact ⟨k + 1, by omega, by go_num, HE3, HB5, HX5⟩
        case measure => simp [intOf]; omega
      · have q0 : (e != 0) = true := by simpa using h0
        have HE3 : Hid (firstE xs = e) := HE2.out.trans (if_pos h0)
        have HRW : Hid (res = frT ⟨#[]⟩ ⟨#[]⟩ e) := by
          show res = _
          rw [HRV.out, HE3.out, if_pos h0]
        clear h0
        go_wp2_with (go_at_call 25; (with_reducible refine (H1.out _ (bnew HB.out _)).mono ?_); rintro ec w5 ⟨rfl, hbz⟩; have HB5 := hide (below_then (bnew HB.out _) hbz); have HX5 := hide ((HX.out.next _).below hbz); obtain ⟨k0, k1, l0, l1⟩ := HX5.out.two; clear hbz)
        obtain ⟨j0, j1⟩ := HX5.out.full (a := .string ⟨#[]⟩) (b := .string ⟨#[]⟩)
        refine bodyPost_ret (v := .tuple #[.agg #[.string ⟨#[]⟩, .string ⟨#[]⟩], .int .i64 e]) (by simp [results, Tryz.results46, go_sem, j0, j1]) rfl ⟨by rw [HRW.out]; rfl, ?_⟩
        exact ((HB5.out.setCell (Nat.le_refl _) _).setCell (Nat.le_refl _) _)
    · have hke : k = xs.length := by omega
      subst hke
      have HE0 : Hid (firstE xs = 0) := by
        show _ = _
        rw [HE.out, List.drop_length]
        rfl
      have HRU : Hid (res = match sumG (0, 1) xs with
        | some a => frT (strN (txtI a.1)) (strN (txtI a.2)) 0
        | none => frT ⟨#[]⟩ ⟨#[]⟩ 11) := HRV.out.trans (if_neg (by rw [HE0.out]; simp))
      have HALL := hide (firstE_all HE0.out)
      clear HE HRV
      have HB6 : Hid (Below w.heap.size w (wr.alloc (.cells #[.string ⟨#[48]⟩, .string ⟨#[49]⟩] 26))) := bnew HB.out _
      have HX6 : Hid (Box (wr.alloc (.cells #[.string ⟨#[48]⟩, .string ⟨#[49]⟩] 26)) w.heap.size [.string ⟨#[]⟩, .string ⟨#[]⟩] 26) := HX.out.next _
      have HO6 : Hid (FBox (wr.alloc (.cells #[.string ⟨#[48]⟩, .string ⟨#[49]⟩] 26)) wr.heap.size 0 1) := by
        have h5 := Box.new wr [.string (strN (txtI 0)), .string (strN (txtI 1))] 26
        rw [show strN (txtI 0) = ⟨#[48]⟩ from rfl, show strN (txtI 1) = ⟨#[49]⟩ from by rw [txtI_one]; rfl] at h5
        show Box _ _ [.string (strN (txtI 0)), .string (strN (txtI 1))] _
        rw [show strN (txtI 0) = ⟨#[48]⟩ from rfl, show strN (txtI 1) = ⟨#[49]⟩ from by rw [txtI_one]; rfl]
        exact h5
      have HPW : Hid (w.heap.size < wr.heap.size) := HX.out.lt
      go_upto_region 12 with fail
      obtain ⟨p, hp⟩ : ∃ p, p = wr.heap.size := ⟨_, rfl⟩
      rw [← hp] at HO6 HPW ⊢
      clear hp
      go_loopw [32] (fun i wx => ∃ (k : Nat) (a : Int × Int), k ≤ xs.length ∧ i = .int .i64 k ∧ Hid (sumG (0, 1) xs = sumG a (xs.drop k)) ∧ Hid (Good a.1 a.2) ∧ Hid (Below w.heap.size w wx) ∧ Hid (Box wx w.heap.size [.string ⟨#[]⟩, .string ⟨#[]⟩] 26) ∧ Hid (FBox wx p a.1 a.2)) (fun i _ => xs.length - (intOf i).toNat)
      case atStart => exact ⟨0, (0, 1), by omega, rfl, rfl, good_01, HB6, HX6, HO6⟩
      case round =>
        clear HB6 HX6 HO6
        obtain ⟨k, a, hk, rfl, HG, HGD, HB, HX, HO⟩ := hrel
        by_cases hlt : k < xs.length
        · obtain ⟨s, t, hd, hget, hsl, htl, b, off, rfl, _, c0, c1⟩ := (HS.out.below frR_ok HB.out).fr_at hlt
          obtain ⟨r, y, rfl, rfl, hg2⟩ := chkF_good (HALL.out (s, t) (List.mem_of_getElem? hget))
          obtain ⟨p0, q0⟩ := a
          have HGD2 : Hid (Good p0 q0) := HGD.out
          have hm0 : q0 * y ≠ 0 := HGD2.out.mul0 hg2
          have HM0 := hide hm0
          have hk0 : (0 : Int) ≤ k := by omega
          have hk1 : (k : Int) < xs.length := by omega
          have hll := HL.out
          have HG2 : Hid (sumG (0, 1) xs = if combK (p0 * y) (r * q0) (p0 * y + r * q0) (q0 * y) then sumG (lowF (p0 * y + r * q0) (q0 * y)) (xs.drop (k + 1)) else none) := by
            show _ = _
            rw [HG.out, hd]
            show (if combK (p0 * readI (txtI y)) (readI (txtI r) * q0) (p0 * readI (txtI y) + readI (txtI r) * q0) (q0 * readI (txtI y)) then sumG (lowF (p0 * readI (txtI y) + readI (txtI r) * q0) (q0 * readI (txtI y))) (xs.drop (k + 1)) else none) = _
            rw [readI_txtI, readI_txtI]
          have HOB : Hid (Box wr p [.string (strN (txtI p0)), .string (strN (txtI q0))] 26) := HO.out
          have H1 : Hid (∀ w', Below w.heap.size w w' → Calls Tryz.prog 21 #[.agg #[.string (strN (txtI p0)), .string (strN (txtI q0))], .agg #[.string (strN (txtI r)), .string (strN (txtI y))]] w' fun e w2 => e = .returned (opV (combK (p0 * y) (r * q0) (p0 * y + r * q0) (q0 * y)) (lowF (p0 * y + r * q0) (q0 * y))) ∧ Below w'.heap.size w' w2) := fun w' hb => fadd_ok HGD2.out hg2 (HT.out.below hb)
          clear hd hget hsl htl hg2 HG HGD HO hm0
          have HGK : Hid (combK (p0 * y) (r * q0) (p0 * y + r * q0) (q0 * y) = true → Good (lowF (p0 * y + r * q0) (q0 * y)).1 (lowF (p0 * y + r * q0) (q0 * y)).2) := fun h => good_comb h HM0.out
          generalize combK (p0 * y) (r * q0) (p0 * y + r * q0) (q0 * y) = kk at *
          generalize lowF (p0 * y + r * q0) (q0 * y) = z at *
          clear HM0
          generalize strN (txtI p0) = sp at *
          generalize strN (txtI q0) = sq at *
          generalize strN (txtI r) = sr at *
          generalize strN (txtI y) = ss at *
          obtain ⟨d0, d1, _, _⟩ := (HOB.out.next (.cells #[.string sr, .string ss] 26)).two
          cases kk
          · have HRW : Hid (res = frT ⟨#[]⟩ ⟨#[]⟩ 11) := by
              show res = _
              rw [HRU.out, HG2.out]
              rfl
            unfold opV frT at H1
            simp only [Bool.false_eq_true, if_false] at H1
            go_wp2_with (go_at_call 21; (with_reducible refine (H1.out _ (bnew HB.out _)).mono ?_); rintro ec w5 ⟨rfl, hbz⟩; have HB5 := hide (bnew (below_then (bnew HB.out _) hbz) (.cells #[.string ⟨#[]⟩, .string ⟨#[]⟩] 26)); have HX5 := hide (((HX.out.next _).below hbz).next (.cells #[.string ⟨#[]⟩, .string ⟨#[]⟩] 26)); obtain ⟨k0, k1, l0, l1⟩ := HX5.out.two; clear hbz)
            obtain ⟨j0, j1⟩ := HX5.out.full (a := .string ⟨#[]⟩) (b := .string ⟨#[]⟩)
            refine bodyPost_ret (v := .tuple #[.agg #[.string ⟨#[]⟩, .string ⟨#[]⟩], .int .i64 11]) (by simp [results, Tryz.results46, go_sem, j0, j1]) rfl ⟨by rw [HRW.out]; rfl, ?_⟩
            exact ((HB5.out.setCell (Nat.le_refl _) _).setCell (Nat.le_refl _) _)
          · have HG3 : Hid (sumG (0, 1) xs = sumG z (xs.drop (k + 1))) := HG2.out
            have HZG := hide (HGK.out rfl)
            unfold opV frT at H1
            simp only [if_true] at H1
            obtain ⟨sa, hsa⟩ : ∃ v, v = strN (txtI z.1) := ⟨_, rfl⟩
            obtain ⟨sb, hsb⟩ : ∃ v, v = strN (txtI z.2) := ⟨_, rfl⟩
            rw [← hsa, ← hsb] at H1
            have HSA : Hid (sa = strN (txtI z.1) ∧ sb = strN (txtI z.2)) := ⟨hsa, hsb⟩
            clear hsa hsb
            have hpw := HPW.out
            go_wp2_with (go_at_call 21; (with_reducible refine (H1.out _ (bnew HB.out _)).mono ?_); rintro ec w5 ⟨rfl, hbz⟩; have HB5 := hide (bnew (below_then (bnew HB.out _) hbz) (.cells #[.string sa, .string sb] 26)); have HX5 := hide (((HX.out.next _).below hbz).next (.cells #[.string sa, .string sb] 26)); have HO5 := hide (((HOB.out.next _).below hbz).next (.cells #[.string sa, .string sb] 26)); obtain ⟨k0, k1, l0, l1⟩ := HO5.out.two; clear hbz)
            go_roundw
            case rel =>
              refine ⟨k + 1, z, by omega, by go_num, HG3, HZG, ?_, ?_, ?_⟩
              · exact (HB5.out.setCell (by show w.heap.size ≤ p; omega) _).setCell (by show w.heap.size ≤ p; omega) _
              · exact (HX5.out.other (p := ⟨p, 0, none⟩) (by show w.heap.size ≠ p; omega) _).other (p := ⟨p, 1, none⟩) (by show w.heap.size ≠ p; omega) _
              · have h5 := (HO5.out.put 0 (.string sa)).put 1 (.string sb)
                rw [HSA.out.1, HSA.out.2] at h5 ⊢
                exact h5
            case measure => simp [intOf]; omega
        · have hke : k = xs.length := by omega
          subst hke
          have HRW : Hid (res = frT (strN (txtI a.1)) (strN (txtI a.2)) 0) := by
            show res = _
            rw [HRU.out, HG.out, List.drop_length]
            rfl
          have HOB : Hid (Box wr p [.string (strN (txtI a.1)), .string (strN (txtI a.2))] 26) := HO.out
          generalize strN (txtI a.1) = sa at *
          generalize strN (txtI a.2) = sb at *
          obtain ⟨d0, d1, _, _⟩ := HOB.out.two
          obtain ⟨k0, k1, l0, l1⟩ := HX.out.two
          go_wp2_with fail
          obtain ⟨j0, j1⟩ := HX.out.full (a := .string sa) (b := .string sb)
          refine bodyPost_ret (v := .tuple #[.agg #[.string sa, .string sb], .int .i64 0]) (by simp [results, Tryz.results46, go_sem, j0, j1]) rfl ⟨by rw [HRW.out]; rfl, ?_⟩
          exact ((HB.out.setCell (Nat.le_refl _) _).setCell (Nat.le_refl _) _)
end Go.Proofs.YthpknfoahimopaaGreatDoor

set_option linter.unusedVariables false
set_option linter.unusedSimpArgs false
set_option linter.unnecessarySimpa false
namespace Go.Proofs.YthpknfoahimopaaGreatDoor
open Go.RowKit

/-- Two boxes. -/
abbrev W2b (w : World) (s t u v : ByteArray) : World := (w.alloc (.cells #[.string s, .string t] 26)).alloc (.cells #[.string u, .string v] 26)
theorem W2b.low (w : World) (s t u v : ByteArray) : Below w.heap.size w (W2b w s t u v) := bnew (bnew (Below.refl _ _) _) _
theorem W2b.a (w : World) (s t u v : ByteArray) : Box (W2b w s t u v) w.heap.size [.string s, .string t] 26 := (Box.new w _ _).next _
theorem W2b.b (w : World) (s t u v : ByteArray) : Box (W2b w s t u v) (w.heap.size + 1) [.string u, .string v] 26 := by
  have h5 := Box.new (w.alloc (.cells #[.string s, .string t] 26)) [.string u, .string v] 26
  rw [World.size_alloc] at h5
  exact h5
theorem fcells4 {w : World} {A B : Nat} {a b c d : Value} (h : Box w A [a, b] 26) (h' : Box w B [c, d] 26) : w.cell? ⟨A, 0, none⟩ = some a ∧ w.cell? ⟨A, 1, none⟩ = some b ∧ w.cell? ⟨B, 0, none⟩ = some c ∧ w.cell? ⟨B, 1, none⟩ = some d :=
  ⟨h.cell 0, h.cell 1, h'.cell 0, h'.cell 1⟩
set_option maxRecDepth 100000 in
theorem fcmp_bad (s t u v : ByteArray) (hs : s.size ≤ 140737488355328) (ht : t.size ≤ 140737488355328) (hu : u.size ≤ 140737488355328) (hv : v.size ≤ 140737488355328) {e : Int} (he0 : e ≠ 0) (he : errOr (chkF s.data.toList t.data.toList) (chkF u.data.toList v.data.toList) = e) {w : World} (htb : Tbl w) : Calls Tryz.prog 40 #[.agg #[.string s, .string t], .agg #[.string u, .string v]] w fun r w' => r = .returned (.tuple #[.int .i64 0, .int .i64 e]) ∧ Below w.heap.size w w' := by
  have HBO := hide (fboth_any s t u v hs ht hu hv rfl rfl he (htb.below (W2b.low _ s t u v)))
  have HW := hide (W2b.low w s t u v)
  have tq : (e != 0) = true := by simpa using he0
  clear hs ht hu hv he0 he htb
  go_enter Tryz.func40, Tryz.ntmps40
  go_wp2_with (go_at_call 77; (with_reducible refine HBO.out.mono ?_); rintro ec w5 ⟨rfl, hb5⟩; have HB5 := hide (below_then HW.out hb5); clear hb5)
  go_ret2
  exact ⟨rfl, HB5.out⟩
/-- What Compare returns for two right fractions. -/
def cmpV (p q r s : Int) : Value := if doE (doE true (p * s)) (r * q) then .tuple #[.int .i64 (sgI (p * s - r * q)), .int .i64 0] else .tuple #[.int .i64 0, .int .i64 11]
set_option maxRecDepth 100000 in
set_option maxHeartbeats 4000000 in
theorem fcmp_ok {p q r s : Int} (h1 : Good p q) (h2 : Good r s) {w : World} (ht : Tbl w) : Calls Tryz.prog 40 #[.agg #[.string (strN (txtI p)), .string (strN (txtI q))], .agg #[.string (strN (txtI r)), .string (strN (txtI s))]] w fun e w' => e = .returned (cmpV p q r s) ∧ Below w.heap.size w w' := by
  obtain ⟨sp, hsp⟩ : ∃ sp, sp = strN (txtI p) := ⟨_, rfl⟩
  obtain ⟨sq, hsq⟩ : ∃ sq, sq = strN (txtI q) := ⟨_, rfl⟩
  obtain ⟨sr, hsr⟩ : ∃ sr, sr = strN (txtI r) := ⟨_, rfl⟩
  obtain ⟨ss, hss⟩ : ∃ ss, ss = strN (txtI s) := ⟨_, rfl⟩
  have HBO := hide (fboth_any (strN (txtI p)) (strN (txtI q)) (strN (txtI r)) (strN (txtI s)) (lim_size h1.num) (lim_size h1.den) (lim_size h2.num) (lim_size h2.den) h1.chk h2.chk rfl (ht.below (W2b.low w (strN (txtI p)) (strN (txtI q)) (strN (txtI r)) (strN (txtI s)))))
  have H1 : Hid (∀ W w' k, Below w.heap.size w W → Stp W w' k → Calls Tryz.prog 62 #[.pointer (some ⟨W.heap.size, 0, none⟩), .func (.func 44) #[] #[], .string (strN (txtI p)), .string (strN (txtI s))] w' (DoPost W k (p * s))) := fun W w' k hb h => fdo_mul h1.num h2.den (ht.below hb) h
  have H2 : Hid (∀ W w' k, Below w.heap.size w W → Stp W w' k → Calls Tryz.prog 62 #[.pointer (some ⟨W.heap.size, 0, none⟩), .func (.func 44) #[] #[], .string (strN (txtI r)), .string (strN (txtI q))] w' (DoPost W k (r * q))) := fun W w' k hb h => fdo_mul h2.num h1.den (ht.below hb) h
  rw [← hsp, ← hsq, ← hsr, ← hss] at HBO ⊢
  rw [← hsp, ← hss] at H1
  rw [← hsr, ← hsq] at H2
  have HW := hide (W2b.low w sp sq sr ss)
  have HA := hide (W2b.a w sp sq sr ss)
  have HY := hide (W2b.b w sp sq sr ss)
  obtain ⟨res, hres⟩ : ∃ v, v = cmpV p q r s := ⟨_, rfl⟩
  rw [← hres]
  have HRES := hide hres
  clear h1 h2 ht hsp hsq hsr hss hres
  go_enter Tryz.func40, Tryz.ntmps40
  go_upto_region 5 with (go_at_call 77; (with_reducible refine HBO.out.mono ?_); rintro ec w5 ⟨rfl, hb5⟩; have HB5 := hide (below_then HW.out hb5); have HA := hide (HA.out.below hb5); have HY := hide (HY.out.below hb5); have HS : Hid (Stp w5 (w5.alloc (.cells #[.int .i64 0] 97)).drew true) := Stp.draw ⟨bnew (Below.refl _ _) _, Box.new _ _ _⟩; clear hb5)
  have HC : Hid (_ ∧ _) := fcells4 (HA.out.below HS.out.1) (HY.out.below HS.out.1)
  go_region_held3 (fun w' => w'.cell? ⟨w.heap.size, 0, none⟩ = some (.string sp) ∧ w'.cell? ⟨w.heap.size, 1, none⟩ = some (.string sq) ∧ w'.cell? ⟨w.heap.size + 1, 0, none⟩ = some (.string sr) ∧ w'.cell? ⟨w.heap.size + 1, 1, none⟩ = some (.string ss)) (first | with_reducible exact HC.out) (first
    | (go_at_call 62; (with_reducible refine (H1.out _ _ _ HB5.out HS.out).mono ?_); rintro ec wz ⟨rfl, hbz⟩; have HC : Hid (_ ∧ _) := fcells4 (HA.out.below hbz.1) (HY.out.below hbz.1); have HS := hide hbz; clear hbz)
    | (go_at_call 62; (with_reducible refine (H2.out _ _ _ HB5.out HS.out).mono ?_); rintro ec wz ⟨rfl, hbz⟩; have HC : Hid (_ ∧ _) := fcells4 (HA.out.below hbz.1) (HY.out.below hbz.1); have HS := hide hbz; clear hbz))
  have HX := hide (lim_doZ true (p * s))
  have HY := hide (lim_doZ (doE true (p * s)) (r * q))
  have HV : Hid (doE (doE true (p * s)) (r * q) = true → doZ true (p * s) = p * s ∧ doZ (doE true (p * s)) (r * q) = r * q) := fun hk => ⟨doZ_ok (doE_left hk), doZ_ok hk⟩
  have HRV : Hid (res = if doE (doE true (p * s)) (r * q) = true then .tuple #[.int .i64 (sgI (p * s - r * q)), .int .i64 0] else .tuple #[.int .i64 0, .int .i64 11]) := HRES.out
  obtain ⟨k, hk⟩ : ∃ k, k = doE (doE true (p * s)) (r * q) := ⟨_, rfl⟩
  rw [← hk] at HS HV HRV
  clear hk HRES
  generalize doZ true (p * s) = x at *
  generalize doZ (doE true (p * s)) (r * q) = y at *
  have HBZ := hide (below_then HB5.out HS.out.1)
  cases k
  · have c5 : wz.cell? ⟨w5.heap.size, 0, none⟩ = some (.int .i64 11) := HS.out.2.cell 0
    have HRW : Hid (res = .tuple #[.int .i64 0, .int .i64 11]) := HRV.out.trans (if_neg (by simp))
    have c6 : wz.drew.cell? ⟨w5.heap.size, 0, none⟩ = some (.int .i64 11) := c5
    go_upto_region 7 with fail
    go_region
    all_goals go_wp2_with fail
    all_goals go_ret2
    all_goals exact ⟨by rw [HRW.out]; rfl, HBZ.out.drew⟩
  · obtain ⟨rfl, rfl⟩ := HV.out rfl
    have c5 : wz.cell? ⟨w5.heap.size, 0, none⟩ = some (.int .i64 0) := HS.out.2.cell 0
    have HRW : Hid (res = .tuple #[.int .i64 (sgI (p * s - r * q)), .int .i64 0]) := by show res = _; rw [HRV.out, if_pos rfl]
    have H9 := hide (icompare_any HX.out HY.out (w := wz))
    go_wp2_with (go_at_call 80; (with_reducible refine H9.out.mono ?_); rintro ec w6 ⟨rfl, hb6⟩; have HB6 := hide (below_then HBZ.out hb6); clear hb6)
    go_ret2
    exact ⟨by rw [HRW.out]; rfl, HB6.out⟩
end Go.Proofs.YthpknfoahimopaaGreatDoor

set_option linter.unusedVariables false
set_option linter.unusedSimpArgs false
set_option linter.unnecessarySimpa false
namespace Go.Proofs.YthpknfoahimopaaGreatDoor
open Go.RowKit

/-- A text before and behind its first stroke. -/
def splitS : List UInt8 → List UInt8 × Option (List UInt8)
  | [] => ([], none)
  | c :: r => if c = 47 then ([], some r) else (c :: (splitS r).1, (splitS r).2)
theorem split_ix : ∀ l : List UInt8, (Lib.indexByte l 47 = -1 ∧ splitS l = (l, none)) ∨ ∃ i : Nat, Lib.indexByte l 47 = i ∧ i + 1 ≤ l.length ∧ splitS l = (l.take i, some (l.drop (i + 1)))
  | [] => .inl ⟨rfl, rfl⟩
  | c :: r => by
    unfold Lib.indexByte splitS
    by_cases hc : c = 47
    · refine .inr ⟨0, ?_, by simp, ?_⟩
      · rw [if_pos (by simpa using hc)]; try rfl
      · rw [if_pos hc]; try rfl
    · rw [if_neg (by simpa using hc), if_neg hc]
      rcases split_ix r with ⟨h1, h2⟩ | ⟨i, h1, h2, h3⟩
      · exact .inl ⟨by rw [h1]; rfl, by rw [h2]⟩
      · refine .inr ⟨i + 1, ?_, by simp; omega, ?_⟩
        · rw [h1, if_neg (by simp <;> omega)]
          omega
        · rw [h3]; try rfl
theorem extract_take (s : ByteArray) (i : Nat) : s.extract 0 i = strN (s.data.toList.take i) := by
  apply ByteArray.ext
  apply Array.ext'
  rw [ByteArray.data_extract, Array.toList_extract]
  show List.extract s.data.toList 0 i = _
  rw [List.extract_eq_take_drop]
  rfl
theorem extract_drop (s : ByteArray) (i : Nat) : s.extract i s.size = strN (s.data.toList.drop i) := by
  apply ByteArray.ext
  apply Array.ext'
  rw [ByteArray.data_extract, Array.toList_extract]
  show List.extract s.data.toList i s.data.size = _
  rw [List.extract_eq_take_drop]
  exact List.take_of_length_le (by simp)
theorem strN_self (s : ByteArray) : strN s.data.toList = s := by
  cases s
  rfl
set_option maxRecDepth 100000 in
theorem sindexbyte_any (s : ByteArray) (w : World) : Calls Tryz.prog 132 #[.string s, .int .u8 47] w fun e w' => e = .returned (.int .i64 (Lib.indexByte s.data.toList 47)) ∧ w' = w := by
  go_enter Tryz.func132, Tryz.ntmps132
  go_wp2
  rw [run_callFunc_extern Tryz.func146 (by kernel_rfl) (by kernel_rfl) (by kernel_rfl) (e := Extern.BytealgIndexByte.indexByte) (by kernel_rfl), Lib.run_indexByteString]
  simp only [Result.andThen]
  rw [Oper.upon_value]
  go_wp2
  go_ret
  exact ⟨rfl, rfl⟩
set_option maxRecDepth 100000 in
theorem sindex_any (s : ByteArray) (w : World) : Calls Tryz.prog 121 #[.string s, .string ⟨#[47]⟩] w fun e w' => e = .returned (.int .i64 (Lib.indexByte s.data.toList 47)) ∧ w' = w := by
  by_cases h : s.toList = [47]
  · have tq : ([47] == s.toList) = true := by rw [h]; rfl
    have HV : Hid (Lib.indexByte s.data.toList 47 = 0) := by
      rw [ByteArray.toList_eq] at h
      show _ = _
      rw [h]
      rfl
    clear h
    go_enter Tryz.func121, Tryz.ntmps121
    go_wp2_with fail
    go_ret
    exact ⟨by rw [HV.out]; rfl, rfl⟩
  · have tq : ([47] == s.toList) = false := by rw [Bool.eq_false_iff]; exact fun e => h (eq_of_beq e).symm
    clear h
    go_enter Tryz.func121, Tryz.ntmps121
    go_wp2_with (go_at_call 132; refine (sindexbyte_any s _).mono ?_; rintro ec w5 ⟨rfl, rfl⟩)
    go_ret
    exact ⟨rfl, rfl⟩
set_option maxRecDepth 100000 in
theorem scut_any (s : ByteArray) (hs : s.size ≤ 140737488355328) (w : World) : Calls Tryz.prog 97 #[.string s, .string ⟨#[47]⟩] w fun e w' => e = .returned (.tuple #[.string (strN (splitS s.data.toList).1), .string (strN ((splitS s.data.toList).2.getD [])), .bool (splitS s.data.toList).2.isSome]) ∧ ∃ n, w' = w.drewN n := by
  rcases split_ix s.data.toList with ⟨h1, h2⟩ | ⟨i, h1, h2, h3⟩
  · rw [h2]
    go_enter Tryz.func97, Tryz.ntmps97
    go_wp2_with (go_at_call 121; (with_reducible refine (sindex_any _ _).mono ?_); rintro ec w5 ⟨rfl, rfl⟩; rw [h1])
    go_ret3
    exact ⟨by rw [strN_self]; rfl, 0, rfl⟩
  · have c1 : (0 : Int) ≤ ↑i := by omega
    have hz : s.data.toList.length = s.size := Array.length_toList
    have c2 : (↑i : Int) ≤ ↑s.size := by omega
    have c3 : (0 : Int) ≤ ↑i + 1 := by omega
    have c4 : (↑i + 1 : Int) ≤ ↑s.size := by omega
    have HV : Hid (splitS s.data.toList = (s.data.toList.take i, some (s.data.toList.drop (i + 1)))) := h3
    have HE : Hid (s.extract 0 i = strN (s.data.toList.take i) ∧ s.extract (i + 1) s.size = strN (s.data.toList.drop (i + 1))) := ⟨extract_take s i, extract_drop s (i + 1)⟩
    clear h2 hz h3
    go_enter Tryz.func97, Tryz.ntmps97
    go_wp2_with (go_at_call 121; (with_reducible refine (sindex_any _ _).mono ?_); rintro ec w5 ⟨rfl, rfl⟩; rw [h1])
    go_region
    go_wp2_with fail
    go_ret3
    exact ⟨by rw [HV.out, HE.out.1, HE.out.2]; rfl, 1, rfl⟩
end Go.Proofs.YthpknfoahimopaaGreatDoor

set_option linter.unusedVariables false
set_option linter.unusedSimpArgs false
set_option linter.unnecessarySimpa false
namespace Go.Proofs.YthpknfoahimopaaGreatDoor
open Go.RowKit

set_option maxRecDepth 100000 in
theorem strcut_any (s : ByteArray) (hs : s.size ≤ 140737488355328) (w : World) : Calls Tryz.prog 54 #[.string s, .string ⟨#[47]⟩] w fun e w' => e = .returned (.tuple #[.string (strN (splitS s.data.toList).1), .string (strN ((splitS s.data.toList).2.getD [])), .bool (splitS s.data.toList).2.isSome]) ∧ Below w.heap.size w w' := by
  have H1 := hide (scut_any s hs w)
  go_enter Tryz.func54, Tryz.ntmps54
  go_wp2_with (go_at_call 97; (with_reducible refine H1.out.mono ?_); rintro ec w5 ⟨rfl, n, rfl⟩)
  go_ret3
  exact ⟨rfl, below_drewN (Below.refl _ _) n⟩
/-- The two parts of a text of a fraction, the error and the value of its reading. -/
def parN (l : List UInt8) : List UInt8 := (splitS l).1
def parD (l : List UInt8) : List UInt8 := (splitS l).2.getD [49]
def parE (l : List UInt8) : Int := if chkI (parN l) = 3 ∨ chkI (parD l) = 3 ∨ (splitS l).2 = some [49] then 3 else chkF (parN l) (parD l)
def parV (l : List UInt8) : Value := if parE l = 0 then frT (strN (parN l)) (strN (parD l)) 0 else frT ⟨#[]⟩ ⟨#[]⟩ (parE l)
set_option maxRecDepth 100000 in
set_option maxHeartbeats 4000000 in
theorem fparse_whole (s num den : ByteArray) (hn : num.size ≤ 140737488355328) (hd : den.size ≤ 140737488355328) {c1 c2 e : Int} (h1 : chkI num.data.toList = c1) (h2 : chkI den.data.toList = c2) (he : chkF num.data.toList den.data.toList = e) {w : World} (ht : Tbl w)
    (HC : ∀ w', Calls Tryz.prog 54 #[.string s, .string ⟨#[47]⟩] w' fun e w2 => e = .returned (.tuple #[.string num, .string den, .bool true]) ∧ Below w'.heap.size w' w2) {res : Value}
    (hres : res = if c1 = 3 ∨ c2 = 3 ∨ (den.toList == [49]) = true then frT ⟨#[]⟩ ⟨#[]⟩ 3 else if e = 0 then frT num den 0 else frT ⟨#[]⟩ ⟨#[]⟩ e) :
    Calls Tryz.prog 14 #[.string s] w fun r w' => r = .returned res ∧ Below w.heap.size w w' := by
  have HCUT := hide HC
  have HRES := hide hres
  have H1 : Hid (∀ w', Calls Tryz.prog 49 #[.string num] w' fun e w2 => e = .returned (.int .i64 c1) ∧ Below w'.heap.size w' w2) := fun w' => chkI_ne num hn h1
  have H2 : Hid (∀ w', Calls Tryz.prog 49 #[.string den] w' fun e w2 => e = .returned (.int .i64 c2) ∧ Below w'.heap.size w' w2) := fun w' => chkI_ne _ hd h2
  have H3 : Hid (∀ w', Below w.heap.size w w' → Calls Tryz.prog 25 #[.agg #[.string num, .string den]] w' fun r w2 => r = .returned (.int .i64 e) ∧ Below w'.heap.size w' w2) := fun w' hb => by rw [← he]; exact fcheck_any num _ hn hd (ht.below hb)
  have HW : Hid (Below w.heap.size w (w.alloc (.cells #[.string ⟨#[]⟩, .string ⟨#[]⟩] 26))) := bnew (Below.refl _ _) _
  have HX := hide (Box.new w [.string ⟨#[]⟩, .string ⟨#[]⟩] 26)
  clear hn hd h1 h2 he ht HC hres
  go_enter Tryz.func14, Tryz.ntmps14
  go_wp2_with (go_at_call 54; (with_reducible refine (HCUT.out _).mono ?_); rintro ec w5 ⟨rfl, hb5⟩; have HB5 := hide (below_then HW.out hb5); have HX5 := hide (HX.out.below hb5); clear hb5)
  have HBW : Hid (Below w.heap.size w ((w5.alloc (.cells #[.string num, .string den] 26)).alloc (.cells #[.string num, .string den] 22))) := bnew (bnew HB5.out _) _
  have HXW : Hid (Box ((w5.alloc (.cells #[.string num, .string den] 26)).alloc (.cells #[.string num, .string den] 22)) w.heap.size [.string ⟨#[]⟩, .string ⟨#[]⟩] 26) := (HX5.out.next _).next _
  have HFW : Hid (Box ((w5.alloc (.cells #[.string num, .string den] 26)).alloc (.cells #[.string num, .string den] 22)) w5.heap.size [.string num, .string den] 26) := (Box.new w5 _ _).next _
  have HIW : Hid (Box ((w5.alloc (.cells #[.string num, .string den] 26)).alloc (.cells #[.string num, .string den] 22)) (w5.heap.size + 1) [.string num, .string den] 22) := by
    have h5 := Box.new (w5.alloc (.cells #[.string num, .string den] 26)) [.string num, .string den] 22
    rw [World.size_alloc] at h5
    exact h5
  generalize hW : (w5.alloc (.cells #[.string num, .string den] 26)).alloc (.cells #[.string num, .string den] 22) = W at *
  have HWW := hide hW
  clear hW
  go_loopg [9, 28] 2 (fun gm s9 iv wx => ∃ k : Nat, k ≤ 2 ∧ gm = 2 - k ∧ iv = .int .i64 k ∧ Hid (0 < k → c1 ≠ 3) ∧ Hid (1 < k → c2 ≠ 3) ∧ Hid (Below W.heap.size W wx))
  case atStart => exact ⟨0, by omega, by omega, rfl, (fun h => absurd h (by omega)), (fun h => absurd h (by omega)), Below.refl _ _⟩
  case round =>
    obtain ⟨k, hk, hgm, rfl, HE1, HE2, HB⟩ := hrel
    have HGM := hide hgm
    clear hgm
    have hbx := HIW.out.below HB.out
    have c0 := hbx.cell 0
    have c1' := hbx.cell 1
    simp only [List.getElem?_cons_zero, List.getElem?_cons_succ] at c0 c1'
    have HBFR := hide (HXW.out.below HB.out)
    have HBF2 := hide (HFW.out.below HB.out)
    have HBR := hide (below_then HBW.out HB.out)
    clear hbx
    match k, hk with
    | 0, _ =>
      by_cases h : c1 = 3
      · have tq : (c1 == 3) = true := by simp [h]
        have HRE : Hid (res = frT ⟨#[]⟩ ⟨#[]⟩ 3) := HRES.out.trans (if_pos (.inl h))
        clear h
        go_wp2_with (go_at_call 49; (with_reducible refine (H1.out _).mono ?_); rintro ec w6 ⟨rfl, hb6⟩; have HB6 := hide (below_then HBR.out hb6); have HX6 := hide (HBFR.out.below hb6); obtain ⟨d0, d1, f0, f1⟩ := HX6.out.two; clear hb6)
        obtain ⟨j0, j1⟩ := HX6.out.full (a := .string ⟨#[]⟩) (b := .string ⟨#[]⟩)
        refine bodyPost_ret (v := frT ⟨#[]⟩ ⟨#[]⟩ 3) (by simp [frT, results, Tryz.results14, go_sem, j0, j1]) rfl ⟨by rw [HRE.out], ?_⟩
        exact ((HB6.out.setCell (Nat.le_refl _) _).setCell (Nat.le_refl _) _)
      · have HEZ := hide h
        have tq : (c1 == 3) = false := by simpa using h
        clear h
        go_wp2_with (go_at_call 49; (with_reducible refine (H1.out _).mono ?_); rintro ec w6 ⟨rfl, hb6⟩; have HB6 : Hid (Below W.heap.size W w6) := below_then HB.out hb6; clear hb6)
        go_roundg 1
        case rel => exact ⟨1, by omega, by omega, by rfl, (fun _ => HEZ.out), (fun h => absurd h (by omega)), HB6⟩
        case measure => rw [HGM.out]; omega
    | 1, _ =>
      by_cases h : c2 = 3
      · have tq : (c2 == 3) = true := by simp [h]
        have HRE : Hid (res = frT ⟨#[]⟩ ⟨#[]⟩ 3) := HRES.out.trans (if_pos (.inr (.inl h)))
        clear h
        go_wp2_with (go_at_call 49; (with_reducible refine (H2.out _).mono ?_); rintro ec w6 ⟨rfl, hb6⟩; have HB6 := hide (below_then HBR.out hb6); have HX6 := hide (HBFR.out.below hb6); obtain ⟨d0, d1, f0, f1⟩ := HX6.out.two; clear hb6)
        obtain ⟨j0, j1⟩ := HX6.out.full (a := .string ⟨#[]⟩) (b := .string ⟨#[]⟩)
        refine bodyPost_ret (v := frT ⟨#[]⟩ ⟨#[]⟩ 3) (by simp [frT, results, Tryz.results14, go_sem, j0, j1]) rfl ⟨by rw [HRE.out], ?_⟩
        exact ((HB6.out.setCell (Nat.le_refl _) _).setCell (Nat.le_refl _) _)
      · have HEZ := hide h
        have tq : (c2 == 3) = false := by simpa using h
        clear h
        go_wp2_with (go_at_call 49; (with_reducible refine (H2.out _).mono ?_); rintro ec w6 ⟨rfl, hb6⟩; have HB6 : Hid (Below W.heap.size W w6) := below_then HB.out hb6; clear hb6)
        go_roundg 0
        case rel => exact ⟨2, by omega, by omega, by rfl, (fun _ => HE1.out (by omega)), (fun _ => HEZ.out), HB6⟩
        case measure => rw [HGM.out]; omega
    | 2, _ =>
      have HN1 : Hid (c1 ≠ 3) := HE1.out (by omega)
      have HN2 : Hid (c2 ≠ 3) := HE2.out (by omega)
      obtain ⟨d0, d1, f0, f1⟩ := HBFR.out.two
      obtain ⟨e0, e1, g0, g1⟩ := HBF2.out.two
      clear c0 c1'
      by_cases ho : (den.toList == [49]) = true
      · have HRE : Hid (res = frT ⟨#[]⟩ ⟨#[]⟩ 3) := HRES.out.trans (if_pos (.inr (.inr ho)))
        go_wp2_with fail
        obtain ⟨j0, j1⟩ := HBFR.out.full (a := .string ⟨#[]⟩) (b := .string ⟨#[]⟩)
        refine bodyPost_ret (v := frT ⟨#[]⟩ ⟨#[]⟩ 3) (by simp [frT, results, Tryz.results14, go_sem, j0, j1]) rfl ⟨by rw [HRE.out], ?_⟩
        exact ((HBR.out.setCell (Nat.le_refl _) _).setCell (Nat.le_refl _) _)
      · have HNO := hide ho
        have ho' : (den.toList == [49]) = false := by simpa using ho
        clear ho
        by_cases h0 : e = 0
        · have tq : (e != 0) = false := by simp [h0]
          have HRE : Hid (res = frT num den 0) := HRES.out.trans ((if_neg (fun h => by rcases h with h | h | h; exact HN1.out h; exact HN2.out h; exact HNO.out h)).trans (if_pos h0))
          clear h0 d0 d1 f0 f1
          go_wp2_with (go_at_call 25; (with_reducible refine (H3.out _ HBR.out).mono ?_); rintro ec w6 ⟨rfl, hb6⟩; have HB6 := hide (below_then HBR.out hb6); have HX6 := hide (HBFR.out.below hb6); obtain ⟨d0, d1, f0, f1⟩ := HX6.out.two; obtain ⟨k0, k1, _, _⟩ := (HBF2.out.below hb6).two; clear hb6)
          obtain ⟨j0, j1⟩ := HX6.out.full (a := .string num) (b := .string den)
          refine bodyPost_ret (v := frT num den 0) (by simp [frT, results, Tryz.results14, go_sem, j0, j1]) rfl ⟨by rw [HRE.out], ?_⟩
          exact ((HB6.out.setCell (Nat.le_refl _) _).setCell (Nat.le_refl _) _)
        · have tq : (e != 0) = true := by simpa using h0
          have HRE : Hid (res = frT ⟨#[]⟩ ⟨#[]⟩ e) := HRES.out.trans ((if_neg (fun h => by rcases h with h | h | h; exact HN1.out h; exact HN2.out h; exact HNO.out h)).trans (if_neg h0))
          clear h0 d0 d1 f0 f1
          go_wp2_with (go_at_call 25; (with_reducible refine (H3.out _ HBR.out).mono ?_); rintro ec w6 ⟨rfl, hb6⟩; have HB6 := hide (below_then HBR.out hb6); have HX6 := hide (HBFR.out.below hb6); obtain ⟨d0, d1, f0, f1⟩ := HX6.out.two; clear hb6)
          obtain ⟨j0, j1⟩ := HX6.out.full (a := .string ⟨#[]⟩) (b := .string ⟨#[]⟩)
          refine bodyPost_ret (v := frT ⟨#[]⟩ ⟨#[]⟩ e) (by simp [frT, results, Tryz.results14, go_sem, j0, j1]) rfl ⟨by rw [HRE.out], ?_⟩
          exact ((HB6.out.setCell (Nat.le_refl _) _).setCell (Nat.le_refl _) _)

set_option maxRecDepth 100000 in
set_option maxHeartbeats 4000000 in
theorem fparse_part (s num den d0 : ByteArray) (hd1 : den = ⟨#[49]⟩) (hn : num.size ≤ 140737488355328) (hd : den.size ≤ 140737488355328) {c1 c2 e : Int} (h1 : chkI num.data.toList = c1) (h2 : chkI den.data.toList = c2) (he : chkF num.data.toList den.data.toList = e) {w : World} (ht : Tbl w)
    (HC : ∀ w', Calls Tryz.prog 54 #[.string s, .string ⟨#[47]⟩] w' fun e w2 => e = .returned (.tuple #[.string num, .string d0, .bool false]) ∧ Below w'.heap.size w' w2) {res : Value}
    (hres : res = if c1 = 3 ∨ c2 = 3 then frT ⟨#[]⟩ ⟨#[]⟩ 3 else if e = 0 then frT num den 0 else frT ⟨#[]⟩ ⟨#[]⟩ e) :
    Calls Tryz.prog 14 #[.string s] w fun r w' => r = .returned res ∧ Below w.heap.size w w' := by
  subst hd1
  have HCUT := hide HC
  have HRES := hide hres
  have H1 : Hid (∀ w', Calls Tryz.prog 49 #[.string num] w' fun e w2 => e = .returned (.int .i64 c1) ∧ Below w'.heap.size w' w2) := fun w' => chkI_ne num hn h1
  have H2 : Hid (∀ w', Calls Tryz.prog 49 #[.string ⟨#[49]⟩] w' fun e w2 => e = .returned (.int .i64 c2) ∧ Below w'.heap.size w' w2) := fun w' => chkI_ne _ hd h2
  have H3 : Hid (∀ w', Below w.heap.size w w' → Calls Tryz.prog 25 #[.agg #[.string num, .string ⟨#[49]⟩]] w' fun r w2 => r = .returned (.int .i64 e) ∧ Below w'.heap.size w' w2) := fun w' hb => by rw [← he]; exact fcheck_any num _ hn hd (ht.below hb)
  have HW : Hid (Below w.heap.size w (w.alloc (.cells #[.string ⟨#[]⟩, .string ⟨#[]⟩] 26))) := bnew (Below.refl _ _) _
  have HX := hide (Box.new w [.string ⟨#[]⟩, .string ⟨#[]⟩] 26)
  clear hn hd h1 h2 he ht HC hres
  go_enter Tryz.func14, Tryz.ntmps14
  go_wp2_with (go_at_call 54; (with_reducible refine (HCUT.out _).mono ?_); rintro ec w5 ⟨rfl, hb5⟩; have HB5 := hide (below_then HW.out hb5); have HX5 := hide (HX.out.below hb5); clear hb5)
  have HBW : Hid (Below w.heap.size w ((w5.alloc (.cells #[.string num, .string ⟨#[49]⟩] 26)).alloc (.cells #[.string num, .string ⟨#[49]⟩] 22))) := bnew (bnew HB5.out _) _
  have HXW : Hid (Box ((w5.alloc (.cells #[.string num, .string ⟨#[49]⟩] 26)).alloc (.cells #[.string num, .string ⟨#[49]⟩] 22)) w.heap.size [.string ⟨#[]⟩, .string ⟨#[]⟩] 26) := (HX5.out.next _).next _
  have HFW : Hid (Box ((w5.alloc (.cells #[.string num, .string ⟨#[49]⟩] 26)).alloc (.cells #[.string num, .string ⟨#[49]⟩] 22)) w5.heap.size [.string num, .string ⟨#[49]⟩] 26) := (Box.new w5 _ _).next _
  have HIW : Hid (Box ((w5.alloc (.cells #[.string num, .string ⟨#[49]⟩] 26)).alloc (.cells #[.string num, .string ⟨#[49]⟩] 22)) (w5.heap.size + 1) [.string num, .string ⟨#[49]⟩] 22) := by
    have h5 := Box.new (w5.alloc (.cells #[.string num, .string ⟨#[49]⟩] 26)) [.string num, .string ⟨#[49]⟩] 22
    rw [World.size_alloc] at h5
    exact h5
  generalize hW : (w5.alloc (.cells #[.string num, .string ⟨#[49]⟩] 26)).alloc (.cells #[.string num, .string ⟨#[49]⟩] 22) = W at *
  have HWW := hide hW
  clear hW
  go_loopg [9, 28] 2 (fun gm s9 iv wx => ∃ k : Nat, k ≤ 2 ∧ gm = 2 - k ∧ iv = .int .i64 k ∧ Hid (0 < k → c1 ≠ 3) ∧ Hid (1 < k → c2 ≠ 3) ∧ Hid (Below W.heap.size W wx))
  case atStart => exact ⟨0, by omega, by omega, rfl, (fun h => absurd h (by omega)), (fun h => absurd h (by omega)), Below.refl _ _⟩
  case round =>
    obtain ⟨k, hk, hgm, rfl, HE1, HE2, HB⟩ := hrel
    have HGM := hide hgm
    clear hgm
    have hbx := HIW.out.below HB.out
    have c0 := hbx.cell 0
    have c1' := hbx.cell 1
    simp only [List.getElem?_cons_zero, List.getElem?_cons_succ] at c0 c1'
    have HBFR := hide (HXW.out.below HB.out)
    have HBF2 := hide (HFW.out.below HB.out)
    have HBR := hide (below_then HBW.out HB.out)
    clear hbx
    match k, hk with
    | 0, _ =>
      by_cases h : c1 = 3
      · have tq : (c1 == 3) = true := by simp [h]
        have HRE : Hid (res = frT ⟨#[]⟩ ⟨#[]⟩ 3) := HRES.out.trans (if_pos (.inl h))
        clear h
        go_wp2_with (go_at_call 49; (with_reducible refine (H1.out _).mono ?_); rintro ec w6 ⟨rfl, hb6⟩; have HB6 := hide (below_then HBR.out hb6); have HX6 := hide (HBFR.out.below hb6); obtain ⟨d0, d1, f0, f1⟩ := HX6.out.two; clear hb6)
        obtain ⟨j0, j1⟩ := HX6.out.full (a := .string ⟨#[]⟩) (b := .string ⟨#[]⟩)
        refine bodyPost_ret (v := frT ⟨#[]⟩ ⟨#[]⟩ 3) (by simp [frT, results, Tryz.results14, go_sem, j0, j1]) rfl ⟨by rw [HRE.out], ?_⟩
        exact ((HB6.out.setCell (Nat.le_refl _) _).setCell (Nat.le_refl _) _)
      · have HEZ := hide h
        have tq : (c1 == 3) = false := by simpa using h
        clear h
        go_wp2_with (go_at_call 49; (with_reducible refine (H1.out _).mono ?_); rintro ec w6 ⟨rfl, hb6⟩; have HB6 : Hid (Below W.heap.size W w6) := below_then HB.out hb6; clear hb6)
        go_roundg 1
        case rel => exact ⟨1, by omega, by omega, by rfl, (fun _ => HEZ.out), (fun h => absurd h (by omega)), HB6⟩
        case measure => rw [HGM.out]; omega
    | 1, _ =>
      by_cases h : c2 = 3
      · have tq : (c2 == 3) = true := by simp [h]
        have HRE : Hid (res = frT ⟨#[]⟩ ⟨#[]⟩ 3) := HRES.out.trans (if_pos (.inr h))
        clear h
        go_wp2_with (go_at_call 49; (with_reducible refine (H2.out _).mono ?_); rintro ec w6 ⟨rfl, hb6⟩; have HB6 := hide (below_then HBR.out hb6); have HX6 := hide (HBFR.out.below hb6); obtain ⟨d0, d1, f0, f1⟩ := HX6.out.two; clear hb6)
        obtain ⟨j0, j1⟩ := HX6.out.full (a := .string ⟨#[]⟩) (b := .string ⟨#[]⟩)
        refine bodyPost_ret (v := frT ⟨#[]⟩ ⟨#[]⟩ 3) (by simp [frT, results, Tryz.results14, go_sem, j0, j1]) rfl ⟨by rw [HRE.out], ?_⟩
        exact ((HB6.out.setCell (Nat.le_refl _) _).setCell (Nat.le_refl _) _)
      · have HEZ := hide h
        have tq : (c2 == 3) = false := by simpa using h
        clear h
        go_wp2_with (go_at_call 49; (with_reducible refine (H2.out _).mono ?_); rintro ec w6 ⟨rfl, hb6⟩; have HB6 : Hid (Below W.heap.size W w6) := below_then HB.out hb6; clear hb6)
        go_roundg 0
        case rel => exact ⟨2, by omega, by omega, by rfl, (fun _ => HE1.out (by omega)), (fun _ => HEZ.out), HB6⟩
        case measure => rw [HGM.out]; omega
    | 2, _ =>
      have HN1 : Hid (c1 ≠ 3) := HE1.out (by omega)
      have HN2 : Hid (c2 ≠ 3) := HE2.out (by omega)
      obtain ⟨d0, d1, f0, f1⟩ := HBFR.out.two
      obtain ⟨e0, e1, g0, g1⟩ := HBF2.out.two
      clear c0 c1'
      by_cases h0 : e = 0
      · have tq : (e != 0) = false := by simp [h0]
        have HRE : Hid (res = frT num ⟨#[49]⟩ 0) := HRES.out.trans ((if_neg (fun h => by rcases h with h | h; exact HN1.out h; exact HN2.out h)).trans (if_pos h0))
        clear h0 d0 d1 f0 f1
        go_wp2_with (go_at_call 25; (with_reducible refine (H3.out _ HBR.out).mono ?_); rintro ec w6 ⟨rfl, hb6⟩; have HB6 := hide (below_then HBR.out hb6); have HX6 := hide (HBFR.out.below hb6); obtain ⟨d0, d1, f0, f1⟩ := HX6.out.two; obtain ⟨k0, k1, _, _⟩ := (HBF2.out.below hb6).two; clear hb6)
        obtain ⟨j0, j1⟩ := HX6.out.full (a := .string num) (b := .string ⟨#[49]⟩)
        refine bodyPost_ret (v := frT num ⟨#[49]⟩ 0) (by simp [frT, results, Tryz.results14, go_sem, j0, j1]) rfl ⟨by rw [HRE.out], ?_⟩
        exact ((HB6.out.setCell (Nat.le_refl _) _).setCell (Nat.le_refl _) _)
      · have tq : (e != 0) = true := by simpa using h0
        have HRE : Hid (res = frT ⟨#[]⟩ ⟨#[]⟩ e) := HRES.out.trans ((if_neg (fun h => by rcases h with h | h; exact HN1.out h; exact HN2.out h)).trans (if_neg h0))
        clear h0 d0 d1 f0 f1
        go_wp2_with (go_at_call 25; (with_reducible refine (H3.out _ HBR.out).mono ?_); rintro ec w6 ⟨rfl, hb6⟩; have HB6 := hide (below_then HBR.out hb6); have HX6 := hide (HBFR.out.below hb6); obtain ⟨d0, d1, f0, f1⟩ := HX6.out.two; clear hb6)
        obtain ⟨j0, j1⟩ := HX6.out.full (a := .string ⟨#[]⟩) (b := .string ⟨#[]⟩)
        refine bodyPost_ret (v := frT ⟨#[]⟩ ⟨#[]⟩ e) (by simp [frT, results, Tryz.results14, go_sem, j0, j1]) rfl ⟨by rw [HRE.out], ?_⟩
        exact ((HB6.out.setCell (Nat.le_refl _) _).setCell (Nat.le_refl _) _)

theorem fparse_any (s : ByteArray) (hs : s.size ≤ 140737488355328) {w : World} (ht : Tbl w) : Calls Tryz.prog 14 #[.string s] w fun r w' => r = .returned (parV s.data.toList) ∧ Below w.heap.size w w' := by
  have HC : ∀ w', Calls Tryz.prog 54 #[.string s, .string ⟨#[47]⟩] w' fun e w2 => e = .returned (.tuple #[.string (strN (splitS s.data.toList).1), .string (strN ((splitS s.data.toList).2.getD [])), .bool (splitS s.data.toList).2.isSome]) ∧ Below w'.heap.size w' w2 := fun w' => strcut_any s hs w'
  have hz : s.data.toList.length = s.size := Array.length_toList
  have hsp := split_ix s.data.toList
  unfold parV parE parN parD
  generalize s.data.toList = l at *
  rcases hsp with ⟨_, h2⟩ | ⟨i, _, h3, h2⟩
  · rw [h2] at HC ⊢
    refine fparse_part s (strN l) ⟨#[49]⟩ (strN []) rfl (by show l.length ≤ _; omega) (by decide) rfl rfl rfl ht HC ?_
    simp only [strN_data, Option.getD_none, reduceCtorEq, or_false]
    split <;> rename_i h5
    · rw [if_neg (by simp)]
    · split <;> rename_i h6
      · rfl
      · rfl
  · rw [h2] at HC ⊢
    refine fparse_whole s (strN (l.take i)) (strN (l.drop (i + 1))) (by show (l.take i).length ≤ _; simp; omega) (by show (l.drop (i + 1)).length ≤ _; simp; omega) rfl rfl rfl ht HC ?_
    simp only [strN_data, Option.getD_some, strN_toList, Option.some.injEq, beq_iff_eq]
    split <;> rename_i h5
    · rw [if_neg (by simp)]
    · split <;> rename_i h6
      · rfl
      · rfl
end Go.Proofs.YthpknfoahimopaaGreatDoor

set_option linter.unusedVariables false
set_option linter.unusedSimpArgs false
namespace Go.Proofs.YthpknfoahimopaaGreatDoor
open Go.RowKit

def dgtR : Rep Nat := fun _ _ cs x => cs = [.int .i64 (x : Int)] ∧ x < 4294967296
theorem dgtR_ok : RepOk dgtR 1 where
  len := by rintro F w cs x ⟨rfl, _⟩; rfl
  one := by rintro F w cs x ⟨rfl, _⟩ u hu; simp at hu; subst hu; rfl
  keep := by rintro F w w' cs x h _; exact h
  wide := by rintro F F' w cs x h _; exact h
theorem SliceR.dgt_at {F : Foot} {w : World} {oa : Option Addr} {xs : List Nat} (h : SliceR dgtR 1 F w oa xs) {i : Nat} (hi : i < xs.length) :
    ∃ x, xs.drop i = x :: xs.drop (i + 1) ∧ xs[i]? = some x ∧ x < 4294967296 ∧ ∃ b off, oa = some ⟨b, off, none⟩ ∧ F b ∧ w.cell? ⟨b, off + i, none⟩ = some (.int .i64 (x : Int)) := by
  obtain ⟨x, h1, h2, b, off, cs, h3, h4, ⟨rfl, h5⟩, h6⟩ := h.at hi
  exact ⟨x, h1, h2, h5, b, off, h3, h4, by simpa using h6 0 _ rfl⟩
/-- The base of the words. -/
def BD : Nat := 10
theorem BD2 : 2 ≤ BD := by unfold BD; omega
theorem BD0 : 0 < BD := by unfold BD; omega
def Dgt (l : List Nat) : Prop := ∀ d ∈ l, d < 10
def dgs (n : Nat) : List Nat := digB BD n
theorem dgs_dgt (n : Nat) : Dgt (dgs n) := digB_lt BD2 n
theorem dgs_cut (n : Nat) : Cut (dgs n) := digB_cut BD2 n
theorem dgs_val (n : Nat) : valB BD (dgs n) = n := valB_digB BD2 n
theorem cut_dgs {l : List Nat} (h : Dgt l) : cutB l = dgs (valB BD l) := cutB_digB BD2 h
theorem dgs_of {l : List Nat} (h : Dgt l) (hc : Cut l) : dgs (valB BD l) = l := digB_val BD2 h hc
theorem dgt_snoc {l : List Nat} {x : Nat} (h : Dgt l) (hx : x < 10) : Dgt (l ++ [x]) := by
  intro d hd
  rcases List.mem_append.1 hd with h1 | h1
  · exact h d h1
  · simp at h1; omega
theorem dgt_getD {l : List Nat} (h : Dgt l) (i : Nat) : l.getD i 0 < 10 := by
  rw [List.getD_eq_getElem?_getD]
  rcases e : l[i]? with _ | x
  · simp
  · exact h x (List.mem_of_getElem? e)
theorem dgt_get {l : List Nat} (h : Dgt l) {i x : Nat} (e : l[i]? = some x) : x < 10 := h x (List.mem_of_getElem? e)
theorem dgt_set {l : List Nat} (h : Dgt l) (i : Nat) {x : Nat} (hx : x < 10) : Dgt (l.set i x) := by
  intro d hd
  rcases List.mem_or_eq_of_mem_set hd with h1 | h1
  · exact h d h1
  · omega
theorem dgt_zeros (n : Nat) : Dgt (List.replicate n 0) := by
  intro d hd
  have := List.eq_of_mem_replicate hd
  omega
theorem dgs_zero : dgs 0 = [] := by unfold dgs digB; simp
theorem dgs_one {d : Nat} (h0 : d ≠ 0) (h : d < 10) : dgs d = [d] := by
  have := dgs_of (l := [d]) (fun x hx => by simp at hx; omega) (by unfold Cut; simp [cutB, h0])
  simpa [valB] using this
theorem dgs_nil {n : Nat} (h : dgs n = []) : n = 0 := digB_nil BD2 h
def i64N (n : Nat) : Value := .int .i64 (n : Int)
section
variable {w w' : World} {g : Nat} {e : TypeId} {F : Foot} {rest : List Value}
theorem Row1.dgts {xs : List Nat} (h : Row1 i64N w g e xs rest) (hx : ∀ x ∈ xs, x < 4294967296) (hF : F g) : SliceR dgtR 1 F w (some ⟨g, 0, none⟩) xs := by
  intro i x hi
  refine ⟨g, 0, [.int .i64 x], rfl, hF, ⟨rfl, hx x (List.mem_of_getElem? hi)⟩, fun j u hu => ?_⟩
  have hj : j = 0 := by
    have := (List.getElem?_eq_some_iff.1 hu).1
    simp at this
    exact this
  subst hj
  simp at hu
  subst hu
  simpa [i64N] using h.cell hi
/-- A part of such a row. -/
theorem Row1.dgtsAt {xs : List Nat} (h : Row1 i64N w g e xs rest) (hx : ∀ x ∈ xs, x < 4294967296) (hF : F g) (j : Nat) : SliceR dgtR 1 F w (some ⟨g, j, none⟩) (xs.drop j) := by
  intro i x hi
  have hi' : xs[j + i]? = some x := by rw [← List.getElem?_drop]; exact hi
  refine ⟨g, j, [.int .i64 x], rfl, hF, ⟨rfl, hx x (List.mem_of_getElem? hi')⟩, fun k u hu => ?_⟩
  have hk : k = 0 := by
    have := (List.getElem?_eq_some_iff.1 hu).1
    simp at this
    exact this
  subst hk
  simp at hu
  subst hu
  simpa [i64N] using h.cell hi'
theorem SliceR.dgt_take {oa : Option Addr} {xs : List Nat} (h : SliceR dgtR 1 F w oa xs) (k : Nat) : SliceR dgtR 1 F w oa (xs.take k) := by
  intro i x hi
  rw [List.getElem?_take] at hi
  split at hi
  · exact h i x hi
  · cases hi
end
/-- One word in a new block. -/
theorem dgtl (w : World) (e : TypeId) (z : Int) (d : Nat) (h : z = (d : Int)) (hd : d < 4294967296) : SliceR dgtR 1 All (w.alloc (.cells #[.int .i64 z] e)) (some ⟨w.heap.size, 0, none⟩) [d] := by
  subst h
  exact Row1.dgts (xs := [d]) (rest := []) (heap_alloc_new w _) (fun x hx => by simp at hx; omega) trivial
/-- The value holds a natural number. -/
def DigV (w : World) (v : Value) (n : Nat) : Prop := ∃ oa c, v = .slice oa (dgs n).length c ∧ (dgs n).length ≤ c ∧ c ≤ 9223372036854775807 ∧ SliceR dgtR 1 All w oa (dgs n)
theorem DigV.below {w w' : World} {v : Value} {n : Nat} (h : DigV w v n) (hb : Below w.heap.size w w') : DigV w' v n := by
  obtain ⟨oa, c, h1, h2, h3, h4⟩ := h
  exact ⟨oa, c, h1, h2, h3, h4.below dgtR_ok hb⟩
theorem DigV.nil (w : World) : DigV w (.slice none 0 0) 0 := ⟨none, 0, by rw [dgs_zero]; rfl, by rw [dgs_zero]; simp, by omega, by rw [dgs_zero]; exact SliceR.nil _ _ _ _ _⟩
def DigPost (w : World) (n : Nat) (e : Ending) (w' : World) : Prop := ∃ v, e = .returned v ∧ DigV w' v n ∧ Below w.heap.size w w'
def DigPost2 (w : World) (n m : Nat) (e : Ending) (w' : World) : Prop := ∃ v u, e = .returned (.tuple #[v, u]) ∧ DigV w' v n ∧ DigV w' u m ∧ Below w.heap.size w w'
/-- What trimming leaves. -/
theorem DigV.cut {w : World} {oa : Option Addr} {l : List Nat} {c : Nat} {F : Foot} (h : SliceR dgtR 1 F w oa l) (hl : Dgt l) (hc : l.length ≤ c) (hm : c ≤ 9223372036854775807) {n : Nat} (hn : valB BD l = n) : DigV w (.slice oa (cutB l).length c) n := by
  subst hn
  refine ⟨oa, c, by rw [cut_dgs hl], by rw [← cut_dgs hl]; exact Nat.le_trans (cutB_len l) hc, hm, ?_⟩
  rw [← cut_dgs hl]
  have := (h.all dgtR_ok (by decide)).dgt_take (cutB l).length
  rwa [← cutB_pre] at this
where
  cutB_pre : ∀ l : List Nat, cutB l = l.take (cutB l).length
    | [] => rfl
    | d :: r => by
      have h := cutB_pre r
      rw [cutB_cons]
      split
      · rfl
      · rw [List.length_cons, List.take_succ_cons, ← h]
end Go.Proofs.YthpknfoahimopaaGreatDoor

set_option linter.unusedVariables false
set_option linter.unusedSimpArgs false
set_option linter.unnecessarySimpa false
namespace Go.Proofs.YthpknfoahimopaaGreatDoor
open Go.RowKit

set_option maxRecDepth 100000 in
set_option maxHeartbeats 4000000 in
theorem rcut_any (l : List Nat) (oa : Option Addr) (c : Nat) (F : Foot) (w : World) (hs : SliceR dgtR 1 F w oa l) (hc : l.length ≤ c) (hl : c ≤ 9223372036854775807) :
    Calls Tryz.prog 98 #[.slice oa l.length c] w fun e w' => e = .returned (.slice oa (cutB l).length c) ∧ w = w' := by
  have HS := hide hs
  clear hs
  go_enter Tryz.func98, Tryz.ntmps98
  go_wp2_with fail
  go_loopg [3] l.length (fun gm sv wx => ∃ k : Nat, k ≤ l.length ∧ gm = k ∧ sv = .int .i64 k ∧ Hid (cutB (l.take k) = cutB l) ∧ w = wx)
  case atStart => exact ⟨l.length, by omega, rfl, rfl, by show _ = _; rw [List.take_length], rfl⟩
  case round =>
    obtain ⟨k, hk, hgm, rfl, HC, rfl⟩ := hrel
    have HGM := hide hgm
    clear hgm
    by_cases hk0 : k = 0
    · subst hk0
      have HE : Hid ((cutB l).length = 0) := by show _ = _; rw [← HC.out]; rfl
      go_wp2_with fail
      go_ret
      exact ⟨by rw [HE.out]; rfl, rfl⟩
    · obtain ⟨j, rfl⟩ : ∃ j, k = j + 1 := ⟨k - 1, by omega⟩
      obtain ⟨x, _, hx, hxb, b, off, hoa, _, cx⟩ := HS.out.dgt_at (i := j) (by omega)
      subst hoa
      have q1 : decide ((0 : Int) < ((j + 1 : Nat) : Int)) = true := by (try simp) <;> (try omega)
      have e1 : ((j + 1 : Nat) : Int) - 1 = (j : Int) := by omega
      by_cases hx0 : x = 0
      · have HN : Hid (cutB (l.take j) = cutB l) := by show _ = _; rw [← HC.out, cutB_take (by rw [hx, hx0])]
        have q2 : ((x : Int) == 0) = true := by simp [hx0]
        clear hx0
        go_wp2_with fail
        go_roundg j
        case rel => exact ⟨j, by omega, rfl, by go_num, HN, rfl⟩
        case measure => rw [HGM.out]; omega
      · have HE : Hid ((cutB l).length = j + 1) := by show _ = _; rw [← HC.out, cutB_take_ne hx hx0, List.length_take]; omega
        have q2 : ((x : Int) == 0) = false := by simp; omega
        clear hx0
        go_wp2_with fail
        go_ret
        exact ⟨by rw [HE.out]; rfl, rfl⟩
theorem dgt_at' {w : World} {oa : Option Addr} {l : List Nat} {F : Foot} (hs : SliceR dgtR 1 F w oa l) {i : Nat} (hi : i < l.length) : ∃ b off, oa = some ⟨b, off, none⟩ ∧ w.cell? ⟨b, off + i, none⟩ = some (.int .i64 ((l.getD i 0 : Nat) : Int)) ∧ l.getD i 0 < 4294967296 := by
  obtain ⟨x, _, hx, hxb, b, off, hoa, _, cx⟩ := hs.dgt_at hi
  refine ⟨b, off, hoa, ?_, ?_⟩ <;> rw [List.getD_eq_getElem?_getD, hx]
  · exact cx
  · exact hxb
set_option maxRecDepth 100000 in
theorem rdigit_any (l : List Nat) (oa : Option Addr) (c : Nat) (F : Foot) (i : Nat) (w : World) (hs : SliceR dgtR 1 F w oa l) : Calls Tryz.prog 123 #[.slice oa l.length c, .int .i64 i] w fun e w' => e = .returned (.int .i64 ((l.getD i 0 : Nat) : Int)) ∧ w = w' := by
  have HS := hide hs
  clear hs
  by_cases hi : i < l.length
  · obtain ⟨x, _, hx, hxb, b, off, rfl, _, cx⟩ := HS.out.dgt_at hi
    have HV : Hid (l.getD i 0 = x) := by show _ = _; rw [List.getD_eq_getElem?_getD, hx]; rfl
    rw [HV.out]
    clear hx
    go_enter Tryz.func123, Tryz.ntmps123
    go_wp2_with fail
    go_ret
    exact ⟨rfl, rfl⟩
  · have HV : Hid (l.getD i 0 = 0) := by show _ = _; rw [List.getD_eq_getElem?_getD, List.getElem?_eq_none (by omega)]; rfl
    rw [HV.out]
    go_enter Tryz.func123, Tryz.ntmps123
    go_wp2_with fail
    go_ret
    exact ⟨rfl, rfl⟩
/-- The order of two numbers. -/
def ordN (x y : Nat) : Int := if x < y then -1 else if y < x then 1 else 0
theorem ordN_lt {x y : Nat} (h : x < y) : ordN x y = -1 := if_pos h
theorem ordN_gt {x y : Nat} (h : y < x) : ordN x y = 1 := by unfold ordN; rw [if_neg (by omega), if_pos h]
theorem ordN_eq {x y : Nat} (h : x = y) : ordN x y = 0 := by unfold ordN; rw [if_neg (by omega), if_neg (by omega)]
set_option maxRecDepth 100000 in
set_option maxHeartbeats 4000000 in
theorem rorder_any (l m : List Nat) (ox oy : Option Addr) (cx cy : Nat) (F G : Foot) (w : World) (hs : SliceR dgtR 1 F w ox l) (ht : SliceR dgtR 1 G w oy m) (hw : Dgt l) (hv : Dgt m) (cl : Cut l) (cm : Cut m) (hlx : l.length ≤ 281474976710656) (hly : m.length ≤ 281474976710656) :
    Calls Tryz.prog 106 #[.slice ox l.length cx, .slice oy m.length cy] w fun e w' => e = .returned (.int .i64 (ordN (valB BD l) (valB BD m))) ∧ Below w.heap.size w w' := by
  have HS := hide hs
  have HT := hide ht
  have HLT : Hid (l.length < m.length → valB BD l < valB BD m) := fun h => valB_len (by unfold BD; omega) hw hv cm h
  have HGT : Hid (m.length < l.length → valB BD m < valB BD l) := fun h => valB_len (by unfold BD; omega) hv hw cl h
  have HTL : Hid (∀ i x y, l[i]? = some x → m[i]? = some y → l.drop (i + 1) = m.drop (i + 1) → x < y → valB BD l < valB BD m) := fun i x y hx hy h hxy => valB_top hw hv hx hy h hxy
  have HTG : Hid (∀ i x y, l[i]? = some x → m[i]? = some y → l.drop (i + 1) = m.drop (i + 1) → y < x → valB BD m < valB BD l) := fun i x y hx hy h hxy => valB_top hv hw hy hx h.symm hxy
  have HW := hide hw
  have HV := hide hv
  obtain ⟨res, hres⟩ : ∃ r, r = ordN (valB BD l) (valB BD m) := ⟨_, rfl⟩
  rw [← hres]
  have HRES := hide hres
  clear hs ht hw hv cl cm hres
  by_cases hlen : l.length = m.length
  case neg =>
    have q1 : ((l.length : Int) != (m.length : Int)) = true := by simp; omega
    by_cases h : l.length < m.length
    · have HR : Hid (res = -1) := HRES.out.trans (ordN_lt (HLT.out h))
      go_enter Tryz.func106, Tryz.ntmps106
      go_wp2_with fail
      go_ret
      exact ⟨by rw [HR.out]; rfl, Below.refl _ _⟩
    · have HR : Hid (res = 1) := HRES.out.trans (ordN_gt (HGT.out (by omega)))
      go_enter Tryz.func106, Tryz.ntmps106
      go_wp2_with fail
      go_ret
      exact ⟨by rw [HR.out]; rfl, Below.refl _ _⟩
  obtain ⟨n, hn⟩ : ∃ n, n = l.length := ⟨_, rfl⟩
  have HN := hide hn
  have HM : Hid (n = m.length) := by show _ = _; omega
  rw [← hlen, ← hn]
  clear hlen HLT HGT hly
  rw [← hn] at hlx
  clear hn
  go_enter Tryz.func106, Tryz.ntmps106
  go_wp2_with fail
  go_loopg [5] n (fun gm sv wx => ∃ k : Nat, k ≤ n ∧ gm = k ∧ sv = .int .i64 ((k : Int) - 1) ∧ Hid (l.drop k = m.drop k) ∧ Hid (Below w.heap.size w wx))
  case atStart => exact ⟨n, by omega, by omega, rfl, by show _ = _; rw [HN.out, List.drop_length]; have := HM.out; rw [HN.out] at this; rw [this, List.drop_length], Below.refl _ _⟩
  case round =>
    obtain ⟨k, hk, hgm, rfl, HD, HB⟩ := hrel
    have HGM := hide hgm
    clear hgm
    rcases Nat.eq_zero_or_pos k with hk0 | hk0
    · subst hk0
      have HR : Hid (res = 0) := by
        have := HD.out
        rw [List.drop_zero, List.drop_zero] at this
        exact HRES.out.trans (ordN_eq (by rw [this]))
      have q1 : decide ((0 : Int) ≤ ((0 : Nat) : Int) - 1) = false := by simp
      go_wp2_with fail
      go_ret
      exact ⟨by rw [HR.out]; rfl, HB.out⟩
    · obtain ⟨j, rfl⟩ : ∃ j, k = j + 1 := ⟨k - 1, by omega⟩
      have hj : j < l.length := by rw [← HN.out]; omega
      have hj2 : j < m.length := by rw [← HM.out]; omega
      obtain ⟨x, _, hx, hxb, b, off, hox, _, cx⟩ := (HS.out.below dgtR_ok HB.out).dgt_at hj
      obtain ⟨y, _, hy, hyb, b2, off2, hoy, _, cy⟩ := (HT.out.below dgtR_ok HB.out).dgt_at hj2
      have e1 : (((j + 1 : Nat) : Int) - 1) = (j : Int) := by omega
      rw [e1]
      subst hox hoy
      have HX := hide hx
      have HY := hide hy
      have hj0 : (0 : Int) ≤ j := by omega
      have hj1 : (j : Int) < n := by omega
      have q2 : decide ((0 : Int) ≤ (j : Int)) = true := by simp
      clear hx hy hj hj2 e1
      by_cases hxy : x = y
      · have q3 : ((x : Int) != (y : Int)) = false := by simp [hxy]
        have HD2 : Hid (l.drop j = m.drop j) := by
          show _ = _
          have h1 := List.getElem?_eq_some_iff.1 HX.out
          have h2 := List.getElem?_eq_some_iff.1 HY.out
          rw [List.drop_eq_getElem_cons h1.1, List.drop_eq_getElem_cons h2.1, h1.2, h2.2, hxy, HD.out]
        clear hxy
        go_wp2_with fail
        go_quiet (fail)
        go_wp2_with fail
        go_roundg j
        case rel => exact ⟨j, by omega, rfl, by go_num, HD2, below_drewN HB.out _⟩
        case measure => rw [HGM.out]; omega
      · have q3 : ((x : Int) != (y : Int)) = true := by simp; omega
        by_cases hlt : x < y
        · have HR : Hid (res = -1) := HRES.out.trans (ordN_lt (HTL.out j x y HX.out HY.out HD.out hlt))
          have q4 : decide ((x : Int) < (y : Int)) = true := by simp; omega
          go_wp2_with fail
          go_quiet (fail)
          go_wp2_with fail
          go_quiet (fail)
          go_wp2_with fail
          go_ret
          exact ⟨by rw [HR.out]; rfl, below_drewN (below_drewN HB.out _) _⟩
        · have HR : Hid (res = 1) := HRES.out.trans (ordN_gt (HTG.out j x y HX.out HY.out HD.out (by omega)))
          have q4 : decide ((x : Int) < (y : Int)) = false := by simp; omega
          go_wp2_with fail
          go_quiet (fail)
          go_wp2_with fail
          go_quiet (fail)
          go_wp2_with fail
          go_ret
          exact ⟨by rw [HR.out]; rfl, below_drewN (below_drewN HB.out _) _⟩
end Go.Proofs.YthpknfoahimopaaGreatDoor

namespace Go.Proofs.YthpknfoahimopaaGreatDoor
open Go.RowKit

/-- An empty slice that the call has just made owns nothing. -/
theorem OwnS.made {α : Type} (R : Rep α) (sz : Nat) (e : TypeId) (F : Foot) (w : World) : OwnS R sz w.heap.size e F (w.alloc (.cells #[] e)) (.slice (some ⟨w.heap.size, 0, none⟩) 0 0) [] :=
  ⟨[], World.ownsRow_made w #[] 0 (Nat.le_refl _) (by unfold maxLen; omega) (by simp), by simp, by simp⟩

end Go.Proofs.YthpknfoahimopaaGreatDoor

set_option linter.unusedVariables false
set_option linter.unusedSimpArgs false
namespace Go.Proofs.YthpknfoahimopaaGreatDoor
open Go.RowKit

structure Edg where
  a : Int
  b : Int
  m : Int
  deriving DecidableEq

def edgR : Rep Edg := fun _ _ cs x => cs = [.int .i64 x.a, .int .i64 x.b, .int .i64 x.m] ∧ I64 x.a ∧ I64 x.b ∧ I64 x.m
def prR : Rep (Int × Int) := fun _ _ cs x => cs = [.int .i64 x.1, .int .i64 x.2] ∧ I64 x.1 ∧ I64 x.2

theorem edgR_ok : RepOk edgR 3 := {
  len := by rintro F w cs x ⟨rfl, _⟩; rfl
  one := by rintro F w cs x ⟨rfl, _⟩ u hu; simp at hu; rcases hu with rfl | rfl | rfl <;> rfl
  keep := by rintro F w w' cs x h _; exact h
  wide := by rintro F F' w cs x h _; exact h }
theorem prR_ok : RepOk prR 2 := {
  len := by rintro F w cs x ⟨rfl, _⟩; rfl
  one := by rintro F w cs x ⟨rfl, _⟩ u hu; simp at hu; rcases hu with rfl | rfl <;> rfl
  keep := by rintro F w w' cs x h _; exact h
  wide := by rintro F F' w cs x h _; exact h }

section
variable {F : Foot} {w : World} {oa : Option Addr}
theorem SliceR.edg_at {xs : List Edg} (h : SliceR edgR 3 F w oa xs) {i : Nat} (hi : i < xs.length) :
    ∃ a b m, xs.drop i = ⟨a, b, m⟩ :: xs.drop (i + 1) ∧ xs[i]? = some ⟨a, b, m⟩ ∧ I64 a ∧ I64 b ∧ I64 m ∧ ∃ bl off, oa = some ⟨bl, off, none⟩ ∧ F bl ∧ w.cell? ⟨bl, off + i * 3, none⟩ = some (.int .i64 a) ∧ w.cell? ⟨bl, off + i * 3 + 1, none⟩ = some (.int .i64 b) ∧ w.cell? ⟨bl, off + i * 3 + 2, none⟩ = some (.int .i64 m) := by
  obtain ⟨⟨a, b, m⟩, h1, h2, bl, off, cs, h3, h4, ⟨rfl, h5, h6, h7⟩, h8⟩ := h.at hi
  exact ⟨a, b, m, h1, h2, h5, h6, h7, bl, off, h3, h4, by simpa using h8 0 _ rfl, by simpa using h8 1 _ rfl, by simpa using h8 2 _ rfl⟩
theorem SliceR.pr_at {xs : List (Int × Int)} (h : SliceR prR 2 F w oa xs) {i : Nat} (hi : i < xs.length) :
    ∃ a b, xs.drop i = (a, b) :: xs.drop (i + 1) ∧ xs[i]? = some (a, b) ∧ I64 a ∧ I64 b ∧ ∃ bl off, oa = some ⟨bl, off, none⟩ ∧ F bl ∧ w.cell? ⟨bl, off + i * 2, none⟩ = some (.int .i64 a) ∧ w.cell? ⟨bl, off + i * 2 + 1, none⟩ = some (.int .i64 b) := by
  obtain ⟨⟨a, b⟩, h1, h2, bl, off, cs, h3, h4, ⟨rfl, h5, h6⟩, h8⟩ := h.at hi
  exact ⟨a, b, h1, h2, h5, h6, bl, off, h3, h4, by simpa using h8 0 _ rfl, by simpa using h8 1 _ rfl⟩
end

/- The specifications of layer 8. -/
def vtxB (n v : Int) : Bool := decide (0 ≤ v) && decide (v < n)
def cmpI (a b : Int) : Int := if a < b then -1 else if b < a then 1 else 0
def cmpP (p q : Int × Int) : Int := if cmpI p.1 q.1 = 0 then cmpI p.2 q.2 else cmpI p.1 q.1
def edgeErr (n : Int) (last : Int × Int) (x : Edg) : Int :=
  if vtxB n x.a && vtxB n x.b && decide (1 ≤ x.m) && decide (x.m ≤ 50) then (if decide (x.a ≤ x.b) && decide (cmpP last (x.a, x.b) < 0) then 0 else 9) else 2
def edgesErr (n : Int) : Int × Int → List Edg → Int
  | _, [] => 0
  | last, x :: r => if edgeErr n last x = 0 then edgesErr n (x.a, x.b) r else edgeErr n last x
def gErr (n : Int) (es : List Edg) : Int := if n < 1 ∨ n > 12 then 2 else edgesErr n (-1, -1) es

theorem vtxB_iff {n v : Int} : vtxB n v = true ↔ 0 ≤ v ∧ v < n := by simp [vtxB]
theorem cmpI_neg {a b : Int} : cmpI a b < 0 ↔ a < b := by unfold cmpI; split <;> (try split) <;> omega
theorem cmpI_zero {a b : Int} : cmpI a b = 0 ↔ a = b := by unfold cmpI; split <;> (try split) <;> omega
theorem cmpP_neg {p q : Int × Int} : cmpP p q < 0 ↔ p.1 < q.1 ∨ (p.1 = q.1 ∧ p.2 < q.2) := by
  unfold cmpP
  split
  · rename_i h
    have := cmpI_zero.1 h
    have h2 := cmpI_neg (a := p.2) (b := q.2)
    omega
  · rename_i h
    have h1 := cmpI_neg (a := p.1) (b := q.1)
    have h2 := cmpI_zero (a := p.1) (b := q.1)
    omega

theorem edgeErr_zero {n : Int} {last : Int × Int} {x : Edg} (h : edgeErr n last x = 0) : (0 ≤ x.a ∧ x.a < n) ∧ (0 ≤ x.b ∧ x.b < n) ∧ 1 ≤ x.m ∧ x.m ≤ 50 ∧ x.a ≤ x.b ∧ cmpP last (x.a, x.b) < 0 := by
  unfold edgeErr at h
  split at h
  · rename_i h1
    simp only [Bool.and_eq_true, decide_eq_true_eq, vtxB_iff] at h1
    split at h
    · rename_i h2
      simp only [Bool.and_eq_true, decide_eq_true_eq] at h2
      omega
    · cases h
  · cases h
theorem edgesErr_zero {n : Int} : ∀ {es : List Edg} {last : Int × Int}, edgesErr n last es = 0 →
    (∀ x ∈ es, (0 ≤ x.a ∧ x.a < n) ∧ (0 ≤ x.b ∧ x.b < n) ∧ 1 ≤ x.m ∧ x.m ≤ 50 ∧ x.a ≤ x.b ∧ cmpP last (x.a, x.b) < 0) ∧ es.Pairwise fun x y => cmpP (x.a, x.b) (y.a, y.b) < 0
  | [], _, _ => by simp
  | x :: r, last, h => by
    unfold edgesErr at h
    split at h
    · rename_i h0
      have h1 := edgeErr_zero h0
      have ih := edgesErr_zero h
      refine ⟨fun y hy => ?_, ?_⟩
      · rcases List.mem_cons.1 hy with rfl | hy
        · exact h1
        · have h2 := ih.1 y hy
          refine ⟨h2.1, h2.2.1, h2.2.2.1, h2.2.2.2.1, h2.2.2.2.2.1, ?_⟩
          have h3 := cmpP_neg.1 h1.2.2.2.2.2
          have h4 := cmpP_neg.1 h2.2.2.2.2.2
          rw [cmpP_neg]
          simp only at h3 h4 ⊢
          omega
      · rw [List.pairwise_cons]
        exact ⟨fun y hy => (ih.1 y hy).2.2.2.2.2, ih.2⟩
    · rename_i hx; exact absurd h hx
theorem gErr_zero {n : Int} {es : List Edg} (h : gErr n es = 0) : (1 ≤ n ∧ n ≤ 12) ∧ (∀ x ∈ es, (0 ≤ x.a ∧ x.a < n) ∧ (0 ≤ x.b ∧ x.b < n) ∧ 1 ≤ x.m ∧ x.m ≤ 50 ∧ x.a ≤ x.b) ∧ es.Pairwise fun x y => cmpP (x.a, x.b) (y.a, y.b) < 0 := by
  unfold gErr at h
  split at h
  · cases h
  · have h1 := edgesErr_zero h
    refine ⟨by omega, fun x hx => ?_, h1.2⟩
    have := h1.1 x hx
    exact ⟨this.1, this.2.1, this.2.2.1, this.2.2.2.1, this.2.2.2.2.1⟩

/-- The ends of the single edges, one after the other. -/
def endsL (es : List Edg) : List (Int × Int) := es.flatMap fun x => List.replicate x.m.toNat (x.a, x.b)
theorem endsL_cons (x : Edg) (r : List Edg) : endsL (x :: r) = List.replicate x.m.toNat (x.a, x.b) ++ endsL r := rfl
theorem endsL_len {es : List Edg} (h : ∀ x ∈ es, x.m ≤ 50) : (endsL es).length ≤ 50 * es.length := by
  induction es with
  | nil => simp [endsL]
  | cons x r ih =>
    have h1 := ih fun y hy => h y (by simp [hy])
    have h2 := h x (by simp)
    rw [endsL_cons]
    simp
    omega
theorem endsL_mem {es : List Edg} {p : Int × Int} (h : p ∈ endsL es) : ∃ x ∈ es, p = (x.a, x.b) := by
  unfold endsL at h
  rw [List.mem_flatMap] at h
  obtain ⟨x, hx, hp⟩ := h
  exact ⟨x, hx, (List.mem_replicate.1 hp).2⟩

/-- How often two vertices are joined. -/
def betw (es : List Edg) (a b : Int) : Int :=
  match es with
  | [] => 0
  | x :: r => if x.a = min a b ∧ x.b = max a b then x.m else betw r a b
theorem betw_symm (es : List Edg) (a b : Int) : betw es a b = betw es b a := by
  induction es with
  | nil => rfl
  | cons x r ih => simp only [betw]; rw [Int.min_comm a b, Int.max_comm a b, ih]

end Go.Proofs.YthpknfoahimopaaGreatDoor

set_option linter.unusedVariables false
namespace Go.Proofs.YthpknfoahimopaaGreatDoor
open Go.RowKit

theorem box_free {w wr : World} {cs : Array Value} {t : TypeId} (hb : Below (w.heap.size + 1) (w.alloc (.cells cs t)) wr) (i : Nat) : wr.frozen? ⟨w.heap.size, i, none⟩ = false := by
  rw [hb.frozen (p := ⟨w.heap.size, i, none⟩) (by simp)]
  exact frozen_of_row (w.alloc (.cells cs t)) w.heap.size i cs t (heap_alloc_new w _)

theorem flatten_get {sz : Nat} : ∀ {css : List (List Value)}, (∀ cs ∈ css, cs.length = sz) → ∀ {i : Nat} {cs : List Value}, css[i]? = some cs → ∀ {j : Nat} {u : Value}, cs[j]? = some u → css.flatten[i * sz + j]? = some u
  | [], _, i, cs, h, _, _, _ => by simp at h
  | c :: r, hl, 0, cs, h, j, u, hj => by
    simp at h
    subst h
    have h1 : j < c.length := (List.getElem?_eq_some_iff.1 hj).1
    rw [List.flatten_cons, Nat.zero_mul, Nat.zero_add, List.getElem?_append_left h1]
    exact hj
  | c :: r, hl, i + 1, cs, h, j, u, hj => by
    have h1 := hl c (by simp)
    have h2 := flatten_get (css := r) (fun x hx => hl x (by simp [hx])) (i := i) (cs := cs) (by simpa using h) hj
    rw [List.flatten_cons, List.getElem?_append_right (by rw [h1, Nat.succ_mul]; omega), h1]
    rw [show (i + 1) * sz + j - sz = i * sz + j from by rw [Nat.succ_mul]; omega]
    exact h2

theorem SliceR.lit {α : Type} {R : Rep α} {sz : Nat} {F G : Foot} (ok : RepOk R sz) (w : World) (e : TypeId) (css : List (List Value)) (xs : List α)
    (h : ∀ (i : Nat) (x : α), xs[i]? = some x → ∃ cs, css[i]? = some cs ∧ R F w cs x) (hl : css.length = xs.length) (hFG : ∀ k, F k → G k) (hG : G w.heap.size) :
    SliceR R sz G (w.alloc (.cells css.flatten.toArray e)) (some ⟨w.heap.size, 0, none⟩) xs := by
  have hlen : ∀ cs ∈ css, cs.length = sz := by
    intro cs hcs
    obtain ⟨i, hi, rfl⟩ := List.getElem_of_mem hcs
    obtain ⟨cs, hc, hR⟩ := h i _ (List.getElem?_eq_getElem (by omega))
    rw [List.getElem?_eq_getElem hi] at hc
    injection hc with hc
    rw [hc]
    exact ok.len hR
  intro i x hx
  obtain ⟨cs, hcs, hR⟩ := h i x hx
  refine ⟨w.heap.size, 0, cs, rfl, hG, ok.keep (ok.wide hR fun k hk _ => hFG k hk) (SameOn.of_below (bnew (Below.refl _ _) _)), fun j u hu => ?_⟩
  rw [cell_of_row (w.alloc (.cells css.flatten.toArray e)) w.heap.size _ _ e (0, 0) (heap_alloc_new w _)]
  have := flatten_get hlen hcs hu
  rw [show 0 + i * sz + j = i * sz + j from by omega]
  simpa using this

theorem ints_lit {F G : Foot} (w : World) (e : TypeId) (xs : List Int) (h : ∀ x ∈ xs, I64 x) (hG : G w.heap.size) : SliceR intR 1 G (w.alloc (.cells (xs.map (Value.int .i64)).toArray e)) (some ⟨w.heap.size, 0, none⟩) xs := by
  have h1 : xs.map (Value.int .i64) = (xs.map fun x => [Value.int .i64 x]).flatten := by
    induction xs with
    | nil => rfl
    | cons x r ih => simp [ih fun y hy => h y (by simp [hy])]
  rw [h1]
  refine SliceR.lit (F := fun _ => False) intR_ok w e _ xs (fun i x hx => ⟨[.int .i64 x], by simp [hx], rfl, h x (List.mem_of_getElem? hx)⟩) (by simp) (fun _ h => h.elim) hG

/-- The list of ints that a literal lays, as the call's own. -/
theorem OwnS.ints (w : World) (e : TypeId) (xs : List Int) (h : ∀ x ∈ xs, I64 x) (hl : xs.length ≤ 1000000000000) :
    OwnS intR 1 w.heap.size e Non (w.alloc (.cells (xs.map (Value.int .i64)).toArray e)) (.slice (some ⟨w.heap.size, 0, none⟩) xs.length xs.length) xs := by
  have h1 := World.ownsRow_lit (base := w.heap.size) (e := e) (size := 1) w (xs.map (Value.int .i64)).toArray xs.length (Nat.le_refl _) (by unfold maxLen; omega) (by simp)
  refine ⟨xs.map (Value.int .i64), by simpa using h1, ?_, ?_⟩
  · intro u hu
    obtain ⟨x, _, rfl⟩ := List.mem_map.1 hu
    rfl
  · intro i x hx
    refine ⟨?_, h x (List.mem_of_getElem? hx)⟩
    apply List.ext_getElem?
    intro j
    unfold chunk
    rw [List.getElem?_take]
    split
    · have : j = 0 := by omega
      subst this
      simp [hx]
    · rw [List.getElem?_eq_none (by simp; omega)]

end Go.Proofs.YthpknfoahimopaaGreatDoor

set_option linter.unusedVariables false
set_option linter.unusedSimpArgs false
namespace Go.Proofs.YthpknfoahimopaaGreatDoor
open Go.RowKit

def orI (x y : Int) : Int := if x = 0 then y else x
theorem orI_zero {x y : Int} (h : x = 0) : orI x y = y := if_pos h
theorem orI_ne {x y : Int} (h : ¬ x = 0) : orI x y = x := if_neg h
end Go.Proofs.YthpknfoahimopaaGreatDoor

set_option linter.unusedVariables false
set_option linter.unusedSimpArgs false
namespace Go.Proofs.YthpknfoahimopaaGreatDoor
open Go.RowKit

theorem edges_bad2 {n a b m : Int} {last : Int × Int} {r : List Edg} (h : ¬ (vtxB n a = true ∧ vtxB n b = true ∧ 1 ≤ m ∧ m ≤ 50)) : edgesErr n last (⟨a, b, m⟩ :: r) = 2 := by
  have h1 : edgeErr n last ⟨a, b, m⟩ = 2 := by
    unfold edgeErr
    rw [if_neg]
    simp only [Bool.and_eq_true, decide_eq_true_eq]
    intro h2; exact h ⟨h2.1.1.1, h2.1.1.2, h2.1.2, h2.2⟩
  simp [edgesErr, h1]
theorem edges_bad9 {n a b m : Int} {last : Int × Int} {r : List Edg} (h : vtxB n a = true ∧ vtxB n b = true ∧ 1 ≤ m ∧ m ≤ 50) (h2 : ¬ (a ≤ b ∧ cmpP last (a, b) < 0)) : edgesErr n last (⟨a, b, m⟩ :: r) = 9 := by
  have h1 : edgeErr n last ⟨a, b, m⟩ = 9 := by
    unfold edgeErr
    rw [if_pos, if_neg]
    · simp only [Bool.and_eq_true, decide_eq_true_eq]
      exact h2
    · simp only [Bool.and_eq_true, decide_eq_true_eq]
      exact ⟨⟨⟨h.1, h.2.1⟩, h.2.2.1⟩, h.2.2.2⟩
  simp [edgesErr, h1]
theorem edges_good {n a b m : Int} {last : Int × Int} {r : List Edg} (h : vtxB n a = true ∧ vtxB n b = true ∧ 1 ≤ m ∧ m ≤ 50) (h2 : a ≤ b ∧ cmpP last (a, b) < 0) : edgesErr n last (⟨a, b, m⟩ :: r) = edgesErr n (a, b) r := by
  have h1 : edgeErr n last ⟨a, b, m⟩ = 0 := by
    unfold edgeErr
    rw [if_pos, if_pos]
    · simp only [Bool.and_eq_true, decide_eq_true_eq]
      exact h2
    · simp only [Bool.and_eq_true, decide_eq_true_eq]
      exact ⟨⟨⟨h.1, h.2.1⟩, h.2.2.1⟩, h.2.2.2⟩
  simp [edgesErr, h1]

def ErrPost (w : World) (x : Int) (e : Ending) (w' : World) : Prop := e = .returned (.int .i64 x) ∧ Below w.heap.size w w'

end Go.Proofs.YthpknfoahimopaaGreatDoor

set_option linter.unusedVariables false
set_option linter.unusedSimpArgs false
namespace Go.Proofs.YthpknfoahimopaaGreatDoor
open Go.RowKit

/-- The edge behind another one. -/
def edgeAt (n : Int) (es : List Edg) (k : Nat) : Int := edgeErr n (if k = 0 then (-1, -1) else ((es.getD (k - 1) ⟨0, 0, 0⟩).a, (es.getD (k - 1) ⟨0, 0, 0⟩).b)) (es.getD k ⟨0, 0, 0⟩)

theorem edgeAt_two {n : Int} {es : List Edg} {k : Nat} {a b m : Int} (hk : es[k]? = some ⟨a, b, m⟩) (h : ¬ (vtxB n a = true ∧ vtxB n b = true ∧ 1 ≤ m ∧ m ≤ 50)) : edgeAt n es k = 2 := by
  have h0 : es.getD k ⟨0, 0, 0⟩ = ⟨a, b, m⟩ := by rw [List.getD_eq_getElem?_getD, hk]; rfl
  unfold edgeAt
  rw [h0]
  unfold edgeErr
  rw [if_neg]
  simp only [Bool.and_eq_true, decide_eq_true_eq]
  intro h2
  exact h ⟨h2.1.1.1, h2.1.1.2, h2.1.2, h2.2⟩
theorem edgeAt_ok {n : Int} {es : List Edg} {k : Nat} {a b m : Int} {last : Int × Int} (hk : es[k]? = some ⟨a, b, m⟩) (h : vtxB n a = true ∧ vtxB n b = true ∧ 1 ≤ m ∧ m ≤ 50)
    (hl : last = if k = 0 then (-1, -1) else ((es.getD (k - 1) ⟨0, 0, 0⟩).a, (es.getD (k - 1) ⟨0, 0, 0⟩).b)) : (a ≤ b ∧ cmpP last (a, b) < 0 → edgeAt n es k = 0) ∧ (¬ (a ≤ b ∧ cmpP last (a, b) < 0) → edgeAt n es k = 9) := by
  have h0 : es.getD k ⟨0, 0, 0⟩ = ⟨a, b, m⟩ := by rw [List.getD_eq_getElem?_getD, hk]; rfl
  unfold edgeAt
  rw [h0, ← hl]
  unfold edgeErr
  rw [if_pos (by simp only [Bool.and_eq_true, decide_eq_true_eq]; exact ⟨⟨⟨h.1, h.2.1⟩, h.2.2.1⟩, h.2.2.2⟩)]
  constructor
  · intro h2; rw [if_pos (by simp only [Bool.and_eq_true, decide_eq_true_eq]; exact h2)]
  · intro h2; rw [if_neg (by simp only [Bool.and_eq_true, decide_eq_true_eq]; exact h2)]
theorem first_ok {a b : Int} (ha : 0 ≤ a) : cmpP (-1, -1) (a, b) < 0 := cmpP_neg.2 (.inl (by simp only; omega))

theorem not_errI {a : Int} (h : a ≠ 0) : (a != 0) = true := by simp [h]
theorem is_errI {a : Int} (h : a = 0) : (a != 0) = false := by simp [h]

/-- All edges from k on. -/
def edgesFrom (n : Int) (es : List Edg) : Nat → Nat → Int
  | 0, _ => 0
  | j + 1, k => if edgeAt n es k = 0 then edgesFrom n es j (k + 1) else edgeAt n es k
theorem edgesFrom_eq (n : Int) (es : List Edg) : ∀ j k, k + j = es.length → edgesFrom n es j k = edgesErr n (if k = 0 then (-1, -1) else ((es.getD (k - 1) ⟨0, 0, 0⟩).a, (es.getD (k - 1) ⟨0, 0, 0⟩).b)) (es.drop k)
  | 0, k, h => by rw [List.drop_eq_nil_of_le (by omega)]; rfl
  | j + 1, k, h => by
    have hk : k < es.length := by omega
    rw [List.drop_eq_getElem_cons hk]
    unfold edgesFrom edgesErr
    have h0 : es.getD k ⟨0, 0, 0⟩ = es[k] := by rw [List.getD_eq_getElem?_getD, List.getElem?_eq_getElem hk]; rfl
    have h1 : edgeAt n es k = edgeErr n (if k = 0 then (-1, -1) else ((es.getD (k - 1) ⟨0, 0, 0⟩).a, (es.getD (k - 1) ⟨0, 0, 0⟩).b)) es[k] := by unfold edgeAt; rw [h0]
    rw [← h1, edgesFrom_eq n es j (k + 1) (by omega), if_neg (show ¬ k + 1 = 0 by omega), Nat.add_sub_cancel, h0]

end Go.Proofs.YthpknfoahimopaaGreatDoor

set_option linter.unusedVariables false
set_option linter.unusedSimpArgs false
namespace Go.Proofs.YthpknfoahimopaaGreatDoor
open Go.RowKit Go.Shelf

attribute [local go_sem] Oper.semAt_some

/-- The single edges with their numbers. -/
def singL (es : List Edg) : List (Nat × Int × Int) := (endsL es).zipIdx.map fun p => (p.2, p.1)
theorem singL_len (es : List Edg) : (singL es).length = (endsL es).length := by simp [singL]
theorem singL_snd (es : List Edg) : (singL es).map (fun p => p.2) = endsL es := by
  unfold singL
  rw [List.map_map]
  have : ((fun p : Nat × Int × Int => p.2) ∘ fun p : (Int × Int) × Nat => (p.2, p.1)) = Prod.fst := rfl
  rw [this]
  simp
theorem singL_get {es : List Edg} {i : Nat} {p : Int × Int} (h : (endsL es)[i]? = some p) : (singL es)[i]? = some (i, p) := by
  unfold singL
  rw [List.getElem?_map, List.getElem?_zipIdx, h]
  simp
theorem endsL_take (es : List Edg) (k : Nat) : endsL (es.take k) ++ endsL (es.drop k) = endsL es := by
  unfold endsL
  rw [← List.flatMap_append, List.take_append_drop]
theorem endsL_at {es : List Edg} {k j : Nat} {x : Edg} (hx : es[k]? = some x) (hj : j < x.m.toNat) : (endsL es)[(endsL (es.take k)).length + j]? = some (x.a, x.b) := by
  have hk : k < es.length := (List.getElem?_eq_some_iff.1 hx).1
  rw [← endsL_take es k, List.getElem?_append_right (by omega), Nat.add_sub_cancel_left, List.drop_eq_getElem_cons hk]
  have : es[k] = x := by rw [List.getElem?_eq_getElem hk] at hx; injection hx
  rw [this, endsL_cons, List.getElem?_append_left (by simpa using hj), List.getElem?_replicate, if_pos hj]
theorem endsL_next {es : List Edg} {k : Nat} {x : Edg} (hx : es[k]? = some x) : (endsL (es.take (k + 1))).length = (endsL (es.take k)).length + x.m.toNat := by
  have hk : k < es.length := (List.getElem?_eq_some_iff.1 hx).1
  rw [List.take_add_one, hx]
  simp [endsL, List.flatMap_append]
theorem take_next {α : Type} {l : List α} {i : Nat} {x : α} (h : l[i]? = some x) : l.take i ++ [x] = l.take (i + 1) := by
  rw [List.take_add_one, h]; rfl

/-- What lay below n₀ lies as it lay, and so do the blocks of type T, wherever they lie. -/
def KpE (T : TypeId) (n₀ : Nat) (W W' : World) : Prop := Below n₀ W W' ∧ ∀ (k : Nat) (cs : Array Value), W.heap[k]? = some (Obj.cells cs T (0, 0)) → W'.heap[k]? = some (Obj.cells cs T (0, 0))
theorem KpE.refl (T : TypeId) (n₀ : Nat) (W : World) : KpE T n₀ W W := ⟨Below.refl _ _, fun _ _ h => h⟩
theorem KpE.t {T : TypeId} {n₀ : Nat} {A B C : World} (h : KpE T n₀ A B) (k : KpE T n₀ B C) : KpE T n₀ A C := ⟨h.1.trans k.1, fun i cs hi => k.2 i cs (h.2 i cs hi)⟩
theorem KpE.b {T : TypeId} {n₀ : Nat} {w : World} (hn : n₀ ≤ w.heap.size) (W : World) (l : Nat) (o o' : Obj) (hl : w.heap.size ≤ l) (ho : W.heap[l]? = some o) (hc : o.isCells = false) (hw : o.isWalk = false) : KpE T n₀ W (W.putObj l o') := by
  refine ⟨belowK_b hn W l o o' hl ho hc hw, fun k cs hk => ?_⟩
  have : k ≠ l := fun e => by
    subst e
    rw [hk] at ho
    injection ho with ho
    subst ho
    cases hc
  rw [World.putObj_heap_other this]
  exact hk
theorem KpE.new {T : TypeId} {n₀ : Nat} {W W' : World} (h : KpE T n₀ W W') (hn : n₀ ≤ W'.heap.size) (o : Obj) : KpE T n₀ W (W'.alloc o) :=
  ⟨h.1.alloc hn o, fun k cs hk => (Below.heap_alloc W' o k (Array.getElem?_eq_some_iff.1 (h.2 k cs hk)).1).trans (h.2 k cs hk)⟩
theorem KpE.box {T : TypeId} {n₀ : Nat} {W W' : World} (h : KpE T n₀ W W') {B : Nat} {cs : List Value} (hb : Box W B cs T) : Box W' B cs T := h.2 B _ hb

def sEnc (x : Nat × Int × Int) : Array Value := #[.int .i64 (x.1 : Int), .agg #[.int .i64 x.2.1, .int .i64 x.2.2]]

/-- The edges as they lie, in a block below n₀. -/
def EdgesBelow (n₀ : Nat) (W : World) (oe : Option Addr) (es : List Edg) : Prop :=
  es = [] ∨ ∃ bl off, oe = some ⟨bl, off, none⟩ ∧ bl < n₀ ∧ ∀ i (x : Edg), es[i]? = some x → W.cell? ⟨bl, off + i * 3, none⟩ = some (.int .i64 x.a) ∧ W.cell? ⟨bl, off + i * 3 + 1, none⟩ = some (.int .i64 x.b) ∧ W.cell? ⟨bl, off + i * 3 + 2, none⟩ = some (.int .i64 x.m)
theorem EdgesBelow.of {F : Foot} {w : World} {oe : Option Addr} {es : List Edg} (h : SliceR edgR 3 F w oe es) : EdgesBelow w.heap.size w oe es := by
  rcases Nat.eq_zero_or_pos es.length with h0 | h0
  · exact .inl (List.eq_nil_of_length_eq_zero h0)
  · obtain ⟨a, b, m, _, _, _, _, _, bl, off, rfl, _, c0, _⟩ := h.edg_at h0
    refine .inr ⟨bl, off, rfl, World.block_lt_of_cell? _ _ c0, fun i x hx => ?_⟩
    obtain ⟨a', b', m', _, hg, _, _, _, bl', off', he, _, e0, e1, e2⟩ := h.edg_at (List.getElem?_eq_some_iff.1 hx).1
    injection he with he
    injection he with q1 q2
    subst q1 q2
    rw [hx] at hg
    injection hg with hg
    subst hg
    exact ⟨e0, e1, e2⟩
theorem EdgesBelow.below {n₀ : Nat} {A B : World} {oe : Option Addr} {es : List Edg} (h : Below n₀ A B) : EdgesBelow n₀ A oe es → EdgesBelow n₀ B oe es
  | .inl e => .inl e
  | .inr ⟨bl, off, e, hb, hc⟩ => .inr ⟨bl, off, e, hb, fun i x hx => ⟨(h.cell (p := ⟨bl, off + i * 3, none⟩) hb).trans (hc i x hx).1, (h.cell (p := ⟨bl, off + i * 3 + 1, none⟩) hb).trans (hc i x hx).2.1, (h.cell (p := ⟨bl, off + i * 3 + 2, none⟩) hb).trans (hc i x hx).2.2⟩⟩
theorem EdgesBelow.more {n₀ n₁ : Nat} {A : World} {oe : Option Addr} {es : List Edg} (h : EdgesBelow n₀ A oe es) (hn : n₀ ≤ n₁) : EdgesBelow n₁ A oe es :=
  h.imp id fun ⟨bl, off, e, hb, hc⟩ => ⟨bl, off, e, by omega, hc⟩

end Go.Proofs.YthpknfoahimopaaGreatDoor

set_option linter.unusedVariables false
set_option linter.unusedSimpArgs false
namespace Go.Proofs.YthpknfoahimopaaGreatDoor
open Go.RowKit

theorem step_append_rep {α : Type} {R : Rep α} {P : Program} {ops : Array Oper} {o : Oper} {a : Act} {w : World} {K : Act → World → Prop} {Q : Exit → Act → World → Prop} {E : Prop} (hgd : o.guard = none) (s x : Operand) (t : TypeId)
    (ho : o.op = .call { callee := .builtin .append, args := #[s, x], argTypes := #[t, t] })
    (base : Nat) (e : TypeId) (z : Value) (size bytes : Nat) (ht : P.underlying t = some (.slice e)) (hinfo : (P.info? e).map (fun i => (i.zero, i.size, i.bytes)) = some (some z, size, bytes))
    (hzs : z.cells.size = size) (hsz : 0 < size) (ok : RepOk R size)
    (F G : Foot) (v : Value) (xs : List α) (hs : a.eval s = v) (hown : OwnS R size base e F w v xs)
    (oa : Option Addr) (c : Nat) (ys : List α) (hx : a.eval x = .slice oa ys.length c) (hsrc : SliceR R size G w oa ys) (hW : ∀ cs x, R G w cs x → R F w cs x) (hF : ∀ k, F k → k < base)
    (hbytes : (xs.length + ys.length) * bytes ≤ 140737488355328) (hm : xs.length + ys.length ≤ 9223372036854775807) (hbase : base ≤ w.heap.size)
    (hK : ∀ v' w', OwnS R size base e F w' v' (xs ++ ys) → Below base w w' → w.grownBy w' v.ownBlock → K (a.put o.dst v') w') :
    if Region.wanted o (yielded ops a.tmps) = true then Oper.wp P o a w K Q else E := by
  have hw : Region.wanted o (yielded ops a.tmps) = true := by simp [Region.wanted, hgd]
  rw [if_pos hw]
  obtain ⟨i0, hi, hz0, hz1, hz2⟩ := info_parts hinfo
  obtain ⟨cells, hown0, h1, hc⟩ := hown
  obtain ⟨news, hn1, hn2, hn3, hn4⟩ := hsrc.cells ok
  obtain ⟨v', w', hrun, ho', hg⟩ := run_append_src (P := P) w base t o.type e i0 z size bytes ht hi hz0 hz1 hz2 hzs hsz v xs.length cells hown0 oa ys.length c news hn1 hn2 hn3 (by unfold maxLen; omega) hbytes hbase
  have hb : Below base w w' := (Below.refl base w).grown hg hbase fun k hk => (hown0.lt k hk).1
  have hsame : SameOn F w w' := fun k hk _ => hb.block k (hF k hk)
  have hfin := hK v' w' (OwnS.app hown0.1.symm ho' h1 hn3 (fun i x hx => ok.keep (hc i x hx) hsame) (fun i x hx => ok.keep (hW _ _ (hn4 i x hx)) hsame)) hb hg
  unfold Oper.wp execOp
  simp only [ho, resolve, invoke, builtin, Sem.run_bind, Sem.run_pure, Result.andThen_ok, List.map_toArray, List.map_cons, List.map_nil, hs, hx, hrun]
  exact hfin

end Go.Proofs.YthpknfoahimopaaGreatDoor

set_option linter.unusedVariables false
set_option linter.unusedSimpArgs false
set_option linter.unnecessarySimpa false
namespace Go.Proofs.YthpknfoahimopaaGreatDoor
open Go.RowKit Go.Shelf

attribute [local go_sem] Oper.semAt_some

def flatP (l : List (Int × Int)) : List Value := l.flatMap fun p => [.int .i64 p.1, .int .i64 p.2]
theorem flatP_len (l : List (Int × Int)) : (flatP l).length = l.length * 2 := by
  induction l with
  | nil => rfl
  | cons x r ih => simp only [flatP, List.flatMap_cons, List.length_append, List.length_cons, List.length_nil] at *; omega
theorem flatP_snoc (l : List (Int × Int)) (p : Int × Int) : flatP (l ++ [p]) = flatP l ++ [.int .i64 p.1, .int .i64 p.2] := by simp [flatP]
theorem flatP_chunk : ∀ (l : List (Int × Int)) (i : Nat) (p : Int × Int), l[i]? = some p → chunk 2 i (flatP l) = [.int .i64 p.1, .int .i64 p.2]
  | [], i, p, h => by simp at h
  | x :: r, 0, p, h => by simp at h; subst h; simp [chunk, flatP]
  | x :: r, i + 1, p, h => by
    have := flatP_chunk r i p (by simpa using h)
    unfold chunk at this ⊢
    rw [show (i + 1) * 2 = i * 2 + 1 + 1 from by omega]
    simpa [flatP] using this

def I64P (l : List (Int × Int)) : Prop := ∀ p ∈ l, I64 p.1 ∧ I64 p.2
theorem OwnS.pairs {base : Nat} {e : TypeId} {F : Foot} {w : World} {v : Value} {l : List (Int × Int)} (h : w.ownsRow base e 2 v l.length (flatP l)) (hl : I64P l) : OwnS prR 2 base e F w v l := by
  refine ⟨flatP l, h, ?_, fun i x hx => ⟨flatP_chunk l i x hx, hl x (List.mem_of_getElem? hx)⟩⟩
  intro u hu
  simp only [flatP, List.mem_flatMap] at hu
  obtain ⟨p, _, hp⟩ := hu
  simp at hp
  rcases hp with rfl | rfl <;> rfl

/-- The block is a box of type t; a row of another type is not. -/
theorem box_row {W : World} {B : Nat} {t e : TypeId} {cs : List Value} (h : Box W B cs t) (hte : t ≠ e) {base size k : Nat} {v : Value} {xs : List Value} (hr : W.ownsRow base e size v k xs) : some B ≠ v.ownBlock := by
  rcases hr.2 with ⟨rfl, _⟩ | ⟨g, cap, cur, rfl, _, hgb, _⟩
  · simp [Value.ownBlock]
  · intro e'
    obtain rfl : B = g := by simpa [Value.ownBlock] using e'
    have := (show W.heap[B]? = _ from h).symm.trans hgb
    simp at this
    exact hte this.2
theorem box_own {β : Type} (B : Nat) (t : TypeId) (cs : List Value) : Own (fun (_ : β) W => Box W B cs t) := fun s X Y row hs hg hrow =>
  hs.keep (hg.block B hs.lt fun e' => by
    obtain ⟨o, ho, hc⟩ := hrow B e'.symm
    rw [show X.heap[B]? = _ from hs] at ho
    cases ho
    cases hc)
/-- What an append to a row of type e and a store into a box of type t do to the blocks of a third type. -/
theorem KpE.appended {T t e : TypeId} {W w1 : World} {n₀ B size k : Nat} {v v' u : Value} {xs : List Value} {tmp : Obj} (hTe : T ≠ e) (hTt : T ≠ t) (hrow : W.ownsRow n₀ e size v k xs) (hv : Boxed W B t u)
    (hgrow : (W.alloc tmp).grownBy w1 v.ownBlock) (hb : Below n₀ W (w1.setCell ⟨B, 0, none⟩ v')) : KpE T n₀ W (w1.setCell ⟨B, 0, none⟩ v') := by
  refine ⟨hb, fun j cs hj => ?_⟩
  have hjl := (Array.getElem?_eq_some_iff.1 hj).1
  have h1 : j ≠ B := fun e1 => by
    subst e1
    have := (show W.heap[j]? = _ from hv).symm.trans hj
    simp at this
    exact hTt this.2.symm
  rw [Below.heap_setCell w1 ⟨B, 0, none⟩ v' j h1, hgrow.block j (by simp; omega) ?_, Below.heap_alloc W tmp j hjl]
  · exact hj
  · intro e1
    rcases hrow.2 with ⟨rfl, _⟩ | ⟨g, cap, cur, rfl, _, hgb, _⟩
    · simp [Value.ownBlock] at e1
    · obtain rfl : j = g := by simpa [Value.ownBlock] using e1
      rw [hj] at hgb
      simp at hgb
      exact hTe hgb.2

theorem cells_new (W : World) (l : List Value) (t : TypeId) : ∀ (j : Nat) (u : Value), l[j]? = some u → (W.alloc (.cells l.toArray t)).cell? ((⟨W.heap.size, 0, none⟩ : Addr).add j) = some u := fun j u hu => by
  rw [Addr.add_lit, Nat.zero_add, (Box.new W l t).cell j]
  exact hu

def endsRes (n : Int) (es : List Edg) : List (Int × Int) × Int := if gErr n es = 0 then (endsL es, 0) else ([], gErr n es)
end Go.Proofs.YthpknfoahimopaaGreatDoor

set_option linter.unusedVariables false
namespace Go.Proofs.YthpknfoahimopaaGreatDoor
open Go.RowKit

end Go.Proofs.YthpknfoahimopaaGreatDoor

set_option linter.unusedVariables false
set_option linter.unusedSimpArgs false
set_option linter.unnecessarySimpa false
namespace Go.Proofs.YthpknfoahimopaaGreatDoor
open Go.RowKit

end Go.Proofs.YthpknfoahimopaaGreatDoor

set_option linter.unusedVariables false
namespace Go.Proofs.YthpknfoahimopaaGreatDoor
open Go.RowKit

theorem countP_lt {p q : Nat → Bool} : ∀ {l : List Nat}, (∀ x ∈ l, p x = true → q x = true) → (∃ x ∈ l, q x = true ∧ p x = false) → l.countP p < l.countP q
  | [], _, h => by obtain ⟨x, hx, _⟩ := h; cases hx
  | y :: r, h, hx => by
    obtain ⟨x, hx, h1, h2⟩ := hx
    have hle : ∀ l : List Nat, (∀ x ∈ l, p x = true → q x = true) → l.countP p ≤ l.countP q := fun l hl => List.countP_mono_left hl
    have hr := hle r fun x hx => h x (by simp [hx])
    rw [List.countP_cons, List.countP_cons]
    rcases List.mem_cons.1 hx with rfl | hx
    · simp [h1, h2]; omega
    · have ih := countP_lt (l := r) (fun x hx => h x (by simp [hx])) ⟨x, hx, h1, h2⟩
      have hy := h y (by simp)
      by_cases h3 : p y = true
      · simp [h3, hy h3]; omega
      · have h4 : p y = false := by simpa using h3
        simp [h4]
        split <;> omega

/-- Reachable from s within k steps of nx, letters below L. -/
def within (nx : Nat → Nat → Nat) (L s : Nat) : Nat → Nat → Prop
  | 0, t => t = s
  | k + 1, t => within nx L s k t ∨ ∃ u a, within nx L s k u ∧ a < L ∧ t = nx u a
def Rch (nx : Nat → Nat → Nat) (L s t : Nat) : Prop := ∃ k, within nx L s k t

section
variable {nx : Nat → Nat → Nat} {L s S : Nat}
theorem within_lt (hs : s < S) (h : ∀ u a, u < S → a < L → nx u a < S) : ∀ k t, within nx L s k t → t < S
  | 0, t, e => by cases e; exact hs
  | k + 1, t, e => by
    rcases e with e | ⟨u, a, hu, ha, rfl⟩
    · exact within_lt hs h k t e
    · exact h u a (within_lt hs h k u hu) ha
theorem within_mono {k t : Nat} (h : within nx L s k t) : ∀ j, within nx L s (k + j) t
  | 0 => h
  | j + 1 => .inl (within_mono h j)
theorem within_closed {k : Nat} (hc : ∀ t, within nx L s (k + 1) t → within nx L s k t) : ∀ j t, within nx L s (k + j) t → within nx L s k t
  | 0, t, h => h
  | j + 1, t, h => by
    rcases h with h | ⟨u, a, hu, ha, rfl⟩
    · exact within_closed hc j t h
    · exact hc _ (.inr ⟨u, a, within_closed hc j u hu, ha, rfl⟩)
open Classical in
theorem within_more (hs : s < S) (h : ∀ u a, u < S → a < L → nx u a < S) (k : Nat) (hbase : k + 1 ≤ (List.range S).countP fun t => decide (within nx L s k t)) :
    (∀ t, within nx L s (k + 1) t → within nx L s k t) ∨ k + 2 ≤ (List.range S).countP fun t => decide (within nx L s (k + 1) t) := by
  by_cases hc : ∀ t, within nx L s (k + 1) t → within nx L s k t
  · exact .inl hc
  · refine .inr ?_
    have hx : ∃ t, within nx L s (k + 1) t ∧ ¬ within nx L s k t := by
      apply Classical.byContradiction
      intro hn
      exact hc fun t ht => Classical.byContradiction fun h2 => hn ⟨t, ht, h2⟩
    obtain ⟨t, h1, h2⟩ := hx
    have hlt := countP_lt (l := List.range S) (p := fun t => decide (within nx L s k t)) (q := fun t => decide (within nx L s (k + 1) t))
      (fun x _ hp => by simp at hp ⊢; exact .inl hp) ⟨t, by simp; exact within_lt hs h _ _ h1, by simp [h1], by simp [h2]⟩
    omega
open Classical in
theorem within_count (hs : s < S) (h : ∀ u a, u < S → a < L → nx u a < S) (k : Nat) : (∀ t, within nx L s (k + 1) t → within nx L s k t) ∨ k + 2 ≤ (List.range S).countP fun t => decide (within nx L s (k + 1) t) := by
  induction k with
  | zero =>
    refine within_more hs h 0 ?_
    have : 0 < (List.range S).countP fun t => decide (within nx L s 0 t) := List.countP_pos_iff.2 ⟨s, by simp [hs], by simp [within]⟩
    omega
  | succ k ih =>
    rcases ih with hcl | hcl
    · exact .inl fun t ht => Or.inl (within_closed hcl 2 t ht)
    · exact within_more hs h (k + 1) hcl
/-- After S steps all is reached. -/
theorem rch_within (hs : s < S) (h : ∀ u a, u < S → a < L → nx u a < S) (t : Nat) : Rch nx L s t ↔ within nx L s S t := by
  refine ⟨fun ⟨k, hk⟩ => ?_, fun h => ⟨S, h⟩⟩
  have hcl : ∀ t, within nx L s (S + 1) t → within nx L s S t := by
    rcases within_count hs h S with hc | hc
    · exact hc
    · exfalso
      have := List.countP_le_length (p := fun t => Classical.propDecidable (within nx L s (S + 1) t) |>.decide) (l := List.range S)
      simp only [List.length_range] at this
      omega
  have h1 := within_mono hk S
  rw [Nat.add_comm] at h1
  exact within_closed hcl k t h1
end

end Go.Proofs.YthpknfoahimopaaGreatDoor

set_option linter.unusedVariables false
namespace Go.Proofs.YthpknfoahimopaaGreatDoor
open Go.RowKit

def castL (l : List Nat) : List Int := l.map fun n : Nat => (n : Int)
theorem castL_len (l : List Nat) : (castL l).length = l.length := by simp [castL]
theorem castL_app (l m : List Nat) : castL (l ++ m) = castL l ++ castL m := by simp [castL]
theorem castL_mem {l : List Nat} {n : Nat} : (n : Int) ∈ castL l ↔ n ∈ l := by
  simp only [castL, List.mem_map]
  constructor
  · rintro ⟨m, hm, h⟩
    have : m = n := by omega
    exact this ▸ hm
  · exact fun h => ⟨n, h, rfl⟩

theorem nodup_len {S : Nat} : ∀ {l : List Nat}, l.Nodup → (∀ x ∈ l, x < S) → l.length ≤ S := by
  induction S with
  | zero =>
    intro l _ h
    match l with
    | [] => simp
    | x :: r => exact absurd (h x (by simp)) (by omega)
  | succ S ih =>
    intro l hn h
    have h1 : (l.erase S).Nodup := hn.erase S
    have h2 : ∀ x ∈ l.erase S, x < S := fun x hx => by
      have h3 := List.mem_of_mem_erase hx
      have h4 := h x h3
      have h5 : x ≠ S := fun e => by subst e; exact (List.Nodup.not_mem_erase hn) hx
      omega
    have h3 := ih h1 h2
    have h4 : l.length ≤ (l.erase S).length + 1 := by
      rw [List.length_erase]; split <;> omega
    omega

section
variable {nx : Nat → Nat → Nat} {L S s : Nat}
theorem rch_refl : Rch nx L s s := ⟨0, rfl⟩
theorem rch_step {t a : Nat} (h : Rch nx L s t) (ha : a < L) : Rch nx L s (nx t a) := by
  obtain ⟨k, hk⟩ := h
  exact ⟨k + 1, .inr ⟨t, a, hk, ha, rfl⟩⟩
theorem rch_lt (hs : s < S) (h : ∀ u a, u < S → a < L → nx u a < S) {t : Nat} (ht : Rch nx L s t) : t < S := by
  obtain ⟨k, hk⟩ := ht
  exact within_lt hs h k t hk
theorem rch_in {P : Nat → Prop} (h0 : P s) (h : ∀ u a, P u → a < L → P (nx u a)) {t : Nat} (ht : Rch nx L s t) : P t := by
  obtain ⟨k, hk⟩ := ht
  induction k generalizing t with
  | zero => cases hk; exact h0
  | succ k ih =>
    rcases hk with hk | ⟨u, a, hu, ha, rfl⟩
    · exact ih hk
    · exact h u a (ih hu) ha
theorem rch_trans {t u : Nat} (h : Rch nx L s t) (h2 : Rch nx L t u) : Rch nx L s u := rch_in (P := fun x => Rch nx L s x) h (fun _ _ hu ha => rch_step hu ha) h2

/-- The search: what waits, what was seen. -/
structure Bfs (nx : Nat → Nat → Nat) (L s : Nat) (work seen : List Nat) : Prop where
  nodup : seen.Nodup
  start : s ∈ seen
  sound : ∀ x ∈ seen, Rch nx L s x
  sub : ∀ x ∈ work, x ∈ seen
  closed : ∀ u ∈ seen, u ∉ work → ∀ a, a < L → nx u a ∈ seen
/-- .. while the letters of t from k on are still to come. -/
structure Mid (nx : Nat → Nat → Nat) (L s t k : Nat) (work seen : List Nat) : Prop where
  nodup : seen.Nodup
  start : s ∈ seen
  sound : ∀ x ∈ seen, Rch nx L s x
  sub : ∀ x ∈ work, x ∈ seen
  here : t ∈ seen
  done : ∀ a, a < k → nx t a ∈ seen
  closed : ∀ u ∈ seen, u ∉ work → u ≠ t → ∀ a, a < L → nx u a ∈ seen
theorem Bfs.begin : Bfs nx L s [s] [s] :=
  ⟨by simp, by simp, fun x hx => by simp at hx; subst hx; exact rch_refl, fun x hx => hx, fun u hu hn => absurd hu hn⟩
theorem Bfs.pop {t : Nat} {r seen : List Nat} (h : Bfs nx L s (t :: r) seen) : Mid nx L s t 0 r seen :=
  ⟨h.nodup, h.start, h.sound, fun x hx => h.sub x (by simp [hx]), h.sub t (by simp), fun a ha => by omega, fun u hu hn hne a ha => h.closed u hu (by simp [hn, hne]) a ha⟩
theorem Mid.old {t k : Nat} {work seen : List Nat} (h : Mid nx L s t k work seen) (hm : nx t k ∈ seen) : Mid nx L s t (k + 1) work seen := by
  refine ⟨h.nodup, h.start, h.sound, h.sub, h.here, fun a ha => ?_, h.closed⟩
  rcases Nat.lt_or_ge a k with h1 | h1
  · exact h.done a h1
  · have : a = k := by omega
    exact this ▸ hm
theorem Mid.more {t k : Nat} {work seen : List Nat} (h : Mid nx L s t k work seen) (hm : nx t k ∉ seen) (hk : k < L) : Mid nx L s t (k + 1) (work ++ [nx t k]) (seen ++ [nx t k]) where
  nodup := by
    rw [List.nodup_append]
    exact ⟨h.nodup, by simp, fun a ha b hb => by simp at hb; subst hb; exact fun e => hm (e ▸ ha)⟩
  start := by simp [h.start]
  sound := fun x hx => by
    rcases List.mem_append.1 hx with hx | hx
    · exact h.sound x hx
    · simp at hx; subst hx; exact rch_step (h.sound t h.here) hk
  sub := fun x hx => by
    rcases List.mem_append.1 hx with hx | hx
    · simp [h.sub x hx]
    · simp at hx; simp [hx]
  here := by simp [h.here]
  done := fun a ha => by
    rcases Nat.lt_or_ge a k with h1 | h1
    · simp [h.done a h1]
    · have : a = k := by omega
      subst this; simp
  closed := fun u hu hn hne a ha => by
    rcases List.mem_append.1 hu with hu | hu
    · simp [h.closed u hu (fun hw => hn (by simp [hw])) hne a ha]
    · exact absurd (by simp at hu; simp [hu]) hn
theorem Mid.finish {t : Nat} {work seen : List Nat} (h : Mid nx L s t L work seen) : Bfs nx L s work seen :=
  ⟨h.nodup, h.start, h.sound, h.sub, fun u hu hn a ha => by
    by_cases e : u = t
    · subst e; exact h.done a ha
    · exact h.closed u hu hn e a ha⟩
theorem Bfs.all {seen : List Nat} (h : Bfs nx L s [] seen) (t : Nat) : t ∈ seen ↔ Rch nx L s t :=
  ⟨h.sound t, fun ht => rch_in (P := fun x => x ∈ seen) h.start (fun u a hu ha => h.closed u hu (by simp) a ha) ht⟩
theorem Bfs.few {work seen : List Nat} (h : Bfs nx L s work seen) (hs : s < S) (hn : ∀ u a, u < S → a < L → nx u a < S) : seen.length ≤ S :=
  nodup_len h.nodup fun x hx => rch_lt hs hn (h.sound x hx)
theorem Mid.few {t k : Nat} {work seen : List Nat} (h : Mid nx L s t k work seen) (hs : s < S) (hn : ∀ u a, u < S → a < L → nx u a < S) : seen.length ≤ S :=
  nodup_len h.nodup fun x hx => rch_lt hs hn (h.sound x hx)
end

/-- The list of what is reachable, in order. -/
def IsReach (nx : Nat → Nat → Nat) (L s : Nat) (l : List Int) : Prop := l.Pairwise (· < ·) ∧ ∀ t : Int, t ∈ l ↔ ∃ n : Nat, t = n ∧ Rch nx L s n

theorem sorted_ext : ∀ {l m : List Int}, l.Pairwise (· < ·) → m.Pairwise (· < ·) → (∀ x, x ∈ l ↔ x ∈ m) → l = m
  | [], [], _, _, _ => rfl
  | [], y :: m, _, _, h => absurd ((h y).2 (by simp)) (by simp)
  | x :: l, [], _, _, h => absurd ((h x).1 (by simp)) (by simp)
  | x :: l, y :: m, hl, hm, h => by
    rw [List.pairwise_cons] at hl hm
    have e : x = y := by
      have h1 := (h x).1 (by simp)
      have h2 := (h y).2 (by simp)
      rcases List.mem_cons.1 h1 with h1 | h1
      · exact h1
      · rcases List.mem_cons.1 h2 with h2 | h2
        · exact h2.symm
        · have := hl.1 y h2; have := hm.1 x h1; omega
    subst e
    congr 1
    refine sorted_ext hl.2 hm.2 fun z => ?_
    have hz := h z
    constructor
    · intro hzl
      rcases List.mem_cons.1 (hz.1 (by simp [hzl])) with e | e
      · have := hl.1 z hzl; omega
      · exact e
    · intro hzm
      rcases List.mem_cons.1 (hz.2 (by simp [hzm])) with e | e
      · have := hm.1 z hzm; omega
      · exact e
theorem isReach_unique {nx : Nat → Nat → Nat} {L s : Nat} {l m : List Int} (h : IsReach nx L s l) (h2 : IsReach nx L s m) : l = m :=
  sorted_ext h.1 h2.1 fun x => (h.2 x).trans (h2.2 x).symm

theorem lt_of_both : ∀ {l : List Int}, l.Pairwise (fun x y => decide (x ≤ y) = true) → l.Nodup → l.Pairwise (· < ·)
  | [], _, _ => by simp
  | x :: r, h, h2 => by
    rw [List.pairwise_cons] at h ⊢
    rw [List.nodup_cons] at h2
    refine ⟨fun y hy => ?_, lt_of_both h.2 h2.2⟩
    have h3 := h.1 y hy
    have h4 : x ≠ y := fun e => h2.1 (e ▸ hy)
    simp at h3
    omega

theorem isReach_sort {nx : Nat → Nat → Nat} {L s : Nat} {seen : List Nat} (h : Bfs nx L s [] seen) : IsReach nx L s ((castL seen).mergeSort fun x y => decide (x ≤ y)) := by
  have hperm := List.mergeSort_perm (castL seen) fun x y => decide (x ≤ y)
  have hsort := List.pairwise_mergeSort (le := fun x y : Int => decide (x ≤ y)) (by intro a b c; simp; omega) (by intro a b; simp; omega) (castL seen)
  have hnd : (castL seen).Nodup := by
    unfold castL
    exact List.Pairwise.map _ (fun a b hab e => hab (by omega)) h.nodup
  have hnd2 := hperm.nodup_iff.2 hnd
  refine ⟨?_, fun t => ?_⟩
  · exact lt_of_both hsort hnd2
  · rw [hperm.mem_iff]
    simp only [castL, List.mem_map]
    constructor
    · rintro ⟨n, hn, rfl⟩; exact ⟨n, rfl, (h.all n).1 hn⟩
    · rintro ⟨n, rfl, hn⟩; exact ⟨n, (h.all n).2 hn, rfl⟩

/-- The fixed point, round by round: bs after k rounds; of the round after that the states below t have been taken; of t the letters below j. -/
structure Led (nx : Nat → Nat → Nat) (L S s k t : Nat) (bs : List Bool) : Prop where
  len : bs.length = S
  got : ∀ u, within nx L s k u → bs[u]? = some true
  sound : ∀ u, bs[u]? = some true → Rch nx L s u
  part : ∀ u, u < t → within nx L s k u → ∀ a, a < L → bs[nx u a]? = some true

section
variable {nx : Nat → Nat → Nat} {L S s : Nat}
theorem Led.begin (hs : s < S) : Led nx L S s 0 0 ((List.replicate S false).set s true) where
  len := by simp
  got := fun u hu => by cases hu; simp [hs]
  sound := fun u hu => by
    by_cases e : s = u
    · subst e; exact rch_refl
    · rw [List.getElem?_set_ne e, List.getElem?_replicate] at hu
      split at hu <;> simp at hu
  part := fun u hu => by omega
theorem Led.set {k t j : Nat} {bs : List Bool} (h : Led nx L S s k t bs) (ht : bs[t]? = some true) (hj : j < L) (hn : nx t j < S) (hd : ∀ a, a < j → bs[nx t a]? = some true) :
    Led nx L S s k t (bs.set (nx t j) true) ∧ (bs.set (nx t j) true)[t]? = some true ∧ ∀ a, a < j + 1 → (bs.set (nx t j) true)[nx t a]? = some true := by
  have mono : ∀ u, bs[u]? = some true → (bs.set (nx t j) true)[u]? = some true := fun u hu => by
    by_cases e : nx t j = u
    · subst e; rw [List.getElem?_set_self (by rw [h.len]; exact hn)]
    · rw [List.getElem?_set_ne e]; exact hu
  refine ⟨⟨by simp [h.len], fun u hu => mono u (h.got u hu), fun u hu => ?_, fun u hu hw a ha => mono _ (h.part u hu hw a ha)⟩, mono t ht, fun a ha => ?_⟩
  · by_cases e : nx t j = u
    · subst e; exact rch_step (h.sound t ht) hj
    · rw [List.getElem?_set_ne e] at hu; exact h.sound u hu
  · rcases Nat.lt_or_ge a j with h1 | h1
    · exact mono _ (hd a h1)
    · have : a = j := by omega
      subst this
      rw [List.getElem?_set_self (by rw [h.len]; exact hn)]
theorem Led.next {k t : Nat} {bs : List Bool} (h : Led nx L S s k t bs) (hd : bs[t]? = some true → ∀ a, a < L → bs[nx t a]? = some true) : Led nx L S s k (t + 1) bs := by
  refine ⟨h.len, h.got, h.sound, fun u hu hw a ha => ?_⟩
  rcases Nat.lt_or_ge u t with h1 | h1
  · exact h.part u h1 hw a ha
  · have : u = t := by omega
    subst this
    exact hd (h.got u hw) a ha
theorem Led.round (hs : s < S) (hn : ∀ u a, u < S → a < L → nx u a < S) {k : Nat} {bs : List Bool} (h : Led nx L S s k S bs) : Led nx L S s (k + 1) 0 bs where
  len := h.len
  got := fun u hu => by
    rcases hu with hu | ⟨v, a, hv, ha, rfl⟩
    · exact h.got u hu
    · exact h.part v (within_lt hs hn k v hv) hv a ha
  sound := h.sound
  part := fun u hu => by omega
/-- What the reference says in the end. -/
def Leads (nx : Nat → Nat → Nat) (L S s : Nat) (bs : List Bool) : Prop := bs.length = S ∧ ∀ u, bs[u]? = some true ↔ Rch nx L s u
theorem Led.all (hs : s < S) (hn : ∀ u a, u < S → a < L → nx u a < S) {bs : List Bool} (h : Led nx L S s S 0 bs) : Leads nx L S s bs :=
  ⟨h.len, fun u => ⟨h.sound u, fun hu => h.got u ((rch_within hs hn u).1 hu)⟩⟩
end

theorem true_of_getD {bs : List Bool} {n : Nat} (h : n < bs.length) : bs.getD n false = true ↔ bs[n]? = some true := by
  rw [List.getD_eq_getElem?_getD, List.getElem?_eq_getElem h]; simp

/-- The list of the states whose place in bs is true. -/
def trues (bs : List Bool) : Nat → List Int
  | 0 => []
  | k + 1 => if bs.getD k false then trues bs k ++ [(k : Int)] else trues bs k
theorem trues_mem (bs : List Bool) : ∀ k (t : Int), t ∈ trues bs k ↔ ∃ n : Nat, t = n ∧ n < k ∧ bs.getD n false = true
  | 0, t => by simp [trues]
  | k + 1, t => by
    unfold trues
    split
    · rename_i hk
      rw [List.mem_append, trues_mem bs k t]
      constructor
      · rintro (⟨n, h1, h2, h3⟩ | h)
        · exact ⟨n, h1, by omega, h3⟩
        · simp at h; exact ⟨k, h, by omega, hk⟩
      · rintro ⟨n, h1, h2, h3⟩
        rcases Nat.lt_or_ge n k with h4 | h4
        · exact .inl ⟨n, h1, h4, h3⟩
        · have : n = k := by omega
          subst this
          exact .inr (by simp [h1])
    · rename_i hk
      rw [trues_mem bs k t]
      constructor
      · rintro ⟨n, h1, h2, h3⟩; exact ⟨n, h1, by omega, h3⟩
      · rintro ⟨n, h1, h2, h3⟩
        rcases Nat.lt_or_ge n k with h4 | h4
        · exact ⟨n, h1, h4, h3⟩
        · have : n = k := by omega
          subst this
          exact absurd h3 hk
theorem trues_len (bs : List Bool) : ∀ k, (trues bs k).length ≤ k
  | 0 => by simp [trues]
  | k + 1 => by unfold trues; have := trues_len bs k; split <;> simp <;> omega
theorem trues_sorted (bs : List Bool) : ∀ k, (trues bs k).Pairwise (· < ·)
  | 0 => by simp [trues]
  | k + 1 => by
    unfold trues
    split
    · rw [List.pairwise_append]
      refine ⟨trues_sorted bs k, by simp, fun a ha b hb => ?_⟩
      obtain ⟨n, h1, h2, _⟩ := (trues_mem bs k a).1 ha
      simp at hb
      omega
    · exact trues_sorted bs k
theorem trues_reach {nx : Nat → Nat → Nat} {L S s : Nat} {bs : List Bool} (hs : s < S) (hn : ∀ u a, u < S → a < L → nx u a < S) (h : Leads nx L S s bs) : IsReach nx L s (trues bs S) := by
  refine ⟨trues_sorted bs S, fun t => ?_⟩
  rw [trues_mem]
  constructor
  · rintro ⟨n, h1, h2, h3⟩
    exact ⟨n, h1, (h.2 n).1 ((true_of_getD (by rw [h.1]; exact h2)).1 h3)⟩
  · rintro ⟨n, h1, h2⟩
    have h3 := rch_lt hs hn h2
    exact ⟨n, h1, h3, (true_of_getD (by rw [h.1]; exact h3)).2 ((h.2 n).2 h2)⟩

/-- Recurrent: from all that is reachable one comes back. -/
def Back (nx : Nat → Nat → Nat) (L s : Nat) : Prop := ∀ t, Rch nx L s t → Rch nx L t s

end Go.Proofs.YthpknfoahimopaaGreatDoor

set_option linter.unusedVariables false
set_option linter.unusedSimpArgs false
namespace Go.Proofs.YthpknfoahimopaaGreatDoor
open Go.RowKit

/-- A forest: each vertex has one that is not greater. -/
structure Fst (f : List Nat) : Prop where
  len : f.length = 12
  le : ∀ v, v < 12 → f.getD v 0 ≤ v

def rootK (f : List Nat) : Nat → Nat → Nat
  | 0, v => v
  | k + 1, v => if f.getD v 0 = v then v else rootK f k (f.getD v 0)
def rootF (f : List Nat) (v : Nat) : Nat := rootK f v v

section
variable {f : List Nat}
theorem rootK_le (h : Fst f) : ∀ k v, v < 12 → rootK f k v ≤ v
  | 0, v, _ => Nat.le_refl v
  | k + 1, v, hv => by
    unfold rootK
    have h1 := h.le v hv
    split
    · exact Nat.le_refl v
    · exact Nat.le_trans (rootK_le h k _ (by omega)) h1
theorem rootK_fix (h : Fst f) : ∀ k v, v < 12 → v ≤ k → f.getD (rootK f k v) 0 = rootK f k v
  | 0, v, hv, hk => by
    have h0 : v = 0 := by omega
    subst h0
    have := h.le 0 (by omega)
    simp only [rootK]
    omega
  | k + 1, v, hv, hk => by
    unfold rootK
    have h1 := h.le v hv
    split
    · assumption
    · rename_i hne
      exact rootK_fix h k _ (by omega) (by omega)
theorem rootK_more (h : Fst f) : ∀ k v, v < 12 → v ≤ k → rootK f (k + 1) v = rootK f k v
  | 0, v, hv, hk => by
    have h0 : v = 0 := by omega
    subst h0
    have := h.le 0 (by omega)
    simp only [rootK]
    rw [if_pos (by omega)]
  | k + 1, v, hv, hk => by
    have h1 := h.le v hv
    show (if f.getD v 0 = v then v else rootK f (k + 1) (f.getD v 0)) = (if f.getD v 0 = v then v else rootK f k (f.getD v 0))
    by_cases hf : f.getD v 0 = v
    · rw [if_pos hf, if_pos hf]
    · rw [if_neg hf, if_neg hf]
      exact rootK_more h k _ (by omega) (by omega)
theorem rootK_eq (h : Fst f) {v : Nat} (hv : v < 12) : ∀ j, rootK f (v + j) v = rootF f v
  | 0 => rfl
  | j + 1 => by rw [← Nat.add_assoc, rootK_more h _ _ hv (by omega)]; exact rootK_eq h hv j
theorem rootF_le (h : Fst f) {v : Nat} (hv : v < 12) : rootF f v ≤ v := rootK_le h v v hv
theorem rootF_fix (h : Fst f) {v : Nat} (hv : v < 12) : f.getD (rootF f v) 0 = rootF f v := rootK_fix h v v hv (Nat.le_refl v)
theorem rootF_self (h : Fst f) {v : Nat} (hf : f.getD v 0 = v) : rootF f v = v := by
  unfold rootF
  cases v with
  | zero => rfl
  | succ k => rw [rootK, if_pos hf]
theorem rootF_step (h : Fst f) {v : Nat} (hv : v < 12) : rootF f v = rootF f (f.getD v 0) := by
  have h1 := h.le v hv
  by_cases hf : f.getD v 0 = v
  · rw [hf]
  · obtain ⟨k, rfl⟩ : ∃ k, v = k + 1 := ⟨v - 1, by omega⟩
    unfold rootF
    rw [rootK, if_neg hf]
    obtain ⟨j, hj⟩ : ∃ j, k = f.getD (k + 1) 0 + j := ⟨k - f.getD (k + 1) 0, by omega⟩
    have := rootK_eq h (show f.getD (k + 1) 0 < 12 by omega) j
    rw [← hj] at this
    exact this
end

/-- Two roots are joined; the lesser stands for both. -/
def joinF (f : List Nat) (a b : Nat) : List Nat := f.set (max (rootF f a) (rootF f b)) (min (rootF f a) (rootF f b))

section
variable {f : List Nat} {a b : Nat}
theorem getD_setN {l : List Nat} {i j x : Nat} (hi : i < l.length) : (l.set i x).getD j 0 = if i = j then x else l.getD j 0 := by
  rw [List.getD_eq_getElem?_getD, List.getD_eq_getElem?_getD]
  by_cases h : i = j
  · subst h; rw [List.getElem?_set_self hi, if_pos rfl]; rfl
  · rw [List.getElem?_set_ne h, if_neg h]
theorem joinF_get (h : Fst f) (ha : a < 12) (hb : b < 12) (j : Nat) : (joinF f a b).getD j 0 = if max (rootF f a) (rootF f b) = j then min (rootF f a) (rootF f b) else f.getD j 0 := by
  have h1 := rootF_le h ha
  have h2 := rootF_le h hb
  exact getD_setN (by rw [h.len]; omega)
theorem joinF_fst (h : Fst f) (ha : a < 12) (hb : b < 12) : Fst (joinF f a b) := by
  refine ⟨by simp [joinF, h.len], fun v hv => ?_⟩
  rw [joinF_get h ha hb]
  split
  · omega
  · exact h.le v hv
/-- What the roots are then. -/
theorem joinF_root (h : Fst f) (ha : a < 12) (hb : b < 12) : ∀ n v, v < n → v < 12 → rootF (joinF f a b) v = if rootF f v = max (rootF f a) (rootF f b) then min (rootF f a) (rootF f b) else rootF f v
  | 0, v, hn, _ => by omega
  | n + 1, v, hn, hv => by
    have hj := joinF_fst h ha hb
    have ih := joinF_root h ha hb n
    have ra := rootF_le h ha
    have rb := rootF_le h hb
    have fa := rootF_fix h ha
    have fb := rootF_fix h hb
    have h1 := h.le v hv
    have hget := joinF_get h ha hb
    generalize hA : rootF f a = A at *
    generalize hB : rootF f b = B at *
    have fM : f.getD (max A B) 0 = max A B := by
      rcases Nat.le_total A B with hab | hab
      · rw [Nat.max_eq_right hab]; exact fb
      · rw [Nat.max_eq_left hab]; exact fa
    have fm : f.getD (min A B) 0 = min A B := by
      rcases Nat.le_total A B with hab | hab
      · rw [Nat.min_eq_left hab]; exact fa
      · rw [Nat.min_eq_right hab]; exact fb
    have rM : rootF f (max A B) = max A B := rootF_self h fM
    have rm : rootF f (min A B) = min A B := rootF_self h fm
    by_cases hM : max A B = v
    · subst hM
      rw [rM, if_pos rfl]
      by_cases e : max A B = min A B
      · rw [rootF_self hj (by rw [hget, if_pos rfl]; exact e.symm), e]
      · have hlt : min A B < max A B := by omega
        rw [rootF_step hj hv, hget, if_pos rfl, ih (min A B) (by omega) (by omega), rm, if_neg (by omega)]
    · by_cases hf : f.getD v 0 = v
      · rw [rootF_self hj (by rw [hget, if_neg hM]; exact hf), rootF_self h hf, if_neg (fun e => hM e.symm)]
      · rw [rootF_step hj hv, hget, if_neg hM, ih (f.getD v 0) (by omega) (by omega), ← rootF_step h hv]
end

/-- The vertices that edges join stand in one class, whatever the classes are. -/
def Tied (es : List (Nat × Nat)) (u v : Nat) : Prop := ∀ c : Nat → Nat, (∀ x ∈ es, c x.1 = c x.2) → c u = c v

/-- The forest of the edges so far. -/
structure Uf (f : List Nat) (es : List (Nat × Nat)) : Prop where
  fst : Fst f
  tied : ∀ v, v < 12 → Tied es v (f.getD v 0)
  one : ∀ x ∈ es, rootF f x.1 = rootF f x.2

section
variable {f : List Nat} {es : List (Nat × Nat)}
theorem Uf.begin : Uf (List.range 12) [] := by
  have hg : ∀ v, v < 12 → (List.range 12).getD v 0 = v := fun v hv => by
    rw [List.getD_eq_getElem?_getD, List.getElem?_range hv]; rfl
  exact ⟨⟨by simp, fun v hv => by rw [hg v hv]; exact Nat.le_refl v⟩, fun v hv c _ => by rw [hg v hv], fun x hx => by simp at hx⟩
theorem Uf.root_tied (h : Uf f es) : ∀ n v, v < n → v < 12 → Tied es v (rootF f v)
  | 0, v, hn, _ => by omega
  | n + 1, v, hn, hv => fun c hc => by
    by_cases hf : f.getD v 0 = v
    · rw [rootF_self h.fst hf]
    · have h1 := h.fst.le v hv
      rw [rootF_step h.fst hv]
      exact (h.tied v hv c hc).trans (h.root_tied n (f.getD v 0) (by omega) (by omega) c hc)
theorem Uf.join (h : Uf f es) {a b : Nat} (ha : a < 12) (hb : b < 12) (hes : ∀ x ∈ es, x.1 < 12 ∧ x.2 < 12) : Uf (joinF f a b) (es ++ [(a, b)]) := by
  have ta := h.root_tied (a + 1) a (by omega) ha
  have tb := h.root_tied (b + 1) b (by omega) hb
  refine ⟨joinF_fst h.fst ha hb, fun v hv c hc => ?_, fun x hx => ?_⟩
  · have hc1 : ∀ x ∈ es, c x.1 = c x.2 := fun x hx => hc x (by simp [hx])
    rw [joinF_get h.fst ha hb]
    split
    · rename_i e
      have hab := hc (a, b) (by simp)
      simp only at hab
      have h1 := ta c hc1
      have h2 := tb c hc1
      rw [← e]
      rcases Nat.le_total (rootF f a) (rootF f b) with hl | hl
      · rw [Nat.max_eq_right hl, Nat.min_eq_left hl, ← h1, ← h2, hab]
      · rw [Nat.max_eq_left hl, Nat.min_eq_right hl, ← h1, ← h2, hab]
    · exact h.tied v hv c hc1
  · rcases List.mem_append.1 hx with hx | hx
    · rw [joinF_root h.fst ha hb 12 _ (hes x hx).1 (hes x hx).1, joinF_root h.fst ha hb 12 _ (hes x hx).2 (hes x hx).2, h.one x hx]
    · simp at hx
      subst hx
      rw [joinF_root h.fst ha hb 12 a ha ha, joinF_root h.fst ha hb 12 b hb hb]
      rcases Nat.le_total (rootF f a) (rootF f b) with hl | hl
      · rw [Nat.max_eq_right hl, Nat.min_eq_left hl]
        by_cases e : rootF f a = rootF f b
        · simp [e]
        · simp [e]
      · rw [Nat.max_eq_left hl, Nat.min_eq_right hl]
        by_cases e : rootF f b = rootF f a
        · simp [e]
        · simp [e]
theorem Uf.same (h : Uf f es) {u v : Nat} (hu : u < 12) (hv : v < 12) : rootF f u = rootF f v ↔ Tied es u v :=
  ⟨fun e c hc => (h.root_tied 12 u hu hu c hc).trans ((congrArg c e).trans (h.root_tied 12 v hv hv c hc).symm), fun ht => ht (rootF f) h.one⟩
/-- A root is the least of its class. -/
theorem Uf.least (h : Uf f es) {v : Nat} (hv : v < 12) : rootF f v = v ↔ ∀ u, u < v → ¬ Tied es u v := by
  constructor
  · intro e u hu ht
    have h1 := (h.same (by omega) hv).2 ht
    have h2 := rootF_le h.fst (show u < 12 by omega)
    omega
  · intro hn
    rcases Nat.lt_or_ge (rootF f v) v with h1 | h1
    · exact absurd (fun c hc => (h.root_tied 12 v hv hv c hc).symm) (hn _ h1)
    · have := rootF_le h.fst hv
      omega
end

theorem Tied.symm {es : List (Nat × Nat)} {u v : Nat} (h : Tied es u v) : Tied es v u := fun c hc => (h c hc).symm
theorem Tied.refl {es : List (Nat × Nat)} {u : Nat} : Tied es u u := fun c hc => rfl
theorem Tied.trans {es : List (Nat × Nat)} {u v x : Nat} (h : Tied es u v) (h2 : Tied es v x) : Tied es u x := fun c hc => (h c hc).trans (h2 c hc)

/-- Along the edges, step by step: adj says whether two vertices are joined. -/
def nxA (adj : Nat → Nat → Bool) (a b : Nat) : Nat := if adj a b then b else a
theorem rch_tied {adj : Nat → Nat → Bool} {N : Nat} {es : List (Nat × Nat)} (hadj : ∀ a b, adj a b = true ↔ (a, b) ∈ es ∨ (b, a) ∈ es) (hes : ∀ x ∈ es, x.1 < N ∧ x.2 < N) {u v : Nat} : Rch (nxA adj) N u v ↔ Tied es u v := by
  have step : ∀ x y : Nat, adj x y = true → Tied es x y := fun x y h c hc => by
    rcases (hadj x y).1 h with h | h
    · exact hc _ h
    · exact (hc _ h).symm
  constructor
  · intro h
    refine rch_in (P := fun t => Tied es u t) Tied.refl (fun x a hx ha => ?_) h
    unfold nxA
    split
    · exact hx.trans (step x a (by assumption))
    · exact hx
  · intro h
    have go : ∀ x y, y < N → adj x y = true → Rch (nxA adj) N u x → Rch (nxA adj) N u y := fun x y hy hxy hx => by
      have := rch_step hx hy
      simpa [nxA, hxy] using this
    have hcl : ∀ x ∈ es, (Rch (nxA adj) N u x.1 ↔ Rch (nxA adj) N u x.2) := fun x hx =>
      ⟨go _ _ (hes x hx).2 ((hadj _ _).2 (.inl hx)), go _ _ (hes x hx).1 ((hadj _ _).2 (.inr hx))⟩
    have key := h (fun t => @ite Nat (Rch (nxA adj) N u t) (Classical.propDecidable _) 0 1) (fun x hx => by
      by_cases h1 : Rch (nxA adj) N u x.1
      · rw [if_pos h1, if_pos ((hcl x hx).1 h1)]
      · rw [if_neg h1, if_neg fun h2 => h1 ((hcl x hx).2 h2)])
    rw [if_pos rch_refl] at key
    by_cases h2 : Rch (nxA adj) N u v
    · exact h2
    · rw [if_neg h2] at key; cases key

end Go.Proofs.YthpknfoahimopaaGreatDoor

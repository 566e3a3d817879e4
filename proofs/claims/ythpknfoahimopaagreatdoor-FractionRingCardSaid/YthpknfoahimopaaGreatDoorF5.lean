/-
  ref02: long, pair, Make, Of, Neg, Floor, Written, Text, Few. Printed by mkRefF4.py.
  ref02: Add, Sub. Printed by mkRefF5.py.
  ref02: Mul, Div, Compare. Printed by mkRefF6.py.
  ref02: Parse. Printed by mkRefF7.py.
  ref02: Whole, Sum, FewAll. Printed by mkRefF8.py.
  ref02.FewAll; ref01.Small.
  law02: boxes that are kept, equality of fractions; half, awake. Printed by mkLaw02.py.
  law02.awake. Printed by mkLawAwk.py.
  Each function of the package answers as the reference does, for all texts. Printed by mkLawSame.py.
  The data of the chapters on processors and networks, as plain Lean; how they lie in memory.
  From the reading of an argument to the list or the structure that it stands for.
  From the reading of an argument to the representations: texts, fractions, lists of fractions; the table that start-up code lays.
  What all laws of law02 share.
-/
import Derived.Test.YthpknfoahimopaaGreatDoorF4
import Derived.IntWalk
import Derived.Deep.RegionHeld3
import Derived.Test.YthpknfoahimopaaGreatDoorProg
import Derived.ProofKit
import Derived.Deep.Slices
import Derived.Lib.RowBridge
import Derived.ChangeMaps5
import Derived.Lib.LaidTab
import Derived.OpenShut

set_option linter.unusedVariables false
set_option linter.unusedSimpArgs false
set_option linter.unnecessarySimpa false
namespace Go.Proofs.YthpknfoahimopaaGreatDoor
open Go.RowKit

/-- Texts in memory. -/
def strR : Rep (List UInt8) := fun _ _ cs x => cs = [.string (strN x)] ∧ x.length ≤ 140737488355328
theorem strR_ok : RepOk strR 1 where
  len := by rintro F w cs x ⟨rfl, _⟩; rfl
  one := by rintro F w cs x ⟨rfl, _⟩ u hu; simp at hu; subst hu; rfl
  keep := by rintro F w w' cs x h _; exact h
  wide := by rintro F F' w cs x h _; exact h
theorem SliceR.str_at {F : Foot} {w : World} {oa : Option Addr} {xs : List (List UInt8)} (h : SliceR strR 1 F w oa xs) {i : Nat} (hi : i < xs.length) :
    ∃ x, xs.drop i = x :: xs.drop (i + 1) ∧ xs[i]? = some x ∧ x.length ≤ 140737488355328 ∧ ∃ b off, oa = some ⟨b, off, none⟩ ∧ F b ∧ w.cell? ⟨b, off + i, none⟩ = some (.string (strN x)) := by
  obtain ⟨x, h1, h2, b, off, cs, h3, h4, ⟨rfl, h5⟩, h6⟩ := h.at hi
  exact ⟨x, h1, h2, h5, b, off, h3, h4, by simpa using h6 0 _ rfl⟩
theorem Box.strs {w : World} {g : Nat} {t : TypeId} {xs : List (List UInt8)} (h : Box w g (xs.map fun x => .string (strN x)) t) (hx : ∀ x ∈ xs, x.length ≤ 140737488355328) : SliceR strR 1 All w (some ⟨g, 0, none⟩) xs := by
  intro i x hi
  refine ⟨g, 0, [.string (strN x)], rfl, trivial, ⟨rfl, hx x (List.mem_of_getElem? hi)⟩, ?_⟩
  intro j u hj
  match j with
  | 0 =>
    simp at hj
    subst hj
    have h5 := h.cell i
    rw [List.getElem?_map, hi] at h5
    simpa using h5
  | j + 1 => simp at hj
theorem SliceR.firsts {F : Foot} {w : World} {oa : Option Addr} {xs ys : List (List UInt8)} (h : SliceR strR 1 F w oa (xs ++ ys)) : SliceR strR 1 F w oa xs := fun i x hi => h i x (by rw [List.getElem?_append_left (List.getElem?_eq_some_iff.1 hi).1]; exact hi)
/-- One of some texts is too long, or wrong. -/
def longB (xs : List (List UInt8)) : Bool := xs.any fun x => chkI x != 0
theorem longB_txt (z : Int) : (chkI (txtI z) != 0) = !decide (Lim z) := by
  by_cases h : Lim z
  · rw [chk_lim h, decide_eq_true h]; rfl
  · rw [chkI_txtI, if_pos (by have h5 : ¬ (txtN z.natAbs).length ≤ 1024 := h; omega), decide_eq_false h]; rfl
set_option maxRecDepth 100000 in
set_option maxHeartbeats 4000000 in
theorem rlong_any (xs : List (List UInt8)) (oa : Option Addr) (c : Nat) (F : Foot) (w : World) (h : SliceR strR 1 F w oa xs) (hl : xs.length ≤ 1000) : Calls Tryz.prog 69 #[.slice oa xs.length c] w fun e w' => e = .returned (.bool (longB xs)) ∧ Below w.heap.size w w' := by
  have HS := hide h
  clear h
  go_enter Tryz.func69, Tryz.ntmps69
  go_wp2_with fail
  go_loopw [3] (fun i wr => ∃ k : Nat, k ≤ xs.length ∧ i = .int .i64 k ∧ Hid (longB xs = longB (xs.drop k)) ∧ Below w.heap.size w wr) (fun i _ => xs.length - (intOf i).toNat)
  case atStart => exact ⟨0, by omega, rfl, rfl, Below.refl _ _⟩
  case round =>
    obtain ⟨k, hk, rfl, HE, hb⟩ := hrel
    have HB := hide hb
    clear hb
    by_cases hlt : k < xs.length
    · obtain ⟨x, hd, hget, hxl, b, off, rfl, _, c0⟩ := (HS.out.below strR_ok HB.out).str_at hlt
      have HD := hide hd
      have H1 := hide (rcheck_any x hxl wr)
      have hk0 : (0 : Int) ≤ k := by omega
      have hk1 : (k : Int) < xs.length := by omega
      clear hd hget hxl
      by_cases hc : chkI x = 0
      · have tq : (chkI x != 0) = false := by simp [hc]
        have HE2 : Hid (longB xs = longB (xs.drop (k + 1))) := by
          show _ = _
          rw [HE.out, HD.out]
          show ((chkI x != 0) || _) = _
          rw [tq]
          rfl
        rw [hc] at H1
        clear hc tq
        go_wp2_with (go_at_call 48; (with_reducible refine H1.out.mono ?_); rintro ec w5 ⟨rfl, hb5⟩; have HB5 := hide (below_then HB.out hb5); clear hb5)
        go_roundw
        case rel => exact ⟨k + 1, by omega, by go_num, HE2, HB5.out⟩
        case measure => simp [intOf]; omega
      · have tq : (chkI x != 0) = true := by simpa using hc
        have HE2 : Hid (longB xs = true) := by
          show _ = _
          rw [HE.out, HD.out]
          show ((chkI x != 0) || _) = _
          rw [tq]
          rfl
        clear hc
        generalize chkI x = e at *
        go_wp2_with (go_at_call 48; (with_reducible refine H1.out.mono ?_); rintro ec w5 ⟨rfl, hb5⟩; have HB5 := hide (below_then HB.out hb5); clear hb5)
        go_ret
        exact ⟨by rw [HE2.out]; rfl, HB5.out⟩
    · have HE2 : Hid (longB xs = false) := by
        show _ = _
        rw [HE.out, List.drop_eq_nil_of_le (by omega)]
        rfl
      go_wp2_with fail
      go_ret
      exact ⟨by rw [HE2.out]; rfl, HB.out⟩

set_option maxRecDepth 100000 in
set_option maxHeartbeats 4000000 in
theorem rpair_any (s t u v : List UInt8) (hs : s.length ≤ 140737488355328) (ht : t.length ≤ 140737488355328) (hu : u.length ≤ 140737488355328) (hv : v.length ≤ 140737488355328) {e1 e2 e : Int} (h1 : chkF s t = e1) (h2 : chkF u v = e2) (he : errOr e1 e2 = e) (w : World) : Calls Tryz.prog 67 #[.agg #[.string (strN s), .string (strN t)], .agg #[.string (strN u), .string (strN v)]] w fun r w' => r = .returned (.int .i64 e) ∧ Below w.heap.size w w' := by
  have H1 : Hid (∀ w', Calls Tryz.prog 33 #[.agg #[.string (strN s), .string (strN t)]] w' fun r w2 => r = .returned (.int .i64 e1) ∧ Below w'.heap.size w' w2) := fun w' => by rw [← h1]; exact rfcheck_any s t hs ht
  have H2 : Hid (∀ w', Calls Tryz.prog 33 #[.agg #[.string (strN u), .string (strN v)]] w' fun r w2 => r = .returned (.int .i64 e2) ∧ Below w'.heap.size w' w2) := fun w' => by rw [← h2]; exact rfcheck_any u v hu hv
  have HE := hide he
  generalize strN s = sp at *
  generalize strN t = sq at *
  generalize strN u = sr at *
  generalize strN v = ss at *
  have HB := hide (W2b.low w sp sq sr ss)
  have HA := hide (W2b.a w sp sq sr ss)
  have HY := hide (W2b.b w sp sq sr ss)
  clear hs ht hu hv h1 h2 he
  by_cases h : e1 = 0
  · have q1 : (e1 != 0) = false := by simp [h]
    have HR : Hid (e = e2) := by show e = e2; rw [← HE.out]; unfold errOr; rw [if_neg (by simp [h])]
    clear h
    go_enter Tryz.func67, Tryz.ntmps67
    go_wp2_with (first
      | (go_at_call 33; have _t := HA; (with_reducible refine (H1.out _).mono ?_); rintro ec w5 ⟨rfl, hb5⟩; have HB5 := hide (below_then HB.out hb5); obtain ⟨d0, d1, f0, f1⟩ := (HY.out.below hb5).two; clear HA hb5 _t)
      | (go_at_call 33; (with_reducible refine (H2.out _).mono ?_); rintro ec w6 ⟨rfl, hb6⟩; have HB6 := hide (below_then HB5.out hb6); clear hb6))
    go_ret
    exact ⟨by rw [HR.out]; rfl, HB6.out⟩
  · have q1 : (e1 != 0) = true := by simpa using h
    have HR : Hid (e = e1) := by show e = e1; rw [← HE.out]; exact if_pos h
    clear h
    go_enter Tryz.func67, Tryz.ntmps67
    go_wp2_with (go_at_call 33; (with_reducible refine (H1.out _).mono ?_); rintro ec w5 ⟨rfl, hb5⟩; have HB5 := hide (below_then HB.out hb5); clear hb5)
    go_ret
    exact ⟨by rw [HR.out]; rfl, HB5.out⟩

set_option maxRecDepth 100000 in
set_option maxHeartbeats 4000000 in
theorem rfmake_bad (l m : List UInt8) (hs : l.length ≤ 140737488355328) (ht : m.length ≤ 140737488355328) {e1 e2 e : Int} (h1 : chkI l = e1) (h2 : chkI m = e2) (hb : e1 ≠ 0 ∨ e2 ≠ 0) (he : errOr e1 e2 = e) (w : World) :
    Calls Tryz.prog 13 #[.string (strN l), .string (strN m)] w fun r w' => r = .returned (frT ⟨#[]⟩ ⟨#[]⟩ e) ∧ Below w.heap.size w w' := by
  have H1 : Hid (∀ w', Calls Tryz.prog 48 #[.string (strN l)] w' fun e w2 => e = .returned (.int .i64 e1) ∧ Below w'.heap.size w' w2) := fun w' => by rw [← h1]; exact rcheck_any l hs w'
  have H2 : Hid (∀ w', Calls Tryz.prog 48 #[.string (strN m)] w' fun e w2 => e = .returned (.int .i64 e2) ∧ Below w'.heap.size w' w2) := fun w' => by rw [← h2]; exact rcheck_any m ht w'
  generalize strN l = s at *
  generalize strN m = t at *
  have HE := hide he
  have HBAD := hide hb
  unfold frT
  have HW : Hid (Below w.heap.size w (w.alloc (.cells #[.string ⟨#[]⟩, .string ⟨#[]⟩] 26))) := bnew (Below.refl _ _) _
  have HX := hide (Box.new w [.string ⟨#[]⟩, .string ⟨#[]⟩] 26)
  clear hs ht h1 h2 hb he
  by_cases h : e1 = 0
  · have q1 : (e1 != 0) = false := by simp [h]
    have h2 : e2 ≠ 0 := by
      rcases HBAD.out with h5 | h5
      · exact absurd h h5
      · exact h5
    have q2 : (e2 != 0) = true := by simpa using h2
    have HR : Hid (e = e2) := by show e = e2; rw [← HE.out]; unfold errOr; rw [if_neg (by simp [h])]
    clear h h2
    go_enter Tryz.func13, Tryz.ntmps13
    go_wp2_with (first
      | (go_at_call 48; have _t := HX; (with_reducible refine (H1.out _).mono ?_); rintro ec w5 ⟨rfl, hb5⟩; have HB5 := hide (below_then HW.out hb5); have HX5 := hide (HX.out.below hb5); clear HX hb5 _t)
      | (go_at_call 48; (with_reducible refine (H2.out _).mono ?_); rintro ec w6 ⟨rfl, hb6⟩; have HB6 := hide (below_then HB5.out hb6); have HX6 := hide (HX5.out.below hb6); obtain ⟨d0, d1, f0, f1⟩ := HX6.out.two; clear hb6))
    obtain ⟨j0, j1⟩ := HX6.out.full (a := .string ⟨#[]⟩) (b := .string ⟨#[]⟩)
    refine bodyPost_ret (v := .tuple #[.agg #[.string ⟨#[]⟩, .string ⟨#[]⟩], .int .i64 e2]) (by simp [results, Tryz.results13, go_sem, j0, j1]) rfl ⟨by rw [HR.out], ?_⟩
    exact ((HB6.out.setCell (Nat.le_refl _) _).setCell (Nat.le_refl _) _)
  · have q1 : (e1 != 0) = true := by simpa using h
    have HR : Hid (e = e1) := by show e = e1; rw [← HE.out]; exact if_pos h
    clear h
    go_enter Tryz.func13, Tryz.ntmps13
    go_wp2_with (go_at_call 48; (with_reducible refine (H1.out _).mono ?_); rintro ec w5 ⟨rfl, hb5⟩; have HB5 := hide (below_then HW.out hb5); have HX5 := hide (HX.out.below hb5); obtain ⟨d0, d1, f0, f1⟩ := HX5.out.two; clear hb5)
    obtain ⟨j0, j1⟩ := HX5.out.full (a := .string ⟨#[]⟩) (b := .string ⟨#[]⟩)
    refine bodyPost_ret (v := .tuple #[.agg #[.string ⟨#[]⟩, .string ⟨#[]⟩], .int .i64 e1]) (by simp [results, Tryz.results13, go_sem, j0, j1]) rfl ⟨by rw [HR.out], ?_⟩
    exact ((HB5.out.setCell (Nat.le_refl _) _).setCell (Nat.le_refl _) _)
set_option maxRecDepth 100000 in
set_option maxHeartbeats 4000000 in
theorem rfmake_lim {p q : Int} (hp : Lim p) (hq : Lim q) (w : World) : Calls Tryz.prog 13 #[.string (strN (txtI p)), .string (strN (txtI q))] w fun e w' => e = .returned (makeV p q) ∧ Below w.heap.size w w' := by
  have hc (z : Int) (h : Lim z) (w' : World) : Calls Tryz.prog 48 #[.string (strN (txtI z))] w' fun e w2 => e = .returned (.int .i64 0) ∧ Below w'.heap.size w' w2 := by
    rw [← chk_lim h]
    exact rcheck_any (txtI z) (by have h1 := txtI_len z; have h2 : lenI z ≤ 1024 := h; omega) w'
  have H1 : Hid (∀ w', Calls Tryz.prog 48 #[.string (strN (txtI p))] w' fun e w2 => e = .returned (.int .i64 0) ∧ Below w'.heap.size w' w2) := fun w' => hc p hp w'
  have H2 : Hid (∀ w', Calls Tryz.prog 48 #[.string (strN (txtI q))] w' fun e w2 => e = .returned (.int .i64 0) ∧ Below w'.heap.size w' w2) := fun w' => hc q hq w'
  have HW : Hid (Below w.heap.size w (w.alloc (.cells #[.string ⟨#[]⟩, .string ⟨#[]⟩] 26))) := bnew (Below.refl _ _) _
  have HX := hide (Box.new w [.string ⟨#[]⟩, .string ⟨#[]⟩] 26)
  by_cases h0 : q = 0
  · unfold makeV frT
    rw [if_pos h0]
    have tz : ((strN (txtI q)).toList == [48]) = true := by rw [strN_toList, h0]; rfl
    generalize strN (txtI p) = s at *
    generalize strN (txtI q) = t at *
    clear hp hq hc h0
    go_enter Tryz.func13, Tryz.ntmps13
    go_wp2_with (first
      | (go_at_call 48; have _t := HX; (with_reducible refine (H1.out _).mono ?_); rintro ec w5 ⟨rfl, hb5⟩; have HB5 := hide (below_then HW.out hb5); have HX5 := hide (HX.out.below hb5); clear HX hb5 _t)
      | (go_at_call 48; (with_reducible refine (H2.out _).mono ?_); rintro ec w6 ⟨rfl, hb6⟩; have HB6 := hide (below_then HB5.out hb6); have HX6 := hide (HX5.out.below hb6); obtain ⟨d0, d1, f0, f1⟩ := HX6.out.two; clear hb6))
    obtain ⟨j0, j1⟩ := HX6.out.full (a := .string ⟨#[]⟩) (b := .string ⟨#[]⟩)
    refine bodyPost_ret (v := .tuple #[.agg #[.string ⟨#[]⟩, .string ⟨#[]⟩], .int .i64 10]) (by simp [results, Tryz.results13, go_sem, j0, j1]) rfl ⟨rfl, ?_⟩
    exact ((HB6.out.setCell (Nat.le_refl _) _).setCell (Nat.le_refl _) _)
  · unfold makeV frT
    rw [if_neg h0]
    have tz := txtI_ne0 h0
    have HL : Hid (∀ w', Calls Tryz.prog 53 #[.string (strN (txtI p)), .string (strN (txtI q))] w' fun e w2 => e = .returned (fracV (lowF p q)) ∧ Below w'.heap.size w' w2) := fun w' => rlow_any hp.sm hq.sm h0 w'
    unfold fracV at HL
    obtain ⟨sa, hsa⟩ : ∃ v, v = strN (txtI (lowF p q).1) := ⟨_, rfl⟩
    obtain ⟨sb, hsb⟩ : ∃ v, v = strN (txtI (lowF p q).2) := ⟨_, rfl⟩
    rw [← hsa, ← hsb] at HL ⊢
    obtain ⟨s, hs⟩ : ∃ v, v = strN (txtI p) := ⟨_, rfl⟩
    obtain ⟨t, ht⟩ : ∃ v, v = strN (txtI q) := ⟨_, rfl⟩
    rw [← hs] at H1 HL ⊢
    rw [← ht] at H2 HL tz ⊢
    clear hp hq hc h0 hsa hsb hs ht
    go_enter Tryz.func13, Tryz.ntmps13
    go_wp2_with (first
      | (go_at_call 48; have _t := HX; (with_reducible refine (H1.out _).mono ?_); rintro ec w5 ⟨rfl, hb5⟩; have HB5 := hide (below_then HW.out hb5); have HX5 := hide (HX.out.below hb5); clear HX hb5 _t)
      | (go_at_call 48; (with_reducible refine (H2.out _).mono ?_); rintro ec w6 ⟨rfl, hb6⟩; have HB6 := hide (below_then HB5.out hb6); have HX6 := hide (HX5.out.below hb6); clear hb6)
      | (go_at_call 53; (with_reducible refine (HL.out _).mono ?_); rintro ec w7 ⟨rfl, hb7⟩; have HB7 := hide (below_then HB6.out hb7); have HX7 := hide (HX6.out.below hb7); obtain ⟨d0, d1, f0, f1⟩ := HX7.out.two; clear hb7))
    obtain ⟨j0, j1⟩ := HX7.out.full (a := .string sa) (b := .string sb)
    refine bodyPost_ret (v := .tuple #[.agg #[.string sa, .string sb], .int .i64 0]) (by simp [results, Tryz.results13, go_sem, j0, j1]) rfl ⟨rfl, ?_⟩
    exact ((HB7.out.setCell (Nat.le_refl _) _).setCell (Nat.le_refl _) _)
set_option maxRecDepth 100000 in
set_option maxHeartbeats 4000000 in
theorem rfneg_ok {p q : Int} (h : Good p q) (w : World) : Calls Tryz.prog 28 #[.agg #[.string (strN (txtI p)), .string (strN (txtI q))]] w fun e w' => e = .returned (frT (strN (txtI (-p))) (strN (txtI q)) 0) ∧ Below w.heap.size w w' := by
  have H1 : Hid (∀ w', Calls Tryz.prog 33 #[.agg #[.string (strN (txtI p)), .string (strN (txtI q))]] w' fun e w2 => e = .returned (.int .i64 0) ∧ Below w'.heap.size w' w2) := fun w' => by rw [← h.chkL]; exact rfcheck_any _ _ (lim_size h.num) (lim_size h.den)
  have H2 : Hid (∀ w', Calls Tryz.prog 63 #[.agg #[.string (strN (txtI p)), .string (strN (txtI q))]] w' fun e w2 => e = .returned (.agg #[.string (strN (txtI (-p))), .string (strN (txtI q))]) ∧ Below w'.heap.size w' w2) := fun w' => rfturned_any h.num.sm w'
  unfold frT
  obtain ⟨s, hs⟩ : ∃ s, s = strN (txtI p) := ⟨_, rfl⟩
  obtain ⟨t, htt⟩ : ∃ t, t = strN (txtI q) := ⟨_, rfl⟩
  obtain ⟨n, hn⟩ : ∃ n, n = strN (txtI (-p)) := ⟨_, rfl⟩
  rw [← hs, ← htt] at H1 ⊢
  rw [← hs, ← hn, ← htt] at H2
  rw [← hn]
  have HW := hide (W2.low w s t)
  have HA := hide (W2.a w s t)
  have HX := hide (W2.c w s t)
  clear h hs htt hn
  go_enter Tryz.func28, Tryz.ntmps28
  go_wp2_with (first
    | (go_at_call 33; (with_reducible refine (H1.out _).mono ?_); rintro ec w5 ⟨rfl, hb5⟩; have HB5 := hide (below_then HW.out hb5); have HX5 := hide (HX.out.below hb5); have HA5 := hide (HA.out.below hb5); obtain ⟨d0, d1, f0, f1⟩ := HA5.out.two; clear hb5)
    | (go_at_call 63; (with_reducible refine (H2.out _).mono ?_); rintro ec w6 ⟨rfl, hb6⟩; have HB6 := hide (below_then HB5.out hb6); have HX6 := hide (HX5.out.below hb6); obtain ⟨k0, k1, l0, l1⟩ := HX6.out.two; clear hb6))
  obtain ⟨j0, j1⟩ := HX6.out.full (a := .string n) (b := .string t)
  refine bodyPost_ret (v := .tuple #[.agg #[.string n, .string t], .int .i64 0]) (by simp [results, Tryz.results28, go_sem, j0, j1]) rfl ⟨rfl, ?_⟩
  exact ((HB6.out.setCell (by show w.heap.size ≤ w.heap.size + 1; omega) _).setCell (by show w.heap.size ≤ w.heap.size + 1; omega) _)
set_option maxRecDepth 100000 in
set_option maxHeartbeats 4000000 in
theorem rfneg_bad (s t : List UInt8) (hs : s.length ≤ 140737488355328) (ht : t.length ≤ 140737488355328) {e : Int} (he0 : e ≠ 0) (he : chkF s t = e) (w : World) : Calls Tryz.prog 28 #[.agg #[.string (strN s), .string (strN t)]] w fun r w' => r = .returned (frT ⟨#[]⟩ ⟨#[]⟩ e) ∧ Below w.heap.size w w' := by
  have HBO : Hid (∀ w', Calls Tryz.prog 33 #[.agg #[.string (strN s), .string (strN t)]] w' fun e' w2 => e' = .returned (.int .i64 e) ∧ Below w'.heap.size w' w2) := fun w' => by rw [← he]; exact rfcheck_any s t hs ht
  generalize strN s = sp at *
  generalize strN t = sq at *
  have HW := hide (W2.low w sp sq)
  have HX := hide (W2.c w sp sq)
  have tq : (e != 0) = true := by simpa using he0
  unfold frT
  clear hs ht he0 he
  go_enter Tryz.func28, Tryz.ntmps28
  go_wp2_with (go_at_call 33; (with_reducible refine (HBO.out _).mono ?_); rintro ec w5 ⟨rfl, hb5⟩; have HB5 := hide (below_then HW.out hb5); have HX5 := hide (HX.out.below hb5); obtain ⟨d0, d1, f0, f1⟩ := HX5.out.two; clear hb5)
  obtain ⟨j0, j1⟩ := HX5.out.full (a := .string ⟨#[]⟩) (b := .string ⟨#[]⟩)
  refine bodyPost_ret (v := .tuple #[.agg #[.string ⟨#[]⟩, .string ⟨#[]⟩], .int .i64 e]) (by simp [results, Tryz.results28, go_sem, j0, j1]) rfl ⟨rfl, ?_⟩
  exact ((HB5.out.setCell (by show w.heap.size ≤ w.heap.size + 1; omega) _).setCell (by show w.heap.size ≤ w.heap.size + 1; omega) _)
set_option maxRecDepth 100000 in
set_option maxHeartbeats 4000000 in
theorem rffloor_ok {p q : Int} (h : Good p q) (w : World) : Calls Tryz.prog 30 #[.agg #[.string (strN (txtI p)), .string (strN (txtI q))]] w fun e w' => e = .returned (.tuple #[.string (strN (txtI (p.fdiv q))), .int .i64 0]) ∧ Below w.heap.size w w' := by
  have H1 : Hid (∀ w', Calls Tryz.prog 33 #[.agg #[.string (strN (txtI p)), .string (strN (txtI q))]] w' fun e w2 => e = .returned (.int .i64 0) ∧ Below w'.heap.size w' w2) := fun w' => by rw [← h.chkL]; exact rfcheck_any _ _ (lim_size h.num) (lim_size h.den)
  have H2 : Hid (∀ w', Calls Tryz.prog 64 #[.string (strN (txtI p)), .string (strN (txtI q))] w' fun e w2 => e = .returned (.string (strN (txtI (p.fdiv q)))) ∧ Below w'.heap.size w' w2) := fun w' => rdown_any h.num.sm h.den.sm (by have := h.low.1; omega) w'
  obtain ⟨s, hs⟩ : ∃ s, s = strN (txtI p) := ⟨_, rfl⟩
  obtain ⟨t, htt⟩ : ∃ t, t = strN (txtI q) := ⟨_, rfl⟩
  obtain ⟨n, hn⟩ : ∃ n, n = strN (txtI (p.fdiv q)) := ⟨_, rfl⟩
  rw [← hs, ← htt] at H1 ⊢
  rw [← hs, ← htt, ← hn] at H2
  rw [← hn]
  have HW : Hid (Below w.heap.size w (w.alloc (.cells #[.string s, .string t] 26))) := bnew (Below.refl _ _) _
  have HA := hide (Box.new w [.string s, .string t] 26)
  clear h hs htt hn
  go_enter Tryz.func30, Tryz.ntmps30
  go_wp2_with (first
    | (go_at_call 33; (with_reducible refine (H1.out _).mono ?_); rintro ec w5 ⟨rfl, hb5⟩; have HB5 := hide (below_then HW.out hb5); obtain ⟨d0, d1, f0, f1⟩ := (HA.out.below hb5).two; clear hb5)
    | (go_at_call 64; (with_reducible refine (H2.out _).mono ?_); rintro ec w6 ⟨rfl, hb6⟩; have HB6 := hide (below_then HB5.out hb6); clear hb6))
  go_ret2
  exact ⟨rfl, HB6.out⟩

set_option maxRecDepth 100000 in
set_option maxHeartbeats 4000000 in
theorem rffloor_bad (l m : List UInt8) (hs : l.length ≤ 140737488355328) (ht : m.length ≤ 140737488355328) {e : Int} (he0 : e ≠ 0) (he : chkF l m = e) (w : World) : Calls Tryz.prog 30 #[.agg #[.string (strN l), .string (strN m)]] w fun r w' => r = .returned (.tuple #[.string ⟨#[]⟩, .int .i64 e]) ∧ Below w.heap.size w w' := by
  have HBO : Hid (∀ w', Calls Tryz.prog 33 #[.agg #[.string (strN l), .string (strN m)]] w' fun e' w2 => e' = .returned (.int .i64 e) ∧ Below w'.heap.size w' w2) := fun w' => by rw [← he]; exact rfcheck_any l m hs ht
  generalize strN l = s at *
  generalize strN m = t at *
  have tq : (e != 0) = true := by simpa using he0
  have HW : Hid (Below w.heap.size w (w.alloc (.cells #[.string s, .string t] 26))) := bnew (Below.refl _ _) _
  have HA := hide (Box.new w [.string s, .string t] 26)
  clear hs ht he0 he
  go_enter Tryz.func30, Tryz.ntmps30
  go_wp2_with (go_at_call 33; (with_reducible refine (HBO.out _).mono ?_); rintro ec w5 ⟨rfl, hb5⟩; have HB5 := hide (below_then HW.out hb5); clear hb5)
  go_ret2
  exact ⟨rfl, HB5.out⟩

set_option maxRecDepth 100000 in
set_option maxHeartbeats 4000000 in
theorem rftext_bad (l m : List UInt8) (hs : l.length ≤ 140737488355328) (ht : m.length ≤ 140737488355328) {e : Int} (he0 : e ≠ 0) (he : chkF l m = e) (w : World) : Calls Tryz.prog 32 #[.agg #[.string (strN l), .string (strN m)]] w fun r w' => r = .returned (.tuple #[.string ⟨#[]⟩, .int .i64 e]) ∧ Below w.heap.size w w' := by
  have HBO : Hid (∀ w', Calls Tryz.prog 33 #[.agg #[.string (strN l), .string (strN m)]] w' fun e' w2 => e' = .returned (.int .i64 e) ∧ Below w'.heap.size w' w2) := fun w' => by rw [← he]; exact rfcheck_any l m hs ht
  generalize strN l = s at *
  generalize strN m = t at *
  have tq : (e != 0) = true := by simpa using he0
  have HW : Hid (Below w.heap.size w (w.alloc (.cells #[.string s, .string t] 26))) := bnew (Below.refl _ _) _
  have HA := hide (Box.new w [.string s, .string t] 26)
  clear hs ht he0 he
  go_enter Tryz.func32, Tryz.ntmps32
  go_wp2_with (go_at_call 33; (with_reducible refine (HBO.out _).mono ?_); rintro ec w5 ⟨rfl, hb5⟩; have HB5 := hide (below_then HW.out hb5); clear hb5)
  go_ret2
  exact ⟨rfl, HB5.out⟩

set_option maxRecDepth 100000 in
set_option maxHeartbeats 4000000 in
theorem rwritten_any {p q : Int} (hp : Lim p) (hq : Lim q) (w : World) : Calls Tryz.prog 65 #[.agg #[.string (strN (txtI p)), .string (strN (txtI q))]] w fun e w' => e = .returned (.string (strN (txtF p q))) ∧ Below w.heap.size w w' := by
  have t1 : ¬ 9223372036854775807 < (strN (txtI p)).size + 1 := by have := lim_size hp; omega
  have t2 : ¬ 9223372036854775807 < (strN (txtI p)).size + 1 + (strN (txtI q)).size := by have := lim_size hp; have := lim_size hq; omega
  have HW : Hid (Below w.heap.size w (w.alloc (.cells #[.string (strN (txtI p)), .string (strN (txtI q))] 26))) := bnew (Below.refl _ _) _
  clear hp hq
  by_cases hq : q = 1
  · have tz : ((strN (txtI q)).toList == [49]) = true := by rw [strN_toList, hq]; exact beq_iff_eq.2 txtI_one
    have HT : Hid (strN (txtF p q) = strN (txtI p)) := by show _ = _; unfold txtF; rw [if_pos hq]
    clear hq
    go_enter Tryz.func65, Tryz.ntmps65
    go_wp2_with fail
    go_ret
    exact ⟨by rw [HT.out]; rfl, HW.out⟩
  · have tz : ((strN (txtI q)).toList == [49]) = false := by
      rw [strN_toList, Bool.eq_false_iff]
      exact fun e => hq (txtI_inj ((eq_of_beq e).trans txtI_one.symm))
    have HT : Hid (strN (txtF p q) = strN (txtI p) ++ ⟨#[47]⟩ ++ strN (txtI q)) := by
      show _ = _
      unfold txtF
      rw [if_neg hq]
      apply ByteArray.ext
      simp [strN, ByteArray.data_append]
    clear hq
    go_enter Tryz.func65, Tryz.ntmps65
    go_wp2_with fail
    go_ret
    exact ⟨by rw [HT.out]; rfl, HW.out⟩

set_option maxRecDepth 100000 in
set_option maxHeartbeats 4000000 in
theorem rftext_ok {p q : Int} (h : Good p q) (w : World) : Calls Tryz.prog 32 #[.agg #[.string (strN (txtI p)), .string (strN (txtI q))]] w fun e w' => e = .returned (.tuple #[.string (strN (txtF p q)), .int .i64 0]) ∧ Below w.heap.size w w' := by
  have H1 : Hid (∀ w', Calls Tryz.prog 33 #[.agg #[.string (strN (txtI p)), .string (strN (txtI q))]] w' fun e w2 => e = .returned (.int .i64 0) ∧ Below w'.heap.size w' w2) := fun w' => by rw [← h.chkL]; exact rfcheck_any _ _ (lim_size h.num) (lim_size h.den)
  have H2 : Hid (∀ w', Calls Tryz.prog 65 #[.agg #[.string (strN (txtI p)), .string (strN (txtI q))]] w' fun e w2 => e = .returned (.string (strN (txtF p q))) ∧ Below w'.heap.size w' w2) := fun w' => rwritten_any h.num h.den w'
  generalize strN (txtF p q) = n at *
  generalize strN (txtI p) = s at *
  generalize strN (txtI q) = t at *
  have HW : Hid (Below w.heap.size w (w.alloc (.cells #[.string s, .string t] 26))) := bnew (Below.refl _ _) _
  have HA := hide (Box.new w [.string s, .string t] 26)
  clear h
  go_enter Tryz.func32, Tryz.ntmps32
  go_wp2_with (first
    | (go_at_call 33; (with_reducible refine (H1.out _).mono ?_); rintro ec w5 ⟨rfl, hb5⟩; have HB5 := hide (below_then HW.out hb5); obtain ⟨d0, d1, f0, f1⟩ := (HA.out.below hb5).two; clear hb5)
    | (go_at_call 65; (with_reducible refine (H2.out _).mono ?_); rintro ec w6 ⟨rfl, hb6⟩; have HB6 := hide (below_then HB5.out hb6); clear hb6))
  go_ret2
  exact ⟨rfl, HB6.out⟩

set_option maxRecDepth 100000 in
set_option maxHeartbeats 4000000 in
theorem rffew_any (l m : List UInt8) (hs : l.length ≤ 140737488355328) (ht : m.length ≤ 140737488355328) (w : World) : Calls Tryz.prog 26 #[.agg #[.string (strN l), .string (strN m)]] w fun e w' => e = .returned (.bool (fewT l && fewT m)) ∧ Below w.heap.size w w' := by
  have H1 : Hid (∀ w', Calls Tryz.prog 10 #[.string (strN l)] w' fun e w2 => e = .returned (.bool (fewT l)) ∧ Below w'.heap.size w' w2) := fun w' => rfew_any l hs w'
  have H2 : Hid (∀ w', Calls Tryz.prog 10 #[.string (strN m)] w' fun e w2 => e = .returned (.bool (fewT m)) ∧ Below w'.heap.size w' w2) := fun w' => rfew_any m ht w'
  generalize strN l = s at *
  generalize strN m = t at *
  generalize fewT l = x at *
  generalize fewT m = y at *
  have HW : Hid (Below w.heap.size w (w.alloc (.cells #[.string s, .string t] 26))) := bnew (Below.refl _ _) _
  have HA := hide (Box.new w [.string s, .string t] 26)
  clear hs ht
  cases x
  · go_enter Tryz.func26, Tryz.ntmps26
    go_wp2_with (go_at_call 10; (with_reducible refine (H1.out _).mono ?_); rintro ec w5 ⟨rfl, hb5⟩; have HB5 := hide (below_then HW.out hb5); clear hb5)
    go_ret
    exact ⟨rfl, HB5.out⟩
  · go_enter Tryz.func26, Tryz.ntmps26
    go_wp2_with (first
      | (go_at_call 10; have _t := HA; (with_reducible refine (H1.out _).mono ?_); rintro ec w5 ⟨rfl, hb5⟩; have HB5 := hide (below_then HW.out hb5); obtain ⟨d0, d1, f0, f1⟩ := (HA.out.below hb5).two; clear HA hb5 _t)
      | (go_at_call 10; (with_reducible refine (H2.out _).mono ?_); rintro ec w6 ⟨rfl, hb6⟩; have HB6 := hide (below_then HB5.out hb6); clear hb6))
    go_ret
    exact ⟨rfl, HB6.out⟩
end Go.Proofs.YthpknfoahimopaaGreatDoor

set_option linter.unusedVariables false
set_option linter.unusedSimpArgs false
set_option linter.unnecessarySimpa false
namespace Go.Proofs.YthpknfoahimopaaGreatDoor
open Go.RowKit

theorem combK_long (n m o d : Int) : combK n m o d = (!longB [txtI n, txtI m, txtI d] && !longB [txtI o]) := by
  unfold combK doE longB
  simp only [List.any_cons, List.any_nil, longB_txt]
  generalize decide (Lim n) = a
  generalize decide (Lim m) = b
  generalize decide (Lim d) = c
  generalize decide (Lim o) = e
  cases a <;> cases b <;> cases c <;> cases e <;> rfl
theorem doE_long (n m : Int) : doE (doE true n) m = !longB [txtI n, txtI m] := by
  unfold doE longB
  simp only [List.any_cons, List.any_nil, longB_txt]
  generalize decide (Lim n) = a
  generalize decide (Lim m) = b
  cases a <;> cases b <;> rfl
theorem gcells {w : World} {g : Nat} {a b c : Value} {t : TypeId} (h : Box w g [a, b, c] t) : w.cell? ⟨g, 0, none⟩ = some a ∧ w.cell? ⟨g, 1, none⟩ = some b := ⟨h.cell 0, h.cell 1⟩
theorem Sm.txt {z : Int} (h : Sm z) : (txtI z).length ≤ 140737488355328 := size_sm h

set_option maxRecDepth 100000 in
set_option maxHeartbeats 4000000 in
theorem rfadd_bad (s t u v : List UInt8) (hs : s.length ≤ 140737488355328) (ht : t.length ≤ 140737488355328) (hu : u.length ≤ 140737488355328) (hv : v.length ≤ 140737488355328) {e : Int} (he0 : e ≠ 0) (he : errOr (chkF s t) (chkF u v) = e) (w : World) : Calls Tryz.prog 34 #[.agg #[.string (strN s), .string (strN t)], .agg #[.string (strN u), .string (strN v)]] w fun r w' => r = .returned (frT ⟨#[]⟩ ⟨#[]⟩ e) ∧ Below w.heap.size w w' := by
  have HBO : Hid (∀ w', Calls Tryz.prog 67 #[.agg #[.string (strN s), .string (strN t)], .agg #[.string (strN u), .string (strN v)]] w' fun r w2 => r = .returned (.int .i64 e) ∧ Below w'.heap.size w' w2) := fun w' => rpair_any s t u v hs ht hu hv rfl rfl he w'
  generalize strN s = sp at *
  generalize strN t = sq at *
  generalize strN u = sr at *
  generalize strN v = ss at *
  have HW := hide (W3.low w sp sq sr ss)
  have HX := hide (W3.c w sp sq sr ss)
  have tq : (e != 0) = true := by simpa using he0
  unfold frT
  clear hs ht hu hv he0 he
  go_enter Tryz.func34, Tryz.ntmps34
  go_wp2_with (go_at_call 67; (with_reducible refine (HBO.out _).mono ?_); rintro ec w5 ⟨rfl, hb5⟩; have HB5 := hide (below_then HW.out hb5); have HX5 := hide (HX.out.below hb5); obtain ⟨d0, d1, f0, f1⟩ := HX5.out.two; clear hb5)
  obtain ⟨j0, j1⟩ := HX5.out.full (a := .string ⟨#[]⟩) (b := .string ⟨#[]⟩)
  refine bodyPost_ret (v := .tuple #[.agg #[.string ⟨#[]⟩, .string ⟨#[]⟩], .int .i64 e]) (by simp [results, Tryz.results34, go_sem, j0, j1]) rfl ⟨rfl, ?_⟩
  exact ((HB5.out.setCell (by show w.heap.size ≤ w.heap.size + 1 + 1; omega) _).setCell (by show w.heap.size ≤ w.heap.size + 1 + 1; omega) _)
set_option maxRecDepth 100000 in
set_option maxHeartbeats 4000000 in
theorem rfadd_ok {p q r s : Int} (h1 : Good p q) (h2 : Good r s) (w : World) : Calls Tryz.prog 34 #[.agg #[.string (strN (txtI p)), .string (strN (txtI q))], .agg #[.string (strN (txtI r)), .string (strN (txtI s))]] w fun e w' => e = .returned (opV (combK (p * s) (r * q) (p * s + r * q) (q * s)) (lowF (p * s + r * q) (q * s))) ∧ Below w.heap.size w w' := by
  have hm0 : q * s ≠ 0 := by have h5 := Int.mul_pos h1.low.1 h2.low.1; omega
  have HPA : Hid (∀ w', Calls Tryz.prog 67 #[.agg #[.string (strN (txtI p)), .string (strN (txtI q))], .agg #[.string (strN (txtI r)), .string (strN (txtI s))]] w' fun r w2 => r = .returned (.int .i64 0) ∧ Below w'.heap.size w' w2) := fun w' => rpair_any _ _ _ _ (lim_size h1.num) (lim_size h1.den) (lim_size h2.num) (lim_size h2.den) h1.chkL h2.chkL rfl w'
  have HCR : Hid (∀ w', Calls Tryz.prog 68 #[.agg #[.string (strN (txtI p)), .string (strN (txtI q))], .agg #[.string (strN (txtI r)), .string (strN (txtI s))]] w' fun e w2 => ∃ g, e = .returned (.slice (some ⟨g, 0, none⟩) 3 3) ∧ Box w2 g [.string (strN (txtI (p * s))), .string (strN (txtI (r * q))), .string (strN (txtI (q * s)))] 22 ∧ Below w'.heap.size w' w2) := fun w' => rcrossed_any h1.num h1.den h2.num h2.den w'
  have HL3 : Hid (∀ (w' : World) (g : Nat), Box w' g [.string (strN (txtI (p * s))), .string (strN (txtI (r * q))), .string (strN (txtI (q * s)))] 22 → Calls Tryz.prog 69 #[.slice (some ⟨g, 0, none⟩) 3 3] w' fun e w2 => e = .returned (.bool (longB [txtI (p * s), txtI (r * q), txtI (q * s)])) ∧ Below w'.heap.size w' w2) := fun w' g hb => rlong_any [txtI (p * s), txtI (r * q), txtI (q * s)] _ 3 All w' (Box.strs (xs := [txtI (p * s), txtI (r * q), txtI (q * s)]) hb (by
    intro x hx
    simp at hx
    rcases hx with rfl | rfl | rfl
    · exact (h1.num.mul h2.den).txt
    · exact (h2.num.mul h1.den).txt
    · exact (h1.den.mul h2.den).txt)) (by simp)
  have HL1 : Hid (∀ (w' : World), Calls Tryz.prog 69 #[.slice (some ⟨w'.heap.size, 0, none⟩) 1 1] (w'.alloc (.cells #[.string (strN (txtI (p * s + r * q)))] 22)) fun e w2 => e = .returned (.bool (longB [txtI (p * s + r * q)])) ∧ Below (w'.alloc (.cells #[.string (strN (txtI (p * s + r * q)))] 22)).heap.size (w'.alloc (.cells #[.string (strN (txtI (p * s + r * q)))] 22)) w2) := fun w' => rlong_any [txtI (p * s + r * q)] _ 1 All _ (Box.strs (xs := [txtI (p * s + r * q)]) (Box.new w' [.string (strN (txtI (p * s + r * q)))] 22) (by
    intro x hx
    simp at hx
    subst hx
    exact (h1.num.mulAdd h2.den h2.num h1.den).txt)) (by simp)
  have HOP : Hid (∀ w', Calls Tryz.prog 70 #[.string (strN (txtI (p * s))), .string (strN (txtI (r * q)))] w' fun e w2 => e = .returned (.string (strN (txtI (p * s + r * q)))) ∧ Below w'.heap.size w' w2) := fun w' => rplus_any (h1.num.mul h2.den) (h2.num.mul h1.den) w'
  have HRE : Hid (∀ w', Calls Tryz.prog 71 #[.agg #[.string (strN (txtI p)), .string (strN (txtI q))], .agg #[.string (strN (txtI r)), .string (strN (txtI s))]] w' fun e w2 => e = .returned (.agg #[.string (strN (txtI (lowF (p * s + r * q) (q * s)).1)), .string (strN (txtI (lowF (p * s + r * q) (q * s)).2))]) ∧ Below w'.heap.size w' w2) := fun w' => rfplus_any h1.num h1.den h2.num h2.den hm0 w'
  rw [combK_long]
  unfold opV frT
  obtain ⟨k1, hk1⟩ : ∃ k, k = longB [txtI (p * s), txtI (r * q), txtI (q * s)] := ⟨_, rfl⟩
  obtain ⟨k2, hk2⟩ : ∃ k, k = longB [txtI (p * s + r * q)] := ⟨_, rfl⟩
  rw [← hk1] at HL3 ⊢
  rw [← hk2] at HL1 ⊢
  obtain ⟨sa, hsa⟩ : ∃ v, v = strN (txtI (lowF (p * s + r * q) (q * s)).1) := ⟨_, rfl⟩
  obtain ⟨sb, hsb⟩ : ∃ v, v = strN (txtI (lowF (p * s + r * q) (q * s)).2) := ⟨_, rfl⟩
  rw [← hsa, ← hsb] at HRE ⊢
  obtain ⟨sp, hsp⟩ : ∃ v, v = strN (txtI p) := ⟨_, rfl⟩
  obtain ⟨sq, hsq⟩ : ∃ v, v = strN (txtI q) := ⟨_, rfl⟩
  obtain ⟨sr, hsr⟩ : ∃ v, v = strN (txtI r) := ⟨_, rfl⟩
  obtain ⟨ss, hss⟩ : ∃ v, v = strN (txtI s) := ⟨_, rfl⟩
  rw [← hsp, ← hsq, ← hsr, ← hss] at HPA HCR HRE ⊢
  generalize strN (txtI (p * s)) = m0 at *
  generalize strN (txtI (r * q)) = m1 at *
  generalize strN (txtI (q * s)) = m2 at *
  generalize strN (txtI (p * s + r * q)) = m3 at *
  have HB := hide (W3.low w sp sq sr ss)
  have HA := hide (W3.a w sp sq sr ss)
  have HY := hide (W3.b w sp sq sr ss)
  have HX := hide (W3.c w sp sq sr ss)
  clear h1 h2 hm0 hk1 hk2 hsa hsb hsp hsq hsr hss
  go_enter Tryz.func34, Tryz.ntmps34
  go_upto_region 5 with (first
    | (go_at_call 67; (with_reducible refine (HPA.out _).mono ?_); rintro ec w5 ⟨rfl, hb5⟩; have HB := hide (below_then HB.out hb5); have HA := hide (HA.out.below hb5); have HY := hide (HY.out.below hb5); have HX := hide (HX.out.below hb5); obtain ⟨d0, d1, d2, d3⟩ := fcells4 HA.out HY.out; clear hb5)
    | (go_at_call 68; (with_reducible refine (HCR.out _).mono ?_); rintro ec w6 ⟨g, rfl, hg, hb6⟩; have HB := hide (below_then HB.out hb6).drew; have HA := hide (HA.out.below hb6).draw; have HY := hide (HY.out.below hb6).draw; have HX := hide (HX.out.below hb6).draw; have HG := hide hg.draw; clear hg hb6))
  have HC : Hid (_ ∧ _) := gcells HG.out
  cases k1
  · (first | (go_region_held3 (fun w' => w'.cell? ⟨g, 0, none⟩ = some (.string m0) ∧ w'.cell? ⟨g, 1, none⟩ = some (.string m1)) (first | with_reducible exact HC.out | with_reducible exact HQ.out) (first
      | (go_at_call 69; (with_reducible refine (HL3.out _ _ HG.out).mono ?_); rintro ec wz ⟨rfl, hbz⟩; have HB := hide (below_then HB.out hbz); have HA := hide (HA.out.below hbz); have HY := hide (HY.out.below hbz); have HX := hide (HX.out.below hbz); have HG := hide (HG.out.below hbz); have HC : Hid (_ ∧ _) := gcells HG.out; clear hbz)
      | (go_at_call 70; (with_reducible refine (HOP.out _).mono ?_); rintro ec wz ⟨rfl, hbz⟩; have HB := hide (below_then HB.out hbz); have HA := hide (HA.out.below hbz); have HY := hide (HY.out.below hbz); have HX := hide (HX.out.below hbz); have HG := hide (HG.out.below hbz); have HC : Hid (_ ∧ _) := gcells HG.out; have HQ : Hid (_ ∧ _) := gcells (HG.out.next (.cells #[.string m3] 22)); clear hbz)
      | (go_at_call 69; (with_reducible refine (HL1.out _).mono ?_); rintro ec wy ⟨rfl, hbz⟩; have HB := hide (below_then (bnew HB.out _) hbz); have HA := hide ((HA.out.next _).below hbz); have HY := hide ((HY.out.next _).below hbz); have HX := hide ((HX.out.next _).below hbz); have HG := hide ((HG.out.next _).below hbz); have HC : Hid (_ ∧ _) := gcells HG.out; obtain ⟨d0, d1, d2, d3⟩ := fcells4 HA.out HY.out; obtain ⟨k0, k1, l0, l1⟩ := HX.out.two; clear hbz))) | fail)
    cases k2
    · go_wp2_with (go_at_call 71; (with_reducible refine (HRE.out _).mono ?_); rintro ec wz ⟨rfl, hbz⟩; have HB := hide (below_then HB.out hbz); have HX := hide (HX.out.below hbz); obtain ⟨k0, k1, l0, l1⟩ := HX.out.two; clear hbz)
      obtain ⟨j0, j1⟩ := HX.out.full (a := .string sa) (b := .string sb)
      refine bodyPost_ret (v := .tuple #[.agg #[.string sa, .string sb], .int .i64 0]) (by simp [results, Tryz.results34, go_sem, j0, j1]) rfl ⟨rfl, ?_⟩
      exact ((HB.out.setCell (by show w.heap.size ≤ w.heap.size + 1 + 1; omega) _).setCell (by show w.heap.size ≤ w.heap.size + 1 + 1; omega) _)
    · go_wp2_with fail
      obtain ⟨j0, j1⟩ := HX.out.full (a := .string ⟨#[]⟩) (b := .string ⟨#[]⟩)
      refine bodyPost_ret (v := .tuple #[.agg #[.string ⟨#[]⟩, .string ⟨#[]⟩], .int .i64 11]) (by simp [results, Tryz.results34, go_sem, j0, j1]) rfl ⟨rfl, ?_⟩
      exact ((HB.out.setCell (by show w.heap.size ≤ w.heap.size + 1 + 1; omega) _).setCell (by show w.heap.size ≤ w.heap.size + 1 + 1; omega) _)
  · skip
    refine wp_region_held_drew (S := fun w' => w'.cell? ⟨g, 0, none⟩ = some (.string m0) ∧ w'.cell? ⟨g, 1, none⟩ = some (.string m1)) (by kernel_rfl) ⟨HC.out.1, HC.out.2⟩ (fun hHeld => ?_)
    refine wpAnyH_take (i := 0) (oi := ?aoi0) (v := ?av0) ?ahi0 (by kernel_rfl) (by kernel_rfl) (by kernel_rfl) ?ahq0 ?ahy0 (by assumption) ?arest0
    case ahi0 => simp only [List.getElem?_toArray, List.getElem?_cons_zero, List.getElem?_cons_succ]; rfl
    case ahq0 => exact fun _ _ _ h => h
    case ahy0 => refine Or.inl ⟨by rfl, ?_⟩; intro w hSw; (try dsimp only at hSw); go_simp; (try with_reducible rfl)
    try simp only [Act.put, List.setIfInBounds_toArray, List.set_cons_zero, List.set_cons_succ]
    refine wpAnyH_ready (rs := [1]) (by kernel_rfl) (by simp) ?_
    refine AllReadyH.cons (o := ?aoi1) ?ahi1 ?arest1 AllReadyH.nil
    case ahi1 => simp only [List.getElem?_toArray, List.getElem?_cons_zero, List.getElem?_cons_succ]; rfl
    intro K hK
    go_simp
    go_at_call 69; with_reducible refine (HL3.out _ _ HG.out).mono ?_
    rintro ec wz ⟨rfl, hbz⟩
    have HB := hide (below_then HB.out hbz)
    have HX := hide (HX.out.below hbz)
    have HG := hide (HG.out.below hbz)
    have HC : Hid (_ ∧ _) := gcells HG.out
    obtain ⟨k0, k1, l0, l1⟩ := HX.out.two
    try dsimp only
    refine hK.out _ _ ⟨HC.out.1, HC.out.2⟩ (fun hHeld => ?_)
    clear hK K
    try simp only [Act.put, List.setIfInBounds_toArray, List.set_cons_zero, List.set_cons_succ]
    refine wpAnyH_take (i := 2) (oi := ?aoi2) (v := ?av2) ?ahi2 (by kernel_rfl) (by kernel_rfl) (by kernel_rfl) ?ahq2 ?ahy2 (by assumption) ?arest2
    case ahi2 => simp only [List.getElem?_toArray, List.getElem?_cons_zero, List.getElem?_cons_succ]; rfl
    case ahq2 => exact fun _ _ _ h => h
    case ahy2 => refine Or.inl ⟨by rfl, ?_⟩; intro w hSw; (try dsimp only at hSw); go_simp; (try with_reducible rfl)
    try simp only [Act.put, List.setIfInBounds_toArray, List.set_cons_zero, List.set_cons_succ]
    refine wpAnyH_take (i := 3) (oi := ?aoi3) (v := undef) ?ahi3 (by kernel_rfl) (by kernel_rfl) (by kernel_rfl) ?ahq3 ?ahy3 (by assumption) ?arest3
    case ahi3 => simp only [List.getElem?_toArray, List.getElem?_cons_zero, List.getElem?_cons_succ]; rfl
    case ahq3 => exact fun _ _ _ h => h
    case ahy3 => exact Or.inr ⟨by rfl, rfl⟩
    try simp only [Act.put, List.setIfInBounds_toArray, List.set_cons_zero, List.set_cons_succ]
    refine wpAnyH_take (i := 4) (oi := ?aoi4) (v := undef) ?ahi4 (by kernel_rfl) (by kernel_rfl) (by kernel_rfl) ?ahq4 ?ahy4 (by assumption) ?arest4
    case ahi4 => simp only [List.getElem?_toArray, List.getElem?_cons_zero, List.getElem?_cons_succ]; rfl
    case ahq4 => exact fun _ _ _ h => h
    case ahy4 => exact Or.inr ⟨by rfl, rfl⟩
    try simp only [Act.put, List.setIfInBounds_toArray, List.set_cons_zero, List.set_cons_succ]
    refine wpAnyH_take (i := 5) (oi := ?aoi5) (v := undef) ?ahi5 (by kernel_rfl) (by kernel_rfl) (by kernel_rfl) ?ahq5 ?ahy5 (by assumption) ?arest5
    case ahi5 => simp only [List.getElem?_toArray, List.getElem?_cons_zero, List.getElem?_cons_succ]; rfl
    case ahq5 => exact fun _ _ _ h => h
    case ahy5 => exact Or.inr ⟨by rfl, rfl⟩
    try simp only [Act.put, List.setIfInBounds_toArray, List.set_cons_zero, List.set_cons_succ]
    refine wpAnyH_take (i := 6) (oi := ?aoi6) (v := undef) ?ahi6 (by kernel_rfl) (by kernel_rfl) (by kernel_rfl) ?ahq6 ?ahy6 (by assumption) ?arest6
    case ahi6 => simp only [List.getElem?_toArray, List.getElem?_cons_zero, List.getElem?_cons_succ]; rfl
    case ahq6 => exact fun _ _ _ h => h
    case ahy6 => exact Or.inr ⟨by rfl, rfl⟩
    try simp only [Act.put, List.setIfInBounds_toArray, List.set_cons_zero, List.set_cons_succ]
    refine wpAnyH_take (i := 7) (oi := ?aoi7) (v := undef) ?ahi7 (by kernel_rfl) (by kernel_rfl) (by kernel_rfl) ?ahq7 ?ahy7 (by assumption) ?arest7
    case ahi7 => simp only [List.getElem?_toArray, List.getElem?_cons_zero, List.getElem?_cons_succ]; rfl
    case ahq7 => exact fun _ _ _ h => h
    case ahy7 => exact Or.inr ⟨by rfl, rfl⟩
    try simp only [Act.put, List.setIfInBounds_toArray, List.set_cons_zero, List.set_cons_succ]
    refine wpAnyH_take (i := 8) (oi := ?aoi8) (v := undef) ?ahi8 (by kernel_rfl) (by kernel_rfl) (by kernel_rfl) ?ahq8 ?ahy8 (by assumption) ?arest8
    case ahi8 => simp only [List.getElem?_toArray, List.getElem?_cons_zero, List.getElem?_cons_succ]; rfl
    case ahq8 => exact fun _ _ _ h => h
    case ahy8 => exact Or.inr ⟨by rfl, rfl⟩
    try simp only [Act.put, List.setIfInBounds_toArray, List.set_cons_zero, List.set_cons_succ]
    refine wpAnyH_take (i := 9) (oi := ?aoi9) (v := undef) ?ahi9 (by kernel_rfl) (by kernel_rfl) (by kernel_rfl) ?ahq9 ?ahy9 (by assumption) ?arest9
    case ahi9 => simp only [List.getElem?_toArray, List.getElem?_cons_zero, List.getElem?_cons_succ]; rfl
    case ahq9 => exact fun _ _ _ h => h
    case ahy9 => exact Or.inr ⟨by rfl, rfl⟩
    try simp only [Act.put, List.setIfInBounds_toArray, List.set_cons_zero, List.set_cons_succ]
    refine wpAnyH_take (i := 10) (oi := ?aoi10) (v := undef) ?ahi10 (by kernel_rfl) (by kernel_rfl) (by kernel_rfl) ?ahq10 ?ahy10 (by assumption) ?arest10
    case ahi10 => simp only [List.getElem?_toArray, List.getElem?_cons_zero, List.getElem?_cons_succ]; rfl
    case ahq10 => exact fun _ _ _ h => h
    case ahy10 => exact Or.inr ⟨by rfl, rfl⟩
    try simp only [Act.put, List.setIfInBounds_toArray, List.set_cons_zero, List.set_cons_succ]
    refine wpAnyH_take (i := 11) (oi := ?aoi11) (v := undef) ?ahi11 (by kernel_rfl) (by kernel_rfl) (by kernel_rfl) ?ahq11 ?ahy11 (by assumption) ?arest11
    case ahi11 => simp only [List.getElem?_toArray, List.getElem?_cons_zero, List.getElem?_cons_succ]; rfl
    case ahq11 => exact fun _ _ _ h => h
    case ahy11 => exact Or.inr ⟨by rfl, rfl⟩
    try simp only [Act.put, List.setIfInBounds_toArray, List.set_cons_zero, List.set_cons_succ]
    refine wpAnyH_take (i := 12) (oi := ?aoi12) (v := ?av12) ?ahi12 (by kernel_rfl) (by kernel_rfl) (by kernel_rfl) ?ahq12 ?ahy12 (by assumption) ?arest12
    case ahi12 => simp only [List.getElem?_toArray, List.getElem?_cons_zero, List.getElem?_cons_succ]; rfl
    case ahq12 => exact fun _ _ _ h => h
    case ahy12 => refine Or.inl ⟨by rfl, ?_⟩; intro w hSw; (try dsimp only at hSw); go_simp; (try with_reducible rfl)
    try simp only [Act.put, List.setIfInBounds_toArray, List.set_cons_zero, List.set_cons_succ]
    refine wpAnyH_done (by kernel_rfl) ?_ _
    all_goals go_wp2_with fail
    all_goals obtain ⟨j0, j1⟩ := HX.out.full (a := .string ⟨#[]⟩) (b := .string ⟨#[]⟩)
    all_goals refine bodyPost_ret (v := .tuple #[.agg #[.string ⟨#[]⟩, .string ⟨#[]⟩], .int .i64 11]) (by simp [results, Tryz.results34, go_sem, j0, j1]) rfl ⟨rfl, ?_⟩
    all_goals exact ((HB.out.setCell (by show w.heap.size ≤ w.heap.size + 1 + 1; omega) _).setCell (by show w.heap.size ≤ w.heap.size + 1 + 1; omega) _)

set_option maxRecDepth 100000 in
set_option maxHeartbeats 4000000 in
theorem rfsub_bad (s t u v : List UInt8) (hs : s.length ≤ 140737488355328) (ht : t.length ≤ 140737488355328) (hu : u.length ≤ 140737488355328) (hv : v.length ≤ 140737488355328) {e : Int} (he0 : e ≠ 0) (he : errOr (chkF s t) (chkF u v) = e) (w : World) : Calls Tryz.prog 36 #[.agg #[.string (strN s), .string (strN t)], .agg #[.string (strN u), .string (strN v)]] w fun r w' => r = .returned (frT ⟨#[]⟩ ⟨#[]⟩ e) ∧ Below w.heap.size w w' := by
  have HBO : Hid (∀ w', Calls Tryz.prog 67 #[.agg #[.string (strN s), .string (strN t)], .agg #[.string (strN u), .string (strN v)]] w' fun r w2 => r = .returned (.int .i64 e) ∧ Below w'.heap.size w' w2) := fun w' => rpair_any s t u v hs ht hu hv rfl rfl he w'
  generalize strN s = sp at *
  generalize strN t = sq at *
  generalize strN u = sr at *
  generalize strN v = ss at *
  have HW := hide (W3.low w sp sq sr ss)
  have HX := hide (W3.c w sp sq sr ss)
  have tq : (e != 0) = true := by simpa using he0
  unfold frT
  clear hs ht hu hv he0 he
  go_enter Tryz.func36, Tryz.ntmps36
  go_wp2_with (go_at_call 67; (with_reducible refine (HBO.out _).mono ?_); rintro ec w5 ⟨rfl, hb5⟩; have HB5 := hide (below_then HW.out hb5); have HX5 := hide (HX.out.below hb5); obtain ⟨d0, d1, f0, f1⟩ := HX5.out.two; clear hb5)
  obtain ⟨j0, j1⟩ := HX5.out.full (a := .string ⟨#[]⟩) (b := .string ⟨#[]⟩)
  refine bodyPost_ret (v := .tuple #[.agg #[.string ⟨#[]⟩, .string ⟨#[]⟩], .int .i64 e]) (by simp [results, Tryz.results36, go_sem, j0, j1]) rfl ⟨rfl, ?_⟩
  exact ((HB5.out.setCell (by show w.heap.size ≤ w.heap.size + 1 + 1; omega) _).setCell (by show w.heap.size ≤ w.heap.size + 1 + 1; omega) _)
set_option maxRecDepth 100000 in
set_option maxHeartbeats 4000000 in
theorem rfsub_ok {p q r s : Int} (h1 : Good p q) (h2 : Good r s) (w : World) : Calls Tryz.prog 36 #[.agg #[.string (strN (txtI p)), .string (strN (txtI q))], .agg #[.string (strN (txtI r)), .string (strN (txtI s))]] w fun e w' => e = .returned (opV (combK (p * s) (r * q) (p * s - r * q) (q * s)) (lowF (p * s - r * q) (q * s))) ∧ Below w.heap.size w w' := by
  have hm0 : q * s ≠ 0 := by have h5 := Int.mul_pos h1.low.1 h2.low.1; omega
  have HPA : Hid (∀ w', Calls Tryz.prog 67 #[.agg #[.string (strN (txtI p)), .string (strN (txtI q))], .agg #[.string (strN (txtI r)), .string (strN (txtI s))]] w' fun r w2 => r = .returned (.int .i64 0) ∧ Below w'.heap.size w' w2) := fun w' => rpair_any _ _ _ _ (lim_size h1.num) (lim_size h1.den) (lim_size h2.num) (lim_size h2.den) h1.chkL h2.chkL rfl w'
  have HCR : Hid (∀ w', Calls Tryz.prog 68 #[.agg #[.string (strN (txtI p)), .string (strN (txtI q))], .agg #[.string (strN (txtI r)), .string (strN (txtI s))]] w' fun e w2 => ∃ g, e = .returned (.slice (some ⟨g, 0, none⟩) 3 3) ∧ Box w2 g [.string (strN (txtI (p * s))), .string (strN (txtI (r * q))), .string (strN (txtI (q * s)))] 22 ∧ Below w'.heap.size w' w2) := fun w' => rcrossed_any h1.num h1.den h2.num h2.den w'
  have HL3 : Hid (∀ (w' : World) (g : Nat), Box w' g [.string (strN (txtI (p * s))), .string (strN (txtI (r * q))), .string (strN (txtI (q * s)))] 22 → Calls Tryz.prog 69 #[.slice (some ⟨g, 0, none⟩) 3 3] w' fun e w2 => e = .returned (.bool (longB [txtI (p * s), txtI (r * q), txtI (q * s)])) ∧ Below w'.heap.size w' w2) := fun w' g hb => rlong_any [txtI (p * s), txtI (r * q), txtI (q * s)] _ 3 All w' (Box.strs (xs := [txtI (p * s), txtI (r * q), txtI (q * s)]) hb (by
    intro x hx
    simp at hx
    rcases hx with rfl | rfl | rfl
    · exact (h1.num.mul h2.den).txt
    · exact (h2.num.mul h1.den).txt
    · exact (h1.den.mul h2.den).txt)) (by simp)
  have HL1 : Hid (∀ (w' : World), Calls Tryz.prog 69 #[.slice (some ⟨w'.heap.size, 0, none⟩) 1 1] (w'.alloc (.cells #[.string (strN (txtI (p * s - r * q)))] 22)) fun e w2 => e = .returned (.bool (longB [txtI (p * s - r * q)])) ∧ Below (w'.alloc (.cells #[.string (strN (txtI (p * s - r * q)))] 22)).heap.size (w'.alloc (.cells #[.string (strN (txtI (p * s - r * q)))] 22)) w2) := fun w' => rlong_any [txtI (p * s - r * q)] _ 1 All _ (Box.strs (xs := [txtI (p * s - r * q)]) (Box.new w' [.string (strN (txtI (p * s - r * q)))] 22) (by
    intro x hx
    simp at hx
    subst hx
    exact (h1.num.mulSub h2.den h2.num h1.den).txt)) (by simp)
  have HOP : Hid (∀ w', Calls Tryz.prog 73 #[.string (strN (txtI (p * s))), .string (strN (txtI (r * q)))] w' fun e w2 => e = .returned (.string (strN (txtI (p * s - r * q)))) ∧ Below w'.heap.size w' w2) := fun w' => rless_any (h1.num.mul h2.den) (h2.num.mul h1.den) w'
  have HRE : Hid (∀ w', Calls Tryz.prog 74 #[.agg #[.string (strN (txtI p)), .string (strN (txtI q))], .agg #[.string (strN (txtI r)), .string (strN (txtI s))]] w' fun e w2 => e = .returned (.agg #[.string (strN (txtI (lowF (p * s - r * q) (q * s)).1)), .string (strN (txtI (lowF (p * s - r * q) (q * s)).2))]) ∧ Below w'.heap.size w' w2) := fun w' => rfless_any h1.num h1.den h2.num h2.den hm0 w'
  rw [combK_long]
  unfold opV frT
  obtain ⟨k1, hk1⟩ : ∃ k, k = longB [txtI (p * s), txtI (r * q), txtI (q * s)] := ⟨_, rfl⟩
  obtain ⟨k2, hk2⟩ : ∃ k, k = longB [txtI (p * s - r * q)] := ⟨_, rfl⟩
  rw [← hk1] at HL3 ⊢
  rw [← hk2] at HL1 ⊢
  obtain ⟨sa, hsa⟩ : ∃ v, v = strN (txtI (lowF (p * s - r * q) (q * s)).1) := ⟨_, rfl⟩
  obtain ⟨sb, hsb⟩ : ∃ v, v = strN (txtI (lowF (p * s - r * q) (q * s)).2) := ⟨_, rfl⟩
  rw [← hsa, ← hsb] at HRE ⊢
  obtain ⟨sp, hsp⟩ : ∃ v, v = strN (txtI p) := ⟨_, rfl⟩
  obtain ⟨sq, hsq⟩ : ∃ v, v = strN (txtI q) := ⟨_, rfl⟩
  obtain ⟨sr, hsr⟩ : ∃ v, v = strN (txtI r) := ⟨_, rfl⟩
  obtain ⟨ss, hss⟩ : ∃ v, v = strN (txtI s) := ⟨_, rfl⟩
  rw [← hsp, ← hsq, ← hsr, ← hss] at HPA HCR HRE ⊢
  generalize strN (txtI (p * s)) = m0 at *
  generalize strN (txtI (r * q)) = m1 at *
  generalize strN (txtI (q * s)) = m2 at *
  generalize strN (txtI (p * s - r * q)) = m3 at *
  have HB := hide (W3.low w sp sq sr ss)
  have HA := hide (W3.a w sp sq sr ss)
  have HY := hide (W3.b w sp sq sr ss)
  have HX := hide (W3.c w sp sq sr ss)
  clear h1 h2 hm0 hk1 hk2 hsa hsb hsp hsq hsr hss
  go_enter Tryz.func36, Tryz.ntmps36
  go_upto_region 5 with (first
    | (go_at_call 67; (with_reducible refine (HPA.out _).mono ?_); rintro ec w5 ⟨rfl, hb5⟩; have HB := hide (below_then HB.out hb5); have HA := hide (HA.out.below hb5); have HY := hide (HY.out.below hb5); have HX := hide (HX.out.below hb5); obtain ⟨d0, d1, d2, d3⟩ := fcells4 HA.out HY.out; clear hb5)
    | (go_at_call 68; (with_reducible refine (HCR.out _).mono ?_); rintro ec w6 ⟨g, rfl, hg, hb6⟩; have HB := hide (below_then HB.out hb6).drew; have HA := hide (HA.out.below hb6).draw; have HY := hide (HY.out.below hb6).draw; have HX := hide (HX.out.below hb6).draw; have HG := hide hg.draw; clear hg hb6))
  have HC : Hid (_ ∧ _) := gcells HG.out
  cases k1
  · (first | (go_region_held3 (fun w' => w'.cell? ⟨g, 0, none⟩ = some (.string m0) ∧ w'.cell? ⟨g, 1, none⟩ = some (.string m1)) (first | with_reducible exact HC.out | with_reducible exact HQ.out) (first
      | (go_at_call 69; (with_reducible refine (HL3.out _ _ HG.out).mono ?_); rintro ec wz ⟨rfl, hbz⟩; have HB := hide (below_then HB.out hbz); have HA := hide (HA.out.below hbz); have HY := hide (HY.out.below hbz); have HX := hide (HX.out.below hbz); have HG := hide (HG.out.below hbz); have HC : Hid (_ ∧ _) := gcells HG.out; clear hbz)
      | (go_at_call 73; (with_reducible refine (HOP.out _).mono ?_); rintro ec wz ⟨rfl, hbz⟩; have HB := hide (below_then HB.out hbz); have HA := hide (HA.out.below hbz); have HY := hide (HY.out.below hbz); have HX := hide (HX.out.below hbz); have HG := hide (HG.out.below hbz); have HC : Hid (_ ∧ _) := gcells HG.out; have HQ : Hid (_ ∧ _) := gcells (HG.out.next (.cells #[.string m3] 22)); clear hbz)
      | (go_at_call 69; (with_reducible refine (HL1.out _).mono ?_); rintro ec wy ⟨rfl, hbz⟩; have HB := hide (below_then (bnew HB.out _) hbz); have HA := hide ((HA.out.next _).below hbz); have HY := hide ((HY.out.next _).below hbz); have HX := hide ((HX.out.next _).below hbz); have HG := hide ((HG.out.next _).below hbz); have HC : Hid (_ ∧ _) := gcells HG.out; obtain ⟨d0, d1, d2, d3⟩ := fcells4 HA.out HY.out; obtain ⟨k0, k1, l0, l1⟩ := HX.out.two; clear hbz))) | fail)
    cases k2
    · go_wp2_with (go_at_call 74; (with_reducible refine (HRE.out _).mono ?_); rintro ec wz ⟨rfl, hbz⟩; have HB := hide (below_then HB.out hbz); have HX := hide (HX.out.below hbz); obtain ⟨k0, k1, l0, l1⟩ := HX.out.two; clear hbz)
      obtain ⟨j0, j1⟩ := HX.out.full (a := .string sa) (b := .string sb)
      refine bodyPost_ret (v := .tuple #[.agg #[.string sa, .string sb], .int .i64 0]) (by simp [results, Tryz.results36, go_sem, j0, j1]) rfl ⟨rfl, ?_⟩
      exact ((HB.out.setCell (by show w.heap.size ≤ w.heap.size + 1 + 1; omega) _).setCell (by show w.heap.size ≤ w.heap.size + 1 + 1; omega) _)
    · go_wp2_with fail
      obtain ⟨j0, j1⟩ := HX.out.full (a := .string ⟨#[]⟩) (b := .string ⟨#[]⟩)
      refine bodyPost_ret (v := .tuple #[.agg #[.string ⟨#[]⟩, .string ⟨#[]⟩], .int .i64 11]) (by simp [results, Tryz.results36, go_sem, j0, j1]) rfl ⟨rfl, ?_⟩
      exact ((HB.out.setCell (by show w.heap.size ≤ w.heap.size + 1 + 1; omega) _).setCell (by show w.heap.size ≤ w.heap.size + 1 + 1; omega) _)
  · skip
    refine wp_region_held_drew (S := fun w' => w'.cell? ⟨g, 0, none⟩ = some (.string m0) ∧ w'.cell? ⟨g, 1, none⟩ = some (.string m1)) (by kernel_rfl) ⟨HC.out.1, HC.out.2⟩ (fun hHeld => ?_)
    refine wpAnyH_take (i := 0) (oi := ?aoi0) (v := ?av0) ?ahi0 (by kernel_rfl) (by kernel_rfl) (by kernel_rfl) ?ahq0 ?ahy0 (by assumption) ?arest0
    case ahi0 => simp only [List.getElem?_toArray, List.getElem?_cons_zero, List.getElem?_cons_succ]; rfl
    case ahq0 => exact fun _ _ _ h => h
    case ahy0 => refine Or.inl ⟨by rfl, ?_⟩; intro w hSw; (try dsimp only at hSw); go_simp; (try with_reducible rfl)
    try simp only [Act.put, List.setIfInBounds_toArray, List.set_cons_zero, List.set_cons_succ]
    refine wpAnyH_ready (rs := [1]) (by kernel_rfl) (by simp) ?_
    refine AllReadyH.cons (o := ?aoi1) ?ahi1 ?arest1 AllReadyH.nil
    case ahi1 => simp only [List.getElem?_toArray, List.getElem?_cons_zero, List.getElem?_cons_succ]; rfl
    intro K hK
    go_simp
    go_at_call 69; with_reducible refine (HL3.out _ _ HG.out).mono ?_
    rintro ec wz ⟨rfl, hbz⟩
    have HB := hide (below_then HB.out hbz)
    have HX := hide (HX.out.below hbz)
    have HG := hide (HG.out.below hbz)
    have HC : Hid (_ ∧ _) := gcells HG.out
    obtain ⟨k0, k1, l0, l1⟩ := HX.out.two
    try dsimp only
    refine hK.out _ _ ⟨HC.out.1, HC.out.2⟩ (fun hHeld => ?_)
    clear hK K
    try simp only [Act.put, List.setIfInBounds_toArray, List.set_cons_zero, List.set_cons_succ]
    refine wpAnyH_take (i := 2) (oi := ?aoi2) (v := ?av2) ?ahi2 (by kernel_rfl) (by kernel_rfl) (by kernel_rfl) ?ahq2 ?ahy2 (by assumption) ?arest2
    case ahi2 => simp only [List.getElem?_toArray, List.getElem?_cons_zero, List.getElem?_cons_succ]; rfl
    case ahq2 => exact fun _ _ _ h => h
    case ahy2 => refine Or.inl ⟨by rfl, ?_⟩; intro w hSw; (try dsimp only at hSw); go_simp; (try with_reducible rfl)
    try simp only [Act.put, List.setIfInBounds_toArray, List.set_cons_zero, List.set_cons_succ]
    refine wpAnyH_take (i := 3) (oi := ?aoi3) (v := undef) ?ahi3 (by kernel_rfl) (by kernel_rfl) (by kernel_rfl) ?ahq3 ?ahy3 (by assumption) ?arest3
    case ahi3 => simp only [List.getElem?_toArray, List.getElem?_cons_zero, List.getElem?_cons_succ]; rfl
    case ahq3 => exact fun _ _ _ h => h
    case ahy3 => exact Or.inr ⟨by rfl, rfl⟩
    try simp only [Act.put, List.setIfInBounds_toArray, List.set_cons_zero, List.set_cons_succ]
    refine wpAnyH_take (i := 4) (oi := ?aoi4) (v := undef) ?ahi4 (by kernel_rfl) (by kernel_rfl) (by kernel_rfl) ?ahq4 ?ahy4 (by assumption) ?arest4
    case ahi4 => simp only [List.getElem?_toArray, List.getElem?_cons_zero, List.getElem?_cons_succ]; rfl
    case ahq4 => exact fun _ _ _ h => h
    case ahy4 => exact Or.inr ⟨by rfl, rfl⟩
    try simp only [Act.put, List.setIfInBounds_toArray, List.set_cons_zero, List.set_cons_succ]
    refine wpAnyH_take (i := 5) (oi := ?aoi5) (v := undef) ?ahi5 (by kernel_rfl) (by kernel_rfl) (by kernel_rfl) ?ahq5 ?ahy5 (by assumption) ?arest5
    case ahi5 => simp only [List.getElem?_toArray, List.getElem?_cons_zero, List.getElem?_cons_succ]; rfl
    case ahq5 => exact fun _ _ _ h => h
    case ahy5 => exact Or.inr ⟨by rfl, rfl⟩
    try simp only [Act.put, List.setIfInBounds_toArray, List.set_cons_zero, List.set_cons_succ]
    refine wpAnyH_take (i := 6) (oi := ?aoi6) (v := undef) ?ahi6 (by kernel_rfl) (by kernel_rfl) (by kernel_rfl) ?ahq6 ?ahy6 (by assumption) ?arest6
    case ahi6 => simp only [List.getElem?_toArray, List.getElem?_cons_zero, List.getElem?_cons_succ]; rfl
    case ahq6 => exact fun _ _ _ h => h
    case ahy6 => exact Or.inr ⟨by rfl, rfl⟩
    try simp only [Act.put, List.setIfInBounds_toArray, List.set_cons_zero, List.set_cons_succ]
    refine wpAnyH_take (i := 7) (oi := ?aoi7) (v := undef) ?ahi7 (by kernel_rfl) (by kernel_rfl) (by kernel_rfl) ?ahq7 ?ahy7 (by assumption) ?arest7
    case ahi7 => simp only [List.getElem?_toArray, List.getElem?_cons_zero, List.getElem?_cons_succ]; rfl
    case ahq7 => exact fun _ _ _ h => h
    case ahy7 => exact Or.inr ⟨by rfl, rfl⟩
    try simp only [Act.put, List.setIfInBounds_toArray, List.set_cons_zero, List.set_cons_succ]
    refine wpAnyH_take (i := 8) (oi := ?aoi8) (v := undef) ?ahi8 (by kernel_rfl) (by kernel_rfl) (by kernel_rfl) ?ahq8 ?ahy8 (by assumption) ?arest8
    case ahi8 => simp only [List.getElem?_toArray, List.getElem?_cons_zero, List.getElem?_cons_succ]; rfl
    case ahq8 => exact fun _ _ _ h => h
    case ahy8 => exact Or.inr ⟨by rfl, rfl⟩
    try simp only [Act.put, List.setIfInBounds_toArray, List.set_cons_zero, List.set_cons_succ]
    refine wpAnyH_take (i := 9) (oi := ?aoi9) (v := undef) ?ahi9 (by kernel_rfl) (by kernel_rfl) (by kernel_rfl) ?ahq9 ?ahy9 (by assumption) ?arest9
    case ahi9 => simp only [List.getElem?_toArray, List.getElem?_cons_zero, List.getElem?_cons_succ]; rfl
    case ahq9 => exact fun _ _ _ h => h
    case ahy9 => exact Or.inr ⟨by rfl, rfl⟩
    try simp only [Act.put, List.setIfInBounds_toArray, List.set_cons_zero, List.set_cons_succ]
    refine wpAnyH_take (i := 10) (oi := ?aoi10) (v := undef) ?ahi10 (by kernel_rfl) (by kernel_rfl) (by kernel_rfl) ?ahq10 ?ahy10 (by assumption) ?arest10
    case ahi10 => simp only [List.getElem?_toArray, List.getElem?_cons_zero, List.getElem?_cons_succ]; rfl
    case ahq10 => exact fun _ _ _ h => h
    case ahy10 => exact Or.inr ⟨by rfl, rfl⟩
    try simp only [Act.put, List.setIfInBounds_toArray, List.set_cons_zero, List.set_cons_succ]
    refine wpAnyH_take (i := 11) (oi := ?aoi11) (v := undef) ?ahi11 (by kernel_rfl) (by kernel_rfl) (by kernel_rfl) ?ahq11 ?ahy11 (by assumption) ?arest11
    case ahi11 => simp only [List.getElem?_toArray, List.getElem?_cons_zero, List.getElem?_cons_succ]; rfl
    case ahq11 => exact fun _ _ _ h => h
    case ahy11 => exact Or.inr ⟨by rfl, rfl⟩
    try simp only [Act.put, List.setIfInBounds_toArray, List.set_cons_zero, List.set_cons_succ]
    refine wpAnyH_take (i := 12) (oi := ?aoi12) (v := ?av12) ?ahi12 (by kernel_rfl) (by kernel_rfl) (by kernel_rfl) ?ahq12 ?ahy12 (by assumption) ?arest12
    case ahi12 => simp only [List.getElem?_toArray, List.getElem?_cons_zero, List.getElem?_cons_succ]; rfl
    case ahq12 => exact fun _ _ _ h => h
    case ahy12 => refine Or.inl ⟨by rfl, ?_⟩; intro w hSw; (try dsimp only at hSw); go_simp; (try with_reducible rfl)
    try simp only [Act.put, List.setIfInBounds_toArray, List.set_cons_zero, List.set_cons_succ]
    refine wpAnyH_done (by kernel_rfl) ?_ _
    all_goals go_wp2_with fail
    all_goals obtain ⟨j0, j1⟩ := HX.out.full (a := .string ⟨#[]⟩) (b := .string ⟨#[]⟩)
    all_goals refine bodyPost_ret (v := .tuple #[.agg #[.string ⟨#[]⟩, .string ⟨#[]⟩], .int .i64 11]) (by simp [results, Tryz.results36, go_sem, j0, j1]) rfl ⟨rfl, ?_⟩
    all_goals exact ((HB.out.setCell (by show w.heap.size ≤ w.heap.size + 1 + 1; omega) _).setCell (by show w.heap.size ≤ w.heap.size + 1 + 1; omega) _)

end Go.Proofs.YthpknfoahimopaaGreatDoor

set_option linter.unusedVariables false
set_option linter.unusedSimpArgs false
set_option linter.unnecessarySimpa false
namespace Go.Proofs.YthpknfoahimopaaGreatDoor
open Go.RowKit

set_option maxRecDepth 100000 in
set_option maxHeartbeats 4000000 in
theorem rfmul_bad (s t u v : List UInt8) (hs : s.length ≤ 140737488355328) (ht : t.length ≤ 140737488355328) (hu : u.length ≤ 140737488355328) (hv : v.length ≤ 140737488355328) {e : Int} (he0 : e ≠ 0) (he : errOr (chkF s t) (chkF u v) = e) (w : World) : Calls Tryz.prog 37 #[.agg #[.string (strN s), .string (strN t)], .agg #[.string (strN u), .string (strN v)]] w fun r w' => r = .returned (frT ⟨#[]⟩ ⟨#[]⟩ e) ∧ Below w.heap.size w w' := by
  have HBO : Hid (∀ w', Calls Tryz.prog 67 #[.agg #[.string (strN s), .string (strN t)], .agg #[.string (strN u), .string (strN v)]] w' fun r w2 => r = .returned (.int .i64 e) ∧ Below w'.heap.size w' w2) := fun w' => rpair_any s t u v hs ht hu hv rfl rfl he w'
  generalize strN s = sp at *
  generalize strN t = sq at *
  generalize strN u = sr at *
  generalize strN v = ss at *
  have HW := hide (W3.low w sp sq sr ss)
  have HX := hide (W3.c w sp sq sr ss)
  have tq : (e != 0) = true := by simpa using he0
  unfold frT
  clear hs ht hu hv he0 he
  go_enter Tryz.func37, Tryz.ntmps37
  go_wp2_with (go_at_call 67; (with_reducible refine (HBO.out _).mono ?_); rintro ec w5 ⟨rfl, hb5⟩; have HB5 := hide (below_then HW.out hb5); have HX5 := hide (HX.out.below hb5); obtain ⟨d0, d1, f0, f1⟩ := HX5.out.two; clear hb5)
  obtain ⟨j0, j1⟩ := HX5.out.full (a := .string ⟨#[]⟩) (b := .string ⟨#[]⟩)
  refine bodyPost_ret (v := .tuple #[.agg #[.string ⟨#[]⟩, .string ⟨#[]⟩], .int .i64 e]) (by simp [results, Tryz.results37, go_sem, j0, j1]) rfl ⟨rfl, ?_⟩
  exact ((HB5.out.setCell (by show w.heap.size ≤ w.heap.size + 1 + 1; omega) _).setCell (by show w.heap.size ≤ w.heap.size + 1 + 1; omega) _)
set_option maxRecDepth 100000 in
set_option maxHeartbeats 4000000 in
theorem rfmul_ok {p q r s : Int} (h1 : Good p q) (h2 : Good r s) (w : World) : Calls Tryz.prog 37 #[.agg #[.string (strN (txtI p)), .string (strN (txtI q))], .agg #[.string (strN (txtI r)), .string (strN (txtI s))]] w fun e w' => e = .returned (opV (doE (doE true (p * r)) (q * s)) (lowF (p * r) (q * s))) ∧ Below w.heap.size w w' := by
  have hm0 : q * s ≠ 0 := by have h5 := Int.mul_pos h1.low.1 h2.low.1; omega
  have HPA : Hid (∀ w', Calls Tryz.prog 67 #[.agg #[.string (strN (txtI p)), .string (strN (txtI q))], .agg #[.string (strN (txtI r)), .string (strN (txtI s))]] w' fun r w2 => r = .returned (.int .i64 0) ∧ Below w'.heap.size w' w2) := fun w' => rpair_any _ _ _ _ (lim_size h1.num) (lim_size h1.den) (lim_size h2.num) (lim_size h2.den) h1.chkL h2.chkL rfl w'
  have HL1 : Hid (∀ (w' : World), Calls Tryz.prog 69 #[.slice (some ⟨w'.heap.size, 0, none⟩) 2 2] (w'.alloc (.cells #[.string (strN (txtI (p * r))), .string (strN (txtI (q * s)))] 22)) fun e w2 => e = .returned (.bool (longB [txtI (p * r), txtI (q * s)])) ∧ Below (w'.alloc (.cells #[.string (strN (txtI (p * r))), .string (strN (txtI (q * s)))] 22)).heap.size (w'.alloc (.cells #[.string (strN (txtI (p * r))), .string (strN (txtI (q * s)))] 22)) w2) := fun w' => rlong_any [txtI (p * r), txtI (q * s)] _ 2 All _ (Box.strs (xs := [txtI (p * r), txtI (q * s)]) (Box.new w' [.string (strN (txtI (p * r))), .string (strN (txtI (q * s)))] 22) (by
    intro x hx
    simp at hx
    rcases hx with rfl | rfl
    · exact (h1.num.mul h2.num).txt
    · exact (h1.den.mul h2.den).txt)) (by simp)
  have H1 : Hid (∀ w', Calls Tryz.prog 75 #[.string (strN (txtI p)), .string (strN (txtI r))] w' fun e w2 => e = .returned (.string (strN (txtI (p * r)))) ∧ Below w'.heap.size w' w2) := fun w' => rtimes_any h1.num.sm h2.num.sm w'
  have H2 : Hid (∀ w', Calls Tryz.prog 75 #[.string (strN (txtI q)), .string (strN (txtI s))] w' fun e w2 => e = .returned (.string (strN (txtI (q * s)))) ∧ Below w'.heap.size w' w2) := fun w' => rtimes_any h1.den.sm h2.den.sm w'
  have HRE : Hid (∀ w', Calls Tryz.prog 76 #[.agg #[.string (strN (txtI p)), .string (strN (txtI q))], .agg #[.string (strN (txtI r)), .string (strN (txtI s))]] w' fun e w2 => e = .returned (.agg #[.string (strN (txtI (lowF (p * r) (q * s)).1)), .string (strN (txtI (lowF (p * r) (q * s)).2))]) ∧ Below w'.heap.size w' w2) := fun w' => rftimes_any h1.num h1.den h2.num h2.den hm0 w'
  rw [doE_long]
  unfold opV frT
  obtain ⟨k, hk⟩ : ∃ k, k = longB [txtI (p * r), txtI (q * s)] := ⟨_, rfl⟩
  rw [← hk] at HL1 ⊢
  obtain ⟨sa, hsa⟩ : ∃ v, v = strN (txtI (lowF (p * r) (q * s)).1) := ⟨_, rfl⟩
  obtain ⟨sb, hsb⟩ : ∃ v, v = strN (txtI (lowF (p * r) (q * s)).2) := ⟨_, rfl⟩
  rw [← hsa, ← hsb] at HRE ⊢
  obtain ⟨sp, hsp⟩ : ∃ v, v = strN (txtI p) := ⟨_, rfl⟩
  obtain ⟨sq, hsq⟩ : ∃ v, v = strN (txtI q) := ⟨_, rfl⟩
  obtain ⟨sr, hsr⟩ : ∃ v, v = strN (txtI r) := ⟨_, rfl⟩
  obtain ⟨ss, hss⟩ : ∃ v, v = strN (txtI s) := ⟨_, rfl⟩
  rw [← hsp, ← hsq, ← hsr, ← hss] at HPA HRE ⊢
  rw [← hsp, ← hsr] at H1
  rw [← hsq, ← hss] at H2
  generalize strN (txtI (p * r)) = m0 at *
  generalize strN (txtI (q * s)) = m1 at *
  have HB := hide (W3.low w sp sq sr ss)
  have HA := hide (W3.a w sp sq sr ss)
  have HY := hide (W3.b w sp sq sr ss)
  have HX := hide (W3.c w sp sq sr ss)
  clear h1 h2 hm0 hk hsa hsb hsp hsq hsr hss
  go_enter Tryz.func37, Tryz.ntmps37
  go_upto_region 4 with (go_at_call 67; (with_reducible refine (HPA.out _).mono ?_); rintro ec w5 ⟨rfl, hb5⟩; have HB := hide (below_then HB.out hb5); have HA := hide (HA.out.below hb5); have HY := hide (HY.out.below hb5); have HX := hide (HX.out.below hb5); obtain ⟨d0, d1, d2, d3⟩ := fcells4 HA.out HY.out; clear hb5)
  have HB := hide HB.out.drew
  have HA := hide HA.out.draw
  have HY := hide HY.out.draw
  have HX := hide HX.out.draw
  have HC : Hid (_ ∧ _) := fcells4 HA.out HY.out
  go_region_held3 (fun w' => w'.cell? ⟨w.heap.size, 0, none⟩ = some (.string sp) ∧ w'.cell? ⟨w.heap.size, 1, none⟩ = some (.string sq) ∧ w'.cell? ⟨w.heap.size + 1, 0, none⟩ = some (.string sr) ∧ w'.cell? ⟨w.heap.size + 1, 1, none⟩ = some (.string ss)) (first | with_reducible exact HC.out | with_reducible exact HQ.out) (first
    | (go_at_call 75; (with_reducible refine (H1.out _).mono ?_); rintro ec wz ⟨rfl, hbz⟩; have HB := hide (below_then HB.out hbz); have HA := hide (HA.out.below hbz); have HY := hide (HY.out.below hbz); have HX := hide (HX.out.below hbz); have HC : Hid (_ ∧ _) := fcells4 HA.out HY.out; clear hbz)
    | (go_at_call 75; (with_reducible refine (H2.out _).mono ?_); rintro ec wz ⟨rfl, hbz⟩; have HB := hide (below_then HB.out hbz); have HA := hide (HA.out.below hbz); have HY := hide (HY.out.below hbz); have HX := hide (HX.out.below hbz); have HC : Hid (_ ∧ _) := fcells4 HA.out HY.out; have HQ : Hid (_ ∧ _) := fcells4 (HA.out.next (.cells #[.string m0, .string m1] 22)) (HY.out.next (.cells #[.string m0, .string m1] 22)); clear hbz)
    | (go_at_call 69; (with_reducible refine (HL1.out _).mono ?_); rintro ec wy ⟨rfl, hbz⟩; have HB := hide (below_then (bnew HB.out _) hbz); have HA := hide ((HA.out.next _).below hbz); have HY := hide ((HY.out.next _).below hbz); have HX := hide ((HX.out.next _).below hbz); have HC : Hid (_ ∧ _) := fcells4 HA.out HY.out; obtain ⟨d0, d1, d2, d3⟩ := fcells4 HA.out HY.out; obtain ⟨k0, k1, l0, l1⟩ := HX.out.two; clear hbz))
  cases k
  · go_wp2_with (go_at_call 76; (with_reducible refine (HRE.out _).mono ?_); rintro ec wz ⟨rfl, hbz⟩; have HB := hide (below_then HB.out hbz); have HX := hide (HX.out.below hbz); obtain ⟨k0, k1, l0, l1⟩ := HX.out.two; clear hbz)
    obtain ⟨j0, j1⟩ := HX.out.full (a := .string sa) (b := .string sb)
    refine bodyPost_ret (v := .tuple #[.agg #[.string sa, .string sb], .int .i64 0]) (by simp [results, Tryz.results37, go_sem, j0, j1]) rfl ⟨rfl, ?_⟩
    exact ((HB.out.setCell (by show w.heap.size ≤ w.heap.size + 1 + 1; omega) _).setCell (by show w.heap.size ≤ w.heap.size + 1 + 1; omega) _)
  · go_wp2_with fail
    obtain ⟨j0, j1⟩ := HX.out.full (a := .string ⟨#[]⟩) (b := .string ⟨#[]⟩)
    refine bodyPost_ret (v := .tuple #[.agg #[.string ⟨#[]⟩, .string ⟨#[]⟩], .int .i64 11]) (by simp [results, Tryz.results37, go_sem, j0, j1]) rfl ⟨rfl, ?_⟩
    exact ((HB.out.setCell (by show w.heap.size ≤ w.heap.size + 1 + 1; omega) _).setCell (by show w.heap.size ≤ w.heap.size + 1 + 1; omega) _)
set_option maxRecDepth 100000 in
set_option maxHeartbeats 4000000 in
theorem rfdiv_bad (s t u v : List UInt8) (hs : s.length ≤ 140737488355328) (ht : t.length ≤ 140737488355328) (hu : u.length ≤ 140737488355328) (hv : v.length ≤ 140737488355328) {e : Int} (he0 : e ≠ 0) (he : errOr (chkF s t) (chkF u v) = e) (w : World) : Calls Tryz.prog 39 #[.agg #[.string (strN s), .string (strN t)], .agg #[.string (strN u), .string (strN v)]] w fun r w' => r = .returned (frT ⟨#[]⟩ ⟨#[]⟩ e) ∧ Below w.heap.size w w' := by
  have HBO : Hid (∀ w', Calls Tryz.prog 67 #[.agg #[.string (strN s), .string (strN t)], .agg #[.string (strN u), .string (strN v)]] w' fun r w2 => r = .returned (.int .i64 e) ∧ Below w'.heap.size w' w2) := fun w' => rpair_any s t u v hs ht hu hv rfl rfl he w'
  generalize strN s = sp at *
  generalize strN t = sq at *
  generalize strN u = sr at *
  generalize strN v = ss at *
  have HW := hide (W3.low w sp sq sr ss)
  have HX := hide (W3.c w sp sq sr ss)
  have tq : (e != 0) = true := by simpa using he0
  unfold frT
  clear hs ht hu hv he0 he
  go_enter Tryz.func39, Tryz.ntmps39
  go_wp2_with (go_at_call 67; (with_reducible refine (HBO.out _).mono ?_); rintro ec w5 ⟨rfl, hb5⟩; have HB5 := hide (below_then HW.out hb5); have HX5 := hide (HX.out.below hb5); obtain ⟨d0, d1, f0, f1⟩ := HX5.out.two; clear hb5)
  obtain ⟨j0, j1⟩ := HX5.out.full (a := .string ⟨#[]⟩) (b := .string ⟨#[]⟩)
  refine bodyPost_ret (v := .tuple #[.agg #[.string ⟨#[]⟩, .string ⟨#[]⟩], .int .i64 e]) (by simp [results, Tryz.results39, go_sem, j0, j1]) rfl ⟨rfl, ?_⟩
  exact ((HB5.out.setCell (by show w.heap.size ≤ w.heap.size + 1 + 1; omega) _).setCell (by show w.heap.size ≤ w.heap.size + 1 + 1; omega) _)
set_option maxRecDepth 100000 in
set_option maxHeartbeats 4000000 in
theorem rfdiv_ok {p q r s : Int} (h1 : Good p q) (h2 : Good r s) (hr0 : r ≠ 0) (w : World) : Calls Tryz.prog 39 #[.agg #[.string (strN (txtI p)), .string (strN (txtI q))], .agg #[.string (strN (txtI r)), .string (strN (txtI s))]] w fun e w' => e = .returned (opV (doE (doE true (p * s)) (q * r)) (lowF (p * s) (q * r))) ∧ Below w.heap.size w w' := by
  have hm0 : q * r ≠ 0 := Int.mul_ne_zero (by have := h1.low.1; omega) hr0
  have HPA : Hid (∀ w', Calls Tryz.prog 67 #[.agg #[.string (strN (txtI p)), .string (strN (txtI q))], .agg #[.string (strN (txtI r)), .string (strN (txtI s))]] w' fun r w2 => r = .returned (.int .i64 0) ∧ Below w'.heap.size w' w2) := fun w' => rpair_any _ _ _ _ (lim_size h1.num) (lim_size h1.den) (lim_size h2.num) (lim_size h2.den) h1.chkL h2.chkL rfl w'
  have HL1 : Hid (∀ (w' : World), Calls Tryz.prog 69 #[.slice (some ⟨w'.heap.size, 0, none⟩) 2 2] (w'.alloc (.cells #[.string (strN (txtI (p * s))), .string (strN (txtI (q * r)))] 22)) fun e w2 => e = .returned (.bool (longB [txtI (p * s), txtI (q * r)])) ∧ Below (w'.alloc (.cells #[.string (strN (txtI (p * s))), .string (strN (txtI (q * r)))] 22)).heap.size (w'.alloc (.cells #[.string (strN (txtI (p * s))), .string (strN (txtI (q * r)))] 22)) w2) := fun w' => rlong_any [txtI (p * s), txtI (q * r)] _ 2 All _ (Box.strs (xs := [txtI (p * s), txtI (q * r)]) (Box.new w' [.string (strN (txtI (p * s))), .string (strN (txtI (q * r)))] 22) (by
    intro x hx
    simp at hx
    rcases hx with rfl | rfl
    · exact (h1.num.mul h2.den).txt
    · exact (h1.den.mul h2.num).txt)) (by simp)
  have H1 : Hid (∀ w', Calls Tryz.prog 75 #[.string (strN (txtI p)), .string (strN (txtI s))] w' fun e w2 => e = .returned (.string (strN (txtI (p * s)))) ∧ Below w'.heap.size w' w2) := fun w' => rtimes_any h1.num.sm h2.den.sm w'
  have H2 : Hid (∀ w', Calls Tryz.prog 75 #[.string (strN (txtI q)), .string (strN (txtI r))] w' fun e w2 => e = .returned (.string (strN (txtI (q * r)))) ∧ Below w'.heap.size w' w2) := fun w' => rtimes_any h1.den.sm h2.num.sm w'
  have HRE : Hid (∀ w', Calls Tryz.prog 79 #[.agg #[.string (strN (txtI p)), .string (strN (txtI q))], .agg #[.string (strN (txtI r)), .string (strN (txtI s))]] w' fun e w2 => e = .returned (.agg #[.string (strN (txtI (lowF (p * s) (q * r)).1)), .string (strN (txtI (lowF (p * s) (q * r)).2))]) ∧ Below w'.heap.size w' w2) := fun w' => rfby_any h1.num h1.den h2.num h2.den hm0 w'
  rw [doE_long]
  have tz := txtI_ne0 hr0
  unfold opV frT
  obtain ⟨k, hk⟩ : ∃ k, k = longB [txtI (p * s), txtI (q * r)] := ⟨_, rfl⟩
  rw [← hk] at HL1 ⊢
  obtain ⟨sa, hsa⟩ : ∃ v, v = strN (txtI (lowF (p * s) (q * r)).1) := ⟨_, rfl⟩
  obtain ⟨sb, hsb⟩ : ∃ v, v = strN (txtI (lowF (p * s) (q * r)).2) := ⟨_, rfl⟩
  rw [← hsa, ← hsb] at HRE ⊢
  obtain ⟨sp, hsp⟩ : ∃ v, v = strN (txtI p) := ⟨_, rfl⟩
  obtain ⟨sq, hsq⟩ : ∃ v, v = strN (txtI q) := ⟨_, rfl⟩
  obtain ⟨sr, hsr⟩ : ∃ v, v = strN (txtI r) := ⟨_, rfl⟩
  obtain ⟨ss, hss⟩ : ∃ v, v = strN (txtI s) := ⟨_, rfl⟩
  rw [← hsp, ← hsq, ← hsr, ← hss] at HPA HRE ⊢
  rw [← hsp, ← hss] at H1
  rw [← hsq, ← hsr] at H2
  rw [← hsr] at tz
  generalize strN (txtI (p * s)) = m0 at *
  generalize strN (txtI (q * r)) = m1 at *
  have HB := hide (W3.low w sp sq sr ss)
  have HA := hide (W3.a w sp sq sr ss)
  have HY := hide (W3.b w sp sq sr ss)
  have HX := hide (W3.c w sp sq sr ss)
  clear h1 h2 hm0 hk hsa hsb hsp hsq hsr hss hr0
  go_enter Tryz.func39, Tryz.ntmps39
  go_upto_region 6 with (go_at_call 67; (with_reducible refine (HPA.out _).mono ?_); rintro ec w5 ⟨rfl, hb5⟩; have HB := hide (below_then HB.out hb5); have HA := hide (HA.out.below hb5); have HY := hide (HY.out.below hb5); have HX := hide (HX.out.below hb5); obtain ⟨d0, d1, d2, d3⟩ := fcells4 HA.out HY.out; clear hb5)
  have HB := hide HB.out.drew
  have HA := hide HA.out.draw
  have HY := hide HY.out.draw
  have HX := hide HX.out.draw
  have HC : Hid (_ ∧ _) := fcells4 HA.out HY.out
  go_region_held3 (fun w' => w'.cell? ⟨w.heap.size, 0, none⟩ = some (.string sp) ∧ w'.cell? ⟨w.heap.size, 1, none⟩ = some (.string sq) ∧ w'.cell? ⟨w.heap.size + 1, 0, none⟩ = some (.string sr) ∧ w'.cell? ⟨w.heap.size + 1, 1, none⟩ = some (.string ss)) (first | with_reducible exact HC.out | with_reducible exact HQ.out) (first
    | (go_at_call 75; (with_reducible refine (H1.out _).mono ?_); rintro ec wz ⟨rfl, hbz⟩; have HB := hide (below_then HB.out hbz); have HA := hide (HA.out.below hbz); have HY := hide (HY.out.below hbz); have HX := hide (HX.out.below hbz); have HC : Hid (_ ∧ _) := fcells4 HA.out HY.out; clear hbz)
    | (go_at_call 75; (with_reducible refine (H2.out _).mono ?_); rintro ec wz ⟨rfl, hbz⟩; have HB := hide (below_then HB.out hbz); have HA := hide (HA.out.below hbz); have HY := hide (HY.out.below hbz); have HX := hide (HX.out.below hbz); have HC : Hid (_ ∧ _) := fcells4 HA.out HY.out; have HQ : Hid (_ ∧ _) := fcells4 (HA.out.next (.cells #[.string m0, .string m1] 22)) (HY.out.next (.cells #[.string m0, .string m1] 22)); clear hbz)
    | (go_at_call 69; (with_reducible refine (HL1.out _).mono ?_); rintro ec wy ⟨rfl, hbz⟩; have HB := hide (below_then (bnew HB.out _) hbz); have HA := hide ((HA.out.next _).below hbz); have HY := hide ((HY.out.next _).below hbz); have HX := hide ((HX.out.next _).below hbz); have HC : Hid (_ ∧ _) := fcells4 HA.out HY.out; obtain ⟨d0, d1, d2, d3⟩ := fcells4 HA.out HY.out; obtain ⟨k0, k1, l0, l1⟩ := HX.out.two; clear hbz))
  cases k
  · go_wp2_with (go_at_call 79; (with_reducible refine (HRE.out _).mono ?_); rintro ec wz ⟨rfl, hbz⟩; have HB := hide (below_then HB.out hbz); have HX := hide (HX.out.below hbz); obtain ⟨k0, k1, l0, l1⟩ := HX.out.two; clear hbz)
    obtain ⟨j0, j1⟩ := HX.out.full (a := .string sa) (b := .string sb)
    refine bodyPost_ret (v := .tuple #[.agg #[.string sa, .string sb], .int .i64 0]) (by simp [results, Tryz.results39, go_sem, j0, j1]) rfl ⟨rfl, ?_⟩
    exact ((HB.out.setCell (by show w.heap.size ≤ w.heap.size + 1 + 1; omega) _).setCell (by show w.heap.size ≤ w.heap.size + 1 + 1; omega) _)
  · go_wp2_with fail
    obtain ⟨j0, j1⟩ := HX.out.full (a := .string ⟨#[]⟩) (b := .string ⟨#[]⟩)
    refine bodyPost_ret (v := .tuple #[.agg #[.string ⟨#[]⟩, .string ⟨#[]⟩], .int .i64 11]) (by simp [results, Tryz.results39, go_sem, j0, j1]) rfl ⟨rfl, ?_⟩
    exact ((HB.out.setCell (by show w.heap.size ≤ w.heap.size + 1 + 1; omega) _).setCell (by show w.heap.size ≤ w.heap.size + 1 + 1; omega) _)
set_option maxRecDepth 100000 in
set_option maxHeartbeats 4000000 in
theorem rfdiv_zero {p q s : Int} (h1 : Good p q) (h2 : Good 0 s) (w : World) : Calls Tryz.prog 39 #[.agg #[.string (strN (txtI p)), .string (strN (txtI q))], .agg #[.string (strN (txtI 0)), .string (strN (txtI s))]] w fun e w' => e = .returned (frT ⟨#[]⟩ ⟨#[]⟩ 10) ∧ Below w.heap.size w w' := by
  have HPA : Hid (∀ w', Calls Tryz.prog 67 #[.agg #[.string (strN (txtI p)), .string (strN (txtI q))], .agg #[.string (strN (txtI 0)), .string (strN (txtI s))]] w' fun r w2 => r = .returned (.int .i64 0) ∧ Below w'.heap.size w' w2) := fun w' => rpair_any _ _ _ _ (lim_size h1.num) (lim_size h1.den) (lim_size h2.num) (lim_size h2.den) h1.chkL h2.chkL rfl w'
  have tz : ((strN (txtI 0)).toList == [48]) = true := by rw [strN_toList]; rfl
  unfold frT
  generalize strN (txtI p) = sp at *
  generalize strN (txtI q) = sq at *
  generalize strN (txtI 0) = sr at *
  generalize strN (txtI s) = ss at *
  have HB := hide (W3.low w sp sq sr ss)
  have HY := hide (W3.b w sp sq sr ss)
  have HX := hide (W3.c w sp sq sr ss)
  clear h1 h2
  go_enter Tryz.func39, Tryz.ntmps39
  go_wp2_with (go_at_call 67; (with_reducible refine (HPA.out _).mono ?_); rintro ec w5 ⟨rfl, hb5⟩; have HB := hide (below_then HB.out hb5); obtain ⟨d0, d1, f0, f1⟩ := (HY.out.below hb5).two; have HX := hide (HX.out.below hb5); obtain ⟨k0, k1, l0, l1⟩ := HX.out.two; clear hb5)
  obtain ⟨j0, j1⟩ := HX.out.full (a := .string ⟨#[]⟩) (b := .string ⟨#[]⟩)
  refine bodyPost_ret (v := .tuple #[.agg #[.string ⟨#[]⟩, .string ⟨#[]⟩], .int .i64 10]) (by simp [results, Tryz.results39, go_sem, j0, j1]) rfl ⟨rfl, ?_⟩
  exact ((HB.out.setCell (by show w.heap.size ≤ w.heap.size + 1 + 1; omega) _).setCell (by show w.heap.size ≤ w.heap.size + 1 + 1; omega) _)
set_option maxRecDepth 100000 in
set_option maxHeartbeats 4000000 in
theorem rfcmp_bad (s t u v : List UInt8) (hs : s.length ≤ 140737488355328) (ht : t.length ≤ 140737488355328) (hu : u.length ≤ 140737488355328) (hv : v.length ≤ 140737488355328) {e : Int} (he0 : e ≠ 0) (he : errOr (chkF s t) (chkF u v) = e) (w : World) : Calls Tryz.prog 41 #[.agg #[.string (strN s), .string (strN t)], .agg #[.string (strN u), .string (strN v)]] w fun r w' => r = .returned (.tuple #[.int .i64 0, .int .i64 e]) ∧ Below w.heap.size w w' := by
  have HBO : Hid (∀ w', Calls Tryz.prog 67 #[.agg #[.string (strN s), .string (strN t)], .agg #[.string (strN u), .string (strN v)]] w' fun r w2 => r = .returned (.int .i64 e) ∧ Below w'.heap.size w' w2) := fun w' => rpair_any s t u v hs ht hu hv rfl rfl he w'
  generalize strN s = sp at *
  generalize strN t = sq at *
  generalize strN u = sr at *
  generalize strN v = ss at *
  have HW := hide (W2b.low w sp sq sr ss)
  have tq : (e != 0) = true := by simpa using he0
  clear hs ht hu hv he0 he
  go_enter Tryz.func41, Tryz.ntmps41
  go_wp2_with (go_at_call 67; (with_reducible refine (HBO.out _).mono ?_); rintro ec w5 ⟨rfl, hb5⟩; have HB5 := hide (below_then HW.out hb5); clear hb5)
  go_ret2
  exact ⟨rfl, HB5.out⟩

set_option maxRecDepth 100000 in
set_option maxHeartbeats 4000000 in
theorem rfcmp_ok {p q r s : Int} (h1 : Good p q) (h2 : Good r s) (w : World) : Calls Tryz.prog 41 #[.agg #[.string (strN (txtI p)), .string (strN (txtI q))], .agg #[.string (strN (txtI r)), .string (strN (txtI s))]] w fun e w' => e = .returned (cmpV p q r s) ∧ Below w.heap.size w w' := by
  have HPA : Hid (∀ w', Calls Tryz.prog 67 #[.agg #[.string (strN (txtI p)), .string (strN (txtI q))], .agg #[.string (strN (txtI r)), .string (strN (txtI s))]] w' fun r w2 => r = .returned (.int .i64 0) ∧ Below w'.heap.size w' w2) := fun w' => rpair_any _ _ _ _ (lim_size h1.num) (lim_size h1.den) (lim_size h2.num) (lim_size h2.den) h1.chkL h2.chkL rfl w'
  have HCR : Hid (∀ w', Calls Tryz.prog 68 #[.agg #[.string (strN (txtI p)), .string (strN (txtI q))], .agg #[.string (strN (txtI r)), .string (strN (txtI s))]] w' fun e w2 => ∃ g, e = .returned (.slice (some ⟨g, 0, none⟩) 3 3) ∧ Box w2 g [.string (strN (txtI (p * s))), .string (strN (txtI (r * q))), .string (strN (txtI (q * s)))] 22 ∧ Below w'.heap.size w' w2) := fun w' => rcrossed_any h1.num h1.den h2.num h2.den w'
  have HL2 : Hid (∀ (w' : World) (g : Nat), Box w' g [.string (strN (txtI (p * s))), .string (strN (txtI (r * q))), .string (strN (txtI (q * s)))] 22 → Calls Tryz.prog 69 #[.slice (some ⟨g, 0, none⟩) 2 3] w' fun e w2 => e = .returned (.bool (longB [txtI (p * s), txtI (r * q)])) ∧ Below w'.heap.size w' w2) := fun w' g hb => rlong_any [txtI (p * s), txtI (r * q)] _ 3 All w' (SliceR.firsts (xs := [txtI (p * s), txtI (r * q)]) (ys := [txtI (q * s)]) (Box.strs (xs := [txtI (p * s), txtI (r * q), txtI (q * s)]) hb (by
    intro x hx
    simp at hx
    rcases hx with rfl | rfl | rfl
    · exact (h1.num.mul h2.den).txt
    · exact (h2.num.mul h1.den).txt
    · exact (h1.den.mul h2.den).txt))) (by simp)
  have HRE : Hid (∀ w', Calls Tryz.prog 81 #[.agg #[.string (strN (txtI p)), .string (strN (txtI q))], .agg #[.string (strN (txtI r)), .string (strN (txtI s))]] w' fun e w2 => e = .returned (.int .i64 (sgI (p * s - r * q))) ∧ Below w'.heap.size w' w2) := fun w' => rforder_any h1.num h1.den h2.num h2.den w'
  unfold cmpV
  rw [doE_long]
  obtain ⟨k, hk⟩ : ∃ k, k = longB [txtI (p * s), txtI (r * q)] := ⟨_, rfl⟩
  rw [← hk] at HL2 ⊢
  generalize sgI (p * s - r * q) = g0 at *
  generalize strN (txtI p) = sp at *
  generalize strN (txtI q) = sq at *
  generalize strN (txtI r) = sr at *
  generalize strN (txtI s) = ss at *
  generalize strN (txtI (p * s)) = m0 at *
  generalize strN (txtI (r * q)) = m1 at *
  generalize strN (txtI (q * s)) = m2 at *
  have HB := hide (W2b.low w sp sq sr ss)
  have HA := hide (W2b.a w sp sq sr ss)
  have HY := hide (W2b.b w sp sq sr ss)
  clear h1 h2 hk
  cases k
  · go_enter Tryz.func41, Tryz.ntmps41
    go_wp2_with (first
      | (go_at_call 67; (with_reducible refine (HPA.out _).mono ?_); rintro ec w5 ⟨rfl, hb5⟩; have HB := hide (below_then HB.out hb5); have HA := hide (HA.out.below hb5); have HY := hide (HY.out.below hb5); obtain ⟨d0, d1, d2, d3⟩ := fcells4 HA.out HY.out; clear hb5)
      | (go_at_call 68; (with_reducible refine (HCR.out _).mono ?_); rintro ec w6 ⟨g, rfl, hg, hb6⟩; have HB := hide (below_then HB.out hb6); have HA := hide (HA.out.below hb6); have HY := hide (HY.out.below hb6); have HG := hide hg; clear hg hb6)
      | (go_at_call 69; (with_reducible refine (HL2.out _ _ HG.out).mono ?_); rintro ec w7 ⟨rfl, hb7⟩; have HB := hide (below_then HB.out hb7); have HA := hide (HA.out.below hb7); have HY := hide (HY.out.below hb7); obtain ⟨d0, d1, d2, d3⟩ := fcells4 HA.out HY.out; clear hb7)
      | (go_at_call 81; (with_reducible refine (HRE.out _).mono ?_); rintro ec w8 ⟨rfl, hb8⟩; have HB := hide (below_then HB.out hb8); clear hb8))
    go_ret2
    exact ⟨rfl, HB.out⟩
  · go_enter Tryz.func41, Tryz.ntmps41
    go_wp2_with (first
      | (go_at_call 67; (with_reducible refine (HPA.out _).mono ?_); rintro ec w5 ⟨rfl, hb5⟩; have HB := hide (below_then HB.out hb5); have HA := hide (HA.out.below hb5); have HY := hide (HY.out.below hb5); obtain ⟨d0, d1, d2, d3⟩ := fcells4 HA.out HY.out; clear hb5)
      | (go_at_call 68; (with_reducible refine (HCR.out _).mono ?_); rintro ec w6 ⟨g, rfl, hg, hb6⟩; have HB := hide (below_then HB.out hb6); have HA := hide (HA.out.below hb6); have HY := hide (HY.out.below hb6); have HG := hide hg; clear hg hb6)
      | (go_at_call 69; (with_reducible refine (HL2.out _ _ HG.out).mono ?_); rintro ec w7 ⟨rfl, hb7⟩; have HB := hide (below_then HB.out hb7); clear hb7))
    go_ret2
    exact ⟨rfl, HB.out⟩
end Go.Proofs.YthpknfoahimopaaGreatDoor

set_option linter.unusedVariables false
set_option linter.unusedSimpArgs false
set_option linter.unnecessarySimpa false
namespace Go.Proofs.YthpknfoahimopaaGreatDoor
open Go.RowKit

theorem split_first : ∀ l : List UInt8, ((∀ (j : Nat) (c : UInt8), l[j]? = some c → c ≠ 47) ∧ splitS l = (l, none)) ∨ ∃ i : Nat, i < l.length ∧ l[i]? = some 47 ∧ (∀ (j : Nat) (c : UInt8), j < i → l[j]? = some c → c ≠ 47) ∧ splitS l = (l.take i, some (l.drop (i + 1)))
  | [] => .inl ⟨fun j c h => by simp at h, rfl⟩
  | c :: r => by
    unfold splitS
    by_cases hc : c = 47
    · exact .inr ⟨0, by simp, by simp [hc], fun j c h => by omega, by rw [if_pos hc]; rfl⟩
    · rw [if_neg hc]
      rcases split_first r with ⟨h1, h2⟩ | ⟨i, h1, h2, h3, h4⟩
      · refine .inl ⟨fun j d h => ?_, by rw [h2]⟩
        match j with
        | 0 => simp at h; rw [← h]; exact hc
        | j + 1 => exact h1 j d (by simpa using h)
      · refine .inr ⟨i + 1, by simp; omega, by simpa using h2, fun j d hj h => ?_, by rw [h4]; rfl⟩
        match j with
        | 0 => simp at h; rw [← h]; exact hc
        | j + 1 => exact h3 j d (by omega) (by simpa using h)

set_option maxRecDepth 100000 in
set_option maxHeartbeats 4000000 in
theorem rfparse_part (l : List UInt8) (hl : l.length ≤ 140737488355328) (hno : ∀ (j : Nat) (c : UInt8), l[j]? = some c → c ≠ 47) (sn sd : ByteArray) (hsn : sn = strN l) (hsd : sd = ⟨#[49]⟩) {c1 c2 e : Int}
    (h1 : ∀ w', Calls Tryz.prog 48 #[.string sn] w' fun r w2 => r = .returned (.int .i64 c1) ∧ Below w'.heap.size w' w2)
    (h2 : ∀ w', Calls Tryz.prog 48 #[.string sd] w' fun r w2 => r = .returned (.int .i64 c2) ∧ Below w'.heap.size w' w2)
    (h3 : ∀ w', Calls Tryz.prog 33 #[.agg #[.string sn, .string sd]] w' fun r w2 => r = .returned (.int .i64 e) ∧ Below w'.heap.size w' w2) {res : Value}
    (hres : res = if c1 = 3 ∨ c2 = 3 then frT ⟨#[]⟩ ⟨#[]⟩ 3 else if e = 0 then frT sn sd 0 else frT ⟨#[]⟩ ⟨#[]⟩ e) (w : World) : Calls Tryz.prog 15 #[.string (strN l)] w fun r w' => r = .returned res ∧ Below w.heap.size w w' := by
  have H1 : Hid (∀ w', Calls Tryz.prog 48 #[.string sn] w' fun r w2 => r = .returned (.int .i64 c1) ∧ Below w'.heap.size w' w2) := h1
  have H2 : Hid (∀ w', Calls Tryz.prog 48 #[.string sd] w' fun r w2 => r = .returned (.int .i64 c2) ∧ Below w'.heap.size w' w2) := h2
  have H3 : Hid (∀ w', Calls Tryz.prog 33 #[.agg #[.string sn, .string sd]] w' fun r w2 => r = .returned (.int .i64 e) ∧ Below w'.heap.size w' w2) := h3
  have HR := hide hres
  have HF : Hid True := trivial
  have hsz : (strN l).size = l.length := rfl
  have HB : Hid (Below w.heap.size w ((w.alloc (.cells #[.string ⟨#[]⟩, .string ⟨#[]⟩] 26)).alloc (.cells #[.string (strN l), .string ⟨#[49]⟩] 26))) := bnew (bnew (Below.refl _ _) _) _
  have HX := hide ((Box.new w [.string ⟨#[]⟩, .string ⟨#[]⟩] 26).next (.cells #[.string (strN l), .string ⟨#[49]⟩] 26))
  have HA : Hid (Box ((w.alloc (.cells #[.string ⟨#[]⟩, .string ⟨#[]⟩] 26)).alloc (.cells #[.string (strN l), .string ⟨#[49]⟩] 26)) (w.heap.size + 1) [.string (strN l), .string ⟨#[49]⟩] 26) := by
    have h5 := Box.new (w.alloc (.cells #[.string ⟨#[]⟩, .string ⟨#[]⟩] 26)) [.string (strN l), .string ⟨#[49]⟩] 26
    rw [World.size_alloc] at h5
    exact h5
  have HNO := hide hno
  have HA : Hid (Box ((w.alloc (.cells #[.string ⟨#[]⟩, .string ⟨#[]⟩] 26)).alloc (.cells #[.string (strN l), .string ⟨#[49]⟩] 26)) (w.heap.size + 1) [.string sn, .string sd] 26) := by
    have h5 := HA.out
    rw [hsn, hsd]
    exact h5
  have HLL := hide hl
  clear h1 h2 h3 hres hno hl hsn hsd
  go_enter Tryz.func15, Tryz.ntmps15
  go_upto_region 3 with fail
  go_loopw [5] (fun i wr => ∃ k : Nat, k ≤ l.length ∧ i = .int .i64 k ∧ Hid (Below w.heap.size w wr) ∧ Hid (Box wr w.heap.size [.string ⟨#[]⟩, .string ⟨#[]⟩] 26) ∧ Hid (Box wr (w.heap.size + 1) [.string sn, .string sd] 26)) (fun i _ => l.length - (intOf i).toNat)
  case atStart => exact ⟨0, by omega, rfl, HB, HX, HA⟩
  case round =>
    clear HB HX HA
    obtain ⟨k, hk, rfl, HB, HX, HA⟩ := hrel
    by_cases hlt : k < l.length
    · obtain ⟨c, hc⟩ : ∃ c, l[k]? = some c := ⟨_, List.getElem?_eq_getElem hlt⟩
      obtain ⟨x, hx⟩ : ∃ x, x = c.toNat := ⟨_, rfl⟩
      have ts : k < (strN l).size := by rw [hsz]; exact hlt
      have tx : ((strN l)[k]'ts).toNat = x := by rw [hx]; exact congrArg _ (List.getElem?_eq_some_iff.1 hc).2
      have t47 : ((x : Int) == 47) = false := by
        have h5 := HNO.out k c hc
        rw [Bool.eq_false_iff]
        intro h
        have h6 := eq_of_beq h
        exact h5 (UInt8.toNat_inj.1 (by rw [← hx]; show x = 47; omega))
      have hk0 : (0 : Int) ≤ k := by omega
      have hk1 : (k : Int) < l.length := by omega
      have hll := HLL.out
      clear hc hx
      go_wp2_with fail
      go_roundw
      case rel => exact ⟨k + 1, by omega, by go_num, HB, HX, HA⟩
      case measure => simp [intOf]; omega
    · obtain ⟨d0, d1, f0, f1⟩ := HA.out.two
      by_cases g1 : c1 = 3
      · have q1 : (c1 == 3) = true := by simp [g1]
        have HRW : Hid (res = frT ⟨#[]⟩ ⟨#[]⟩ 3) := HR.out.trans (if_pos (.inl g1))
        clear g1
        go_wp2_with (go_at_call 48; (with_reducible refine (H1.out _).mono ?_); rintro ec wa ⟨rfl, hbz⟩; have HB := hide (below_then HB.out hbz); have HX := hide (HX.out.below hbz); have HA := hide (HA.out.below hbz); obtain ⟨d0, d1, f0, f1⟩ := HA.out.two; obtain ⟨k0, k1, l0, l1⟩ := HX.out.two; clear hbz)
        obtain ⟨j0, j1⟩ := HX.out.full (a := .string ⟨#[]⟩) (b := .string ⟨#[]⟩)
        refine bodyPost_ret (v := .tuple #[.agg #[.string ⟨#[]⟩, .string ⟨#[]⟩], .int .i64 3]) (by simp [results, Tryz.results15, go_sem, j0, j1]) rfl ⟨by rw [HRW.out]; rfl, ?_⟩
        exact ((HB.out.setCell (Nat.le_refl _) _).setCell (Nat.le_refl _) _)
      · have q1 : (c1 == 3) = false := by simp [g1]
        by_cases g2 : c2 = 3
        · have q2 : (c2 == 3) = true := by simp [g2]
          have HRW : Hid (res = frT ⟨#[]⟩ ⟨#[]⟩ 3) := HR.out.trans (if_pos (.inr g2))
          clear g1 g2
          go_wp2_with (first | (have _t := HF; (go_at_call 48; (with_reducible refine (H1.out _).mono ?_); rintro ec wa ⟨rfl, hbz⟩; have HB := hide (below_then HB.out hbz); have HX := hide (HX.out.below hbz); have HA := hide (HA.out.below hbz); obtain ⟨d0, d1, f0, f1⟩ := HA.out.two; clear HF _t; clear hbz)) | (go_at_call 48; (with_reducible refine (H2.out _).mono ?_); rintro ec wb ⟨rfl, hbz⟩; have HB := hide (below_then HB.out hbz); have HX := hide (HX.out.below hbz); have HA := hide (HA.out.below hbz); obtain ⟨d0, d1, f0, f1⟩ := HA.out.two; obtain ⟨k0, k1, l0, l1⟩ := HX.out.two; clear hbz))
          obtain ⟨j0, j1⟩ := HX.out.full (a := .string ⟨#[]⟩) (b := .string ⟨#[]⟩)
          refine bodyPost_ret (v := .tuple #[.agg #[.string ⟨#[]⟩, .string ⟨#[]⟩], .int .i64 3]) (by simp [results, Tryz.results15, go_sem, j0, j1]) rfl ⟨by rw [HRW.out]; rfl, ?_⟩
          exact ((HB.out.setCell (Nat.le_refl _) _).setCell (Nat.le_refl _) _)
        · have q2 : (c2 == 3) = false := by simp [g2]
          have HR2 := hide (HR.out.trans (if_neg (fun h => h.elim g1 g2)))
          clear g1 g2
          by_cases g3 : e = 0
          · have q3 : (e != 0) = false := by simp [g3]
            have HRW : Hid (res = frT sn sd 0) := HR2.out.trans (if_pos g3)
            clear g3
            go_wp2_with (first | (have _t := HF; (go_at_call 48; (with_reducible refine (H1.out _).mono ?_); rintro ec wa ⟨rfl, hbz⟩; have HB := hide (below_then HB.out hbz); have HX := hide (HX.out.below hbz); have HA := hide (HA.out.below hbz); obtain ⟨d0, d1, f0, f1⟩ := HA.out.two; clear HF _t; clear hbz)) | (go_at_call 48; (with_reducible refine (H2.out _).mono ?_); rintro ec wb ⟨rfl, hbz⟩; have HB := hide (below_then HB.out hbz); have HX := hide (HX.out.below hbz); have HA := hide (HA.out.below hbz); obtain ⟨d0, d1, f0, f1⟩ := HA.out.two; clear hbz) | (go_at_call 33; (with_reducible refine (H3.out _).mono ?_); rintro ec wc ⟨rfl, hbz⟩; have HB := hide (below_then HB.out hbz); have HX := hide (HX.out.below hbz); have HA := hide (HA.out.below hbz); obtain ⟨d0, d1, f0, f1⟩ := HA.out.two; obtain ⟨k0, k1, l0, l1⟩ := HX.out.two; clear hbz))
            obtain ⟨j0, j1⟩ := HX.out.full (a := .string sn) (b := .string sd)
            refine bodyPost_ret (v := .tuple #[.agg #[.string sn, .string sd], .int .i64 0]) (by simp [results, Tryz.results15, go_sem, j0, j1]) rfl ⟨by rw [HRW.out]; rfl, ?_⟩
            exact ((HB.out.setCell (Nat.le_refl _) _).setCell (Nat.le_refl _) _)
          · have q3 : (e != 0) = true := by simpa using g3
            have HRW : Hid (res = frT ⟨#[]⟩ ⟨#[]⟩ e) := HR2.out.trans (if_neg g3)
            clear g3
            go_wp2_with (first | (have _t := HF; (go_at_call 48; (with_reducible refine (H1.out _).mono ?_); rintro ec wa ⟨rfl, hbz⟩; have HB := hide (below_then HB.out hbz); have HX := hide (HX.out.below hbz); have HA := hide (HA.out.below hbz); obtain ⟨d0, d1, f0, f1⟩ := HA.out.two; clear HF _t; clear hbz)) | (go_at_call 48; (with_reducible refine (H2.out _).mono ?_); rintro ec wb ⟨rfl, hbz⟩; have HB := hide (below_then HB.out hbz); have HX := hide (HX.out.below hbz); have HA := hide (HA.out.below hbz); obtain ⟨d0, d1, f0, f1⟩ := HA.out.two; clear hbz) | (go_at_call 33; (with_reducible refine (H3.out _).mono ?_); rintro ec wc ⟨rfl, hbz⟩; have HB := hide (below_then HB.out hbz); have HX := hide (HX.out.below hbz); have HA := hide (HA.out.below hbz); obtain ⟨d0, d1, f0, f1⟩ := HA.out.two; obtain ⟨k0, k1, l0, l1⟩ := HX.out.two; clear hbz))
            obtain ⟨j0, j1⟩ := HX.out.full (a := .string ⟨#[]⟩) (b := .string ⟨#[]⟩)
            refine bodyPost_ret (v := .tuple #[.agg #[.string ⟨#[]⟩, .string ⟨#[]⟩], .int .i64 e]) (by simp [results, Tryz.results15, go_sem, j0, j1]) rfl ⟨by rw [HRW.out]; rfl, ?_⟩
            exact ((HB.out.setCell (Nat.le_refl _) _).setCell (Nat.le_refl _) _)

set_option maxRecDepth 100000 in
set_option maxHeartbeats 4000000 in
theorem rfparse_whole (l : List UInt8) (hl : l.length ≤ 140737488355328) (i : Nat) (hi : i < l.length) (hat : l[i]? = some 47) (hno : ∀ (j : Nat) (c : UInt8), j < i → l[j]? = some c → c ≠ 47) (sn sd : ByteArray) (hsn : sn = strN (l.take i)) (hsd : sd = strN (l.drop (i + 1))) {c1 c2 e : Int}
    (h1 : ∀ w', Calls Tryz.prog 48 #[.string sn] w' fun r w2 => r = .returned (.int .i64 c1) ∧ Below w'.heap.size w' w2)
    (h2 : ∀ w', Calls Tryz.prog 48 #[.string sd] w' fun r w2 => r = .returned (.int .i64 c2) ∧ Below w'.heap.size w' w2)
    (h3 : ∀ w', Calls Tryz.prog 33 #[.agg #[.string sn, .string sd]] w' fun r w2 => r = .returned (.int .i64 e) ∧ Below w'.heap.size w' w2) {res : Value}
    (hres : res = if c1 = 3 ∨ c2 = 3 ∨ (sd.toList == [49]) = true then frT ⟨#[]⟩ ⟨#[]⟩ 3 else if e = 0 then frT sn sd 0 else frT ⟨#[]⟩ ⟨#[]⟩ e) (w : World) : Calls Tryz.prog 15 #[.string (strN l)] w fun r w' => r = .returned res ∧ Below w.heap.size w w' := by
  have H1 : Hid (∀ w', Calls Tryz.prog 48 #[.string sn] w' fun r w2 => r = .returned (.int .i64 c1) ∧ Below w'.heap.size w' w2) := h1
  have H2 : Hid (∀ w', Calls Tryz.prog 48 #[.string sd] w' fun r w2 => r = .returned (.int .i64 c2) ∧ Below w'.heap.size w' w2) := h2
  have H3 : Hid (∀ w', Calls Tryz.prog 33 #[.agg #[.string sn, .string sd]] w' fun r w2 => r = .returned (.int .i64 e) ∧ Below w'.heap.size w' w2) := h3
  have HR := hide hres
  have HF : Hid True := trivial
  have hsz : (strN l).size = l.length := rfl
  have HB : Hid (Below w.heap.size w ((w.alloc (.cells #[.string ⟨#[]⟩, .string ⟨#[]⟩] 26)).alloc (.cells #[.string (strN l), .string ⟨#[49]⟩] 26))) := bnew (bnew (Below.refl _ _) _) _
  have HX := hide ((Box.new w [.string ⟨#[]⟩, .string ⟨#[]⟩] 26).next (.cells #[.string (strN l), .string ⟨#[49]⟩] 26))
  have HA : Hid (Box ((w.alloc (.cells #[.string ⟨#[]⟩, .string ⟨#[]⟩] 26)).alloc (.cells #[.string (strN l), .string ⟨#[49]⟩] 26)) (w.heap.size + 1) [.string (strN l), .string ⟨#[49]⟩] 26) := by
    have h5 := Box.new (w.alloc (.cells #[.string ⟨#[]⟩, .string ⟨#[]⟩] 26)) [.string (strN l), .string ⟨#[49]⟩] 26
    rw [World.size_alloc] at h5
    exact h5
  have HNO := hide hno
  have HAT := hide hat
  have HLL := hide hl
  have hx1 : (strN l).extract 0 i = sn := by rw [hsn, extract_take, strN_data]
  have hx2 : (strN l).extract (i + 1) l.length = sd := by
    rw [hsd]
    have h5 := extract_drop (strN l) (i + 1)
    rw [strN_data] at h5
    exact h5
  have HX12 : Hid ((strN l).extract 0 i = sn ∧ (strN l).extract (i + 1) l.length = sd) := ⟨hx1, hx2⟩
  clear h1 h2 h3 hres hno hl hat hx1 hx2 hsn hsd
  go_enter Tryz.func15, Tryz.ntmps15
  go_upto_region 3 with fail
  go_loopw [5] (fun iv wr => ∃ k : Nat, k ≤ i ∧ iv = .int .i64 k ∧ Hid (Below w.heap.size w wr) ∧ Hid (Box wr w.heap.size [.string ⟨#[]⟩, .string ⟨#[]⟩] 26) ∧ Hid (Box wr (w.heap.size + 1) [.string (strN l), .string ⟨#[49]⟩] 26)) (fun iv _ => l.length - (intOf iv).toNat)
  case atStart => exact ⟨0, by omega, rfl, HB, HX, HA⟩
  case round =>
    clear HB HX HA
    obtain ⟨k, hk, rfl, HB, HX, HA⟩ := hrel
    have hlt : k < l.length := by omega
    have ts : k < (strN l).size := by rw [hsz]; exact hlt
    by_cases hki : k < i
    · obtain ⟨c, hc⟩ : ∃ c, l[k]? = some c := ⟨_, List.getElem?_eq_getElem hlt⟩
      obtain ⟨x, hx⟩ : ∃ x, x = c.toNat := ⟨_, rfl⟩
      have tx : ((strN l)[k]'ts).toNat = x := by rw [hx]; exact congrArg _ (List.getElem?_eq_some_iff.1 hc).2
      have t47 : ((x : Int) == 47) = false := by
        have h5 := HNO.out k c hki hc
        rw [Bool.eq_false_iff]
        intro h
        have h6 := eq_of_beq h
        exact h5 (UInt8.toNat_inj.1 (by rw [← hx]; show x = 47; omega))
      have hk0 : (0 : Int) ≤ k := by omega
      have hk1 : (k : Int) < l.length := by omega
      have hll := HLL.out
      clear hc hx
      go_wp2_with fail
      go_roundw
      case rel => exact ⟨k + 1, by omega, by go_num, HB, HX, HA⟩
      case measure => simp [intOf]; omega
    · have hke : k = i := by omega
      subst hke
      have tx : ((strN l)[k]'ts).toNat = 47 := congrArg UInt8.toNat (List.getElem?_eq_some_iff.1 HAT.out).2
      have hk0 : (0 : Int) ≤ k := by omega
      have hk1 : (k : Int) < l.length := by omega
      have hk2 : (k : Int) ≤ l.length := by omega
      have hk3 : (k : Int) + 1 ≤ l.length := by omega
      have hk4 : (0 : Int) ≤ (k : Int) + 1 := by omega
      have hk5 : ((k : Int) + 1).toNat = k + 1 := by omega
      have hw1 : IntKind.i64.wrap ((k : Int) + 1) = (k : Int) + 1 := IntWalk.i64_in _ (by have := HLL.out; omega)
      obtain ⟨x1, x2⟩ := HX12.out
      obtain ⟨d0, d1, f0, f1⟩ := HA.out.two
      obtain ⟨W5, hW5⟩ : ∃ W5, W5 = ((wr.setCell ⟨w.heap.size + 1, 0, none⟩ (.string sn)).setCell ⟨w.heap.size + 1, 1, none⟩ (.string sd)).drew := ⟨_, rfl⟩
      have HAF : Hid (Box W5 (w.heap.size + 1) [.string sn, .string sd] 26) := by rw [hW5]; exact ((HA.out.put 0 (.string sn)).put 1 (.string sd)).draw
      have HXF : Hid (Box W5 w.heap.size [.string ⟨#[]⟩, .string ⟨#[]⟩] 26) := by rw [hW5]; exact ((HX.out.other (p := ⟨w.heap.size + 1, 0, none⟩) (by show w.heap.size ≠ w.heap.size + 1; omega) (.string sn)).other (p := ⟨w.heap.size + 1, 1, none⟩) (by show w.heap.size ≠ w.heap.size + 1; omega) (.string sd)).draw
      have HBF : Hid (Below w.heap.size w W5) := by rw [hW5]; exact ((HB.out.setCell (by show w.heap.size ≤ w.heap.size + 1; omega) _).setCell (by show w.heap.size ≤ w.heap.size + 1; omega) _).drew
      go_upto_region 6 with fail
      go_region
      rw [← hW5]
      clear HA HX HB d0 d1 f0 f1 hW5
      have HA := HAF
      have HX := HXF
      have HB := HBF
      clear HAF HXF HBF
      obtain ⟨d0, d1, f0, f1⟩ := HA.out.two
      by_cases g0 : (sd.toList == [49]) = true
      · have HRW : Hid (res = frT ⟨#[]⟩ ⟨#[]⟩ 3) := HR.out.trans (if_pos (.inr (.inr g0)))
        obtain ⟨k0, k1, l0, l1⟩ := HX.out.two
        go_wp2_with fail
        obtain ⟨j0, j1⟩ := HX.out.full (a := .string ⟨#[]⟩) (b := .string ⟨#[]⟩)
        refine bodyPost_ret (v := .tuple #[.agg #[.string ⟨#[]⟩, .string ⟨#[]⟩], .int .i64 3]) (by simp [results, Tryz.results15, go_sem, j0, j1]) rfl ⟨by rw [HRW.out]; rfl, ?_⟩
        exact ((HB.out.setCell (Nat.le_refl _) _).setCell (Nat.le_refl _) _)
      · have HR : Hid (res = if c1 = 3 ∨ c2 = 3 then frT ⟨#[]⟩ ⟨#[]⟩ 3 else if e = 0 then frT sn sd 0 else frT ⟨#[]⟩ ⟨#[]⟩ e) := by
          refine HR.out.trans ?_
          by_cases h5 : c1 = 3 ∨ c2 = 3
          · rw [if_pos (h5.elim .inl (fun h => .inr (.inl h))), if_pos h5]
          · rw [if_neg (fun h => h.elim (fun h => h5 (.inl h)) (fun h => h.elim (fun h => h5 (.inr h)) g0)), if_neg h5]
        have g0 : (sd.toList == [49]) = false := by simpa using g0
        by_cases g1 : c1 = 3
        · have q1 : (c1 == 3) = true := by simp [g1]
          have HRW : Hid (res = frT ⟨#[]⟩ ⟨#[]⟩ 3) := HR.out.trans (if_pos (.inl g1))
          clear g1
          go_wp2_with (go_at_call 48; (with_reducible refine (H1.out _).mono ?_); rintro ec wa ⟨rfl, hbz⟩; have HB := hide (below_then HB.out hbz); have HX := hide (HX.out.below hbz); have HA := hide (HA.out.below hbz); obtain ⟨d0, d1, f0, f1⟩ := HA.out.two; obtain ⟨k0, k1, l0, l1⟩ := HX.out.two; clear hbz)
          obtain ⟨j0, j1⟩ := HX.out.full (a := .string ⟨#[]⟩) (b := .string ⟨#[]⟩)
          refine bodyPost_ret (v := .tuple #[.agg #[.string ⟨#[]⟩, .string ⟨#[]⟩], .int .i64 3]) (by simp [results, Tryz.results15, go_sem, j0, j1]) rfl ⟨by rw [HRW.out]; rfl, ?_⟩
          exact ((HB.out.setCell (Nat.le_refl _) _).setCell (Nat.le_refl _) _)
        · have q1 : (c1 == 3) = false := by simp [g1]
          by_cases g2 : c2 = 3
          · have q2 : (c2 == 3) = true := by simp [g2]
            have HRW : Hid (res = frT ⟨#[]⟩ ⟨#[]⟩ 3) := HR.out.trans (if_pos (.inr g2))
            clear g1 g2
            go_wp2_with (first | (have _t := HF; (go_at_call 48; (with_reducible refine (H1.out _).mono ?_); rintro ec wa ⟨rfl, hbz⟩; have HB := hide (below_then HB.out hbz); have HX := hide (HX.out.below hbz); have HA := hide (HA.out.below hbz); obtain ⟨d0, d1, f0, f1⟩ := HA.out.two; clear HF _t; clear hbz)) | (go_at_call 48; (with_reducible refine (H2.out _).mono ?_); rintro ec wb ⟨rfl, hbz⟩; have HB := hide (below_then HB.out hbz); have HX := hide (HX.out.below hbz); have HA := hide (HA.out.below hbz); obtain ⟨d0, d1, f0, f1⟩ := HA.out.two; obtain ⟨k0, k1, l0, l1⟩ := HX.out.two; clear hbz))
            obtain ⟨j0, j1⟩ := HX.out.full (a := .string ⟨#[]⟩) (b := .string ⟨#[]⟩)
            refine bodyPost_ret (v := .tuple #[.agg #[.string ⟨#[]⟩, .string ⟨#[]⟩], .int .i64 3]) (by simp [results, Tryz.results15, go_sem, j0, j1]) rfl ⟨by rw [HRW.out]; rfl, ?_⟩
            exact ((HB.out.setCell (Nat.le_refl _) _).setCell (Nat.le_refl _) _)
          · have q2 : (c2 == 3) = false := by simp [g2]
            have HR2 := hide (HR.out.trans (if_neg (fun h => h.elim g1 g2)))
            clear g1 g2
            by_cases g3 : e = 0
            · have q3 : (e != 0) = false := by simp [g3]
              have HRW : Hid (res = frT sn sd 0) := HR2.out.trans (if_pos g3)
              clear g3
              go_wp2_with (first | (have _t := HF; (go_at_call 48; (with_reducible refine (H1.out _).mono ?_); rintro ec wa ⟨rfl, hbz⟩; have HB := hide (below_then HB.out hbz); have HX := hide (HX.out.below hbz); have HA := hide (HA.out.below hbz); obtain ⟨d0, d1, f0, f1⟩ := HA.out.two; clear HF _t; clear hbz)) | (go_at_call 48; (with_reducible refine (H2.out _).mono ?_); rintro ec wb ⟨rfl, hbz⟩; have HB := hide (below_then HB.out hbz); have HX := hide (HX.out.below hbz); have HA := hide (HA.out.below hbz); obtain ⟨d0, d1, f0, f1⟩ := HA.out.two; clear hbz) | (go_at_call 33; (with_reducible refine (H3.out _).mono ?_); rintro ec wc ⟨rfl, hbz⟩; have HB := hide (below_then HB.out hbz); have HX := hide (HX.out.below hbz); have HA := hide (HA.out.below hbz); obtain ⟨d0, d1, f0, f1⟩ := HA.out.two; obtain ⟨k0, k1, l0, l1⟩ := HX.out.two; clear hbz))
              obtain ⟨j0, j1⟩ := HX.out.full (a := .string sn) (b := .string sd)
              refine bodyPost_ret (v := .tuple #[.agg #[.string sn, .string sd], .int .i64 0]) (by simp [results, Tryz.results15, go_sem, j0, j1]) rfl ⟨by rw [HRW.out]; rfl, ?_⟩
              exact ((HB.out.setCell (Nat.le_refl _) _).setCell (Nat.le_refl _) _)
            · have q3 : (e != 0) = true := by simpa using g3
              have HRW : Hid (res = frT ⟨#[]⟩ ⟨#[]⟩ e) := HR2.out.trans (if_neg g3)
              clear g3
              go_wp2_with (first | (have _t := HF; (go_at_call 48; (with_reducible refine (H1.out _).mono ?_); rintro ec wa ⟨rfl, hbz⟩; have HB := hide (below_then HB.out hbz); have HX := hide (HX.out.below hbz); have HA := hide (HA.out.below hbz); obtain ⟨d0, d1, f0, f1⟩ := HA.out.two; clear HF _t; clear hbz)) | (go_at_call 48; (with_reducible refine (H2.out _).mono ?_); rintro ec wb ⟨rfl, hbz⟩; have HB := hide (below_then HB.out hbz); have HX := hide (HX.out.below hbz); have HA := hide (HA.out.below hbz); obtain ⟨d0, d1, f0, f1⟩ := HA.out.two; clear hbz) | (go_at_call 33; (with_reducible refine (H3.out _).mono ?_); rintro ec wc ⟨rfl, hbz⟩; have HB := hide (below_then HB.out hbz); have HX := hide (HX.out.below hbz); have HA := hide (HA.out.below hbz); obtain ⟨d0, d1, f0, f1⟩ := HA.out.two; obtain ⟨k0, k1, l0, l1⟩ := HX.out.two; clear hbz))
              obtain ⟨j0, j1⟩ := HX.out.full (a := .string ⟨#[]⟩) (b := .string ⟨#[]⟩)
              refine bodyPost_ret (v := .tuple #[.agg #[.string ⟨#[]⟩, .string ⟨#[]⟩], .int .i64 e]) (by simp [results, Tryz.results15, go_sem, j0, j1]) rfl ⟨by rw [HRW.out]; rfl, ?_⟩
              exact ((HB.out.setCell (Nat.le_refl _) _).setCell (Nat.le_refl _) _)

theorem rfparse_any (l : List UInt8) (hl : l.length ≤ 140737488355328) (w : World) : Calls Tryz.prog 15 #[.string (strN l)] w fun r w' => r = .returned (parV l) ∧ Below w.heap.size w w' := by
  unfold parV parE parN parD
  rcases split_first l with ⟨h1, h2⟩ | ⟨i, h1, h2, h3, h4⟩
  · rw [h2]
    refine rfparse_part l hl h1 (strN l) ⟨#[49]⟩ rfl rfl (fun w' => rcheck_any l hl w') (fun w' => rcheck_any [49] (by decide) w') (fun w' => rfcheck_any l [49] hl (by decide)) ?_ w
    simp only [Option.getD_none, reduceCtorEq, or_false]
    split <;> rename_i h5
    · rw [if_neg (by simp)]
    · split <;> rename_i h6
      · rfl
      · rfl
  · rw [h4]
    have b1 : (l.take i).length ≤ 140737488355328 := by simp; omega
    have b2 : (l.drop (i + 1)).length ≤ 140737488355328 := by simp; omega
    refine rfparse_whole l hl i h1 h2 h3 (strN (l.take i)) (strN (l.drop (i + 1))) rfl rfl (fun w' => rcheck_any _ b1 w') (fun w' => rcheck_any _ b2 w') (fun w' => rfcheck_any _ _ b1 b2) ?_ w
    simp only [Option.getD_some, strN_toList, Option.some.injEq, beq_iff_eq]
    split <;> rename_i h5
    · rw [if_neg (by simp)]
    · split <;> rename_i h6
      · rfl
      · rfl
end Go.Proofs.YthpknfoahimopaaGreatDoor

set_option linter.unusedVariables false
set_option linter.unusedSimpArgs false
set_option linter.unnecessarySimpa false
namespace Go.Proofs.YthpknfoahimopaaGreatDoor
open Go.RowKit

set_option maxRecDepth 100000 in
set_option maxHeartbeats 4000000 in
theorem rwhole_zero (w : World) : Calls Tryz.prog 87 #[.int .i64 0] w fun e w' => e = .returned (.agg #[.string (strN (txtI 0)), .string (strN (txtI 1))]) ∧ Below w.heap.size w w' := by
  have H1 : Hid (∀ w', Calls Tryz.prog 114 #[.int .i64 0] w' fun e w2 => e = .returned (.string (strN (txtI 0))) ∧ Below w'.heap.size w' w2) := fun w' => rof_any (n := 0) ⟨by omega, by omega⟩ w'
  rw [show strN (txtI 1) = ⟨#[49]⟩ from by rw [txtI_one]; rfl]
  generalize strN (txtI 0) = sp at *
  have HW : Hid (Below w.heap.size w (w.alloc (.cells #[.string ⟨#[]⟩, .string ⟨#[]⟩] 26))) := bnew (Below.refl _ _) _
  have HX := hide (Box.new w [.string ⟨#[]⟩, .string ⟨#[]⟩] 26)
  go_enter Tryz.func87, Tryz.ntmps87
  go_wp2_with (go_at_call 114; (with_reducible refine (H1.out _).mono ?_); rintro ec w5 ⟨rfl, hbz⟩; have HB := hide (below_then HW.out hbz); have HX5 := hide (HX.out.below hbz); obtain ⟨k0, k1, l0, l1⟩ := HX5.out.two; clear hbz)
  obtain ⟨j0, j1⟩ := HX5.out.full (a := .string sp) (b := .string ⟨#[49]⟩)
  refine bodyPost_ret (v := .agg #[.string sp, .string ⟨#[49]⟩]) (by simp [results, Tryz.results87, go_sem, j0, j1]) rfl ⟨rfl, ?_⟩
  exact ((HB.out.setCell (Nat.le_refl _) _).setCell (Nat.le_refl _) _)

set_option maxRecDepth 100000 in
set_option maxHeartbeats 4000000 in
theorem rfsum_many (xs : List FrX) (oa : Option Addr) (c : Nat) (w : World) (hl : 4096 < xs.length) (hm : xs.length ≤ 9223372036854775807) : Calls Tryz.prog 47 #[.slice oa xs.length c] w fun e w' => e = .returned (sumV xs) ∧ Below w.heap.size w w' := by
  have HR : Hid (sumV xs = frT ⟨#[]⟩ ⟨#[]⟩ 5) := if_pos hl
  unfold frT at HR
  have q1 : decide ((4096 : Int) < (xs.length : Int)) = true := by simp; omega
  have HB : Hid (Below w.heap.size w (w.alloc (.cells #[.string ⟨#[]⟩, .string ⟨#[]⟩] 26))) := bnew (Below.refl _ _) _
  have HX := hide (Box.new w [.string ⟨#[]⟩, .string ⟨#[]⟩] 26)
  clear hl
  go_enter Tryz.func47, Tryz.ntmps47
  go_wp2_with fail
  obtain ⟨j0, j1, _, _⟩ := HX.out.two
  exact bodyPost_ret (v := .tuple #[.agg #[.string ⟨#[]⟩, .string ⟨#[]⟩], .int .i64 5]) (by simp [results, Tryz.results47, go_sem, j0, j1]) rfl ⟨by rw [HR.out], HB.out⟩

theorem below4 {w w' : World} {a b c d : Addr} {u v x y : Value} (h : Below w.heap.size w w') (hc : w.cell? a = some u ∧ w.cell? b = some v ∧ w.cell? c = some x ∧ w.cell? d = some y) : w'.cell? a = some u ∧ w'.cell? b = some v ∧ w'.cell? c = some x ∧ w'.cell? d = some y :=
  ⟨(h.cell (World.block_lt_of_cell? _ _ hc.1)).trans hc.1, (h.cell (World.block_lt_of_cell? _ _ hc.2.1)).trans hc.2.1, (h.cell (World.block_lt_of_cell? _ _ hc.2.2.1)).trans hc.2.2.1, (h.cell (World.block_lt_of_cell? _ _ hc.2.2.2)).trans hc.2.2.2⟩
theorem next4 {w : World} {a b c d : Addr} {u v x y : Value} (hc : w.cell? a = some u ∧ w.cell? b = some v ∧ w.cell? c = some x ∧ w.cell? d = some y) (o : Obj) : (w.alloc o).cell? a = some u ∧ (w.alloc o).cell? b = some v ∧ (w.alloc o).cell? c = some x ∧ (w.alloc o).cell? d = some y :=
  below4 (bnew (Below.refl _ _) o) hc
theorem set4 {w : World} {p b i j k l C : Nat} {s t u v x y : Value} (hc : w.cell? ⟨p, i, none⟩ = some s ∧ w.cell? ⟨p, j, none⟩ = some t ∧ w.cell? ⟨b, k, none⟩ = some u ∧ w.cell? ⟨b, l, none⟩ = some v) (hp : p < C) (hb : b < C) :
    ((w.setCell ⟨C, 0, none⟩ x).setCell ⟨C, 1, none⟩ y).cell? ⟨p, i, none⟩ = some s ∧ ((w.setCell ⟨C, 0, none⟩ x).setCell ⟨C, 1, none⟩ y).cell? ⟨p, j, none⟩ = some t ∧ ((w.setCell ⟨C, 0, none⟩ x).setCell ⟨C, 1, none⟩ y).cell? ⟨b, k, none⟩ = some u ∧ ((w.setCell ⟨C, 0, none⟩ x).setCell ⟨C, 1, none⟩ y).cell? ⟨b, l, none⟩ = some v := by
  have B : Below C w ((w.setCell ⟨C, 0, none⟩ x).setCell ⟨C, 1, none⟩ y) := ((Below.refl C w).setCell (p := ⟨C, 0, none⟩) (Nat.le_refl C) x).setCell (p := ⟨C, 1, none⟩) (Nat.le_refl C) y
  exact ⟨(B.cell hp).trans hc.1, (B.cell hp).trans hc.2.1, (B.cell hb).trans hc.2.2.1, (B.cell hb).trans hc.2.2.2⟩
set_option maxRecDepth 100000 in
set_option maxHeartbeats 4000000 in
theorem rfsum_any (xs : List FrX) (oa : Option Addr) (c : Nat) (F : Foot) (w : World) (hs : SliceR frR 2 F w oa xs) (hl : xs.length ≤ 4096) : Calls Tryz.prog 47 #[.slice oa xs.length c] w fun e w' => e = .returned (sumV xs) ∧ Below w.heap.size w w' := by
  have HS := hide hs
  have HL := hide hl
  have HRV : Hid (sumV xs = if firstE xs ≠ 0 then frT ⟨#[]⟩ ⟨#[]⟩ (firstE xs) else
    match sumG (0, 1) xs with
    | some a => frT (strN (txtI a.1)) (strN (txtI a.2)) 0
    | none => frT ⟨#[]⟩ ⟨#[]⟩ 11) := if_neg (by omega)
  obtain ⟨res, hres⟩ : ∃ r, r = sumV xs := ⟨_, rfl⟩
  rw [← hres] at HRV ⊢
  have HWH : Hid (∀ w', Calls Tryz.prog 87 #[.int .i64 0] w' fun e w2 => e = .returned (.agg #[.string (strN (txtI 0)), .string (strN (txtI 1))]) ∧ Below w'.heap.size w' w2) := fun w' => rwhole_zero w'
  have q1 : decide ((4096 : Int) < (xs.length : Int)) = false := by simp; omega
  have HB : Hid (Below w.heap.size w (w.alloc (.cells #[.string ⟨#[]⟩, .string ⟨#[]⟩] 26))) := bnew (Below.refl _ _) _
  have HX := hide (Box.new w [.string ⟨#[]⟩, .string ⟨#[]⟩] 26)
  clear hs hl hres
  go_enter Tryz.func47, Tryz.ntmps47
  go_upto_region 4 with fail
  go_loopw [4] (fun i wr => ∃ k : Nat, k ≤ xs.length ∧ i = .int .i64 k ∧ Hid (firstE xs = firstE (xs.drop k)) ∧ Hid (Below w.heap.size w wr) ∧ Hid (Box wr w.heap.size [.string ⟨#[]⟩, .string ⟨#[]⟩] 26)) (fun i _ => xs.length - (intOf i).toNat)
  case atStart => exact ⟨0, by omega, rfl, rfl, HB, HX⟩
  case round =>
    clear HB HX
    obtain ⟨k, hk, rfl, HE, HB, HX⟩ := hrel
    by_cases hlt : k < xs.length
    · obtain ⟨s, t, hd, hget, hsl, htl, b, off, rfl, _, c0, c1⟩ := (HS.out.below frR_ok HB.out).fr_at hlt
      have HD := hide hd
      have hk0 : (0 : Int) ≤ k := by omega
      have hk1 : (k : Int) < xs.length := by omega
      have hll := HL.out
      obtain ⟨e, he⟩ : ∃ e, e = chkF s t := ⟨_, rfl⟩
      have H1 : Hid (∀ w', Calls Tryz.prog 33 #[.agg #[.string (strN s), .string (strN t)]] w' fun r w2 => r = .returned (.int .i64 e) ∧ Below w'.heap.size w' w2) := fun w' => by
        rw [he]
        exact rfcheck_any s t hsl htl
      have HE2 : Hid (firstE xs = errOr e (firstE (xs.drop (k + 1)))) := by
        show _ = _
        rw [HE.out, HD.out, he]
        rfl
      generalize strN s = sp at *
      generalize strN t = sq at *
      clear hd hget hsl htl he
      by_cases h0 : e = 0
      · have q0 : (e != 0) = false := by simp [h0]
        have HE3 : Hid (firstE xs = firstE (xs.drop (k + 1))) := HE2.out.trans (if_neg (by simp [h0]))
        clear h0
        go_wp2_with (go_at_call 33; (with_reducible refine (H1.out _).mono ?_); rintro ec w5 ⟨rfl, hbz⟩; have HB5 := hide (below_then HB.out hbz); have HX5 := hide (HX.out.below hbz); clear hbz)
        go_roundw
        case rel => exact ⟨k + 1, by omega, by go_num, HE3, HB5, HX5⟩
        case measure => simp [intOf]; omega
      · have q0 : (e != 0) = true := by simpa using h0
        have HE3 : Hid (firstE xs = e) := HE2.out.trans (if_pos h0)
        have HRW : Hid (res = frT ⟨#[]⟩ ⟨#[]⟩ e) := by
          show res = _
          rw [HRV.out, HE3.out, if_pos h0]
        clear h0
        go_wp2_with (go_at_call 33; (with_reducible refine (H1.out _).mono ?_); rintro ec w5 ⟨rfl, hbz⟩; have HB5 := hide (below_then HB.out hbz); have HX5 := hide (HX.out.below hbz); obtain ⟨k0, k1, l0, l1⟩ := HX5.out.two; clear hbz)
        obtain ⟨j0, j1⟩ := HX5.out.full (a := .string ⟨#[]⟩) (b := .string ⟨#[]⟩)
        refine bodyPost_ret (v := .tuple #[.agg #[.string ⟨#[]⟩, .string ⟨#[]⟩], .int .i64 e]) (by simp [results, Tryz.results47, go_sem, j0, j1]) rfl ⟨by rw [HRW.out]; rfl, ?_⟩
        exact ((HB5.out.setCell (Nat.le_refl _) _).setCell (Nat.le_refl _) _)
    · have hke : k = xs.length := by omega
      subst hke
      have HE0 : Hid (firstE xs = 0) := by
        show _ = _
        rw [HE.out, List.drop_length]
        rfl
      have HRU : Hid (res = match sumG (0, 1) xs with
        | some a => frT (strN (txtI a.1)) (strN (txtI a.2)) 0
        | none => frT ⟨#[]⟩ ⟨#[]⟩ 11) := HRV.out.trans (if_neg (by rw [HE0.out]; simp))
      have HALL := hide (firstE_all HE0.out)
      clear HE HRV
      go_upto_region 11 with (go_at_call 87; (with_reducible refine (HWH.out _).mono ?_); rintro ec w6 ⟨rfl, hbz⟩; have HB := hide (below_then HB.out hbz); have HX := hide (HX.out.below hbz); clear hbz)
      have HO6 : Hid (FBox (w6.alloc (.cells #[.string (strN (txtI 0)), .string (strN (txtI 1))] 26)) w6.heap.size 0 1) := Box.new w6 [.string (strN (txtI 0)), .string (strN (txtI 1))] 26
      have HPW : Hid (w.heap.size < w6.heap.size) := HX.out.lt
      have HB6 : Hid (Below w.heap.size w (w6.alloc (.cells #[.string (strN (txtI 0)), .string (strN (txtI 1))] 26))) := bnew HB.out _
      have HX6 : Hid (Box (w6.alloc (.cells #[.string (strN (txtI 0)), .string (strN (txtI 1))] 26)) w.heap.size [.string ⟨#[]⟩, .string ⟨#[]⟩] 26) := HX.out.next _
      obtain ⟨p, hp⟩ : ∃ p, p = w6.heap.size := ⟨_, rfl⟩
      rw [← hp] at HO6 HPW ⊢
      clear hp
      go_loopw [7] (fun i wx => ∃ (k : Nat) (a : Int × Int), k ≤ xs.length ∧ i = .int .i64 k ∧ Hid (sumG (0, 1) xs = sumG a (xs.drop k)) ∧ Hid (Good a.1 a.2) ∧ Hid (Below w.heap.size w wx) ∧ Hid (Box wx w.heap.size [.string ⟨#[]⟩, .string ⟨#[]⟩] 26) ∧ Hid (FBox wx p a.1 a.2)) (fun i _ => xs.length - (intOf i).toNat)
      case atStart => exact ⟨0, (0, 1), by omega, rfl, rfl, good_01, HB6, HX6, HO6⟩
      case round =>
        clear HB6 HX6 HO6
        obtain ⟨k, a, hk, rfl, HG, HGD, HB, HX, HO⟩ := hrel
        by_cases hlt : k < xs.length
        · obtain ⟨s, t, hd, hget, hsl, htl, b, off, rfl, _, c0, c1⟩ := (HS.out.below frR_ok HB.out).fr_at hlt
          obtain ⟨r, y, rfl, rfl, hg2⟩ := chkF_good (HALL.out (s, t) (List.mem_of_getElem? hget))
          obtain ⟨p0, q0⟩ := a
          have HGD2 : Hid (Good p0 q0) := HGD.out
          have hm0 : q0 * y ≠ 0 := HGD2.out.mul0 hg2
          have HM0 := hide hm0
          have hk0 : (0 : Int) ≤ k := by omega
          have hk1 : (k : Int) < xs.length := by omega
          have hll := HL.out
          have HG2 : Hid (sumG (0, 1) xs = if combK (p0 * y) (r * q0) (p0 * y + r * q0) (q0 * y) then sumG (lowF (p0 * y + r * q0) (q0 * y)) (xs.drop (k + 1)) else none) := by
            show _ = _
            rw [HG.out, hd]
            show (if combK (p0 * readI (txtI y)) (readI (txtI r) * q0) (p0 * readI (txtI y) + readI (txtI r) * q0) (q0 * readI (txtI y)) then sumG (lowF (p0 * readI (txtI y) + readI (txtI r) * q0) (q0 * readI (txtI y))) (xs.drop (k + 1)) else none) = _
            rw [readI_txtI, readI_txtI]
          have HOB : Hid (Box wr p [.string (strN (txtI p0)), .string (strN (txtI q0))] 26) := HO.out
          have H1 : Hid (∀ w', Calls Tryz.prog 34 #[.agg #[.string (strN (txtI p0)), .string (strN (txtI q0))], .agg #[.string (strN (txtI r)), .string (strN (txtI y))]] w' fun e w2 => e = .returned (opV (combK (p0 * y) (r * q0) (p0 * y + r * q0) (q0 * y)) (lowF (p0 * y + r * q0) (q0 * y))) ∧ Below w'.heap.size w' w2) := fun w' => rfadd_ok HGD2.out hg2 w'
          clear hd hget hsl htl hg2 HG HGD HO hm0
          have HGK : Hid (combK (p0 * y) (r * q0) (p0 * y + r * q0) (q0 * y) = true → Good (lowF (p0 * y + r * q0) (q0 * y)).1 (lowF (p0 * y + r * q0) (q0 * y)).2) := fun h => good_comb h HM0.out
          have HC0 : Hid (wr.cell? ⟨b, off + k * 2, none⟩ = some (.string (strN (txtI r))) ∧ wr.cell? ⟨b, off + k * 2 + 1, none⟩ = some (.string (strN (txtI y)))) := ⟨c0, c1⟩
          clear c0 c1
          generalize combK (p0 * y) (r * q0) (p0 * y + r * q0) (q0 * y) = kk at *
          generalize lowF (p0 * y + r * q0) (q0 * y) = z at *
          clear HM0
          generalize strN (txtI p0) = sp at *
          generalize strN (txtI q0) = sq at *
          generalize strN (txtI r) = sr at *
          generalize strN (txtI y) = ss at *
          have HC : Hid (wr.drew.cell? ⟨p, 0, none⟩ = some (.string sp) ∧ wr.drew.cell? ⟨p, 1, none⟩ = some (.string sq) ∧ wr.drew.cell? ⟨b, off + k * 2, none⟩ = some (.string sr) ∧ wr.drew.cell? ⟨b, off + k * 2 + 1, none⟩ = some (.string ss)) := ⟨HOB.out.draw.cell 0, HOB.out.draw.cell 1, HC0.out.1, HC0.out.2⟩
          cases kk
          · have HRW : Hid (res = frT ⟨#[]⟩ ⟨#[]⟩ 11) := by
              show res = _
              rw [HRU.out, HG2.out]
              rfl
            unfold opV frT at H1
            simp only [Bool.false_eq_true, if_false] at H1
            have HP : Hid (p < wr.heap.size ∧ b < wr.heap.size) := ⟨HOB.out.lt, World.block_lt_of_cell? _ _ HC0.out.1⟩
            have hhs : w.heap.size ≤ wr.heap.size := HB.out.size
            have HQ : Hid ((wr.alloc (.cells #[.string ⟨#[]⟩, .string ⟨#[]⟩] 26)).drew.cell? ⟨p, 0, none⟩ = some (.string sp) ∧ (wr.alloc (.cells #[.string ⟨#[]⟩, .string ⟨#[]⟩] 26)).drew.cell? ⟨p, 1, none⟩ = some (.string sq) ∧ (wr.alloc (.cells #[.string ⟨#[]⟩, .string ⟨#[]⟩] 26)).drew.cell? ⟨b, off + k * 2, none⟩ = some (.string sr) ∧ (wr.alloc (.cells #[.string ⟨#[]⟩, .string ⟨#[]⟩] 26)).drew.cell? ⟨b, off + k * 2 + 1, none⟩ = some (.string ss)) := next4 (w := wr) ⟨HOB.out.cell 0, HOB.out.cell 1, HC0.out.1, HC0.out.2⟩ (.cells #[.string ⟨#[]⟩, .string ⟨#[]⟩] 26)
            have hhp : p < wr.heap.size := HP.out.1
            have hpw := HPW.out
            go_upto_region 13 with fail
            go_region_held3 (fun w' => w'.cell? ⟨p, 0, none⟩ = some (.string sp) ∧ w'.cell? ⟨p, 1, none⟩ = some (.string sq) ∧ w'.cell? ⟨b, off + k * 2, none⟩ = some (.string sr) ∧ w'.cell? ⟨b, off + k * 2 + 1, none⟩ = some (.string ss)) (first | with_reducible exact HC.out | with_reducible exact next4 HC.out _ | with_reducible exact HQ.out) (first
              | (go_at_call 34; (with_reducible refine (H1.out _).mono ?_); rintro ec w5 ⟨rfl, hbz⟩; have HBc := hide (below_then HB.out.drew hbz); have HXc := hide (HX.out.draw.below hbz); have HOc := hide (HOB.out.draw.below hbz); have HC := hide (below4 hbz HC.out); have HQ := HC; clear hbz)
              | (go_at_call 34; (with_reducible refine (H1.out _).mono ?_); rintro ec w5 ⟨rfl, hbz⟩; have HBc := hide (below_then (bnew HB.out _).drew hbz); have HXc := hide ((HX.out.next _).draw.below hbz); have HOc := hide ((HOB.out.next _).draw.below hbz); have HN := hide ((Box.new wr [.string ⟨#[]⟩, .string ⟨#[]⟩] 26).draw.below hbz); obtain ⟨k0, k1, l0, l1⟩ := HN.out.two; have HC := hide (below4 hbz (next4 HC.out _)); have HQ := hide (set4 (C := wr.heap.size) (x := .string ⟨#[]⟩) (y := .string ⟨#[]⟩) HC.out HP.out.1 HP.out.2); clear hbz))
            · have HB5 := hide (bnew HBc.out (.cells #[.string ⟨#[]⟩, .string ⟨#[]⟩] 26))
              have HX5 := hide (HXc.out.next (.cells #[.string ⟨#[]⟩, .string ⟨#[]⟩] 26))
              have HO5 := hide (HOc.out.next (.cells #[.string ⟨#[]⟩, .string ⟨#[]⟩] 26))
              obtain ⟨k0, k1, l0, l1⟩ := HX5.out.two
              go_wp2_with fail
              obtain ⟨j0, j1⟩ := HX5.out.full (a := .string ⟨#[]⟩) (b := .string ⟨#[]⟩)
              refine bodyPost_ret (v := .tuple #[.agg #[.string ⟨#[]⟩, .string ⟨#[]⟩], .int .i64 11]) (by simp [results, Tryz.results47, go_sem, j0, j1]) rfl ⟨by rw [HRW.out]; rfl, ?_⟩
              exact ((HB5.out.setCell (Nat.le_refl _) _).setCell (Nat.le_refl _) _)
            · have HB5 := hide ((HBc.out.setCell (p := ⟨wr.heap.size, 0, none⟩) hhs (.string ⟨#[]⟩)).setCell (p := ⟨wr.heap.size, 1, none⟩) hhs (.string ⟨#[]⟩))
              have HX5 := hide ((HXc.out.other (p := ⟨wr.heap.size, 0, none⟩) (by show w.heap.size ≠ wr.heap.size; omega) (.string ⟨#[]⟩)).other (p := ⟨wr.heap.size, 1, none⟩) (by show w.heap.size ≠ wr.heap.size; omega) (.string ⟨#[]⟩))
              have HO5 := hide ((HOc.out.other (p := ⟨wr.heap.size, 0, none⟩) (by show p ≠ wr.heap.size; omega) (.string ⟨#[]⟩)).other (p := ⟨wr.heap.size, 1, none⟩) (by show p ≠ wr.heap.size; omega) (.string ⟨#[]⟩))
              obtain ⟨n0, n1⟩ := HN.out.full (a := .string ⟨#[]⟩) (b := .string ⟨#[]⟩)
              clear k0 k1 l0 l1
              obtain ⟨k0, k1, l0, l1⟩ := HX5.out.two
              go_wp2_with fail
              obtain ⟨j0, j1⟩ := HX5.out.full (a := .string ⟨#[]⟩) (b := .string ⟨#[]⟩)
              refine bodyPost_ret (v := .tuple #[.agg #[.string ⟨#[]⟩, .string ⟨#[]⟩], .int .i64 11]) (by simp [results, Tryz.results47, go_sem, j0, j1]) rfl ⟨by rw [HRW.out]; rfl, ?_⟩
              exact ((HB5.out.setCell (Nat.le_refl _) _).setCell (Nat.le_refl _) _)
          · have HG3 : Hid (sumG (0, 1) xs = sumG z (xs.drop (k + 1))) := HG2.out
            have HZG := hide (HGK.out rfl)
            unfold opV frT at H1
            simp only [if_true] at H1
            obtain ⟨sa, hsa⟩ : ∃ v, v = strN (txtI z.1) := ⟨_, rfl⟩
            obtain ⟨sb, hsb⟩ : ∃ v, v = strN (txtI z.2) := ⟨_, rfl⟩
            rw [← hsa, ← hsb] at H1
            have HSA : Hid (sa = strN (txtI z.1) ∧ sb = strN (txtI z.2)) := ⟨hsa, hsb⟩
            clear hsa hsb
            have HP : Hid (p < wr.heap.size ∧ b < wr.heap.size) := ⟨HOB.out.lt, World.block_lt_of_cell? _ _ HC0.out.1⟩
            have hhs : w.heap.size ≤ wr.heap.size := HB.out.size
            have HQ : Hid ((wr.alloc (.cells #[.string ⟨#[]⟩, .string ⟨#[]⟩] 26)).drew.cell? ⟨p, 0, none⟩ = some (.string sp) ∧ (wr.alloc (.cells #[.string ⟨#[]⟩, .string ⟨#[]⟩] 26)).drew.cell? ⟨p, 1, none⟩ = some (.string sq) ∧ (wr.alloc (.cells #[.string ⟨#[]⟩, .string ⟨#[]⟩] 26)).drew.cell? ⟨b, off + k * 2, none⟩ = some (.string sr) ∧ (wr.alloc (.cells #[.string ⟨#[]⟩, .string ⟨#[]⟩] 26)).drew.cell? ⟨b, off + k * 2 + 1, none⟩ = some (.string ss)) := next4 (w := wr) ⟨HOB.out.cell 0, HOB.out.cell 1, HC0.out.1, HC0.out.2⟩ (.cells #[.string ⟨#[]⟩, .string ⟨#[]⟩] 26)
            have hhp : p < wr.heap.size := HP.out.1
            have hpw := HPW.out
            go_upto_region 13 with fail
            go_region_held3 (fun w' => w'.cell? ⟨p, 0, none⟩ = some (.string sp) ∧ w'.cell? ⟨p, 1, none⟩ = some (.string sq) ∧ w'.cell? ⟨b, off + k * 2, none⟩ = some (.string sr) ∧ w'.cell? ⟨b, off + k * 2 + 1, none⟩ = some (.string ss)) (first | with_reducible exact HC.out | with_reducible exact next4 HC.out _ | with_reducible exact HQ.out) (first
              | (go_at_call 34; (with_reducible refine (H1.out _).mono ?_); rintro ec w5 ⟨rfl, hbz⟩; have HBc := hide (below_then HB.out.drew hbz); have HXc := hide (HX.out.draw.below hbz); have HOc := hide (HOB.out.draw.below hbz); have HC := hide (below4 hbz HC.out); have HQ := HC; clear hbz)
              | (go_at_call 34; (with_reducible refine (H1.out _).mono ?_); rintro ec w5 ⟨rfl, hbz⟩; have HBc := hide (below_then (bnew HB.out _).drew hbz); have HXc := hide ((HX.out.next _).draw.below hbz); have HOc := hide ((HOB.out.next _).draw.below hbz); have HN := hide ((Box.new wr [.string ⟨#[]⟩, .string ⟨#[]⟩] 26).draw.below hbz); obtain ⟨k0, k1, l0, l1⟩ := HN.out.two; have HC := hide (below4 hbz (next4 HC.out _)); have HQ := hide (set4 (C := wr.heap.size) (x := .string sa) (y := .string sb) HC.out HP.out.1 HP.out.2); clear hbz))
            · have HB5 := hide (bnew HBc.out (.cells #[.string sa, .string sb] 26))
              have HX5 := hide (HXc.out.next (.cells #[.string sa, .string sb] 26))
              have HO5 := hide (HOc.out.next (.cells #[.string sa, .string sb] 26))
              obtain ⟨k0, k1, l0, l1⟩ := HO5.out.two
              go_wp2_with fail
              go_roundw
              case rel =>
                refine ⟨k + 1, z, by omega, by go_num, HG3, HZG, ?_, ?_, ?_⟩
                · exact (HB5.out.setCell (by show w.heap.size ≤ p; omega) _).setCell (by show w.heap.size ≤ p; omega) _
                · exact (HX5.out.other (p := ⟨p, 0, none⟩) (by show w.heap.size ≠ p; omega) _).other (p := ⟨p, 1, none⟩) (by show w.heap.size ≠ p; omega) _
                · have h5 := (HO5.out.put 0 (.string sa)).put 1 (.string sb)
                  rw [HSA.out.1, HSA.out.2] at h5 ⊢
                  exact h5
              case measure => simp [intOf]; omega
            · have HB5 := hide ((HBc.out.setCell (p := ⟨wr.heap.size, 0, none⟩) hhs (.string sa)).setCell (p := ⟨wr.heap.size, 1, none⟩) hhs (.string sb))
              have HX5 := hide ((HXc.out.other (p := ⟨wr.heap.size, 0, none⟩) (by show w.heap.size ≠ wr.heap.size; omega) (.string sa)).other (p := ⟨wr.heap.size, 1, none⟩) (by show w.heap.size ≠ wr.heap.size; omega) (.string sb))
              have HO5 := hide ((HOc.out.other (p := ⟨wr.heap.size, 0, none⟩) (by show p ≠ wr.heap.size; omega) (.string sa)).other (p := ⟨wr.heap.size, 1, none⟩) (by show p ≠ wr.heap.size; omega) (.string sb))
              obtain ⟨n0, n1⟩ := HN.out.full (a := .string sa) (b := .string sb)
              clear k0 k1 l0 l1
              obtain ⟨k0, k1, l0, l1⟩ := HO5.out.two
              go_wp2_with fail
              go_roundw
              case rel =>
                refine ⟨k + 1, z, by omega, by go_num, HG3, HZG, ?_, ?_, ?_⟩
                · exact (HB5.out.setCell (by show w.heap.size ≤ p; omega) _).setCell (by show w.heap.size ≤ p; omega) _
                · exact (HX5.out.other (p := ⟨p, 0, none⟩) (by show w.heap.size ≠ p; omega) _).other (p := ⟨p, 1, none⟩) (by show w.heap.size ≠ p; omega) _
                · have h5 := (HO5.out.put 0 (.string sa)).put 1 (.string sb)
                  rw [HSA.out.1, HSA.out.2] at h5 ⊢
                  exact h5
              case measure => simp [intOf]; omega
        · have hke : k = xs.length := by omega
          subst hke
          have HRW : Hid (res = frT (strN (txtI a.1)) (strN (txtI a.2)) 0) := by
            show res = _
            rw [HRU.out, HG.out, List.drop_length]
            rfl
          have HOB : Hid (Box wr p [.string (strN (txtI a.1)), .string (strN (txtI a.2))] 26) := HO.out
          generalize strN (txtI a.1) = sa at *
          generalize strN (txtI a.2) = sb at *
          obtain ⟨d0, d1, _, _⟩ := HOB.out.two
          obtain ⟨k0, k1, l0, l1⟩ := HX.out.two
          go_wp2_with fail
          obtain ⟨j0, j1⟩ := HX.out.full (a := .string sa) (b := .string sb)
          refine bodyPost_ret (v := .tuple #[.agg #[.string sa, .string sb], .int .i64 0]) (by simp [results, Tryz.results47, go_sem, j0, j1]) rfl ⟨by rw [HRW.out]; rfl, ?_⟩
          exact ((HB.out.setCell (Nat.le_refl _) _).setCell (Nat.le_refl _) _)

end Go.Proofs.YthpknfoahimopaaGreatDoor

set_option linter.unusedVariables false
set_option linter.unusedSimpArgs false
set_option linter.unnecessarySimpa false
namespace Go.Proofs.YthpknfoahimopaaGreatDoor
open Go.RowKit

def fewF (x : FrX) : Bool := fewT x.1 && fewT x.2
def fewN (n : Nat) : Bool := decide (n ≤ 40) || (decide (4096 < n) && decide (n < 8192))
/-- Few fractions, with short numbers. -/
def fewAllB (xs : List FrX) : Bool := (xs.take 40).all fewF && fewN xs.length
set_option maxRecDepth 100000 in
set_option maxHeartbeats 4000000 in
theorem rffewall_any (xs : List FrX) (oa : Option Addr) (c : Nat) (F : Foot) (w : World) (hs : SliceR frR 2 F w oa xs) (hm : xs.length ≤ 9223372036854775807) : Calls Tryz.prog 45 #[.slice oa xs.length c] w fun e w' => e = .returned (.bool (fewAllB xs)) ∧ Below w.heap.size w w' := by
  have HS := hide hs
  have HM := hide hm
  clear hs hm
  go_enter Tryz.func45, Tryz.ntmps45
  go_wp2_with fail
  go_loopw [3] (fun i wr => ∃ k : Nat, k ≤ xs.length ∧ k ≤ 40 ∧ i = .int .i64 k ∧ Hid ((xs.take 40).all fewF = ((xs.take 40).drop k).all fewF) ∧ Hid (Below w.heap.size w wr)) (fun i _ => xs.length - (intOf i).toNat)
  case atStart => exact ⟨0, by omega, by omega, rfl, rfl, Below.refl _ _⟩
  case round =>
    obtain ⟨k, hk, hk4, rfl, HE, HB⟩ := hrel
    by_cases hlt : k < xs.length ∧ k < 40
    · obtain ⟨hlt, h40⟩ := hlt
      obtain ⟨s, t, hd, hget, hsl, htl, b, off, rfl, _, c0, c1⟩ := (HS.out.below frR_ok HB.out).fr_at hlt
      have hk0 : (0 : Int) ≤ k := by omega
      have hk1 : (k : Int) < xs.length := by omega
      have q4 : decide ((k : Int) < 40) = true := by simp; omega
      have hmm := HM.out
      have HE2 : Hid ((xs.take 40).all fewF = ((fewT s && fewT t) && ((xs.take 40).drop (k + 1)).all fewF)) := by
        show _ = _
        rw [HE.out]
        have h5 : (xs.take 40)[k]? = some (s, t) := by rw [List.getElem?_take_of_lt h40]; exact hget
        obtain ⟨h6, h7⟩ := List.getElem?_eq_some_iff.1 h5
        rw [List.drop_eq_getElem_cons h6, h7]
        rfl
      have H1 : Hid (∀ w', Calls Tryz.prog 26 #[.agg #[.string (strN s), .string (strN t)]] w' fun e w2 => e = .returned (.bool (fewT s && fewT t)) ∧ Below w'.heap.size w' w2) := fun w' => rffew_any s t hsl htl w'
      generalize (fewT s && fewT t) = f at *
      clear hd hget hsl htl
      cases f
      · have HR : Hid (fewAllB xs = false) := by
          show _ = _
          unfold fewAllB
          rw [HE2.out]
          rfl
        go_wp2_with (go_at_call 26; (with_reducible refine (H1.out _).mono ?_); rintro ec w5 ⟨rfl, hbz⟩; have HB5 := hide (below_then HB.out hbz); clear hbz)
        go_ret
        exact ⟨by rw [HR.out]; rfl, HB5.out⟩
      · have HE3 : Hid ((xs.take 40).all fewF = ((xs.take 40).drop (k + 1)).all fewF) := by
          show _ = _
          rw [HE2.out]
          rfl
        go_wp2_with (go_at_call 26; (with_reducible refine (H1.out _).mono ?_); rintro ec w5 ⟨rfl, hbz⟩; have HB5 := hide (below_then HB.out hbz); clear hbz)
        go_roundw
        case rel => exact ⟨k + 1, by omega, by omega, by go_num, HE3, HB5⟩
        case measure => simp [intOf]; omega
    · have HE0 : Hid ((xs.take 40).all fewF = true) := by
        show _ = _
        rw [HE.out, List.drop_eq_nil_of_le (by rw [List.length_take]; omega)]
        rfl
      have HRV : Hid (fewAllB xs = fewN xs.length) := by
        show _ = _
        unfold fewAllB
        rw [HE0.out]
        rfl
      have hmm := HM.out
      have q1 : (if (k : Int) < (xs.length : Int) then decide ((k : Int) < 40) else false) = false := by split <;> simp <;> omega
      by_cases g1 : xs.length ≤ 40
      · have hkl : ¬ (k : Int) < (xs.length : Int) := by omega
        have HR : Hid (fewAllB xs = true) := by
          show _ = _
          rw [HRV.out]
          unfold fewN
          rw [decide_eq_true g1]
          rfl
        have q3 : decide ((xs.length : Int) ≤ 40) = true := by simp; omega
        have q2 : decide ((k : Int) < (xs.length : Int)) = false := by simp; omega
        clear hlt
        go_wp2_with fail
        go_ret
        exact ⟨by rw [HR.out]; rfl, HB.out⟩
      · have hk40 : k = 40 := by omega
        subst hk40
        have q2 : decide (((40 : Nat) : Int) < (xs.length : Int)) = true := by simp; omega
        have q3 : decide ((xs.length : Int) ≤ 40) = false := by simp; omega
        by_cases g2 : 4096 < xs.length
        · have HR : Hid (fewAllB xs = decide ((xs.length : Int) < 8192)) := by
            show _ = _
            rw [HRV.out]
            unfold fewN
            rw [decide_eq_false g1, decide_eq_true g2]
            by_cases h : xs.length < 8192
            · rw [decide_eq_true h, decide_eq_true (show (xs.length : Int) < 8192 by omega)]; rfl
            · rw [decide_eq_false h, decide_eq_false (show ¬ (xs.length : Int) < 8192 by omega)]; rfl
          have q4 : decide ((4096 : Int) < (xs.length : Int)) = true := by simp; omega
          clear hlt
          go_wp2_with fail
          go_ret
          exact ⟨by rw [HR.out]; rfl, HB.out⟩
        · have HR : Hid (fewAllB xs = false) := by
            show _ = _
            rw [HRV.out]
            unfold fewN
            rw [decide_eq_false g1, decide_eq_false g2]
            rfl
          have q4 : decide ((4096 : Int) < (xs.length : Int)) = false := by simp; omega
          clear hlt
          go_wp2_with fail
          go_ret
          exact ⟨by rw [HR.out]; rfl, HB.out⟩
/-- A text that is written out is the text of its number. -/
theorem txt_lit {l : List UInt8} {z : Int} (h : CanT l) (hv : readI l = z) : txtI z = l := by rw [← hv]; exact txtI_readI h
theorem Sm.txt4 {z : Int} (h : Sm z) : (txtI z).length ≤ 140737488355328 := size_sm h
theorem txt_max : strN (txtI 9223372036854775807) = ⟨#[57, 50, 50, 51, 51, 55, 50, 48, 51, 54, 56, 53, 52, 55, 55, 53, 56, 48, 55]⟩ := by
  rw [txt_lit (l := [57, 50, 50, 51, 51, 55, 50, 48, 51, 54, 56, 53, 52, 55, 55, 53, 56, 48, 55]) (by unfold CanT isDgt; decide) (by decide)]
  rfl
theorem txt_min : strN (txtI (-9223372036854775808)) = ⟨#[45, 57, 50, 50, 51, 51, 55, 50, 48, 51, 54, 56, 53, 52, 55, 55, 53, 56, 48, 56]⟩ := by
  rw [txt_lit (l := [45, 57, 50, 50, 51, 51, 55, 50, 48, 51, 54, 56, 53, 52, 55, 55, 53, 56, 48, 56]) (by unfold CanT isDgt; decide) (by decide)]
  rfl
theorem dgs_at : ∀ (j n d : Nat), (dgs n)[j]? = some d → n / 10 ^ j % 10 = d
  | 0, n, d, h => by
    have h0 : n ≠ 0 := by rintro rfl; rw [dgs_zero] at h; simp at h
    rw [dgs_step h0] at h
    simp at h
    simpa using h
  | j + 1, n, d, h => by
    have h0 : n ≠ 0 := by rintro rfl; rw [dgs_zero] at h; simp at h
    rw [dgs_step h0] at h
    have h5 := dgs_at j (n / 10) d (by simpa using h)
    rw [Nat.div_div_eq_div_mul] at h5
    rw [Nat.pow_succ, Nat.mul_comm]
    exact h5
set_option maxRecDepth 100000 in
set_option maxHeartbeats 4000000 in
theorem rsmall_bad (l : List UInt8) (hl : l.length ≤ 140737488355328) {e : Int} (he0 : e ≠ 0) (he : chkI l = e) (w : World) : Calls Tryz.prog 16 #[.string (strN l)] w fun r w' => r = .returned (.tuple #[.int .i64 0, .int .i64 e]) ∧ Below w.heap.size w w' := by
  have H1 : Hid (∀ w', Calls Tryz.prog 48 #[.string (strN l)] w' fun r w2 => r = .returned (.int .i64 e) ∧ Below w'.heap.size w' w2) := fun w' => by rw [← he]; exact rcheck_any l hl w'
  generalize strN l = s at *
  have tq : (e != 0) = true := by simpa using he0
  clear hl he0 he
  go_enter Tryz.func16, Tryz.ntmps16
  go_wp2_with (go_at_call 48; (with_reducible refine (H1.out _).mono ?_); rintro ec w5 ⟨rfl, hbz⟩; have HB := hide hbz; clear hbz)
  go_ret2
  exact ⟨rfl, HB.out⟩
theorem sgI_pos {x : Int} (h : 0 < x) : sgI x = 1 := by unfold sgI; rw [if_neg (by omega), if_neg (by omega)]
theorem sgI_neg {x : Int} (h : x < 0) : sgI x = -1 := if_pos h
theorem sgI_le {x : Int} (h : x ≤ 0) : sgI x ≤ 0 := by unfold sgI; split; omega; rw [if_pos (by omega)]; exact Int.le_refl _
theorem sgI_ge {x : Int} (h : 0 ≤ x) : 0 ≤ sgI x := by unfold sgI; rw [if_neg (by omega)]; split <;> omega
set_option maxRecDepth 100000 in
set_option maxHeartbeats 4000000 in
theorem rsmall_big {z : Int} (hz : Lim z) (hn : ¬ I64 z) (w : World) : Calls Tryz.prog 16 #[.string (strN (txtI z))] w fun r w' => r = .returned (.tuple #[.int .i64 0, .int .i64 2]) ∧ Below w.heap.size w w' := by
  have H1 : Hid (∀ w', Calls Tryz.prog 48 #[.string (strN (txtI z))] w' fun r w2 => r = .returned (.int .i64 0) ∧ Below w'.heap.size w' w2) := fun w' => by rw [← chk_lim hz]; exact rcheck_any _ hz.sm.txt4 w'
  have H2 : Hid (∀ w', Calls Tryz.prog 55 #[.string (strN (txtI z)), .string ⟨#[57, 50, 50, 51, 51, 55, 50, 48, 51, 54, 56, 53, 52, 55, 55, 53, 56, 48, 55]⟩] w' fun r w2 => r = .returned (.int .i64 (sgI (z - 9223372036854775807))) ∧ Below w'.heap.size w' w2) := fun w' => by
    rw [← txt_max]
    exact ror_any hz.sm (lim_i64 ⟨by omega, by omega⟩).sm w'
  have H3 : Hid (∀ w', Calls Tryz.prog 55 #[.string (strN (txtI z)), .string ⟨#[45, 57, 50, 50, 51, 51, 55, 50, 48, 51, 54, 56, 53, 52, 55, 55, 53, 56, 48, 56]⟩] w' fun r w2 => r = .returned (.int .i64 (sgI (z - (-9223372036854775808)))) ∧ Below w'.heap.size w' w2) := fun w' => by
    rw [← txt_min]
    exact ror_any hz.sm (lim_i64 ⟨by omega, by omega⟩).sm w'
  generalize strN (txtI z) = s at *
  by_cases hg : 9223372036854775807 < z
  · rw [sgI_pos (show 0 < z - 9223372036854775807 by omega)] at H2
    clear hz hn hg
    go_enter Tryz.func16, Tryz.ntmps16
    go_wp2_with (first
      | (go_at_call 48; (with_reducible refine (H1.out _).mono ?_); rintro ec w5 ⟨rfl, hbz⟩; have HB := hide hbz; clear hbz)
      | (go_at_call 55; (with_reducible refine (H2.out _).mono ?_); rintro ec w6 ⟨rfl, hbz⟩; have HB := hide (below_then HB.out hbz); clear hbz))
    go_ret2
    exact ⟨rfl, HB.out⟩
  · have hg2 : z < -9223372036854775808 := by
      unfold I64 at hn
      omega
    rw [sgI_neg (show z - 9223372036854775807 < 0 by omega)] at H2
    rw [sgI_neg (show z - -9223372036854775808 < 0 by omega)] at H3
    clear hz hn hg hg2
    go_enter Tryz.func16, Tryz.ntmps16
    go_wp2_with (first
      | (go_at_call 48; (with_reducible refine (H1.out _).mono ?_); rintro ec w5 ⟨rfl, hbz⟩; have HB := hide hbz; clear hbz)
      | (go_at_call 55; (with_reducible refine (H2.out _).mono ?_); rintro ec w6 ⟨rfl, hbz⟩; have HB := hide (below_then HB.out hbz); clear hbz)
      | (go_at_call 55; (with_reducible refine (H3.out _).mono ?_); rintro ec w7 ⟨rfl, hbz⟩; have HB := hide (below_then HB.out hbz); clear hbz))
    go_ret2
    exact ⟨rfl, HB.out⟩
set_option maxRecDepth 100000 in
set_option maxHeartbeats 4000000 in
theorem rsmall_ok {z : Int} (hz : I64 z) (w : World) : Calls Tryz.prog 16 #[.string (strN (txtI z))] w fun r w' => r = .returned (.tuple #[.int .i64 z, .int .i64 0]) ∧ Below w.heap.size w w' := by
  have hl := lim_i64 hz
  have H1 : Hid (∀ w', Calls Tryz.prog 48 #[.string (strN (txtI z))] w' fun r w2 => r = .returned (.int .i64 0) ∧ Below w'.heap.size w' w2) := fun w' => by rw [← chk_lim hl]; exact rcheck_any _ hl.sm.txt4 w'
  have H2 : Hid (∀ w', Calls Tryz.prog 55 #[.string (strN (txtI z)), .string ⟨#[57, 50, 50, 51, 51, 55, 50, 48, 51, 54, 56, 53, 52, 55, 55, 53, 56, 48, 55]⟩] w' fun r w2 => r = .returned (.int .i64 (sgI (z - 9223372036854775807))) ∧ Below w'.heap.size w' w2) := fun w' => by
    rw [← txt_max]
    exact ror_any hl.sm (lim_i64 ⟨by omega, by omega⟩).sm w'
  have H3 : Hid (∀ w', Calls Tryz.prog 55 #[.string (strN (txtI z)), .string ⟨#[45, 57, 50, 50, 51, 51, 55, 50, 48, 51, 54, 56, 53, 52, 55, 55, 53, 56, 48, 56]⟩] w' fun r w2 => r = .returned (.int .i64 (sgI (z - (-9223372036854775808)))) ∧ Below w'.heap.size w' w2) := fun w' => by
    rw [← txt_min]
    exact ror_any hl.sm (lim_i64 ⟨by omega, by omega⟩).sm w'
  have HD : Hid (∀ w', Calls Tryz.prog 56 #[.string (strN (txtI z))] w' (DigPost w' z.natAbs)) := fun w' => rdigits_any hl.sm.len w'
  have HMI : Hid (∀ w', Calls Tryz.prog 57 #[.string (strN (txtI z))] w' fun e w2 => e = .returned (.bool (decide (z < 0))) ∧ w' = w2) := fun w' => rminus_any z w'
  have o1 := sgI_le (show z - 9223372036854775807 ≤ 0 by have := hz.2; omega)
  have o2 := sgI_ge (show 0 ≤ z - -9223372036854775808 by have := hz.1; omega)
  generalize sgI (z - 9223372036854775807) = g1 at *
  generalize sgI (z - -9223372036854775808) = g2 at *
  have p1 : decide ((0 : Int) < g1) = false := by simp; omega
  have p2 : decide (g2 < (0 : Int)) = false := by simp; omega
  have HBND : Hid (z.natAbs ≤ 9223372036854775808 ∧ (0 ≤ z → z.natAbs ≤ 9223372036854775807)) := ⟨by obtain ⟨h1, h2⟩ := hz; omega, fun h => by obtain ⟨h1, h2⟩ := hz; omega⟩
  have HLN : Hid ((dgs z.natAbs).length ≤ 20) := dgs_i64 hz
  obtain ⟨b, hb⟩ : ∃ b, b = decide (z < 0) := ⟨_, rfl⟩
  rw [← hb] at HMI
  have HSG : Hid (z = sgZ b z.natAbs ∧ (b = false → z.natAbs ≤ 9223372036854775807)) := by
    refine ⟨?_, fun h => HBND.out.2 ?_⟩
    · rw [hb]
      unfold sgZ
      by_cases h : z < 0
      · simp [h]; omega
      · simp [h]; omega
    · rw [h] at hb
      have := of_decide_eq_false hb.symm
      omega
  obtain ⟨m, hm⟩ : ∃ m, m = z.natAbs := ⟨_, rfl⟩
  rw [← hm] at HSG HD HLN HBND
  generalize strN (txtI z) = s at *
  clear hz hl o1 o2 hb hm
  go_enter Tryz.func16, Tryz.ntmps16
  go_upto_region 8 with (first
    | (go_at_call 48; (with_reducible refine (H1.out _).mono ?_); rintro ec w5 ⟨rfl, hbz⟩; have HB := hide hbz; clear hbz)
    | (go_at_call 55; (with_reducible refine (H2.out _).mono ?_); rintro ec w6 ⟨rfl, hbz⟩; have HB := hide (below_then HB.out hbz); clear hbz)
    | (go_at_call 55; (with_reducible refine (H3.out _).mono ?_); rintro ec w7 ⟨rfl, hbz⟩; have HB := hide (below_then HB.out hbz); clear hbz)
    | (go_at_call 56; (with_reducible refine (HD.out _).mono ?_); rintro ec w8 ⟨v, rfl, hv, hbz⟩; have HB := hide (below_then HB.out hbz); obtain ⟨oa, ca, rfl, hca, hcm, hsl⟩ := hv; have HSL := hide hsl; have hll := HLN.out; clear hbz hsl hca))
  go_loopg [5, 7] (dgs m).length (fun gm nv iv wx => ∃ (k : Nat) (y : Int), k ≤ (dgs m).length ∧ gm = k ∧ iv = .int .i64 ((k : Int) - 1) ∧ nv = .int .i64 y ∧ Hid (y = sgZ b (m / 10 ^ k)) ∧ wx = w8)
  case atStart =>
    refine ⟨(dgs m).length, 0, Nat.le_refl _, rfl, by go_num, rfl, ?_, rfl⟩
    show _ = _
    rw [Nat.div_eq_of_lt (lt_dgs m)]
    unfold sgZ
    cases b <;> rfl
  case round =>
    obtain ⟨k, y, hk, hgm, rfl, rfl, HY, rfl⟩ := hrel
    have HGM := hide hgm
    clear hgm
    rcases Nat.eq_zero_or_pos k with hk0 | hk0
    · subst hk0
      have q1 : decide ((0 : Int) ≤ ((0 : Nat) : Int) - 1) = false := by simp
      have HYZ : Hid (y = z) := by
        show _ = _
        rw [HY.out, Nat.pow_zero, Nat.div_one]
        exact HSG.out.1.symm
      go_wp2_with fail
      go_ret2
      exact ⟨by rw [HYZ.out]; rfl, HB.out⟩
    · obtain ⟨j, rfl⟩ : ∃ j, k = j + 1 := ⟨k - 1, by omega⟩
      have hj : j < (dgs m).length := by omega
      obtain ⟨x, _, hget, hx4, bk, off, rfl, _, c0⟩ := HSL.out.dgt_at hj
      have hx10 := dgt_get (dgs_dgt m) hget
      have HST : Hid (m / 10 ^ j = 10 * (m / 10 ^ (j + 1)) + x) := by
        have h5 := dgs_at j m x hget
        show _ = _
        rw [Nat.pow_succ, ← Nat.div_div_eq_div_mul]
        omega
      have e1 : (((j + 1 : Nat) : Int) - 1) = (j : Int) := by omega
      rw [e1]
      have q2 : decide ((0 : Int) ≤ (j : Int)) = true := by simp
      have hj0 : (0 : Int) ≤ j := by omega
      have hj1 : (j : Int) < (dgs m).length := by omega
      have HLE : Hid (m / 10 ^ j ≤ m) := Nat.div_le_self _ _
      have HY2 := HY.out
      obtain ⟨Y, hY⟩ : ∃ Y, Y = m / 10 ^ (j + 1) := ⟨_, rfl⟩
      rw [← hY] at HST HY2
      have hb1 : 10 * Y + x ≤ m := by rw [← HST.out]; exact HLE.out
      have hb2 := HBND.out.1
      clear hget hx4 e1 hY
      cases b
      · have hy : y = (Y : Int) := HY2
        subst hy
        have hb3 := HSG.out.2 rfl
        have w1 : IntKind.i64.wrap (10 * (Y : Int)) = 10 * (Y : Int) := IntWalk.i64_in _ (by omega)
        have w2 : IntKind.i64.wrap (10 * (Y : Int) + (x : Int)) = 10 * (Y : Int) + (x : Int) := IntWalk.i64_in _ (by omega)
        have HY3 : Hid ((10 * (Y : Int) + (x : Int)) = sgZ false (m / 10 ^ j)) := by
          show _ = _
          rw [HST.out]
          unfold sgZ
          simp
        clear HY2 hb1 hb2 hb3
        go_wp2_with (go_at_call 57; (with_reducible refine (HMI.out _).mono ?_); rintro ec w9 ⟨rfl, rfl⟩)
        go_roundg j
        case rel => exact ⟨j, _, by omega, rfl, by go_num, rfl, HY3, rfl⟩
        case measure => rw [HGM.out]; omega
      · have hy : y = -(Y : Int) := HY2
        subst hy
        have w1 : IntKind.i64.wrap (10 * (-(Y : Int))) = 10 * (-(Y : Int)) := IntWalk.i64_in _ (by omega)
        have w2 : IntKind.i64.wrap (10 * (-(Y : Int)) - (x : Int)) = 10 * (-(Y : Int)) - (x : Int) := IntWalk.i64_in _ (by omega)
        have HY3 : Hid ((10 * (-(Y : Int)) - (x : Int)) = sgZ true (m / 10 ^ j)) := by
          show _ = _
          rw [HST.out]
          unfold sgZ
          simp
          omega
        clear HY2 hb1 hb2
        go_wp2_with (go_at_call 57; (with_reducible refine (HMI.out _).mono ?_); rintro ec w9 ⟨rfl, rfl⟩)
        go_roundg j
        case rel => exact ⟨j, _, by omega, rfl, by go_num, rfl, HY3, rfl⟩
        case measure => rw [HGM.out]; omega
end Go.Proofs.YthpknfoahimopaaGreatDoor

set_option linter.unusedVariables false
set_option linter.unusedSimpArgs false
set_option linter.unnecessarySimpa false
namespace Go.Proofs.YthpknfoahimopaaGreatDoor
open Go.RowKit

/-- Boxes of fractions that were made since a world. -/
def Kept (w W : World) (l : List (Nat × ByteArray × ByteArray)) : Prop := Below w.heap.size w W ∧ ∀ x ∈ l, Box W x.1 [.string x.2.1, .string x.2.2] 26
theorem Kept.nil (w : World) : Kept w w [] := ⟨Below.refl _ _, fun x hx => by simp at hx⟩
theorem Kept.below {w W W' : World} {l : List (Nat × ByteArray × ByteArray)} (h : Kept w W l) (hb : Below W.heap.size W W') : Kept w W' l := ⟨below_then h.1 hb, fun x hx => (h.2 x hx).below hb⟩
theorem Kept.push {w W : World} {l : List (Nat × ByteArray × ByteArray)} (h : Kept w W l) (a b : ByteArray) : Kept w (W.alloc (.cells #[.string a, .string b] 26)) ((W.heap.size, a, b) :: l) := by
  refine ⟨bnew h.1 _, fun x hx => ?_⟩
  rcases List.mem_cons.1 hx with rfl | hx
  · exact Box.new W [.string a, .string b] _
  · exact (h.2 x hx).next _
theorem Kept.low {w W : World} {l : List (Nat × ByteArray × ByteArray)} (h : Kept w W l) : Below w.heap.size w W := h.1
theorem Kept.draw {w W : World} {l : List (Nat × ByteArray × ByteArray)} (h : Kept w W l) : Kept w W.drew l := ⟨h.1.drew, fun x hx => (h.2 x hx).draw⟩
theorem Kept.at {w W : World} {l : List (Nat × ByteArray × ByteArray)} (h : Kept w W l) (A : Nat) (a b : ByteArray) (hx : (A, a, b) ∈ l) : W.cell? ⟨A, 0, none⟩ = some (.string a) ∧ W.cell? ⟨A, 1, none⟩ = some (.string b) ∧ W.frozen? ⟨A, 0, none⟩ = false ∧ W.frozen? ⟨A, 1, none⟩ = false := (h.2 _ hx).two
theorem Kept.get {w W : World} {l : List (Nat × ByteArray × ByteArray)} (h : Kept w W l) (A : Nat) (a b : ByteArray) (hx : (A, a, b) ∈ l) : W.cell? ⟨A, 0, none⟩ = some (.string a) ∧ W.cell? ⟨A, 1, none⟩ = some (.string b) := ⟨(h.at A a b hx).1, (h.at A a b hx).2.1⟩
theorem eqGuard_fr (op : BinOp) (a b : Operand) (x y : Array Value) (w : World) : (eqGuard op 26 a b (.agg x) (.agg y)).run Tryz.prog w = .ok () w := by
  simp [eqGuard]
theorem ba_inj {a b : ByteArray} : a.toList = b.toList ↔ a = b := by
  constructor
  · intro h
    rw [ByteArray.toList_eq, ByteArray.toList_eq] at h
    exact ByteArray.ext (Array.ext' h)
  · rintro rfl
    rfl
theorem eq_fr (a b c d : ByteArray) (w : World) : (binOp .eql 26 (.agg #[.string a, .string b]) (.agg #[.string c, .string d])).run Tryz.prog w = .ok (.bool (decide (a = c ∧ b = d))) w := by
  have u3 := Tryz.underlying22
  have a3 := Tryz.isAgg22
  have z3 := Tryz.sizeOf22
  have hS : Tryz.prog.underlying 26 = some (.struct (Tryz.prog.fieldsOf 26)) := by kernel_rfl
  have hp : Tryz.prog.stoodInHeld 26 = false := by kernel_rfl
  rw [run_eql_struct, show (10000 : Nat) = 9999 + 1 from rfl, run_equalIn_agg w 9999 26 _ _ hS hp]
  simp only [Program.fieldsOf, Tryz.underlying26]
  go_simp
  by_cases h1 : a = c <;> by_cases h2 : b = d <;> simp [ba_inj, h1, h2]
theorem neq_fr (a b c d : ByteArray) (w : World) : (binOp .neq 26 (.agg #[.string a, .string b]) (.agg #[.string c, .string d])).run Tryz.prog w = .ok (.bool (!decide (a = c ∧ b = d))) w := by
  have u3 := Tryz.underlying22
  have a3 := Tryz.isAgg22
  have z3 := Tryz.sizeOf22
  have hS : Tryz.prog.underlying 26 = some (.struct (Tryz.prog.fieldsOf 26)) := by kernel_rfl
  have hp : Tryz.prog.stoodInHeld 26 = false := by kernel_rfl
  rw [run_neq_struct, show (10000 : Nat) = 9999 + 1 from rfl, run_equalIn_agg w 9999 26 _ _ hS hp]
  simp only [Program.fieldsOf, Tryz.underlying26]
  go_simp
  by_cases h1 : a = c <;> by_cases h2 : b = d <;> simp [ba_inj, h1, h2]
theorem eq_self (a b : ByteArray) (w : World) : (binOp .eql 26 (.agg #[.string a, .string b]) (.agg #[.string a, .string b])).run Tryz.prog w = .ok (.bool true) w := by
  rw [eq_fr, decide_eq_true ⟨rfl, rfl⟩]
theorem neq_self (a b : ByteArray) (w : World) : (binOp .neq 26 (.agg #[.string a, .string b]) (.agg #[.string a, .string b])).run Tryz.prog w = .ok (.bool false) w := by
  rw [neq_fr, decide_eq_true ⟨rfl, rfl⟩]
  rfl

theorem half_any (s t : ByteArray) (w : World) : Calls Tryz.prog 24 #[.string s, .string t] w fun e w' => e = .returned (.agg #[.string s, .string t]) ∧ Below w.heap.size w w' := by
  have HW : Hid (Below w.heap.size w (w.alloc (.cells #[.string s, .string t] 26))) := bnew (Below.refl _ _) _
  have HX := hide (Box.new w [.string s, .string t] 26)
  obtain ⟨j0, j1, _, _⟩ := HX.out.two
  go_enter Tryz.func24, Tryz.ntmps24
  go_wp2_with fail
  exact bodyPost_ret (v := .agg #[.string s, .string t]) (by simp [results, Tryz.results24, go_sem, j0, j1]) rfl ⟨rfl, HW.out⟩
theorem txt_p1 : strN (txtI (1)) = ⟨#[49]⟩ := by rw [txt_lit (l := [49]) (by unfold CanT isDgt; decide) (by decide)]; rfl
theorem txt_p6 : strN (txtI (6)) = ⟨#[54]⟩ := by rw [txt_lit (l := [54]) (by unfold CanT isDgt; decide) (by decide)]; rfl
theorem txt_p10 : strN (txtI (10)) = ⟨#[49, 48]⟩ := by rw [txt_lit (l := [49, 48]) (by unfold CanT isDgt; decide) (by decide)]; rfl
theorem txt_p2 : strN (txtI (2)) = ⟨#[50]⟩ := by rw [txt_lit (l := [50]) (by unfold CanT isDgt; decide) (by decide)]; rfl
theorem txt_p3 : strN (txtI (3)) = ⟨#[51]⟩ := by rw [txt_lit (l := [51]) (by unfold CanT isDgt; decide) (by decide)]; rfl
theorem txt_p9 : strN (txtI (9)) = ⟨#[57]⟩ := by rw [txt_lit (l := [57]) (by unfold CanT isDgt; decide) (by decide)]; rfl
theorem txt_p4 : strN (txtI (4)) = ⟨#[52]⟩ := by rw [txt_lit (l := [52]) (by unfold CanT isDgt; decide) (by decide)]; rfl
theorem txt_m4 : strN (txtI (-4)) = ⟨#[45, 52]⟩ := by rw [txt_lit (l := [45, 52]) (by unfold CanT isDgt; decide) (by decide)]; rfl
theorem txt_p15 : strN (txtI (15)) = ⟨#[49, 53]⟩ := by rw [txt_lit (l := [49, 53]) (by unfold CanT isDgt; decide) (by decide)]; rfl
theorem txt_m3 : strN (txtI (-3)) = ⟨#[45, 51]⟩ := by rw [txt_lit (l := [45, 51]) (by unfold CanT isDgt; decide) (by decide)]; rfl
theorem txt_m2 : strN (txtI (-2)) = ⟨#[45, 50]⟩ := by rw [txt_lit (l := [45, 50]) (by unfold CanT isDgt; decide) (by decide)]; rfl
theorem lim_small {n : Int} (h : -1000 ≤ n ∧ n ≤ 1000) : Lim n := lim_i64 ⟨by omega, by omega⟩
theorem good_small {p q : Int} (h1 : -1000 ≤ p ∧ p ≤ 1000) (h2 : -1000 ≤ q ∧ q ≤ 1000) (h : LowQ p q) : Good p q := ⟨lim_small h1, lim_small h2, h⟩
theorem comb_small {n m o d : Int} (h1 : -1000 ≤ n ∧ n ≤ 1000) (h2 : -1000 ≤ m ∧ m ≤ 1000) (h3 : -1000 ≤ o ∧ o ≤ 1000) (h4 : -1000 ≤ d ∧ d ≤ 1000) : combK n m o d = true := by
  unfold combK doE
  rw [decide_eq_true (lim_small h1), decide_eq_true (lim_small h2), decide_eq_true (lim_small h3), decide_eq_true (lim_small h4)]
  rfl
theorem do_small {n d : Int} (h1 : -1000 ≤ n ∧ n ≤ 1000) (h4 : -1000 ≤ d ∧ d ≤ 1000) : doE (doE true n) d = true := by
  unfold doE
  rw [decide_eq_true (lim_small h1), decide_eq_true (lim_small h4)]
  rfl
theorem aw_add {w : World} (ht : Tbl w) : Calls Tryz.prog 21 #[.agg #[.string ⟨#[49]⟩, .string ⟨#[54]⟩], .agg #[.string ⟨#[49]⟩, .string ⟨#[49, 48]⟩]] w fun e w' => e = .returned (.tuple #[.agg #[.string ⟨#[52]⟩, .string ⟨#[49, 53]⟩], .int .i64 0]) ∧ Below w.heap.size w w' := by
  have h5 := fadd_ok (good_small (p := 1) (q := 6) (by omega) (by omega) (by constructor <;> decide)) (good_small (p := 1) (q := 10) (by omega) (by omega) (by constructor <;> decide)) ht
  rw [show combK (1 * 10) (1 * 6) (1 * 10 + 1 * 6) (6 * 10) = true from comb_small (by omega) (by omega) (by omega) (by omega), show lowF (1 * 10 + 1 * 6) (6 * 10) = (4, 15) from lowF_of (by decide) (by constructor <;> decide) (by decide)] at h5
  unfold opV frT at h5
  rw [if_pos rfl] at h5
  simp only [txt_p1, txt_p4, txt_p6, txt_p10, txt_p15] at h5
  exact h5
theorem aw_sub {w : World} (ht : Tbl w) : Calls Tryz.prog 35 #[.agg #[.string ⟨#[49]⟩, .string ⟨#[54]⟩], .agg #[.string ⟨#[49]⟩, .string ⟨#[49, 48]⟩]] w fun e w' => e = .returned (.tuple #[.agg #[.string ⟨#[49]⟩, .string ⟨#[49, 53]⟩], .int .i64 0]) ∧ Below w.heap.size w w' := by
  have h5 := fsub_ok (good_small (p := 1) (q := 6) (by omega) (by omega) (by constructor <;> decide)) (good_small (p := 1) (q := 10) (by omega) (by omega) (by constructor <;> decide)) ht
  rw [show combK (1 * 10) (1 * 6) (1 * 10 - 1 * 6) (6 * 10) = true from comb_small (by omega) (by omega) (by omega) (by omega), show lowF (1 * 10 - 1 * 6) (6 * 10) = (1, 15) from lowF_of (by decide) (by constructor <;> decide) (by decide)] at h5
  unfold opV frT at h5
  rw [if_pos rfl] at h5
  simp only [txt_p1, txt_p6, txt_p10, txt_p15] at h5
  exact h5
theorem aw_mul {w : World} (ht : Tbl w) : Calls Tryz.prog 23 #[.agg #[.string ⟨#[50]⟩, .string ⟨#[51]⟩], .agg #[.string ⟨#[57]⟩, .string ⟨#[52]⟩]] w fun e w' => e = .returned (.tuple #[.agg #[.string ⟨#[51]⟩, .string ⟨#[50]⟩], .int .i64 0]) ∧ Below w.heap.size w w' := by
  have h5 := fmul_ok (good_small (p := 2) (q := 3) (by omega) (by omega) (by constructor <;> decide)) (good_small (p := 9) (q := 4) (by omega) (by omega) (by constructor <;> decide)) ht
  rw [show doE (doE true (2 * 9)) (3 * 4) = true from do_small (by omega) (by omega), show lowF (2 * 9) (3 * 4) = (3, 2) from lowF_of (by decide) (by constructor <;> decide) (by decide)] at h5
  unfold opV frT at h5
  rw [if_pos rfl] at h5
  simp only [txt_p2, txt_p3, txt_p4, txt_p9] at h5
  exact h5
theorem aw_div {w : World} (ht : Tbl w) : Calls Tryz.prog 38 #[.agg #[.string ⟨#[50]⟩, .string ⟨#[51]⟩], .agg #[.string ⟨#[45, 52]⟩, .string ⟨#[57]⟩]] w fun e w' => e = .returned (.tuple #[.agg #[.string ⟨#[45, 51]⟩, .string ⟨#[50]⟩], .int .i64 0]) ∧ Below w.heap.size w w' := by
  have h5 := fdiv_ok (good_small (p := 2) (q := 3) (by omega) (by omega) (by constructor <;> decide)) (good_small (p := -4) (q := 9) (by omega) (by omega) (by constructor <;> decide)) (by decide) ht
  rw [show doE (doE true (2 * 9)) (3 * (-4)) = true from do_small (by omega) (by omega), show lowF (2 * 9) (3 * (-4)) = (-3, 2) from lowF_of (by decide) (by constructor <;> decide) (by decide)] at h5
  unfold opV frT at h5
  rw [if_pos rfl] at h5
  simp only [txt_m4, txt_m3, txt_p2, txt_p3, txt_p9] at h5
  exact h5
theorem aw_of {w : World} (ht : Tbl w) : Calls Tryz.prog 17 #[.int .i64 6, .int .i64 (-4)] w fun e w' => e = .returned (.tuple #[.agg #[.string ⟨#[45, 51]⟩, .string ⟨#[50]⟩], .int .i64 0]) ∧ Below w.heap.size w w' := by
  have h5 := fof_any (n := 6) (m := -4) ⟨by omega, by omega⟩ ⟨by omega, by omega⟩ ht
  unfold makeV frT at h5
  rw [if_neg (by decide), show lowF 6 (-4) = (-3, 2) from lowF_of (by decide) (by constructor <;> decide) (by decide)] at h5
  simp only [txt_m3, txt_p2] at h5
  exact h5
theorem aw_text {w : World} (ht : Tbl w) : Calls Tryz.prog 31 #[.agg #[.string ⟨#[45, 51]⟩, .string ⟨#[50]⟩]] w fun e w' => e = .returned (.tuple #[.string ⟨#[45, 51, 47, 50]⟩, .int .i64 0]) ∧ Below w.heap.size w w' := by
  have h5 := ftext_ok (good_small (p := -3) (q := 2) (by omega) (by omega) (by constructor <;> decide)) ht
  have h6 : strN (txtF (-3) 2) = ⟨#[45, 51, 47, 50]⟩ := by
    unfold txtF
    rw [if_neg (by decide), txt_lit (l := [45, 51]) (z := -3) (by unfold CanT isDgt; decide) (by decide), txt_lit (l := [50]) (z := 2) (by unfold CanT isDgt; decide) (by decide)]
    rfl
  rw [h6] at h5
  simp only [txt_m3, txt_p2] at h5
  exact h5
theorem aw_floor {w : World} (ht : Tbl w) : Calls Tryz.prog 29 #[.agg #[.string ⟨#[45, 51]⟩, .string ⟨#[50]⟩]] w fun e w' => e = .returned (.tuple #[.string ⟨#[45, 50]⟩, .int .i64 0]) ∧ Below w.heap.size w w' := by
  have h5 := ffloor_ok (good_small (p := -3) (q := 2) (by omega) (by omega) (by constructor <;> decide)) ht
  rw [show (-3 : Int).fdiv 2 = -2 from by decide] at h5
  simp only [txt_m3, txt_p2, txt_m2] at h5
  exact h5
theorem aw_parse {w : World} (ht : Tbl w) : Calls Tryz.prog 14 #[.string ⟨#[52, 47, 50]⟩] w fun e w' => e = .returned (.tuple #[.agg #[.string ⟨#[]⟩, .string ⟨#[]⟩], .int .i64 3]) ∧ Below w.heap.size w w' := by
  have h5 := fparse_any ⟨#[52, 47, 50]⟩ (by decide) ht
  have e1 : txtI 4 = [52] := txt_lit (by unfold CanT isDgt; decide) (by decide)
  have e2 : txtI 2 = [50] := txt_lit (by unfold CanT isDgt; decide) (by decide)
  have h6 : parE [52, 47, 50] = 3 := by
    unfold parE
    split
    · rfl
    · show chkF [52] [50] = 3
      rw [← e1, ← e2]
      unfold chkF
      rw [chk_lim (lim_small (by omega)), chk_lim (lim_small (by omega)), if_neg (by simp), if_neg (by simp), readI_txtI, readI_txtI]
      decide
  have h7 : parV [52, 47, 50] = frT ⟨#[]⟩ ⟨#[]⟩ 3 := by
    unfold parV
    rw [h6, if_neg (by decide)]
  unfold frT at h7
  rw [show (⟨#[52, 47, 50]⟩ : ByteArray).data.toList = [52, 47, 50] from rfl, h7] at h5
  exact h5
end Go.Proofs.YthpknfoahimopaaGreatDoor

set_option linter.unusedVariables false
set_option linter.unusedSimpArgs false
set_option linter.unnecessarySimpa false
namespace Go.Proofs.YthpknfoahimopaaGreatDoor
open Go.RowKit


set_option maxRecDepth 100000 in
set_option maxHeartbeats 4000000 in
theorem awake_any {w : World} (ht : Tbl w) : Calls Tryz.prog 11 #[] w fun e w' => e = .returned (.bool true) ∧ Below w.heap.size w w' := by
  have HT := hide ht
  have HK := hide (Kept.nil w)
  clear ht
  go_enter Tryz.func11, Tryz.ntmps11
  go_upto_region 2 with (first
    | (go_at_call 24; (with_reducible refine (half_any _ _ _).mono ?_); rintro ec wz ⟨rfl, hbz⟩; have HK := hide (HK.out.below hbz); clear hbz)
    | (go_at_call 21; (with_reducible refine (aw_add (HT.out.below HK.out.low)).mono ?_); rintro ec w1 ⟨rfl, hbz⟩; have HK := hide (HK.out.below hbz); clear hbz))
  have HK := hide (HK.out.push ⟨#[52]⟩ ⟨#[49, 53]⟩)
  obtain ⟨A1, hA1⟩ : ∃ A, A = w1.heap.size := ⟨_, rfl⟩
  obtain ⟨W1, hW1⟩ : ∃ W, W = w1.alloc (.cells #[.string ⟨#[52]⟩, .string ⟨#[49, 53]⟩] 26) := ⟨_, rfl⟩
  rw [← hA1, ← hW1] at HK ⊢
  clear hA1 hW1
  go_upto_region 3 with (first
    | (go_at_call 24; (with_reducible refine (half_any _ _ _).mono ?_); rintro ec wz ⟨rfl, hbz⟩; have HK := hide (HK.out.below hbz); clear hbz)
    | (go_at_call 35; (with_reducible refine (aw_sub (HT.out.below HK.out.low)).mono ?_); rintro ec w2 ⟨rfl, hbz⟩; have HK := hide (HK.out.below hbz); clear hbz))
  have HK := hide (HK.out.push ⟨#[49]⟩ ⟨#[49, 53]⟩)
  obtain ⟨A2, hA2⟩ : ∃ A, A = w2.heap.size := ⟨_, rfl⟩
  obtain ⟨W2, hW2⟩ : ∃ W, W = w2.alloc (.cells #[.string ⟨#[49]⟩, .string ⟨#[49, 53]⟩] 26) := ⟨_, rfl⟩
  rw [← hA2, ← hW2] at HK ⊢
  clear hA2 hW2
  go_upto_region 4 with (first
    | (go_at_call 24; (with_reducible refine (half_any _ _ _).mono ?_); rintro ec wz ⟨rfl, hbz⟩; have HK := hide (HK.out.below hbz); clear hbz)
    | (go_at_call 23; (with_reducible refine (aw_mul (HT.out.below HK.out.low)).mono ?_); rintro ec w3 ⟨rfl, hbz⟩; have HK := hide (HK.out.below hbz); clear hbz))
  have HK := hide (HK.out.push ⟨#[51]⟩ ⟨#[50]⟩)
  obtain ⟨A3, hA3⟩ : ∃ A, A = w3.heap.size := ⟨_, rfl⟩
  obtain ⟨W3, hW3⟩ : ∃ W, W = w3.alloc (.cells #[.string ⟨#[51]⟩, .string ⟨#[50]⟩] 26) := ⟨_, rfl⟩
  rw [← hA3, ← hW3] at HK ⊢
  clear hA3 hW3
  go_upto_region 5 with (first
    | (go_at_call 24; (with_reducible refine (half_any _ _ _).mono ?_); rintro ec wz ⟨rfl, hbz⟩; have HK := hide (HK.out.below hbz); clear hbz)
    | (go_at_call 38; (with_reducible refine (aw_div (HT.out.below HK.out.low)).mono ?_); rintro ec w4 ⟨rfl, hbz⟩; have HK := hide (HK.out.below hbz); clear hbz))
  have HK := hide (HK.out.push ⟨#[45, 51]⟩ ⟨#[50]⟩)
  obtain ⟨A4, hA4⟩ : ∃ A, A = w4.heap.size := ⟨_, rfl⟩
  obtain ⟨W4, hW4⟩ : ∃ W, W = w4.alloc (.cells #[.string ⟨#[45, 51]⟩, .string ⟨#[50]⟩] 26) := ⟨_, rfl⟩
  rw [← hA4, ← hW4] at HK ⊢
  clear hA4 hW4
  go_upto_region 6 with (first
    | (go_at_call 17; (with_reducible refine (aw_of (HT.out.below HK.out.low)).mono ?_); rintro ec w5 ⟨rfl, hbz⟩; have HK := hide (HK.out.below hbz); clear hbz))
  have HK := hide (HK.out.push ⟨#[45, 51]⟩ ⟨#[50]⟩)
  obtain ⟨A5, hA5⟩ : ∃ A, A = w5.heap.size := ⟨_, rfl⟩
  obtain ⟨W5, hW5⟩ : ∃ W, W = w5.alloc (.cells #[.string ⟨#[45, 51]⟩, .string ⟨#[50]⟩] 26) := ⟨_, rfl⟩
  rw [← hA5, ← hW5] at HK ⊢
  clear hA5 hW5
  obtain ⟨d0, d1⟩ := HK.out.get A5 ⟨#[45, 51]⟩ ⟨#[50]⟩ (by simp)
  go_upto_region 7 with (go_at_call 31; (with_reducible refine (aw_text (HT.out.below HK.out.low)).mono ?_); rintro ec w6 ⟨rfl, hbz⟩; have HK := hide (HK.out.below hbz); clear hbz)
  obtain ⟨d0, d1⟩ := HK.out.get A5 ⟨#[45, 51]⟩ ⟨#[50]⟩ (by simp)
  go_upto_region 8 with (go_at_call 29; (with_reducible refine (aw_floor (HT.out.below HK.out.low)).mono ?_); rintro ec w7 ⟨rfl, hbz⟩; have HK := hide (HK.out.below hbz); clear hbz)
  go_upto_region 9 with (go_at_call 14; (with_reducible refine (aw_parse (HT.out.below HK.out.low)).mono ?_); rintro ec w8 ⟨rfl, hbz⟩; have HK := hide (HK.out.below hbz); clear hbz)
  have HK := hide (HK.out.push ⟨#[]⟩ ⟨#[]⟩).draw
  obtain ⟨W8, hW8⟩ : ∃ W, W = (w8.alloc (.cells #[.string ⟨#[]⟩, .string ⟨#[]⟩] 26)).drew := ⟨_, rfl⟩
  rw [← hW8] at HK
  have HC : Hid (_ ∧ _ ∧ _ ∧ _) := ⟨(HK.out.get A1 ⟨#[52]⟩ ⟨#[49, 53]⟩ (by simp)), (HK.out.get A2 ⟨#[49]⟩ ⟨#[49, 53]⟩ (by simp)), (HK.out.get A3 ⟨#[51]⟩ ⟨#[50]⟩ (by simp)), (HK.out.get A4 ⟨#[45, 51]⟩ ⟨#[50]⟩ (by simp))⟩
  rw [hW8] at HC HK
  clear hW8 d0 d1
  have eqg := eqGuard_fr
  have eqs := eq_self
  have wz0 : IntKind.i64.wrap 0 = 0 := rfl
  go_region_held3 (fun w' => (w'.cell? ⟨A1, 0, none⟩ = some (.string ⟨#[52]⟩) ∧ w'.cell? ⟨A1, 1, none⟩ = some (.string ⟨#[49, 53]⟩)) ∧ (w'.cell? ⟨A2, 0, none⟩ = some (.string ⟨#[49]⟩) ∧ w'.cell? ⟨A2, 1, none⟩ = some (.string ⟨#[49, 53]⟩)) ∧ (w'.cell? ⟨A3, 0, none⟩ = some (.string ⟨#[51]⟩) ∧ w'.cell? ⟨A3, 1, none⟩ = some (.string ⟨#[50]⟩)) ∧ (w'.cell? ⟨A4, 0, none⟩ = some (.string ⟨#[45, 51]⟩) ∧ w'.cell? ⟨A4, 1, none⟩ = some (.string ⟨#[50]⟩))) (first | with_reducible exact HC.out) (first
    | (go_at_call 24; (with_reducible refine (half_any _ _ _).mono ?_); rintro ec wz ⟨rfl, hbz⟩; have HK := hide (HK.out.below hbz); have HC : Hid (_ ∧ _ ∧ _ ∧ _) := ⟨(HK.out.get A1 ⟨#[52]⟩ ⟨#[49, 53]⟩ (by simp)), (HK.out.get A2 ⟨#[49]⟩ ⟨#[49, 53]⟩ (by simp)), (HK.out.get A3 ⟨#[51]⟩ ⟨#[50]⟩ (by simp)), (HK.out.get A4 ⟨#[45, 51]⟩ ⟨#[50]⟩ (by simp))⟩; clear hbz))
  go_wp2_with fail
  go_ret
  exact ⟨rfl, HK.out.low⟩
end Go.Proofs.YthpknfoahimopaaGreatDoor

set_option linter.unusedVariables false
set_option linter.unusedSimpArgs false
set_option linter.unnecessarySimpa false
namespace Go.Proofs.YthpknfoahimopaaGreatDoor
open Go.RowKit

/-- Two functions give one value. -/
def Same (f g : Nat) (xs : Array Value) (v : Value) : Prop :=
  (∀ w, Tbl w → Calls Tryz.prog f xs w fun e w' => e = .returned v ∧ Below w.heap.size w w') ∧ (∀ w, Calls Tryz.prog g xs w fun e w' => e = .returned v ∧ Below w.heap.size w w')
theorem chk_cases (l m : List UInt8) : (∃ p q, l = txtI p ∧ m = txtI q ∧ Good p q) ∨ chkF l m ≠ 0 := by
  by_cases h : chkF l m = 0
  · exact .inl (chkF_good h)
  · exact .inr h

theorem neg_same (l m : List UInt8) (hl : l.length ≤ 140737488355328) (hm : m.length ≤ 140737488355328) : ∃ a b e, Same 27 28 #[.agg #[.string (strN l), .string (strN m)]] (frT a b e) := by
  rcases chk_cases l m with ⟨p, q, rfl, rfl, hg⟩ | h
  · exact ⟨_, _, _, fun w ht => fneg_ok hg ht, fun w => rfneg_ok hg w⟩
  · exact ⟨_, _, _, fun w ht => fneg_bad (strN l) (strN m) hl hm h (by rw [strN_data, strN_data]) ht, fun w => rfneg_bad l m hl hm h rfl w⟩

theorem floor_same (l m : List UInt8) (hl : l.length ≤ 140737488355328) (hm : m.length ≤ 140737488355328) : ∃ n e, Same 29 30 #[.agg #[.string (strN l), .string (strN m)]] (.tuple #[.string n, .int .i64 e]) := by
  rcases chk_cases l m with ⟨p, q, rfl, rfl, hg⟩ | h
  · exact ⟨_, _, fun w ht => ffloor_ok hg ht, fun w => rffloor_ok hg w⟩
  · exact ⟨_, _, fun w ht => ffloor_bad (strN l) (strN m) hl hm h (by rw [strN_data, strN_data]) ht, fun w => rffloor_bad l m hl hm h rfl w⟩

theorem text_same (l m : List UInt8) (hl : l.length ≤ 140737488355328) (hm : m.length ≤ 140737488355328) : ∃ n e, Same 31 32 #[.agg #[.string (strN l), .string (strN m)]] (.tuple #[.string n, .int .i64 e]) := by
  rcases chk_cases l m with ⟨p, q, rfl, rfl, hg⟩ | h
  · exact ⟨_, _, fun w ht => ftext_ok hg ht, fun w => rftext_ok hg w⟩
  · exact ⟨_, _, fun w ht => ftext_bad (strN l) (strN m) hl hm h (by rw [strN_data, strN_data]) ht, fun w => rftext_bad l m hl hm h rfl w⟩

theorem check_same (l m : List UInt8) (hl : l.length ≤ 140737488355328) (hm : m.length ≤ 140737488355328) : Same 25 33 #[.agg #[.string (strN l), .string (strN m)]] (.int .i64 (chkF l m)) := by
  refine ⟨fun w ht => ?_, fun w => rfcheck_any l m hl hm⟩
  have h5 := fcheck_any (strN l) (strN m) hl hm ht
  rw [strN_data, strN_data] at h5
  exact h5
theorem make_same (l m : List UInt8) (hl : l.length ≤ 140737488355328) (hm : m.length ≤ 140737488355328) : ∃ a b e, Same 12 13 #[.string (strN l), .string (strN m)] (frT a b e) := by
  by_cases h1 : chkI l = 0
  · by_cases h2 : chkI m = 0
    · obtain ⟨p, rfl, hp⟩ := chkI_ok h1
      obtain ⟨q, rfl, hq⟩ := chkI_ok h2
      obtain ⟨a, b, e, h⟩ : ∃ a b e, makeV p q = frT a b e := by unfold makeV; split <;> exact ⟨_, _, _, rfl⟩
      refine ⟨a, b, e, fun w ht => ?_, fun w => ?_⟩
      · rw [← h]
        exact fmake_lim hp hq ht
      · rw [← h]
        exact rfmake_lim hp hq w
    · exact ⟨_, _, _, fun w ht => fmake_bad (strN l) (strN m) hl hm rfl rfl (.inr (by rw [strN_data]; exact h2)) (by rw [strN_data, strN_data]), fun w => rfmake_bad l m hl hm rfl rfl (.inr h2) rfl w⟩
  · exact ⟨_, _, _, fun w ht => fmake_bad (strN l) (strN m) hl hm rfl rfl (.inl (by rw [strN_data]; exact h1)) (by rw [strN_data, strN_data]), fun w => rfmake_bad l m hl hm rfl rfl (.inl h1) rfl w⟩
theorem parse_same (l : List UInt8) (hl : l.length ≤ 140737488355328) : ∃ a b e, Same 14 15 #[.string (strN l)] (frT a b e) := by
  obtain ⟨a, b, e, h⟩ : ∃ a b e, parV l = frT a b e := by unfold parV; split <;> exact ⟨_, _, _, rfl⟩
  refine ⟨a, b, e, fun w ht => ?_, fun w => ?_⟩
  · have h5 := fparse_any (strN l) hl ht
    rw [strN_data, h] at h5
    exact h5
  · rw [← h]
    exact rfparse_any l hl w

theorem pair_cases (s t u v : List UInt8) : (∃ p q x y, s = txtI p ∧ t = txtI q ∧ u = txtI x ∧ v = txtI y ∧ Good p q ∧ Good x y) ∨ errOr (chkF s t) (chkF u v) ≠ 0 := by
  rcases chk_cases s t with ⟨p, q, rfl, rfl, h1⟩ | h
  · rcases chk_cases u v with ⟨x, y, rfl, rfl, h2⟩ | h
    · exact .inl ⟨p, q, x, y, rfl, rfl, rfl, rfl, h1, h2⟩
    · refine .inr ?_
      unfold errOr
      rw [h1.chkL, if_neg (by simp)]
      exact h
  · refine .inr ?_
    unfold errOr
    rw [if_pos h]
    exact h

theorem add_same (s t u v : List UInt8) (hs : s.length ≤ 140737488355328) (ht : t.length ≤ 140737488355328) (hu : u.length ≤ 140737488355328) (hv : v.length ≤ 140737488355328) : ∃ a b e, Same 21 34 #[.agg #[.string (strN s), .string (strN t)], .agg #[.string (strN u), .string (strN v)]] (frT a b e) := by
  rcases pair_cases s t u v with ⟨p, q, x, y, rfl, rfl, rfl, rfl, h1, h2⟩ | h
  · obtain ⟨a, b, e, h⟩ : ∃ a b e, opV (combK (p * y) (x * q) (p * y + x * q) (q * y)) (lowF (p * y + x * q) (q * y)) = frT a b e := opV_frT _ _
    refine ⟨a, b, e, fun w htb => ?_, fun w => ?_⟩
    · rw [← h]
      exact fadd_ok h1 h2 htb
    · rw [← h]
      exact rfadd_ok h1 h2 w
  · exact ⟨_, _, _, fun w htb => fadd_bad (strN s) (strN t) (strN u) (strN v) hs ht hu hv h (by rw [strN_data, strN_data, strN_data, strN_data]) htb, fun w => rfadd_bad s t u v hs ht hu hv h rfl w⟩

theorem sub_same (s t u v : List UInt8) (hs : s.length ≤ 140737488355328) (ht : t.length ≤ 140737488355328) (hu : u.length ≤ 140737488355328) (hv : v.length ≤ 140737488355328) : ∃ a b e, Same 35 36 #[.agg #[.string (strN s), .string (strN t)], .agg #[.string (strN u), .string (strN v)]] (frT a b e) := by
  rcases pair_cases s t u v with ⟨p, q, x, y, rfl, rfl, rfl, rfl, h1, h2⟩ | h
  · obtain ⟨a, b, e, h⟩ : ∃ a b e, opV (combK (p * y) (x * q) (p * y - x * q) (q * y)) (lowF (p * y - x * q) (q * y)) = frT a b e := opV_frT _ _
    refine ⟨a, b, e, fun w htb => ?_, fun w => ?_⟩
    · rw [← h]
      exact fsub_ok h1 h2 htb
    · rw [← h]
      exact rfsub_ok h1 h2 w
  · exact ⟨_, _, _, fun w htb => fsub_bad (strN s) (strN t) (strN u) (strN v) hs ht hu hv h (by rw [strN_data, strN_data, strN_data, strN_data]) htb, fun w => rfsub_bad s t u v hs ht hu hv h rfl w⟩

theorem mul_same (s t u v : List UInt8) (hs : s.length ≤ 140737488355328) (ht : t.length ≤ 140737488355328) (hu : u.length ≤ 140737488355328) (hv : v.length ≤ 140737488355328) : ∃ a b e, Same 23 37 #[.agg #[.string (strN s), .string (strN t)], .agg #[.string (strN u), .string (strN v)]] (frT a b e) := by
  rcases pair_cases s t u v with ⟨p, q, x, y, rfl, rfl, rfl, rfl, h1, h2⟩ | h
  · obtain ⟨a, b, e, h⟩ : ∃ a b e, opV (doE (doE true (p * x)) (q * y)) (lowF (p * x) (q * y)) = frT a b e := opV_frT _ _
    refine ⟨a, b, e, fun w htb => ?_, fun w => ?_⟩
    · rw [← h]
      exact fmul_ok h1 h2 htb
    · rw [← h]
      exact rfmul_ok h1 h2 w
  · exact ⟨_, _, _, fun w htb => fmul_bad (strN s) (strN t) (strN u) (strN v) hs ht hu hv h (by rw [strN_data, strN_data, strN_data, strN_data]) htb, fun w => rfmul_bad s t u v hs ht hu hv h rfl w⟩

theorem div_same (s t u v : List UInt8) (hs : s.length ≤ 140737488355328) (ht : t.length ≤ 140737488355328) (hu : u.length ≤ 140737488355328) (hv : v.length ≤ 140737488355328) : ∃ a b e, Same 38 39 #[.agg #[.string (strN s), .string (strN t)], .agg #[.string (strN u), .string (strN v)]] (frT a b e) := by
  rcases pair_cases s t u v with ⟨p, q, x, y, rfl, rfl, rfl, rfl, h1, h2⟩ | h
  · by_cases hz : x = 0
    · subst hz
      exact ⟨_, _, _, fun w htb => fdiv_zero h1 h2 htb, fun w => rfdiv_zero h1 h2 w⟩
    · obtain ⟨a, b, e, h⟩ : ∃ a b e, opV (doE (doE true (p * y)) (q * x)) (lowF (p * y) (q * x)) = frT a b e := opV_frT _ _
      refine ⟨a, b, e, fun w htb => ?_, fun w => ?_⟩
      · rw [← h]
        exact fdiv_ok h1 h2 hz htb
      · rw [← h]
        exact rfdiv_ok h1 h2 hz w
  · exact ⟨_, _, _, fun w htb => fdiv_bad (strN s) (strN t) (strN u) (strN v) hs ht hu hv h (by rw [strN_data, strN_data, strN_data, strN_data]) htb, fun w => rfdiv_bad s t u v hs ht hu hv h rfl w⟩

theorem cmp_same (s t u v : List UInt8) (hs : s.length ≤ 140737488355328) (ht : t.length ≤ 140737488355328) (hu : u.length ≤ 140737488355328) (hv : v.length ≤ 140737488355328) : ∃ x e, Same 40 41 #[.agg #[.string (strN s), .string (strN t)], .agg #[.string (strN u), .string (strN v)]] (.tuple #[.int .i64 x, .int .i64 e]) := by
  rcases pair_cases s t u v with ⟨p, q, x, y, rfl, rfl, rfl, rfl, h1, h2⟩ | h
  · obtain ⟨g, e, h⟩ : ∃ g e, cmpV p q x y = .tuple #[.int .i64 g, .int .i64 e] := by unfold cmpV; split <;> exact ⟨_, _, rfl⟩
    refine ⟨g, e, fun w htb => ?_, fun w => ?_⟩
    · rw [← h]
      exact fcmp_ok h1 h2 htb
    · rw [← h]
      exact rfcmp_ok h1 h2 w
  · exact ⟨_, _, fun w htb => fcmp_bad (strN s) (strN t) (strN u) (strN v) hs ht hu hv h (by rw [strN_data, strN_data, strN_data, strN_data]) htb, fun w => rfcmp_bad s t u v hs ht hu hv h rfl w⟩
end Go.Proofs.YthpknfoahimopaaGreatDoor

namespace Go.Proofs.YthpknfoahimopaaGreatDoor
open Go.RowKit

structure Out where
  dst : Int
  letter : Int
  deriving DecidableEq
structure Rul where
  next : Int
  sent : List Out
  deriving DecidableEq
structure Prc where
  states : Int
  letters : Int
  rules : List (List Rul)
  deriving DecidableEq
structure Nwk where
  procs : List Prc
  state : List Int
  waiting : List (List Int)
  deriving DecidableEq

def outR : Rep Out := fun _ _ cs x => cs = [.int .i64 x.dst, .int .i64 x.letter] ∧ I64 x.dst ∧ I64 x.letter
def ruleR : Rep Rul := fun F w cs r => ∃ oa c, cs = [.int .i64 r.next, .slice oa r.sent.length c] ∧ I64 r.next ∧ r.sent.length ≤ c ∧ r.sent.length ≤ 9223372036854775807 ∧ SliceR outR 2 F w oa r.sent
def prcR : Rep Prc := fun F w cs p => ∃ oa c, cs = [.int .i64 p.states, .int .i64 p.letters, .slice oa p.rules.length c] ∧ I64 p.states ∧ I64 p.letters ∧ p.rules.length ≤ c ∧ p.rules.length ≤ 9223372036854775807 ∧ SliceR (slcR ruleR 2) 1 F w oa p.rules

theorem outR_ok : RepOk outR 2 where
  len := by rintro F w cs x ⟨rfl, _⟩; rfl
  one := by rintro F w cs x ⟨rfl, _⟩ u hu; simp at hu; rcases hu with rfl | rfl <;> rfl
  keep := by rintro F w w' cs x h _; exact h
  wide := by rintro F F' w cs x h _; exact h
theorem ruleR_ok : RepOk ruleR 2 where
  len := by rintro F w cs x ⟨oa, c, rfl, _⟩; rfl
  one := by rintro F w cs x ⟨oa, c, rfl, _⟩ u hu; simp at hu; rcases hu with rfl | rfl <;> rfl
  keep := by rintro F w w' cs x ⟨oa, c, rfl, h0, h1, h2, h⟩ hs; exact ⟨oa, c, rfl, h0, h1, h2, h.keep outR_ok hs⟩
  wide := by rintro F F' w cs x ⟨oa, c, rfl, h0, h1, h2, h⟩ hs; exact ⟨oa, c, rfl, h0, h1, h2, h.wide outR_ok (by omega) hs⟩
theorem rowR_ok : RepOk (slcR ruleR 2) 1 := slcR_ok ruleR_ok (by omega)
theorem prcR_ok : RepOk prcR 3 where
  len := by rintro F w cs x ⟨oa, c, rfl, _⟩; rfl
  one := by rintro F w cs x ⟨oa, c, rfl, _⟩ u hu; simp at hu; rcases hu with rfl | rfl | rfl <;> rfl
  keep := by rintro F w w' cs x ⟨oa, c, rfl, h0, h00, h1, h2, h⟩ hs; exact ⟨oa, c, rfl, h0, h00, h1, h2, h.keep rowR_ok hs⟩
  wide := by rintro F F' w cs x ⟨oa, c, rfl, h0, h00, h1, h2, h⟩ hs; exact ⟨oa, c, rfl, h0, h00, h1, h2, h.wide rowR_ok (by omega) hs⟩

section
variable {F : Foot} {w : World} {oa : Option Addr}
theorem SliceR.out_at {xs : List Out} (h : SliceR outR 2 F w oa xs) {i : Nat} (hi : i < xs.length) :
    ∃ t l, xs.drop i = ⟨t, l⟩ :: xs.drop (i + 1) ∧ xs[i]? = some ⟨t, l⟩ ∧ I64 t ∧ I64 l ∧ ∃ b off, oa = some ⟨b, off, none⟩ ∧ F b ∧ w.cell? ⟨b, off + i * 2, none⟩ = some (.int .i64 t) ∧ w.cell? ⟨b, off + i * 2 + 1, none⟩ = some (.int .i64 l) := by
  obtain ⟨⟨t, l⟩, h1, h2, b, off, cs, h3, h4, ⟨rfl, h5, h5'⟩, h6⟩ := h.at hi
  exact ⟨t, l, h1, h2, h5, h5', b, off, h3, h4, by simpa using h6 0 _ rfl, by simpa using h6 1 _ rfl⟩
theorem SliceR.rule_at {xs : List Rul} (h : SliceR ruleR 2 F w oa xs) {i : Nat} (hi : i < xs.length) :
    ∃ nx st, xs.drop i = ⟨nx, st⟩ :: xs.drop (i + 1) ∧ xs[i]? = some ⟨nx, st⟩ ∧ I64 nx ∧ ∃ b off oa' c, oa = some ⟨b, off, none⟩ ∧ F b ∧ w.cell? ⟨b, off + i * 2, none⟩ = some (.int .i64 nx) ∧ w.cell? ⟨b, off + i * 2 + 1, none⟩ = some (.slice oa' st.length c) ∧ st.length ≤ c ∧ st.length ≤ 9223372036854775807 ∧ SliceR outR 2 F w oa' st := by
  obtain ⟨⟨nx, st⟩, h1, h2, b, off, cs, h3, h4, ⟨oa', c, rfl, h5, h7, h8, h9⟩, h6⟩ := h.at hi
  exact ⟨nx, st, h1, h2, h5, b, off, oa', c, h3, h4, by simpa using h6 0 _ rfl, by simpa using h6 1 _ rfl, h7, h8, h9⟩
end

/- The specifications of layer 54. -/
def belowB (n b : Int) : Bool := decide (0 ≤ n) && decide (n < b)
def sentErr (N : Int) : List Out → Int
  | [] => 0
  | x :: r => if belowB x.dst N && belowB x.letter 8 then sentErr N r else 2
def ruleErr (states N : Int) (r : Rul) : Int := if belowB r.next states then (if r.sent.length ≤ 16 then sentErr N r.sent else 5) else 2
def rowErr (states N : Int) : List Rul → Int
  | [] => 0
  | r :: l => if ruleErr states N r = 0 then rowErr states N l else ruleErr states N r
def rowsErr (states letters N : Int) : List (List Rul) → Int
  | [] => 0
  | l :: r => if (l.length : Int) = letters then (if rowErr states N l = 0 then rowsErr states letters N r else rowErr states N l) else 8
def checkErr (p : Prc) (N : Int) : Int :=
  if N < 1 ∨ N > 12 then 1
  else if p.states < 1 ∨ p.states > 16 ∨ p.letters < 1 ∨ p.letters > 8 then 2
  else if (p.rules.length : Int) ≠ p.states then 8
  else rowsErr p.states p.letters N p.rules

theorem not_err {a : Int} (h : a ≠ 0) : (a != 0) = true := by simp [h]
theorem is_err {a : Int} (h : a = 0) : (a != 0) = false := by simp [h]
def unaryRes (p : Prc) : Bool × Int := if checkErr p 12 = 0 then (p.letters == 1, 0) else (false, checkErr p 12)
def stateErr (p : Prc) (s : Int) : Int := if checkErr p 12 = 0 then (if belowB s p.states then 0 else 2) else checkErr p 12
def lettersErr (L : Int) : List Int → Int
  | [] => 0
  | a :: r => if belowB a L then lettersErr L r else 2
def SomeBool (w : World) (e : Ending) (w' : World) : Prop := ∃ b, e = .returned (.bool b) ∧ Below w.heap.size w w'

end Go.Proofs.YthpknfoahimopaaGreatDoor

set_option linter.unusedVariables false
namespace Go.Proofs.YthpknfoahimopaaGreatDoor
open Go.RowKit Go.ChangeShapes Go.WideShapes Go.ChangeAt Go.Deep

section
variable {H : Type} {enc : TypeId × Value → H} {P : Program} {w : World} {base : Nat} {spare : Nat → Bool} {held : Bool}

/-- Whatever reads as data of type t stands for something. -/
def ReadsAs {α : Type} (enc : TypeId × Value → H) (P : Program) (w : World) (base : Nat) (spare : Nat → Bool) (held : Bool) (t : TypeId) (R : Rep α) : Prop :=
  ∀ fuel cs x, DataW.trod enc P w base spare held fuel t cs = some x → ∃ y, R All w cs y

theorem ReadsAs.int {t : TypeId} (ht : P.underlying t = some (.int .i64)) : ReadsAs enc P w base spare held t intR := by
  intro fuel cs x h
  obtain ⟨n, rfl, _, hw⟩ := DataW.trod_int ht h
  refine ⟨n, rfl, ?_⟩
  simpa [Lit.wf, IntKind.min, IntKind.max, IntKind.signed, IntKind.bits, I64] using hw

theorem listOf {α : Type} {Q : Nat → α → Prop} : ∀ n, (∀ i, i < n → ∃ y, Q i y) → ∃ ys : List α, ys.length = n ∧ ∀ i y, ys[i]? = some y → Q i y
  | 0, _ => ⟨[], rfl, by simp⟩
  | n + 1, h => by
    obtain ⟨ys, hl, hq⟩ := listOf n fun i hi => h i (by omega)
    obtain ⟨y, hy⟩ := h n (by omega)
    refine ⟨ys ++ [y], by simp [hl], fun i z hz => ?_⟩
    rcases Nat.lt_or_ge i n with hi | hi
    · rw [List.getElem?_append_left (by omega)] at hz
      exact hq i z hz
    · rw [List.getElem?_append_right (by omega)] at hz
      have : i - ys.length = 0 := by
        rcases Nat.eq_zero_or_pos (i - ys.length) with h0 | h0
        · exact h0
        · rw [List.getElem?_eq_none (by simp; omega)] at hz; cases hz
      rw [this] at hz
      simp at hz
      subst hz
      have : i = n := by omega
      subst this
      exact hy

theorem ReadsAs.slice {α : Type} {R : Rep α} {sz : Nat} {t e : TypeId} (ok : RepOk R sz) (hsz : 0 < sz) (ht : P.underlying t = some (.slice e)) (hC : P.cellsOf e = sz) (hR : ReadsAs enc P w base spare held e R) :
    ReadsAs enc P w base spare held t (slcR R sz) := by
  intro fuel cs x h
  rcases open_slice ht h with ⟨rfl, _⟩ | ⟨a, len, cap, m, n, D, Pl, rfl, _, hl, hm, hmm, _, hi⟩
  · exact ⟨[], none, 0, rfl, by simp, by simp, SliceR.nil _ _ _ _ _⟩
  · have hlm : len ≤ m := by rw [hmm]; split <;> omega
    have key : ∀ i, i < len → ∃ y cs', R All w cs' y ∧ ∀ j, j < sz → w.cell? ((a.add (i * sz)).add j) = cs'[j]? := by
      intro i hil
      obtain ⟨cs', hc, hd⟩ := hi i (by omega)
      rw [hC] at hc
      obtain ⟨_, hcl, hat⟩ := World.cells?_some hc
      obtain ⟨y, hy⟩ := hR _ _ _ hd
      exact ⟨y, cs', hy, hat⟩
    rcases Nat.eq_zero_or_pos len with h0 | h0
    · subst h0
      exact ⟨[], some a, cap, rfl, by simp, by simp, SliceR.nil _ _ _ _ _⟩
    obtain ⟨y0, cs0, hR0, hat0⟩ := key 0 h0
    obtain ⟨b, off, spot⟩ := a
    have hspot : spot = none := by
      have h1 := hat0 0 hsz
      have h2 : cs0[0]? = some (cs0[0]'(by rw [ok.len hR0]; exact hsz)) := List.getElem?_eq_getElem _
      rw [h2] at h1
      simpa [Addr.add] using World.cell?_spot h1
    subst hspot
    obtain ⟨ys, hyl, hyq⟩ := listOf len key
    refine ⟨ys, some ⟨b, off, none⟩, cap, by rw [hyl], by omega, by unfold maxLen at hm; omega, fun i y hy => ?_⟩
    obtain ⟨cs', hRy, hat⟩ := hyq i y hy
    refine ⟨b, off, cs', rfl, trivial, hRy, fun j u hu => ?_⟩
    have hj : j < sz := by rw [← ok.len hRy]; exact (List.getElem?_eq_some_iff.1 hu).1
    have := hat j hj
    rw [Addr.add_lit, Addr.add_lit, hu] at this
    exact this

theorem part2 {f0 f1 : Field} {t : TypeId} {fuel : Nat} {cs : List Value} {x : DataW H × List MemPlace} (hs : P.underlying t = some (.struct #[f0, f1])) (o0 : f0.offset = 0) (o1 : f1.offset = 1) (k0 : P.cellsOf f0.type = 1) (k1 : P.cellsOf f1.type = 1) (kt : P.cellsOf t = 2)
    (h : DataW.trod enc P w base spare held fuel t cs = some x) : ∃ c0 c1 n y0 y1, cs = [c0, c1] ∧ DataW.trod enc P w base spare held n f0.type [c0] = some y0 ∧ DataW.trod enc P w base spare held n f1.type [c1] = some y1 := by
  obtain ⟨xs, n, _, _, hcl, hxl, hg⟩ := DataW.trod_struct hs h
  rw [kt] at hcl
  match cs, hcl, xs, hxl with
  | [c0, c1], _, [y0, y1], _ =>
    exact ⟨c0, c1, n, y0, y1, rfl, by simpa [o0, k0] using hg 0 f0 rfl, by simpa [o1, k1] using hg 1 f1 rfl⟩
theorem part3 {f0 f1 f2 : Field} {t : TypeId} {fuel : Nat} {cs : List Value} {x : DataW H × List MemPlace} (hs : P.underlying t = some (.struct #[f0, f1, f2])) (o0 : f0.offset = 0) (o1 : f1.offset = 1) (o2 : f2.offset = 2) (k0 : P.cellsOf f0.type = 1) (k1 : P.cellsOf f1.type = 1) (k2 : P.cellsOf f2.type = 1) (kt : P.cellsOf t = 3)
    (h : DataW.trod enc P w base spare held fuel t cs = some x) : ∃ c0 c1 c2 n y0 y1 y2, cs = [c0, c1, c2] ∧ DataW.trod enc P w base spare held n f0.type [c0] = some y0 ∧ DataW.trod enc P w base spare held n f1.type [c1] = some y1 ∧ DataW.trod enc P w base spare held n f2.type [c2] = some y2 := by
  obtain ⟨xs, n, _, _, hcl, hxl, hg⟩ := DataW.trod_struct hs h
  rw [kt] at hcl
  match cs, hcl, xs, hxl with
  | [c0, c1, c2], _, [y0, y1, y2], _ =>
    exact ⟨c0, c1, c2, n, y0, y1, y2, rfl, by simpa [o0, k0] using hg 0 f0 rfl, by simpa [o1, k1] using hg 1 f1 rfl, by simpa [o2, k2] using hg 2 f2 rfl⟩

theorem agg_cells {r : Reach} {b0 : Nat} {t : TypeId} {fs : Array Field} {v : Value} {d : DataW H} {p : List MemPlace} (hs : P.underlying t = some (.struct fs))
    (hv : Value.okWide P w r b0 t v) (h : DataW.Trod enc P w base spare held t v d p) : ∃ l fuel, v = .agg ⟨l⟩ ∧ DataW.trod enc P w base spare held fuel t l = some (d, p) := by
  obtain ⟨cs, rfl, _⟩ := okWide_struct hs hv
  obtain ⟨l⟩ := cs
  obtain ⟨fuel, hf⟩ := h
  exact ⟨l, fuel, rfl, by simpa [Value.cells] using hf⟩
end

section
variable {H : Type} {enc : TypeId × Value → H} {w : World} {base : Nat} {spare : Nat → Bool} {held : Bool}
theorem reads_int : ReadsAs enc Tryz.prog w base spare held 3 intR := ReadsAs.int Tryz.underlying3
theorem reads_ints : ReadsAs enc Tryz.prog w base spare held 82 (slcR intR 1) := ReadsAs.slice intR_ok (by omega) Tryz.underlying82 (by kernel_rfl) reads_int
set_option maxRecDepth 100000 in
theorem open_i64 {r : Reach} {b0 : Nat} {v : Value} {d : DataW H} {p : List MemPlace} (hv : Value.okWide Tryz.prog w r b0 3 v) (h : DataW.Trod enc Tryz.prog w base spare held 3 v d p) :
    ∃ n, v = .int .i64 n ∧ I64 n := by
  obtain ⟨n, rfl, rfl, rfl, hw⟩ := open_int Tryz.underlying3 hv h
  exact ⟨n, rfl, by simpa [Lit.wf, IntKind.min, IntKind.max, IntKind.signed, IntKind.bits, I64] using hw⟩
set_option maxRecDepth 100000 in
theorem open_is {r : Reach} {b0 : Nat} {v : Value} {d : DataW H} {p : List MemPlace} (hv : Value.okWide Tryz.prog w r b0 82 v) (h : DataW.Trod enc Tryz.prog w base spare held 82 v d p) :
    ∃ xs oa c, v = .slice oa xs.length c ∧ xs.length ≤ c ∧ xs.length ≤ 9223372036854775807 ∧ SliceR intR 1 All w oa xs := by
  obtain ⟨oa, n, c, rfl⟩ := okWide_slice Tryz.underlying82 hv
  obtain ⟨fuel, hf⟩ := h
  obtain ⟨xs, oa', c', h1, h2, h3, h4⟩ := reads_ints _ _ _ hf
  simp [Value.cells] at h1
  obtain ⟨rfl, rfl, rfl⟩ := h1
  exact ⟨xs, _, _, rfl, h2, h3, h4⟩
end

theorem own_knob : ownKnob Tryz.prog.godebug = none := by kernel_rfl
theorem laid_out : laidOutB Tryz.prog = true := by kernel_rfl

end Go.Proofs.YthpknfoahimopaaGreatDoor

set_option linter.unusedVariables false
set_option linter.unusedSimpArgs false
namespace Go.Proofs.YthpknfoahimopaaGreatDoor
open Go.RowKit Go.ChangeShapes Go.WideShapes Go.ChangeAt Go.Deep

section
variable {H : Type} {enc : TypeId × Value → H} {P : Program} {w : World} {base : Nat} {spare : Nat → Bool} {held : Bool}
/-- Whatever reads as data of type t, and weighs little, stands for something. -/
def ReadsW {α : Type} (enc : TypeId × Value → H) (P : Program) (w : World) (base : Nat) (spare : Nat → Bool) (held : Bool) (t : TypeId) (R : Rep α) : Prop :=
  ∀ fuel cs x, DataW.trod enc P w base spare held fuel t cs = some x → (x.1.weights P t).all (· ≤ reachBytes) = true → ∃ y, R All w cs y
theorem weightsAll_mem {e : TypeId} : ∀ {l : List (DataW H)}, (DataW.weightsAll P e l).all (· ≤ reachBytes) = true → ∀ d ∈ l, (d.weights P e).all (· ≤ reachBytes) = true
  | [], _, d, hd => by simp at hd
  | x :: r, h, d, hd => by
    unfold DataW.weightsAll at h
    rw [List.all_append, Bool.and_eq_true] at h
    rcases List.mem_cons.1 hd with rfl | hd
    · exact h.1
    · exact weightsAll_mem h.2 d hd
theorem ReadsW.slice {α : Type} {R : Rep α} {sz : Nat} {t e : TypeId} (ok : RepOk R sz) (hsz : 0 < sz) (ht : P.underlying t = some (.slice e)) (hC : P.cellsOf e = sz) (hR : ReadsW enc P w base spare held e R) :
    ReadsW enc P w base spare held t (slcR R sz) := by
  intro fuel cs x h hwt
  rcases DataW.trod_slice ht h with ⟨rfl, _⟩ | ⟨a, len, cap, elems, rest, n, _, rfl, hx, _, hl, hm, hel, hi, _⟩
  · exact ⟨[], none, 0, rfl, by simp, by simp, SliceR.nil _ _ _ _ _⟩
  · have hwe : ∀ y ∈ elems, (y.1.weights P e).all (· ≤ reachBytes) = true := by
      rw [hx] at hwt
      simp only [DataW.weights, ht, List.all_cons, List.all_append, Bool.and_eq_true] at hwt
      intro y hy
      exact weightsAll_mem hwt.2.1 y.1 (List.mem_map.2 ⟨y, hy, rfl⟩)
    have key : ∀ i, i < len → ∃ y cs', R All w cs' y ∧ ∀ j, j < sz → w.cell? ((a.add (i * sz)).add j) = cs'[j]? := by
      intro i hil
      have h5 := hi i hil
      have h6 : elems[i]? = some (elems[i]'(by omega)) := List.getElem?_eq_getElem _
      rw [h6] at h5
      obtain ⟨cs', hc, hd⟩ := Option.bind_eq_some_iff.1 h5
      rw [hC] at hc
      obtain ⟨_, hcl, hat⟩ := World.cells?_some hc
      obtain ⟨y, hy⟩ := hR _ _ _ hd (hwe _ (List.mem_of_getElem? h6))
      exact ⟨y, cs', hy, hat⟩
    rcases Nat.eq_zero_or_pos len with h0 | h0
    · subst h0
      exact ⟨[], some a, cap, rfl, by simp, by simp, SliceR.nil _ _ _ _ _⟩
    obtain ⟨y0, cs0, hR0, hat0⟩ := key 0 h0
    obtain ⟨b, off, spot⟩ := a
    have hspot : spot = none := by
      have h1 := hat0 0 hsz
      have h2 : cs0[0]? = some (cs0[0]'(by rw [ok.len hR0]; exact hsz)) := List.getElem?_eq_getElem _
      rw [h2] at h1
      simpa [Addr.add] using World.cell?_spot h1
    subst hspot
    obtain ⟨ys, hyl, hyq⟩ := listOf len key
    refine ⟨ys, some ⟨b, off, none⟩, cap, by rw [hyl], by omega, by unfold maxLen at hm; omega, fun i y hy => ?_⟩
    obtain ⟨cs', hRy, hat⟩ := hyq i y hy
    refine ⟨b, off, cs', rfl, trivial, hRy, fun j u hu => ?_⟩
    have hj : j < sz := by rw [← ok.len hRy]; exact (List.getElem?_eq_some_iff.1 hu).1
    have := hat j hj
    rw [Addr.add_lit, Addr.add_lit, hu] at this
    exact this
theorem part2d {f0 f1 : Field} {t : TypeId} {fuel : Nat} {cs : List Value} {x : DataW H × List MemPlace} (hs : P.underlying t = some (.struct #[f0, f1])) (o0 : f0.offset = 0) (o1 : f1.offset = 1) (k0 : P.cellsOf f0.type = 1) (k1 : P.cellsOf f1.type = 1) (kt : P.cellsOf t = 2)
    (h : DataW.trod enc P w base spare held fuel t cs = some x) : ∃ c0 c1 n y0 y1, cs = [c0, c1] ∧ x.1 = .agg [y0.1, y1.1] ∧ DataW.trod enc P w base spare held n f0.type [c0] = some y0 ∧ DataW.trod enc P w base spare held n f1.type [c1] = some y1 := by
  obtain ⟨xs, n, _, hx, hcl, hxl, hg⟩ := DataW.trod_struct hs h
  rw [kt] at hcl
  match cs, hcl, xs, hxl, hx with
  | [c0, c1], _, [y0, y1], _, hx =>
    exact ⟨c0, c1, n, y0, y1, rfl, by rw [hx]; rfl, by simpa [o0, k0] using hg 0 f0 rfl, by simpa [o1, k1] using hg 1 f1 rfl⟩
end
section
variable {H : Type} {enc : TypeId × Value → H} {w : World} {base : Nat} {spare : Nat → Bool} {held : Bool}
set_option maxRecDepth 100000 in
theorem reads_str {t : TypeId} (ht : Tryz.prog.underlying t = some .string) : ReadsW enc Tryz.prog w base spare held t strR := by
  intro fuel cs x h hwt
  obtain ⟨s, hs, hx, hl⟩ := DataW.trod_string ht h
  refine ⟨s.data.toList, by rw [strN_self]; exact hs, ?_⟩
  rw [hx] at hwt
  simp [DataW.weights] at hwt
  rw [Array.length_toList]
  exact Nat.le_trans hwt (by unfold reachBytes; omega)
set_option maxRecDepth 100000 in
theorem reads_fr : ReadsW enc Tryz.prog w base spare held 26 frR := by
  intro fuel cs x h hwt
  obtain ⟨c0, c1, n, y0, y1, rfl, hx, h0, h1⟩ := part2d Tryz.underlying26 rfl rfl (by kernel_rfl) (by kernel_rfl) (by kernel_rfl) h
  rw [hx] at hwt
  simp only [DataW.weights, Tryz.underlying26, List.toList_toArray, List.map_cons, List.map_nil, DataW.weightsEach, List.append_nil, List.all_append, Bool.and_eq_true] at hwt
  obtain ⟨a, h2, h3⟩ := reads_str Tryz.underlying22 _ _ _ h0 hwt.1
  obtain ⟨b, h4, h5⟩ := reads_str Tryz.underlying22 _ _ _ h1 hwt.2
  simp at h2 h4
  subst h2 h4
  exact ⟨(a, b), rfl, h3, h5⟩
set_option maxRecDepth 100000 in
theorem reads_frs : ReadsW enc Tryz.prog w base spare held 71 (slcR frR 2) := ReadsW.slice frR_ok (by omega) Tryz.underlying71 (by kernel_rfl) reads_fr
set_option maxRecDepth 100000 in
theorem open_txt {t : TypeId} (ht : Tryz.prog.underlying t = some .string) {r : Reach} {b0 : Nat} {v : Value} {d : DataW H} {p : List MemPlace} (hv : Value.okWide Tryz.prog w r b0 t v) (h : DataW.Trod enc Tryz.prog w base spare held t v d p) (hwt : (d.weights Tryz.prog t).all (· ≤ reachBytes) = true) :
    ∃ l : List UInt8, v = .string (strN l) ∧ l.length ≤ 140737488355328 := by
  obtain ⟨s, rfl, hd, _, hl⟩ := Go.ChangeMaps.open_string ht hv h
  refine ⟨s.data.toList, by rw [strN_self], ?_⟩
  rw [hd] at hwt
  simp [DataW.weights] at hwt
  rw [Array.length_toList]
  exact Nat.le_trans hwt (by unfold reachBytes; omega)
set_option maxRecDepth 100000 in
theorem open_fr {r : Reach} {b0 : Nat} {v : Value} {d : DataW H} {p : List MemPlace} (hv : Value.okWide Tryz.prog w r b0 26 v) (h : DataW.Trod enc Tryz.prog w base spare held 26 v d p) (hwt : (d.weights Tryz.prog 26).all (· ≤ reachBytes) = true) :
    ∃ l m : List UInt8, v = .agg #[.string (strN l), .string (strN m)] ∧ l.length ≤ 140737488355328 ∧ m.length ≤ 140737488355328 := by
  obtain ⟨c, fuel, rfl, hf⟩ := agg_cells Tryz.underlying26 hv h
  obtain ⟨⟨l, m⟩, h0, h1, h2⟩ := reads_fr _ _ _ hf hwt
  simp at h0
  subst h0
  exact ⟨l, m, rfl, h1, h2⟩
set_option maxRecDepth 100000 in
theorem open_frs {r : Reach} {b0 : Nat} {v : Value} {d : DataW H} {p : List MemPlace} (hv : Value.okWide Tryz.prog w r b0 71 v) (h : DataW.Trod enc Tryz.prog w base spare held 71 v d p) (hwt : (d.weights Tryz.prog 71).all (· ≤ reachBytes) = true) :
    ∃ (xs : List FrX) (oa : Option Addr) (c : Nat), v = .slice oa xs.length c ∧ xs.length ≤ 9223372036854775807 ∧ SliceR frR 2 All w oa xs := by
  obtain ⟨oa, n, c, rfl⟩ := okWide_slice Tryz.underlying71 hv
  obtain ⟨fuel, hf⟩ := h
  obtain ⟨xs, oa', c', h1, h2, h3, h4⟩ := reads_frs _ _ _ hf hwt
  simp [Value.cells] at h1
  obtain ⟨rfl, rfl, rfl⟩ := h1
  exact ⟨xs, _, _, rfl, h3, h4⟩
end
theorem laid_tail {P : Program} {x : String × DataW Unit} {r : List (String × DataW Unit)} {W : World} (h : laidMet P (x :: r) W) : laidMet P r W := by
  obtain ⟨ps, ⟨g, t, cs, fuel, p, q, _, _, _, _, hr, rfl⟩, hn, hc⟩ := h
  exact ⟨q, hr, (List.nodup_append.1 hn).2.1, fun b off hm => hc b off (List.mem_append_right _ hm)⟩
/-- From the row's list to the table. -/
theorem tbl_of_laid {a b : String × DataW Unit} {d : DataW Unit} {rest : List (String × DataW Unit)} {W : World} (hd : d = Lib.tabData .u64 Lib.pow10Tab)
    (h : laidMet Tryz.prog (a :: b :: ("internal/strconv.uint64pow10", d) :: rest) W) : Tbl W := by
  subst hd
  exact Lib.tabIs_of_head (g := (Tryz.prog.globalNamed "internal/strconv.uint64pow10").getD 0) (t := ((Tryz.prog.globals[(Tryz.prog.globalNamed "internal/strconv.uint64pow10").getD 0]?).map (·.type)).getD 0) (e := 141) (n := 20) (by kernel_rfl) (by kernel_rfl) (by kernel_rfl) (by kernel_rfl) (by kernel_rfl) (by kernel_rfl) (laid_tail (laid_tail h))
end Go.Proofs.YthpknfoahimopaaGreatDoor

set_option linter.unusedVariables false
namespace Go.Proofs.YthpknfoahimopaaGreatDoor
open Go.RowKit
end Go.Proofs.YthpknfoahimopaaGreatDoor

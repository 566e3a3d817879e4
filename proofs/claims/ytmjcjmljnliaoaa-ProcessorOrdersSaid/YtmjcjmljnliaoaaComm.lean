/-
  commute, Commuting.
-/
import Derived.Test.YtmjcjmljnliaoaaSorted
import Derived.Test.YtmjcjmljnliaoaaOrder
import Derived.Test.YtmjcjmljnliaoaaEq
import Derived.Test.YtmjcjmljnliaoaaLit
import Derived.Test.YtmjcjmljnliaoaaStep
set_option linter.unusedVariables false
namespace Go.Proofs.Ytmjcjmljnliaoaa
open Go.RowKit

def commB (rs : List (List Rul)) (s a b : Int) : Bool :=
  decide ((readSpec rs s [a, b]).1 = (readSpec rs s [b, a]).1) && decide (isort (readSpec rs s [a, b]).2 = isort (readSpec rs s [b, a]).2)

theorem letters_two {L a b : Int} (ha : belowB a L = true) (hb : belowB b L = true) : lettersErr L [a, b] = 0 := by simp [lettersErr, ha, hb]

theorem ruleAt_mem {p : Prc} {N : Int} (h : checkErr p N = 0) {s a : Int} (hs : 0 ≤ s ∧ s < p.states) (ha : 0 ≤ a ∧ a < p.letters) :
    (0 ≤ (ruleAt p.rules s a).next ∧ (ruleAt p.rules s a).next < p.states) ∧ (ruleAt p.rules s a).sent.length ≤ 16 ∧ ∀ o ∈ (ruleAt p.rules s a).sent, (0 ≤ o.to ∧ o.to < N) ∧ 0 ≤ o.letter ∧ o.letter < 8 := by
  obtain ⟨n, rfl⟩ := Int.eq_ofNat_of_zero_le hs.1
  obtain ⟨m, rfl⟩ := Int.eq_ofNat_of_zero_le ha.1
  have h1 := (check_zero h).2.2.2.1
  have hn : n < p.rules.length := by omega
  have hrow := List.getElem?_eq_getElem hn
  have hl := valid_row h hrow
  have hm : m < (p.rules[n]).length := by omega
  have hr := List.getElem?_eq_getElem hm
  rw [ruleAt_eq hrow hr]
  exact valid_rule h hrow hr
theorem readSpec_right {p : Prc} {N : Int} (h : checkErr p N = 0) : ∀ (word : List Int) (s : Int), 0 ≤ s ∧ s < p.states → lettersErr p.letters word = 0 →
    (0 ≤ (readSpec p.rules s word).1 ∧ (readSpec p.rules s word).1 < p.states) ∧ (readSpec p.rules s word).2.length ≤ 16 * word.length ∧ ∀ o ∈ (readSpec p.rules s word).2, (0 ≤ o.to ∧ o.to < N) ∧ 0 ≤ o.letter ∧ o.letter < 8
  | [], s, hs, _ => ⟨hs, by simp [readSpec], by simp [readSpec]⟩
  | a :: r, s, hs, hw => by
    have ha := letters_zero hw a (by simp)
    have hr : lettersErr p.letters r = 0 := by
      unfold lettersErr at hw
      split at hw
      · exact hw
      · cases hw
    obtain ⟨h1, h2, h3⟩ := ruleAt_mem h hs ha
    obtain ⟨h4, h5, h6⟩ := readSpec_right h r _ h1 hr
    refine ⟨h4, ?_, ?_⟩
    · simp only [readSpec, List.length_append, List.length_cons]; omega
    · intro o ho
      simp only [readSpec, List.mem_append] at ho
      rcases ho with ho | ho
      · exact h3 o ho
      · exact h6 o ho

theorem orderR_any (l : List Out) (oa : Option Addr) (c : Nat) (F : Foot) (w : World) (hs : SliceR outR 2 F w oa l) (hc : l.length ≤ c) (hlen : l.length ≤ 1000000) (h : ∀ o ∈ l, (0 ≤ o.to ∧ o.to < 12) ∧ 0 ≤ o.letter ∧ o.letter < 8) :
    Calls Try.prog 85 #[.slice oa l.length c] w fun e w' => ∃ v, e = .returned v ∧ OwnS outR 2 w.heap.size 80 Non w' v (isort l) ∧ Below w.heap.size w w' := by
  rw [← picks_isort h]
  exact order_any l oa c F w hs hc hlen

set_option maxRecDepth 100000 in
set_option maxHeartbeats 1000000 in
theorem commute_any {N : Nat} (HS : Hid (SortedUpto N)) (S L s a b : Int) (rs : List (List Rul)) (oa : Option Addr) (c : Nat) (F : Foot) (w : World) (hs : SliceR (slcR ruleR 2) 1 F w oa rs)
    (hV : Hid (checkErr ⟨S, L, rs⟩ 12 = 0)) (hS : 0 ≤ s ∧ s < S) (hA : belowB a L = true) (hB : belowB b L = true) (ia : I64 a) (ib : I64 b) (HN : Hid ((readSpec rs s [a, b]).2.length ≤ N ∧ (readSpec rs s [b, a]).2.length ≤ N)) :
    Calls Try.prog 88 #[.agg #[.int .i64 S, .int .i64 L, .slice oa rs.length c], .int .i64 s, .int .i64 a, .int .i64 b] w fun e w' => e = .returned (.bool (commB rs s a b)) ∧ Below w.heap.size w w' := by
  have HL1 := hide (letters_two hA hB)
  have HL2 := hide (letters_two hB hA)
  have HR1 := hide (readSpec_right hV.out [a, b] s hS HL1.out)
  have HR2 := hide (readSpec_right hV.out [b, a] s hS HL2.out)
  have HC : Hid (commB rs s a b = (decide ((readSpec rs s [a, b]).1 = (readSpec rs s [b, a]).1) && decide (isort (readSpec rs s [a, b]).2 = isort (readSpec rs s [b, a]).2))) := rfl
  have HSS := hide hS
  have IA := hide ia
  have IB := hide ib
  clear hS hA hB ia ib
  go_enter Try.func88, Try.ntmps88
  go_wp2_with fail
  have hb0 := box_refl w (.cells #[.int .i64 S, .int .i64 L, .slice oa rs.length c] 47)
  have hb1 := bnew (below_box hb0) (.cells #[.int .i64 a, .int .i64 b] 3)
  refine (read_any S L rs oa c s [a, b] (some ⟨w.heap.size + 1, 0, none⟩) 2 F All _ (hs.below rowR_ok hb1) ?hw hV HSS.out HL1 (by simp)).mono ?_
  case hw =>
    have := ints_lit (F := All) (G := All) (w.alloc (.cells #[.int .i64 S, .int .i64 L, .slice oa rs.length c] 47)) 3 [a, b] (by intro x hx; simp at hx; rcases hx with rfl | rfl; exact IA.out; exact IB.out) trivial
    simpa using this
  rintro e w2 ⟨v, rfl, ho, hb2⟩
  have hx2 := box_then (box_new hb0 (by simp) (.cells #[.int .i64 a, .int .i64 b] 3)) (by simp) hb2
  have d0 := box_cell hx2 0
  have d1 := box_cell hx2 1
  have d2 := box_cell hx2 2
  simp at d0 d1 d2
  obtain ⟨oa1, c1, rfl, hc1, hsl1⟩ := ho.slice outR_ok
  clear hb0 hb1 hb2 ho
  generalize readSpec rs s [a, b] = r1 at *
  obtain ⟨t1, l1⟩ := r1
  go_wp2_with fail
  have hxl := below_box hx2
  refine (read_any S L rs oa c s [b, a] (some ⟨w2.heap.size, 0, none⟩) 2 F All _ (hs.below rowR_ok (bnew hxl _)) ?hw2 hV HSS.out HL2 (by simp)).mono ?_
  case hw2 =>
    have := ints_lit (F := All) (G := All) w2 3 [b, a] (by intro x hx; simp at hx; rcases hx with rfl | rfl; exact IB.out; exact IA.out) trivial
    simpa using this
  rintro e w3 ⟨v, rfl, ho, hb3⟩
  have hsl2 := (hsl1.below outR_ok (bnew (Below.refl _ _) _)).below outR_ok hb3
  have hx3 := below_then (bnew hxl _) hb3
  obtain ⟨oa2, c2, rfl, hc2, hsl3⟩ := ho.slice outR_ok
  clear hsl1 hb3 ho hxl hx2 d0 d1 d2
  generalize readSpec rs s [b, a] = r2 at *
  obtain ⟨t2, l2⟩ := r2
  have hN1 : l1.length ≤ 32 := by have := HR1.out.2.1; simpa using this
  have hN2 : l2.length ≤ 32 := by have := HR2.out.2.1; simpa using this
  by_cases ht : t1 = t2
  case neg =>
    have HC2 : Hid (commB rs s a b = false) := by show _ = _; rw [HC.out]; simp [ht]
    have hq : (t1 == t2) = false := by simp [ht]
    clear ht
    go_wp2_with fail
    go_ret
    exact ⟨ret_bool HC2.out.symm, hx3⟩
  subst ht
  have HC2 : Hid (commB rs s a b = decide (isort l1 = isort l2)) := by show _ = _; rw [HC.out]; simp
  go_wp2_with fail
  refine (HS.out l1 oa1 c1 _ _ hsl2 hc1 HN.out.1).mono ?_
  rintro e w4 ⟨v4, rfl, ho4, hb4⟩
  obtain ⟨oa4, c4, rfl, hc4, hsl4⟩ := ho4.slice outR_ok
  have hsl5 := hsl3.below outR_ok hb4
  have hx4 := below_then hx3 hb4
  clear ho4 hsl2 hsl3 hb4 hx3
  go_wp2_with fail
  refine (HS.out l2 oa2 c2 _ _ hsl5 hc2 HN.out.2).mono ?_
  rintro e w5 ⟨v5, rfl, ho5, hb5⟩
  obtain ⟨oa5, c5, rfl, hc5, hsl6⟩ := ho5.slice outR_ok
  have hsl7 := hsl4.below outR_ok hb5
  have hx5 := below_then hx4 hb5
  clear ho5 hsl4 hsl5 hb5 hx4
  go_wp2_with fail
  refine (equalOut_any (isort l1) (isort l2) oa4 oa5 c4 c5 (fun _ => True) _ (hsl7.all outR_ok (by omega)) (hsl6.all outR_ok (by omega)) hc4 (by rw [isort_length]; omega)).mono ?_
  rintro e w6 ⟨rfl, hb6⟩
  have hx6 := below_then hx5 hb6
  go_wp2_with fail
  go_ret
  exact ⟨ret_bool HC2.out.symm, hx6⟩

set_option maxRecDepth 100000 in
set_option maxHeartbeats 1000000 in
theorem commuting_any (S L s a b : Int) (rs : List (List Rul)) (oa : Option Addr) (c : Nat) (F : Foot) (w : World) (hs : SliceR (slcR ruleR 2) 1 F w oa rs)
    (hV : Hid (checkErr ⟨S, L, rs⟩ 12 = 0)) (hS : 0 ≤ s ∧ s < S) (hA : belowB a L = true) (hB : belowB b L = true) (ia : I64 a) (ib : I64 b) :
    Calls Try.prog 90 #[.agg #[.int .i64 S, .int .i64 L, .slice oa rs.length c], .int .i64 s, .int .i64 a, .int .i64 b] w fun e w' => e = .returned (.bool (commB rs s a b)) ∧ Below w.heap.size w w' := by
  have HL1 := hide (letters_two hA hB)
  have HL2 := hide (letters_two hB hA)
  have HR1 := hide (readSpec_right hV.out [a, b] s hS HL1.out)
  have HR2 := hide (readSpec_right hV.out [b, a] s hS HL2.out)
  have HC : Hid (commB rs s a b = (decide ((readSpec rs s [a, b]).1 = (readSpec rs s [b, a]).1) && decide (isort (readSpec rs s [a, b]).2 = isort (readSpec rs s [b, a]).2))) := rfl
  have HSS := hide hS
  have IA := hide ia
  have IB := hide ib
  clear hS hA hB ia ib
  go_enter Try.func90, Try.ntmps90
  go_wp2_with fail
  have hb0 := box_refl w (.cells #[.int .i64 S, .int .i64 L, .slice oa rs.length c] 47)
  have hb1 := bnew (below_box hb0) (.cells #[.int .i64 a, .int .i64 b] 3)
  refine (rread_any S L rs oa c s [a, b] (some ⟨w.heap.size + 1, 0, none⟩) 2 F All _ (hs.below rowR_ok hb1) ?hw hV HSS.out HL1 (by simp)).mono ?_
  case hw =>
    have := ints_lit (F := All) (G := All) (w.alloc (.cells #[.int .i64 S, .int .i64 L, .slice oa rs.length c] 47)) 3 [a, b] (by intro x hx; simp at hx; rcases hx with rfl | rfl; exact IA.out; exact IB.out) trivial
    simpa using this
  rintro e w2 ⟨v, rfl, ho, hb2⟩
  have hx2 := box_then (box_new hb0 (by simp) (.cells #[.int .i64 a, .int .i64 b] 3)) (by simp) hb2
  have d0 := box_cell hx2 0
  have d1 := box_cell hx2 1
  have d2 := box_cell hx2 2
  simp at d0 d1 d2
  obtain ⟨oa1, c1, rfl, hc1, hsl1⟩ := ho.slice outR_ok
  clear hb0 hb1 hb2 ho
  generalize readSpec rs s [a, b] = r1 at *
  obtain ⟨t1, l1⟩ := r1
  go_wp2_with fail
  have hxl := below_box hx2
  refine (rread_any S L rs oa c s [b, a] (some ⟨w2.heap.size, 0, none⟩) 2 F All _ (hs.below rowR_ok (bnew hxl _)) ?hw2 hV HSS.out HL2 (by simp)).mono ?_
  case hw2 =>
    have := ints_lit (F := All) (G := All) w2 3 [b, a] (by intro x hx; simp at hx; rcases hx with rfl | rfl; exact IB.out; exact IA.out) trivial
    simpa using this
  rintro e w3 ⟨v, rfl, ho, hb3⟩
  have hsl2 := (hsl1.below outR_ok (bnew (Below.refl _ _) _)).below outR_ok hb3
  have hx3 := below_then (bnew hxl _) hb3
  obtain ⟨oa2, c2, rfl, hc2, hsl3⟩ := ho.slice outR_ok
  clear hsl1 hb3 ho hxl hx2 d0 d1 d2
  generalize readSpec rs s [b, a] = r2 at *
  obtain ⟨t2, l2⟩ := r2
  have hN1 : l1.length ≤ 32 := by have := HR1.out.2.1; simpa using this
  have hN2 : l2.length ≤ 32 := by have := HR2.out.2.1; simpa using this
  by_cases ht : t1 = t2
  case neg =>
    have HC2 : Hid (commB rs s a b = false) := by show _ = _; rw [HC.out]; simp [ht]
    have hq : (t1 == t2) = false := by simp [ht]
    clear ht
    go_wp2_with fail
    go_ret
    exact ⟨ret_bool HC2.out.symm, hx3⟩
  subst ht
  have HC2 : Hid (commB rs s a b = decide (isort l1 = isort l2)) := by show _ = _; rw [HC.out]; simp
  go_wp2_with fail
  refine (orderR_any l1 oa1 c1 _ _ hsl2 hc1 (by omega) HR1.out.2.2).mono ?_
  rintro e w4 ⟨v4, rfl, ho4, hb4⟩
  obtain ⟨oa4, c4, rfl, hc4, hsl4⟩ := ho4.slice outR_ok
  have hsl5 := hsl3.below outR_ok hb4
  have hx4 := below_then hx3 hb4
  clear ho4 hsl2 hsl3 hb4 hx3
  go_wp2_with fail
  refine (orderR_any l2 oa2 c2 _ _ hsl5 hc2 (by omega) HR2.out.2.2).mono ?_
  rintro e w5 ⟨v5, rfl, ho5, hb5⟩
  obtain ⟨oa5, c5, rfl, hc5, hsl6⟩ := ho5.slice outR_ok
  have hsl7 := hsl4.below outR_ok hb5
  have hx5 := below_then hx4 hb5
  clear ho5 hsl4 hsl5 hb5 hx4
  go_wp2_with fail
  refine (sameOutputs_any (isort l1) (isort l2) oa4 oa5 c4 c5 (fun _ => True) _ (hsl7.all outR_ok (by omega)) (hsl6.all outR_ok (by omega)) hc4 (by rw [isort_length]; omega)).mono ?_
  rintro e w6 ⟨rfl, hb6⟩
  have hx6 := below_then hx5 hb6
  go_wp2_with fail
  go_ret
  exact ⟨ret_bool HC2.out.symm, hx6⟩

end Go.Proofs.Ytmjcjmljnliaoaa

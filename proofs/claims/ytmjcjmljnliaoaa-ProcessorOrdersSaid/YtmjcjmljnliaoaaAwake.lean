/-
  awake: the examples of chapter 54 hold.
-/
import Derived.Test.YtmjcjmljnliaoaaEx
import Derived.Test.YtmjcjmljnliaoaaAbel
set_option linter.unusedVariables false
namespace Go.Proofs.Ytmjcjmljnliaoaa
open Go.RowKit

theorem ex_run1 : runRes ⟨2, 1, vertexRs⟩ 0 [0, 0, 0] = (1, [⟨1, 0⟩, ⟨2, 0⟩], 0) := by decide +kernel
theorem ex_run2 : runRes ⟨2, 1, rotorRs⟩ 0 [0, 0, 0] = (1, [⟨1, 0⟩, ⟨2, 0⟩, ⟨1, 0⟩], 0) := by decide +kernel
theorem ex_ab1 : abelRes ⟨2, 2, setterRs⟩ = (false, [0, 0, 1], 0) := by decide +kernel
theorem ex_ab2 : abelRes ⟨2, 1, rotorRs⟩ = (true, [], 0) := by decide +kernel
theorem ex_n1 : checkErr ⟨2, 2, setterRs⟩ 12 = 0 → ∀ s a b : Int, 0 ≤ s ∧ s < 2 → 0 ≤ a ∧ a < 2 → 0 ≤ b ∧ b < 2 → (readSpec setterRs s [a, b]).2.length ≤ 19 := by
  intro _ s a b hs ha hb
  rcases (show s = 0 ∨ s = 1 by omega) with rfl | rfl <;> rcases (show a = 0 ∨ a = 1 by omega) with rfl | rfl <;> rcases (show b = 0 ∨ b = 1 by omega) with rfl | rfl <;> decide +kernel
theorem ex_n2 : checkErr ⟨2, 1, rotorRs⟩ 12 = 0 → ∀ s a b : Int, 0 ≤ s ∧ s < 2 → 0 ≤ a ∧ a < 1 → 0 ≤ b ∧ b < 1 → (readSpec rotorRs s [a, b]).2.length ≤ 19 := by
  intro _ s a b hs ha hb
  rcases (show s = 0 ∨ s = 1 by omega) with rfl | rfl <;> rcases (show a = 0 by omega) with rfl <;> rcases (show b = 0 by omega) with rfl <;> decide +kernel
theorem zeros3 (w : World) : SliceR intR 1 All (w.alloc (.cells #[.int .i64 0, .int .i64 0, .int .i64 0] 3)) (some ⟨w.heap.size, 0, none⟩) [0, 0, 0] := by
  have := ints_lit (F := All) (G := All) w 3 [0, 0, 0] (by intro x hx; simp at hx; subst hx; exact i64_0) trivial
  simpa using this
theorem ints001 (w : World) : SliceR intR 1 All (w.alloc (.cells #[.int .i64 0, .int .i64 0, .int .i64 1] 3)) (some ⟨w.heap.size, 0, none⟩) [0, 0, 1] := by
  have := ints_lit (F := All) (G := All) w 3 [0, 0, 1] (by intro x hx; simp at hx; rcases hx with rfl | rfl; exact i64_0; exact i64_1) trivial
  simpa using this
theorem outs12 (w : World) : SliceR outR 2 All (w.alloc (.cells #[.int .i64 1, .int .i64 0, .int .i64 2, .int .i64 0] 80)) (some ⟨w.heap.size, 0, none⟩) [⟨1, 0⟩, ⟨2, 0⟩] :=
  lit2 (F := All) (G := All) outR_ok w 80 _ _ ⟨1, 0⟩ ⟨2, 0⟩ ⟨rfl, i64_1, i64_0⟩ ⟨rfl, i64_2, i64_0⟩ (fun _ h => h) trivial
theorem outs121 (w : World) : SliceR outR 2 All (w.alloc (.cells #[.int .i64 1, .int .i64 0, .int .i64 2, .int .i64 0, .int .i64 1, .int .i64 0] 80)) (some ⟨w.heap.size, 0, none⟩) [⟨1, 0⟩, ⟨2, 0⟩, ⟨1, 0⟩] :=
  SliceR.lit (F := All) outR_ok w 80 [[.int .i64 1, .int .i64 0], [.int .i64 2, .int .i64 0], [.int .i64 1, .int .i64 0]] _ (fun i y hy => by
    match i, hy with
    | 0, hy => simp at hy; subst hy; exact ⟨_, rfl, rfl, i64_1, i64_0⟩
    | 1, hy => simp at hy; subst hy; exact ⟨_, rfl, rfl, i64_2, i64_0⟩
    | 2, hy => simp at hy; subst hy; exact ⟨_, rfl, rfl, i64_1, i64_0⟩) rfl (fun _ h => h) trivial

set_option maxRecDepth 100000 in
set_option maxHeartbeats 1000000 in
theorem awake_any (w : World) : Calls Try.prog 28 #[] w fun e w' => e = .returned (.bool true) ∧ Below w.heap.size w w' := by
  have HS := hide sorted_small
  go_enter Try.func28, Try.ntmps28
  go_wp2_with fail
  refine (vertex_any _).mono ?_
  rintro e w1 ⟨oa, c, rfl, hc, hs, hb1⟩
  go_wp2_with fail
  refine (run_any 2 1 0 vertexRs oa c [0, 0, 0] (some ⟨w1.heap.size, 0, none⟩) 3 All All _ (hs.below rowR_ok (bnew (Below.refl _ _) _)) hc (by decide) (zeros3 w1) (by decide) (by decide)).mono ?_
  rintro e w2 ⟨v, he, ho, hb2⟩
  rw [ex_run1] at he ho
  subst he
  obtain ⟨oa1, c1, rfl, hc1, hx1⟩ := ho.slice outR_ok
  have hbb := below_then (bnew hb1 _) hb2
  clear ho hs hb1 hb2 hc
  go_wp2_with fail
  refine (rotor_any _).mono ?_
  rintro e w3 ⟨oa, c, rfl, hc, hs, hb1⟩
  have hx1 := hx1.below outR_ok hb1
  have hbb := below_then hbb hb1
  go_wp2_with fail
  refine (run_any 2 1 0 rotorRs oa c [0, 0, 0] (some ⟨w3.heap.size, 0, none⟩) 3 All All _ (hs.below rowR_ok (bnew (Below.refl _ _) _)) hc (by decide) (zeros3 w3) (by decide) (by decide)).mono ?_
  rintro e w4 ⟨v, he, ho, hb2⟩
  rw [ex_run2] at he ho
  subst he
  obtain ⟨oa2, c2, rfl, hc2, hx2⟩ := ho.slice outR_ok
  have hx1 := (hx1.below outR_ok (bnew (Below.refl _ _) _)).below outR_ok hb2
  have hbb := below_then (bnew hbb _) hb2
  clear ho hs hb1 hb2 hc
  go_wp2_with fail
  refine (setter_any _).mono ?_
  rintro e w5 ⟨oa, c, rfl, hc, hs, hb1⟩
  have hx1 := hx1.below outR_ok hb1
  have hx2 := hx2.below outR_ok hb1
  have hbb := below_then hbb hb1
  go_wp2_with fail
  refine (abelian_any HS 2 2 setterRs oa c All _ hs hc (by decide) ex_n1).mono ?_
  rintro e w6 ⟨v, he, ho, hb2⟩
  rw [ex_ab1] at he ho
  subst he
  obtain ⟨oa3, c3, rfl, hc3, hx3⟩ := ho.slice intR_ok
  have hx1 := hx1.below outR_ok hb2
  have hx2 := hx2.below outR_ok hb2
  have hbb := below_then hbb hb2
  clear ho hs hb1 hb2 hc
  go_wp2_with fail
  refine (rotor_any _).mono ?_
  rintro e w7 ⟨oa, c, rfl, hc, hs, hb1⟩
  have hx1 := hx1.below outR_ok hb1
  have hx2 := hx2.below outR_ok hb1
  have hx3 := hx3.below intR_ok hb1
  have hbb := below_then hbb hb1
  go_wp2_with fail
  refine (abelian_any HS 2 1 rotorRs oa c All _ hs hc (by decide) ex_n2).mono ?_
  rintro e w8 ⟨v, he, ho, hb2⟩
  rw [ex_ab2] at he ho
  subst he
  obtain ⟨oa4, c4, rfl, hc4, hx4⟩ := ho.slice intR_ok
  have hx1 := hx1.below outR_ok hb2
  have hx2 := hx2.below outR_ok hb2
  have hx3 := hx3.below intR_ok hb2
  have hbb := below_then hbb hb2
  clear ho hs hb1 hb2 hc
  go_wp2_with fail
  refine (one_any _ _).mono ?_
  rintro e w9 ⟨rfl, h9⟩
  go_wp2_with fail
  refine (one_any _ _).mono ?_
  rintro e w10 ⟨rfl, h10⟩
  have h := (below_then h9 h10)
  have hx1 := hx1.below outR_ok h
  have hx2 := hx2.below outR_ok h
  have hx3 := hx3.below intR_ok h
  have hbb := below_then hbb h
  clear h h9 h10
  go_wp2_with fail
  refine (equalOut_any [⟨1, 0⟩, ⟨2, 0⟩] [⟨1, 0⟩, ⟨2, 0⟩] oa1 (some ⟨w10.heap.size, 0, none⟩) c1 2 All _ ((hx1.all outR_ok (by omega)).below outR_ok (bnew (Below.refl _ _) _)) (outs12 w10) hc1 (by decide)).mono ?_
  rintro e w11 ⟨rfl, h11⟩
  have hx2 := (hx2.below outR_ok (bnew (Below.refl _ _) _)).below outR_ok h11
  have hx3 := (hx3.below intR_ok (bnew (Below.refl _ _) _)).below intR_ok h11
  have hbb := below_then (bnew hbb _) h11
  clear h11 hx1
  go_wp2_with fail
  refine (one_any _ _).mono ?_
  rintro e w12 ⟨rfl, h12⟩
  go_wp2_with fail
  refine (one_any _ _).mono ?_
  rintro e w13 ⟨rfl, h13⟩
  go_wp2_with fail
  refine (one_any _ _).mono ?_
  rintro e w14 ⟨rfl, h14⟩
  have h := below_then (below_then h12 h13) h14
  have hx2 := hx2.below outR_ok h
  have hx3 := hx3.below intR_ok h
  have hbb := below_then hbb h
  clear h h12 h13 h14
  go_wp2_with fail
  refine (equalOut_any [⟨1, 0⟩, ⟨2, 0⟩, ⟨1, 0⟩] [⟨1, 0⟩, ⟨2, 0⟩, ⟨1, 0⟩] oa2 (some ⟨w14.heap.size, 0, none⟩) c2 3 All _ ((hx2.all outR_ok (by omega)).below outR_ok (bnew (Below.refl _ _) _)) (outs121 w14) hc2 (by decide)).mono ?_
  rintro e w15 ⟨rfl, h15⟩
  have hx3 := (hx3.below intR_ok (bnew (Below.refl _ _) _)).below intR_ok h15
  have hbb := below_then (bnew hbb _) h15
  clear h15 hx2
  go_wp2_with fail
  refine (equalInt_any [0, 0, 1] [0, 0, 1] oa3 (some ⟨w15.heap.size, 0, none⟩) c3 3 All _ ((hx3.all intR_ok (by omega)).below intR_ok (bnew (Below.refl _ _) _)) (ints001 w15) hc3 (by decide)).mono ?_
  rintro e w16 ⟨rfl, h16⟩
  have hbb := below_then (bnew hbb _) h16
  clear h16 hx3
  go_wp2_with fail
  go_ret
  exact ⟨rfl, hbb⟩

end Go.Proofs.Ytmjcjmljnliaoaa

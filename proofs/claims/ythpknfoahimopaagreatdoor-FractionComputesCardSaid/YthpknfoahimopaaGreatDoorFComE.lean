/-
  FractionComputes: the row, and its card tied to the program's text (what start-up code lays). Printed by mkFrEnd.py.
  law02: FractionComputes, the walk. Printed by mkLawCom.py.
-/
import Derived.Test.YthpknfoahimopaaGreatDoorF5
import Derived.Test.YthpknfoahimopaaGreatDoorRows
import Derived.Test.YthpknfoahimopaaGreatDoorCards
import Derived.Test.YthpknfoahimopaaGreatDoorTie
import Derived.Handed
import Derived.Lay
import Derived.SevenTiedAt
import Derived.MakeChecks

set_option linter.unusedVariables false
set_option linter.unusedSimpArgs false
set_option linter.unnecessarySimpa false
namespace Go.Proofs.YthpknfoahimopaaGreatDoor
open Go.RowKit

theorem Kept.lt {w W : World} {l : List (Nat × ByteArray × ByteArray)} (h : Kept w W l) (A : Nat) (a b : ByteArray) (hx : (A, a, b) ∈ l) : A < W.heap.size := (h.2 _ hx).lt
theorem Kept.box {w W : World} {l : List (Nat × ByteArray × ByteArray)} (h : Kept w W l) (A : Nat) (a b : ByteArray) (hx : (A, a, b) ∈ l) : Box W A [.string a, .string b] 26 := h.2 _ hx
theorem Kept.put {w W : World} {pre post : List (Nat × ByteArray × ByteArray)} {A : Nat} {a b : ByteArray} (h : Kept w W (pre ++ (A, a, b) :: post)) (c d : ByteArray) (hge : w.heap.size ≤ A) (hne : ∀ x ∈ pre ++ post, x.1 ≠ A) : Kept w ((W.setCell ⟨A, 0, none⟩ (.string c)).setCell ⟨A, 1, none⟩ (.string d)) (pre ++ (A, c, d) :: post) := by
  refine ⟨(h.1.setCell (p := ⟨A, 0, none⟩) hge _).setCell (p := ⟨A, 1, none⟩) hge _, fun x hx => ?_⟩
  have key : ∀ x ∈ pre ++ post, Box ((W.setCell ⟨A, 0, none⟩ (.string c)).setCell ⟨A, 1, none⟩ (.string d)) x.1 [.string x.2.1, .string x.2.2] 26 := fun x hx => by
    have h5 : x ∈ pre ++ (A, a, b) :: post := by
      rcases List.mem_append.1 hx with h6 | h6
      · exact List.mem_append_left _ h6
      · exact List.mem_append_right _ (List.mem_cons_of_mem _ h6)
    exact ((h.2 x h5).other (p := ⟨A, 0, none⟩) (hne x hx) _).other (p := ⟨A, 1, none⟩) (hne x hx) _
  rcases List.mem_append.1 hx with h6 | h6
  · exact key x (List.mem_append_left _ h6)
  · rcases List.mem_cons.1 h6 with rfl | h6
    · exact ((h.2 (A, a, b) (by simp)).put 0 (.string c)).put 1 (.string d)
    · exact key x (List.mem_append_right _ h6)
theorem Kept.two (w : World) (s t u v : ByteArray) : Kept w (W2b w s t u v) [(w.heap.size + 1, u, v), (w.heap.size, s, t)] := by
  have h5 := ((Kept.nil w).push s t).push u v
  rw [World.size_alloc] at h5
  exact h5
set_option maxRecDepth 100000 in
set_option maxHeartbeats 4000000 in
theorem lcomputes_any (s t : List UInt8) (hs : s.length ≤ 140737488355328) (ht : t.length ≤ 140737488355328) (u v : List UInt8) (hu : u.length ≤ 140737488355328) (hv : v.length ≤ 140737488355328) {w : World} (htb : Tbl w) : Calls Tryz.prog 6 #[.agg #[.string (strN s), .string (strN t)], .agg #[.string (strN u), .string (strN v)]] w fun e w' => e = .returned (.bool true) ∧ Below w.heap.size w w' := by
  obtain ⟨ra1, ra2, e1, hadd1, hadd2⟩ := add_same s t u v hs ht hu hv
  obtain ⟨rb1, rb2, e2, hsub1, hsub2⟩ := sub_same s t u v hs ht hu hv
  obtain ⟨rc1, rc2, e3, hmul1, hmul2⟩ := mul_same s t u v hs ht hu hv
  obtain ⟨rd1, rd2, e4, hdiv1, hdiv2⟩ := div_same s t u v hs ht hu hv
  obtain ⟨x, e5, hcmp1, hcmp2⟩ := cmp_same s t u v hs ht hu hv
  have hf1 := fun w => rffew_any s t hs ht w
  have hf2 := fun w => rffew_any u v hu hv w
  unfold frT at hadd1 hadd2 hsub1 hsub2 hmul1 hmul2 hdiv1 hdiv2
  generalize (fewT s && fewT t) = f1 at *
  generalize (fewT u && fewT v) = f2 at *
  obtain ⟨sp, hsp⟩ : ∃ x, x = strN s := ⟨_, rfl⟩
  obtain ⟨sq, hsq⟩ : ∃ x, x = strN t := ⟨_, rfl⟩
  obtain ⟨sr, hsr⟩ : ∃ x, x = strN u := ⟨_, rfl⟩
  obtain ⟨ss, hss⟩ : ∃ x, x = strN v := ⟨_, rfl⟩
  rw [← hsp, ← hsq, ← hsr, ← hss] at hadd1 hadd2 hsub1 hsub2 hmul1 hmul2 hdiv1 hdiv2 hcmp1 hcmp2 ⊢
  rw [← hsp, ← hsq] at hf1
  rw [← hsr, ← hss] at hf2
  have HADD1 := hide hadd1
  have HADD2 := hide hadd2
  have HSUB1 := hide hsub1
  have HSUB2 := hide hsub2
  have HMUL1 := hide hmul1
  have HMUL2 := hide hmul2
  have HDIV1 := hide hdiv1
  have HDIV2 := hide hdiv2
  have HCMP1 := hide hcmp1
  have HCMP2 := hide hcmp2
  have HF1 := hide hf1
  have HF2 := hide hf2
  have HT := hide htb
  have HK := hide (Kept.two w sp sq sr ss)
  have eqg := eqGuard_fr
  have eqs := eq_self
  have nes := neq_self
  clear hadd1 hadd2 hsub1 hsub2 hmul1 hmul2 hdiv1 hdiv2 hcmp1 hcmp2 hf1 hf2 hs ht hu hv htb hsp hsq hsr hss
  cases f1
  · go_enter Tryz.func6, Tryz.ntmps6
    go_wp2_with (first
      | (go_at_call 26; (with_reducible refine (HF1.out _).mono ?_); rintro ec wz ⟨rfl, hbz⟩; have HK := hide (HK.out.below hbz); obtain ⟨d0, d1, f0, f1⟩ := HK.out.at (w.heap.size) sp sq (by simp); obtain ⟨d2, d3, f2, f3⟩ := HK.out.at (w.heap.size + 1) sr ss (by simp); clear hbz)
      | (go_at_call 11; (with_reducible refine (awake_any (HT.out.below HK.out.low)).mono ?_); rintro ec wz ⟨rfl, hbz⟩; have HK := hide (HK.out.below hbz); clear hbz))
    go_ret
    exact ⟨rfl, HK.out.low⟩
  cases f2
  · go_enter Tryz.func6, Tryz.ntmps6
    go_wp2_with (first
      | (go_at_call 26; have _t := HF1; (with_reducible refine (HF1.out _).mono ?_); rintro ec wz ⟨rfl, hbz⟩; have HK := hide (HK.out.below hbz); obtain ⟨d0, d1, f0, f1⟩ := HK.out.at (w.heap.size) sp sq (by simp); obtain ⟨d2, d3, f2, f3⟩ := HK.out.at (w.heap.size + 1) sr ss (by simp); clear HF1 _t hbz)
      | (go_at_call 26; (with_reducible refine (HF2.out _).mono ?_); rintro ec wz ⟨rfl, hbz⟩; have HK := hide (HK.out.below hbz); obtain ⟨d0, d1, f0, f1⟩ := HK.out.at (w.heap.size) sp sq (by simp); obtain ⟨d2, d3, f2, f3⟩ := HK.out.at (w.heap.size + 1) sr ss (by simp); clear hbz)
      | (go_at_call 11; (with_reducible refine (awake_any (HT.out.below HK.out.low)).mono ?_); rintro ec wz ⟨rfl, hbz⟩; have HK := hide (HK.out.below hbz); clear hbz))
    go_ret
    exact ⟨rfl, HK.out.low⟩
  go_enter Tryz.func6, Tryz.ntmps6
  go_upto_region 4 with (first
    | (go_at_call 26; have _t := HF1; (with_reducible refine (HF1.out _).mono ?_); rintro ec wz ⟨rfl, hbz⟩; have HK := hide (HK.out.below hbz); obtain ⟨d0, d1, f0, f1⟩ := HK.out.at (w.heap.size) sp sq (by simp); obtain ⟨d2, d3, f2, f3⟩ := HK.out.at (w.heap.size + 1) sr ss (by simp); clear HF1 _t hbz)
    | (go_at_call 26; (with_reducible refine (HF2.out _).mono ?_); rintro ec wz ⟨rfl, hbz⟩; have HK := hide (HK.out.below hbz); obtain ⟨d0, d1, f0, f1⟩ := HK.out.at (w.heap.size) sp sq (by simp); obtain ⟨d2, d3, f2, f3⟩ := HK.out.at (w.heap.size + 1) sr ss (by simp); clear hbz)
    | (go_at_call 21; (with_reducible refine (HADD1.out _ (HT.out.below HK.out.low)).mono ?_); rintro ec w1 ⟨rfl, hbz⟩; have HK := hide (HK.out.below hbz); obtain ⟨d0, d1, f0, f1⟩ := HK.out.at (w.heap.size) sp sq (by simp); obtain ⟨d2, d3, f2, f3⟩ := HK.out.at (w.heap.size + 1) sr ss (by simp); clear hbz))
  have o0_1 : w.heap.size < w1.heap.size := HK.out.lt (w.heap.size) sp sq (by simp)
  have o1_1 : w.heap.size + 1 < w1.heap.size := HK.out.lt (w.heap.size + 1) sr ss (by simp)
  have g1 : w.heap.size ≤ w1.heap.size := HK.out.low.size
  have HK := hide (HK.out.push ra1 ra2)
  obtain ⟨A1, hA1⟩ : ∃ A, A = w1.heap.size := ⟨_, rfl⟩
  obtain ⟨W1, hW1⟩ : ∃ W, W = w1.alloc (.cells #[.string ra1, .string ra2] 26) := ⟨_, rfl⟩
  rw [← hA1, ← hW1] at HK ⊢
  rw [← hA1] at o0_1
  rw [← hA1] at o1_1
  rw [← hA1] at g1
  clear hA1 hW1
  obtain ⟨d0, d1, f0, f1⟩ := HK.out.at (w.heap.size) sp sq (by simp); obtain ⟨d2, d3, f2, f3⟩ := HK.out.at (w.heap.size + 1) sr ss (by simp); obtain ⟨d4, d5, f4, f5⟩ := HK.out.at (A1) ra1 ra2 (by simp)
  go_upto_region 5 with (go_at_call 34; (with_reducible refine (HADD2.out _).mono ?_); rintro ec w2 ⟨rfl, hbz⟩; have HK := hide (HK.out.below hbz); obtain ⟨d0, d1, f0, f1⟩ := HK.out.at (w.heap.size) sp sq (by simp); obtain ⟨d2, d3, f2, f3⟩ := HK.out.at (w.heap.size + 1) sr ss (by simp); obtain ⟨d4, d5, f4, f5⟩ := HK.out.at (A1) ra1 ra2 (by simp); clear hbz)
  have o0_2 : w.heap.size < w2.heap.size := HK.out.lt (w.heap.size) sp sq (by simp)
  have o1_2 : w.heap.size + 1 < w2.heap.size := HK.out.lt (w.heap.size + 1) sr ss (by simp)
  have o2_2 : A1 < w2.heap.size := HK.out.lt A1 ra1 ra2 (by simp)
  have g2 : w.heap.size ≤ w2.heap.size := HK.out.low.size
  have HK := hide (HK.out.push ra1 ra2)
  obtain ⟨A2, hA2⟩ : ∃ A, A = w2.heap.size := ⟨_, rfl⟩
  obtain ⟨W2, hW2⟩ : ∃ W, W = w2.alloc (.cells #[.string ra1, .string ra2] 26) := ⟨_, rfl⟩
  rw [← hA2, ← hW2] at HK ⊢
  rw [← hA2] at o0_2
  rw [← hA2] at o1_2
  rw [← hA2] at o2_2
  rw [← hA2] at g2
  clear hA2 hW2
  obtain ⟨d0, d1, f0, f1⟩ := HK.out.at (w.heap.size) sp sq (by simp); obtain ⟨d2, d3, f2, f3⟩ := HK.out.at (w.heap.size + 1) sr ss (by simp); obtain ⟨d4, d5, f4, f5⟩ := HK.out.at (A1) ra1 ra2 (by simp); obtain ⟨d6, d7, f6, f7⟩ := HK.out.at (A2) ra1 ra2 (by simp)
  go_upto_region 6 with (go_at_call 35; (with_reducible refine (HSUB1.out _ (HT.out.below HK.out.low)).mono ?_); rintro ec w3 ⟨rfl, hbz⟩; have HK := hide (HK.out.below hbz); obtain ⟨d0, d1, f0, f1⟩ := HK.out.at (w.heap.size) sp sq (by simp); obtain ⟨d2, d3, f2, f3⟩ := HK.out.at (w.heap.size + 1) sr ss (by simp); obtain ⟨d4, d5, f4, f5⟩ := HK.out.at (A1) ra1 ra2 (by simp); obtain ⟨d6, d7, f6, f7⟩ := HK.out.at (A2) ra1 ra2 (by simp); clear hbz)
  have o0_3 : w.heap.size < w3.heap.size := HK.out.lt (w.heap.size) sp sq (by simp)
  have o1_3 : w.heap.size + 1 < w3.heap.size := HK.out.lt (w.heap.size + 1) sr ss (by simp)
  have o2_3 : A1 < w3.heap.size := HK.out.lt A1 ra1 ra2 (by simp)
  have o3_3 : A2 < w3.heap.size := HK.out.lt A2 ra1 ra2 (by simp)
  have g3 : w.heap.size ≤ w3.heap.size := HK.out.low.size
  have HK := hide (HK.out.push rb1 rb2)
  obtain ⟨A3, hA3⟩ : ∃ A, A = w3.heap.size := ⟨_, rfl⟩
  obtain ⟨W3, hW3⟩ : ∃ W, W = w3.alloc (.cells #[.string rb1, .string rb2] 26) := ⟨_, rfl⟩
  rw [← hA3, ← hW3] at HK ⊢
  rw [← hA3] at o0_3
  rw [← hA3] at o1_3
  rw [← hA3] at o2_3
  rw [← hA3] at o3_3
  rw [← hA3] at g3
  clear hA3 hW3
  obtain ⟨d0, d1, f0, f1⟩ := HK.out.at (w.heap.size) sp sq (by simp); obtain ⟨d2, d3, f2, f3⟩ := HK.out.at (w.heap.size + 1) sr ss (by simp); obtain ⟨d4, d5, f4, f5⟩ := HK.out.at (A1) ra1 ra2 (by simp); obtain ⟨d6, d7, f6, f7⟩ := HK.out.at (A2) ra1 ra2 (by simp); obtain ⟨d8, d9, f8, f9⟩ := HK.out.at (A3) rb1 rb2 (by simp)
  go_upto_region 7 with (go_at_call 36; (with_reducible refine (HSUB2.out _).mono ?_); rintro ec w4 ⟨rfl, hbz⟩; have HK := hide (HK.out.below hbz); obtain ⟨d0, d1, f0, f1⟩ := HK.out.at (w.heap.size) sp sq (by simp); obtain ⟨d2, d3, f2, f3⟩ := HK.out.at (w.heap.size + 1) sr ss (by simp); obtain ⟨d4, d5, f4, f5⟩ := HK.out.at (A1) ra1 ra2 (by simp); obtain ⟨d6, d7, f6, f7⟩ := HK.out.at (A2) ra1 ra2 (by simp); obtain ⟨d8, d9, f8, f9⟩ := HK.out.at (A3) rb1 rb2 (by simp); clear hbz)
  have o0_4 : w.heap.size < w4.heap.size := HK.out.lt (w.heap.size) sp sq (by simp)
  have o1_4 : w.heap.size + 1 < w4.heap.size := HK.out.lt (w.heap.size + 1) sr ss (by simp)
  have o2_4 : A1 < w4.heap.size := HK.out.lt A1 ra1 ra2 (by simp)
  have o3_4 : A2 < w4.heap.size := HK.out.lt A2 ra1 ra2 (by simp)
  have o4_4 : A3 < w4.heap.size := HK.out.lt A3 rb1 rb2 (by simp)
  have g4 : w.heap.size ≤ w4.heap.size := HK.out.low.size
  have HK := hide (HK.out.push rb1 rb2)
  obtain ⟨A4, hA4⟩ : ∃ A, A = w4.heap.size := ⟨_, rfl⟩
  obtain ⟨W4, hW4⟩ : ∃ W, W = w4.alloc (.cells #[.string rb1, .string rb2] 26) := ⟨_, rfl⟩
  rw [← hA4, ← hW4] at HK ⊢
  rw [← hA4] at o0_4
  rw [← hA4] at o1_4
  rw [← hA4] at o2_4
  rw [← hA4] at o3_4
  rw [← hA4] at o4_4
  rw [← hA4] at g4
  clear hA4 hW4
  obtain ⟨d0, d1, f0, f1⟩ := HK.out.at (w.heap.size) sp sq (by simp); obtain ⟨d2, d3, f2, f3⟩ := HK.out.at (w.heap.size + 1) sr ss (by simp); obtain ⟨d4, d5, f4, f5⟩ := HK.out.at (A1) ra1 ra2 (by simp); obtain ⟨d6, d7, f6, f7⟩ := HK.out.at (A2) ra1 ra2 (by simp); obtain ⟨d8, d9, f8, f9⟩ := HK.out.at (A3) rb1 rb2 (by simp); obtain ⟨d10, d11, f10, f11⟩ := HK.out.at (A4) rb1 rb2 (by simp)
  go_upto_region 10 with (go_at_call 23; (with_reducible refine (HMUL1.out _ (HT.out.below HK.out.low)).mono ?_); rintro ec w5 ⟨rfl, hbz⟩; have HK := hide (HK.out.below hbz); obtain ⟨d0, d1, f0, f1⟩ := HK.out.at (w.heap.size) sp sq (by simp); obtain ⟨d2, d3, f2, f3⟩ := HK.out.at (w.heap.size + 1) sr ss (by simp); obtain ⟨d4, d5, f4, f5⟩ := HK.out.at (A1) ra1 ra2 (by simp); obtain ⟨d6, d7, f6, f7⟩ := HK.out.at (A2) ra1 ra2 (by simp); obtain ⟨d8, d9, f8, f9⟩ := HK.out.at (A3) rb1 rb2 (by simp); obtain ⟨d10, d11, f10, f11⟩ := HK.out.at (A4) rb1 rb2 (by simp); clear hbz)
  have HK : Hid (Kept w ((w5.setCell ⟨A1, 0, none⟩ (.string rc1)).setCell ⟨A1, 1, none⟩ (.string rc2)) [(A4, rb1, rb2), (A3, rb1, rb2), (A2, ra1, ra2), (A1, rc1, rc2), (w.heap.size + 1, sr, ss), (w.heap.size, sp, sq)]) := HK.out.put (pre := [(A4, rb1, rb2), (A3, rb1, rb2), (A2, ra1, ra2)]) (post := [(w.heap.size + 1, sr, ss), (w.heap.size, sp, sq)]) rc1 rc2 (by omega) (by intro x hx; simp at hx; rcases hx with rfl | rfl | rfl | rfl | rfl <;> (show _ ≠ _; omega))
  obtain ⟨X1, hX1⟩ : ∃ W, W = ((w5.setCell ⟨A1, 0, none⟩ (.string rc1)).setCell ⟨A1, 1, none⟩ (.string rc2)) := ⟨_, rfl⟩
  rw [← hX1] at HK ⊢
  clear hX1
  obtain ⟨d0, d1, f0, f1⟩ := HK.out.at (w.heap.size) sp sq (by simp); obtain ⟨d2, d3, f2, f3⟩ := HK.out.at (w.heap.size + 1) sr ss (by simp); obtain ⟨d4, d5, f4, f5⟩ := HK.out.at (A1) rc1 rc2 (by simp); obtain ⟨d6, d7, f6, f7⟩ := HK.out.at (A2) ra1 ra2 (by simp); obtain ⟨d8, d9, f8, f9⟩ := HK.out.at (A3) rb1 rb2 (by simp); obtain ⟨d10, d11, f10, f11⟩ := HK.out.at (A4) rb1 rb2 (by simp)
  go_upto_region 11 with (go_at_call 37; (with_reducible refine (HMUL2.out _).mono ?_); rintro ec w6 ⟨rfl, hbz⟩; have HK := hide (HK.out.below hbz); obtain ⟨d0, d1, f0, f1⟩ := HK.out.at (w.heap.size) sp sq (by simp); obtain ⟨d2, d3, f2, f3⟩ := HK.out.at (w.heap.size + 1) sr ss (by simp); obtain ⟨d4, d5, f4, f5⟩ := HK.out.at (A1) rc1 rc2 (by simp); obtain ⟨d6, d7, f6, f7⟩ := HK.out.at (A2) ra1 ra2 (by simp); obtain ⟨d8, d9, f8, f9⟩ := HK.out.at (A3) rb1 rb2 (by simp); obtain ⟨d10, d11, f10, f11⟩ := HK.out.at (A4) rb1 rb2 (by simp); clear hbz)
  have HK : Hid (Kept w ((w6.setCell ⟨A2, 0, none⟩ (.string rc1)).setCell ⟨A2, 1, none⟩ (.string rc2)) [(A4, rb1, rb2), (A3, rb1, rb2), (A2, rc1, rc2), (A1, rc1, rc2), (w.heap.size + 1, sr, ss), (w.heap.size, sp, sq)]) := HK.out.put (pre := [(A4, rb1, rb2), (A3, rb1, rb2)]) (post := [(A1, rc1, rc2), (w.heap.size + 1, sr, ss), (w.heap.size, sp, sq)]) rc1 rc2 (by omega) (by intro x hx; simp at hx; rcases hx with rfl | rfl | rfl | rfl | rfl <;> (show _ ≠ _; omega))
  obtain ⟨X2, hX2⟩ : ∃ W, W = ((w6.setCell ⟨A2, 0, none⟩ (.string rc1)).setCell ⟨A2, 1, none⟩ (.string rc2)) := ⟨_, rfl⟩
  rw [← hX2] at HK ⊢
  clear hX2
  obtain ⟨d0, d1, f0, f1⟩ := HK.out.at (w.heap.size) sp sq (by simp); obtain ⟨d2, d3, f2, f3⟩ := HK.out.at (w.heap.size + 1) sr ss (by simp); obtain ⟨d4, d5, f4, f5⟩ := HK.out.at (A1) rc1 rc2 (by simp); obtain ⟨d6, d7, f6, f7⟩ := HK.out.at (A2) rc1 rc2 (by simp); obtain ⟨d8, d9, f8, f9⟩ := HK.out.at (A3) rb1 rb2 (by simp); obtain ⟨d10, d11, f10, f11⟩ := HK.out.at (A4) rb1 rb2 (by simp)
  go_upto_region 12 with (go_at_call 38; (with_reducible refine (HDIV1.out _ (HT.out.below HK.out.low)).mono ?_); rintro ec w7 ⟨rfl, hbz⟩; have HK := hide (HK.out.below hbz); obtain ⟨d0, d1, f0, f1⟩ := HK.out.at (w.heap.size) sp sq (by simp); obtain ⟨d2, d3, f2, f3⟩ := HK.out.at (w.heap.size + 1) sr ss (by simp); obtain ⟨d4, d5, f4, f5⟩ := HK.out.at (A1) rc1 rc2 (by simp); obtain ⟨d6, d7, f6, f7⟩ := HK.out.at (A2) rc1 rc2 (by simp); obtain ⟨d8, d9, f8, f9⟩ := HK.out.at (A3) rb1 rb2 (by simp); obtain ⟨d10, d11, f10, f11⟩ := HK.out.at (A4) rb1 rb2 (by simp); clear hbz)
  have HK : Hid (Kept w ((w7.setCell ⟨A3, 0, none⟩ (.string rd1)).setCell ⟨A3, 1, none⟩ (.string rd2)) [(A4, rb1, rb2), (A3, rd1, rd2), (A2, rc1, rc2), (A1, rc1, rc2), (w.heap.size + 1, sr, ss), (w.heap.size, sp, sq)]) := HK.out.put (pre := [(A4, rb1, rb2)]) (post := [(A2, rc1, rc2), (A1, rc1, rc2), (w.heap.size + 1, sr, ss), (w.heap.size, sp, sq)]) rd1 rd2 (by omega) (by intro x hx; simp at hx; rcases hx with rfl | rfl | rfl | rfl | rfl <;> (show _ ≠ _; omega))
  obtain ⟨X3, hX3⟩ : ∃ W, W = ((w7.setCell ⟨A3, 0, none⟩ (.string rd1)).setCell ⟨A3, 1, none⟩ (.string rd2)) := ⟨_, rfl⟩
  rw [← hX3] at HK ⊢
  clear hX3
  obtain ⟨d0, d1, f0, f1⟩ := HK.out.at (w.heap.size) sp sq (by simp); obtain ⟨d2, d3, f2, f3⟩ := HK.out.at (w.heap.size + 1) sr ss (by simp); obtain ⟨d4, d5, f4, f5⟩ := HK.out.at (A1) rc1 rc2 (by simp); obtain ⟨d6, d7, f6, f7⟩ := HK.out.at (A2) rc1 rc2 (by simp); obtain ⟨d8, d9, f8, f9⟩ := HK.out.at (A3) rd1 rd2 (by simp); obtain ⟨d10, d11, f10, f11⟩ := HK.out.at (A4) rb1 rb2 (by simp)
  go_upto_region 13 with (go_at_call 39; (with_reducible refine (HDIV2.out _).mono ?_); rintro ec w8 ⟨rfl, hbz⟩; have HK := hide (HK.out.below hbz); obtain ⟨d0, d1, f0, f1⟩ := HK.out.at (w.heap.size) sp sq (by simp); obtain ⟨d2, d3, f2, f3⟩ := HK.out.at (w.heap.size + 1) sr ss (by simp); obtain ⟨d4, d5, f4, f5⟩ := HK.out.at (A1) rc1 rc2 (by simp); obtain ⟨d6, d7, f6, f7⟩ := HK.out.at (A2) rc1 rc2 (by simp); obtain ⟨d8, d9, f8, f9⟩ := HK.out.at (A3) rd1 rd2 (by simp); obtain ⟨d10, d11, f10, f11⟩ := HK.out.at (A4) rb1 rb2 (by simp); clear hbz)
  have HK : Hid (Kept w ((w8.setCell ⟨A4, 0, none⟩ (.string rd1)).setCell ⟨A4, 1, none⟩ (.string rd2)) [(A4, rd1, rd2), (A3, rd1, rd2), (A2, rc1, rc2), (A1, rc1, rc2), (w.heap.size + 1, sr, ss), (w.heap.size, sp, sq)]) := HK.out.put (pre := []) (post := [(A3, rd1, rd2), (A2, rc1, rc2), (A1, rc1, rc2), (w.heap.size + 1, sr, ss), (w.heap.size, sp, sq)]) rd1 rd2 (by omega) (by intro x hx; simp at hx; rcases hx with rfl | rfl | rfl | rfl | rfl <;> (show _ ≠ _; omega))
  obtain ⟨X4, hX4⟩ : ∃ W, W = ((w8.setCell ⟨A4, 0, none⟩ (.string rd1)).setCell ⟨A4, 1, none⟩ (.string rd2)) := ⟨_, rfl⟩
  rw [← hX4] at HK ⊢
  clear hX4
  obtain ⟨d0, d1, f0, f1⟩ := HK.out.at (w.heap.size) sp sq (by simp); obtain ⟨d2, d3, f2, f3⟩ := HK.out.at (w.heap.size + 1) sr ss (by simp); obtain ⟨d4, d5, f4, f5⟩ := HK.out.at (A1) rc1 rc2 (by simp); obtain ⟨d6, d7, f6, f7⟩ := HK.out.at (A2) rc1 rc2 (by simp); obtain ⟨d8, d9, f8, f9⟩ := HK.out.at (A3) rd1 rd2 (by simp); obtain ⟨d10, d11, f10, f11⟩ := HK.out.at (A4) rd1 rd2 (by simp)
  go_wp2_with (first
    | (go_at_call 40; (with_reducible refine (HCMP1.out _ (HT.out.below HK.out.low)).mono ?_); rintro ec w9 ⟨rfl, hbz⟩; have HK := hide (HK.out.below hbz); obtain ⟨d0, d1, f0, f1⟩ := HK.out.at (w.heap.size) sp sq (by simp); obtain ⟨d2, d3, f2, f3⟩ := HK.out.at (w.heap.size + 1) sr ss (by simp); obtain ⟨d4, d5, f4, f5⟩ := HK.out.at (A1) rc1 rc2 (by simp); obtain ⟨d6, d7, f6, f7⟩ := HK.out.at (A2) rc1 rc2 (by simp); obtain ⟨d8, d9, f8, f9⟩ := HK.out.at (A3) rd1 rd2 (by simp); obtain ⟨d10, d11, f10, f11⟩ := HK.out.at (A4) rd1 rd2 (by simp); clear hbz)
    | (go_at_call 41; (with_reducible refine (HCMP2.out _).mono ?_); rintro ec wA ⟨rfl, hbz⟩; have HK := hide (HK.out.below hbz); obtain ⟨d0, d1, f0, f1⟩ := HK.out.at (w.heap.size) sp sq (by simp); obtain ⟨d2, d3, f2, f3⟩ := HK.out.at (w.heap.size + 1) sr ss (by simp); obtain ⟨d4, d5, f4, f5⟩ := HK.out.at (A1) rc1 rc2 (by simp); obtain ⟨d6, d7, f6, f7⟩ := HK.out.at (A2) rc1 rc2 (by simp); obtain ⟨d8, d9, f8, f9⟩ := HK.out.at (A3) rd1 rd2 (by simp); obtain ⟨d10, d11, f10, f11⟩ := HK.out.at (A4) rd1 rd2 (by simp); clear hbz)
    | (go_at_call 11; (with_reducible refine (awake_any (HT.out.below HK.out.low)).mono ?_); rintro ec wz ⟨rfl, hbz⟩; have HK := hide (HK.out.below hbz); clear hbz))
  go_ret
  exact ⟨rfl, HK.out.low⟩
end Go.Proofs.YthpknfoahimopaaGreatDoor

set_option linter.unusedVariables false
set_option linter.unusedSimpArgs false
namespace Go.Proofs.YthpknfoahimopaaGreatDoor
open Go.RowKit Go.ChangeShapes Go.WideShapes Go.ChangeAt Go.Deep

theorem fractionComputes_tbl {W : World} (hL : laidMetH Tryz.prog Rows.fractionComputesRow.laid W) : Tbl W := by
  have h1 : laidMet Tryz.prog Rows.fractionComputesRow.laid W := by
    rw [MakeChecks.laidMetH_plain _ _ _ (by kernel_rfl)] at hL
    exact hL
  exact tbl_of_laid (by kernel_rfl) h1
set_option maxRecDepth 100000 in
theorem fractionComputes_lifted (os : Os) (started : os.Started) (H : Type) (enc : TypeId × Value → H) :
    ReturnsInHanded {} Tryz.checked os 6 .any (fun w args => (Rows.fractionComputesSpec.pre enc Tryz.prog Tryz.f6 Rows.fractionComputesRow.domain false w args ∧ laidMetH Tryz.prog Rows.fractionComputesRow.laid w) ∧ sizedMet enc Tryz.prog Tryz.f6 (OpenSpec.ofChange Rows.fractionComputesSpec) false w args)
      (Rows.fractionComputesSpec.post enc Tryz.prog Tryz.f6 false true false false) := by
  refine returnsInHanded_of_change_and (C := Tryz.checked) (X := fun w _ => laidMetH Tryz.prog Rows.fractionComputesRow.laid w) (fun _ _ _ hh h => h.of_heap hh) own_knob started (by kernel_rfl) Tryz.func6
    (ChangeSpec.witness_shaped (enc := enc) (C := Tryz.checked) (os := os) (X := fun w _ => laidMetH Tryz.prog Rows.fractionComputesRow.laid w) false (World.laidAll Tryz.prog os Rows.fractionComputesRow.laid) #[.agg #[.string ⟨#[]⟩, .string ⟨#[]⟩], .agg #[.string ⟨#[]⟩, .string ⟨#[]⟩]] 8 (World.laidAll_os _ _ _)
      (World.shaped_of_ZipB (by kernel_rfl) (by kernel_rfl)) (by kernel_rfl) (by kernel_rfl) (by kernel_rfl)
      (by rw [MakeChecks.laidMetH_plain _ _ _ (by kernel_rfl)]; exact laidMet_laidAll _ (by kernel_rfl) (by kernel_rfl))) ?_
  intro W base args ds gs before hval0 hW _ hsz hL _
  have hval : ∀ (j : Nat) t v, Tryz.f6.params[j]? = some t → args[j]? = some v → Value.okWide Tryz.prog W .any base t v := hval0
  have hW' := hW
  obtain ⟨p, q, hA0, hV, rfl, _, _⟩ := hW
  have hA : DataW.TrodAll enc Tryz.prog W 0 (fun _ => true) true Tryz.f6.params.toList args.toList ds p := hA0
  rw [Tryz.params6] at hA hval hsz
  obtain ⟨v0, v1, d0, d1, p0, p1, rfl, rfl, rfl, h0, h1⟩ := trodAll_two hA
  obtain ⟨rfl, rfl⟩ := trodVars_none hV
  have HTB := fractionComputes_tbl hL
  have hsz2 := hsz
  replace hsz2 : (DataW.weightsEach Tryz.prog [26, 26] [d0, d1]).all (· ≤ reachBytes) = true := hsz
  simp only [DataW.weightsEach, List.append_nil, List.all_append, Bool.and_eq_true] at hsz2
  have h0k := h0
  have h1k := h1
  obtain ⟨l0, m0, rfl, b0, c0⟩ := open_fr (hval 0 26 v0 rfl rfl) h0 hsz2.1
  obtain ⟨l1, m1, rfl, b1, c1⟩ := open_fr (hval 1 26 v1 rfl rfl) h1 hsz2.2
  simp only [List.append_nil] at hW'
  have hlt0 : ∀ y ∈ p0, y.block < W.heap.size := fun y hy => by simpa using hW'.lt y (by simp [hy])
  have hlt1 : ∀ y ∈ p1, y.block < W.heap.size := fun y hy => by simpa using hW'.lt y (by simp [hy])
  refine (lcomputes_any l0 m0 b0 c0 l1 m1 b1 c1 HTB).mono fun e W' ⟨he, hn⟩ => ?_
  subst he
  exact ⟨_, rfl, _, _, _, [], _, [], hW', trodAll_mk1 (shut_bool Tryz.underlying4 true), trodAll_mk2 (Below.trod laid_out (by kernel_rfl) (of_decide_eq_true (by kernel_rfl)) h0k hn hlt0) (Below.trod laid_out (by kernel_rfl) (of_decide_eq_true (by kernel_rfl)) h1k hn hlt1), rfl, hn.frame _, fun h => by cases h⟩

theorem fractionComputes_row : Rows.FractionComputesSaid :=
  OpenClaim.holds_of_wide 6 Tryz.f6 rfl rfl rfl rfl rfl rfl rfl ⟨rfl, rfl, rfl, rfl, rfl⟩ rfl rfl rfl rfl rfl (by kernel_rfl) Tryz.func6 (by kernel_rfl)
    (of_decide_eq_true (by kernel_rfl)) (by unfold Func.isWrapper; first | (rw [if_pos (by decide +kernel)]; kernel_rfl) | (rw [if_neg (by decide +kernel)]; exact ⟨rfl, rfl⟩))
    (fun os started H enc _ => fractionComputes_lifted os started H enc)
theorem fractionComputes_holds : Rows.FractionComputesCardSaid :=
  Claim7.holds_tied_plain_at .later [] [.data, .data, .data, .sentinel, .sentinel] true (true, "b82a1295ea715ae845548bcfbe437ee53315b98a501120c16e571b4cc909fde4") true
    fractionComputes_row (fun _ h => by cases h) (by kernel_rfl) (fun _ h => by cases h) fractionComputes_row_tie rfl ⟨rfl, rfl⟩ (by kernel_rfl) rfl
    (fun f fn hf hfn => by
      obtain rfl : f = 6 := Option.some.inj ((show Tryz.prog.funcNamed "sandpile/sandpilelaw02.FractionComputes" = some 6 by kernel_rfl).symm.trans hf) |>.symm
      obtain rfl : fn = Tryz.f6 := (Option.some.inj (Tryz.func6.symm.trans hfn)).symm
      exact ⟨by kernel_rfl, fun j t ht => by
        rw [Tryz.params6] at ht
        have hm : t ∈ [26, 26] := by simpa using Array.mem_of_getElem? ht
        have hall : ([26, 26].all fun u => !Tryz.prog.wantsStandIn u) = true := by kernel_rfl
        exact (show Tryz.prog.wantsStandIn t = false by simpa using List.all_eq_true.1 hall t hm)⟩)
    (by kernel_rfl)
end Go.Proofs.YthpknfoahimopaaGreatDoor

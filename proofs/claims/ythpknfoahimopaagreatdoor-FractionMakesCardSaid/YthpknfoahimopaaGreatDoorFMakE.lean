/-
  FractionMakes: the row, and its card tied to the program's text (what start-up code lays). Printed by mkFrEnd.py.
  law02: FractionMakes, the walk. Printed by mkLawMak.py.
-/
import Derived.Test.YthpknfoahimopaaGreatDoorF5
import Derived.Test.YthpknfoahimopaaGreatDoorRows
import Derived.Test.YthpknfoahimopaaGreatDoorCards
import Derived.Test.YthpknfoahimopaaGreatDoorTie
import Derived.Handed
import Derived.Lay
import Derived.SevenTiedAt
import Derived.MakeChecks

set_option linter.unusedVariables false
set_option linter.unusedSimpArgs false
set_option linter.unnecessarySimpa false
namespace Go.Proofs.YthpknfoahimopaaGreatDoor
open Go.RowKit

theorem make_value (l m : List UInt8) (hl : l.length ≤ 140737488355328) (hm : m.length ≤ 140737488355328) : ∃ a b e, Same 12 13 #[.string (strN l), .string (strN m)] (frT a b e) ∧ ∀ n k, l = txtI n → m = txtI k → I64 n → I64 k → makeV n k = frT a b e := by
  by_cases h : ∃ p q, l = txtI p ∧ m = txtI q ∧ Lim p ∧ Lim q
  · obtain ⟨p, q, rfl, rfl, hp, hq⟩ := h
    obtain ⟨a, b, e, h⟩ : ∃ a b e, makeV p q = frT a b e := by unfold makeV; split <;> exact ⟨_, _, _, rfl⟩
    refine ⟨a, b, e, ⟨fun w ht => ?_, fun w => ?_⟩, fun n k h1 h2 _ _ => ?_⟩
    · rw [← h]
      exact fmake_lim hp hq ht
    · rw [← h]
      exact rfmake_lim hp hq w
    · rw [← txtI_inj h1, ← txtI_inj h2]
      exact h
  · obtain ⟨a, b, e, h5⟩ := make_same l m hl hm
    exact ⟨a, b, e, h5, fun n k h1 h2 hn hk => absurd ⟨n, k, h1, h2, lim_i64 hn, lim_i64 hk⟩ h⟩
theorem Kept.lt {w W : World} {l : List (Nat × ByteArray × ByteArray)} (h : Kept w W l) (A : Nat) (a b : ByteArray) (hx : (A, a, b) ∈ l) : A < W.heap.size := (h.2 _ hx).lt
theorem Kept.box {w W : World} {l : List (Nat × ByteArray × ByteArray)} (h : Kept w W l) (A : Nat) (a b : ByteArray) (hx : (A, a, b) ∈ l) : Box W A [.string a, .string b] 26 := h.2 _ hx
theorem small_cases (l : List UInt8) (hl : l.length ≤ 140737488355328) : (∃ n, l = txtI n ∧ I64 n) ∨ ∃ e, e ≠ 0 ∧ ∀ w', Calls Tryz.prog 16 #[.string (strN l)] w' fun r w2 => r = .returned (.tuple #[.int .i64 0, .int .i64 e]) ∧ Below w'.heap.size w' w2 := by
  by_cases h : chkI l = 0
  · obtain ⟨z, rfl, hz⟩ := chkI_ok h
    by_cases hi : I64 z
    · exact .inl ⟨z, rfl, hi⟩
    · exact .inr ⟨2, by omega, fun w' => rsmall_big hz hi w'⟩
  · exact .inr ⟨_, h, fun w' => rsmall_bad l hl h rfl w'⟩
theorem small_value (l : List UInt8) (hl : l.length ≤ 140737488355328) : ∃ n e, (∀ w', Calls Tryz.prog 16 #[.string (strN l)] w' fun r w2 => r = .returned (.tuple #[.int .i64 n, .int .i64 e]) ∧ Below w'.heap.size w' w2) ∧ (e = 0 → l = txtI n ∧ I64 n) := by
  rcases small_cases l hl with ⟨n, rfl, hn⟩ | ⟨e, he, h⟩
  · exact ⟨n, 0, fun w' => rsmall_ok hn w', fun _ => ⟨rfl, hn⟩⟩
  · exact ⟨0, e, h, fun h0 => absurd h0 he⟩
set_option maxRecDepth 100000 in
set_option maxHeartbeats 4000000 in
theorem lmakes_any (l : List UInt8) (hl : l.length ≤ 140737488355328) (m : List UInt8) (hm : m.length ≤ 140737488355328) (s : List UInt8) (hs : s.length ≤ 140737488355328) {w : World} (ht : Tbl w) : Calls Tryz.prog 3 #[.string (strN l), .string (strN m), .string (strN s)] w fun e w' => e = .returned (.bool true) ∧ Below w.heap.size w w' := by
  obtain ⟨a, b, e1, ⟨hm1, hm2⟩, hmv⟩ := make_value l m hl hm
  obtain ⟨c, d, e2, hp1, hp2⟩ := parse_same s hs
  obtain ⟨n, x, hs1, hx⟩ := small_value l hl
  obtain ⟨k, y, hs2, hy⟩ := small_value m hm
  have HOF : Hid (x = 0 → y = 0 → ∀ w', Tbl w' → Calls Tryz.prog 17 #[.int .i64 n, .int .i64 k] w' fun r w2 => r = .returned (frT a b e1) ∧ Below w'.heap.size w' w2) := fun h0 h1 w' htb => by
    obtain ⟨e3, hn⟩ := hx h0
    obtain ⟨e4, hk⟩ := hy h1
    have h7 := fof_any hn hk htb
    rw [hmv n k e3 e4 hn hk] at h7
    exact h7
  have hf1 := fun w => rfew_any l hl w
  have hf2 := fun w => rfew_any m hm w
  unfold frT at hm1 hm2 hp1 hp2 HOF
  have hsz : (strN s).size = s.length := rfl
  generalize fewT l = f1 at *
  generalize fewT m = f2 at *
  have HM1 := hide hm1
  have HM2 := hide hm2
  have HP1 := hide hp1
  have HP2 := hide hp2
  have HF1 := hide hf1
  have HF2 := hide hf2
  have HT := hide ht
  have HK := hide (Kept.nil w)
  have eqg := eqGuard_fr
  have eqs := eq_self
  have nes := neq_self
  obtain ⟨sl, hsl⟩ : ∃ v, v = strN l := ⟨_, rfl⟩
  obtain ⟨sm, hsm⟩ : ∃ v, v = strN m := ⟨_, rfl⟩
  have HS1 := hide hs1
  have HS2 := hide hs2
  rw [← hsl] at HM1 HM2 HF1 HS1 ⊢
  rw [← hsm] at HM1 HM2 HF2 HS2 ⊢
  clear hm1 hm2 hp1 hp2 hf1 hf2 ht hl hm hsl hsm hs1 hs2 hx hy hmv
  cases f1
  · go_enter Tryz.func3, Tryz.ntmps3
    go_wp2_with (first
      | (go_at_call 10; (with_reducible refine (HF1.out _).mono ?_); rintro ec wz ⟨rfl, hbz⟩; have HK := hide (HK.out.below hbz); clear hbz)
      | (go_at_call 11; (with_reducible refine (awake_any (HT.out.below HK.out.low)).mono ?_); rintro ec wz ⟨rfl, hbz⟩; have HK := hide (HK.out.below hbz); clear hbz))
    go_ret
    exact ⟨rfl, HK.out.low⟩
  cases f2
  · go_enter Tryz.func3, Tryz.ntmps3
    go_wp2_with (first
      | (go_at_call 10; have _t := HF1; (with_reducible refine (HF1.out _).mono ?_); rintro ec wz ⟨rfl, hbz⟩; have HK := hide (HK.out.below hbz); clear HF1 _t hbz)
      | (go_at_call 10; (with_reducible refine (HF2.out _).mono ?_); rintro ec wz ⟨rfl, hbz⟩; have HK := hide (HK.out.below hbz); clear hbz)
      | (go_at_call 11; (with_reducible refine (awake_any (HT.out.below HK.out.low)).mono ?_); rintro ec wz ⟨rfl, hbz⟩; have HK := hide (HK.out.below hbz); clear hbz))
    go_ret
    exact ⟨rfl, HK.out.low⟩
  by_cases h150 : 150 < s.length
  · have q1 : decide ((150 : Int) < (s.length : Int)) = true := by simp; omega
    go_enter Tryz.func3, Tryz.ntmps3
    go_wp2_with (first
      | (go_at_call 10; have _t := HF1; (with_reducible refine (HF1.out _).mono ?_); rintro ec wz ⟨rfl, hbz⟩; have HK := hide (HK.out.below hbz); clear HF1 _t hbz)
      | (go_at_call 10; (with_reducible refine (HF2.out _).mono ?_); rintro ec wz ⟨rfl, hbz⟩; have HK := hide (HK.out.below hbz); clear hbz)
      | (go_at_call 11; (with_reducible refine (awake_any (HT.out.below HK.out.low)).mono ?_); rintro ec wz ⟨rfl, hbz⟩; have HK := hide (HK.out.below hbz); clear hbz))
    go_ret
    exact ⟨rfl, HK.out.low⟩
  have q1 : decide ((150 : Int) < (s.length : Int)) = false := by simp; omega
  clear h150
  go_enter Tryz.func3, Tryz.ntmps3
  go_upto_region 4 with (first
    | (go_at_call 10; have _t := HF1; (with_reducible refine (HF1.out _).mono ?_); rintro ec wz ⟨rfl, hbz⟩; have HK := hide (HK.out.below hbz); clear HF1 _t hbz)
    | (go_at_call 10; (with_reducible refine (HF2.out _).mono ?_); rintro ec wz ⟨rfl, hbz⟩; have HK := hide (HK.out.below hbz); clear hbz)
    | (go_at_call 12; (with_reducible refine (HM1.out _ (HT.out.below HK.out.low)).mono ?_); rintro ec w1 ⟨rfl, hbz⟩; have HK := hide (HK.out.below hbz); clear hbz))
  have HK := hide (HK.out.push a b)
  obtain ⟨A1, hA1⟩ : ∃ A, A = w1.heap.size := ⟨_, rfl⟩
  obtain ⟨W1, hW1⟩ : ∃ W, W = w1.alloc (.cells #[.string a, .string b] 26) := ⟨_, rfl⟩
  rw [← hA1, ← hW1] at HK ⊢
  clear hA1 hW1
  obtain ⟨d0, d1⟩ := HK.out.get A1 a b (by simp)
  go_upto_region 5 with (go_at_call 13; (with_reducible refine (HM2.out _).mono ?_); rintro ec w2 ⟨rfl, hbz⟩; have HK := hide (HK.out.below hbz); obtain ⟨d0, d1⟩ := HK.out.get A1 a b (by simp); clear hbz)
  have HK := hide (HK.out.push a b)
  obtain ⟨A2, hA2⟩ : ∃ A, A = w2.heap.size := ⟨_, rfl⟩
  obtain ⟨W2, hW2⟩ : ∃ W, W = w2.alloc (.cells #[.string a, .string b] 26) := ⟨_, rfl⟩
  rw [← hA2, ← hW2] at HK ⊢
  clear hA2 hW2
  obtain ⟨d0, d1⟩ := HK.out.get A1 a b (by simp); obtain ⟨d2, d3⟩ := HK.out.get A2 a b (by simp)
  go_upto_region 6 with (go_at_call 14; (with_reducible refine (HP1.out _ (HT.out.below HK.out.low)).mono ?_); rintro ec w3 ⟨rfl, hbz⟩; have HK := hide (HK.out.below hbz); obtain ⟨d0, d1⟩ := HK.out.get A1 a b (by simp); obtain ⟨d2, d3⟩ := HK.out.get A2 a b (by simp); clear hbz)
  have hltA23 : A2 < w3.heap.size := HK.out.lt A2 a b (by simp)
  have hge3 : w.heap.size ≤ w3.heap.size := HK.out.low.size
  have HK := hide (HK.out.push c d)
  obtain ⟨A3, hA3⟩ : ∃ A, A = w3.heap.size := ⟨_, rfl⟩
  obtain ⟨W3, hW3⟩ : ∃ W, W = w3.alloc (.cells #[.string c, .string d] 26) := ⟨_, rfl⟩
  rw [← hA3, ← hW3] at HK ⊢
  rw [← hA3] at hltA23
  rw [← hA3] at hge3
  clear hA3 hW3
  obtain ⟨d0, d1⟩ := HK.out.get A1 a b (by simp); obtain ⟨d2, d3⟩ := HK.out.get A2 a b (by simp); obtain ⟨d4, d5⟩ := HK.out.get A3 c d (by simp)
  go_upto_region 7 with (go_at_call 15; (with_reducible refine (HP2.out _).mono ?_); rintro ec w4 ⟨rfl, hbz⟩; have HK := hide (HK.out.below hbz); obtain ⟨d0, d1⟩ := HK.out.get A1 a b (by simp); obtain ⟨d2, d3⟩ := HK.out.get A2 a b (by simp); obtain ⟨d4, d5⟩ := HK.out.get A3 c d (by simp); clear hbz)
  have HK := hide (HK.out.push c d)
  obtain ⟨A4, hA4⟩ : ∃ A, A = w4.heap.size := ⟨_, rfl⟩
  obtain ⟨W4, hW4⟩ : ∃ W, W = w4.alloc (.cells #[.string c, .string d] 26) := ⟨_, rfl⟩
  rw [← hA4, ← hW4] at HK ⊢
  clear hA4 hW4
  obtain ⟨d0, d1⟩ := HK.out.get A1 a b (by simp); obtain ⟨d2, d3⟩ := HK.out.get A2 a b (by simp); obtain ⟨d4, d5⟩ := HK.out.get A3 c d (by simp); obtain ⟨d6, d7⟩ := HK.out.get A4 c d (by simp)
  by_cases hx0 : x = 0
  · by_cases hy0 : y = 0
    · have HO2 := hide (HOF.out hx0 hy0)
      subst hx0 hy0
      clear HOF
      go_upto_region 14 with (first
        | (go_at_call 16; have _t := HS1; (with_reducible refine (HS1.out _).mono ?_); rintro ec wz ⟨rfl, hbz⟩; have HK := hide (HK.out.below hbz); obtain ⟨d0, d1⟩ := HK.out.get A1 a b (by simp); obtain ⟨d2, d3⟩ := HK.out.get A2 a b (by simp); obtain ⟨d4, d5⟩ := HK.out.get A3 c d (by simp); obtain ⟨d6, d7⟩ := HK.out.get A4 c d (by simp); clear HS1 _t hbz)
        | (go_at_call 16; (with_reducible refine (HS2.out _).mono ?_); rintro ec wz ⟨rfl, hbz⟩; have HK := hide (HK.out.below hbz); obtain ⟨d0, d1⟩ := HK.out.get A1 a b (by simp); obtain ⟨d2, d3⟩ := HK.out.get A2 a b (by simp); obtain ⟨d4, d5⟩ := HK.out.get A3 c d (by simp); obtain ⟨d6, d7⟩ := HK.out.get A4 c d (by simp); clear hbz)
        | (go_at_call 17; (with_reducible refine (HO2.out _ (HT.out.below HK.out.low)).mono ?_); rintro ec w5 ⟨rfl, hbz⟩; have HK := hide (HK.out.below hbz); obtain ⟨k0, k1, l0, l1⟩ := HK.out.at A3 c d (by simp); obtain ⟨d0, d1⟩ := HK.out.get A1 a b (by simp); obtain ⟨d2, d3⟩ := HK.out.get A2 a b (by simp); obtain ⟨d4, d5⟩ := HK.out.get A3 c d (by simp); obtain ⟨d6, d7⟩ := HK.out.get A4 c d (by simp); clear hbz))
      have hb3 := HK.out.box A3 c d (by simp)
      obtain ⟨j0, j1⟩ := hb3.full (a := .string a) (b := .string b)
      obtain ⟨i0, i1⟩ := (HK.out.box A2 a b (by simp)).keep2 (C := A3) (a := .string a) (b := .string b) (by omega)
      have HBE := hide ((HK.out.low.setCell (p := ⟨A3, 0, none⟩) hge3 (.string a)).setCell (p := ⟨A3, 1, none⟩) hge3 (.string b))
      go_wp2_with (go_at_call 11; (with_reducible refine (awake_any (HT.out.below HBE.out)).mono ?_); rintro ec wz ⟨rfl, hbz⟩; have HBF := hide (below_then HBE.out hbz); clear hbz)
      go_ret
      exact ⟨rfl, HBF.out⟩
    · have q2 : (y != 0) = true := by simpa using hy0
      subst hx0
      clear HOF hy0
      go_wp2_with (first
        | (go_at_call 16; have _t := HS1; (with_reducible refine (HS1.out _).mono ?_); rintro ec wz ⟨rfl, hbz⟩; have HK := hide (HK.out.below hbz); obtain ⟨d0, d1⟩ := HK.out.get A1 a b (by simp); obtain ⟨d2, d3⟩ := HK.out.get A2 a b (by simp); obtain ⟨d4, d5⟩ := HK.out.get A3 c d (by simp); obtain ⟨d6, d7⟩ := HK.out.get A4 c d (by simp); clear HS1 _t hbz)
        | (go_at_call 16; (with_reducible refine (HS2.out _).mono ?_); rintro ec wz ⟨rfl, hbz⟩; have HK := hide (HK.out.below hbz); obtain ⟨d0, d1⟩ := HK.out.get A1 a b (by simp); obtain ⟨d2, d3⟩ := HK.out.get A2 a b (by simp); obtain ⟨d4, d5⟩ := HK.out.get A3 c d (by simp); obtain ⟨d6, d7⟩ := HK.out.get A4 c d (by simp); clear hbz)
        | (go_at_call 11; (with_reducible refine (awake_any (HT.out.below HK.out.low)).mono ?_); rintro ec wz ⟨rfl, hbz⟩; have HK := hide (HK.out.below hbz); clear hbz))
      go_ret
      exact ⟨rfl, HK.out.low⟩
  · have q2 : (x != 0) = true := by simpa using hx0
    clear HOF hx0
    go_wp2_with (first
      | (go_at_call 16; have _t := HS1; (with_reducible refine (HS1.out _).mono ?_); rintro ec wz ⟨rfl, hbz⟩; have HK := hide (HK.out.below hbz); obtain ⟨d0, d1⟩ := HK.out.get A1 a b (by simp); obtain ⟨d2, d3⟩ := HK.out.get A2 a b (by simp); obtain ⟨d4, d5⟩ := HK.out.get A3 c d (by simp); obtain ⟨d6, d7⟩ := HK.out.get A4 c d (by simp); clear HS1 _t hbz)
      | (go_at_call 16; (with_reducible refine (HS2.out _).mono ?_); rintro ec wz ⟨rfl, hbz⟩; have HK := hide (HK.out.below hbz); obtain ⟨d0, d1⟩ := HK.out.get A1 a b (by simp); obtain ⟨d2, d3⟩ := HK.out.get A2 a b (by simp); obtain ⟨d4, d5⟩ := HK.out.get A3 c d (by simp); obtain ⟨d6, d7⟩ := HK.out.get A4 c d (by simp); clear hbz)
      | (go_at_call 11; (with_reducible refine (awake_any (HT.out.below HK.out.low)).mono ?_); rintro ec wz ⟨rfl, hbz⟩; have HK := hide (HK.out.below hbz); clear hbz))
    go_ret
    exact ⟨rfl, HK.out.low⟩
end Go.Proofs.YthpknfoahimopaaGreatDoor

set_option linter.unusedVariables false
set_option linter.unusedSimpArgs false
namespace Go.Proofs.YthpknfoahimopaaGreatDoor
open Go.RowKit Go.ChangeShapes Go.WideShapes Go.ChangeAt Go.Deep

theorem fractionMakes_tbl {W : World} (hL : laidMetH Tryz.prog Rows.fractionMakesRow.laid W) : Tbl W := by
  have h1 : laidMet Tryz.prog Rows.fractionMakesRow.laid W := by
    rw [MakeChecks.laidMetH_plain _ _ _ (by kernel_rfl)] at hL
    exact hL
  exact tbl_of_laid (by kernel_rfl) h1
set_option maxRecDepth 100000 in
theorem fractionMakes_lifted (os : Os) (started : os.Started) (H : Type) (enc : TypeId × Value → H) :
    ReturnsInHanded {} Tryz.checked os 3 .any (fun w args => (Rows.fractionMakesSpec.pre enc Tryz.prog Tryz.f3 Rows.fractionMakesRow.domain false w args ∧ laidMetH Tryz.prog Rows.fractionMakesRow.laid w) ∧ sizedMet enc Tryz.prog Tryz.f3 (OpenSpec.ofChange Rows.fractionMakesSpec) false w args)
      (Rows.fractionMakesSpec.post enc Tryz.prog Tryz.f3 false true false false) := by
  refine returnsInHanded_of_change_and (C := Tryz.checked) (X := fun w _ => laidMetH Tryz.prog Rows.fractionMakesRow.laid w) (fun _ _ _ hh h => h.of_heap hh) own_knob started (by kernel_rfl) Tryz.func3
    (ChangeSpec.witness_shaped (enc := enc) (C := Tryz.checked) (os := os) (X := fun w _ => laidMetH Tryz.prog Rows.fractionMakesRow.laid w) false (World.laidAll Tryz.prog os Rows.fractionMakesRow.laid) #[.string ⟨#[]⟩, .string ⟨#[]⟩, .string ⟨#[]⟩] 8 (World.laidAll_os _ _ _)
      (World.shaped_of_ZipB (by kernel_rfl) (by kernel_rfl)) (by kernel_rfl) (by kernel_rfl) (by kernel_rfl)
      (by rw [MakeChecks.laidMetH_plain _ _ _ (by kernel_rfl)]; exact laidMet_laidAll _ (by kernel_rfl) (by kernel_rfl))) ?_
  intro W base args ds gs before hval0 hW _ hsz hL _
  have hval : ∀ (j : Nat) t v, Tryz.f3.params[j]? = some t → args[j]? = some v → Value.okWide Tryz.prog W .any base t v := hval0
  have hW' := hW
  obtain ⟨p, q, hA0, hV, rfl, _, _⟩ := hW
  have hA : DataW.TrodAll enc Tryz.prog W 0 (fun _ => true) true Tryz.f3.params.toList args.toList ds p := hA0
  rw [Tryz.params3] at hA hval hsz
  obtain ⟨v0, v1, v2, d0, d1, d2, p0, p1, p2, rfl, rfl, rfl, h0, h1, h2⟩ := trodAll_three hA
  obtain ⟨rfl, rfl⟩ := trodVars_none hV
  have HTB := fractionMakes_tbl hL
  have hsz2 := hsz
  replace hsz2 : (DataW.weightsEach Tryz.prog [22, 22, 9] [d0, d1, d2]).all (· ≤ reachBytes) = true := hsz
  simp only [DataW.weightsEach, List.append_nil, List.all_append, Bool.and_eq_true] at hsz2
  have h0k := h0
  have h1k := h1
  have h2k := h2
  obtain ⟨l0, rfl, b0⟩ := open_txt Tryz.underlying22 (hval 0 22 v0 rfl rfl) h0 hsz2.1
  obtain ⟨l1, rfl, b1⟩ := open_txt Tryz.underlying22 (hval 1 22 v1 rfl rfl) h1 hsz2.2.1
  obtain ⟨l2, rfl, b2⟩ := open_txt Tryz.underlying9 (hval 2 9 v2 rfl rfl) h2 hsz2.2.2
  simp only [List.append_nil] at hW'
  have hlt0 : ∀ y ∈ p0, y.block < W.heap.size := fun y hy => by simpa using hW'.lt y (by simp [hy])
  have hlt1 : ∀ y ∈ p1, y.block < W.heap.size := fun y hy => by simpa using hW'.lt y (by simp [hy])
  have hlt2 : ∀ y ∈ p2, y.block < W.heap.size := fun y hy => by simpa using hW'.lt y (by simp [hy])
  refine (lmakes_any l0 b0 l1 b1 l2 b2 HTB).mono fun e W' ⟨he, hn⟩ => ?_
  subst he
  exact ⟨_, rfl, _, _, _, [], _, [], hW', trodAll_mk1 (shut_bool Tryz.underlying4 true), trodAll_mk3 (Below.trod laid_out (by kernel_rfl) (of_decide_eq_true (by kernel_rfl)) h0k hn hlt0) (Below.trod laid_out (by kernel_rfl) (of_decide_eq_true (by kernel_rfl)) h1k hn hlt1) (Below.trod laid_out (by kernel_rfl) (of_decide_eq_true (by kernel_rfl)) h2k hn hlt2), rfl, hn.frame _, fun h => by cases h⟩

theorem fractionMakes_row : Rows.FractionMakesSaid :=
  OpenClaim.holds_of_wide 3 Tryz.f3 rfl rfl rfl rfl rfl rfl rfl ⟨rfl, rfl, rfl, rfl, rfl⟩ rfl rfl rfl rfl rfl (by kernel_rfl) Tryz.func3 (by kernel_rfl)
    (of_decide_eq_true (by kernel_rfl)) (by unfold Func.isWrapper; first | (rw [if_pos (by decide +kernel)]; kernel_rfl) | (rw [if_neg (by decide +kernel)]; exact ⟨rfl, rfl⟩))
    (fun os started H enc _ => fractionMakes_lifted os started H enc)
theorem fractionMakes_holds : Rows.FractionMakesCardSaid :=
  Claim7.holds_tied_plain_at .later [] [.data, .data, .data, .sentinel, .sentinel] true (true, "b82a1295ea715ae845548bcfbe437ee53315b98a501120c16e571b4cc909fde4") true
    fractionMakes_row (fun _ h => by cases h) (by kernel_rfl) (fun _ h => by cases h) fractionMakes_row_tie rfl ⟨rfl, rfl⟩ (by kernel_rfl) rfl
    (fun f fn hf hfn => by
      obtain rfl : f = 3 := Option.some.inj ((show Tryz.prog.funcNamed "sandpile/sandpilelaw02.FractionMakes" = some 3 by kernel_rfl).symm.trans hf) |>.symm
      obtain rfl : fn = Tryz.f3 := (Option.some.inj (Tryz.func3.symm.trans hfn)).symm
      exact ⟨by kernel_rfl, fun j t ht => by
        rw [Tryz.params3] at ht
        have hm : t ∈ [22, 22, 9] := by simpa using Array.mem_of_getElem? ht
        have hall : ([22, 22, 9].all fun u => !Tryz.prog.wantsStandIn u) = true := by kernel_rfl
        exact (show Tryz.prog.wantsStandIn t = false by simpa using List.all_eq_true.1 hall t hm)⟩)
    (by kernel_rfl)
end Go.Proofs.YthpknfoahimopaaGreatDoor

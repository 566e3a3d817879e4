/-
  FractionChecks: the row, and its card tied to the program's text (what start-up code lays). Printed by mkFrEnd.py.
  law02: FractionChecks, the walk. Printed by mkLawChk.py.
-/
import Derived.Test.YthpknfoahimopaaGreatDoorF5
import Derived.Test.YthpknfoahimopaaGreatDoorRows
import Derived.Test.YthpknfoahimopaaGreatDoorCards
import Derived.Test.YthpknfoahimopaaGreatDoorTie
import Derived.Handed
import Derived.Lay
import Derived.SevenTiedAt
import Derived.MakeChecks

set_option linter.unusedVariables false
set_option linter.unusedSimpArgs false
set_option linter.unnecessarySimpa false
namespace Go.Proofs.YthpknfoahimopaaGreatDoor
open Go.RowKit

set_option maxRecDepth 100000 in
set_option maxHeartbeats 4000000 in
theorem lchecks_any (l m : List UInt8) (hl : l.length ≤ 140737488355328) (hm : m.length ≤ 140737488355328) {w : World} (ht : Tbl w) : Calls Tryz.prog 5 #[.agg #[.string (strN l), .string (strN m)]] w fun e w' => e = .returned (.bool true) ∧ Below w.heap.size w w' := by
  obtain ⟨a, b, e1, hn1, hn2⟩ := neg_same l m hl hm
  obtain ⟨n, e2, hf1, hf2⟩ := floor_same l m hl hm
  obtain ⟨t, e3, ht1, ht2⟩ := text_same l m hl hm
  obtain ⟨hc1, hc2⟩ := check_same l m hl hm
  have hfew := fun w => rffew_any l m hl hm w
  unfold frT at hn1 hn2
  generalize chkF l m = ce at *
  generalize (fewT l && fewT m) = f at *
  generalize strN l = sl at *
  generalize strN m = sm at *
  have HN1 := hide hn1
  have HN2 := hide hn2
  have HF1 := hide hf1
  have HF2 := hide hf2
  have HT1 := hide ht1
  have HT2 := hide ht2
  have HC1 := hide hc1
  have HC2 := hide hc2
  have HFW := hide hfew
  have HT := hide ht
  have HK := hide ((Kept.nil w).push sl sm)
  clear hl hm hn1 hn2 hf1 hf2 ht1 ht2 hc1 hc2 hfew ht
  cases f
  · go_enter Tryz.func5, Tryz.ntmps5
    go_wp2_with (first
      | (go_at_call 26; (with_reducible refine (HFW.out _).mono ?_); rintro ec wz ⟨rfl, hbz⟩; have HK := hide (HK.out.below hbz); obtain ⟨d0, d1⟩ := HK.out.get w.heap.size sl sm (by simp); clear hbz)
      | (go_at_call 11; (with_reducible refine (awake_any (HT.out.below HK.out.low)).mono ?_); rintro ec wz ⟨rfl, hbz⟩; have HK := hide (HK.out.below hbz); clear hbz))
    go_ret
    exact ⟨rfl, HK.out.low⟩
  · go_enter Tryz.func5, Tryz.ntmps5
    go_upto_region 4 with (first
      | (go_at_call 26; (with_reducible refine (HFW.out _).mono ?_); rintro ec wz ⟨rfl, hbz⟩; have HK := hide (HK.out.below hbz); obtain ⟨d0, d1⟩ := HK.out.get w.heap.size sl sm (by simp); clear hbz)
      | (go_at_call 27; (with_reducible refine (HN1.out _ (HT.out.below HK.out.low)).mono ?_); rintro ec w1 ⟨rfl, hbz⟩; have HK := hide (HK.out.below hbz); obtain ⟨d0, d1⟩ := HK.out.get w.heap.size sl sm (by simp); clear hbz))
    have HK := hide (HK.out.push a b)
    obtain ⟨A1, hA1⟩ : ∃ A, A = w1.heap.size := ⟨_, rfl⟩
    obtain ⟨W1, hW1⟩ : ∃ W, W = w1.alloc (.cells #[.string a, .string b] 26) := ⟨_, rfl⟩
    rw [← hA1, ← hW1] at HK ⊢
    clear hA1 hW1
    obtain ⟨d0, d1⟩ := HK.out.get w.heap.size sl sm (by simp); obtain ⟨d2, d3⟩ := HK.out.get A1 a b (by simp)
    go_upto_region 5 with (go_at_call 28; (with_reducible refine (HN2.out _).mono ?_); rintro ec w2 ⟨rfl, hbz⟩; have HK := hide (HK.out.below hbz); obtain ⟨d0, d1⟩ := HK.out.get w.heap.size sl sm (by simp); obtain ⟨d2, d3⟩ := HK.out.get A1 a b (by simp); clear hbz)
    have HK := hide (HK.out.push a b)
    obtain ⟨A2, hA2⟩ : ∃ A, A = w2.heap.size := ⟨_, rfl⟩
    obtain ⟨W2, hW2⟩ : ∃ W, W = w2.alloc (.cells #[.string a, .string b] 26) := ⟨_, rfl⟩
    rw [← hA2, ← hW2] at HK ⊢
    clear hA2 hW2
    obtain ⟨d0, d1⟩ := HK.out.get w.heap.size sl sm (by simp); obtain ⟨d2, d3⟩ := HK.out.get A1 a b (by simp); obtain ⟨d4, d5⟩ := HK.out.get A2 a b (by simp)
    go_upto_region 6 with (go_at_call 29; (with_reducible refine (HF1.out _ (HT.out.below HK.out.low)).mono ?_); rintro ec wz ⟨rfl, hbz⟩; have HK := hide (HK.out.below hbz); obtain ⟨d0, d1⟩ := HK.out.get w.heap.size sl sm (by simp); obtain ⟨d2, d3⟩ := HK.out.get A1 a b (by simp); obtain ⟨d4, d5⟩ := HK.out.get A2 a b (by simp); clear hbz)
    go_upto_region 7 with (go_at_call 30; (with_reducible refine (HF2.out _).mono ?_); rintro ec wz ⟨rfl, hbz⟩; have HK := hide (HK.out.below hbz); obtain ⟨d0, d1⟩ := HK.out.get w.heap.size sl sm (by simp); obtain ⟨d2, d3⟩ := HK.out.get A1 a b (by simp); obtain ⟨d4, d5⟩ := HK.out.get A2 a b (by simp); clear hbz)
    go_upto_region 8 with (go_at_call 31; (with_reducible refine (HT1.out _ (HT.out.below HK.out.low)).mono ?_); rintro ec wz ⟨rfl, hbz⟩; have HK := hide (HK.out.below hbz); obtain ⟨d0, d1⟩ := HK.out.get w.heap.size sl sm (by simp); obtain ⟨d2, d3⟩ := HK.out.get A1 a b (by simp); obtain ⟨d4, d5⟩ := HK.out.get A2 a b (by simp); clear hbz)
    go_upto_region 9 with (go_at_call 32; (with_reducible refine (HT2.out _).mono ?_); rintro ec w8 ⟨rfl, hbz⟩; have HK := hide (HK.out.below hbz); obtain ⟨d0, d1⟩ := HK.out.get w.heap.size sl sm (by simp); obtain ⟨d2, d3⟩ := HK.out.get A1 a b (by simp); obtain ⟨d4, d5⟩ := HK.out.get A2 a b (by simp); clear hbz)
    have HK := hide HK.out.draw
    have HC : Hid (_ ∧ _ ∧ _) := ⟨HK.out.get w.heap.size sl sm (by simp), HK.out.get A1 a b (by simp), HK.out.get A2 a b (by simp)⟩
    have eqg := eqGuard_fr
    have eqs := eq_self
    clear d0 d1 d2 d3 d4 d5
    go_region_held3 (fun w' => (w'.cell? ⟨w.heap.size, 0, none⟩ = some (.string sl) ∧ w'.cell? ⟨w.heap.size, 1, none⟩ = some (.string sm)) ∧ (w'.cell? ⟨A1, 0, none⟩ = some (.string a) ∧ w'.cell? ⟨A1, 1, none⟩ = some (.string b)) ∧ (w'.cell? ⟨A2, 0, none⟩ = some (.string a) ∧ w'.cell? ⟨A2, 1, none⟩ = some (.string b))) (first | with_reducible exact HC.out) (first
      | (go_at_call 11; (with_reducible refine (awake_any (HT.out.below HK.out.low)).mono ?_); rintro ec wz ⟨rfl, hbz⟩; have HK := hide (HK.out.below hbz); have HC : Hid (_ ∧ _ ∧ _) := ⟨HK.out.get w.heap.size sl sm (by simp), HK.out.get A1 a b (by simp), HK.out.get A2 a b (by simp)⟩; clear hbz)
      | (go_at_call 25; (with_reducible refine (HC1.out _ (HT.out.below HK.out.low)).mono ?_); rintro ec wz ⟨rfl, hbz⟩; have HK := hide (HK.out.below hbz); have HC : Hid (_ ∧ _ ∧ _) := ⟨HK.out.get w.heap.size sl sm (by simp), HK.out.get A1 a b (by simp), HK.out.get A2 a b (by simp)⟩; clear hbz)
      | (go_at_call 33; (with_reducible refine (HC2.out _).mono ?_); rintro ec wz ⟨rfl, hbz⟩; have HK := hide (HK.out.below hbz); have HC : Hid (_ ∧ _ ∧ _) := ⟨HK.out.get w.heap.size sl sm (by simp), HK.out.get A1 a b (by simp), HK.out.get A2 a b (by simp)⟩; clear hbz))
    go_wp2_with fail
    go_ret
    exact ⟨rfl, HK.out.low⟩
end Go.Proofs.YthpknfoahimopaaGreatDoor

set_option linter.unusedVariables false
set_option linter.unusedSimpArgs false
namespace Go.Proofs.YthpknfoahimopaaGreatDoor
open Go.RowKit Go.ChangeShapes Go.WideShapes Go.ChangeAt Go.Deep

theorem fractionChecks_tbl {W : World} (hL : laidMetH Tryz.prog Rows.fractionChecksRow.laid W) : Tbl W := by
  have h1 : laidMet Tryz.prog Rows.fractionChecksRow.laid W := by
    rw [MakeChecks.laidMetH_plain _ _ _ (by kernel_rfl)] at hL
    exact hL
  exact tbl_of_laid (by kernel_rfl) h1
set_option maxRecDepth 100000 in
theorem fractionChecks_lifted (os : Os) (started : os.Started) (H : Type) (enc : TypeId × Value → H) :
    ReturnsInHanded {} Tryz.checked os 5 .any (fun w args => (Rows.fractionChecksSpec.pre enc Tryz.prog Tryz.f5 Rows.fractionChecksRow.domain false w args ∧ laidMetH Tryz.prog Rows.fractionChecksRow.laid w) ∧ sizedMet enc Tryz.prog Tryz.f5 (OpenSpec.ofChange Rows.fractionChecksSpec) false w args)
      (Rows.fractionChecksSpec.post enc Tryz.prog Tryz.f5 false true false false) := by
  refine returnsInHanded_of_change_and (C := Tryz.checked) (X := fun w _ => laidMetH Tryz.prog Rows.fractionChecksRow.laid w) (fun _ _ _ hh h => h.of_heap hh) own_knob started (by kernel_rfl) Tryz.func5
    (ChangeSpec.witness_shaped (enc := enc) (C := Tryz.checked) (os := os) (X := fun w _ => laidMetH Tryz.prog Rows.fractionChecksRow.laid w) false (World.laidAll Tryz.prog os Rows.fractionChecksRow.laid) #[.agg #[.string ⟨#[]⟩, .string ⟨#[]⟩]] 8 (World.laidAll_os _ _ _)
      (World.shaped_of_ZipB (by kernel_rfl) (by kernel_rfl)) (by kernel_rfl) (by kernel_rfl) (by kernel_rfl)
      (by rw [MakeChecks.laidMetH_plain _ _ _ (by kernel_rfl)]; exact laidMet_laidAll _ (by kernel_rfl) (by kernel_rfl))) ?_
  intro W base args ds gs before hval0 hW _ hsz hL _
  have hval : ∀ (j : Nat) t v, Tryz.f5.params[j]? = some t → args[j]? = some v → Value.okWide Tryz.prog W .any base t v := hval0
  have hW' := hW
  obtain ⟨p, q, hA0, hV, rfl, _, _⟩ := hW
  have hA : DataW.TrodAll enc Tryz.prog W 0 (fun _ => true) true Tryz.f5.params.toList args.toList ds p := hA0
  rw [Tryz.params5] at hA hval hsz
  obtain ⟨v0, d0, rfl, rfl, h0⟩ := trodAll_one hA
  obtain ⟨rfl, rfl⟩ := trodVars_none hV
  have HTB := fractionChecks_tbl hL
  have hsz2 := hsz
  replace hsz2 : (DataW.weightsEach Tryz.prog [26] [d0]).all (· ≤ reachBytes) = true := hsz
  simp only [DataW.weightsEach, List.append_nil, List.all_append, Bool.and_eq_true] at hsz2
  have h0k := h0
  obtain ⟨l0, m0, rfl, b0, c0⟩ := open_fr (hval 0 26 v0 rfl rfl) h0 hsz2
  simp only [List.append_nil] at hW'
  have hlt0 : ∀ y ∈ p, y.block < W.heap.size := fun y hy => by simpa using hW'.lt y (by simp [hy])
  refine (lchecks_any l0 m0 b0 c0 HTB).mono fun e W' ⟨he, hn⟩ => ?_
  subst he
  exact ⟨_, rfl, _, _, _, [], _, [], hW', trodAll_mk1 (shut_bool Tryz.underlying4 true), trodAll_mk1 (Below.trod laid_out (by kernel_rfl) (of_decide_eq_true (by kernel_rfl)) h0k hn hlt0), rfl, hn.frame _, fun h => by cases h⟩

theorem fractionChecks_row : Rows.FractionChecksSaid :=
  OpenClaim.holds_of_wide 5 Tryz.f5 rfl rfl rfl rfl rfl rfl rfl ⟨rfl, rfl, rfl, rfl, rfl⟩ rfl rfl rfl rfl rfl (by kernel_rfl) Tryz.func5 (by kernel_rfl)
    (of_decide_eq_true (by kernel_rfl)) (by unfold Func.isWrapper; first | (rw [if_pos (by decide +kernel)]; kernel_rfl) | (rw [if_neg (by decide +kernel)]; exact ⟨rfl, rfl⟩))
    (fun os started H enc _ => fractionChecks_lifted os started H enc)
theorem fractionChecks_holds : Rows.FractionChecksCardSaid :=
  Claim7.holds_tied_plain_at .later [] [.data, .data, .data, .sentinel, .sentinel] true (true, "b82a1295ea715ae845548bcfbe437ee53315b98a501120c16e571b4cc909fde4") true
    fractionChecks_row (fun _ h => by cases h) (by kernel_rfl) (fun _ h => by cases h) fractionChecks_row_tie rfl ⟨rfl, rfl⟩ (by kernel_rfl) rfl
    (fun f fn hf hfn => by
      obtain rfl : f = 5 := Option.some.inj ((show Tryz.prog.funcNamed "sandpile/sandpilelaw02.FractionChecks" = some 5 by kernel_rfl).symm.trans hf) |>.symm
      obtain rfl : fn = Tryz.f5 := (Option.some.inj (Tryz.func5.symm.trans hfn)).symm
      exact ⟨by kernel_rfl, fun j t ht => by
        rw [Tryz.params5] at ht
        have hm : t ∈ [26] := by simpa using Array.mem_of_getElem? ht
        have hall : ([26].all fun u => !Tryz.prog.wantsStandIn u) = true := by kernel_rfl
        exact (show Tryz.prog.wantsStandIn t = false by simpa using List.all_eq_true.1 hall t hm)⟩)
    (by kernel_rfl)
end Go.Proofs.YthpknfoahimopaaGreatDoor

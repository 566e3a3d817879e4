/-
  FractionSums: the row, and its card tied to the program's text (what start-up code lays). Printed by mkFrEnd.py.
  law02: FractionSums, the walk. Printed by mkLawSum.py.
-/
import Derived.Test.YthpknfoahimopaaGreatDoorF5
import Derived.Test.YthpknfoahimopaaGreatDoorRows
import Derived.Test.YthpknfoahimopaaGreatDoorCards
import Derived.Test.YthpknfoahimopaaGreatDoorTie
import Derived.Handed
import Derived.Lay
import Derived.SevenTiedAt
import Derived.MakeChecks

set_option linter.unusedVariables false
set_option linter.unusedSimpArgs false
set_option linter.unnecessarySimpa false
namespace Go.Proofs.YthpknfoahimopaaGreatDoor
open Go.RowKit

set_option maxRecDepth 100000 in
set_option maxHeartbeats 4000000 in
theorem lsums_any (xs : List FrX) (oa : Option Addr) (c : Nat) (hm : xs.length ≤ 9223372036854775807) {w : World} (hs : SliceR frR 2 All w oa xs) (ht : Tbl w) : Calls Tryz.prog 9 #[.slice oa xs.length c] w fun e w' => e = .returned (.bool true) ∧ Below w.heap.size w w' := by
  obtain ⟨a, b, e1, hv⟩ : ∃ a b e, sumV xs = frT a b e := by
    unfold sumV
    split
    · exact ⟨_, _, _, rfl⟩
    · split
      · exact ⟨_, _, _, rfl⟩
      · split <;> exact ⟨_, _, _, rfl⟩
  unfold frT at hv
  have HS1 : Hid (∀ w', Below w.heap.size w w' → Calls Tryz.prog 46 #[.slice oa xs.length c] w' fun e w2 => e = .returned (.tuple #[.agg #[.string a, .string b], .int .i64 e1]) ∧ Below w'.heap.size w' w2) := fun w' hb => by
    rw [← hv]
    by_cases h : 4096 < xs.length
    · exact fsum_many xs oa c w' h hm
    · exact fsum_any xs oa c All (hs.below frR_ok hb) (by omega) (ht.below hb)
  have HS2 : Hid (∀ w', Below w.heap.size w w' → Calls Tryz.prog 47 #[.slice oa xs.length c] w' fun e w2 => e = .returned (.tuple #[.agg #[.string a, .string b], .int .i64 e1]) ∧ Below w'.heap.size w' w2) := fun w' hb => by
    rw [← hv]
    by_cases h : 4096 < xs.length
    · exact rfsum_many xs oa c w' h hm
    · exact rfsum_any xs oa c All w' (hs.below frR_ok hb) (by omega)
  have HFW : Hid (Calls Tryz.prog 45 #[.slice oa xs.length c] w fun e w2 => e = .returned (.bool (fewAllB xs)) ∧ Below w.heap.size w w2) := rffewall_any xs oa c All w hs hm
  generalize fewAllB xs = f at *
  have HT := hide ht
  have HK := hide (Kept.nil w)
  have eqg := eqGuard_fr
  have eqs := eq_self
  clear hs hm ht hv
  cases f
  · go_enter Tryz.func9, Tryz.ntmps9
    go_wp2_with (first
      | (go_at_call 45; (with_reducible refine (HFW.out).mono ?_); rintro ec wz ⟨rfl, hbz⟩; have HK := hide (HK.out.below hbz); clear hbz)
      | (go_at_call 11; (with_reducible refine (awake_any (HT.out.below HK.out.low)).mono ?_); rintro ec wz ⟨rfl, hbz⟩; have HK := hide (HK.out.below hbz); clear hbz))
    go_ret
    exact ⟨rfl, HK.out.low⟩
  · go_enter Tryz.func9, Tryz.ntmps9
    go_upto_region 4 with (first
      | (go_at_call 45; (with_reducible refine (HFW.out).mono ?_); rintro ec wz ⟨rfl, hbz⟩; have HK := hide (HK.out.below hbz); clear hbz)
      | (go_at_call 46; (with_reducible refine (HS1.out _ HK.out.low).mono ?_); rintro ec w1 ⟨rfl, hbz⟩; have HK := hide (HK.out.below hbz); clear hbz))
    have HK := hide (HK.out.push a b)
    obtain ⟨A1, hA1⟩ : ∃ A, A = w1.heap.size := ⟨_, rfl⟩
    obtain ⟨W1, hW1⟩ : ∃ W, W = w1.alloc (.cells #[.string a, .string b] 26) := ⟨_, rfl⟩
    rw [← hA1, ← hW1] at HK ⊢
    clear hA1 hW1
    obtain ⟨d0, d1⟩ := HK.out.get A1 a b (by simp)
    go_upto_region 5 with (go_at_call 47; (with_reducible refine (HS2.out _ HK.out.low).mono ?_); rintro ec w2 ⟨rfl, hbz⟩; have HK := hide (HK.out.below hbz); obtain ⟨d0, d1⟩ := HK.out.get A1 a b (by simp); clear hbz)
    have HK := hide (HK.out.push a b)
    obtain ⟨A2, hA2⟩ : ∃ A, A = w2.heap.size := ⟨_, rfl⟩
    obtain ⟨W2, hW2⟩ : ∃ W, W = w2.alloc (.cells #[.string a, .string b] 26) := ⟨_, rfl⟩
    rw [← hA2, ← hW2] at HK ⊢
    clear hA2 hW2
    obtain ⟨d0, d1⟩ := HK.out.get A1 a b (by simp); obtain ⟨d2, d3⟩ := HK.out.get A2 a b (by simp)
    go_wp2_with (go_at_call 11; (with_reducible refine (awake_any (HT.out.below HK.out.low)).mono ?_); rintro ec wz ⟨rfl, hbz⟩; have HK := hide (HK.out.below hbz); obtain ⟨d0, d1⟩ := HK.out.get A1 a b (by simp); obtain ⟨d2, d3⟩ := HK.out.get A2 a b (by simp); clear hbz)
    go_ret
    exact ⟨rfl, HK.out.low⟩
end Go.Proofs.YthpknfoahimopaaGreatDoor

set_option linter.unusedVariables false
set_option linter.unusedSimpArgs false
namespace Go.Proofs.YthpknfoahimopaaGreatDoor
open Go.RowKit Go.ChangeShapes Go.WideShapes Go.ChangeAt Go.Deep

theorem fractionSums_tbl {W : World} (hL : laidMetH Tryz.prog Rows.fractionSumsRow.laid W) : Tbl W := by
  have h1 : laidMet Tryz.prog Rows.fractionSumsRow.laid W := by
    rw [MakeChecks.laidMetH_plain _ _ _ (by kernel_rfl)] at hL
    exact hL
  exact tbl_of_laid (by kernel_rfl) h1
set_option maxRecDepth 100000 in
theorem fractionSums_lifted (os : Os) (started : os.Started) (H : Type) (enc : TypeId × Value → H) :
    ReturnsInHanded {} Tryz.checked os 9 .any (fun w args => (Rows.fractionSumsSpec.pre enc Tryz.prog Tryz.f9 Rows.fractionSumsRow.domain false w args ∧ laidMetH Tryz.prog Rows.fractionSumsRow.laid w) ∧ sizedMet enc Tryz.prog Tryz.f9 (OpenSpec.ofChange Rows.fractionSumsSpec) false w args)
      (Rows.fractionSumsSpec.post enc Tryz.prog Tryz.f9 false true false false) := by
  refine returnsInHanded_of_change_and (C := Tryz.checked) (X := fun w _ => laidMetH Tryz.prog Rows.fractionSumsRow.laid w) (fun _ _ _ hh h => h.of_heap hh) own_knob started (by kernel_rfl) Tryz.func9
    (ChangeSpec.witness_shaped (enc := enc) (C := Tryz.checked) (os := os) (X := fun w _ => laidMetH Tryz.prog Rows.fractionSumsRow.laid w) false (World.laidAll Tryz.prog os Rows.fractionSumsRow.laid) #[.slice none 0 0] 8 (World.laidAll_os _ _ _)
      (World.shaped_of_ZipB (by kernel_rfl) (by kernel_rfl)) (by kernel_rfl) (by kernel_rfl) (by kernel_rfl)
      (by rw [MakeChecks.laidMetH_plain _ _ _ (by kernel_rfl)]; exact laidMet_laidAll _ (by kernel_rfl) (by kernel_rfl))) ?_
  intro W base args ds gs before hval0 hW _ hsz hL _
  have hval : ∀ (j : Nat) t v, Tryz.f9.params[j]? = some t → args[j]? = some v → Value.okWide Tryz.prog W .any base t v := hval0
  have hW' := hW
  obtain ⟨p, q, hA0, hV, rfl, _, _⟩ := hW
  have hA : DataW.TrodAll enc Tryz.prog W 0 (fun _ => true) true Tryz.f9.params.toList args.toList ds p := hA0
  rw [Tryz.params9] at hA hval hsz
  obtain ⟨v0, d0, rfl, rfl, h0⟩ := trodAll_one hA
  obtain ⟨rfl, rfl⟩ := trodVars_none hV
  have HTB := fractionSums_tbl hL
  have hsz2 := hsz
  replace hsz2 : (DataW.weightsEach Tryz.prog [71] [d0]).all (· ≤ reachBytes) = true := hsz
  simp only [DataW.weightsEach, List.append_nil, List.all_append, Bool.and_eq_true] at hsz2
  have h0k := h0
  obtain ⟨xs0, oa0, c0, rfl, b0, s0⟩ := open_frs (hval 0 71 v0 rfl rfl) h0 hsz2
  simp only [List.append_nil] at hW'
  have hlt0 : ∀ y ∈ p, y.block < W.heap.size := fun y hy => by simpa using hW'.lt y (by simp [hy])
  refine (lsums_any xs0 oa0 c0 b0 s0 HTB).mono fun e W' ⟨he, hn⟩ => ?_
  subst he
  exact ⟨_, rfl, _, _, _, [], _, [], hW', trodAll_mk1 (shut_bool Tryz.underlying4 true), trodAll_mk1 (Below.trod laid_out (by kernel_rfl) (of_decide_eq_true (by kernel_rfl)) h0k hn hlt0), rfl, hn.frame _, fun h => by cases h⟩

theorem fractionSums_row : Rows.FractionSumsSaid :=
  OpenClaim.holds_of_wide 9 Tryz.f9 rfl rfl rfl rfl rfl rfl rfl ⟨rfl, rfl, rfl, rfl, rfl⟩ rfl rfl rfl rfl rfl (by kernel_rfl) Tryz.func9 (by kernel_rfl)
    (of_decide_eq_true (by kernel_rfl)) (by unfold Func.isWrapper; first | (rw [if_pos (by decide +kernel)]; kernel_rfl) | (rw [if_neg (by decide +kernel)]; exact ⟨rfl, rfl⟩))
    (fun os started H enc _ => fractionSums_lifted os started H enc)
theorem fractionSums_holds : Rows.FractionSumsCardSaid :=
  Claim7.holds_tied_plain_at .later [] [.data, .data, .data, .sentinel, .sentinel] true (true, "b82a1295ea715ae845548bcfbe437ee53315b98a501120c16e571b4cc909fde4") true
    fractionSums_row (fun _ h => by cases h) (by kernel_rfl) (fun _ h => by cases h) fractionSums_row_tie rfl ⟨rfl, rfl⟩ (by kernel_rfl) rfl
    (fun f fn hf hfn => by
      obtain rfl : f = 9 := Option.some.inj ((show Tryz.prog.funcNamed "sandpile/sandpilelaw02.FractionSums" = some 9 by kernel_rfl).symm.trans hf) |>.symm
      obtain rfl : fn = Tryz.f9 := (Option.some.inj (Tryz.func9.symm.trans hfn)).symm
      exact ⟨by kernel_rfl, fun j t ht => by
        rw [Tryz.params9] at ht
        have hm : t ∈ [71] := by simpa using Array.mem_of_getElem? ht
        have hall : ([71].all fun u => !Tryz.prog.wantsStandIn u) = true := by kernel_rfl
        exact (show Tryz.prog.wantsStandIn t = false by simpa using List.all_eq_true.1 hall t hm)⟩)
    (by kernel_rfl)
end Go.Proofs.YthpknfoahimopaaGreatDoor

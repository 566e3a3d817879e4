/-
  The walk of ProcessorSplits.
-/
import Derived.Test.YtmjcjmljnliaoaaRight
import Derived.Test.YtmjcjmljnliaoaaConcat
import Derived.Deep.DeepCutAuto
set_option linter.unusedVariables false
namespace Go.Proofs.Ytmjcjmljnliaoaa
open Go.RowKit

theorem readSpec_app (rs : List (List Rul)) : ∀ (a b : List Int) (s : Int), readSpec rs s (a ++ b) = ((readSpec rs (readSpec rs s a).1 b).1, (readSpec rs s a).2 ++ (readSpec rs (readSpec rs s a).1 b).2)
  | [], b, s => by simp [readSpec]
  | x :: a, b, s => by
    have h := readSpec_app rs a b (ruleAt rs s x).next
    simp only [List.cons_append, readSpec]
    rw [h]
    simp
theorem letters_of {L : Int} : ∀ {l : List Int}, (∀ a ∈ l, 0 ≤ a ∧ a < L) → lettersErr L l = 0
  | [], _ => rfl
  | a :: r, h => by
    have h1 := h a (by simp)
    have h2 : belowB a L = true := by simp [belowB]; omega
    simp only [lettersErr, h2]
    exact letters_of fun x hx => h x (by simp [hx])
theorem runRes_right {S L s : Int} {rs : List (List Rul)} {l : List Int} (h : checkErr ⟨S, L, rs⟩ 12 = 0) (hs : 0 ≤ s ∧ s < S) (hl : lettersErr L l = 0) (hlen : l.length ≤ 256) : runRes ⟨S, L, rs⟩ s l = ((readSpec rs s l).1, (readSpec rs s l).2, 0) := by
  have h1 : stateErr ⟨S, L, rs⟩ s = 0 := by
    have h2 : belowB s S = true := by simp [belowB]; omega
    simp [stateErr, h, h2]
  have h2 : rlettersErr L l = 0 := by simp [rlettersErr, hl]; omega
  simp [runRes, h1, h2]

theorem SliceR.take {α : Type} {R : Rep α} {sz : Nat} {F : Foot} {w : World} {oa : Option Addr} {xs : List α} (h : SliceR R sz F w oa xs) (k : Nat) : SliceR R sz F w oa (xs.take k) := by
  intro i x hx
  rw [List.getElem?_take] at hx
  split at hx
  · exact h i x hx
  · cases hx
theorem SliceR.drop1 {α : Type} {R : Rep α} {F : Foot} {w : World} {b off : Nat} {xs : List α} (h : SliceR R 1 F w (some ⟨b, off, none⟩) xs) (k : Nat) : SliceR R 1 F w (some ⟨b, off + k, none⟩) (xs.drop k) := by
  intro i x hx
  rw [List.getElem?_drop] at hx
  obtain ⟨b', off', cs, he, hF, hR, hc⟩ := h _ x hx
  injection he with he
  injection he with h1 h2
  subst h1 h2
  refine ⟨b, off + k, cs, rfl, hF, hR, fun j u hu => ?_⟩
  have := hc j u hu
  rw [show off + k + i * 1 + j = off + (k + i) * 1 + j from by omega]
  exact this

theorem run_n {S L s u : Int} {rs : List (List Rul)} {word : List Int} {l : List Out} {n : Nat} (oa : Option Addr) (c : Nat) (ob : Option Addr) (d : Nat) (w : World) (hs : SliceR (slcR ruleR 2) 1 All w oa rs) (hc : rs.length ≤ c) (hc2 : rs.length ≤ 9223372036854775807) (hw : SliceR intR 1 All w ob word) (hn : Hid (n = word.length)) (hd : n ≤ d) (hd2 : n ≤ 256)
    (HR : Hid (runRes ⟨S, L, rs⟩ s word = (u, l, 0))) :
    Calls Try.prog 41 #[.agg #[.int .i64 S, .int .i64 L, .slice oa rs.length c], .int .i64 s, .slice ob n d] w fun e w' =>
      ∃ oa1 c1, e = .returned (.tuple #[.int .i64 u, .slice oa1 l.length c1, .int .i64 0]) ∧ l.length ≤ c1 ∧ l.length ≤ 9223372036854775807 ∧ SliceR outR 2 All w' oa1 l ∧ Below w.heap.size w w' := by
  have h := hn.out
  subst h
  refine (run_any S L s rs oa c word ob d All All w hs hc hc2 hw hd (by omega)).mono ?_
  rintro e w' ⟨v, he, ho, hb⟩
  rw [HR.out] at he ho
  obtain ⟨oa1, c1, rfl, h1, h2⟩ := ho.slice outR_ok
  exact ⟨oa1, c1, he, h1, ho.bound, h2.all outR_ok (by omega), hb⟩

set_option maxRecDepth 100000 in
set_option maxHeartbeats 4000000 in
theorem splits_walk (w : World) (S L : Int) (rs : List (List Rul)) (oa : Option Addr) (c : Nat) (_ : I64 S) (_ : I64 L) (hc : rs.length ≤ c) (hc2 : rs.length ≤ 9223372036854775807) (hs : SliceR (slcR ruleR 2) 1 All w oa rs)
    (s : Int) (_ : I64 s) (word : List Int) (ob : Option Addr) (d : Nat) (hd : word.length ≤ d) (hd2 : word.length ≤ 9223372036854775807) (hw : SliceR intR 1 All w ob word) :
    Calls Try.prog 9 #[.agg #[.int .i64 S, .int .i64 L, .slice oa rs.length c], .int .i64 s, .slice ob word.length d] w fun e w' => e = .returned (.bool true) ∧ Below w.heap.size w w' := by
  go_enter Try.func9, Try.ntmps9
  go_wp2_with fail
  refine (right_any S L s rs oa c word ob d All All _ (hs.below rowR_ok (bnew (Below.refl _ _) _)) hc hc2 (hw.below intR_ok (bnew (Below.refl _ _) _)) hd hd2).mono ?_
  rintro e w2 ⟨b, rfl, hright, hb2⟩
  have HRT := hide hright
  clear hright
  have hx := hb2.mono (B' := w.heap.size + 1) (by simp)
  clear hb2
  have d0 := box_cell hx 0
  have d1 := box_cell hx 1
  have d2 := box_cell hx 2
  simp at d0 d1 d2
  cases b with
  | false =>
    go_wp2_with fail
    refine (awake_any _).mono ?_
    rintro e w3 ⟨rfl, hb3⟩
    go_wp2_with fail
    go_ret
    exact ⟨rfl, below_box (box_then hx (by simp) hb3)⟩
  | true =>
  have HP := hide (HRT.out rfl)
  clear HRT
  have hl40 : word.length ≤ 40 := HP.out.2.2.1
  have HRUN := hide (runRes_right HP.out.1 HP.out.2.1 HP.out.2.2.2 (by omega))
  go_wp2_with fail
  refine (run_any S L s rs oa c word ob d All All _ (hs.below rowR_ok (below_box hx)) hc hc2 (hw.below intR_ok (below_box hx)) hd hd2).mono ?_
  rintro e w3 ⟨v, he, ho, hb3⟩
  rw [HRUN.out] at he ho
  simp only at he ho
  subst he
  obtain ⟨oa1, c1, rfl, hc1, hx1⟩ := ho.slice outR_ok
  have hl1 := ho.bound
  have hx := box_then hx (by simp) hb3
  clear hb3 ho d0 d1 d2
  go_wp2_with fail
  go_loopw [34] (fun iv wr => ∃ k : Nat, k ≤ word.length + 1 ∧ iv = .int .i64 k ∧ Below w3.heap.size w3 wr) (fun i _ => word.length + 1 - (intOf i).toNat)
  case atStart => exact ⟨0, by omega, rfl, Below.refl _ _⟩
  case round =>
    obtain ⟨k, hk, rfl, hbr⟩ := hrel
    by_cases hlt : k < word.length + 1
    · have hx2 := box_then hx (by simp) hbr
      have d0 := box_cell hx2 0
      have d1 := box_cell hx2 1
      have d2 := box_cell hx2 2
      simp at d0 d1 d2
      have hkd : k ≤ d := by omega
      obtain ⟨u, hu⟩ : ∃ u, u = (readSpec rs s (word.take k)).1 := ⟨_, rfl⟩
      obtain ⟨first, hfst⟩ : ∃ l, l = (readSpec rs s (word.take k)).2 := ⟨_, rfl⟩
      have HU := hide hu
      have HF := hide hfst
      have hl1' : Hid (lettersErr L (word.take k) = 0) := letters_of fun a ha => letters_zero HP.out.2.2.2 a (List.mem_of_mem_take ha)
      have HR1 : Hid (runRes ⟨S, L, rs⟩ s (word.take k) = (u, first, 0)) := by
        show _ = _
        rw [runRes_right HP.out.1 HP.out.2.1 hl1'.out (by simp; omega), HU.out, HF.out]
      have hk1 : Hid (k = (word.take k).length) := by show _ = _; simp; omega
      clear hu hfst
      have hkl : k ≤ word.length := by omega
      go_upto_region 7 with fail
      go_cut [11, 12, 13] (fun s11 s12 s13 wx => ∃ oa2 c2, s11 = .int .i64 u ∧ s12 = .slice oa2 first.length c2 ∧ s13 = .int .i64 0 ∧ first.length ≤ c2 ∧ first.length ≤ 9223372036854775807 ∧ SliceR outR 2 All wx oa2 first ∧ Below w3.heap.size w3 wx)
      case first =>
        go_region_held3 (fun w' => w'.cell? ⟨w.heap.size, 0, none⟩ = some (.int .i64 S) ∧ w'.cell? ⟨w.heap.size, 1, none⟩ = some (.int .i64 L) ∧ w'.cell? ⟨w.heap.size, 2, none⟩ = some (.slice oa rs.length c)) (first | exact ⟨d0, d1, d2⟩)
          (first | (go_at_call 41; refine (run_n oa c ob d _ (hs.below rowR_ok (below_box hx2.drew)) hc hc2 ((hw.below intR_ok (below_box hx2.drew)).take k) hk1 (by omega) (by omega) HR1).mono ?_; rintro e w4 ⟨oa2, c2, rfl, hc2', hl2, hsl2, hb4⟩; have d0 := (hb4.cell (World.block_lt_of_cell? _ _ d0)).trans d0; have d1 := (hb4.cell (World.block_lt_of_cell? _ _ d1)).trans d1; have d2 := (hb4.cell (World.block_lt_of_cell? _ _ d2)).trans d2))
        all_goals
          go_wp2_with fail
          go_meet
          exact ⟨oa2, c2, rfl, rfl, rfl, hc2', hl2, hsl2, below_then hbr.drew hb4⟩
      case rest =>
        obtain ⟨oa2, c2, rfl, rfl, rfl, hc2', hl2, hsl2, hbr2⟩ := hcut
        have hx3 := box_then hx (by simp) hbr2
        have d0 := box_cell hx3 0
        have d1 := box_cell hx3 1
        have d2 := box_cell hx3 2
        simp at d0 d1 d2
        have HUR : Hid ((0 ≤ u ∧ u < S) ∧ first.length ≤ 16 * 40) := by
          have h := readSpec_right HP.out.1 (word.take k) s HP.out.2.1 hl1'.out
          rw [HU.out, HF.out]
          refine ⟨h.1, Nat.le_trans h.2.1 ?_⟩
          simp; omega
        have hl2' : Hid (lettersErr L (word.drop k) = 0) := letters_of fun a ha => letters_zero HP.out.2.2.2 a (List.mem_of_mem_drop ha)
        obtain ⟨rst, hrst⟩ : ∃ l, l = (readSpec rs u (word.drop k)).2 := ⟨_, rfl⟩
        have HAPP : Hid ((readSpec rs s word).1 = (readSpec rs u (word.drop k)).1 ∧ (readSpec rs s word).2 = first ++ rst) := by
          have h := readSpec_app rs (word.take k) (word.drop k) s
          rw [List.take_append_drop, ← HU.out, ← HF.out, ← hrst] at h
          exact ⟨by rw [h], by rw [h]⟩
        have HR2 : Hid (runRes ⟨S, L, rs⟩ u (word.drop k) = ((readSpec rs s word).1, rst, 0)) := by
          show _ = _
          rw [runRes_right HP.out.1 HUR.out.1 hl2'.out (by simp; omega), ← HAPP.out.1, hrst]
        have hk2 : Hid (word.length - k = (word.drop k).length) := by show _ = _; simp
        have HRS : Hid (rst.length ≤ 16 * 40) := by
          have h := readSpec_right HP.out.1 (word.drop k) u HUR.out.1 hl2'.out
          rw [hrst]
          refine Nat.le_trans h.2.1 ?_
          simp; omega
        clear hrst hl1' HR1 hk1 HU HF hbr hx2
        go_upto_region 8 with fail
        go_cut [14, 15, 16] (fun s14 s15 s16 wx => ∃ oa3 c3, s14 = .int .i64 (readSpec rs s word).1 ∧ s15 = .slice oa3 rst.length c3 ∧ s16 = .int .i64 0 ∧ rst.length ≤ c3 ∧ rst.length ≤ 9223372036854775807 ∧ SliceR outR 2 All wx oa2 first ∧ SliceR outR 2 All wx oa3 rst ∧ Below w3.heap.size w3 wx)
        case first =>
          by_cases hkk : k < word.length
          · obtain ⟨_, _, _, _, b, off, hob, _, _⟩ := hw.int_at hkk
            subst hob
            have hdk : ¬ d = k := by omega
            go_region_held3 (fun w' => w'.cell? ⟨w.heap.size, 0, none⟩ = some (.int .i64 S) ∧ w'.cell? ⟨w.heap.size, 1, none⟩ = some (.int .i64 L) ∧ w'.cell? ⟨w.heap.size, 2, none⟩ = some (.slice oa rs.length c)) (first | exact ⟨d0, d1, d2⟩)
              (first | (go_at_call 41; refine (run_n oa c (some ⟨b, off + k, none⟩) (d - k) _ (hs.below rowR_ok (below_box hx3.drew)) hc hc2 ((hw.below intR_ok (below_box hx3.drew)).drop1 k) hk2 (by omega) (by omega) HR2).mono ?_; rintro e w4 ⟨oa3, c3, rfl, hc3', hl3, hsl3, hb4⟩; have d0 := (hb4.cell (World.block_lt_of_cell? _ _ d0)).trans d0; have d1 := (hb4.cell (World.block_lt_of_cell? _ _ d1)).trans d1; have d2 := (hb4.cell (World.block_lt_of_cell? _ _ d2)).trans d2))
            all_goals
              go_wp2_with fail
              go_meet
              exact ⟨oa3, c3, rfl, rfl, rfl, hc3', hl3, (hsl2.keep (w' := wc.drew) outR_ok (fun _ _ _ => rfl)).below outR_ok hb4, hsl3, below_then hbr2.drew hb4⟩
          · have hnil : Hid (word.drop k = []) := List.drop_eq_nil_of_le (by omega)
            have hkw : k = word.length := by omega
            have HNS : Hid (∀ (a : Option Addr) (w : World), SliceR intR 1 All w a (word.drop k)) := by
              intro a w
              rw [hnil.out]
              exact SliceR.nil _ _ _ _ _
            have hk3 : Hid (0 = (word.drop k).length) := by show _ = _; rw [hnil.out]; rfl
            subst hkw
            rcases ob with _ | ⟨b, off, spot⟩
            · by_cases hdk : d = word.length
              · subst hdk
                go_region_held3 (fun w' => w'.cell? ⟨w.heap.size, 0, none⟩ = some (.int .i64 S) ∧ w'.cell? ⟨w.heap.size, 1, none⟩ = some (.int .i64 L) ∧ w'.cell? ⟨w.heap.size, 2, none⟩ = some (.slice oa rs.length c)) (first | exact ⟨d0, d1, d2⟩)
                  (first | (go_at_call 41; refine (run_n oa c (none) (0) _ (hs.below rowR_ok (below_box hx3.drew)) hc hc2 (HNS.out _ _) hk3 (Nat.zero_le _) (Nat.zero_le _) HR2).mono ?_; rintro e w4 ⟨oa3, c3, rfl, hc3', hl3, hsl3, hb4⟩; have d0 := (hb4.cell (World.block_lt_of_cell? _ _ d0)).trans d0; have d1 := (hb4.cell (World.block_lt_of_cell? _ _ d1)).trans d1; have d2 := (hb4.cell (World.block_lt_of_cell? _ _ d2)).trans d2))
                all_goals
                  go_wp2_with fail
                  go_meet
                  exact ⟨oa3, c3, rfl, rfl, rfl, hc3', hl3, (hsl2.keep (w' := wc.drew) outR_ok (fun _ _ _ => rfl)).below outR_ok hb4, hsl3, below_then hbr2.drew hb4⟩
              · skip
                go_region_held3 (fun w' => w'.cell? ⟨w.heap.size, 0, none⟩ = some (.int .i64 S) ∧ w'.cell? ⟨w.heap.size, 1, none⟩ = some (.int .i64 L) ∧ w'.cell? ⟨w.heap.size, 2, none⟩ = some (.slice oa rs.length c)) (first | exact ⟨d0, d1, d2⟩)
                  (first | (go_at_call 41; refine (run_n oa c (none) (d - word.length) _ (hs.below rowR_ok (below_box hx3.drew)) hc hc2 (HNS.out _ _) hk3 (Nat.zero_le _) (Nat.zero_le _) HR2).mono ?_; rintro e w4 ⟨oa3, c3, rfl, hc3', hl3, hsl3, hb4⟩; have d0 := (hb4.cell (World.block_lt_of_cell? _ _ d0)).trans d0; have d1 := (hb4.cell (World.block_lt_of_cell? _ _ d1)).trans d1; have d2 := (hb4.cell (World.block_lt_of_cell? _ _ d2)).trans d2))
                all_goals
                  go_wp2_with fail
                  go_meet
                  exact ⟨oa3, c3, rfl, rfl, rfl, hc3', hl3, (hsl2.keep (w' := wc.drew) outR_ok (fun _ _ _ => rfl)).below outR_ok hb4, hsl3, below_then hbr2.drew hb4⟩
            · by_cases hdk : d = word.length
              · subst hdk
                go_region_held3 (fun w' => w'.cell? ⟨w.heap.size, 0, none⟩ = some (.int .i64 S) ∧ w'.cell? ⟨w.heap.size, 1, none⟩ = some (.int .i64 L) ∧ w'.cell? ⟨w.heap.size, 2, none⟩ = some (.slice oa rs.length c)) (first | exact ⟨d0, d1, d2⟩)
                  (first | (go_at_call 41; refine (run_n oa c (some ⟨b, off, spot⟩) (0) _ (hs.below rowR_ok (below_box hx3.drew)) hc hc2 (HNS.out _ _) hk3 (Nat.zero_le _) (Nat.zero_le _) HR2).mono ?_; rintro e w4 ⟨oa3, c3, rfl, hc3', hl3, hsl3, hb4⟩; have d0 := (hb4.cell (World.block_lt_of_cell? _ _ d0)).trans d0; have d1 := (hb4.cell (World.block_lt_of_cell? _ _ d1)).trans d1; have d2 := (hb4.cell (World.block_lt_of_cell? _ _ d2)).trans d2))
                all_goals
                  go_wp2_with fail
                  go_meet
                  exact ⟨oa3, c3, rfl, rfl, rfl, hc3', hl3, (hsl2.keep (w' := wc.drew) outR_ok (fun _ _ _ => rfl)).below outR_ok hb4, hsl3, below_then hbr2.drew hb4⟩
              · skip
                go_region_held3 (fun w' => w'.cell? ⟨w.heap.size, 0, none⟩ = some (.int .i64 S) ∧ w'.cell? ⟨w.heap.size, 1, none⟩ = some (.int .i64 L) ∧ w'.cell? ⟨w.heap.size, 2, none⟩ = some (.slice oa rs.length c)) (first | exact ⟨d0, d1, d2⟩)
                  (first | (go_at_call 41; refine (run_n oa c (some (Addr.add ⟨b, off, spot⟩ word.length)) (d - word.length) _ (hs.below rowR_ok (below_box hx3.drew)) hc hc2 (HNS.out _ _) hk3 (Nat.zero_le _) (Nat.zero_le _) HR2).mono ?_; rintro e w4 ⟨oa3, c3, rfl, hc3', hl3, hsl3, hb4⟩; have d0 := (hb4.cell (World.block_lt_of_cell? _ _ d0)).trans d0; have d1 := (hb4.cell (World.block_lt_of_cell? _ _ d1)).trans d1; have d2 := (hb4.cell (World.block_lt_of_cell? _ _ d2)).trans d2))
                all_goals
                  go_wp2_with fail
                  go_meet
                  exact ⟨oa3, c3, rfl, rfl, rfl, hc3', hl3, (hsl2.keep (w' := wc.drew) outR_ok (fun _ _ _ => rfl)).below outR_ok hb4, hsl3, below_then hbr2.drew hb4⟩
        case rest =>
          obtain ⟨oa3, c3, rfl, rfl, rfl, hc3', hl3, hslf, hslr, hbr3⟩ := hcut
          clear hsl2 d0 d1 d2 hx3 hbr2 HR2 hk2 hl2'
          go_wp2_with fail
          have hlit : SliceR (slcR outR 2) 1 All (wc.alloc (.cells #[.slice oa2 first.length c2, .slice oa3 rst.length c3] 56)) (some ⟨wc.heap.size, 0, none⟩) [first, rst] :=
            SliceR.lit (F := All) (slcR_ok outR_ok (by omega)) wc 56 [[.slice oa2 first.length c2], [.slice oa3 rst.length c3]] _ (fun i y hy => by
              match i, hy with
              | 0, hy => simp at hy; subst hy; exact ⟨_, rfl, oa2, c2, rfl, hc2', hl2, hslf⟩
              | 1, hy => simp at hy; subst hy; exact ⟨_, rfl, oa3, c3, rfl, hc3', hl3, hslr⟩) rfl (fun _ h => h) trivial
          refine (concat_any [first, rst] (some ⟨wc.heap.size, 0, none⟩) 2 All _ hlit (by simp) (by simp) (by have h1 := HUR.out.2; have h2 := HRS.out; simp [sumLen]; omega)).mono ?_
          rintro e w5 ⟨v, rfl, ho, hb5⟩
          obtain ⟨oa4, c4, rfl, hc4, hsl4⟩ := ho.slice outR_ok
          have hl4 := ho.bound
          have hbr4 := below_then (bnew hbr3 _) hb5
          clear ho hb5 hlit hslf hslr hbr3
          have hflat : [first, rst].flatten = (readSpec rs s word).2 := by rw [HAPP.out.2]; simp
          rw [hflat] at hsl4 hc4 hl4 ⊢
          clear hflat
          go_wp2_with fail
          refine (equalOut_any (readSpec rs s word).2 (readSpec rs s word).2 oa4 oa1 c4 c1 All _ (hsl4.all outR_ok (by omega)) ((hx1.below outR_ok hbr4).all outR_ok (by omega)) hc4 hl4).mono ?_
          rintro e w6 ⟨rfl, hb6⟩
          have hbr5 := below_then hbr4 hb6
          clear hb6 hbr4 hsl4
          go_wp2_with fail
          go_roundw
          case rel => exact ⟨k + 1, by omega, by go_num, hbr5⟩
          case measure => simp [intOf]; omega
    · go_wp2_with fail
      refine (awake_any _).mono ?_
      rintro e w5 ⟨rfl, hb5⟩
      go_wp2_with fail
      go_ret
      exact ⟨rfl, below_then (below_box (box_then hx (by simp) hbr)) hb5⟩

end Go.Proofs.Ytmjcjmljnliaoaa

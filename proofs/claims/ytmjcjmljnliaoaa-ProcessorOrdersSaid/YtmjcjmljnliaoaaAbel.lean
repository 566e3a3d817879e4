/-
  Abelian: the program and the reference.
-/
import Derived.Test.YtmjcjmljnliaoaaComm
set_option linter.unusedVariables false
namespace Go.Proofs.Ytmjcjmljnliaoaa
open Go.RowKit

/-- The first state and letters that do not commute. -/
def witB (f : Nat → Nat → Nat → Bool) (s a : Nat) : Nat → Nat → Option (Nat × Nat × Nat)
  | 0, _ => none
  | n + 1, b => if f s a b then witB f s a n (b + 1) else some (s, a, b)
def witA (f : Nat → Nat → Nat → Bool) (s L : Nat) : Nat → Nat → Option (Nat × Nat × Nat)
  | 0, _ => none
  | n + 1, a => (witB f s a L 0).or (witA f s L n (a + 1))
def witS (f : Nat → Nat → Nat → Bool) (L : Nat) : Nat → Nat → Option (Nat × Nat × Nat)
  | 0, _ => none
  | n + 1, s => (witA f s L L 0).or (witS f L n (s + 1))
def witL : Option (Nat × Nat × Nat) → List Int
  | none => []
  | some (s, a, b) => [(s : Int), (a : Int), (b : Int)]
theorem witB_good (f : Nat → Nat → Nat → Bool) (s a : Nat) {L b : Nat} (h : b < L) (hf : f s a b = true) : witB f s a (L - b) b = witB f s a (L - (b + 1)) (b + 1) := by
  rw [show L - b = (L - (b + 1)) + 1 from by omega, witB, if_pos hf]
theorem witB_bad (f : Nat → Nat → Nat → Bool) (s a : Nat) {L b : Nat} (h : b < L) (hf : f s a b = false) : witB f s a (L - b) b = some (s, a, b) := by
  rw [show L - b = (L - (b + 1)) + 1 from by omega, witB, if_neg (by simp [hf])]
theorem witA_step (f : Nat → Nat → Nat → Bool) (s : Nat) {L a : Nat} (h : a < L) : witA f s L (L - a) a = (witB f s a L 0).or (witA f s L (L - (a + 1)) (a + 1)) := by
  rw [show L - a = (L - (a + 1)) + 1 from by omega, witA]
theorem witS_step (f : Nat → Nat → Nat → Bool) (L : Nat) {S s : Nat} (h : s < S) : witS f L (S - s) s = (witA f s L (L - 0) 0).or (witS f L (S - (s + 1)) (s + 1)) := by
  rw [show S - s = (S - (s + 1)) + 1 from by omega, witS]
  rfl
def commN (rs : List (List Rul)) (s a b : Nat) : Bool := commB rs s a b
def abelRes (p : Prc) : Bool × List Int × Int :=
  if checkErr p 12 = 0 then ((witS (commN p.rules) p.letters.toNat p.states.toNat 0).isNone, witL (witS (commN p.rules) p.letters.toNat p.states.toNat 0), 0) else (false, [], checkErr p 12)
def AbelPost (w : World) (r : Bool × List Int × Int) (e : Ending) (w' : World) : Prop :=
  ∃ v, e = .returned (.tuple #[.bool r.1, v, .int .i64 r.2.2]) ∧ OwnS intR 1 w.heap.size 3 Non w' v r.2.1 ∧ Below w.heap.size w w'
def IntsPost (w : World) (r : List Int) (e : Ending) (w' : World) : Prop :=
  ∃ v, e = .returned v ∧ OwnS intR 1 w.heap.size 3 Non w' v r ∧ Below w.heap.size w w'
theorem belowN {k n : Nat} (h : k < n) : belowB (k : Int) (n : Int) = true := by simp [belowB]; omega
theorem i64_small {x : Int} (h : 0 ≤ x ∧ x ≤ 1000) : I64 x := by unfold I64; omega

set_option maxRecDepth 100000 in
set_option maxHeartbeats 1000000 in
theorem abelian_any {N : Nat} (HS : Hid (SortedUpto N)) (S L : Int) (rs : List (List Rul)) (oa : Option Addr) (c : Nat) (F : Foot) (w : World) (hs : SliceR (slcR ruleR 2) 1 F w oa rs) (hc : rs.length ≤ c) (hc2 : rs.length ≤ 9223372036854775807)
    (HN : Hid (checkErr ⟨S, L, rs⟩ 12 = 0 → ∀ s a b : Int, 0 ≤ s ∧ s < S → 0 ≤ a ∧ a < L → 0 ≤ b ∧ b < L → (readSpec rs s [a, b]).2.length ≤ N)) :
    Calls Try.prog 38 #[.agg #[.int .i64 S, .int .i64 L, .slice oa rs.length c]] w (AbelPost w (abelRes ⟨S, L, rs⟩)) := by
  go_enter Try.func38, Try.ntmps38
  go_wp2_with fail
  refine (check_any S L 12 rs oa c F _ (hs.below rowR_ok (bnew (Below.refl _ _) _)) hc hc2).mono ?_
  rintro e w2 ⟨rfl, hb2⟩
  have hx2 := hb2.mono (B' := w.heap.size + 1) (by simp)
  have d0 := box_cell hx2 0
  have d1 := box_cell hx2 1
  have d2 := box_cell hx2 2
  simp at d0 d1 d2
  clear hb2
  by_cases hz : checkErr ⟨S, L, rs⟩ 12 = 0
  case neg =>
    have hz1 := not_err hz
    have HZ : Hid (abelRes ⟨S, L, rs⟩ = (false, [], checkErr ⟨S, L, rs⟩ 12)) := by show _ = _; simp [abelRes, hz]
    clear hz
    go_wp2_with fail
    go_ret3
    exact ⟨_, by rw [HZ.out]; rfl, by rw [HZ.out]; exact OwnS.nil _ _ _ _ _ _, below_box hx2⟩
  have hz1 := is_err hz
  have HV := hide hz
  have hck := check_zero hz
  simp only at hck
  obtain ⟨S', rfl⟩ := Int.eq_ofNat_of_zero_le (show 0 ≤ S by omega)
  obtain ⟨L', rfl⟩ := Int.eq_ofNat_of_zero_le (show 0 ≤ L by omega)
  have hS16 : S' ≤ 16 := by omega
  have hL8 : L' ≤ 8 := by omega
  have HW : Hid (abelRes ⟨S', L', rs⟩ = ((witS (commN rs) L' S' 0).isNone, witL (witS (commN rs) L' S' 0), 0)) := by show _ = _; simp [abelRes, hz]
  clear hz hck hc hc2
  generalize hW : witS (commN rs) L' S' 0 = W at HW
  have HWW := hide hW
  clear hW
  go_wp2_with fail
  go_loopw [16] (fun i wr => ∃ k : Nat, k ≤ S' ∧ i = .int .i64 k ∧ Hid (W = witS (commN rs) L' (S' - k) k) ∧
      Below (w.heap.size + 1) (w.alloc (.cells #[.int .i64 S', .int .i64 L', .slice oa rs.length c] 47)) wr) (fun i _ => S' - (intOf i).toNat)
  case atStart => exact ⟨0, by omega, rfl, HWW.out.symm, hx2⟩
  case round =>
    clear hx2 d0 d1 d2
    obtain ⟨k, hk, rfl, HE, hb⟩ := hrel
    have d0 := box_cell hb 0
    have d1 := box_cell hb 1
    have d2 := box_cell hb 2
    simp at d0 d1 d2
    by_cases hlt : k < S'
    · have hltb : decide ((k : Int) < (S' : Int)) = true := by simp; omega
      have HE2 := hide (HE.out.trans (witS_step (commN rs) L' hlt))
      go_wp2_with fail
      obtain ⟨wo, rfl⟩ : ∃ wo : World, wo = wr := ⟨_, rfl⟩
      go_loopw [21] (fun i wr => ∃ j : Nat, j ≤ L' ∧ i = .int .i64 j ∧ Hid (W = (witA (commN rs) k L' (L' - j) j).or (witS (commN rs) L' (S' - (k + 1)) (k + 1))) ∧
        Below (w.heap.size + 1) (w.alloc (.cells #[.int .i64 S', .int .i64 L', .slice oa rs.length c] 47)) wr) (fun i _ => L' - (intOf i).toNat)
      case atStart => exact ⟨0, by omega, rfl, HE2, hb⟩
      case round =>
        clear hb d0 d1 d2
        obtain ⟨j, hj, rfl, HF, hb⟩ := hrel
        have d0 := box_cell hb 0
        have d1 := box_cell hb 1
        have d2 := box_cell hb 2
        simp at d0 d1 d2
        by_cases hlj : j < L'
        · have hljb : decide ((j : Int) < (L' : Int)) = true := by simp; omega
          have HF2 : Hid (W = ((witB (commN rs) k j (L' - 0) 0).or (witA (commN rs) k L' (L' - (j + 1)) (j + 1))).or (witS (commN rs) L' (S' - (k + 1)) (k + 1))) := by show _ = _; rw [HF.out, witA_step (commN rs) k hlj]; rfl
          go_wp2_with fail
          obtain ⟨wp, rfl⟩ : ∃ wp : World, wp = wr := ⟨_, rfl⟩
          go_loopw [26] (fun i wr => ∃ m : Nat, m ≤ L' ∧ i = .int .i64 m ∧ Hid (W = ((witB (commN rs) k j (L' - m) m).or (witA (commN rs) k L' (L' - (j + 1)) (j + 1))).or (witS (commN rs) L' (S' - (k + 1)) (k + 1))) ∧
            Below (w.heap.size + 1) (w.alloc (.cells #[.int .i64 S', .int .i64 L', .slice oa rs.length c] 47)) wr) (fun i _ => L' - (intOf i).toNat)
          case atStart => exact ⟨0, by omega, rfl, HF2, hb⟩
          case round =>
            clear hb d0 d1 d2
            obtain ⟨m, hm, rfl, HG, hb⟩ := hrel
            have d0 := box_cell hb 0
            have d1 := box_cell hb 1
            have d2 := box_cell hb 2
            simp at d0 d1 d2
            by_cases hlm : m < L'
            · have hlmb : decide ((m : Int) < (L' : Int)) = true := by simp; omega
              go_wp2_with fail
              refine (commute_any HS S' L' k j m rs oa c F _ (hs.below rowR_ok (below_box hb)) HV (by omega) (belowN hlj) (belowN hlm) (i64_small (by omega)) (i64_small (by omega)) (show _ ∧ _ from ⟨HN.out HV.out k j m (by omega) (by omega) (by omega), HN.out HV.out k m j (by omega) (by omega) (by omega)⟩)).mono ?_
              rintro e w5 ⟨rfl, hb5⟩
              have hb6 := box_then hb (by simp) hb5
              clear hb5 d0 d1 d2
              cases hcm : commB rs k j m
              · have HR : Hid (W = some (k, j, m)) := by
                  show _ = _
                  rw [HG.out, witB_bad (commN rs) k j hlm hcm]; rfl
                go_wp2_with fail
                go_ret3
                refine ⟨_, by rw [HW.out, HR.out]; rfl, ?_, bnew (below_box hb6) _⟩
                rw [HW.out, HR.out]
                have hI : ∀ x ∈ [(k : Int), (j : Int), (m : Int)], I64 x := by intro x hx; simp at hx; rcases hx with rfl | rfl | rfl <;> exact i64_small (by omega)
                exact (OwnS.ints w5 3 _ hI (by simp)).rebase (below_box hb6).size
              · go_wp2_with fail
                go_roundw
                case rel => exact ⟨m + 1, by omega, by go_num, by show _ = _; rw [HG.out, witB_good (commN rs) k j hlm hcm], hb6⟩
                case measure => simp [intOf]; omega
            · go_wp2_with fail
              go_roundw
              case rel =>
                refine ⟨j + 1, by omega, by go_num, ?_, hb⟩
                show _ = _
                have : L' - m = 0 := by omega
                rw [HG.out, this]; rfl
              case measure => simp [intOf]; omega
        · go_wp2_with fail
          go_roundw
          case rel =>
            refine ⟨k + 1, by omega, by go_num, ?_, hb⟩
            show _ = _
            have : L' - j = 0 := by omega
            rw [HF.out, this]; rfl
          case measure => simp [intOf]; omega
    · have HR : Hid (W = none) := by
        show _ = _
        have : S' - k = 0 := by omega
        rw [HE.out, this]; rfl
      go_wp2_with fail
      go_ret3
      exact ⟨_, by rw [HW.out, HR.out]; rfl, by rw [HW.out, HR.out]; exact OwnS.nil _ _ _ _ _ _, below_box hb⟩

set_option maxRecDepth 100000 in
set_option maxHeartbeats 1000000 in
theorem witness_any (S' L' : Nat) (rs : List (List Rul)) (oa : Option Addr) (c : Nat) (F : Foot) (w : World) (hs : SliceR (slcR ruleR 2) 1 F w oa rs) (HV : Hid (checkErr ⟨S', L', rs⟩ 12 = 0)) (hS16 : S' ≤ 16) (hL8 : L' ≤ 8) :
    Calls Try.prog 91 #[.agg #[.int .i64 S', .int .i64 L', .slice oa rs.length c]] w (IntsPost w (witL (witS (commN rs) L' S' 0))) := by
  generalize hW : witS (commN rs) L' S' 0 = W
  have HWW := hide hW
  clear hW
  go_enter Try.func91, Try.ntmps91
  go_wp2_with fail
  go_loopw [3] (fun i wr => ∃ k : Nat, k ≤ S' ∧ i = .int .i64 k ∧ Hid (W = witS (commN rs) L' (S' - k) k) ∧
      Below (w.heap.size + 1) (w.alloc (.cells #[.int .i64 S', .int .i64 L', .slice oa rs.length c] 47)) wr) (fun i _ => S' - (intOf i).toNat)
  case atStart => exact ⟨0, by omega, rfl, HWW.out.symm, box_refl _ _⟩
  case round =>
    obtain ⟨k, hk, rfl, HE, hb⟩ := hrel
    have d0 := box_cell hb 0
    have d1 := box_cell hb 1
    have d2 := box_cell hb 2
    simp at d0 d1 d2
    by_cases hlt : k < S'
    · have hltb : decide ((k : Int) < (S' : Int)) = true := by simp; omega
      have HE2 := hide (HE.out.trans (witS_step (commN rs) L' hlt))
      go_wp2_with fail
      obtain ⟨wo, rfl⟩ : ∃ wo : World, wo = wr := ⟨_, rfl⟩
      go_loopw [4] (fun i wr => ∃ j : Nat, j ≤ L' ∧ i = .int .i64 j ∧ Hid (W = (witA (commN rs) k L' (L' - j) j).or (witS (commN rs) L' (S' - (k + 1)) (k + 1))) ∧
        Below (w.heap.size + 1) (w.alloc (.cells #[.int .i64 S', .int .i64 L', .slice oa rs.length c] 47)) wr) (fun i _ => L' - (intOf i).toNat)
      case atStart => exact ⟨0, by omega, rfl, HE2, hb⟩
      case round =>
        clear hb d0 d1 d2
        obtain ⟨j, hj, rfl, HF, hb⟩ := hrel
        have d0 := box_cell hb 0
        have d1 := box_cell hb 1
        have d2 := box_cell hb 2
        simp at d0 d1 d2
        by_cases hlj : j < L'
        · have hljb : decide ((j : Int) < (L' : Int)) = true := by simp; omega
          have HF2 : Hid (W = ((witB (commN rs) k j (L' - 0) 0).or (witA (commN rs) k L' (L' - (j + 1)) (j + 1))).or (witS (commN rs) L' (S' - (k + 1)) (k + 1))) := by show _ = _; rw [HF.out, witA_step (commN rs) k hlj]; rfl
          go_wp2_with fail
          obtain ⟨wp, rfl⟩ : ∃ wp : World, wp = wr := ⟨_, rfl⟩
          go_loopw [5] (fun i wr => ∃ m : Nat, m ≤ L' ∧ i = .int .i64 m ∧ Hid (W = ((witB (commN rs) k j (L' - m) m).or (witA (commN rs) k L' (L' - (j + 1)) (j + 1))).or (witS (commN rs) L' (S' - (k + 1)) (k + 1))) ∧
            Below (w.heap.size + 1) (w.alloc (.cells #[.int .i64 S', .int .i64 L', .slice oa rs.length c] 47)) wr) (fun i _ => L' - (intOf i).toNat)
          case atStart => exact ⟨0, by omega, rfl, HF2, hb⟩
          case round =>
            clear hb d0 d1 d2
            obtain ⟨m, hm, rfl, HG, hb⟩ := hrel
            have d0 := box_cell hb 0
            have d1 := box_cell hb 1
            have d2 := box_cell hb 2
            simp at d0 d1 d2
            by_cases hlm : m < L'
            · have hlmb : decide ((m : Int) < (L' : Int)) = true := by simp; omega
              go_wp2_with fail
              refine (commuting_any S' L' k j m rs oa c F _ (hs.below rowR_ok (below_box hb)) HV (by omega) (belowN hlj) (belowN hlm) (i64_small (by omega)) (i64_small (by omega))).mono ?_
              rintro e w5 ⟨rfl, hb5⟩
              have hb6 := box_then hb (by simp) hb5
              clear hb5 d0 d1 d2
              cases hcm : commB rs k j m
              · have HR : Hid (W = some (k, j, m)) := by
                  show _ = _
                  rw [HG.out, witB_bad (commN rs) k j hlm hcm]; rfl
                go_wp2_with fail
                go_ret
                refine ⟨_, rfl, ?_, bnew (below_box hb6) _⟩
                rw [HR.out]
                have hI : ∀ x ∈ [(k : Int), (j : Int), (m : Int)], I64 x := by intro x hx; simp at hx; rcases hx with rfl | rfl | rfl <;> exact i64_small (by omega)
                exact (OwnS.ints w5 3 _ hI (by simp)).rebase (below_box hb6).size
              · go_wp2_with fail
                go_roundw
                case rel => exact ⟨m + 1, by omega, by go_num, by show _ = _; rw [HG.out, witB_good (commN rs) k j hlm hcm], hb6⟩
                case measure => simp [intOf]; omega
            · go_wp2_with fail
              go_roundw
              case rel =>
                refine ⟨j + 1, by omega, by go_num, ?_, hb⟩
                show _ = _
                have : L' - m = 0 := by omega
                rw [HG.out, this]; rfl
              case measure => simp [intOf]; omega
        · go_wp2_with fail
          go_roundw
          case rel =>
            refine ⟨k + 1, by omega, by go_num, ?_, hb⟩
            show _ = _
            have : L' - j = 0 := by omega
            rw [HF.out, this]; rfl
          case measure => simp [intOf]; omega
    · have HR : Hid (W = none) := by
        show _ = _
        have : S' - k = 0 := by omega
        rw [HE.out, this]; rfl
      go_wp2_with fail
      go_ret
      exact ⟨_, rfl, by rw [HR.out]; exact OwnS.nil _ _ _ _ _ _, below_box hb⟩

set_option maxRecDepth 100000 in
set_option maxHeartbeats 1000000 in
theorem rabelian_any (S L : Int) (rs : List (List Rul)) (oa : Option Addr) (c : Nat) (F : Foot) (w : World) (hs : SliceR (slcR ruleR 2) 1 F w oa rs) (hc : rs.length ≤ c) (hc2 : rs.length ≤ 9223372036854775807) :
    Calls Try.prog 39 #[.agg #[.int .i64 S, .int .i64 L, .slice oa rs.length c]] w (AbelPost w (abelRes ⟨S, L, rs⟩)) := by
  go_enter Try.func39, Try.ntmps39
  go_wp2_with fail
  refine (rcheck_any S L 12 rs oa c F _ (hs.below rowR_ok (bnew (Below.refl _ _) _)) hc hc2).mono ?_
  rintro e w2 ⟨rfl, hb2⟩
  have hx2 := hb2.mono (B' := w.heap.size + 1) (by simp)
  have d0 := box_cell hx2 0
  have d1 := box_cell hx2 1
  have d2 := box_cell hx2 2
  simp at d0 d1 d2
  clear hb2
  by_cases hz : checkErr ⟨S, L, rs⟩ 12 = 0
  case neg =>
    have hz1 := not_err hz
    have HZ : Hid (abelRes ⟨S, L, rs⟩ = (false, [], checkErr ⟨S, L, rs⟩ 12)) := by show _ = _; simp [abelRes, hz]
    clear hz
    go_wp2_with fail
    go_ret3
    exact ⟨_, by rw [HZ.out]; rfl, by rw [HZ.out]; exact OwnS.nil _ _ _ _ _ _, below_box hx2⟩
  have hz1 := is_err hz
  have HV := hide hz
  have hck := check_zero hz
  simp only at hck
  obtain ⟨S', rfl⟩ := Int.eq_ofNat_of_zero_le (show 0 ≤ S by omega)
  obtain ⟨L', rfl⟩ := Int.eq_ofNat_of_zero_le (show 0 ≤ L by omega)
  have hS16 : S' ≤ 16 := by omega
  have hL8 : L' ≤ 8 := by omega
  have HW : Hid (abelRes ⟨S', L', rs⟩ = ((witS (commN rs) L' S' 0).isNone, witL (witS (commN rs) L' S' 0), 0)) := by show _ = _; simp [abelRes, hz]
  clear hz hck hc hc2
  generalize hW : witS (commN rs) L' S' 0 = W at HW
  have HWW := hide hW
  clear hW
  go_wp2_with fail
  refine (witness_any S' L' rs oa c F _ (hs.below rowR_ok (below_box hx2)) HV hS16 hL8).mono ?_
  rintro e w3 ⟨v, rfl, ho, hb3⟩
  have hx3 := below_box (box_then hx2 (by simp) hb3)
  rw [HWW.out] at ho
  obtain ⟨oa3, c3, rfl, hc3, hsl3⟩ := ho.slice intR_ok
  cases W with
  | none =>
    go_wp2_with fail
    go_ret3
    exact ⟨_, by rw [HW.out]; rfl, by rw [HW.out]; exact ho.rebase (below_box hx2).size, hx3⟩
  | some x =>
    obtain ⟨s, a, b⟩ := x
    go_wp2_with fail
    go_ret3
    exact ⟨_, by rw [HW.out]; rfl, by rw [HW.out]; exact ho.rebase (below_box hx2).size, hx3⟩

end Go.Proofs.Ytmjcjmljnliaoaa

/-
  Many: the program.
-/
import Derived.Test.YtmjcjmljnliaoaaCounted
import Derived.Test.YtmjcjmljnliaoaaStab
set_option linter.unusedVariables false
namespace Go.Proofs.Ytmjcjmljnliaoaa
open Go.RowKit

def manyRes (p : Prc) (s : Int) (l : List Int) : Int × List Out × Int :=
  if stateErr p s = 0 then (if manyErr p.letters l = 0 then ((readSpec p.rules s (wordFrom 0 l)).1, isort (readSpec p.rules s (wordFrom 0 l)).2, 0) else (0, [], manyErr p.letters l)) else (0, [], stateErr p s)

theorem wordFrom_letters : ∀ (l : List Int) (k : Nat) (L : Int), (k : Int) + l.length ≤ L → ∀ a ∈ wordFrom k l, 0 ≤ a ∧ a < L
  | [], _, _, _, a, ha => by simp [wordFrom] at ha
  | n :: r, k, L, h, a, ha => by
    simp only [wordFrom, List.mem_append] at ha
    simp at h
    rcases ha with ha | ha
    · rw [List.eq_of_mem_replicate ha]; omega
    · exact wordFrom_letters r (k + 1) L (by simp; omega) a ha
theorem letters_mem {L : Int} : ∀ {l : List Int}, (∀ a ∈ l, 0 ≤ a ∧ a < L) → lettersErr L l = 0
  | [], _ => rfl
  | a :: r, h => by
    have h1 := h a (by simp)
    have h2 : belowB a L = true := by simp [belowB]; omega
    simp only [lettersErr, h2]
    exact letters_mem fun x hx => h x (by simp [hx])

set_option maxRecDepth 100000 in
set_option maxHeartbeats 2000000 in
theorem many_any (S L s : Int) (rs : List (List Rul)) (oa : Option Addr) (c : Nat) (l : List Int) (ob : Option Addr) (d : Nat) (w : World) (hs : SliceR (slcR ruleR 2) 1 All w oa rs) (hc : rs.length ≤ c) (hc2 : rs.length ≤ 9223372036854775807)
    (hw : SliceR intR 1 All w ob l) (hd : l.length ≤ d) (hd2 : l.length ≤ 1000000) :
    Calls Try.prog 48 #[.agg #[.int .i64 S, .int .i64 L, .slice oa rs.length c], .int .i64 s, .slice ob l.length d] w (OutsPost w (manyRes ⟨S, L, rs⟩ s l)) := by
  have HSR := hide sorted_any
  go_enter Try.func48, Try.ntmps48
  go_wp2_with fail
  refine (state_any S L s rs oa c All _ (hs.below rowR_ok (bnew (Below.refl _ _) _)) hc hc2).mono ?_
  rintro e w2 ⟨rfl, hb2⟩
  have hx2 := hb2.mono (B' := w.heap.size + 1) (by simp)
  have d0 := box_cell hx2 0
  have d1 := box_cell hx2 1
  have d2 := box_cell hx2 2
  simp at d0 d1 d2
  clear hb2
  by_cases hz : stateErr ⟨S, L, rs⟩ s = 0
  case neg =>
    have hz1 := not_err hz
    have HZ : Hid (manyRes ⟨S, L, rs⟩ s l = (0, [], stateErr ⟨S, L, rs⟩ s)) := by show _ = _; simp [manyRes, hz]
    clear hz
    go_wp2_with fail
    go_ret3
    exact ⟨_, by rw [HZ.out]; rfl, by rw [HZ.out]; exact OwnS.nil _ _ _ _ _ _, below_box hx2⟩
  have hz1 := is_err hz
  have HZ := hide hz
  clear hz
  have HST := state_zero HZ.out
  have HV := hide HST.1
  have HSS := hide HST.2
  have hL1 : 1 ≤ L ∧ L ≤ 8 := by have h := check_zero HST.1; simp at h; omega
  clear HST
  by_cases hL : (l.length : Int) = L
  case neg =>
    have hq : ((l.length : Int) != L) = true := by simp [hL]
    have HR : Hid (manyRes ⟨S, L, rs⟩ s l = (0, [], 8)) := by show _ = _; simp [manyRes, manyErr, hL, HZ.out]
    clear hL
    go_wp2_with fail
    go_ret3
    exact ⟨_, by rw [HR.out]; rfl, by rw [HR.out]; exact OwnS.nil _ _ _ _ _ _, below_box hx2⟩
  have hq : ((l.length : Int) != L) = false := by simp [hL]
  have HL := hide hL
  have hlpos : 0 < l.length := by omega
  clear hL hL1
  go_wp2_with fail
  refine (min_any l ob d All _ (hw.below intR_ok (below_box hx2)) hd (by omega) hlpos).mono ?_
  rintro e w' ⟨mn, rfl, hmn, rfl⟩
  cases hneg : negB l with
  | true =>
    rw [hneg] at hmn
    have HR : Hid (manyRes ⟨S, L, rs⟩ s l = (0, [], 2)) := by show _ = _; simp [manyRes, manyErr, HL.out, HZ.out, hneg]
    go_wp2_with fail
    go_ret3
    exact ⟨_, by rw [HR.out]; rfl, by rw [HR.out]; exact OwnS.nil _ _ _ _ _ _, below_box hx2⟩
  | false =>
  rw [hneg] at hmn
  have HNEG := hide hneg
  clear hneg
  go_wp2_with fail
  go_loopw [10, 31] (fun v i wr => ∃ (k : Nat) (out : List Int), k ≤ l.length ∧ i = .int .i64 k ∧ out.length ≤ 256 ∧ Hid (wordFrom 0 l = out ++ wordFrom k (l.drop k)) ∧ OwnS intR 1 (w.heap.size + 1) 3 Non wr v out ∧ Below (w.heap.size + 1) (w.alloc (.cells #[.int .i64 S, .int .i64 L, .slice oa rs.length c] 47)) wr) (fun _ i _ => l.length - (intOf i).toNat)
  case atStart => exact ⟨0, [], by omega, rfl, by simp, rfl, OwnS.nil _ _ _ _ _ _, hx2⟩
  case round =>
    obtain ⟨k, out, hk, rfl, hout, HW, hown, hbw⟩ := hrel
    obtain ⟨ow, cw, rfl, hcw, hslw⟩ := hown.slice intR_ok
    by_cases hlt : k < l.length
    · obtain ⟨x, hd', hget, ix, b, off, hoa, _, cx⟩ := (hw.below intR_ok (below_box hbw)).int_at hlt
      have hoa' := hoa
      subst hoa'
      have hx0 := negB_at HNEG.out hget
      obtain ⟨n, rfl⟩ := Int.eq_ofNat_of_zero_le hx0
      have HX : Hid (wordFrom 0 l = (out ++ List.replicate n (k : Int)) ++ wordFrom (k + 1) (l.drop (k + 1))) := by
        show _ = _
        rw [HW.out, hd', wordFrom, List.append_assoc]
        simp
      clear hd' hget hoa HW hx0
      by_cases hbig : 256 < n + out.length
      · have HR : Hid (manyRes ⟨S, L, rs⟩ s l = (0, [], 5)) := by
          have h1 : 256 < (wordFrom 0 l).length := by rw [HX.out]; simp; omega
          show _ = _; simp [manyRes, manyErr, HL.out, HZ.out, HNEG.out, h1]
        have hgt : (256 : Int) - out.length < n := by omega
        go_wp2_with fail
        go_ret3
        exact ⟨_, by rw [HR.out]; rfl, by rw [HR.out]; exact OwnS.nil _ _ _ _ _ _, below_box hbw⟩
      · have hgt : ¬ (256 : Int) - out.length < n := by omega
        have hk2 : k ≤ 1000000 := by omega
        go_wp2_with fail
        refine (repeat_any (k : Int) n 1 (some ⟨wr.heap.size, 0, none⟩) All _ (by unfold I64; omega) (by omega) (one_int (by unfold I64; omega) trivial)).mono ?_
        rintro e w3 ⟨v3, rfl, ho3, hb3⟩
        generalize hrp : List.replicate n (k : Int) = rp at ho3 HX
        have hrl : rp.length = n := by rw [← hrp]; simp
        clear hrp
        have HRL := hide hrl
        clear hrl
        obtain ⟨oa3, c3, rfl, hc3, hsl3⟩ := ho3.slice intR_ok
        have hown2 := (hown.new intR_ok (.cells #[.int .i64 (k : Int)] 3)).below intR_ok hb3
        have hbw2 := box_then (box_new hbw (by simp) (.cells #[.int .i64 (k : Int)] 3)) (by simp) hb3
        have hbsz : w.heap.size + 1 ≤ w3.heap.size := by have := hbw2.size; simp at this; omega
        clear ho3 hb3 hown hbw hslw
        go_wp2_with (at_builtin; refine wpList_append_rep rfl (.tmp 41) (.tmp 45) 22 rfl (w.heap.size + 1) 3 _ 1 8 Try.underlying22 intInfo rfl (by decide) intR_ok Non _ (.slice ow out.length cw) out rfl hown2 oa3 c3 rp rfl hsl3 (fun _ _ h => h) (fun _ h => h.elim) (by rw [HRL.out]; omega) (by rw [HRL.out]; omega) hbsz ?_; intro v' w4 ho hb1 hg)
        go_roundw
        case rel =>
          refine ⟨k + 1, out ++ rp, by omega, by go_num, by have := HRL.out; simp; omega, HX, ho, hbw2.trans hb1⟩
        case measure => simp [intOf]; omega
    · have HWW : Hid (wordFrom 0 l = out) := by
        show _ = _
        rw [HW.out, List.drop_eq_nil_of_le (by omega), wordFrom, List.append_nil]
      clear HW
      have HR : Hid (manyRes ⟨S, L, rs⟩ s l = ((readSpec rs s out).1, isort (readSpec rs s out).2, 0)) := by
        have h1 : ¬ 256 < (wordFrom 0 l).length := by rw [HWW.out]; omega
        have h2 : manyErr L l = 0 := by simp [manyErr, HL.out, HNEG.out]; omega
        show _ = _; simp only [manyRes, HZ.out, h2, HWW.out]; rfl
      have HLT : Hid (lettersErr L out = 0) := by
        show _ = _
        rw [← HWW.out]
        exact letters_mem (wordFrom_letters l 0 L (by have := HL.out; simp; omega))
      have d0 := box_cell hbw 0
      have d1 := box_cell hbw 1
      have d2 := box_cell hbw 2
      simp at d0 d1 d2
      clear hown
      go_wp2_with fail
      refine (read_any S L rs oa c s out ow cw All _ _ (hs.below rowR_ok (below_box hbw)) hslw HV HSS.out HLT (by omega)).mono ?_
      rintro e w4 ⟨v, rfl, ho, hb4⟩
      have HRD := hide (readSpec_right HV.out out s HSS.out HLT.out)
      obtain ⟨oo, co, rfl, hco, hslo⟩ := ho.slice outR_ok
      have hbw2 := box_then hbw (by simp) hb4
      clear ho hb4 hslw
      generalize readSpec rs s out = rd at *
      go_wp2_with fail
      refine (HSR.out rd.2 oo co _ _ hslo hco (by have := HRD.out.2.1; omega)).mono ?_
      rintro e w5 ⟨v5, rfl, ho5, hb5⟩
      go_wp2_with fail
      go_ret3
      exact ⟨v5, by rw [HR.out]; rfl, by rw [HR.out]; exact ho5.rebase (below_box hbw2).size, below_then (below_box hbw2) hb5⟩

end Go.Proofs.Ytmjcjmljnliaoaa

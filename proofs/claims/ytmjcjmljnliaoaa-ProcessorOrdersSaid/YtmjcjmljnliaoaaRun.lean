/-
  Run: the program and the reference.
-/
import Derived.Test.YtmjcjmljnliaoaaRead
import Derived.Test.YtmjcjmljnliaoaaPc5
import Derived.Test.YtmjcjmljnliaoaaPc6
import Derived.Test.YtmjcjmljnliaoaaPc7
set_option linter.unusedVariables false
namespace Go.Proofs.Ytmjcjmljnliaoaa
open Go.RowKit

theorem one_int {F : Foot} {w : World} {a : Int} (ha : I64 a) (hF : F w.heap.size) : SliceR intR 1 F (w.alloc (.cells #[.int .i64 a] 3)) (some ⟨w.heap.size, 0, none⟩) [a] := by
  intro i x hx
  match i, hx with
  | 0, hx =>
    simp at hx
    subst hx
    refine ⟨w.heap.size, 0, [.int .i64 a], rfl, hF, ⟨rfl, ha⟩, fun j u hu => ?_⟩
    match j, hu with
    | 0, hu =>
      simp at hu
      subst hu
      exact cell_of_row (w.alloc (.cells #[.int .i64 a] 3)) w.heap.size 0 _ _ _ (heap_alloc_new w _)

def runRes (p : Prc) (s : Int) (word : List Int) : Int × List Out × Int :=
  if stateErr p s = 0 then (if rlettersErr p.letters word = 0 then ((readSpec p.rules s word).1, (readSpec p.rules s word).2, 0) else (0, [], rlettersErr p.letters word)) else (0, [], stateErr p s)
def stepRes (p : Prc) (s a : Int) : Int × List Out × Int :=
  if stateErr p s = 0 then (if belowB a p.letters then ((readSpec p.rules s [a]).1, (readSpec p.rules s [a]).2, 0) else (0, [], 2)) else (0, [], stateErr p s)

theorem state_zero {p : Prc} {s : Int} (h : stateErr p s = 0) : checkErr p 12 = 0 ∧ 0 ≤ s ∧ s < p.states := by
  unfold stateErr at h
  split at h
  · split at h
    · rename_i hx
      simp [belowB] at hx
      exact ⟨by assumption, hx⟩
    · cases h
  · rename_i hx; exact absurd h hx
theorem rletters_zero {L : Int} {l : List Int} (h : rlettersErr L l = 0) : l.length ≤ 256 ∧ lettersErr L l = 0 := by
  unfold rlettersErr at h
  split at h
  · cases h
  · exact ⟨by omega, h⟩

def OutsPost (w : World) (r : Int × List Out × Int) (e : Ending) (w' : World) : Prop :=
  ∃ v, e = .returned (.tuple #[.int .i64 r.1, v, .int .i64 r.2.2]) ∧ OwnS outR 2 w.heap.size 80 Non w' v r.2.1 ∧ Below w.heap.size w w'

set_option maxHeartbeats 1000000 in
theorem run_any (S L s : Int) (rs : List (List Rul)) (oa : Option Addr) (c : Nat) (word : List Int) (ob : Option Addr) (d : Nat) (F G : Foot) (w : World) (hs : SliceR (slcR ruleR 2) 1 F w oa rs) (hc : rs.length ≤ c) (hc2 : rs.length ≤ 9223372036854775807)
    (hw : SliceR intR 1 G w ob word) (hd : word.length ≤ d) (hd2 : word.length ≤ 9223372036854775807) :
    Calls Try.prog 41 #[.agg #[.int .i64 S, .int .i64 L, .slice oa rs.length c], .int .i64 s, .slice ob word.length d] w (OutsPost w (runRes ⟨S, L, rs⟩ s word)) := by
  go_enter Try.func41, Try.ntmps41
  go_wp2_with fail
  refine (state_any S L s rs oa c F _ (hs.below rowR_ok (bnew (Below.refl _ _) _)) hc hc2).mono ?_
  rintro e w2 ⟨rfl, hb2⟩
  have hx2 := hb2.mono (B' := w.heap.size + 1) (by simp)
  have d0 := box_cell hx2 0
  have d1 := box_cell hx2 1
  have d2 := box_cell hx2 2
  simp at d0 d1 d2
  clear hb2
  by_cases hz : stateErr ⟨S, L, rs⟩ s = 0
  case neg =>
    have hz1 := not_err hz
    have HZ : Hid (runRes ⟨S, L, rs⟩ s word = (0, [], stateErr ⟨S, L, rs⟩ s)) := by show _ = _; simp [runRes, hz]
    clear hz
    go_wp2_with fail
    go_ret3
    exact ⟨_, by rw [HZ.out]; rfl, by rw [HZ.out]; exact OwnS.nil _ _ _ _ _ _, below_box hx2⟩
  have hz1 := is_err hz
  have HZ := hide hz
  clear hz
  by_cases hbig : 256 < word.length
  · have HR : Hid (runRes ⟨S, L, rs⟩ s word = (0, [], 5)) := by show _ = _; simp [runRes, HZ.out, rlettersErr, hbig]
    go_wp2_with fail
    go_ret3
    exact ⟨_, by rw [HR.out]; rfl, by rw [HR.out]; exact OwnS.nil _ _ _ _ _ _, below_box hx2⟩
  have hsm : word.length ≤ 256 := by omega
  go_wp2_with fail
  refine (letters_any S L oa rs.length c word ob d G _ (hw.below intR_ok (below_box hx2)) hd hd2 below_any).mono ?_
  rintro e w3 ⟨rfl, hb3⟩
  have hx3 := box_then hx2 (by simp) hb3
  have e0 := box_cell hx3 0
  have e1 := box_cell hx3 1
  have e2 := box_cell hx3 2
  simp at e0 e1 e2
  clear hb3 d0 d1 d2
  by_cases hz : lettersErr L word = 0
  case neg =>
    have hz2 := not_err hz
    have HR : Hid (runRes ⟨S, L, rs⟩ s word = (0, [], lettersErr L word)) := by show _ = _; simp [runRes, HZ.out, rlettersErr, hbig, hz]
    clear hz
    go_wp2_with fail
    go_ret3
    exact ⟨_, by rw [HR.out]; rfl, by rw [HR.out]; exact OwnS.nil _ _ _ _ _ _, below_box hx3⟩
  have hz2 := is_err hz
  have HL := hide hz
  have HR : Hid (runRes ⟨S, L, rs⟩ s word = ((readSpec rs s word).1, (readSpec rs s word).2, 0)) := by show _ = _; simp [runRes, HZ.out, rlettersErr, hbig, hz]
  clear hz
  have HST := state_zero HZ.out
  have HV := hide HST.1
  have HSS := hide HST.2
  clear HST
  go_wp2_with fail
  refine (read_any S L rs oa c s word ob d F G _ (hs.below rowR_ok (below_box hx3)) (hw.below intR_ok (below_box hx3)) HV HSS.out HL (by omega)).mono ?_
  rintro e w4 ⟨v, rfl, ho, hb4⟩
  go_wp2_with fail
  go_ret3
  refine ⟨v, by rw [HR.out]; rfl, by rw [HR.out]; exact ho.rebase (below_box hx3).size, below_box (box_then hx3 (by simp) hb4)⟩

set_option maxHeartbeats 1000000 in
theorem rrun_any (S L s : Int) (rs : List (List Rul)) (oa : Option Addr) (c : Nat) (word : List Int) (ob : Option Addr) (d : Nat) (F G : Foot) (w : World) (hs : SliceR (slcR ruleR 2) 1 F w oa rs) (hc : rs.length ≤ c) (hc2 : rs.length ≤ 9223372036854775807)
    (hw : SliceR intR 1 G w ob word) (hd : word.length ≤ d) (hd2 : word.length ≤ 9223372036854775807) :
    Calls Try.prog 42 #[.agg #[.int .i64 S, .int .i64 L, .slice oa rs.length c], .int .i64 s, .slice ob word.length d] w (OutsPost w (runRes ⟨S, L, rs⟩ s word)) := by
  go_enter Try.func42, Try.ntmps42
  go_wp2_with fail
  refine (rstate_any S L s rs oa c F _ (hs.below rowR_ok (bnew (Below.refl _ _) _)) hc hc2).mono ?_
  rintro e w2 ⟨rfl, hb2⟩
  have hx2 := hb2.mono (B' := w.heap.size + 1) (by simp)
  have d0 := box_cell hx2 0
  have d1 := box_cell hx2 1
  have d2 := box_cell hx2 2
  simp at d0 d1 d2
  clear hb2
  by_cases hz : stateErr ⟨S, L, rs⟩ s = 0
  case neg =>
    have hz1 := not_err hz
    have HZ : Hid (runRes ⟨S, L, rs⟩ s word = (0, [], stateErr ⟨S, L, rs⟩ s)) := by show _ = _; simp [runRes, hz]
    clear hz
    go_wp2_with fail
    go_ret3
    exact ⟨_, by rw [HZ.out]; rfl, by rw [HZ.out]; exact OwnS.nil _ _ _ _ _ _, below_box hx2⟩
  have hz1 := is_err hz
  have HZ := hide hz
  clear hz
  go_wp2_with fail
  refine (rletters_any S L oa rs.length c word ob d G _ (hw.below intR_ok (below_box hx2)) hd hd2).mono ?_
  rintro e w3 ⟨rfl, hb3⟩
  have hx3 := box_then hx2 (by simp) hb3
  have e0 := box_cell hx3 0
  have e1 := box_cell hx3 1
  have e2 := box_cell hx3 2
  simp at e0 e1 e2
  clear hb3 d0 d1 d2
  by_cases hz : rlettersErr L word = 0
  case neg =>
    have hz2 := not_err hz
    have HR : Hid (runRes ⟨S, L, rs⟩ s word = (0, [], rlettersErr L word)) := by show _ = _; simp [runRes, HZ.out, hz]
    clear hz
    go_wp2_with fail
    go_ret3
    exact ⟨_, by rw [HR.out]; rfl, by rw [HR.out]; exact OwnS.nil _ _ _ _ _ _, below_box hx3⟩
  have hz2 := is_err hz
  have HL := hide (rletters_zero hz).2
  have hlen := (rletters_zero hz).1
  have HR : Hid (runRes ⟨S, L, rs⟩ s word = ((readSpec rs s word).1, (readSpec rs s word).2, 0)) := by show _ = _; simp [runRes, HZ.out, hz]
  clear hz
  have HST := state_zero HZ.out
  have HV := hide HST.1
  have HSS := hide HST.2
  clear HST
  go_wp2_with fail
  refine (rread_any S L rs oa c s word ob d F G _ (hs.below rowR_ok (below_box hx3)) (hw.below intR_ok (below_box hx3)) HV HSS.out HL (by omega)).mono ?_
  rintro e w4 ⟨v, rfl, ho, hb4⟩
  go_wp2_with fail
  go_ret3
  refine ⟨v, by rw [HR.out]; rfl, by rw [HR.out]; exact ho.rebase (below_box hx3).size, below_box (box_then hx3 (by simp) hb4)⟩

end Go.Proofs.Ytmjcjmljnliaoaa

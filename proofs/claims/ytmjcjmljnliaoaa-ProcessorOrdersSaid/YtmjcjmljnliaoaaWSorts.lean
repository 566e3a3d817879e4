/-
  The walk of ProcessorSorts.
-/
import Derived.Test.YtmjcjmljnliaoaaStab
import Derived.Test.YtmjcjmljnliaoaaWRuns
set_option linter.unusedVariables false
namespace Go.Proofs.Ytmjcjmljnliaoaa
open Go.RowKit

def sortRes (l : List Out) : List Out × Int := if 4096 < l.length then ([], 5) else if sentErr 12 l = 0 then (isort l, 0) else ([], sentErr 12 l)
theorem sent_zero {N : Int} {l : List Out} (h : sentErr N l = 0) : ∀ o ∈ l, (0 ≤ o.to ∧ o.to < N) ∧ 0 ≤ o.letter ∧ o.letter < 8 := by
  induction l with
  | nil => intro o ho; simp at ho
  | cons x r ih =>
    unfold sentErr at h
    split at h
    · rename_i hx
      intro o ho
      rcases List.mem_cons.1 ho with rfl | ho
      · simp [belowB] at hx; omega
      · exact ih h o ho
    · cases h

def ListPost (w : World) (r : List Out × Int) (e : Ending) (w' : World) : Prop :=
  ∃ v, e = .returned (.tuple #[v, .int .i64 r.2]) ∧ OwnS outR 2 w.heap.size 80 Non w' v r.1 ∧ Below w.heap.size w w'

set_option maxHeartbeats 400000 in
theorem psorted_any (l : List Out) (oa : Option Addr) (c : Nat) (F : Foot) (w : World) (hs : SliceR outR 2 F w oa l) (hc : l.length ≤ c) (hc2 : l.length ≤ 9223372036854775807) :
    Calls Try.prog 33 #[.slice oa l.length c] w (ListPost w (sortRes l)) := by
  by_cases h1 : 4096 < l.length
  · have HR : Hid (sortRes l = ([], 5)) := by show _ = _; simp [sortRes, h1]
    go_enter Try.func33, Try.ntmps33
    go_wp2_with fail
    go_ret2
    exact ⟨_, by rw [HR.out]; rfl, by rw [HR.out]; exact OwnS.nil _ _ _ _ _ _, Below.refl _ _⟩
  have HS := hide sorted_any
  go_enter Try.func33, Try.ntmps33
  go_wp2_with fail
  refine (sent_any l 12 oa c F w hs hc hc2).mono ?_
  rintro e w2 ⟨rfl, hb2⟩
  by_cases hz : sentErr 12 l = 0
  case neg =>
    have HR : Hid (sortRes l = ([], sentErr 12 l)) := by show _ = _; simp [sortRes, h1, hz]
    have hz1 := not_err hz
    clear hz
    go_wp2_with fail
    go_ret2
    exact ⟨_, by rw [HR.out]; rfl, by rw [HR.out]; exact OwnS.nil _ _ _ _ _ _, hb2⟩
  have HR : Hid (sortRes l = (isort l, 0)) := by show _ = _; simp [sortRes, h1, hz]
  have hz1 := is_err hz
  clear hz
  go_wp2_with fail
  refine (HS.out l oa c F w2 (hs.below outR_ok hb2) hc (by omega)).mono ?_
  rintro e w3 ⟨v, rfl, ho, hb3⟩
  go_wp2_with fail
  go_ret2
  exact ⟨v, by rw [HR.out]; rfl, by rw [HR.out]; exact ho.rebase hb2.size, below_then hb2 hb3⟩

set_option maxHeartbeats 400000 in
theorem rsorted_any (l : List Out) (oa : Option Addr) (c : Nat) (F : Foot) (w : World) (hs : SliceR outR 2 F w oa l) (hc : l.length ≤ c) (hc2 : l.length ≤ 9223372036854775807) :
    Calls Try.prog 34 #[.slice oa l.length c] w (ListPost w (sortRes l)) := by
  by_cases h1 : 4096 < l.length
  · have HR : Hid (sortRes l = ([], 5)) := by show _ = _; simp [sortRes, h1]
    go_enter Try.func34, Try.ntmps34
    go_wp2_with fail
    go_ret2
    exact ⟨_, by rw [HR.out]; rfl, by rw [HR.out]; exact OwnS.nil _ _ _ _ _ _, Below.refl _ _⟩
  go_enter Try.func34, Try.ntmps34
  go_wp2_with fail
  go_loop [4] (fun i => ∃ k : Nat, k ≤ l.length ∧ i = .int .i64 k ∧ Hid (sentErr 12 l = sentErr 12 (l.drop k))) (fun i => l.length - (intOf i).toNat)
  case atStart => exact ⟨0, by omega, rfl, rfl⟩
  case round =>
    obtain ⟨k, hk, rfl, HE⟩ := hrel
    by_cases hlt : k < l.length
    · obtain ⟨x, y, hd, _, _, _, b, off, rfl, _, c0, c1⟩ := hs.out_at hlt
      have HD := hide hd
      clear hd hs
      cases hx : belowB x 12
      · have HX : Hid ((belowB x 12 && belowB y 8) = false) := by show _ = _; rw [hx]; rfl
        have HR : Hid (sortRes l = ([], 2)) := by
          have h2 : sentErr 12 l = 2 := by rw [HE.out, HD.out]; simp only [sentErr, HX.out]; rfl
          show _ = _; simp [sortRes, h1, h2]
        go_wp2_with (go_at_call 84; refine (within_any _ _ _).mono ?_; rintro e w' ⟨rfl, rfl⟩)
        go_ret2
        exact ⟨_, by rw [HR.out]; rfl, by rw [HR.out]; exact OwnS.nil _ _ _ _ _ _, Below.refl _ _⟩
      cases hy : belowB y 8
      · have HX : Hid ((belowB x 12 && belowB y 8) = false) := by show _ = _; rw [hx, hy]; rfl
        have HR : Hid (sortRes l = ([], 2)) := by
          have h2 : sentErr 12 l = 2 := by rw [HE.out, HD.out]; simp only [sentErr, HX.out]; rfl
          show _ = _; simp [sortRes, h1, h2]
        go_wp2_with (go_at_call 84; refine (within_any _ _ _).mono ?_; rintro e w' ⟨rfl, rfl⟩)
        go_ret2
        exact ⟨_, by rw [HR.out]; rfl, by rw [HR.out]; exact OwnS.nil _ _ _ _ _ _, Below.refl _ _⟩
      have HX : Hid ((belowB x 12 && belowB y 8) = true) := by show _ = _; rw [hx, hy]; rfl
      go_wp2_with (go_at_call 84; refine (within_any _ _ _).mono ?_; rintro e w' ⟨rfl, rfl⟩)
      go_round
      case rel => exact ⟨k + 1, by omega, by go_num, by show _ = _; rw [HE.out, HD.out]; simp only [sentErr, HX.out]; rfl⟩
      case measure => simp [intOf]; omega
    · have hz : Hid (sentErr 12 l = 0) := by show _ = _; rw [HE.out, List.drop_eq_nil_of_le (by omega)]; rfl
      have HR : Hid (sortRes l = (isort l, 0)) := by show _ = _; simp [sortRes, h1, hz.out]
      go_wp2_with fail
      refine (orderR_any l oa c F w hs hc (by omega) (sent_zero hz.out)).mono ?_
      rintro e w3 ⟨v, rfl, ho, hb3⟩
      go_wp2_with fail
      go_ret2
      exact ⟨v, by rw [HR.out]; rfl, by rw [HR.out]; exact ho, hb3⟩

set_option maxHeartbeats 400000 in
theorem sorts_walk (w : World) (l : List Out) (oa : Option Addr) (c : Nat) (hc : l.length ≤ c) (hc2 : l.length ≤ 9223372036854775807) (hs : SliceR outR 2 All w oa l) :
    Calls Try.prog 6 #[.slice oa l.length c] w fun e w' => e = .returned (.bool true) ∧ Below w.heap.size w w' := by
  by_cases hmid : 60 < l.length ∧ l.length ≤ 4096
  · have h1 := hmid.1
    have h2 := hmid.2
    clear hmid
    go_enter Try.func6, Try.ntmps6
    go_wp2_with fail
    refine (awake_any _).mono ?_
    rintro e w3 ⟨rfl, hb3⟩
    go_wp2_with fail
    go_ret
    exact ⟨rfl, hb3⟩
  have h40 : l.length ≤ 60 ∨ (60 < l.length ∧ 4096 < l.length) := by omega
  clear hmid
  rcases h40 with h40 | ⟨h41, h42⟩
  all_goals
    go_enter Try.func6, Try.ntmps6
    go_wp2_with fail
    refine (psorted_any l oa c All _ hs hc hc2).mono ?_
    rintro e w3 ⟨v, rfl, ho, hb3⟩
    obtain ⟨oa1, c1, rfl, hc1, hx1⟩ := ho.slice outR_ok
    have hl1 := ho.bound
    clear ho
    generalize hr : sortRes l = r1 at hc1 hx1 hl1 ⊢
    have HR := hide hr
    clear hr
    obtain ⟨l1, e1⟩ := r1
    go_wp2_with fail
    refine (rsorted_any l oa c All _ (hs.below outR_ok hb3) hc hc2).mono ?_
    rintro e w4 ⟨v, he, ho, hb4⟩
    rw [HR.out] at he ho
    subst he
    obtain ⟨oa2, c2, rfl, hc2', hx2⟩ := ho.slice outR_ok
    have hx1 := hx1.below outR_ok hb4
    have hbb := below_then hb3 hb4
    clear hb3 hb4 ho hs
    go_wp2_with fail
    refine (awake_any _).mono ?_
    rintro e w7 ⟨rfl, hb3⟩
    have hx1 := hx1.below outR_ok hb3
    have hx2 := hx2.below outR_ok hb3
    have hbb := below_then hbb hb3
    clear hb3
    go_wp2_with fail
    refine (sameOutputs_any l1 l1 oa1 oa2 c1 c2 (fun _ => True) _ (hx1.all outR_ok (by omega)) (hx2.all outR_ok (by omega)) hc1 hl1).mono ?_
    rintro e w8 ⟨rfl, hb3⟩
    have hbb := below_then hbb hb3
    clear hb3 hx1 hx2
    go_wp2_with fail
    go_ret
    exact ⟨rfl, hbb⟩

end Go.Proofs.Ytmjcjmljnliaoaa

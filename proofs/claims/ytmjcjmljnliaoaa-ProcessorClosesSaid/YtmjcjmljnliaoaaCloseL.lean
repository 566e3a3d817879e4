/-
  Closed sets of states; a recurrent state is reachable; a processor with one letter is abelian; slices.IsSorted.
-/
import Derived.Test.YtmjcjmljnliaoaaReachA
import Derived.Test.YtmjcjmljnliaoaaAbel
import Derived.Deep.QuietTactic
import Derived.BigQuiet
set_option linter.unusedVariables false
namespace Go.Proofs.Ytmjcjmljnliaoaa
open Go.RowKit

section
variable {nx : Nat → Nat → Nat} {L S s : Nat}
theorem back_of {t : Nat} (h : Back nx L s) (ht : Rch nx L s t) : Back nx L t := fun u hu => rch_trans (h u (rch_trans ht hu)) ht
open Classical in
theorem some_back (hn : ∀ u a, u < S → a < L → nx u a < S) : ∀ (n t : Nat), t < S → ((List.range S).countP fun u => decide (Rch nx L t u)) ≤ n → ∃ u, Rch nx L t u ∧ Back nx L u := by
  intro n
  induction n with
  | zero =>
    intro t ht hc
    have : 0 < (List.range S).countP fun u => decide (Rch nx L t u) := List.countP_pos_iff.2 ⟨t, by simp [ht], by simp [rch_refl]⟩
    omega
  | succ n ih =>
    intro t ht hc
    by_cases hb : Back nx L t
    · exact ⟨t, rch_refl, hb⟩
    · have hx : ∃ u, Rch nx L t u ∧ ¬ Rch nx L u t := Classical.byContradiction fun hno => hb fun u hu => Classical.byContradiction fun h2 => hno ⟨u, hu, h2⟩
      obtain ⟨u, hu, hut⟩ := hx
      have hlt := countP_lt (l := List.range S) (p := fun x => decide (Rch nx L u x)) (q := fun x => decide (Rch nx L t x)) (fun x _ hx => by simp at hx ⊢; exact rch_trans hu hx) ⟨t, by simp [ht], by simp [rch_refl], by simp [hut]⟩
      obtain ⟨v, hv, hvb⟩ := ih u (rch_lt ht hn hu) (by omega)
      exact ⟨v, rch_trans hu hv, hvb⟩
theorem a_back (hs : s < S) (hn : ∀ u a, u < S → a < L → nx u a < S) : ∃ u, Rch nx L s u ∧ Back nx L u := some_back hn _ s hs (Nat.le_refl _)
end

theorem comm_self (rs : List (List Rul)) (s a : Int) : commB rs s a a = true := by simp [commB]
theorem witS_one (rs : List (List Rul)) : ∀ n s, witS (commN rs) 1 n s = none
  | 0, s => rfl
  | n + 1, s => by
    have h : commN rs s 0 0 = true := comm_self rs s 0
    simp [witS, witA, witB, h, witS_one rs n]
theorem unary_abelian {S L : Int} {rs : List (List Rul)} (h : checkErr ⟨S, L, rs⟩ 12 = 0) : (unaryRes ⟨S, L, rs⟩).2 = 0 ∧ (abelRes ⟨S, L, rs⟩).2.2 = 0 ∧ ((unaryRes ⟨S, L, rs⟩).1 = true → (abelRes ⟨S, L, rs⟩).1 = true) := by
  simp only [unaryRes, abelRes, h, if_true, true_and]
  intro h1
  have : L = 1 := by simpa using h1
  subst this
  rw [show (1 : Int).toNat = 1 from rfl, witS_one]
  rfl

theorem less_any (x y : Int) (w : World) : Calls Try.prog 108 #[.int .i64 x, .int .i64 y] w fun e w' => e = .returned (.bool (decide (x < y))) ∧ w = w' :=
  by
  have h1 : (x != x) = false := by simp
  have h2 : (y != y) = false := by simp
  by_cases h : x < y
  · go_enter Try.func108, Try.ntmps108
    go_wp2
    go_ret
    exact ⟨ret_bool (by simp [h]), rfl⟩
  · go_enter Try.func108, Try.ntmps108
    go_wp2
    go_ret
    exact ⟨ret_bool (by simp [h]), rfl⟩

theorem less_no (x y : Int) (h : y ≤ x) (w : World) : Calls Try.prog 108 #[.int .i64 x, .int .i64 y] w fun e w' => e = .returned (.bool false) ∧ w = w' :=
  (less_any x y w).mono fun _ _ h2 => ⟨h2.1.trans (ret_bool (by simp; omega)), h2.2⟩

set_option maxHeartbeats 2000000 in
theorem isSorted_any (l : List Int) (oa : Option Addr) (c : Nat) (F : Foot) (w : World) (hs : SliceR intR 1 F w oa l) (hc : l.length ≤ c) (hc2 : l.length ≤ 1000000) (hp : Hid (l.Pairwise (· < ·))) :
    Calls Try.prog 56 #[.slice oa l.length c] w fun e w' => e = .returned (.bool true) ∧ Below w.heap.size w w' := by
  go_enter Try.func56, Try.ntmps56
  go_wp2_with fail
  go_loopw [3] (fun iv wr => ∃ k : Int, -1 ≤ k ∧ k < l.length ∧ iv = .int .i64 k ∧ Below w.heap.size w wr) (fun iv _ => (intOf iv).toNat)
  case atStart => exact ⟨(l.length : Int) - 1, by omega, by omega, rfl, Below.refl _ _⟩
  case round =>
    obtain ⟨k, hk, hk2, rfl, hb⟩ := hrel
    by_cases hlt : 0 < k
    · obtain ⟨i, rfl⟩ := Int.eq_ofNat_of_zero_le (show 0 ≤ k by omega)
      obtain ⟨j, rfl⟩ : ∃ j, i = j + 1 := ⟨i - 1, by omega⟩
      have hj1 : j + 1 < l.length := by omega
      obtain ⟨x, _, hx, _, b, off, hoa, _, c0⟩ := (hs.below intR_ok hb).int_at hj1
      obtain ⟨y, _, hy, _, b', off', hoa', _, c1⟩   := (hs.below intR_ok hb).int_at (show j < l.length by omega)
      subst hoa
      injection hoa' with e1
      injection e1 with e1 e2
      subst e1 e2
      have hyx : y ≤ x := by
        have h1 := List.pairwise_iff_getElem.1 hp.out j (j + 1) (by omega) hj1 (by omega)
        rw [List.getElem?_eq_getElem (by omega)] at hx hy
        injection hx with hx
        injection hy with hy
        omega
      have hdec : decide (x < y) = false := by simp; omega
      have HX := hide hx
      have HY := hide hy
      have HH := hide hyx
      clear hx hy hyx
      go_wp2_with fail
      have hij : ((j + 1 : Nat) : Int) - 1 = j := by omega
      go_quiet ((go_at_call 108; exact quiet_left (less_no _ _ HH.out _)))
      go_wp2_with fail
      go_roundw
      case rel => exact ⟨j, by omega, by omega, by go_num, below_drewN hb _⟩
      case measure => simp [intOf]
    · go_wp2_with fail
      go_ret
      exact ⟨rfl, hb⟩

end Go.Proofs.Ytmjcjmljnliaoaa

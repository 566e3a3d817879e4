/-
  The error of counts: the reference.
-/
import Derived.Test.YtmjcjmljnliaoaaWord
set_option linter.unusedVariables false
namespace Go.Proofs.Ytmjcjmljnliaoaa
open Go.RowKit

def capS : List Int → Int
  | [] => 0
  | n :: r => min n 257 + capS r
theorem capS_ok : ∀ (l : List Int), negB l = false → 0 ≤ capS l ∧ (((wordFrom 0 l).length : Int) ≤ 256 → capS l = (wordFrom 0 l).length) ∧ (256 < (wordFrom 0 l).length → 256 < capS l)
  | [], _ => by simp [capS, wordFrom]
  | n :: r, h => by
    have hn : ¬ n < 0 ∧ negB r = false := by simpa [negB] using h
    have ih := capS_ok r hn.2
    have hl : (wordFrom 0 (n :: r)).length = n.toNat + (wordFrom 0 r).length := by simp [wordFrom, wordFrom_len 1 0 r]
    rw [hl]
    simp only [capS]
    omega
theorem negB_at {l : List Int} (h : negB l = false) {i : Nat} {x : Int} (hx : l[i]? = some x) : 0 ≤ x := by
  have hm := List.mem_of_getElem? hx
  simp [negB] at h
  exact h x hm

set_option maxHeartbeats 1000000 in
theorem rcounted_any (S L : Int) (orr : Option Addr) (nr cr : Nat) (l : List Int) (oa : Option Addr) (c : Nat) (F : Foot) (w : World) (hs : SliceR intR 1 F w oa l) (hc : l.length ≤ c) (hc2 : l.length ≤ 1000000) :
    Calls Try.prog 99 #[.agg #[.int .i64 S, .int .i64 L, .slice orr nr cr], .slice oa l.length c] w fun e w' => e = .returned (.int .i64 (manyErr L l)) ∧ Below w.heap.size w w' := by
  by_cases hL : (l.length : Int) = L
  case neg =>
    have HR : Hid (manyErr L l = 8) := by show _ = _; simp [manyErr, hL]
    have hq : ((l.length : Int) != L) = true := by simp [hL]
    clear hL
    go_enter Try.func99, Try.ntmps99
    go_wp2_with fail
    go_ret
    exact ⟨ret_int HR.out.symm, bnew (Below.refl _ _) _⟩
  have hq : ((l.length : Int) != L) = false := by simp [hL]
  have HL := hide hL
  clear hL
  go_enter Try.func99, Try.ntmps99
  go_wp2_with fail
  have hsr := hs.below intR_ok (bnew (Below.refl _ _) (.cells #[.int .i64 S, .int .i64 L, .slice orr nr cr] 47))
  go_loop [5] (fun i => ∃ k : Nat, k ≤ l.length ∧ i = .int .i64 k ∧ Hid (negB l = negB (l.drop k))) (fun i => l.length - (intOf i).toNat)
  case atStart => exact ⟨0, by omega, rfl, rfl⟩
  case round =>
    obtain ⟨k, hk, rfl, HN⟩ := hrel
    by_cases hlt : k < l.length
    · obtain ⟨x, hd, _, _, b, off, hoa, _, cx⟩ := hsr.int_at hlt
      subst hoa
      have HD := hide hd
      clear hd
      by_cases hx : x < 0
      · have HR : Hid (manyErr L l = 2) := by
          have h1 : negB l = true := by rw [HN.out, HD.out]; simp [negB, hx]
          show _ = _; simp [manyErr, HL.out, h1]
        go_wp2_with fail
        go_ret
        exact ⟨ret_int HR.out.symm, bnew (Below.refl _ _) _⟩
      · go_wp2_with fail
        go_round
        case rel => exact ⟨k + 1, by omega, by go_num, by show _ = _; rw [HN.out, HD.out]; simp [negB, hx]⟩
        case measure => simp [intOf]; omega
    · have HNF : Hid (negB l = false) := by show _ = _; rw [HN.out, List.drop_eq_nil_of_le (by omega)]; rfl
      clear HN
      go_wp2_with fail
      go_loop [6, 7] (fun s i => ∃ (k : Nat) (m : Int), k ≤ l.length ∧ i = .int .i64 k ∧ s = .int .i64 m ∧ 0 ≤ m ∧ m ≤ 257 * k ∧ Hid (m + capS (l.drop k) = capS l)) (fun _ i => l.length - (intOf i).toNat)
      case atStart => exact ⟨0, 0, by omega, rfl, rfl, by omega, by omega, by show _ = _; simp⟩
      case round =>
        obtain ⟨k, m, hk, rfl, rfl, hm0, hm1, HM⟩ := hrel
        by_cases hlt : k < l.length
        · obtain ⟨x, hd, hget, _, b, off, hoa, _, cx⟩ := hsr.int_at hlt
          subst hoa
          have hx0 := negB_at HNF.out hget
          have HD := hide hd
          clear hd hget
          by_cases hx : x ≤ 257
          · go_wp2_with fail
            go_round
            case rel =>
              refine ⟨k + 1, m + x, by omega, by go_num, by go_num, by omega, by omega, ?_⟩
              show _ = _
              have h1 := HM.out
              rw [HD.out, capS] at h1
              omega
            case measure => simp [intOf]; omega
          · go_wp2_with fail
            go_round
            case rel =>
              refine ⟨k + 1, m + 257, by omega, by go_num, by go_num, by omega, by omega, ?_⟩
              show _ = _
              have h1 := HM.out
              rw [HD.out, capS] at h1
              omega
            case measure => simp [intOf]; omega
        · have HS : Hid (m = capS l) := by have h1 := HM.out; rw [List.drop_eq_nil_of_le (by omega), capS] at h1; show _ = _; omega
          clear HM
          have hcap := capS_ok l HNF.out
          by_cases h256 : 256 < m
          · have HR : Hid (manyErr L l = 5) := by
              have h1 := HS.out
              have h2 : 256 < (wordFrom 0 l).length := by omega
              show _ = _; simp [manyErr, HL.out, HNF.out, h2]
            clear hcap
            go_wp2_with fail
            go_ret
            exact ⟨ret_int HR.out.symm, bnew (Below.refl _ _) _⟩
          · have HR : Hid (manyErr L l = 0) := by
              have h1 := HS.out
              have h2 : ¬ 256 < (wordFrom 0 l).length := by omega
              show _ = _; simp [manyErr, HL.out, HNF.out]; omega
            clear hcap
            go_wp2_with fail
            go_ret
            exact ⟨ret_int HR.out.symm, bnew (Below.refl _ _) _⟩

end Go.Proofs.Ytmjcjmljnliaoaa

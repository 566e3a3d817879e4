/-
  The dollar game in plain Lean: the cheapest script of a script; the upper one of the middle numbers becomes 0.
  The dollar game: debts and costs.
  The dollar game: the greatest valence; debts and bounds.
  The dollar game: Debt.
  The dollar game: a vertex borrows.
  slices.Max of ints and of scripts.
  slices.Min of ints: whether it is negative; ref21.Picks, ref21.FewPicks.
  The greedy game, as a function.
  The dollar game: the error of picks.
  network.Sandpile.
  The dollar game: Greedy.
  The dollar game: a script as the key of a map.
  The dollar game: the divisor behind a script.
  Solving the dollar game in plain Lean: scripts by their costs; the first winning one is the reference's.
  The winner of a layer of scripts, in plain Lean: the least winning one.
  The debt, in plain Lean: a move of a vertex lessens it by no more than its valence.
  Solving the dollar game in plain Lean: the layers of scripts by their costs; their winners are the reference's first ones.
  The dollar game: slices.Compare of scripts.
  The dollar game: the winner of a layer.
  The dollar game: which scripts have been seen: a map whose keys are arrays.
  The dollar game: the next layer. (Printed by mkDolMore.py.)
  Distances from a vertex by a queue, link by link, in plain Lean.
  Reduced divisors: how far vertices are from q.
  Reduced divisors: all debts but that of q are lent away.
-/
import Derived.Test.YtpgopmmobbemcaaGreatDr3
import Derived.Deep.RegionWith
import Derived.Deep.RegionHeld3
import Derived.Laws.MakeOwn
import Derived.BigQuiet
import Derived.Deep.LoopGhost
import Derived.Laws.Tables
import Derived.Laws.CopyOwn
import Derived.Deep.WholeRow
import Derived.WalkSpells
import Derived.Maps.Own
import Derived.Maps.Views
import Derived.WideKeyArr
import Derived.WideKeyPair
import Derived.DeepKeys4
import Derived.BigRegion

set_option linter.unusedVariables false
set_option linter.unusedSimpArgs false
namespace Go.Proofs.YtpgopmmobbemcaaGreat
open Go.RowKit

def magI (k : Int) : Int := max k (-k)
/-- The number of moves of a script. -/
def costS : List Int → Int
  | [] => 0
  | k :: r => magI k + costS r
def raisedS (s : List Int) (k : Int) : List Int := s.map fun x => x + k
/-- The cheapest script, as the reference finds it: behind some numbers, the best one and what was added. -/
def cheapStep (s : List Int) (b : Option (Int × List Int)) (k : Int) : Option (Int × List Int) :=
  match b with
  | none => some (-k, raisedS s (-k))
  | some (a, x) => if costS (raisedS s (-k)) < costS x ∨ costS (raisedS s (-k)) = costS x ∧ -k < a then some (-k, raisedS s (-k)) else some (a, x)
def cheapS (s : List Int) : List Int :=
  match s.foldl (cheapStep s) none with
  | none => s
  | some (_, x) => x
def cntLe (m : Int) (s : List Int) : Nat := s.countP fun x => decide (x ≤ m)
def cntLt (m : Int) (s : List Int) : Nat := s.countP fun x => decide (x < m)

theorem cost_up {m c : Int} (h : m ≤ c) : ∀ s : List Int, costS (raisedS s (-m)) + (c - m) * (2 * (cntLe m s : Int) - s.length) ≤ costS (raisedS s (-c))
  | [] => by simp [raisedS, costS, cntLe]
  | x :: r => by
    have ih := cost_up h r
    simp only [raisedS, List.map_cons, costS, cntLe, List.countP_cons, List.length_cons] at ih ⊢
    by_cases hx : x ≤ m
    · have e : (if decide (x ≤ m) = true then 1 else 0) = 1 := by simp [hx]
      rw [e]
      have h1 : magI (x + -m) + (c - m) ≤ magI (x + -c) := by unfold magI; omega
      have h2 : (c - m) * (2 * ((List.countP (fun x => decide (x ≤ m)) r + 1 : Nat) : Int) - ((r.length + 1 : Nat) : Int)) = (c - m) * (2 * (List.countP (fun x => decide (x ≤ m)) r : Int) - r.length) + (c - m) := by
        push_cast
        rw [show (2 * ((List.countP (fun x => decide (x ≤ m)) r : Int) + 1) - ((r.length : Int) + 1)) = (2 * (List.countP (fun x => decide (x ≤ m)) r : Int) - r.length) + 1 by omega, Int.mul_add, Int.mul_one]
      rw [h2]
      omega
    · have e : (if decide (x ≤ m) = true then 1 else 0) = 0 := by simp [hx]
      rw [e]
      have h1 : magI (x + -m) - (c - m) ≤ magI (x + -c) := by unfold magI; omega
      have h2 : (c - m) * (2 * ((List.countP (fun x => decide (x ≤ m)) r + 0 : Nat) : Int) - ((r.length + 1 : Nat) : Int)) = (c - m) * (2 * (List.countP (fun x => decide (x ≤ m)) r : Int) - r.length) - (c - m) := by
        push_cast
        rw [show (2 * ((List.countP (fun x => decide (x ≤ m)) r : Int) + 0) - ((r.length : Int) + 1)) = (2 * (List.countP (fun x => decide (x ≤ m)) r : Int) - r.length) - 1 by omega, Int.mul_sub, Int.mul_one]
      rw [h2]
      omega
theorem cost_down {m c : Int} (h : c ≤ m) : ∀ s : List Int, costS (raisedS s (-m)) + (m - c) * ((s.length : Int) - 2 * (cntLt m s : Int)) ≤ costS (raisedS s (-c))
  | [] => by simp [raisedS, costS, cntLt]
  | x :: r => by
    have ih := cost_down h r
    simp only [raisedS, List.map_cons, costS, cntLt, List.countP_cons, List.length_cons] at ih ⊢
    by_cases hx : x < m
    · have e : (if decide (x < m) = true then 1 else 0) = 1 := by simp [hx]
      rw [e]
      have h1 : magI (x + -m) - (m - c) ≤ magI (x + -c) := by unfold magI; omega
      have h2 : (m - c) * (((r.length + 1 : Nat) : Int) - 2 * ((List.countP (fun x => decide (x < m)) r + 1 : Nat) : Int)) = (m - c) * ((r.length : Int) - 2 * (List.countP (fun x => decide (x < m)) r : Int)) - (m - c) := by
        push_cast
        rw [show (((r.length : Int) + 1) - 2 * ((List.countP (fun x => decide (x < m)) r : Int) + 1)) = ((r.length : Int) - 2 * (List.countP (fun x => decide (x < m)) r : Int)) - 1 by omega, Int.mul_sub, Int.mul_one]
      rw [h2]
      omega
    · have e : (if decide (x < m) = true then 1 else 0) = 0 := by simp [hx]
      rw [e]
      have h1 : magI (x + -m) + (m - c) ≤ magI (x + -c) := by unfold magI; omega
      have h2 : (m - c) * (((r.length + 1 : Nat) : Int) - 2 * ((List.countP (fun x => decide (x < m)) r + 0 : Nat) : Int)) = (m - c) * ((r.length : Int) - 2 * (List.countP (fun x => decide (x < m)) r : Int)) + (m - c) := by
        push_cast
        rw [show (((r.length : Int) + 1) - 2 * ((List.countP (fun x => decide (x < m)) r : Int) + 0)) = ((r.length : Int) - 2 * (List.countP (fun x => decide (x < m)) r : Int)) + 1 by omega, Int.mul_add, Int.mul_one]
      rw [h2]
      omega
/-- A number that more than half are no greater than, and at most half less than. -/
structure MidN (s : List Int) (m : Int) : Prop where
  mem : m ∈ s
  le : s.length < 2 * cntLe m s
  lt : 2 * cntLt m s ≤ s.length
theorem MidN.above {s : List Int} {m c : Int} (h : MidN s m) (hc : m < c) : costS (raisedS s (-m)) < costS (raisedS s (-c)) := by
  have h1 := cost_up (m := m) (c := c) (by omega) s
  have h2 := h.le
  have h3 : 0 < (c - m) * (2 * (cntLe m s : Int) - s.length) := Int.mul_pos (by omega) (by omega)
  omega
theorem MidN.least {s : List Int} {m : Int} (h : MidN s m) (c : Int) : costS (raisedS s (-m)) ≤ costS (raisedS s (-c)) := by
  rcases Int.lt_or_le m c with hc | hc
  · exact Int.le_of_lt (h.above hc)
  · have h1 := cost_down hc s
    have h2 := h.lt
    have h3 : 0 ≤ (m - c) * ((s.length : Int) - 2 * (cntLt m s : Int)) := Int.mul_nonneg (by omega) (by omega)
    omega
/-- The middle number of a sorted list. -/
theorem mid_sorted {s l : List Int} {m : Int} (hp : l.Perm s) (hs : l.Pairwise (· ≤ ·)) (hm : l[s.length / 2]? = some m) : MidN s m := by
  have hlen := hp.length_eq
  have hlt := (List.getElem?_eq_some_iff.1 hm).1
  have hcut := List.take_append_drop (s.length / 2) l
  have hd : l.drop (s.length / 2) = m :: l.drop (s.length / 2 + 1) := by
    rw [List.drop_eq_getElem_cons hlt]
    rw [List.getElem?_eq_getElem hlt] at hm
    injection hm with hm
    rw [hm]
  have hs2 := hs
  rw [← hcut, hd] at hs2
  obtain ⟨_, q2, q3⟩ := List.pairwise_append.1 hs2
  have q4 := (List.pairwise_cons.1 q2).1
  refine ⟨hp.subset (List.mem_of_getElem? hm), ?_, ?_⟩
  · have e : cntLe m s = cntLe m l := (hp.countP_eq _).symm
    have e2 : cntLe m l = cntLe m (l.take (s.length / 2)) + (cntLe m (l.drop (s.length / 2 + 1)) + 1) := by
      unfold cntLe
      conv => lhs; rw [← hcut, hd, List.countP_append, List.countP_cons]
      simp
    have e3 : cntLe m (l.take (s.length / 2)) = (l.take (s.length / 2)).length := by
      unfold cntLe
      rw [List.countP_eq_length]
      intro a ha
      simpa using q3 a ha m (by simp)
    rw [List.length_take] at e3
    omega
  · have e : cntLt m s = cntLt m l := (hp.countP_eq _).symm
    have e2 : cntLt m l = cntLt m (l.take (s.length / 2)) + cntLt m (m :: l.drop (s.length / 2 + 1)) := by
      unfold cntLt
      conv => lhs; rw [← hcut, hd, List.countP_append]
    have e3 : cntLt m (m :: l.drop (s.length / 2 + 1)) = 0 := by
      unfold cntLt
      rw [List.countP_eq_zero]
      intro a ha
      rcases List.mem_cons.1 ha with rfl | ha
      · simp
      · have := q4 a ha
        simp
        omega
    have e4 : cntLt m (l.take (s.length / 2)) ≤ (l.take (s.length / 2)).length := List.countP_le_length
    rw [List.length_take] at e4
    omega
theorem cheap_fold {s : List Int} {m : Int} (h : MidN s m) : ∀ (r : List Int) (b : Option (Int × List Int)), (∀ a x, b = some (a, x) → x = raisedS s a) → (m ∈ r ∨ b = some (-m, raisedS s (-m))) → r.foldl (cheapStep s) b = some (-m, raisedS s (-m))
  | [], b, _, hm => by
    rcases hm with hm | hm
    · simp at hm
    · exact hm
  | k :: r, b, hb, hm => by
    rw [List.foldl_cons]
    refine cheap_fold h r _ ?_ ?_
    · intro a x hx
      unfold cheapStep at hx
      rcases b with _ | ⟨a0, x0⟩
      · simp only [Option.some.injEq, Prod.mk.injEq] at hx
        rw [← hx.1, ← hx.2]
      · simp only at hx
        split at hx
        · simp only [Option.some.injEq, Prod.mk.injEq] at hx
          rw [← hx.1, ← hx.2]
        · exact hb a x hx
    · by_cases hk : k = m
      · right
        subst hk
        unfold cheapStep
        rcases b with _ | ⟨a0, x0⟩
        · rfl
        · simp only
          have e := hb a0 x0 rfl
          split
          · rfl
          · rename_i hn
            have h1 := h.least (-a0)
            rw [Int.neg_neg, ← e] at h1
            have h2 : ¬ (-k < a0) := fun hh => hn (by omega)
            rcases Int.lt_or_le k (-a0) with h3 | h3
            · have := h.above h3
              rw [Int.neg_neg, ← e] at this
              exact absurd (Or.inl this) hn
            · have h4 : a0 = -k := by omega
              subst h4
              rw [e]
      · rcases hm with hm | hm
        · rcases List.mem_cons.1 hm with hm | hm
          · exact absurd hm.symm hk
          · exact .inl hm
        · right
          subst hm
          unfold cheapStep
          simp only
          rw [if_neg]
          rintro (h1 | ⟨h1, h2⟩)
          · have := h.least k
            omega
          · have := h.above (c := k) (by omega)
            omega
/-- The cheapest script of a script. -/
theorem cheap_mid {s : List Int} {m : Int} (h : MidN s m) : cheapS s = raisedS s (-m) := by
  unfold cheapS
  rw [cheap_fold h s none (fun a x e => by cases e) (.inl h.mem)]
end Go.Proofs.YtpgopmmobbemcaaGreat

set_option linter.unusedVariables false
set_option linter.unusedSimpArgs false
namespace Go.Proofs.YtpgopmmobbemcaaGreat
open Go.RowKit

/-- The debt of a divisor. -/
def owedL : List Int → Int
  | [] => 0
  | k :: r => max 0 (-k) + owedL r
theorem owedL_nn : ∀ d, 0 ≤ owedL d
  | [] => Int.le_refl _
  | k :: r => by have := owedL_nn r; unfold owedL; omega
theorem owedL_le {c : Int} (hc : 0 ≤ c) : ∀ d : List Int, (∀ k ∈ d, -c ≤ k ∧ k ≤ c) → owedL d ≤ d.length * c
  | [], _ => by simp [owedL]
  | k :: r, h => by
    have h1 := owedL_le hc r fun x hx => h x (by simp [hx])
    have h2 := h k (by simp)
    have h3 : (((k :: r).length : Nat) : Int) * c = (r.length : Int) * c + c := by rw [List.length_cons]; push_cast; rw [Int.add_mul, Int.one_mul]
    unfold owedL
    omega
theorem owedL_app (l m : List Int) : owedL (l ++ m) = owedL l + owedL m := by
  induction l with
  | nil => simp [owedL]
  | cons k r ih => simp only [List.cons_append, owedL, ih]; omega
theorem magnitude_any (k : Int) (hk : -1000000000000 ≤ k ∧ k ≤ 1000000000000) (w : World) : Calls Tryz.prog 73 #[.int .i64 k] w fun e w' => e = .returned (.int .i64 (magI k)) ∧ w = w' := by
  go_enter Tryz.func73, Tryz.ntmps73
  go_wp2_with fail
  all_goals (go_ret; refine ⟨?_, rfl⟩; unfold magI; go_num)
theorem owedL_take {d : List Int} {k : Nat} {x : Int} (h : d.drop k = x :: d.drop (k + 1)) : owedL (d.take (k + 1)) = owedL (d.take k) + max 0 (-x) := by
  have hx : d[k]? = some x := by
    have := congrArg (fun l => l[0]?) h
    simpa using this
  rw [List.take_add_one, hx, owedL_app]
  simp [owedL]
theorem owed_any (d : List Int) (od : Option Addr) (cd : Nat) (F : Foot) (w : World) (hd : SliceR intR 1 F w od d) (hc : d.length ≤ cd) (hc2 : d.length ≤ 1000) (hb : Hid (∀ k ∈ d, -1000000000000 ≤ k ∧ k ≤ 1000000000000)) :
    Calls Tryz.prog 64 #[.slice od d.length cd] w fun e w' => e = .returned (.int .i64 (owedL d)) ∧ w = w' := by
  have HB : Hid (∀ k, 0 ≤ owedL (d.take k) ∧ owedL (d.take k) ≤ 1000000000000000) := fun k => by
    refine ⟨owedL_nn _, ?_⟩
    have h1 := owedL_le (c := 1000000000000) (by omega) (d.take k) fun x hx => hb.out x (List.mem_of_mem_take hx)
    have h2 : (d.take k).length ≤ 1000 := by rw [List.length_take]; omega
    omega
  go_enter Tryz.func64, Tryz.ntmps64
  go_wp2_with fail
  go_loopw [3, 8] (fun sv iv wr => ∃ k : Nat, k ≤ d.length ∧ iv = .int .i64 k ∧ sv = .int .i64 (owedL (d.take k)) ∧ wr = w) (fun _ iv _ => d.length - (intOf iv).toNat)
  case atStart => exact ⟨0, by omega, rfl, rfl, rfl⟩
  case round =>
    obtain ⟨k, hk, rfl, rfl, rfl⟩ := hrel
    obtain ⟨S, hS⟩ : ∃ S, S = owedL (d.take k) := ⟨_, rfl⟩
    have hS1 := HB.out k
    rw [← hS] at hS1 ⊢
    by_cases hlt : k < d.length
    · obtain ⟨x, hdr, hm, ix, b, off, hod, _, c0⟩ := hd.int_at hlt
      have hx := hb.out x (by rw [← List.take_append_drop k d, hdr]; simp)
      have HS2 : Hid (owedL (d.take (k + 1)) = S + max 0 (-x)) := by show _ = _; rw [hS]; exact owedL_take hdr
      subst hod
      clear hdr
      by_cases h1 : x ≤ 0
      · have HS3 : Hid (owedL (d.take (k + 1)) = S - x) := by show _ = _; rw [HS2.out]; omega
        go_wp2_with fail
        all_goals (try omega)
        all_goals
          go_roundw
          case rel => exact ⟨k + 1, by omega, by go_num, by rw [HS3.out]; go_num, by first | rfl | trivial⟩
          case measure => simp [intOf]; omega
      · have HS3 : Hid (owedL (d.take (k + 1)) = S) := by show _ = _; rw [HS2.out]; omega
        go_wp2_with fail
        all_goals (try omega)
        all_goals
          go_roundw
          case rel => exact ⟨k + 1, by omega, by go_num, by rw [HS3.out]; go_num, by first | rfl | trivial⟩
          case measure => simp [intOf]; omega
    · have hke : k = d.length := by omega
      have HS3 : Hid (S = owedL d) := by show _ = _; rw [hS, hke, List.take_length]
      clear hke hS
      go_wp2_with fail
      go_ret
      exact ⟨by rw [HS3.out]; rfl, rfl⟩
theorem costS_le {c : Int} (hc : 0 ≤ c) : ∀ d : List Int, (∀ k ∈ d, -c ≤ k ∧ k ≤ c) → 0 ≤ costS d ∧ costS d ≤ d.length * c
  | [], _ => by simp [costS]
  | k :: r, h => by
    have h1 := costS_le hc r fun x hx => h x (by simp [hx])
    have h2 := h k (by simp)
    have h3 : (((k :: r).length : Nat) : Int) * c = (r.length : Int) * c + c := by rw [List.length_cons]; push_cast; rw [Int.add_mul, Int.one_mul]
    unfold costS magI
    omega
theorem costS_app (l m : List Int) : costS (l ++ m) = costS l + costS m := by
  induction l with
  | nil => simp [costS]
  | cons k r ih => simp only [List.cons_append, costS, ih]; omega
theorem costS_take {d : List Int} {k : Nat} {x : Int} (h : d.drop k = x :: d.drop (k + 1)) : costS (d.take (k + 1)) = costS (d.take k) + magI x := by
  have hx : d[k]? = some x := by
    have := congrArg (fun l => l[0]?) h
    simpa using this
  rw [List.take_add_one, hx, costS_app]
  simp [costS]
theorem cost_any (d : List Int) (od : Option Addr) (cd : Nat) (F : Foot) (w : World) (hd : SliceR intR 1 F w od d) (hc : d.length ≤ cd) (hc2 : d.length ≤ 1000) (hb : Hid (∀ k ∈ d, -1000000000000 ≤ k ∧ k ≤ 1000000000000)) :
    Calls Tryz.prog 47 #[.slice od d.length cd] w fun e w' => e = .returned (.int .i64 (costS d)) ∧ w = w' := by
  have HB : Hid (∀ k, 0 ≤ costS (d.take k) ∧ costS (d.take k) ≤ 1000000000000000) := fun k => by
    have h1 := costS_le (c := 1000000000000) (by omega) (d.take k) fun x hx => hb.out x (List.mem_of_mem_take hx)
    have h2 : (d.take k).length ≤ 1000 := by rw [List.length_take]; omega
    omega
  go_enter Tryz.func47, Tryz.ntmps47
  go_wp2_with fail
  go_loopw [3, 8] (fun sv iv wr => ∃ k : Nat, k ≤ d.length ∧ iv = .int .i64 k ∧ sv = .int .i64 (costS (d.take k)) ∧ wr = w) (fun _ iv _ => d.length - (intOf iv).toNat)
  case atStart => exact ⟨0, by omega, rfl, rfl, rfl⟩
  case round =>
    obtain ⟨k, hk, rfl, rfl, rfl⟩ := hrel
    obtain ⟨S, hS⟩ : ∃ S, S = costS (d.take k) := ⟨_, rfl⟩
    have hS1 := HB.out k
    rw [← hS] at hS1 ⊢
    by_cases hlt : k < d.length
    · obtain ⟨x, hdr, hm, ix, b, off, hod, _, c0⟩ := hd.int_at hlt
      have hx := hb.out x (by rw [← List.take_append_drop k d, hdr]; simp)
      have HS3 : Hid (costS (d.take (k + 1)) = S + magI x) := by show _ = _; rw [hS]; exact costS_take hdr
      have hmx : 0 ≤ magI x ∧ magI x ≤ 1000000000000 := by unfold magI; omega
      subst hod
      clear hdr
      go_wp2_with fail
      refine (magnitude_any x hx _).mono ?_
      rintro e w2 ⟨rfl, rfl⟩
      obtain ⟨M, hM⟩ : ∃ M, M = magI x := ⟨_, rfl⟩
      rw [← hM] at HS3 hmx ⊢
      clear hM
      go_wp2_with fail
      go_roundw
      case rel => exact ⟨k + 1, by omega, by go_num, by rw [HS3.out]; go_num, by first | rfl | trivial⟩
      case measure => simp [intOf]; omega
    · have hke : k = d.length := by omega
      have HS3 : Hid (S = costS d) := by show _ = _; rw [hS, hke, List.take_length]
      clear hke hS
      go_wp2_with fail
      go_ret
      exact ⟨by rw [HS3.out]; rfl, rfl⟩
/-- How many moves are necessary at least. -/
def boundB (o most : Int) : Int := if most = 0 then 0 else (o + most - 1) / most
theorem bound_any (d : List Int) (od : Option Addr) (cd : Nat) (F : Foot) (w : World) (hd : SliceR intR 1 F w od d) (hc : d.length ≤ cd) (hc2 : d.length ≤ 1000) (hb : Hid (∀ k ∈ d, -1000000000000 ≤ k ∧ k ≤ 1000000000000)) (m : Int) (hm : 0 ≤ m ∧ m ≤ 1000000) :
    Calls Tryz.prog 65 #[.slice od d.length cd, .int .i64 m] w fun e w' => e = .returned (.int .i64 (boundB (owedL d) m)) ∧ w = w' := by
  have HB : Hid (0 ≤ owedL d ∧ owedL d ≤ 1000000000000000) := by
    refine ⟨owedL_nn _, ?_⟩
    have h1 := owedL_le (c := 1000000000000) (by omega) d hb.out
    omega
  go_enter Tryz.func65, Tryz.ntmps65
  by_cases h0 : m = 0
  · subst h0
    go_wp2_with fail
    go_ret
    exact ⟨rfl, rfl⟩
  · have q0 : (m == 0) = false := by simpa using h0
    have HC := hide (owed_any d od cd F w hd hc hc2 hb)
    have HQ : Hid (boundB (owedL d) m = (owedL d + m - 1) / m) := by show _ = _; unfold boundB; rw [if_neg h0]
    go_wp2_with fail
    refine HC.out.mono ?_
    rintro e w2 ⟨rfl, rfl⟩
    have hB := HB.out
    obtain ⟨o, ho⟩ : ∃ o, o = owedL d := ⟨_, rfl⟩
    rw [← ho] at hB HQ ⊢
    have HO := hide ho
    clear ho HB HC
    go_wp2_with fail
    go_ret
    refine ⟨?_, rfl⟩
    rw [← HO.out, HQ.out]
    rfl
end Go.Proofs.YtpgopmmobbemcaaGreat

set_option linter.unusedVariables false
set_option linter.unusedSimpArgs false
namespace Go.Proofs.YtpgopmmobbemcaaGreat
open Go.RowKit

/-- The greatest valence of the first vertices. -/
def grtE (es : List Edg) : Nat → Int
  | 0 => 0
  | k + 1 => max (grtE es k) (valE es k)
theorem grtE_le {es : List Edg} (h : ∀ v, 0 ≤ valE es v ∧ valE es v ≤ 50000) : ∀ k, 0 ≤ grtE es k ∧ grtE es k ≤ 50000
  | 0 => by unfold grtE; omega
  | k + 1 => by
    have h1 := grtE_le h k
    have h2 := h k
    unfold grtE
    omega
theorem valE_bound {n : Int} {es : List Edg} (hV : gErr n es = 0) (hc2 : es.length ≤ 1000) (v : Int) : 0 ≤ valE es v ∧ valE es v ≤ 50000 := by
  have h1 := valE_le v es fun x hx => by
    have := (gErr_zero hV).2.1 x hx
    omega
  omega
set_option maxRecDepth 100000 in
set_option maxHeartbeats 2000000 in
theorem greatest_any (n : Nat) (es : List Edg) (oe : Option Addr) (c : Nat) (F : Foot) (w : World) (hs : SliceR edgR 3 F w oe es) (hc : es.length ≤ c) (hc2 : es.length ≤ 1000) (hV : Hid (gErr n es = 0)) :
    Calls Tryz.prog 59 #[.agg #[.int .i64 n, .slice oe es.length c]] w fun e w' => e = .returned (.int .i64 (grtE es n)) ∧ Below w.heap.size w w' := by
  have HN : Hid (1 ≤ n ∧ n ≤ 12) := by have := (gErr_zero hV.out).1; show _ ∧ _; omega
  have HB : Hid (∀ k, 0 ≤ grtE es k ∧ grtE es k ≤ 50000) := grtE_le (valE_bound hV.out hc2)
  have HV2 : Hid (∀ v, 0 ≤ valE es v ∧ valE es v ≤ 50000) := valE_bound hV.out hc2
  have HC : Hid (∀ (u : World) (v : Nat), v < n → Below w.heap.size w u → Calls Tryz.prog 93 #[.agg #[.int .i64 n, .slice oe es.length c], .int .i64 v] u fun e w' => e = .returned (.tuple #[.int .i64 (valE es v), .int .i64 0]) ∧ Below u.heap.size u w') := fun u v hv hu =>
    gval_any n es oe c F u (hs.below edgR_ok hu) hc hc2 v (by have := HN.out; unfold I64; omega) hV (by
      show _ = _
      unfold atE
      rw [if_pos hV.out, if_pos]
      simp only [List.all_cons, List.all_nil, Bool.and_true]
      unfold vtxB
      simp
      omega)
  obtain ⟨W1, e1⟩ : ∃ W1, w.alloc (.cells #[.int .i64 n, .slice oe es.length c] 24) = W1 := ⟨_, rfl⟩
  have bx : Box W1 w.heap.size [.int .i64 n, .slice oe es.length c] 24 := by rw [← e1]; exact Box.new w [.int .i64 n, .slice oe es.length c] 24
  have bb1 := bnew (Below.refl w.heap.size w) (.cells #[.int .i64 n, .slice oe es.length c] 24)
  rw [e1] at bb1
  have d0 := bx.cell 0
  have d1 := bx.cell 1
  simp only [List.getElem?_cons_zero, List.getElem?_cons_succ] at d0 d1
  have HX := hide bx
  have HB1 := hide bb1
  clear hs bx bb1
  go_enter Tryz.func59, Tryz.ntmps59
  go_wp2_with fail
  go_loopw [3, 9] (fun sv iv wr => ∃ k : Nat, k ≤ n ∧ iv = .int .i64 k ∧ sv = .int .i64 (grtE es k) ∧ Hid (Box wr w.heap.size [.int .i64 n, .slice oe es.length c] 24) ∧ Hid (Below w.heap.size w wr)) (fun _ iv _ => n - (intOf iv).toNat)
  case atStart => exact ⟨0, by omega, rfl, rfl, HX, HB1⟩
  case round =>
    obtain ⟨k, hk, rfl, rfl, HXr, HY⟩ := hrel
    have hn12 := HN.out.2
    obtain ⟨S, hS⟩ : ∃ S, S = grtE es k := ⟨_, rfl⟩
    have hS1 := HB.out k
    rw [← hS] at hS1 ⊢
    clear d0 d1 e1
    by_cases hlt : k < n
    · have d0 := HXr.out.cell 0
      have d1 := HXr.out.cell 1
      simp only [List.getElem?_cons_zero, List.getElem?_cons_succ] at d0 d1
      have hv2 := HV2.out k
      obtain ⟨V, hVe⟩ : ∃ V, V = valE es k := ⟨_, rfl⟩
      have HS2 : Hid (grtE es (k + 1) = max S V) := by show _ = _; rw [hS, hVe]; rfl
      have HCk := hide (HC.out wr k hlt HY.out)
      rw [← hVe] at HCk hv2
      clear hS hVe
      by_cases h1 : S ≤ V
      · have HS3 : Hid (grtE es (k + 1) = V) := by show _ = _; rw [HS2.out]; omega
        go_wp2_with fail
        refine HCk.out.mono ?_
        rintro e w2 ⟨rfl, hb2⟩
        have HX2 := hide (HXr.out.below hb2)
        have HY2 := hide (below_then HY.out hb2)
        clear hb2 d0 d1
        go_wp2_with fail
        all_goals (try omega)
        all_goals
          go_roundw
          case rel => exact ⟨k + 1, by omega, by go_num, by rw [HS3.out] <;> go_num, HX2, HY2⟩
          case measure => simp [intOf]; omega
      · have HS3 : Hid (grtE es (k + 1) = S) := by show _ = _; rw [HS2.out]; omega
        go_wp2_with fail
        refine HCk.out.mono ?_
        rintro e w2 ⟨rfl, hb2⟩
        have HX2 := hide (HXr.out.below hb2)
        have HY2 := hide (below_then HY.out hb2)
        clear hb2 d0 d1
        go_wp2_with fail
        all_goals (try omega)
        all_goals
          go_roundw
          case rel => exact ⟨k + 1, by omega, by go_num, by rw [HS3.out] <;> go_num, HX2, HY2⟩
          case measure => simp [intOf]; omega
    · have hke : k = n := by omega
      have HS3 : Hid (S = grtE es n) := by show _ = _; rw [hS, hke]
      clear hke hS
      go_wp2_with fail
      go_ret
      exact ⟨by rw [HS3.out]; rfl, HY.out⟩
end Go.Proofs.YtpgopmmobbemcaaGreat

set_option linter.unusedVariables false
set_option linter.unusedSimpArgs false
set_option linter.unnecessarySimpa false
namespace Go.Proofs.YtpgopmmobbemcaaGreat
open Go.RowKit

theorem tErr_j {n : Int} {es : List Edg} {f : List Nat} {d : List Int} (h : tErr n es f d = 0) : jErr n es f = 0 := by
  unfold tErr at h
  split at h
  · rename_i h1; exact h1
  · rename_i h1; exact absurd h h1
theorem tErr_d {n : Int} {es : List Edg} {f : List Nat} {d : List Int} (h : tErr n es f d = 0) : dErr n d = 0 := by
  have := tErr_j h
  unfold tErr at h
  rw [if_pos this] at h
  exact h
theorem dErr_len {n : Int} {d : List Int} (h : dErr n d = 0) : (1 ≤ n ∧ n ≤ 12) ∧ (d.length : Int) = n ∧ ∀ x ∈ d, -1048576 ≤ x ∧ x ≤ 1048576 := by
  unfold dErr at h
  split at h
  · rename_i h1
    split at h
    · rename_i h2; exact ⟨h1, h2, dScan_zero h⟩
    · exact absurd h (by omega)
  · exact absurd h (by omega)
/-- A connected graph with a divisor, all in order. -/
structure TOk (N : Nat) (es : List Edg) (f : List Nat) (d : List Int) : Prop where
  g : gErr N es = 0
  j : jErr N es f = 0
  n12 : 1 ≤ N ∧ N ≤ 12
  len : d.length = N
  dB : ∀ x ∈ d, -1048576 ≤ x ∧ x ≤ 1048576
theorem tErr_ok {n : Int} {es : List Edg} {f : List Nat} {d : List Int} (h : tErr n es f d = 0) : ∃ N : Nat, n = N ∧ TOk N es f d := by
  obtain ⟨h1, h2, h3⟩ := dErr_len (tErr_d h)
  obtain ⟨N, rfl⟩ := Int.eq_ofNat_of_zero_le (show 0 ≤ n by omega)
  exact ⟨N, rfl, jErr_g (tErr_j h), tErr_j h, by omega, by omega, h3⟩
def debtR (n : Int) (es : List Edg) (f : List Nat) (d : List Int) : Int × Int × Int := if tErr n es f d = 0 then (owedL d, boundB (owedL d) (grtE es n.toNat), 0) else (0, 0, tErr n es f d)
def Int3Post (w : World) (r : Int × Int × Int) (e : Ending) (w' : World) : Prop := e = .returned (.tuple #[.int .i64 r.1, .int .i64 r.2.1, .int .i64 r.2.2]) ∧ Below w.heap.size w w'
set_option maxRecDepth 100000 in
set_option maxHeartbeats 2000000 in
theorem debt_any (n : Int) (es : List Edg) (oe : Option Addr) (c : Nat) (F : Foot) (w : World) (hs : SliceR edgR 3 F w oe es) (hc : es.length ≤ c) (hc2 : es.length ≤ 1000)
    (f : List Nat) (hU : Hid (gErr n es = 0 → Uf f (eL es))) (d : List Int) (od : Option Addr) (cd : Nat) (G : Foot) (hd : SliceR intR 1 G w od d) (hdc : d.length ≤ cd) (hdl : d.length ≤ 9223372036854775807) :
    Calls Tryz.prog 23 #[.agg #[.int .i64 n, .slice oe es.length c], .slice od d.length cd] w (Int3Post w (debtR n es f d)) := by
  have hb0 := bnew (Below.refl w.heap.size w) (.cells #[.int .i64 n, .slice oe es.length c] 24)
  have bxx := Box.new w [.int .i64 n, .slice oe es.length c] 24
  have HK := hide (dgiven_any n es oe c F _ (hs.below edgR_ok hb0) hc (by omega) f hU d od cd G (hd.below intR_ok hb0) hdc hdl)
  have HD := hide hd
  have HS := hide hs
  have HB := hide hb0
  have HX := hide bxx
  clear hs hd hb0 bxx
  go_enter Tryz.func23, Tryz.ntmps23
  go_wp2_with fail
  refine HK.out.mono ?_
  rintro e w2 ⟨rfl, hb2⟩
  have HB2 := hide (below_then HB.out hb2)
  have bx2 := HX.out.below hb2
  have y0 := bx2.cell 0
  have y1 := bx2.cell 1
  simp only [List.getElem?_cons_zero, List.getElem?_cons_succ] at y0 y1
  clear hb2 bx2
  by_cases hV : tErr n es f d = 0
  · obtain ⟨N, rfl, hT⟩ := tErr_ok hV
    have hR : Hid (debtR N es f d = (owedL d, boundB (owedL d) (grtE es N), 0)) := by show _ = _; unfold debtR; rw [if_pos hV, Int.toNat_natCast]
    have HT := hide hT
    have h12 := hT.n12
    have hdl2 := hT.len
    have hdl3 : d.length ≤ 1000 := by omega
    have HDB : Hid (∀ k ∈ d, -1000000000000 ≤ k ∧ k ≤ 1000000000000) := fun k hk => by have := HT.out.dB k hk; omega
    have HOW : Hid (∀ W, Below w.heap.size w W → Calls Tryz.prog 64 #[.slice od d.length cd] W fun e w' => e = .returned (.int .i64 (owedL d)) ∧ W = w') := fun W hW => owed_any d od cd G W (HD.out.below intR_ok hW) hdc hdl3 HDB
    have HGR : Hid (∀ W, Below w.heap.size w W → Calls Tryz.prog 59 #[.agg #[.int .i64 N, .slice oe es.length c]] W fun e w' => e = .returned (.int .i64 (grtE es N)) ∧ Below W.heap.size W w') := fun W hW => greatest_any N es oe c F W (HS.out.below edgR_ok hW) hc hc2 HT.out.g
    have hgb := grtE_le (valE_bound HT.out.g hc2) N
    have HBO : Hid (∀ W, Below w.heap.size w W → Calls Tryz.prog 65 #[.slice od d.length cd, .int .i64 (grtE es N)] W fun e w' => e = .returned (.int .i64 (boundB (owedL d) (grtE es N))) ∧ W = w') := fun W hW => bound_any d od cd G W (HD.out.below intR_ok hW) hdc hdl3 HDB _ (by omega)
    have HV := hide hV
    rw [hV]
    generalize boundB (owedL d) (grtE es N) = bo at *
    generalize grtE es N = gr at *
    generalize owedL d = ow at *
    clear hV hT hdl2
    go_wp2_with fail
    go_region_held3 (fun w' => w'.cell? ⟨w.heap.size, 0, none⟩ = some (.int .i64 N) ∧ w'.cell? ⟨w.heap.size, 1, none⟩ = some (.slice oe es.length c)) (first | with_reducible exact ⟨y0, y1⟩ | exact ⟨y0, y1⟩) (first
      | (go_at_call 64; refine (HOW.out _ (by first | with_reducible exact HB2.out | with_reducible exact HB2.out.drew)).mono ?_; rintro e w5 ⟨rfl, rfl⟩)
      | (go_at_call 65; refine (HBO.out _ (by first | with_reducible exact HB2.out | with_reducible exact HB2.out.drew)).mono ?_; rintro e w5 ⟨rfl, rfl⟩)
      | (go_at_call 59; refine (HGR.out _ (by first | with_reducible exact HB2.out | with_reducible exact HB2.out.drew)).mono ?_; rintro e w5 ⟨rfl, h5⟩; have y0 := (h5.cell (World.block_lt_of_cell? _ _ y0)).trans y0; have y1 := (h5.cell (World.block_lt_of_cell? _ _ y1)).trans y1; have HB2 := hide (show Below w.heap.size w w5 from below_then (by first | with_reducible exact HB2.out | with_reducible exact HB2.out.drew) h5); clear h5))
    all_goals
      go_wp2_with fail
      go_ret3
      exact ⟨by rw [hR.out]; rfl, by first | with_reducible exact HB2.out | with_reducible exact HB2.out.drew⟩
  · have hR : Hid (debtR n es f d = (0, 0, tErr n es f d)) := if_neg hV
    have hq : (tErr n es f d != 0) = true := by simpa using hV
    go_wp2_with fail
    go_ret3
    exact ⟨by rw [hR.out]; rfl, HB2.out⟩
end Go.Proofs.YtpgopmmobbemcaaGreat

set_option linter.unusedVariables false
set_option linter.unusedSimpArgs false
set_option linter.unnecessarySimpa false
namespace Go.Proofs.YtpgopmmobbemcaaGreat
open Go.RowKit

/-- The chips when v has borrowed. -/
def borF (es : List Edg) (v : Nat) (left : Nat → Int) : Nat → Int := linkAll v (-1) left (lnkL es v)
theorem borF_at {N : Nat} {es : List Edg} (h : EOk N es) {v w : Nat} (hv : v < N) (hw : w < N) (left : Nat → Int) : borF es v left w = left w + (if w = v then vlR N (linkE es) v else 0) - linkE es v w := by
  have hGr : Gr N (linkE es) := linkE_gr fun y hy => by have := (h.at_ y hy).2; omega
  unfold borF
  rw [linkAll_at w (lnkL es v) _ (fun p hp => by obtain ⟨u, h1, _, h2, _⟩ := lnk_in h hp; omega)]
  have hat := fun y hy => (h.at_ y hy).1
  rw [jn_inD (fun _ => true) v hat, jn_inD (fun u => decide (u = w)) v hat]
  have e1 : inD N (linkE es) (fun _ => true) v = vlR N (linkE es) v := by unfold inD vlR; exact sumI_eq fun u _ => if_pos rfl
  have e2 : inD N (linkE es) (fun u => decide (u = w)) v = linkE es v w := by
    unfold inD
    have h1 := sumI_one (f := fun u => if decide (u = w) then linkE es v u else 0) (g := fun _ => 0) hw (fun p hp hne => by simp [hne])
    rw [h1, sumI_zero]
    simp
  rw [e1, e2]
  split <;> omega
theorem lnk_edge {N : Nat} {es : List Edg} (h : EOk N es) {v k : Nat} {a b m : Int} (hx : es[k]? = some ⟨a, b, m⟩) (hc : a ≠ b ∧ (a = (v : Int) ∨ b = (v : Int))) : ∃ u : Nat, a + b - v = (u : Int) ∧ u < N ∧ u ≠ v ∧ (1 ≤ m ∧ m ≤ 50) ∧ lnkL (es.take (k + 1)) v = lnkL (es.take k) v ++ [((u : Int), m)] := by
  obtain ⟨h1, h2⟩ := h.at_ _ (List.mem_of_getElem? hx)
  simp only at h1 h2
  refine ⟨(a + b - v).toNat, by omega, by omega, by omega, h2, ?_⟩
  rw [lnkL_next hx]
  unfold lnkX
  rw [if_pos hc]
  simp only [Option.toList_some]
  congr 3
  omega
set_option maxRecDepth 100000 in
set_option maxHeartbeats 4000000 in
theorem borrow_any {N : Nat} {es : List Edg} (hok : EOk N es) (oe : Option Addr) (c : Nat) (F : Foot) (w0 w : World) (hs : SliceR edgR 3 F w0 oe es) (hc : es.length ≤ c) (hB : Below w0.heap.size w0 w) (gd cd : Nat) (rest : List Value) (left : Nat → Int) (hd : Row1 (Value.int .i64) w gd 3 (lst N left) rest) (hgd : w0.heap.size ≤ gd) (hcd : N ≤ cd) (h12 : 1 ≤ N ∧ N ≤ 12)
    (hb : Hid (∀ u, -100000000000000 ≤ left u ∧ left u ≤ 100000000000000)) (v : Nat) (hv : v < N) :
    Calls Tryz.prog 55 #[.agg #[.int .i64 N, .slice oe es.length c], .slice (some ⟨gd, 0, none⟩) N cd, .int .i64 v, .int .i64 1] w fun e w' => e = .returned (.tuple #[]) ∧ Row1 (Value.int .i64) w' gd 3 (lst N (borF es v left)) rest ∧ Fd w0.heap.size gd w w' := by
  have hs1 := hB.size
  have hgl := hd.lt
  have hes := hok.len
  have HOK := hide hok
  have HBD : Hid (∀ (k : Nat) (u : Nat), k ≤ es.length → -200000000000000 ≤ linkAll v (-1) left (lnkL (es.take k) v) u ∧ linkAll v (-1) left (lnkL (es.take k) v) u ≤ 200000000000000) := by
    intro k
    induction k with
    | zero => intro u _; have := hb.out u; show _ ≤ left u ∧ left u ≤ _; omega
    | succ k ih =>
        intro u hk
        have key : ∀ (r : List (Int × Int)) (d : Nat → Int) (b : Int), (∀ p ∈ r, ∃ u : Nat, p.1 = u ∧ u < N ∧ u ≠ v ∧ 1 ≤ p.2 ∧ p.2 ≤ 50) → (∀ u, -b ≤ d u ∧ d u ≤ b) → ∀ u, -(b + 100 * (r.length : Int)) ≤ linkAll v (-1) d r u ∧ linkAll v (-1) d r u ≤ b + 100 * (r.length : Int) := by
          intro r
          induction r with
          | nil => intro d b _ h u; have := h u; simp [linkAll]; omega
          | cons p r ih =>
            intro d b hp h u
            obtain ⟨z, h1, h2, h3, h4⟩ := hp p (by simp)
            have h5 := ih (linkStep v (-1) d p) (b + 100) (fun x hx => hp x (by simp [hx])) (fun z => by
              have := h z
              rw [linkStep_at (by omega)]
              split <;> split <;> omega) u
            have e : linkAll v (-1) d (p :: r) = linkAll v (-1) (linkStep v (-1) d p) r := rfl
            rw [e, List.length_cons]
            push_cast
            omega
        have h1 := key (lnkL (es.take (k + 1)) v) left 100000000000000 (fun p hp => lnk_in hok ((lnkL_pre es (k + 1) v).subset hp)) hb.out u
        have h2 := lnk_len (es.take (k + 1)) (v : Int)
        rw [List.length_take] at h2
        omega
  obtain ⟨W1, e1⟩ : ∃ W1, w.alloc (.cells #[.int .i64 N, .slice oe es.length c] 24) = W1 := ⟨_, rfl⟩
  have bx1 : Box W1 w.heap.size [.int .i64 N, .slice oe es.length c] 24 := by rw [← e1]; exact Box.new w [.int .i64 N, .slice oe es.length c] 24
  have bb1 := bnew (Below.refl w.heap.size w) (.cells #[.int .i64 N, .slice oe es.length c] 24)
  rw [e1] at bb1
  have hFd1 : Fd w0.heap.size gd w W1 := ⟨bb1.mono hs1, fun k hk _ => bb1.block k hk⟩
  have HR1 := hide (hd.below bb1)
  have HF1 := hide hFd1
  have HB0 := hide hB
  have HS := hide hs
  have d1 := bx1.cell 1
  simp only [List.getElem?_cons_zero, List.getElem?_cons_succ] at d1
  clear hd hB hs hok bx1 bb1 hFd1
  go_enter Tryz.func55, Tryz.ntmps55
  go_wp2_with fail
  clear d1 e1
  go_loopg [9, 13] es.length (fun gm _ iv wx => ∃ k : Nat, k ≤ es.length ∧ gm = es.length - k ∧ iv = .int .i64 k ∧ Hid (Row1 (Value.int .i64) wx gd 3 (lst N (linkAll v (-1) left (lnkL (es.take k) v))) rest) ∧ Hid (Fd w0.heap.size gd w wx))
  case atStart => exact ⟨0, by omega, by omega, rfl, HR1, HF1⟩
  case round =>
    obtain ⟨k, hk, hgm, rfl, HR, HF⟩ := hrel
    have HGM := hide hgm
    clear hgm
    by_cases hlt : k < es.length
    · have hBr : Below w0.heap.size w0 wr := HB0.out.trans HF.out.1
      obtain ⟨a, b, m, _, hget, _, _, _, bl, off, hoe, _, c0, c1, c2⟩ := (HS.out.below edgR_ok hBr).edg_at hlt
      have hat := HOK.out.at_ _ (List.mem_of_getElem? hget)
      simp only at hat
      obtain ⟨W4, hW4⟩ : ∃ W4, wr.alloc (.cells #[.int .i64 a, .int .i64 b, .int .i64 m] 123) = W4 := ⟨_, rfl⟩
      have hbb := bnew (Below.refl wr.heap.size wr) (.cells #[.int .i64 a, .int .i64 b, .int .i64 m] 123)
      rw [hW4] at hbb
      have bx : Box W4 wr.heap.size [.int .i64 a, .int .i64 b, .int .i64 m] 123 := by rw [← hW4]; exact Box.new wr [.int .i64 a, .int .i64 b, .int .i64 m] 123
      have x0 := bx.cell 0
      have x1 := bx.cell 1
      have x2 := bx.cell 2
      simp only [List.getElem?_cons_zero, List.getElem?_cons_succ] at x0 x1 x2
      have hsr := HF.out.1.size
      have HR4 := hide (HR.out.below hbb)
      have hgl4 := HR.out.lt
      have HF4 : Hid (Fd w0.heap.size gd w W4) := ⟨HF.out.1.trans (hbb.mono (by omega)), fun j hj hjg => (hbb.block j (by have h5 := HF.out.2 j hj hjg; rw [Array.getElem?_eq_getElem hj] at h5; exact (Array.getElem?_eq_some_iff.1 h5).1)).trans (HF.out.2 j hj hjg)⟩
      have hbk := HBD.out k
      subst hoe
      by_cases h1 : a = b
      · have q1 : (a != b) = false := by simpa using h1
        have HN : Hid (lnkL (es.take (k + 1)) v = lnkL (es.take k) v) := by show _ = _; rw [lnkL_next hget]; unfold lnkX; rw [if_neg (fun hh => hh.1 h1)]; simp
        clear h1 hbb bx hBr hget
        go_wp2_with fail
        go_roundg (es.length - (k + 1))
        case rel => exact ⟨k + 1, by omega, rfl, by go_num, by rw [HN.out]; exact HR4, HF4⟩
        case measure => rw [HGM.out]; omega
      · have q1 : (a != b) = true := by simpa using h1
        by_cases h2 : a = (v : Int) ∨ b = (v : Int)
        · obtain ⟨z, hz, hzN, hzv, hmm, hnx⟩ := lnk_edge HOK.out hget ⟨h1, h2⟩
          obtain ⟨D, hD⟩ : ∃ D, D = linkAll v (-1) left (lnkL (es.take k) v) := ⟨_, rfl⟩
          have hbv := hbk v hk
          have hbz := hbk z hk
          rw [← hD] at hbv hbz HR4
          have e0 : W4.cell? ⟨gd, v, none⟩ = some (.int .i64 (D v)) := HR4.out.cell (lst_get D hv)
          have f0 := HR4.out.free v
          have e2 : W4.cell? ⟨gd, z, none⟩ = some (.int .i64 (D z)) := HR4.out.cell (lst_get D hzN)
          have hv0 : (0 : Int) ≤ v := by omega
          have hv1 : (v : Int) < N := by omega
          have hz0 : (0 : Int) ≤ z := by omega
          have hz1 : (z : Int) < N := by omega
          obtain ⟨W5, hW5⟩ : ∃ W5, (W4.setCell ⟨gd, v, none⟩ (.int .i64 (D v + m))).drew = W5 := ⟨_, rfl⟩
          have hn5 : ∀ j, j ≠ gd → W5.heap[j]? = W4.heap[j]? := fun j hj => by rw [← hW5]; exact Below.heap_setCell W4 ⟨gd, v, none⟩ _ j hj
          have R5 : Row1 (Value.int .i64) W5 gd 3 (lst N (putF D v (D v + m))) rest := by
            rw [← hW5]
            have h5 := HR4.out.put (i := v) (by rw [lst_len]; exact hv) (D v + m)
            rw [lst_set] at h5
            exact h5
          have b5 : Below w0.heap.size W4 W5 := by rw [← hW5]; exact ((Below.refl _ W4).setCell hgd _).drew
          have bx5 : Box W5 wr.heap.size [.int .i64 a, .int .i64 b, .int .i64 m] 123 := bx.keep (hn5 _ (by omega))
          have x05 := bx5.cell 0
          have x15 := bx5.cell 1
          have x25 := bx5.cell 2
          simp only [List.getElem?_cons_zero, List.getElem?_cons_succ] at x05 x15 x25
          have e25 : W5.cell? ⟨gd, z, none⟩ = some (.int .i64 (D z)) := by
            have h5 : W5.cell? ⟨gd, z, none⟩ = some (.int .i64 (putF D v (D v + m) z)) := R5.cell (lst_get _ hzN)
            rw [putF_ne _ _ hzv] at h5
            exact h5
          have f25 := R5.free z
          have HP : Hid (Row1 (Value.int .i64) (W5.setCell ⟨gd, z, none⟩ (.int .i64 (D z - m))).drew gd 3 (lst N (linkAll v (-1) left (lnkL (es.take (k + 1)) v))) rest) := by
            have h5 := R5.put (i := z) (by rw [lst_len]; exact hzN) (D z - m)
            rw [lst_set] at h5
            have e : linkAll v (-1) left (lnkL (es.take (k + 1)) v) = updF (putF D v (D v + m)) z (D z - m) := by
              rw [hnx, linkAll_snoc, ← hD]
              unfold linkStep
              simp only [Int.toNat_natCast]
              rw [putF_ne _ _ hzv, show D v - m * -1 = D v + m by omega, show D z + m * -1 = D z - m by omega]
              rfl
            rw [e]
            exact h5
          have HQ : Hid (Fd w0.heap.size gd w (W5.setCell ⟨gd, z, none⟩ (.int .i64 (D z - m))).drew) :=
            ⟨((HF4.out.1.trans b5).setCell hgd _).drew, fun j hj hjg => (Below.heap_setCell W5 ⟨gd, z, none⟩ _ j hjg).trans ((hn5 j hjg).trans (HF4.out.2 j hj hjg))⟩
          have HW5 := hide hW5
          have HD := hide hD
          clear hbb bx hBr hget hnx hD hn5 R5 b5 bx5 hbk
          generalize D v = dv at *
          generalize D z = dz at *
          by_cases h3 : a = (v : Int)
          · have q2 : (a == (v : Int)) = true := by simpa using h3
            have hz2 : a + b - v = z := hz
            clear h1 h2 h3 hz
            go_wp2_with fail
            clear hW4 hW5
            go_region
            all_goals
              rw [HW5.out]
              clear x0 x1 x2 e0 e2 f0
              go_wp2_with fail
              go_region
              all_goals
                go_wp2_with fail
                go_roundg (es.length - (k + 1))
                case rel => exact ⟨k + 1, by omega, rfl, by go_num, HP, HQ⟩
                case measure => rw [HGM.out]; omega
          · have q2 : (a == (v : Int)) = false := by simpa using h3
            have q3 : (b == (v : Int)) = true := by
              rcases h2 with h | h
              · exact absurd h h3
              · simpa using h
            have hz2 : a + b - v = z := hz
            clear h1 h2 h3 hz
            go_wp2_with fail
            clear hW4 hW5
            go_region
            all_goals
              rw [HW5.out]
              clear x0 x1 x2 e0 e2 f0
              go_wp2_with fail
              go_region
              all_goals
                go_wp2_with fail
                go_roundg (es.length - (k + 1))
                case rel => exact ⟨k + 1, by omega, rfl, by go_num, HP, HQ⟩
                case measure => rw [HGM.out]; omega
        · have q2 : (a == (v : Int)) = false := by simp; exact fun h => h2 (.inl h)
          have q3 : (b == (v : Int)) = false := by simp; exact fun h => h2 (.inr h)
          have HN : Hid (lnkL (es.take (k + 1)) v = lnkL (es.take k) v) := by show _ = _; rw [lnkL_next hget]; unfold lnkX; rw [if_neg (fun hh => h2 hh.2)]; simp
          clear h1 h2 hbb bx hBr hget
          go_wp2_with fail
          go_roundg (es.length - (k + 1))
          case rel => exact ⟨k + 1, by omega, rfl, by go_num, by rw [HN.out]; exact HR4, HF4⟩
          case measure => rw [HGM.out]; omega
    · have hke : es.take k = es := List.take_of_length_le (by omega)
      have HRE : Hid (Row1 (Value.int .i64) wr gd 3 (lst N (borF es v left)) rest) := by
        have h5 := HR.out
        rw [hke] at h5
        exact h5
      clear hke
      go_wp2_with fail
      go_end0
      exact ⟨rfl, HRE.out, HF.out⟩
end Go.Proofs.YtpgopmmobbemcaaGreat

set_option linter.unusedVariables false
set_option linter.unusedSimpArgs false
namespace Go.Proofs.YtpgopmmobbemcaaGreat
open Go.RowKit

/-- The greatest of a number and a list. -/
def maxF (x : Int) (l : List Int) : Int := l.foldl max x
theorem maxF_snoc (x : Int) (l : List Int) (y : Int) : maxF x (l ++ [y]) = max (maxF x l) y := by unfold maxF; rw [List.foldl_append]; rfl
theorem maxF_ge (x : Int) : ∀ l : List Int, x ≤ maxF x l ∧ ∀ y ∈ l, y ≤ maxF x l := fun l => by
  induction l generalizing x with
  | nil => exact ⟨Int.le_refl _, fun y hy => by simp at hy⟩
  | cons z r ih =>
    obtain ⟨h1, h2⟩ := ih (max x z)
    have e : maxF x (z :: r) = maxF (max x z) r := rfl
    rw [e]
    refine ⟨by omega, fun y hy => ?_⟩
    rcases List.mem_cons.1 hy with rfl | hy
    · omega
    · exact h2 y hy
theorem maxF_mem (x : Int) : ∀ l : List Int, maxF x l = x ∨ maxF x l ∈ l := fun l => by
  induction l generalizing x with
  | nil => exact .inl rfl
  | cons z r ih =>
    have e : maxF x (z :: r) = maxF (max x z) r := rfl
    rw [e]
    rcases ih (max x z) with h | h
    · rw [h]
      rcases Int.le_total x z with h1 | h1
      · right; rw [Int.max_eq_right h1]; simp
      · left; exact Int.max_eq_left h1
    · exact .inr (List.mem_cons_of_mem _ h)
set_option maxHeartbeats 400000 in
theorem maxI_any (x0 : Int) (l : List Int) (oa : Option Addr) (c : Nat) (F : Foot) (w : World) (hs : SliceR intR 1 F w oa (x0 :: l)) (hc : l.length + 1 ≤ c) (hc2 : l.length + 1 ≤ 9223372036854775807) :
    Calls Tryz.prog 127 #[.slice oa (x0 :: l).length c] w fun e w' => e = .returned (.int .i64 (maxF x0 l)) ∧ w = w' := by
  obtain ⟨x1, hd0, hg0, i0, b, off, hoa, _, c0⟩ := hs.int_at (i := 0) (by simp)
  have hx1 : x1 = x0 := by simpa using hg0.symm
  subst hx1
  have hoa' := hoa
  subst hoa'
  clear hd0 hg0 hoa i0
  rw [Nat.add_zero] at c0
  obtain ⟨n, hn⟩ : ∃ n, n = (x1 :: l).length := ⟨_, rfl⟩
  have hn2 : n = l.length + 1 := by rw [hn]; simp
  have HNL := hide hn2
  rw [← hn]
  have hnc : n ≤ c := by omega
  have hn3 : 1 ≤ n ∧ n ≤ 9223372036854775807 := by omega
  have HN := hide hn
  have hl1 : decide ((n : Int) < 1) = false := by simp; omega
  clear hn hn2 hc hc2
  go_enter Tryz.func127, Tryz.ntmps127
  go_wp2_with fail
  go_loop [3, 4] (fun mv i => ∃ (k : Nat), 0 < k ∧ k ≤ n ∧ mv = .int .i64 (maxF x1 (l.take (k - 1))) ∧ i = .int .i64 k) (fun _ i => n - (intOf i).toNat)
  case atStart => exact ⟨1, by omega, by omega, rfl, rfl⟩
  case round =>
    obtain ⟨k, hk0, hk, rfl, rfl⟩ := hrel
    obtain ⟨M, hM⟩ : ∃ M, M = maxF x1 (l.take (k - 1)) := ⟨_, rfl⟩
    rw [← hM]
    by_cases hlt : k < n
    · obtain ⟨x, hd, hget, _, b', off', hoa, _, cx⟩ := hs.int_at (i := k) (by rw [← HN.out]; exact hlt)
      injection hoa with hoa
      injection hoa with e1 e2
      subst e1 e2
      have HS : Hid (maxF x1 (l.take (k + 1 - 1)) = max M x) := by
        show _ = _
        rw [hM, show k + 1 - 1 = (k - 1) + 1 by omega, List.take_add_one]
        have : l[k - 1]? = some x := by
          rw [show k = (k - 1) + 1 by omega, List.getElem?_cons_succ] at hget
          exact hget
        rw [this]
        exact maxF_snoc _ _ _
      clear hd hget hM
      by_cases hmx : M ≤ x
      · have HS3 : Hid (maxF x1 (l.take (k + 1 - 1)) = x) := by show _ = _; rw [HS.out]; omega
        go_wp2_with fail
        all_goals (try omega)
        all_goals
          go_round
          case rel => exact ⟨k + 1, by omega, by omega, by rw [HS3.out] <;> go_num, by go_num⟩
          case measure => simp [intOf]; omega
      · have HS3 : Hid (maxF x1 (l.take (k + 1 - 1)) = M) := by show _ = _; rw [HS.out]; omega
        go_wp2_with fail
        all_goals (try omega)
        all_goals
          go_round
          case rel => exact ⟨k + 1, by omega, by omega, by rw [HS3.out] <;> go_num, by go_num⟩
          case measure => simp [intOf]; omega
    · have hke : k = n := by omega
      have HS3 : Hid (M = maxF x1 l) := by show _ = _; rw [hM, hke, HNL.out, Nat.add_sub_cancel, List.take_length]
      clear hke hM
      go_wp2_with fail
      go_ret
      exact ⟨by rw [HS3.out]; rfl, rfl⟩
set_option maxHeartbeats 400000 in
theorem maxS_any (x0 : Int) (l : List Int) (oa : Option Addr) (c : Nat) (F : Foot) (w : World) (hs : SliceR intR 1 F w oa (x0 :: l)) (hc : l.length + 1 ≤ c) (hc2 : l.length + 1 ≤ 9223372036854775807) :
    Calls Tryz.prog 54 #[.slice oa (x0 :: l).length c] w fun e w' => e = .returned (.int .i64 (maxF x0 l)) ∧ w = w' := by
  obtain ⟨x1, hd0, hg0, i0, b, off, hoa, _, c0⟩ := hs.int_at (i := 0) (by simp)
  have hx1 : x1 = x0 := by simpa using hg0.symm
  subst hx1
  have hoa' := hoa
  subst hoa'
  clear hd0 hg0 hoa i0
  rw [Nat.add_zero] at c0
  obtain ⟨n, hn⟩ : ∃ n, n = (x1 :: l).length := ⟨_, rfl⟩
  have hn2 : n = l.length + 1 := by rw [hn]; simp
  have HNL := hide hn2
  rw [← hn]
  have hnc : n ≤ c := by omega
  have hn3 : 1 ≤ n ∧ n ≤ 9223372036854775807 := by omega
  have HN := hide hn
  have hl1 : decide ((n : Int) < 1) = false := by simp; omega
  clear hn hn2 hc hc2
  go_enter Tryz.func54, Tryz.ntmps54
  go_wp2_with fail
  go_loop [3, 4] (fun mv i => ∃ (k : Nat), 0 < k ∧ k ≤ n ∧ mv = .int .i64 (maxF x1 (l.take (k - 1))) ∧ i = .int .i64 k) (fun _ i => n - (intOf i).toNat)
  case atStart => exact ⟨1, by omega, by omega, rfl, rfl⟩
  case round =>
    obtain ⟨k, hk0, hk, rfl, rfl⟩ := hrel
    obtain ⟨M, hM⟩ : ∃ M, M = maxF x1 (l.take (k - 1)) := ⟨_, rfl⟩
    rw [← hM]
    by_cases hlt : k < n
    · obtain ⟨x, hd, hget, _, b', off', hoa, _, cx⟩ := hs.int_at (i := k) (by rw [← HN.out]; exact hlt)
      injection hoa with hoa
      injection hoa with e1 e2
      subst e1 e2
      have HS : Hid (maxF x1 (l.take (k + 1 - 1)) = max M x) := by
        show _ = _
        rw [hM, show k + 1 - 1 = (k - 1) + 1 by omega, List.take_add_one]
        have : l[k - 1]? = some x := by
          rw [show k = (k - 1) + 1 by omega, List.getElem?_cons_succ] at hget
          exact hget
        rw [this]
        exact maxF_snoc _ _ _
      clear hd hget hM
      by_cases hmx : M ≤ x
      · have HS3 : Hid (maxF x1 (l.take (k + 1 - 1)) = x) := by show _ = _; rw [HS.out]; omega
        go_wp2_with fail
        all_goals (try omega)
        all_goals
          go_round
          case rel => exact ⟨k + 1, by omega, by omega, by rw [HS3.out] <;> go_num, by go_num⟩
          case measure => simp [intOf]; omega
      · have HS3 : Hid (maxF x1 (l.take (k + 1 - 1)) = M) := by show _ = _; rw [HS.out]; omega
        go_wp2_with fail
        all_goals (try omega)
        all_goals
          go_round
          case rel => exact ⟨k + 1, by omega, by omega, by rw [HS3.out] <;> go_num, by go_num⟩
          case measure => simp [intOf]; omega
    · have hke : k = n := by omega
      have HS3 : Hid (M = maxF x1 l) := by show _ = _; rw [hM, hke, HNL.out, Nat.add_sub_cancel, List.take_length]
      clear hke hM
      go_wp2_with fail
      go_ret
      exact ⟨by rw [HS3.out]; rfl, rfl⟩
end Go.Proofs.YtpgopmmobbemcaaGreat

set_option linter.unusedVariables false
set_option linter.unusedSimpArgs false
set_option linter.unnecessarySimpa false
namespace Go.Proofs.YtpgopmmobbemcaaGreat
open Go.RowKit



/-- The error of picks. -/
def pkE (l : List Int) : Int := if 4096 < l.length then 5 else if l.length = 0 then 14 else if negB l = true then 2 else 0
theorem pkE_zero {l : List Int} (h : pkE l = 0) : l.length ≤ 4096 ∧ 0 < l.length ∧ ∀ x ∈ l, 0 ≤ x := by
  unfold pkE at h
  split at h
  · cases h
  · rename_i h1
    split at h
    · cases h
    · rename_i h2
      split at h
      · cases h
      · rename_i h3
        refine ⟨by omega, by omega, fun x hx => ?_⟩
        simp only [negB, List.any_eq_true, not_exists, not_and, decide_eq_true_eq] at h3
        have := h3 x hx
        omega

def pScan : List Int → Int
  | [] => 0
  | x :: r => if x < 0 then 2 else pScan r
theorem pScan_neg : ∀ l : List Int, pScan l = if negB l = true then 2 else 0
  | [] => rfl
  | x :: r => by
    unfold pScan
    rw [pScan_neg r]
    by_cases h : x < 0 <;> simp [negB, h]

set_option maxHeartbeats 1000000 in
theorem picks_any (l : List Int) (oa : Option Addr) (c : Nat) (F : Foot) (w : World) (hs : SliceR intR 1 F w oa l) (hc : l.length ≤ c) (hc2 : l.length ≤ 9223372036854775807) :
    Calls Tryz.prog 28 #[.slice oa l.length c] w fun e w' => e = .returned (.int .i64 (pkE l)) ∧ Below w.heap.size w w' := by
  by_cases h1 : 4096 < l.length
  · have q1 : decide ((4096 : Int) < (l.length : Int)) = true := by simp; omega
    have HR : Hid (pkE l = 5) := if_pos h1
    clear h1
    go_enter Tryz.func28, Tryz.ntmps28
    go_wp2_with fail
    go_ret
    exact ⟨ret_int HR.out.symm, Below.refl _ _⟩
  · have q1 : decide ((4096 : Int) < (l.length : Int)) = false := by simp; omega
    by_cases h0 : l.length = 0
    · have q2 : ((l.length : Int) == 0) = true := by simp [h0]
      have HR : Hid (pkE l = 14) := by show _ = _; unfold pkE; rw [if_neg h1, if_pos h0]
      clear h1 h0
      go_enter Tryz.func28, Tryz.ntmps28
      go_wp2_with fail
      go_ret
      exact ⟨ret_int HR.out.symm, Below.refl _ _⟩
    · have q2 : ((l.length : Int) == 0) = false := by simpa using h0
      have HR : Hid (pkE l = pScan l) := by show _ = _; unfold pkE; rw [if_neg h1, if_neg h0, pScan_neg]
      clear h1 h0
      go_enter Tryz.func28, Tryz.ntmps28
      go_wp2_with fail
      go_loopw [3] (fun iv wr => ∃ k : Nat, k ≤ l.length ∧ iv = .int .i64 k ∧ Hid (pkE l = pScan (l.drop k)) ∧ wr = w) (fun iv _ => l.length - (intOf iv).toNat)
      case atStart => exact ⟨0, by omega, rfl, HR, rfl⟩
      case round =>
        obtain ⟨k, hk, rfl, HS, rfl⟩ := hrel
        by_cases hlt : k < l.length
        · obtain ⟨x, hdr, _, ix, b, off, hod, _, c0⟩ := hs.int_at hlt
          subst hod
          have HS2 : Hid (pkE l = if x < 0 then 2 else pScan (l.drop (k + 1))) := by show _ = _; rw [HS.out, hdr]; rfl
          clear hdr
          by_cases hx : x < 0
          · have q3 : decide (x < 0) = true := by simp [hx]
            have HS3 : Hid (pkE l = 2) := by show _ = _; rw [HS2.out, if_pos hx]
            clear hx
            go_wp2_with fail
            go_ret
            exact ⟨ret_int HS3.out.symm, Below.refl _ _⟩
          · have q3 : decide (x < 0) = false := by simp; omega
            have HS3 : Hid (pkE l = pScan (l.drop (k + 1))) := by show _ = _; rw [HS2.out, if_neg hx]
            clear hx
            go_wp2_with fail
            go_roundw
            case rel => exact ⟨k + 1, by omega, by go_num, HS3, by first | rfl | trivial⟩
            case measure => simp [intOf]; omega
        · have hke : k = l.length := by omega
          have HS3 : Hid (pkE l = 0) := by show _ = _; rw [HS.out, hke, List.drop_length]; rfl
          clear hke
          go_wp2_with fail
          go_ret
          exact ⟨ret_int HS3.out.symm, Below.refl _ _⟩

def fewP (l : List Int) : Bool := if l.length ≤ 60 then true else if 4096 < l.length then decide (l.length ≤ 8192) else false
theorem fewP_any (l : List Int) (oa : Option Addr) (c : Nat) (w : World) : Calls Tryz.prog 16 #[.slice oa l.length c] w fun e w' => e = .returned (.bool (fewP l)) ∧ Below w.heap.size w w' := by
  by_cases h1 : l.length ≤ 60
  · have q1 : decide ((l.length : Int) ≤ 60) = true := by simp; omega
    have HR : Hid (fewP l = true) := if_pos h1
    clear h1
    go_enter Tryz.func16, Tryz.ntmps16
    go_wp2_with fail
    go_ret
    exact ⟨ret_bool HR.out.symm, Below.refl _ _⟩
  · have q1 : decide ((l.length : Int) ≤ 60) = false := by simp; omega
    by_cases h2 : 4096 < l.length
    · have q2 : decide ((4096 : Int) < (l.length : Int)) = true := by simp; omega
      have HR : Hid (fewP l = decide ((l.length : Int) ≤ 8192)) := by
        show _ = _
        unfold fewP
        rw [if_neg h1, if_pos h2]
        simp
        omega
      clear h1 h2
      go_enter Tryz.func16, Tryz.ntmps16
      go_wp2_with fail
      go_ret
      exact ⟨ret_bool HR.out.symm, Below.refl _ _⟩
    · have q2 : decide ((4096 : Int) < (l.length : Int)) = false := by simp; omega
      have HR : Hid (fewP l = false) := by show _ = _; unfold fewP; rw [if_neg h1, if_neg h2]
      clear h1 h2
      go_enter Tryz.func16, Tryz.ntmps16
      go_wp2_with fail
      go_ret
      exact ⟨ret_bool HR.out.symm, Below.refl _ _⟩

end Go.Proofs.YtpgopmmobbemcaaGreat

set_option linter.unusedVariables false
set_option linter.unusedSimpArgs false
namespace Go.Proofs.YtpgopmmobbemcaaGreat
open Go.RowKit

/-- Who is in debt. -/
def poorL (left : Nat → Int) : Nat → List Int
  | 0 => []
  | k + 1 => if left k < 0 then poorL left k ++ [(k : Int)] else poorL left k
theorem poorL_len (left : Nat → Int) : ∀ k, (poorL left k).length ≤ k
  | 0 => by simp [poorL]
  | k + 1 => by
    have := poorL_len left k
    unfold poorL
    split <;> simp <;> omega
theorem poorL_mem {left : Nat → Int} {x : Int} : ∀ {k}, x ∈ poorL left k ↔ ∃ v : Nat, x = v ∧ v < k ∧ left v < 0
  | 0 => by simp [poorL]
  | k + 1 => by
    unfold poorL
    split
    · rename_i h
      rw [List.mem_append, poorL_mem (k := k)]
      simp only [List.mem_singleton]
      constructor
      · rintro (⟨v, h1, h2, h3⟩ | h1)
        · exact ⟨v, h1, by omega, h3⟩
        · exact ⟨k, h1, by omega, h⟩
      · rintro ⟨v, h1, h2, h3⟩
        by_cases e : v = k
        · subst e; exact .inr h1
        · exact .inl ⟨v, h1, by omega, h3⟩
    · rename_i h
      rw [poorL_mem (k := k)]
      constructor
      · rintro ⟨v, h1, h2, h3⟩
        exact ⟨v, h1, by omega, h3⟩
      · rintro ⟨v, h1, h2, h3⟩
        by_cases e : v = k
        · subst e; exact absurd h3 h
        · exact ⟨v, h1, by omega, h3⟩
def allNeg (N : Nat) (s : Nat → Int) : Bool := (List.range N).all fun v => decide (s v < 0)
theorem allNeg_true {N : Nat} {s : Nat → Int} : allNeg N s = true ↔ ∀ v, v < N → s v < 0 := by
  unfold allNeg
  rw [List.all_eq_true]
  exact ⟨fun h v hv => of_decide_eq_true (h v (List.mem_range.2 hv)), fun h v hv => decide_eq_true (h v (List.mem_range.1 hv))⟩
theorem allNeg_max {N : Nat} {s : Nat → Int} {x0 : Int} {l : List Int} (h : lst N s = x0 :: l) : decide (maxF x0 l < 0) = allNeg N s := by
  rw [Bool.eq_iff_iff, decide_eq_true_iff, allNeg_true]
  constructor
  · intro hm v hv
    have h1 : s v ∈ x0 :: l := by rw [← h]; exact List.mem_map.2 ⟨v, List.mem_range.2 hv, rfl⟩
    rcases List.mem_cons.1 h1 with h1 | h1
    · have := (maxF_ge x0 l).1; omega
    · have := (maxF_ge x0 l).2 _ h1; omega
  · intro hs
    have h1 : maxF x0 l ∈ x0 :: l := by
      rcases maxF_mem x0 l with h1 | h1
      · rw [h1]; simp
      · simp [h1]
    rw [← h] at h1
    obtain ⟨v, hv, h2⟩ := List.mem_map.1 h1
    rw [← h2]
    exact hs v (List.mem_range.1 hv)
/-- Who borrows next. -/
def gPick (picks : List Int) (i : Nat) (poor : List Int) : Nat := (poor.getD ((picks.getD (i % picks.length) 0).toNat % poor.length) 0).toNat
def gRun (N : Nat) (es : List Edg) (picks : List Int) : Nat → Nat → (Nat → Int) → (Nat → Int) → Bool × List Int × Int
  | 0, _, left, s => if poorL left N = [] then (true, lst N s, 0) else if allNeg N s = true then (false, lst N s, 0) else (false, [], 12)
  | fuel + 1, i, left, s => if poorL left N = [] then (true, lst N s, 0) else if allNeg N s = true then (false, lst N s, 0) else
      gRun N es picks fuel (i + 1) (borF es (gPick picks i (poorL left N)) left) (putF s (gPick picks i (poorL left N)) (s (gPick picks i (poorL left N)) - 1))
theorem gPick_ok {N : Nat} {picks : List Int} {i : Nat} {left : Nat → Int} (h : poorL left N ≠ []) : gPick picks i (poorL left N) < N ∧ left (gPick picks i (poorL left N)) < 0 ∧ (poorL left N)[(picks.getD (i % picks.length) 0).toNat % (poorL left N).length]? = some ((gPick picks i (poorL left N) : Nat) : Int) := by
  have hl : 0 < (poorL left N).length := by
    cases hp : poorL left N with
    | nil => exact absurd hp h
    | cons a b => simp
  obtain ⟨j, hj⟩ : ∃ j, j = (picks.getD (i % picks.length) 0).toNat % (poorL left N).length := ⟨_, rfl⟩
  have hjl : j < (poorL left N).length := by rw [hj]; exact Nat.mod_lt _ hl
  obtain ⟨x, hx⟩ : ∃ x, (poorL left N)[j]? = some x := ⟨_, List.getElem?_eq_getElem hjl⟩
  obtain ⟨v, rfl, h1, h2⟩ := poorL_mem.1 (List.mem_of_getElem? hx)
  have e : gPick picks i (poorL left N) = v := by
    unfold gPick
    rw [← hj, List.getD_eq_getElem?_getD, hx]
    simp
  rw [e, ← hj]
  exact ⟨h1, h2, hx⟩
def greedyR (M : Nat) (n : Int) (es : List Edg) (f : List Nat) (d picks : List Int) : Bool × List Int × Int :=
  if tErr n es f d ≠ 0 then (false, [], tErr n es f d) else if pkE picks ≠ 0 then (false, [], pkE picks) else gRun n.toNat es picks M 0 (fun v => d.getD v 0) (fun _ => 0)
end Go.Proofs.YtpgopmmobbemcaaGreat

set_option linter.unusedVariables false
set_option linter.unusedSimpArgs false
namespace Go.Proofs.YtpgopmmobbemcaaGreat
open Go.RowKit

theorem picked43_any (l : List Int) (oa : Option Addr) (c : Nat) (F : Foot) (w : World) (hs : SliceR intR 1 F w oa l) (hc : l.length ≤ c) (hc2 : l.length ≤ 9223372036854775807) :
    Calls Tryz.prog 52 #[.slice oa l.length c] w fun e w' => e = .returned (.int .i64 (pkE l)) ∧ w = w' := by
  by_cases h1 : 4096 < l.length
  · have q1 : decide ((4096 : Int) < (l.length : Int)) = true := by simp; omega
    have HR : Hid (pkE l = 5) := if_pos h1
    clear h1
    go_enter Tryz.func52, Tryz.ntmps52
    go_wp2_with fail
    go_ret
    exact ⟨ret_int HR.out.symm, rfl⟩
  · have q1 : decide ((4096 : Int) < (l.length : Int)) = false := by simp; omega
    by_cases h2 : l.length = 0
    · have q2 : ((l.length : Int) == 0) = true := by rw [h2]; rfl
      have HR : Hid (pkE l = 14) := by show _ = _; unfold pkE; rw [if_neg h1, if_pos h2]
      have hl : l = [] := List.eq_nil_of_length_eq_zero h2
      subst hl
      clear h1 h2 q1 q2
      go_enter Tryz.func52, Tryz.ntmps52
      go_wp2_with fail
      go_ret
      exact ⟨ret_int HR.out.symm, rfl⟩
    · have q2 : ((l.length : Int) == 0) = false := by simp; intro e; rw [e] at h2; simp at h2
      have HM := hide (min_any l oa c F w hs hc hc2 (by omega))
      have hR : Hid (pkE l = if negB l = true then 2 else 0) := by show _ = _; unfold pkE; rw [if_neg h1, if_neg h2]
      clear h1 h2 hs
      go_enter Tryz.func52, Tryz.ntmps52
      go_wp2_with fail
      refine HM.out.mono ?_
      rintro e w2 ⟨m, rfl, hm, rfl⟩
      rcases hb : negB l with _ | _
      · rw [hb] at hm hR
        clear hb
        go_wp2_with fail
        go_ret
        exact ⟨ret_int hR.out.symm, rfl⟩
      · rw [hb] at hm hR
        clear hb
        go_wp2_with fail
        go_ret
        exact ⟨ret_int hR.out.symm, rfl⟩
end Go.Proofs.YtpgopmmobbemcaaGreat

set_option linter.unusedVariables false
set_option linter.unusedSimpArgs false
namespace Go.Proofs.YtpgopmmobbemcaaGreat
open Go.RowKit

theorem mk_ints (T E : TypeId) (hT : Tryz.prog.underlying T = some (.slice E)) (hE : (Tryz.prog.info? E).map (fun i => (i.zero, i.size, i.bytes)) = some (some (.int .i64 0), 1, 8)) (n : Nat) (hn : n ≤ 1000000) :
    ∃ Z : Array Value, Z.toList = List.replicate n (.int .i64 0) ∧ ∀ w : World, (Instr.makeSlice T (.int .i64 (n : Int)) (.int .i64 (n : Int))).run Tryz.prog w = .ok (.slice (some ⟨w.heap.size, 0, none⟩) n n) (w.alloc (.cells Z E)) := by
  obtain ⟨i, hi, hz, hs, hb⟩ := info_parts hE
  refine ⟨madeCells #[.int .i64 0] n, toList_madeCells_one _ n, fun w => ?_⟩
  have h := run_make (P := Tryz.prog) w T E i (.int .i64 0) hT hi hz .i64 .i64 (n : Int) (n : Int) (by omega) (Int.le_refl _) (by rw [hb]; omega) (by omega)
  simp only [Int.toNat_natCast, hs, Nat.mul_one] at h
  exact h
theorem cell_set3 {w : World} {a i b : Nat} {v x y z : Value} (h : w.cell? ⟨a, i, none⟩ = some v) (hne : a ≠ b) : (((w.setCell ⟨b, 0, none⟩ x).setCell ⟨b, 1, none⟩ y).setCell ⟨b, 2, none⟩ z).cell? ⟨a, i, none⟩ = some v := by
  have e : ∀ (u : World) (j : Nat) (q : Value), (u.setCell ⟨b, j, none⟩ q).cell? ⟨a, i, none⟩ = u.cell? ⟨a, i, none⟩ := fun u j q => by
    unfold World.cell?
    rw [Below.heap_setCell u ⟨b, j, none⟩ q a hne]
  rw [e, e, e]
  exact h
/-- The processors of the first i vertices. -/
def pilesU (es : List Edg) (n : Nat) (q : Int) : Nat → Option (List Prc)
  | 0 => some []
  | v + 1 => (pilesU es n q v).bind fun l => if (v : Int) = q then some (l ++ [sinkP]) else if (nbrU es v n).length ≤ 16 then some (l ++ [topP (nbrU es v n)]) else none
def nwk0 : Nwk := ⟨[], [], []⟩
/-- What Sandpile comes to. -/
def sandR (n : Int) (es : List Edg) (f : List Nat) (q : Int) (d : List Int) : Nwk × Int :=
  if cfgE n es f q d = 0 then
    match pilesU es n.toNat q n.toNat with
    | some l => (⟨l, List.replicate n.toNat 0, waitD d q n.toNat⟩, 0)
    | none => (nwk0, 12)
  else (nwk0, cfgE n es f q d)
/-- A network in memory. -/
def NwAt (F : Foot) (w : World) (v : Value) (y : Nwk) : Prop := ∃ oq cq os cs ow cw, v = .agg #[.slice oq y.procs.length cq, .slice os y.state.length cs, .slice ow y.waiting.length cw] ∧ y.procs.length ≤ cq ∧ y.state.length ≤ cs ∧ y.waiting.length ≤ cw ∧ SliceR prcR 3 F w oq y.procs ∧ SliceR intR 1 F w os y.state ∧ SliceR (slcR intR 1) 1 F w ow y.waiting
def NwPost (w : World) (r : Nwk × Int) (e : Ending) (w' : World) : Prop := ∃ v, e = .returned (.tuple #[v, .int .i64 r.2]) ∧ NwAt All w' v r.1 ∧ Below w.heap.size w w'
theorem cell_drew {w : World} {a : Addr} {v : Value} (h : w.cell? a = some v) : w.drew.cell? a = some v := h
theorem drew_size (w : World) : w.drew.heap.size = w.heap.size := rfl
theorem row_new {N : Nat} {Zs : Array Value} (hZ : Zs.toList = List.replicate N (.int .i64 0)) (w : World) : Row1 (Value.int .i64) (w.alloc (.cells Zs 3)) w.heap.size 3 (List.replicate N 0) [] := by
  have h := heap_alloc_new w (.cells Zs 3)
  unfold Row1
  rw [h]
  congr 2
  apply Array.toList_inj.1
  rw [hZ]
  simp
section
variable {w3 w4 : World} {N cw : Nat} {ow : Option Addr} {d : List Int} {q : Int} {Zs : Array Value}
end

end Go.Proofs.YtpgopmmobbemcaaGreat

set_option linter.unusedVariables false
set_option linter.unusedSimpArgs false
set_option linter.unnecessarySimpa false
namespace Go.Proofs.YtpgopmmobbemcaaGreat
open Go.RowKit

theorem linkAll_bnd {N : Nat} {v : Nat} : ∀ (r : List (Int × Int)) (d : Nat → Int) (b : Int), (∀ p ∈ r, ∃ u : Nat, p.1 = u ∧ u < N ∧ u ≠ v ∧ 1 ≤ p.2 ∧ p.2 ≤ 50) → (∀ u, -b ≤ d u ∧ d u ≤ b) → ∀ u, -(b + 100 * (r.length : Int)) ≤ linkAll v (-1) d r u ∧ linkAll v (-1) d r u ≤ b + 100 * (r.length : Int) := by
  intro r
  induction r with
  | nil => intro d b _ h u; have := h u; simp [linkAll]; omega
  | cons p r ih =>
    intro d b hp h u
    obtain ⟨z, h1, h2, h3, h4⟩ := hp p (by simp)
    have h5 := ih (linkStep v (-1) d p) (b + 100) (fun x hx => hp x (by simp [hx])) (fun z => by
      have := h z
      rw [linkStep_at (by omega)]
      split <;> split <;> omega) u
    have e : linkAll v (-1) d (p :: r) = linkAll v (-1) (linkStep v (-1) d p) r := rfl
    rw [e, List.length_cons]
    push_cast
    omega
theorem borF_bnd {N : Nat} {es : List Edg} (hok : EOk N es) {v : Nat} {left : Nat → Int} {b : Int} (h : ∀ u, -b ≤ left u ∧ left u ≤ b) (u : Nat) : -(b + 100000) ≤ borF es v left u ∧ borF es v left u ≤ b + 100000 := by
  have h1 := linkAll_bnd (N := N) (v := v) (lnkL es v) left b (fun p hp => lnk_in hok hp) h u
  have h2 := lnk_len es (v : Int)
  have h3 := hok.len
  unfold borF
  omega
def GrePost (w : World) (r : Bool × List Int × Int) (e : Ending) (w' : World) : Prop :=
  ∃ v, e = .returned (.tuple #[.bool r.1, v, .int .i64 r.2.2]) ∧ OwnS intR 1 w.heap.size 3 Non w' v r.2.1 ∧ Below w.heap.size w w'
/-- The chips and the script of the game, in memory. -/
structure GMem (w0 : World) (N gd gs : Nat) (rest : List Value) (left s : Nat → Int) (w : World) : Prop where
  rd : Row1 (Value.int .i64) w gd 3 (lst N left) rest
  rs : Row1 (Value.int .i64) w gs 3 (lst N s) []
  ne : gd ≠ gs
  lo : w0.heap.size ≤ gd ∧ w0.heap.size ≤ gs
  be : Below w0.heap.size w0 w
theorem GMem.below {w0 w w' : World} {N gd gs : Nat} {rest : List Value} {left s : Nat → Int} (h : GMem w0 N gd gs rest left s w) (hb : Below w.heap.size w w') : GMem w0 N gd gs rest left s w' :=
  ⟨h.rd.below hb, h.rs.below hb, h.ne, h.lo, below_then h.be hb⟩
theorem lst_zero (N : Nat) : lst N (fun _ => 0) = List.replicate N 0 := by
  apply List.ext_getElem?
  intro i
  by_cases hi : i < N
  · rw [lst_get _ hi, List.getElem?_replicate, if_pos hi]
  · rw [List.getElem?_eq_none (by rw [lst_len]; omega), List.getElem?_eq_none (by simp; omega)]
theorem GMem.own {w0 w : World} {N gd gs : Nat} {rest : List Value} {left s : Nat → Int} (h : GMem w0 N gd gs rest left s w) (h12 : 1 ≤ N ∧ N ≤ 12) (hs : ∀ u, -2000000 ≤ s u ∧ s u ≤ 0) {B : Nat} (hB : B ≤ w0.heap.size) : OwnS intR 1 B 3 Non w (.slice (some ⟨gs, 0, none⟩) N N) (lst N s) := by
  have h5 := h.rs.ownInts (base := B) (F := Non) (cap := N) (fun x hx => by obtain ⟨v, _, rfl⟩ := List.mem_map.1 hx; have := hs v; unfold I64; omega) (by have := h.lo; omega) (by rw [lst_len]; simp) (by unfold maxLen; omega)
  rw [lst_len] at h5
  exact h5
set_option maxRecDepth 100000 in
set_option maxHeartbeats 8000000 in
theorem greedy_any (n : Int) (es : List Edg) (oe : Option Addr) (c : Nat) (F : Foot) (w : World) (hs : SliceR edgR 3 F w oe es) (hc : es.length ≤ c) (hc2 : es.length ≤ 1000)
    (f : List Nat) (hU : Hid (gErr n es = 0 → Uf f (eL es))) (d : List Int) (od : Option Addr) (cd : Nat) (G : Foot) (hd : SliceR intR 1 G w od d) (hdc : d.length ≤ cd) (hdl : d.length ≤ 9223372036854775807)
    (pk : List Int) (op : Option Addr) (cp : Nat) (H : Foot) (hp : SliceR intR 1 H w op pk) (hpc : pk.length ≤ cp) (hpl : pk.length ≤ 9223372036854775807) :
    Calls Tryz.prog 17 #[.agg #[.int .i64 n, .slice oe es.length c], .slice od d.length cd, .slice op pk.length cp] w (GrePost w (greedyR 1048576 n es f d pk)) := by
  obtain ⟨M, hM⟩ : ∃ M : Nat, M = 1048576 := ⟨_, rfl⟩
  rw [← hM]
  have HM := hide hM
  have hb0 := bnew (Below.refl w.heap.size w) (.cells #[.int .i64 n, .slice oe es.length c] 24)
  have bxx := Box.new w [.int .i64 n, .slice oe es.length c] 24
  have HK := hide (dgiven_any n es oe c F _ (hs.below edgR_ok hb0) hc (by omega) f hU d od cd G (hd.below intR_ok hb0) hdc hdl)
  have HPI : Hid (∀ u, Below w.heap.size w u → Calls Tryz.prog 52 #[.slice op pk.length cp] u fun e w' => e = .returned (.int .i64 (pkE pk)) ∧ u = w') := fun u hu => picked43_any pk op cp H u (hp.below intR_ok hu) hpc hpl
  have HD := hide hd
  have HS := hide hs
  have HPK := hide hp
  have HB := hide hb0
  have HX := hide bxx
  clear hs hd hp hb0 bxx hM
  go_enter Tryz.func17, Tryz.ntmps17
  go_wp2_with fail
  refine HK.out.mono ?_
  rintro e w2 ⟨rfl, hb2⟩
  have HB2 := hide (below_then HB.out hb2)
  have HX2 := hide (HX.out.below hb2)
  have HPI2 := hide (HPI.out w2 HB2.out)
  clear hb2
  by_cases hV : tErr n es f d = 0
  case neg =>
    have hR : Hid (greedyR M n es f d pk = (false, [], tErr n es f d)) := if_pos hV
    have hq : (tErr n es f d != 0) = true := by simpa using hV
    go_wp2_with fail
    go_ret3
    exact ⟨_, by rw [hR.out]; rfl, by rw [hR.out]; exact OwnS.nil _ _ _ _ _ _, HB2.out⟩
  obtain ⟨N, rfl, hT⟩ := tErr_ok hV
  have HT := hide hT
  have h12 := hT.n12
  have hdN := hT.len
  have HOK := hide (EOk.of hT.g hc2)
  by_cases hP : pkE pk = 0
  case neg =>
    have hR : Hid (greedyR M N es f d pk = (false, [], pkE pk)) := by show _ = _; unfold greedyR; rw [if_neg (fun h => h hV), if_pos hP]
    have hq : (pkE pk != 0) = true := by simpa using hP
    rw [hV]
    clear hV hT hdN
    go_wp2_with fail
    refine HPI2.out.mono ?_
    rintro e w3 ⟨rfl, rfl⟩
    go_wp2_with fail
    go_ret3
    exact ⟨_, by rw [hR.out]; rfl, by rw [hR.out]; exact OwnS.nil _ _ _ _ _ _, HB2.out⟩
  obtain ⟨D, hD⟩ : ∃ D : Nat → Int, D = fun v => d.getD v 0 := ⟨_, rfl⟩
  have hR : Hid (greedyR M N es f d pk = gRun N es pk M 0 D (fun _ => 0)) := by show _ = _; unfold greedyR; rw [if_neg (fun h => h hV), if_neg (fun h => h hP), Int.toNat_natCast, hD]
  have HDB : Hid (∀ u, -1048576 ≤ D u ∧ D u ≤ 1048576) := fun u => by
    rw [hD]
    show -1048576 ≤ d.getD u 0 ∧ d.getD u 0 ≤ 1048576
    rw [List.getD_eq_getElem?_getD]
    cases h : d[u]? with
    | none => simp
    | some x => have := hT.dB x (List.mem_of_getElem? h); simpa using this
  have HPZ := hide (pkE_zero hP)
  obtain ⟨Zs, hZs, hmk⟩ := mk_ints 26 3 Tryz.underlying26 (by kernel_rfl) N (by omega)
  have HDL : Hid (d = lst N D) := by
    show _ = _
    apply List.ext_getElem?
    intro i
    by_cases hi : i < N
    · rw [lst_get _ hi, hD]
      show _ = some (d.getD i 0)
      rw [List.getD_eq_getElem?_getD, List.getElem?_eq_getElem (by omega)]
      rfl
    · rw [List.getElem?_eq_none (by omega), List.getElem?_eq_none (by rw [lst_len]; omega)]
  have HCL : Hid (∀ u, Below w2.heap.size w2 u → Calls Tryz.prog 53 #[.slice od N cd] u fun e w' => ∃ gd c2 rest, e = .returned (.slice (some ⟨gd, 0, none⟩) N c2) ∧ Row1 (Value.int .i64) w' gd 3 (lst N D) rest ∧ N ≤ c2 ∧ u.heap.size ≤ gd ∧ Below u.heap.size u w') := fun u hu => by
    have h := cloneD_any d od cd G u ((HD.out.below intR_ok HB2.out).below intR_ok hu) hdc (by omega)
    rw [hdN] at h
    refine h.mono ?_
    rintro e w' ⟨v, rfl, ho, hb⟩
    obtain ⟨g, cap, rest, rfl, h1, h2, _, h4, _⟩ := ho.row (by intro e; rw [e] at hdN; simp at hdN; omega)
    rw [hdN] at h2 ⊢
    rw [HDL.out] at h4
    exact ⟨g, cap, rest, rfl, h4, by omega, h1, hb⟩
  have HZS := hide hZs
  obtain ⟨np, hnp⟩ : ∃ np, np = pk.length := ⟨_, rfl⟩
  have HNP := hide hnp
  have hnp1 : 0 < np ∧ np ≤ 4096 := by have := HPZ.out; omega
  have hnpc : np ≤ cp := by omega
  have y0 := HX2.out.cell 0
  simp only [List.getElem?_cons_zero, List.getElem?_cons_succ] at y0
  rw [hV]
  rw [← hnp] at HPI2 ⊢
  rw [hP] at HPI2
  rw [hdN]
  clear hV hT hdN hP hnp hdc hdl hZs hD hpc hpl HDL
  go_wp2_with fail
  refine HPI2.out.mono ?_
  rintro e w3 ⟨rfl, hw3⟩
  subst hw3
  go_upto_region 7 with fail
  go_cut [11, 12] (fun s11 s12 wx => ∃ gd c2 gs rest, s11 = .slice (some ⟨gd, 0, none⟩) N c2 ∧ s12 = .slice (some ⟨gs, 0, none⟩) N N ∧ N ≤ c2 ∧ Hid (GMem w2 N gd gs rest D (fun _ => 0) wx))
  case first =>
    go_region_held3 (fun w' => w'.cell? ⟨w.heap.size, 0, none⟩ = some (.int .i64 N)) (first | with_reducible exact y0 | with_reducible exact cell_next (cell_next y0 _) _ | with_reducible exact cell_drew (cell_next y0 _) | with_reducible exact cell_drew y0 | with_reducible exact cell_next y0 _) (first
      | (go_at_call 53; refine (HCL.out _ (by first | with_reducible exact (bnew (Below.refl _ _) _).drew | with_reducible exact (Below.refl _ _).drew)).mono ?_; rintro e w4 ⟨gd, c2, rest, rfl, hgd, hc2', hgl, hb4⟩; replace y0 := (hb4.cell (by first | with_reducible exact World.block_lt_of_cell? _ _ (cell_drew (cell_next y0 _)) | with_reducible exact World.block_lt_of_cell? _ _ (cell_drew y0))).trans (by first | with_reducible exact cell_drew (cell_next y0 _) | with_reducible exact cell_drew y0)))
    · go_wp2_with fail
      go_meet
      have hb40 := hb4
      simp only [drew_size, World.size_alloc] at hb4 hgl
      have hlt := hgd.lt
      have hsz := hb4.size
      have hbU : Below w2.heap.size w2 (w4.alloc (.cells Zs 3)) := ((Below.refl w2.heap.size w2).drew.trans hb4).alloc (by omega) (.cells Zs 3)
      exact ⟨gd, c2, w4.heap.size, rest, rfl, rfl, hc2', ⟨hgd.new _, by show Row1 _ _ _ _ (lst N fun _ => 0) _; rw [lst_zero]; exact row_new HZS.out w4, by omega, ⟨by omega, by omega⟩, hbU⟩⟩
    · go_wp2_with fail
      go_meet
      have hb40 := hb4
      simp only [drew_size, World.size_alloc] at hb4 hgl
      have hlt := hgd.lt
      have hsz := hb4.size
      simp only [drew_size, World.size_alloc] at hsz
      have hbU : Below w2.heap.size w2 w4 := (bnew (Below.refl w2.heap.size w2) (.cells Zs 3)).drew.trans (hb4.mono (by omega))
      exact ⟨gd, c2, w2.heap.size, rest, rfl, rfl, hc2', ⟨hgd, by show Row1 _ _ _ _ (lst N fun _ => 0) _; rw [lst_zero]; exact (row_new HZS.out w2).draw.below hb40, by omega, ⟨by omega, by omega⟩, hbU⟩⟩
  case rest =>
    obtain ⟨gd, c2, gs, rest, rfl, rfl, hc2', HG0⟩ := hcut
    have hwl := HX2.out.lt
    clear y0 hmk HCL HZS HPI HPI2 HK
    go_wp2_with fail
    go_loopg [13] M (fun gm iv wx => ∃ (k : Nat) (left s : Nat → Int), k ≤ M ∧ gm = M - k ∧ iv = .int .i64 k ∧ Hid (GMem w2 N gd gs rest left s wx) ∧ Hid (gRun N es pk M 0 D (fun _ => 0) = gRun N es pk (M - k) k left s) ∧ Hid (∀ u, -(1048576 + 100000 * (k : Int)) ≤ left u ∧ left u ≤ 1048576 + 100000 * (k : Int)) ∧ Hid (∀ u, -(k : Int) ≤ s u ∧ s u ≤ 0))
    case atStart => exact ⟨0, D, fun _ => 0, by omega, by omega, rfl, HG0, rfl, fun u => by have := HDB.out u; omega, fun u => by simp⟩
    case round =>
      obtain ⟨k, left, s, hk, hgm, rfl, HG, HRUN, HLB, HSB⟩ := hrel
      have HGM := hide hgm
      have hMk : M ≤ 1048576 := by have := HM.out; omega
      clear hgm HG0
      obtain ⟨wt, hwt0⟩ : ∃ wt : World, wt = wr := ⟨_, rfl⟩
      subst hwt0
      go_wp2_with fail
      go_loopg [14, 15, 16, 38] N (fun gm pv _ _ iv wx => ∃ j : Nat, j ≤ N ∧ gm = N - j ∧ iv = .int .i64 j ∧ Hid (OwnS intR 1 wt.heap.size 3 Non wx pv (poorL left j)) ∧ Hid (Below wt.heap.size wt wx))
      case atStart => exact ⟨0, by omega, by omega, rfl, OwnS.nil _ _ _ _ _ _, Below.refl _ _⟩
      case round =>
        obtain ⟨j, hj, hgm, rfl, HO, HBt⟩ := hrel
        have HGM2 := hide hgm
        clear hgm
        by_cases hlt : j < N
        · have e0 : wr.cell? ⟨gd, j, none⟩ = some (.int .i64 (left j)) := (HG.out.rd.below HBt.out).cell (lst_get left hlt)
          have hj0 : (0 : Int) ≤ j := by omega
          have hj1 : (j : Int) < N := by omega
          have hlb := HLB.out j
          have HPJ : Hid (poorL left (j + 1) = if left j < 0 then poorL left j ++ [(j : Int)] else poorL left j) := rfl
          have HPL := hide (poorL_len left j)
          have hij : I64 (j : Int) := by unfold I64; omega
          generalize left j = x at *
          by_cases hx : x < 0
          · have HPJ2 : Hid (poorL left (j + 1) = poorL left j ++ [(j : Int)]) := by show _ = _; rw [HPJ.out, if_pos hx]
            go_wp2_with (at_builtin; refine wpList_append_rep rfl (.tmp 45) (.tmp 47) 25 rfl wt.heap.size 3 _ 1 8 Tryz.underlying25 iInfo rfl (by decide) intR_ok Non All _ (poorL left j) (by simp [Act.eval, Act.put]) (HO.out.new intR_ok _) (some ⟨wr.heap.size, 0, none⟩) 1 [(j : Int)] (by simp [Act.eval, Act.put]) (intlF wr j hij trivial) (fun _ _ h => h) (fun _ h => h.elim) (by have := HPL.out; simp; omega) (by have := HPL.out; simp; omega) (by rw [alloc_size']; have := HBt.out.size; omega) ?_; intro v' w14 ho hb5 hg5; have HO5 := hide ho; have HB5' := hide hb5; clear ho hb5 hg5)
            go_roundg (N - (j + 1))
            case measure => have := HGM2.out; omega
            case rel => exact ⟨j + 1, by omega, rfl, by go_num, by rw [HPJ2.out]; exact HO5.out, (HBt.out.alloc HBt.out.size _).trans HB5'.out⟩
          · have HPJ2 : Hid (poorL left (j + 1) = poorL left j) := by show _ = _; rw [HPJ.out, if_neg hx]
            go_wp2_with fail
            go_roundg (N - (j + 1))
            case measure => have := HGM2.out; omega
            case rel => exact ⟨j + 1, by omega, rfl, by go_num, by rw [HPJ2.out]; exact HO.out, HBt.out⟩
        · have hje : j = N := by omega
          have HOE : Hid (OwnS intR 1 wt.heap.size 3 Non wr u14 (poorL left N)) := by rw [← hje]; exact HO.out
          obtain ⟨oP, cP, hpv, hcP, hsP⟩ := HOE.out.slice intR_ok
          subst hpv
          obtain ⟨pl, hpl⟩ : ∃ pl, pl = (poorL left N).length := ⟨_, rfl⟩
          have HPL := hide hpl
          have hplN : pl ≤ 12 := by have := poorL_len left N; omega
          have HSP := hide hsP
          have HGr := hide (HG.out.below HBt.out)
          have hMk2 : ∀ u, -2000000 ≤ s u ∧ s u ≤ 0 := fun u => by have := HSB.out u; omega
          have HMK2 := hide hMk2
          have HBW : Hid (Below w.heap.size w wr) := below_then HB2.out HGr.out.be
          have hw2 := HB2.out.size
          rw [← hpl] at hcP ⊢
          clear hje hpl hsP HO HOE hMk2
          by_cases hp0 : pl = 0
          · have hpe : poorL left N = [] := List.eq_nil_of_length_eq_zero (by have := HPL.out; omega)
            have HR2 : Hid (gRun N es pk M 0 D (fun _ => 0) = (true, lst N s, 0)) := by
              show _ = _
              rw [HRUN.out]
              cases M - k <;> (unfold gRun; rw [if_pos hpe])
            have q1 : ((pl : Int) == 0) = true := by rw [hp0]; rfl
            clear hp0 hpe
            go_wp2_with fail
            go_ret3
            exact ⟨_, by rw [hR.out, HR2.out]; rfl, by rw [hR.out, HR2.out]; exact HGr.out.own h12 HMK2.out hw2, HBW.out⟩
          · have hpe : poorL left N ≠ [] := fun h => hp0 (by rw [HPL.out, h]; rfl)
            have q1 : ((pl : Int) == 0) = false := by simp; intro e; rw [e] at hp0; exact hp0 rfl
            obtain ⟨x0, l0, hl0⟩ : ∃ x0 l0, lst N s = x0 :: l0 := by
              cases hl : lst N s with
              | nil => have := lst_len N s; rw [hl] at this; simp at this; omega
              | cons a b => exact ⟨a, b, rfl⟩
            have hll : (x0 :: l0).length = N := by rw [← hl0, lst_len]
            have hMX : Calls Tryz.prog 54 #[.slice (some ⟨gs, 0, none⟩) N N] wr fun e w' => e = .returned (.int .i64 (maxF x0 l0)) ∧ wr = w' := by
              have h5 := maxS_any x0 l0 (some ⟨gs, 0, none⟩) N All wr (by rw [← hl0]; exact HGr.out.rs.ints (fun y hy => by obtain ⟨v, _, rfl⟩ := List.mem_map.1 hy; have := HMK2.out v; unfold I64; omega) trivial) (by simp at hll; omega) (by simp at hll; omega)
              rw [hll] at h5
              exact h5
            have HMX := hide hMX
            have HAN := hide (allNeg_max hl0)
            have HPE := hide hpe
            generalize maxF x0 l0 = mx at *
            have hpl1 : 0 < pl := by omega
            clear hl0 hll hMX hp0 hpe
            go_wp2_with fail
            refine HMX.out.mono ?_
            rintro e w8 ⟨rfl, hw8⟩
            subst hw8
            by_cases hmx : mx < 0
            · have HR2 : Hid (gRun N es pk M 0 D (fun _ => 0) = (false, lst N s, 0)) := by
                have h5 : allNeg N s = true := by rw [← HAN.out]; exact decide_eq_true hmx
                show _ = _
                rw [HRUN.out]
                cases M - k <;> (unfold gRun; rw [if_neg HPE.out, if_pos h5])
              go_wp2_with fail
              go_ret3
              exact ⟨_, by rw [hR.out, HR2.out]; rfl, by rw [hR.out, HR2.out]; exact HGr.out.own h12 HMK2.out hw2, HBW.out⟩
            · have h5 : Hid (¬ allNeg N s = true) := by show ¬ _; rw [← HAN.out]; simpa using hmx
              by_cases hkM : k = M
              · have HR2 : Hid (gRun N es pk M 0 D (fun _ => 0) = (false, [], 12)) := by
                  show _ = _
                  rw [HRUN.out, hkM, Nat.sub_self]
                  unfold gRun
                  rw [if_neg HPE.out, if_neg h5.out]
                have q2 : ((k : Int) == 1048576) = true := by simp; have := HM.out; omega
                clear hkM
                go_wp2_with fail
                go_ret3
                exact ⟨_, by rw [hR.out, HR2.out]; rfl, by rw [hR.out, HR2.out]; exact OwnS.nil _ _ _ _ _ _, HBW.out⟩
              · have q2 : ((k : Int) == 1048576) = false := by simp; have := HM.out; omega
                obtain ⟨hvN, hvl, hvg⟩ := gPick_ok (picks := pk) (i := k) HPE.out
                have HRUN2 : Hid (gRun N es pk M 0 D (fun _ => 0) = gRun N es pk (M - (k + 1)) (k + 1) (borF es (gPick pk k (poorL left N)) left) (putF s (gPick pk k (poorL left N)) (s (gPick pk k (poorL left N)) - 1))) := by
                  show _ = _
                  rw [HRUN.out, show M - k = (M - (k + 1)) + 1 by omega, gRun, if_neg HPE.out, if_neg h5.out]
                generalize gPick pk k (poorL left N) = v at *
                obtain ⟨A, hA⟩ : ∃ A, A = k % np := ⟨_, rfl⟩
                have hAl : A < np := by rw [hA]; exact Nat.mod_lt _ (by omega)
                have rem1 : ((k : Int)).tmod (np : Int) = (A : Int) := by rw [hA, Int.tmod_eq_emod_of_nonneg (by omega)]; rfl
                obtain ⟨Yi, _, hYg, hYi, bP, offP, hoP, _, cY⟩ := (HPK.out.below intR_ok HBW.out).int_at (i := A) (by rw [← HNP.out]; exact hAl)
                subst hoP
                obtain ⟨Y, rfl⟩ := Int.eq_ofNat_of_zero_le (HPZ.out.2.2 Yi (List.mem_of_getElem? hYg))
                have hYb : (Y : Int) ≤ 9223372036854775807 := by unfold I64 at hYi; omega
                obtain ⟨J, hJ⟩ : ∃ J, J = Y % pl := ⟨_, rfl⟩
                have hJl : J < pl := by rw [hJ]; exact Nat.mod_lt _ (by omega)
                have rem2 : ((Y : Int)).tmod (pl : Int) = (J : Int) := by rw [hJ, Int.tmod_eq_emod_of_nonneg (by omega)]; rfl
                rw [← HNP.out, ← HPL.out, ← hA, List.getD_eq_getElem?_getD, hYg, Option.getD_some, Int.toNat_natCast, ← hJ] at hvg
                obtain ⟨x, _, hxg, _, bQ, offQ, hoQ, _, cQ⟩ := HSP.out.int_at (i := J) (by rw [← HPL.out]; exact hJl)
                rw [hvg] at hxg
                injection hxg with hxg
                subst hxg hoQ
                have hkl : k < M := by omega
                clear hYg hA hJ hvg hkM
                have hlb := HLB.out v
                obtain ⟨sv, hsv⟩ : ∃ sv, sv = s v := ⟨_, rfl⟩
                have hsb := HSB.out v
                rw [← hsv] at hsb
                have e0 : wr.cell? ⟨gs, v, none⟩ = some (.int .i64 sv) := by rw [hsv]; exact HGr.out.rs.cell (lst_get s hvN)
                have f0 := HGr.out.rs.free v
                have hv0 : (0 : Int) ≤ v := by omega
                have hv1 : (v : Int) < N := by omega
                have HSV := hide hsv
                obtain ⟨W8, hW8⟩ : ∃ W8, wr.setCell ⟨gs, v, none⟩ (.int .i64 (sv - 1)) = W8 := ⟨_, rfl⟩
                have hlo := HGr.out.lo
                have HG8 : Hid (GMem w2 N gd gs rest left (putF s v (sv - 1)) W8) := by
                  rw [← hW8]
                  have h6 := HGr.out.rs.put (i := v) (by rw [lst_len]; exact hvN) (sv - 1)
                  rw [lst_set] at h6
                  exact ⟨HGr.out.rd.other HGr.out.ne _, h6, HGr.out.ne, HGr.out.lo, HGr.out.be.setCell hlo.2 _⟩
                have bx8 := HX2.out.under HG8.out.be hwl
                have y0 := bx8.cell 0
                have y1 := bx8.cell 1
                simp only [List.getElem?_cons_zero, List.getElem?_cons_succ] at y0 y1
                have HBOR := hide (borrow_any HOK.out oe c F w2 W8 (HS.out.below edgR_ok HB2.out) hc HG8.out.be gd c2 rest left HG8.out.rd hlo.1 hc2' h12 (fun u => by have := HLB.out u; omega) v hvN)
                clear bx8 hsv hlb
                go_wp2_with fail
                refine HBOR.out.mono ?_
                rintro e w9 ⟨rfl, hr9, hf9⟩
                have HG9 : Hid (GMem w2 N gd gs rest (borF es v left) (putF s v (sv - 1)) w9) :=
                  ⟨hr9, HG8.out.rs.keep (hf9.2 gs HG8.out.rs.lt (fun h => HG8.out.ne h.symm)), HG8.out.ne, HG8.out.lo, HG8.out.be.trans hf9.1⟩
                clear hr9 hf9
                go_wp2_with fail
                go_roundg (M - (k + 1))
                case rel => exact ⟨k + 1, borF es v left, putF s v (sv - 1), by omega, rfl, by go_num, HG9, by rw [HSV.out]; exact HRUN2, fun u => by have := borF_bnd HOK.out (v := v) HLB.out u; push_cast; omega, fun u => by
                  have := HSB.out u
                  by_cases e : u = v
                  · subst e; rw [putF_at]; push_cast; omega
                  · rw [putF_ne _ _ e]; push_cast; omega⟩
                case measure => rw [HGM.out]; omega
end Go.Proofs.YtpgopmmobbemcaaGreat

set_option linter.unusedVariables false
set_option linter.unusedSimpArgs false
set_option linter.unnecessarySimpa false
namespace Go.Proofs.YtpgopmmobbemcaaGreat
open Go.RowKit

/-- The cells of a script's key. -/
def keyC (s : List Int) : List Value := splice (List.replicate 12 (.int .i64 0)) 0 (s.map (Value.int .i64))
theorem keyC_len {s : List Int} (h : s.length ≤ 12) : (keyC s).length = 12 := by
  unfold keyC
  rw [length_splice _ _ _ (by simp; omega)]
  simp
theorem keyC_one (s : List Int) : (keyC s).toArray.all (·.oneCell') = true := by
  rw [Array.all_eq_true_iff_forall_mem]
  intro v hv
  simp only [keyC, splice, List.mem_toArray, List.mem_append] at hv
  rcases hv with h | h | h
  · simp at h
  · obtain ⟨x, _, rfl⟩ := List.mem_map.1 h; rfl
  · have h5 := List.mem_of_mem_drop h
    simp only [List.mem_replicate] at h5
    rw [h5.2]; rfl
theorem keyC_inj {s t : List Int} (hl : s.length = t.length) (h : keyC s = keyC t) : s = t := by
  unfold keyC splice at h
  simp only [List.take_zero, List.nil_append] at h
  have h5 := (List.append_inj h (by simpa using hl)).1
  apply List.ext_getElem?
  intro i
  have h6 := congrArg (fun l => l[i]?) h5
  simp only [List.getElem?_map] at h6
  cases h7 : s[i]? <;> cases h8 : t[i]? <;> rw [h7, h8] at h6 <;> simp at h6 <;> simp [h6]
theorem add_plain (b off j : Nat) : (Addr.mk b off none).add j = ⟨b, off + j, none⟩ := by unfold Addr.add; split <;> simp_all
theorem keySize : (Tryz.prog.info? 137).map (·.size) = some 12 := by kernel_rfl
theorem keyIntSize : (Tryz.prog.info? 3).map (·.size) = some 1 := by kernel_rfl
def keyZ : Array Value := #[.int .i64 0, .int .i64 0, .int .i64 0, .int .i64 0, .int .i64 0, .int .i64 0, .int .i64 0, .int .i64 0, .int .i64 0, .int .i64 0, .int .i64 0, .int .i64 0]
set_option maxRecDepth 100000 in
set_option maxHeartbeats 4000000 in
theorem keyed_any (s : List Int) (os : Option Addr) (c : Nat) (F : Foot) (w : World) (hs : SliceR intR 1 F w os s) (hc : s.length ≤ c) (h12 : 1 ≤ s.length ∧ s.length ≤ 12) :
    Calls Tryz.prog 96 #[.slice os s.length c] w fun e w' => e = .returned (.agg (keyC s).toArray) ∧ Below w.heap.size w w' := by
  obtain ⟨_, _, _, _, b, off, hos, _, _⟩ := hs.int_at (i := 0) (by omega)
  subst hos
  obtain ⟨W2, e2⟩ : ∃ W2, (w.alloc (.cells #[.int .i64 0, .int .i64 0, .int .i64 0, .int .i64 0, .int .i64 0, .int .i64 0, .int .i64 0, .int .i64 0, .int .i64 0, .int .i64 0, .int .i64 0, .int .i64 0] 137)).alloc (.cells #[.int .i64 0, .int .i64 0, .int .i64 0, .int .i64 0, .int .i64 0, .int .i64 0, .int .i64 0, .int .i64 0, .int .i64 0, .int .i64 0, .int .i64 0, .int .i64 0] 137) = W2 := ⟨_, rfl⟩
  have HK1 : Hid (W2.heap[w.heap.size]? = some (.cells keyZ 137 (0, 0))) := by rw [← e2]; exact heap_alloc2_old w _ _
  have HK2 : Hid (W2.heap[w.heap.size + 1]? = some (.cells (List.replicate 12 (Value.int .i64 0)).toArray 137 (0, 0))) := by rw [← e2]; exact heap_alloc2_new w _ _
  have hb2 : Below w.heap.size w W2 := by rw [← e2]; exact bnew (bnew (Below.refl _ _) _) _
  have HB2 := hide hb2
  have HS2 := hide (hs.below intR_ok hb2)
  have HKL := hide (keyC_len (s := s) (by omega))
  obtain ⟨cs, hcs⟩ : ∃ cs, cs = s.map (Value.int .i64) := ⟨_, rfl⟩
  have hcl : cs.length = s.length := by rw [hcs]; simp
  have HCL := hide hcl
  have HCS := hide hcs
  have HKC : Hid (keyC s = splice (List.replicate 12 (Value.int .i64 0)) 0 cs) := by show _ = _; rw [hcs]; rfl
  have HKO := hide (keyC_one s)
  obtain ⟨K, hK⟩ : ∃ K, K = keyC s := ⟨_, rfl⟩
  rw [← hK] at HKL HKC HKO ⊢
  have hl2 : w.heap.size + 1 < W2.heap.size := (Array.getElem?_eq_some_iff.1 HK2.out).1
  have HONE : Hid (∀ v ∈ cs, v.oneCell' = true) := fun v hv => by
    rw [hcs] at hv
    obtain ⟨x, _, rfl⟩ := List.mem_map.1 hv
    rfl
  have HSRC : Hid (∀ j v, cs[j]? = some v → W2.cell? ((⟨b, off, none⟩ : Addr).add j) = some v) := fun j v hj => by
    rw [hcs, List.getElem?_map] at hj
    cases h6 : s[j]? with
    | none => rw [h6] at hj; simp at hj
    | some x =>
      rw [h6] at hj
      simp at hj
      subst hj
      obtain ⟨x2, _, h7, _, b2, off2, h8, _, h9⟩ := HS2.out.int_at (List.getElem?_eq_some_iff.1 h6).1
      injection h8 with h8
      injection h8 with h8 h10
      subst h8 h10
      rw [h6] at h7
      injection h7 with h7
      subst h7
      rw [add_plain]
      exact h9
  clear hb2 hs hcs hcl hK
  go_enter Tryz.func96, Tryz.ntmps96
  go_wp2_with (first
    | (refine wpList_copy_splice rfl (.tmp 4) (.tmp 5) 25 26 rfl 3 Tryz.underlying25 keyIntSize (some ⟨w.heap.size + 1, 0, none⟩) (some ⟨b, off, none⟩) 12 12 s.length c (by simp [Act.eval, Act.put]) (by simp [Act.eval, Act.put]) (w.heap.size + 1) 0 (List.replicate 12 (Value.int .i64 0)) 137 HK2.out cs (by have := HCL.out; show _ = min _ _; omega) (fun _ => ⟨rfl, _, rfl, HSRC.out⟩) (by have := HCL.out; simp; omega) HONE.out (w.heap.size + 1) W2 (Below.refl _ _) (Nat.le_refl _) ?_; intro w4 hg4 hb4; rw [← HKC.out] at hg4; have HB4 := hide hb4; clear hb4)
    | (refine wpList_load_row rfl 137 (.tmp 3) rfl (w.heap.size + 1) (by simp [Act.eval, Act.put]) 137 K.toArray (0, 0) _ hg4.out Tryz.underlying137 rfl (by rw [keySize, List.size_toArray, HKL.out]) ?_)
    | (refine wpList_store_row rfl 137 (.tmp 2) (.tmp 7) rfl w.heap.size K.toArray (by simp [Act.eval, Act.put]) (by simp [Act.eval, Act.put]) 137 keyZ ((HB4.out.block _ (by omega)).trans HK1.out) (by rw [keySize, List.size_toArray, HKL.out]) (by show 12 = _; rw [List.size_toArray, HKL.out]) HKO.out ?_))
  refine bodyPost_ret (results_cell_row rfl _ _ w.heap.size 137 _ (0, 0) _ rfl (setRow_heap _ _ _ _ _ _ ((HB4.out.block _ (by omega)).trans HK1.out)) Tryz.underlying137 rfl (by rw [keySize, List.size_toArray, HKL.out])) rfl ?_
  exact ⟨rfl, below_setRow (HB2.out.trans (HB4.out.mono (by omega))) (Nat.le_refl _) _⟩
end Go.Proofs.YtpgopmmobbemcaaGreat

set_option linter.unusedVariables false
set_option linter.unusedSimpArgs false
set_option linter.unnecessarySimpa false
namespace Go.Proofs.YtpgopmmobbemcaaGreat
open Go.RowKit

def BehPost (N : Nat) (es : List Edg) (d s : List Int) (w : World) (e : Ending) (w' : World) : Prop :=
  ∃ g cap rest, e = .returned (.slice (some ⟨g, 0, none⟩) N cap) ∧ N ≤ cap ∧ w.heap.size ≤ g ∧ Row1 (Value.int .i64) w' g 3 (movedL s es d) rest ∧ Below w.heap.size w w'
set_option maxRecDepth 100000 in
set_option maxHeartbeats 4000000 in
theorem behind_any {N : Nat} {es : List Edg} (hok : EOk N es) (h12 : 1 ≤ N ∧ N ≤ 12) (oe : Option Addr) (c : Nat) (F : Foot) (w : World) (hs : SliceR edgR 3 F w oe es) (hc : es.length ≤ c) (d : List Int) (od : Option Addr) (cd : Nat) (D : Foot) (hd : SliceR intR 1 D w od d) (hdc : N ≤ cd) (hdN : d.length = N)
    (p : Nat) (y1 : w.cell? ⟨p, 1, none⟩ = some (.slice oe es.length c)) (y2 : w.cell? ⟨p, 2, none⟩ = some (.slice od N cd))
    (s : List Int) (os : Option Addr) (cs : Nat) (S : Foot) (hS : SliceR intR 1 S w os s) (hsN : s.length = N) (hsb : Hid (∀ y ∈ s, -2097152 ≤ y ∧ y ≤ 2097152)) (hdb : Hid (∀ y ∈ d, -1048576 ≤ y ∧ y ≤ 1048576)) :
    Calls Tryz.prog 68 #[.pointer (some ⟨p, 0, none⟩), .slice os N cs] w (BehPost N es d s w) := by
  have hve : ∀ x ∈ es, (0 ≤ x.m ∧ x.m ≤ 50) ∧ x.a.toNat < d.length ∧ x.b.toNat < d.length := fun x hx => by
    have := hok.at_ x hx
    omega
  have HMB := hide (moved_bound hsb.out hve hdb.out)
  have HC : Hid (Calls Tryz.prog 53 #[.slice od N cd] w fun e w' => ∃ gd c2 rest, e = .returned (.slice (some ⟨gd, 0, none⟩) N c2) ∧ Row1 (Value.int .i64) w' gd 3 d rest ∧ N ≤ c2 ∧ w.heap.size ≤ gd ∧ Below w.heap.size w w') := by
    have h := cloneD_any d od cd D w hd (by omega) (by omega)
    rw [hdN] at h
    refine h.mono ?_
    rintro e w' ⟨v, rfl, ho, hb⟩
    obtain ⟨g, cap, rest, rfl, h1, h2, _, h4, _⟩ := ho.row (by intro e; rw [e] at hdN; simp at hdN; omega)
    rw [hdN] at h2 ⊢
    exact ⟨g, cap, rest, rfl, h4, by omega, h1, hb⟩
  have hes := hok.len
  have HOK := hide hok
  have HS := hide hs
  have HSS := hide hS
  have HSN := hide hsN
  have HDN := hide hdN
  have HY1 := hide y1
  clear hs hd hS hve hok hdN hsN
  go_enter Tryz.func68, Tryz.ntmps68
  go_wp2_with fail
  refine HC.out.mono ?_
  rintro e w2 ⟨gd, c2, rest, rfl, hrow, hc2, hgd, hb⟩
  replace y1 := (hb.cell (World.block_lt_of_cell? _ _ y1)).trans y1
  have HR := hide hrow
  have HB := hide hb
  have hgl := hrow.lt
  clear hrow hb y2
  go_wp2_with fail
  clear y1
  go_loopg [7, 8, 20] es.length (fun gm _ _ iv wx => ∃ k : Nat, k ≤ es.length ∧ gm = es.length - k ∧ iv = .int .i64 k ∧ Hid (Row1 (Value.int .i64) wx gd 3 (movedL s (es.take k) d) rest) ∧ Hid (Below w.heap.size w wx))
  case atStart => exact ⟨0, by omega, by omega, rfl, HR, HB⟩
  case round =>
    obtain ⟨k, hk, hgm, rfl, HRk, HBk⟩ := hrel
    have HGM := hide hgm
    clear hgm
    by_cases hlt : k < es.length
    · obtain ⟨a, b, m, _, hget, _, _, _, bl, off, hoe, _, c0, c1, c2'⟩ := (HS.out.below edgR_ok HBk.out).edg_at hlt
      have hat := HOK.out.at_ _ (List.mem_of_getElem? hget)
      simp only at hat
      obtain ⟨A, rfl⟩ := Int.eq_ofNat_of_zero_le hat.1.1.1
      obtain ⟨B, rfl⟩ := Int.eq_ofNat_of_zero_le hat.1.2.1
      have hAN : A < N := by omega
      have hBN : B < N := by omega
      obtain ⟨W4, hW4⟩ : ∃ W4, wr.alloc (.cells #[.int .i64 (A : Int), .int .i64 (B : Int), .int .i64 m] 123) = W4 := ⟨_, rfl⟩
      have hbb := bnew (Below.refl wr.heap.size wr) (.cells #[.int .i64 (A : Int), .int .i64 (B : Int), .int .i64 m] 123)
      rw [hW4] at hbb
      have bx : Box W4 wr.heap.size [.int .i64 (A : Int), .int .i64 (B : Int), .int .i64 m] 123 := by rw [← hW4]; exact Box.new wr [.int .i64 (A : Int), .int .i64 (B : Int), .int .i64 m] 123
      have x0 := bx.cell 0
      have x1 := bx.cell 1
      have x2 := bx.cell 2
      simp only [List.getElem?_cons_zero, List.getElem?_cons_succ] at x0 x1 x2
      have hS4 := (HSS.out.below intR_ok HBk.out).below intR_ok hbb
      obtain ⟨sA, _, hsA, _, b1, o1, hos1, _, cA⟩ := hS4.int_at (i := A) (by rw [HSN.out]; exact hAN)
      subst hos1
      obtain ⟨sB, _, hsB, _, b2, o2, hos2, _, cB⟩ := hS4.int_at (i := B) (by rw [HSN.out]; exact hBN)
      injection hos2 with hos2
      injection hos2 with e1 e2
      subst e1 e2
      have hAs := hsb.out sA (List.mem_of_getElem? hsA)
      have hBs := hsb.out sB (List.mem_of_getElem? hsB)
      have hfl := flow_bound (m := m) (by omega) hAs hBs
      obtain ⟨f, hf⟩ : ∃ f, f = m * (sA - sB) := ⟨_, rfl⟩
      have HFL : Hid (flowL s ⟨A, B, m⟩ = f) := by show _ = _; unfold flowL; simp only [Int.toNat_natCast]; rw [getD_of hsA, getD_of hsB, hf]
      have HMV := hide (movedL_succ (s := s) (d := d) hget)
      obtain ⟨dl, hdl⟩ : ∃ dl, dl = movedL s (es.take k) d := ⟨_, rfl⟩
      have hdll : dl.length = N := by rw [hdl, moved_len, HDN.out]
      have hmb := HMB.out k hk
      rw [← hdl] at hmb HRk HMV
      have hR4 := HRk.out.below hbb
      have HBW : Hid (Below w.heap.size w W4) := HBk.out.trans (hbb.mono HBk.out.size)
      have hgw := HRk.out.lt
      obtain ⟨Wq, hWq⟩ : ∃ Wq, Wq = W4 := ⟨_, rfl⟩
      have hm1 : m * (sA - sB) = f := hf.symm
      have HA0 : (0 : Int) ≤ A := by omega
      have HA1 : (A : Int) < N := by omega
      have HB0 : (0 : Int) ≤ B := by omega
      have HB1 : (B : Int) < N := by omega
      rw [← hf] at hfl
      subst hoe
      have HR4 := hide hR4
      have HBX := hide bx
      have HF1 := hide hf
      have HDLL := hide hdll
      have HMB2 := hide hmb
      clear hWq hsA hsB hget hdl hdll hR4 bx hbb hf hS4 hmb hat
      go_wp2_with fail
      go_quiet (fail)
      obtain ⟨W5, hW5⟩ : ∃ W5, W4.drewN nq = W5 := ⟨_, rfl⟩
      rw [hW5]
      have hR5 : Row1 (Value.int .i64) W5 gd 3 dl rest := by rw [← hW5]; exact HR4.out
      have bx5 : Box W5 wr.heap.size [.int .i64 (A : Int), .int .i64 (B : Int), .int .i64 m] 123 := by rw [← hW5]; exact HBX.out
      have HBW5 : Hid (Below w.heap.size w W5) := by rw [← hW5]; exact below_drewN HBW.out nq
      clear x0 x1 x2 cA cB hW4 hW5
      have x0 := bx5.cell 0
      have x1 := bx5.cell 1
      simp only [List.getElem?_cons_zero, List.getElem?_cons_succ] at x0 x1
      obtain ⟨dA, hdA⟩ : ∃ y, dl[A]? = some y := ⟨_, List.getElem?_eq_getElem (by rw [HDLL.out]; exact hAN)⟩
      have hdAb := HMB2.out dA (List.mem_of_getElem? hdA)
      have r0 := hR5.cell hdA
      have rf := hR5.free A
      have hff : -300000000 ≤ f ∧ f ≤ 300000000 := hfl
      obtain ⟨W6, hW6⟩ : ∃ W6, W5.setCell ⟨gd, A, none⟩ (.int .i64 (dA - f)) = W6 := ⟨_, rfl⟩
      have hR6 : Row1 (Value.int .i64) W6 gd 3 (addL dl A (-f)) rest := by
        rw [← hW6]
        have h5 := hR5.put (i := A) (by rw [HDLL.out]; exact hAN) (dA - f)
        unfold addL
        rw [getD_of hdA]
        exact h5
      have hne : wr.heap.size ≠ gd := by omega
      have bx6 : Box W6 wr.heap.size [.int .i64 (A : Int), .int .i64 (B : Int), .int .i64 m] 123 := bx5.keep (by rw [← hW6]; exact Below.heap_setCell W5 ⟨gd, A, none⟩ _ _ hne)
      have z0 := bx6.cell 0
      have z1 := bx6.cell 1
      simp only [List.getElem?_cons_zero, List.getElem?_cons_succ] at z0 z1
      have HBW6 : Hid (Below w.heap.size w W6) := by rw [← hW6]; exact HBW5.out.setCell hgd _
      obtain ⟨dB, hdB⟩ : ∃ y, (addL dl A (-f))[B]? = some y := ⟨_, List.getElem?_eq_getElem (by rw [addL_len, HDLL.out]; exact hBN)⟩
      have hdBb : -1000000400000000 ≤ dB ∧ dB ≤ 1000000400000000 := by
        rcases addL_mem (List.mem_of_getElem? hdB) (by rw [HDLL.out]; exact hAN) with h5 | ⟨z, h5, e5⟩
        · have := HMB2.out dB h5; omega
        · have := HMB2.out z h5; omega
      have t0 := hR6.cell hdB
      have tf := hR6.free B
      have HP : Hid (Row1 (Value.int .i64) (W6.setCell ⟨gd, B, none⟩ (.int .i64 (dB + f))) gd 3 (movedL s (es.take (k + 1)) d) rest) := by
        have h5 := hR6.put (i := B) (by rw [addL_len, HDLL.out]; exact hBN) (dB + f)
        rw [HMV.out]
        unfold alongL
        simp only [HFL.out, Int.toNat_natCast]
        rw [addL, getD_of hdB]
        exact h5
      have HQ : Hid (Below w.heap.size w (W6.setCell ⟨gd, B, none⟩ (.int .i64 (dB + f)))) := HBW6.out.setCell hgd _
      clear hR5 bx5 hdA hR6 bx6 hdB hm1 hfl
      go_wp2_with fail
      go_roundg (es.length - (k + 1))
      case rel => exact ⟨k + 1, by omega, rfl, by go_num, HP, HQ⟩
      case measure => rw [HGM.out]; omega
    · have hke : k = es.length := by omega
      have HF : Hid (Row1 (Value.int .i64) wr gd 3 (movedL s es d) rest) := by
        have := HRk.out
        rw [hke, List.take_length] at this
        exact this
      clear hke
      go_wp2_with fail
      go_ret
      exact ⟨gd, c2, rest, rfl, hc2, hgd, HF.out, HBk.out⟩
end Go.Proofs.YtpgopmmobbemcaaGreat

set_option linter.unusedVariables false
set_option linter.unusedSimpArgs false
namespace Go.Proofs.YtpgopmmobbemcaaGreat
open Go.RowKit

/-- The lexicographic order of lists that are equally long. -/
def lexLt : List Int → List Int → Prop
  | a :: r, b :: s => a < b ∨ a = b ∧ lexLt r s
  | _, _ => False
/-- The least of those with a property. -/
structure LeastW (P : List Int → Prop) (s : List Int) : Prop where
  has : P s
  min : ∀ t, P t → ¬ lexLt t s
/-- What a search for the least comes to. -/
def IsFirst (P : List Int → Prop) : Option (List Int) → Prop
  | some s => LeastW P s
  | none => ∀ s, ¬ P s
/-- The reference's search: scripts that begin so, with some numbers and some cost more. -/
def firstS (wins : List Int → Bool) : Nat → List Int → Nat → Option (List Int)
  | 0, begun, cost => if cost = 0 ∧ wins begun = true then some begun else none
  | 1, begun, cost => ([-(cost : Int), (cost : Int)]).findSome? fun k => firstS wins 0 (begun ++ [k]) 0
  | m + 2, begun, cost => (List.range (2 * cost + 1)).findSome? fun i : Nat => firstS wins (m + 1) (begun ++ [(i : Int) - cost]) (cost - (magI ((i : Int) - cost)).toNat)
def WonS (wins : List Int → Bool) (m : Nat) (begun : List Int) (cost : Nat) (s : List Int) : Prop := ∃ t : List Int, s = begun ++ t ∧ t.length = m ∧ costS t = cost ∧ wins s = true
/-- The winner of a layer: the least of its winning scripts. -/
def winStep (wins : List Int → Bool) (cmp : List Int → List Int → Int) (b : Option (List Int)) (s : List Int) : Option (List Int) :=
  if wins s = true ∧ (b = none ∨ ∃ t, b = some t ∧ cmp s t < 0) then some s else b
end Go.Proofs.YtpgopmmobbemcaaGreat

set_option linter.unusedVariables false
set_option linter.unusedSimpArgs false
namespace Go.Proofs.YtpgopmmobbemcaaGreat
open Go.RowKit

end Go.Proofs.YtpgopmmobbemcaaGreat

set_option linter.unusedVariables false
set_option linter.unusedSimpArgs false
namespace Go.Proofs.YtpgopmmobbemcaaGreat
open Go.RowKit

section
variable {n : Nat} {R : Nat → Nat → Int} {D s : Nat → Int}
def owedF (n : Nat) (d : Nat → Int) : Int := sumI (fun v => max 0 (-(d v))) n
/-- One vertex moves. -/
def oneB (x : Nat) (v : Nat) : Bool := decide (v = x)
end
end Go.Proofs.YtpgopmmobbemcaaGreat

set_option linter.unusedVariables false
set_option linter.unusedSimpArgs false
namespace Go.Proofs.YtpgopmmobbemcaaGreat
open Go.RowKit

/-- A script of which another one is more of the same moves. -/
def Bel : List Int → List Int → Prop
  | [], [] => True
  | a :: r, b :: u => (0 ≤ a ∧ a ≤ b ∨ b ≤ a ∧ a ≤ 0) ∧ Bel r u
  | _, _ => False
def nudS (s : List Int) (v : Nat) (k : Int) : List Int := s.set v (s.getD v 0 + k)
theorem nudS_len (s : List Int) (v : Nat) (k : Int) : (nudS s v k).length = s.length := by simp [nudS]
theorem Bel.refl : ∀ s, Bel s s
  | [] => trivial
  | a :: r => ⟨by omega, Bel.refl r⟩
theorem Bel.len : ∀ {s t : List Int}, Bel s t → s.length = t.length
  | [], [], _ => rfl
  | a :: r, b :: u, h => by simp [Bel.len h.2]
  | [], _ :: _, h => h.elim
  | _ :: _, [], h => h.elim
theorem Bel.zero : ∀ t : List Int, Bel (List.replicate t.length 0) t
  | [] => trivial
  | b :: u => ⟨by omega, Bel.zero u⟩
theorem Bel.cost : ∀ {s t : List Int}, Bel s t → costS s ≤ costS t
  | [], [], _ => Int.le_refl _
  | a :: r, b :: u, h => by
    have h1 := Bel.cost h.2
    have h2 := h.1
    unfold costS magI
    omega
  | [], _ :: _, h => h.elim
  | _ :: _, [], h => h.elim
theorem Bel.up : ∀ {s t : List Int}, Bel s t → costS s < costS t → ∃ (v : Nat) (k : Int), v < s.length ∧ (k = 1 ∨ k = -1) ∧ Bel (nudS s v k) t ∧ costS (nudS s v k) = costS s + 1
  | [], [], _, h => by simp [costS] at h
  | a :: r, b :: u, h, hc => by
    by_cases e : a = b
    · subst e
      obtain ⟨v, k, h1, h2, h3, h4⟩ := Bel.up h.2 (by unfold costS at hc; omega)
      have e1 : nudS (a :: r) (v + 1) k = a :: nudS r v k := by simp [nudS]
      refine ⟨v + 1, k, by simpa using h1, h2, ?_, ?_⟩
      · rw [e1]; exact ⟨h.1, h3⟩
      · rw [e1]; unfold costS; rw [h4]; omega
    · have e1 : ∀ k, nudS (a :: r) 0 k = (a + k) :: r := fun k => by simp [nudS]
      rcases h.1 with h1 | h1
      · refine ⟨0, 1, by simp, .inl rfl, ?_, ?_⟩
        · rw [e1]; exact ⟨by omega, h.2⟩
        · rw [e1]; unfold costS magI; omega
      · refine ⟨0, -1, by simp, .inr rfl, ?_, ?_⟩
        · rw [e1]; exact ⟨by omega, h.2⟩
        · rw [e1]; unfold costS magI; omega
  | [], _ :: _, h, _ => h.elim
  | _ :: _, [], h, _ => h.elim
/-- The scripts one move farther. -/
def stepsV (s : List Int) (v : Nat) (k : Int) : Option (List Int) := if s.getD v 0 * k < 0 then none else some (nudS s v k)
def stepsS (s : List Int) : List (List Int) := (List.range s.length).flatMap fun v => ([-1, 1] : List Int).filterMap fun k => stepsV s v k
def candL (l : List (List Int)) : List (List Int) := l.flatMap stepsS
/-- What has been seen, and what is kept. -/
def addC (good : List Int → Bool) (st : List (List Int) × List (List Int)) (c : List Int) : List (List Int) × List (List Int) :=
  if c ∈ st.1 then st else (st.1 ++ [c], if good c = true then st.2 ++ [c] else st.2)
def moreS (good : List Int → Bool) (l : List (List Int)) : List (List Int) × List (List Int) := (candL l).foldl (addC good) ([], [])
theorem steps_mem {s c : List Int} : c ∈ stepsS s ↔ ∃ (v : Nat) (k : Int), v < s.length ∧ (k = 1 ∨ k = -1) ∧ 0 ≤ s.getD v 0 * k ∧ c = nudS s v k := by
  unfold stepsS
  rw [List.mem_flatMap]
  constructor
  · rintro ⟨v, hv, hc⟩
    obtain ⟨k, hk, hs⟩ := List.mem_filterMap.1 hc
    unfold stepsV at hs
    split at hs
    · cases hs
    · injection hs with hs
      refine ⟨v, k, List.mem_range.1 hv, ?_, by omega, hs.symm⟩
      simp at hk
      omega
  · rintro ⟨v, k, hv, hk, h0, rfl⟩
    refine ⟨v, List.mem_range.2 hv, List.mem_filterMap.2 ⟨k, ?_, ?_⟩⟩
    · simp; omega
    · unfold stepsV; rw [if_neg (by omega)]
theorem add_fold (good : List Int → Bool) : ∀ (cs : List (List Int)) (st : List (List Int) × List (List Int)), (∀ c, c ∈ st.2 ↔ c ∈ st.1 ∧ good c = true) → ∀ c, (c ∈ (cs.foldl (addC good) st).1 ↔ c ∈ st.1 ∨ c ∈ cs) ∧ (c ∈ (cs.foldl (addC good) st).2 ↔ (c ∈ st.1 ∨ c ∈ cs) ∧ good c = true)
  | [], st, h, c => by simp [h c]
  | x :: r, st, h, c => by
    rw [List.foldl_cons]
    have h2 : ∀ c, c ∈ (addC good st x).1 ↔ c ∈ st.1 ∨ c = x := fun c => by
      unfold addC
      split
      · rename_i hx
        constructor
        · exact .inl
        · rintro (h | rfl)
          · exact h
          · exact hx
      · simp
    have h3 : ∀ c, c ∈ (addC good st x).2 ↔ c ∈ (addC good st x).1 ∧ good c = true := fun c => by
      unfold addC
      split
      · exact h c
      · split
        · rename_i hg
          simp only [List.mem_append, List.mem_singleton, h c]
          constructor
          · rintro (⟨a, b⟩ | rfl)
            · exact ⟨.inl a, b⟩
            · exact ⟨.inr rfl, hg⟩
          · rintro ⟨a | a, b⟩
            · exact .inl ⟨a, b⟩
            · exact .inr a
        · rename_i hg
          simp only [List.mem_append, List.mem_singleton, h c]
          constructor
          · rintro ⟨a, b⟩
            exact ⟨.inl a, b⟩
          · rintro ⟨a | rfl, b⟩
            · exact ⟨a, b⟩
            · exact absurd b hg
    obtain ⟨h4, h5⟩ := add_fold good r (addC good st x) h3 c
    rw [h4, h5, h2]
    simp only [List.mem_cons, or_assoc]
    exact ⟨trivial, trivial⟩
theorem more_mem {good : List Int → Bool} {l : List (List Int)} {c : List Int} : c ∈ (moreS good l).2 ↔ (∃ s ∈ l, c ∈ stepsS s) ∧ good c = true := by
  have := (add_fold good (candL l) ([], []) (by simp) c).2
  unfold moreS
  rw [this]
  simp [candL]
section
variable {N : Nat} {owe : List Int → Int} {most limit : Int}
/-- What is kept: scripts that may still win. -/
def goodS (owe : List Int → Int) (most limit m : Int) (s : List Int) : Bool := decide (m + (if most = 0 then 0 else (owe s + most - 1) / most) ≤ limit)
def layS (N : Nat) (owe : List Int → Int) (most limit : Int) : Nat → List (List Int)
  | 0 => [List.replicate N 0]
  | n + 1 => (moreS (goodS owe most limit ((n : Int) + 1)) (layS N owe most limit n)).2
def winsO (owe : List Int → Int) (s : List Int) : Bool := decide (owe s = 0)
structure Owe (N : Nat) (owe : List Int → Int) (most : Int) : Prop where
  nn : ∀ s, 0 ≤ owe s
  mo : 0 ≤ most
  mv : ∀ (s : List Int) (v : Nat) (k : Int), s.length = N → v < N → (k = 1 ∨ k = -1) → owe s ≤ owe (nudS s v k) + most
theorem Owe.far (h : Owe N owe most) {t : List Int} : ∀ (d : Nat) {s : List Int}, s.length = N → Bel s t → costS t - costS s = d → owe s ≤ owe t + d * most
  | 0, s, hs, hb, hd => by
    rcases Int.lt_or_le (costS s) (costS t) with hl | hl
    · omega
    · have e : s = t := by
        clear hs
        have key : ∀ {s t : List Int}, Bel s t → costS t ≤ costS s → s = t := by
          intro s t hb hl
          refine Classical.byContradiction fun hne => ?_
          have : ∀ {s t : List Int}, Bel s t → s ≠ t → costS s < costS t := by
            intro s
            induction s with
            | nil => intro t hb hne; cases t with
              | nil => exact absurd rfl hne
              | cons => exact hb.elim
            | cons a r ih => intro t hb hne; cases t with
              | nil => exact hb.elim
              | cons b u =>
                have h1 := Bel.cost hb.2
                have h2 := hb.1
                by_cases e : r = u
                · have : a ≠ b := fun e2 => hne (by rw [e, e2])
                  unfold costS magI
                  omega
                · have := ih hb.2 e
                  unfold costS magI
                  omega
          have := this hb hne
          omega
        exact key hb hl
      rw [e]
      simp
  | d + 1, s, hs, hb, hd => by
    obtain ⟨v, k, h1, h2, h3, h4⟩ := Bel.up hb (by omega)
    have h5 := h.mv s v k hs (by omega) h2
    have h6 := Owe.far h d (by rw [nudS_len]; exact hs) h3 (by omega)
    have e : ((d + 1 : Nat) : Int) * most = d * most + most := by push_cast; rw [Int.add_mul, Int.one_mul]
    omega
theorem Owe.good (h : Owe N owe most) {s t : List Int} (hs : s.length = N) (hb : Bel s t) (ht : owe t = 0) (hl : costS t ≤ limit) {m : Int} (hm : costS s = m) : goodS owe most limit m s = true := by
  unfold goodS
  refine decide_eq_true ?_
  have hc := hb.cost
  by_cases h0 : most = 0
  · rw [if_pos h0]; omega
  · rw [if_neg h0]
    have hmo := h.mo
    obtain ⟨d, hd⟩ := Int.eq_ofNat_of_zero_le (show 0 ≤ costS t - costS s by omega)
    have h1 := h.far d hs hb hd
    have h2 : (owe s + most - 1) / most < (d : Int) + 1 := by
      refine Int.ediv_lt_of_lt_mul (by omega) ?_
      rw [Int.add_mul, Int.one_mul]
      omega
    omega
theorem IsFirst.congr {P Q : List Int → Prop} (h : ∀ s, P s ↔ Q s) : ∀ {o}, IsFirst P o → IsFirst Q o
  | none, hp => fun s hs => hp s ((h s).2 hs)
  | some s, hp => ⟨(h s).1 (LeastW.has hp), fun t ht => LeastW.min hp t ((h t).2 ht)⟩
end
end Go.Proofs.YtpgopmmobbemcaaGreat

set_option linter.unusedVariables false
set_option linter.unusedSimpArgs false
set_option linter.unnecessarySimpa false
namespace Go.Proofs.YtpgopmmobbemcaaGreat
open Go.RowKit

def cmpL : List Int → List Int → Int
  | a :: r, b :: s => if cmpI a b = 0 then cmpL r s else cmpI a b
  | _, _ => 0
set_option maxRecDepth 100000 in
theorem scmp_any {N : Nat} (hN : N ≤ 1000) (s t : List Int) (hs : s.length = N) (ht : t.length = N) (oa ob : Option Addr) (ca cb : Nat) (F G : Foot) (w : World) (ha : SliceR intR 1 F w oa s) (hb : SliceR intR 1 G w ob t) (hca : N ≤ ca) (hcb : N ≤ cb) :
    Calls Tryz.prog 94 #[.slice oa N ca, .slice ob N cb] w fun e w' => e = .returned (.int .i64 (cmpL s t)) ∧ w = w' := by
  have HA := hide ha
  have HB := hide hb
  have HSL := hide hs
  have HTL := hide ht
  clear ha hb hs ht
  go_enter Tryz.func94, Tryz.ntmps94
  go_wp2_with fail
  go_loopg [5, 6, 7, 8, 11] N (fun gm _ _ _ _ iv wx => ∃ i : Nat, i ≤ N ∧ gm = N - i ∧ iv = .int .i64 i ∧ Hid (cmpL s t = cmpL (s.drop i) (t.drop i)) ∧ wx = w)
  case atStart => exact ⟨0, by omega, by omega, rfl, rfl, rfl⟩
  case round =>
    obtain ⟨i, hi, hgm, rfl, HC, rfl⟩ := hrel
    have HGM := hide hgm
    clear hgm
    by_cases hlt : i < N
    · obtain ⟨x, hx, _, _, b1, o1, hoa, _, c1⟩ := HA.out.int_at (i := i) (by rw [HSL.out]; exact hlt)
      obtain ⟨y, hy, _, _, b2, o2, hob, _, c2⟩ := HB.out.int_at (i := i) (by rw [HTL.out]; exact hlt)
      subst hoa hob
      have HC2 : Hid (cmpL s t = if cmpI x y = 0 then cmpL (s.drop (i + 1)) (t.drop (i + 1)) else cmpI x y) := by show _ = _; rw [HC.out, hx, hy]; rfl
      have HCM := hide (cmpC_any x y wr)
      have hi0 : (0 : Int) ≤ i := by omega
      have hi1 : (i : Int) < N := by omega
      clear hx hy
      go_wp2_with fail
      refine HCM.out.mono ?_
      rintro e w2 ⟨rfl, hw2⟩
      subst hw2
      generalize cmpI x y = z at *
      by_cases hz : z = 0
      · have HC3 : Hid (cmpL s t = cmpL (s.drop (i + 1)) (t.drop (i + 1))) := by show _ = _; rw [HC2.out, if_pos hz]
        have hq : (z != 0) = false := by simpa using hz
        clear hz
        go_wp2_with fail
        go_roundg (N - (i + 1))
        case rel => exact ⟨i + 1, by omega, rfl, by go_num, HC3, rfl⟩
        case measure => rw [HGM.out]; omega
      · have HC3 : Hid (cmpL s t = z) := by show _ = _; rw [HC2.out, if_neg hz]
        have hq : (z != 0) = true := by simpa using hz
        clear hz
        go_wp2_with fail
        go_ret
        exact ⟨ret_int HC3.out.symm, rfl⟩
    · have HC3 : Hid (cmpL s t = 0) := by
        show _ = _
        rw [HC.out, List.drop_of_length_le (by rw [HSL.out]; omega), List.drop_of_length_le (by rw [HTL.out]; omega)]
        rfl
      go_wp2_with fail
      go_ret
      exact ⟨ret_int HC3.out.symm, rfl⟩
end Go.Proofs.YtpgopmmobbemcaaGreat

set_option linter.unusedVariables false
set_option linter.unusedSimpArgs false
set_option linter.unnecessarySimpa false
namespace Go.Proofs.YtpgopmmobbemcaaGreat
open Go.RowKit

/-- A search, in memory. -/
structure SCtx (N : Nat) (es : List Edg) (oe : Option Addr) (c : Nat) (d : List Int) (od : Option Addr) (cd p : Nat) (most limit : Int) (w : World) : Prop where
  ok : EOk N es
  n12 : 1 ≤ N ∧ N ≤ 12
  es_ : SliceR edgR 3 All w oe es
  ec : es.length ≤ c
  d_ : SliceR intR 1 All w od d
  dc : N ≤ cd
  dN : d.length = N
  dB : ∀ y ∈ d, -1048576 ≤ y ∧ y ≤ 1048576
  box : Box w p [.int .i64 N, .slice oe es.length c, .slice od N cd, .int .i64 most, .int .i64 limit] 102
/-- A script of a search. -/
def ScrOk (N : Nat) (s : List Int) : Prop := s.length = N ∧ ∀ y ∈ s, -100 ≤ y ∧ y ≤ 100
section
variable {N : Nat} {es : List Edg} {oe : Option Addr} {c : Nat} {d : List Int} {od : Option Addr} {cd p : Nat} {most limit : Int} {w w' : World}
theorem SCtx.below (h : SCtx N es oe c d od cd p most limit w) (hb : Below w.heap.size w w') : SCtx N es oe c d od cd p most limit w' :=
  ⟨h.ok, h.n12, h.es_.below edgR_ok hb, h.ec, h.d_.below intR_ok hb, h.dc, h.dN, h.dB, h.box.below hb⟩
theorem SCtx.behind (h : SCtx N es oe c d od cd p most limit w) {s : List Int} (hs : ScrOk N s) {os : Option Addr} {cs : Nat} {S : Foot} (hS : SliceR intR 1 S w os s) :
    Calls Tryz.prog 68 #[.pointer (some ⟨p, 0, none⟩), .slice os N cs] w (BehPost N es d s w) := by
  have y1 := h.box.cell 1
  have y2 := h.box.cell 2
  simp only [List.getElem?_cons_zero, List.getElem?_cons_succ] at y1 y2
  exact behind_any h.ok h.n12 oe c All w h.es_ h.ec d od cd All h.d_ h.dc h.dN p y1 y2 s os cs S hS hs.1 (fun y hy => by have := hs.2 y hy; omega) h.dB
theorem SCtx.movB (h : SCtx N es oe c d od cd p most limit w) {s : List Int} (hs : ScrOk N s) : ∀ y ∈ movedL s es d, -1000000000000 ≤ y ∧ y ≤ 1000000000000 := fun y hy => by
  have hve : ∀ x ∈ es, (0 ≤ x.m ∧ x.m ≤ 50) ∧ x.a.toNat < d.length ∧ x.b.toNat < d.length := fun x hx => by
    have := h.ok.at_ x hx
    have := h.dN
    omega
  have h1 := moved_bound (s := s) (fun y hy => by have := hs.2 y hy; omega) hve h.dB es.length (by omega) y (by rw [List.take_length]; exact hy)
  have h2 := h.ok.len
  omega
/-- What is owed behind a script. -/
def oweS (es : List Edg) (d s : List Int) : Int := owedL (movedL s es d)
theorem SCtx.owed (h : SCtx N es oe c d od cd p most limit w) {s : List Int} (hs : ScrOk N s) {g cap : Nat} {rest : List Value} {u : World} (hr : Row1 (Value.int .i64) u g 3 (movedL s es d) rest) (hcap : N ≤ cap) :
    Calls Tryz.prog 64 #[.slice (some ⟨g, 0, none⟩) N cap] u fun e w' => e = .returned (.int .i64 (oweS es d s)) ∧ u = w' := by
  have hl : (movedL s es d).length = N := by rw [moved_len, h.dN]
  have hn := h.n12
  have h5 := owed_any (movedL s es d) (some ⟨g, 0, none⟩) cap All u (hr.ints (fun y hy => by have := h.movB hs y hy; unfold I64; omega) trivial) (by omega) (by omega) (h.movB hs)
  rw [hl] at h5
  exact h5
end
/-- The best script up to now. -/
def BestAt (N : Nat) (w : World) (v : Value) : Option (List Int) → Prop
  | none => v = .slice none 0 0
  | some t => ∃ b off c, v = .slice (some ⟨b, off, none⟩) N c ∧ N ≤ c ∧ t.length = N ∧ SliceR intR 1 All w (some ⟨b, off, none⟩) t
theorem BestAt.below {N : Nat} {w w' : World} {v : Value} : ∀ {o : Option (List Int)}, BestAt N w v o → Below w.heap.size w w' → BestAt N w' v o
  | none, h, _ => h
  | some t, ⟨b, off, c, h1, h2, h3, h4⟩, hb => ⟨b, off, c, h1, h2, h3, h4.below intR_ok hb⟩
set_option maxRecDepth 100000 in
set_option maxHeartbeats 4000000 in
theorem winner_any {N : Nat} {es : List Edg} {oe : Option Addr} {c : Nat} {d : List Int} {od : Option Addr} {cd p : Nat} {most limit : Int} {w : World} (h : SCtx N es oe c d od cd p most limit w)
    (l : List (List Int)) (ol : Option Addr) (cl : Nat) (G : Foot) (hl : SliceR (slcR intR 1) 1 G w ol l) (hlc : l.length ≤ cl) (hl2 : l.length ≤ 9223372036854775807) (hL : Hid (∀ s ∈ l, ScrOk N s)) :
    Calls Tryz.prog 60 #[.pointer (some ⟨p, 0, none⟩), .slice ol l.length cl] w fun e w' => ∃ v, e = .returned v ∧ BestAt N w' v (l.foldl (winStep (winsO (oweS es d)) cmpL) none) ∧ Below w.heap.size w w' := by
  have h12 := h.n12
  have H := hide h
  have HL := hide hl
  clear h hl
  go_enter Tryz.func60, Tryz.ntmps60
  go_wp2_with fail
  go_loopg [5, 7, 10] l.length (fun gm bv _ iv wx => ∃ i : Nat, i ≤ l.length ∧ gm = l.length - i ∧ iv = .int .i64 i ∧ Hid (BestAt N wx bv ((l.take i).foldl (winStep (winsO (oweS es d)) cmpL) none)) ∧ Hid (Below w.heap.size w wx))
  case atStart => exact ⟨0, by omega, by omega, rfl, rfl, Below.refl _ _⟩
  case round =>
    obtain ⟨i, hi, hgm, rfl, HB, HW⟩ := hrel
    have HGM := hide hgm
    clear hgm
    by_cases hlt : i < l.length
    · obtain ⟨s, _, hget, b, off, os, cs, hol, _, c0, hsc, _, hsr⟩ := (HL.out.below (slcR_ok intR_ok (by decide)) HW.out).slc_at hlt
      have hsk := hL.out s (List.mem_of_getElem? hget)
      have hsN := hsk.1
      rw [hsN] at c0 hsc
      obtain ⟨sx, _, _, _, bs, ofs, hos, _, _⟩ := hsr.int_at (i := 0) (by omega)
      subst hos hol
      have HSK := hide hsk
      have HSR := hide hsr
      have HNX : Hid ((l.take (i + 1)).foldl (winStep (winsO (oweS es d)) cmpL) none = winStep (winsO (oweS es d)) cmpL ((l.take i).foldl (winStep (winsO (oweS es d)) cmpL) none) s) := by
        show _ = _
        rw [List.take_add_one, hget, List.foldl_append]
        rfl
      generalize (l.take i).foldl (winStep (winsO (oweS es d)) cmpL) none = best at *
      have HBE := hide ((H.out.below HW.out).behind (cs := cs) hsk hsr)
      clear hget hsk hsr hsN
      go_wp2_with fail
      refine HBE.out.mono ?_
      rintro e w3 ⟨g, cap, rest, rfl, hcap, hg, hr, hb3⟩
      have HOW := hide (H.out.owed HSK.out hr hcap)
      have HW3 := hide (below_then HW.out hb3)
      have HB3 := hide (HB.out.below hb3)
      have HSR3 := hide ((HSR.out.below intR_ok hb3).all intR_ok (by decide))
      obtain ⟨O, hO⟩ : ∃ O, O = oweS es d s := ⟨_, rfl⟩
      have HWN : Hid (winsO (oweS es d) s = decide (O = 0)) := by rw [hO]; rfl
      rw [← hO] at HOW
      clear hr hb3 hO hg c0
      go_wp2_with fail
      refine HOW.out.mono ?_
      rintro e w4 ⟨rfl, hw4⟩
      subst hw4
      by_cases h0 : O = 0
      · have HW1 : Hid (winsO (oweS es d) s = true) := by show _ = _; rw [HWN.out]; exact decide_eq_true h0
        have q0 : (O == 0) = true := by simpa using h0
        have HBS : Hid (BestAt N w3 (.slice (some ⟨bs, ofs, none⟩) N cs) (some s)) := ⟨bs, ofs, cs, rfl, hsc, HSK.out.1, HSR3.out⟩
        clear h0
        rcases best with _ | t
        · have h5 : u5 = .slice none 0 0 := HB3.out
          subst h5
          have hq : (binOp .eql 26 (.slice none 0 0) (.slice none 0 0)).run Tryz.prog w3 = .ok (.bool true) w3 := Lib.run_eql_slice_nil w3 _ 3 none 0 0 _ _ Tryz.underlying26
          have HN2 : Hid (winStep (winsO (oweS es d)) cmpL none s = some s) := by show _ = _; unfold winStep; rw [if_pos ⟨HW1.out, .inl rfl⟩]
          go_wp2_with fail
          go_roundg (l.length - (i + 1))
          case rel => exact ⟨i + 1, by omega, rfl, by go_num, by rw [HNX.out, HN2.out]; exact HBS.out, HW3.out⟩
          case measure => rw [HGM.out]; omega
        · obtain ⟨b5, o5, c5, h5, hc5, ht5, hs5⟩ := HB3.out
          subst h5
          have hq : (binOp .eql 26 (.slice (some ⟨b5, o5, none⟩) N c5) (.slice none 0 0)).run Tryz.prog w3 = .ok (.bool false) w3 := Lib.run_eql_slice_nil w3 _ 3 (some ⟨b5, o5, none⟩) N c5 _ _ Tryz.underlying26
          have HCM := hide (scmp_any (N := N) (by omega) s t HSK.out.1 ht5 (some ⟨bs, ofs, none⟩) (some ⟨b5, o5, none⟩) cs c5 All All w3 HSR3.out hs5 hsc hc5)
          have HN2 : Hid (winStep (winsO (oweS es d)) cmpL (some t) s = if cmpL s t < 0 then some s else some t) := by
            show _ = _
            unfold winStep
            by_cases h : cmpL s t < 0
            · rw [if_pos ⟨HW1.out, .inr ⟨t, rfl, h⟩⟩, if_pos h]
            · rw [if_neg h, if_neg]
              rintro ⟨_, h2 | ⟨u, h2, h3⟩⟩
              · exact absurd h2 (by simp)
              · injection h2 with h2; rw [h2] at h; exact h h3
          generalize cmpL s t = z at *
          clear ht5 hs5
          by_cases hz : z < 0
          · have HN3 : Hid (winStep (winsO (oweS es d)) cmpL (some t) s = some s) := by show _ = _; rw [HN2.out, if_pos hz]
            go_wp2_with fail
            refine HCM.out.mono ?_
            rintro e w5 ⟨rfl, hw5⟩
            subst hw5
            go_wp2_with fail
            go_roundg (l.length - (i + 1))
            case rel => exact ⟨i + 1, by omega, rfl, by go_num, by rw [HNX.out, HN3.out]; exact HBS.out, HW3.out⟩
            case measure => rw [HGM.out]; omega
          · have HN3 : Hid (winStep (winsO (oweS es d)) cmpL (some t) s = some t) := by show _ = _; rw [HN2.out, if_neg hz]
            go_wp2_with fail
            refine HCM.out.mono ?_
            rintro e w5 ⟨rfl, hw5⟩
            subst hw5
            go_wp2_with fail
            go_roundg (l.length - (i + 1))
            case rel => exact ⟨i + 1, by omega, rfl, by go_num, by rw [HNX.out, HN3.out]; exact HB3.out, HW3.out⟩
            case measure => rw [HGM.out]; omega
      · have HN2 : Hid (winStep (winsO (oweS es d)) cmpL best s = best) := by
          show _ = _
          unfold winStep
          rw [if_neg]
          rintro ⟨h2, _⟩
          rw [HWN.out] at h2
          exact h0 (of_decide_eq_true h2)
        have q0 : (O == 0) = false := by simpa using h0
        clear h0
        go_wp2_with fail
        go_roundg (l.length - (i + 1))
        case rel => exact ⟨i + 1, by omega, rfl, by go_num, by rw [HNX.out, HN2.out]; exact HB3.out, HW3.out⟩
        case measure => rw [HGM.out]; omega
    · have hie : l.take i = l := List.take_of_length_le (by omega)
      rw [hie] at HB
      clear hie
      go_wp2_with fail
      go_ret
      exact ⟨_, rfl, HB.out, HW.out⟩
end Go.Proofs.YtpgopmmobbemcaaGreat

set_option linter.unusedVariables false
set_option linter.unusedSimpArgs false
set_option linter.unnecessarySimpa false
namespace Go.Proofs.YtpgopmmobbemcaaGreat
open Go.RowKit Go.WideMaps
open Go.Maps (Keyed)

set_option maxHeartbeats 1000000 in
theorem keyLaid : laidOutB Tryz.prog = true := by kernel_rfl
theorem keyRow : (137 : TypeId) < Tryz.prog.types.size := of_decide_eq_true (by kernel_rfl)
theorem keyWide : (match Tryz.prog.underlying 137 with | some (.array _ _) | some (.struct _) => true | _ => false) = true := by rw [Tryz.underlying137]
theorem keyDeep : Tryz.prog.keyTypeAt 2 137 = true := by kernel_rfl
set_option maxRecDepth 100000 in
theorem keyLawA : Keyed Tryz.prog 137 := Keyed.of_law (deep_law_laid (m := 2) keyLaid (by decide) keyRow keyDeep keyWide)
theorem keyArr : ArrKey Tryz.prog 137 3 12 := ⟨Tryz.underlying137, by kernel_rfl, by kernel_rfl, by kernel_rfl⟩
theorem mapM_some {α β : Type} {f : α → Option β} : ∀ {l : List α}, (∀ i ∈ l, ∃ y, f i = some y) → ∃ ys, l.mapM f = some ys
  | [], _ => ⟨[], rfl⟩
  | a :: r, h => by
    obtain ⟨y, hy⟩ := h a (by simp)
    obtain ⟨ys, hys⟩ := mapM_some (l := r) fun i hi => h i (by simp [hi])
    exact ⟨y :: ys, by rw [List.mapM_cons, hy, hys]; rfl⟩
theorem keyC_ints {s : List Int} (hs : ∀ y ∈ s, I64 y) : ∀ v ∈ keyC s, ∃ x, v = .int .i64 x ∧ I64 x := fun v hv => by
  simp only [keyC, splice, List.mem_append] at hv
  rcases hv with h | h | h
  · simp at h
  · obtain ⟨x, hx, rfl⟩ := List.mem_map.1 h
    exact ⟨x, rfl, hs x hx⟩
  · have h5 := List.mem_of_mem_drop h
    simp only [List.mem_replicate] at h5
    exact ⟨0, h5.2, by unfold I64; omega⟩
theorem keySz : ∃ m, Tryz.prog.types.size = m + 1 := Nat.exists_eq_succ_of_ne_zero (Nat.ne_of_gt (Nat.lt_of_le_of_lt (Nat.zero_le _) keyRow))
theorem key_of {s : List Int} (hl : s.length ≤ 12) (hs : ∀ y ∈ s, I64 y) : ∃ kl, keyOf Tryz.prog 137 (.agg (keyC s).toArray) = some kl := by
  have hkt := keyArr.keyType keySz
  obtain ⟨m, hm⟩ := keySz
  unfold keyOf
  simp only [keyArr.hu]
  rw [if_pos (by simp [hkt, Value.formed, keyArr.hu, keyArr.size, keyC_len hl]), hm]
  unfold Program.keyLits
  simp only [keyArr.hu, Value.cells]
  rw [if_pos (by rw [keyArr.size]; simpa using keyC_len hl)]
  obtain ⟨ys, hys⟩ := mapM_some (l := List.range 12) (f := fun i => Tryz.prog.keyLits (m + 1) 3 (((keyC s).drop (i * Tryz.prog.cellsOf 3)).take (Tryz.prog.cellsOf 3))) fun i hi => by
    have hi2 : i < (keyC s).length := by rw [keyC_len hl]; exact List.mem_range.1 hi
    obtain ⟨x, hx, ix⟩ := keyC_ints hs (keyC s)[i] (List.getElem_mem hi2)
    refine ⟨[.int .i64 x], ?_⟩
    rw [keyArr.one, Nat.mul_one, List.drop_eq_getElem_cons hi2]
    simp only [List.take_succ_cons, List.take_zero, hx]
    unfold Program.keyLits
    rw [Tryz.underlying3]
    simp only
    rw [if_pos ⟨trivial, WalkArith.wf_i64 ix⟩]
  have e : (keyC s).toArray.toList = keyC s := by simp
  simp only [e, hys]
  exact ⟨_, rfl⟩
section
variable {P : Program} {K B M : TypeId}
theorem plainElem_bool_inv (hB : P.underlying B = some .bool) {v : Value} {z : DataW Unit × List MemPlace} (h : plainElem P B v = some z) : ∃ b, v = .bool b ∧ z = (.lit (.bool b), []) := by
  unfold plainElem at h
  rw [hB] at h
  cases v <;> simp at h
  exact ⟨_, rfl, h.symm⟩
/-- What has been seen: the scripts of length N in S. -/
def SeenP (P : Program) (K B : TypeId) (N : Nat) (w : World) (b n : Nat) (S : List (List Int)) : Prop :=
  ∃ D : DataW Unit, w.ownsMap P K (plainElem P B) b n D ∧ ∀ s kl, s.length = N → keyOf P K (.agg (keyC s).toArray) = some kl → D.atKey kl (.lit (.bool false)) = .lit (.bool (decide (s ∈ S)))
variable {N : Nat} {w w' : World} {b n : Nat} {S : List (List Int)}
theorem SeenP.made (N : Nat) (w : World) : SeenP P K B N (w.alloc (.map #[] 0)) w.heap.size 0 [] :=
  ⟨.map [], World.ownsMap_made w _ _ _, fun s kl _ _ => by simp [DataW.atKey]⟩
theorem SeenP.keep (h : SeenP P K B N w b n S) (hb : w'.heap[b]? = w.heap[b]?) : SeenP P K B N w' b n S := by
  obtain ⟨D, ⟨es, clock, h1, h2⟩, h3⟩ := h
  exact ⟨D, ⟨es, clock, hb.trans h1, h2⟩, h3⟩
theorem SeenP.lt (h : SeenP P K B N w b n S) : b < w.heap.size := h.choose_spec.1.lt
theorem SeenP.below (h : SeenP P K B N w b n S) (hb : Below w.heap.size w w') : SeenP P K B N w' b n S := h.keep (hb.block b h.lt)
theorem SeenP.look (law : Keyed P K) (hM : P.underlying M = some (.map K B)) (hB : P.underlying B = some .bool) (hz : ∀ w, (zeroValue B).run P w = .ok (.bool false) w) (h : SeenP P K B N w b n S) {s : List Int} (hs : s.length = N) (hkl : ∃ kl, keyOf P K (.agg (keyC s).toArray) = some kl) :
    (Instr.lookup M (.map (some b)) (.agg (keyC s).toArray) false).run P w = .ok (.bool (decide (s ∈ S))) w := by
  obtain ⟨D, h1, h2⟩ := h
  obtain ⟨kl, hkl⟩ := hkl
  obtain ⟨v, ps, hr, hv⟩ := h1.lookup law hM (hz w) (plainElem_bool hB false) hkl
  rw [h2 s kl hs hkl] at hv
  obtain ⟨x, rfl, hx⟩ := plainElem_bool_inv hB hv
  injection hx with hx _
  injection hx with hx
  injection hx with hx
  rw [hx]
  exact hr
theorem SeenP.upd (law : Keyed P K) (hM : P.underlying M = some (.map K B)) (hB : P.underlying B = some .bool) (h : SeenP P K B N w b n S) {s : List Int} (hs : s.length = N) (hkl : ∃ kl, keyOf P K (.agg (keyC s).toArray) = some kl) (hn : n < maxLen) :
    ∃ w', (Instr.mapUpdate M (.map (some b)) (.agg (keyC s).toArray) (.bool true)).run P w = .ok () w' ∧ SeenP P K B N w' b (n + 1) (S ++ [s]) ∧ w.grownBy w' (some b) := by
  obtain ⟨D, h1, h2⟩ := h
  obtain ⟨kl, hkl⟩ := hkl
  obtain ⟨w', hr, ho, hg⟩ := h1.update law hM hn hkl (plainElem_bool hB true)
  refine ⟨w', hr, ⟨_, ho, fun t tl ht htl => ?_⟩, hg⟩
  by_cases e : t = s
  · subst e
    have : tl = kl := by rw [hkl] at htl; injection htl with h; exact h.symm
    subst this
    have hmap : Go.Maps.IsMap D := by
      obtain ⟨es, clock, _, _, _, hD⟩ := h1
      exact ⟨_, hD⟩
    rw [Go.Maps.atKey_put_same hmap (law.key hkl)]
    simp
  · have hne : tl ≠ kl := fun h => e (by
      subst h
      have h5 := law.inj htl hkl
      injection h5 with h5
      exact keyC_inj (by omega) (by simpa using h5))
    rw [Go.Maps.atKey_put_other hne, h2 t tl ht htl]
    simp [e]
end
theorem boolE (w : World) : (zeroValue 4).run Tryz.prog w = .ok (.bool false) w := by kernel_rfl
def SeenM (N : Nat) (w : World) (b n : Nat) (S : List (List Int)) : Prop := SeenP Tryz.prog 137 4 N w b n S
theorem SeenM.look {N : Nat} {w : World} {b n : Nat} {S : List (List Int)} (h : SeenM N w b n S) {s : List Int} (hs : s.length = N) (h12 : N ≤ 12) (hi : ∀ y ∈ s, I64 y) : (Instr.lookup 134 (.map (some b)) (.agg (keyC s).toArray) false).run Tryz.prog w = .ok (.bool (decide (s ∈ S))) w :=
  SeenP.look keyLawA Tryz.underlying134 Tryz.underlying4 boolE h hs (key_of (by omega) hi)
theorem SeenM.upd {N : Nat} {w : World} {b n : Nat} {S : List (List Int)} (h : SeenM N w b n S) {s : List Int} (hs : s.length = N) (h12 : N ≤ 12) (hi : ∀ y ∈ s, I64 y) (hn : n < maxLen) : ∃ w', (Instr.mapUpdate 134 (.map (some b)) (.agg (keyC s).toArray) (.bool true)).run Tryz.prog w = .ok () w' ∧ SeenM N w' b (n + 1) (S ++ [s]) ∧ w.grownBy w' (some b) :=
  SeenP.upd keyLawA Tryz.underlying134 Tryz.underlying4 h hs (key_of (by omega) hi) hn
set_option maxHeartbeats 400000 in
theorem cloneSc_any (l : List Int) (oa : Option Addr) (c : Nat) (F : Foot) (w : World) (hs : SliceR intR 1 F w oa l) (hc : l.length ≤ c) (hc2 : l.length ≤ 1000000000000) :
    Calls Tryz.prog 95 #[.slice oa l.length c] w fun e w' => ∃ v, e = .returned v ∧ OwnS intR 1 w.heap.size 3 Non w' v l ∧ Below w.heap.size w w' := by
  cases oa with
  | none =>
    have hl : l = [] := by
      cases l with
      | nil => rfl
      | cons x r => obtain ⟨b, off, cs, h, _⟩ := hs 0 x rfl; cases h
    subst hl
    have hq : ∀ w : World, (binOp .eql 26 (.slice none 0 c) (.slice none 0 0)).run Tryz.prog w = .ok (.bool true) w := fun w => Lib.run_eql_slice_nil w _ 3 none 0 c 0 0 Tryz.underlying26
    go_enter Tryz.func95, Tryz.ntmps95
    go_wp2_with fail
    go_ret
    exact ⟨_, rfl, OwnS.nil _ _ _ _ _ _, Below.refl _ _⟩
  | some ad =>
    have hq : ∀ w : World, (binOp .eql 26 (.slice (some ad) l.length c) (.slice none 0 0)).run Tryz.prog w = .ok (.bool false) w := fun w => Lib.run_eql_slice_nil w _ 3 (some ad) l.length c 0 0 Tryz.underlying26
    go_enter Tryz.func95, Tryz.ntmps95
    go_wp2_with (at_builtin; refine wpList_append_rep rfl (.tmp 5) (.tmp 6) 26 rfl w.heap.size 3 _ 1 8 Tryz.underlying26 iInfo rfl (by decide) intR_ok Non F (.slice (some ⟨w.heap.size, 0, none⟩) 0 0) [] rfl (OwnS.made _ _ _ _ _) (some ad) c l rfl (hs.below intR_ok (bnew (Below.refl _ _) _)) (fun _ _ h => h) (fun _ h => h.elim) (by simp; omega) (by simp; omega) (by simp) ?_; intro v' w1 ho hb1 hg)
    go_ret
    exact ⟨_, rfl, by simpa using ho, (bnew (Below.refl _ _) _).trans hb1⟩
end Go.Proofs.YtpgopmmobbemcaaGreat

set_option linter.unusedVariables false
set_option linter.unusedSimpArgs false
set_option linter.unnecessarySimpa false
namespace Go.Proofs.YtpgopmmobbemcaaGreat
open Go.RowKit

def stepsJ (s : List Int) (v j : Nat) : List (List Int) := (([-1, 1] : List Int).take j).filterMap fun k => stepsV s v k
def stepsUp (s : List Int) (v : Nat) : List (List Int) := (List.range v).flatMap fun u => ([-1, 1] : List Int).filterMap fun k => stepsV s u k
theorem stepsUp_succ (s : List Int) (v : Nat) : stepsUp s (v + 1) = stepsUp s v ++ stepsJ s v 2 := by
  unfold stepsUp
  rw [List.range_succ, List.flatMap_append]
  simp [stepsJ]
theorem stepsJ_1 (s : List Int) (v : Nat) : stepsJ s v 1 = stepsJ s v 0 ++ (stepsV s v (-1)).toList := by
  unfold stepsJ
  cases h : stepsV s v (-1) <;> simp [h]
theorem stepsJ_2 (s : List Int) (v : Nat) : stepsJ s v 2 = stepsJ s v 1 ++ (stepsV s v 1).toList := by
  unfold stepsJ
  cases h : stepsV s v (-1) <;> cases h2 : stepsV s v 1 <;> simp [h, h2]
theorem candL_succ {l : List (List Int)} {i : Nat} {s : List Int} (h : l[i]? = some s) : candL (l.take (i + 1)) = candL (l.take i) ++ stepsUp s s.length := by
  unfold candL
  rw [List.take_add_one, h, List.flatMap_append]
  simp [stepsS, stepsUp]
def foldC (good : List Int → Bool) (cs : List (List Int)) : List (List Int) × List (List Int) := cs.foldl (addC good) ([], [])
theorem foldC_none {good : List Int → Bool} {a b c : List (List Int)} {o : Option (List Int)} (h : c = b ++ o.toList) (ho : o = none) : foldC good (a ++ c) = foldC good (a ++ b) := by
  rw [h, ho]; simp
theorem foldC_some {good : List Int → Bool} {a b c : List (List Int)} {o : Option (List Int)} {y : List Int} (h : c = b ++ o.toList) (ho : o = some y) : foldC good (a ++ c) = addC good (foldC good (a ++ b)) y := by
  rw [h, ho]
  unfold foldC
  rw [← List.append_assoc, List.foldl_append]
  rfl
theorem boundB_le {o most : Int} (ho : 0 ≤ o) (hm : 0 ≤ most) : 0 ≤ boundB o most ∧ boundB o most ≤ o + most := by
  unfold boundB
  split
  · omega
  · have h1 : 0 ≤ (o + most - 1) / most := Int.ediv_nonneg (by omega) hm
    have h2 : (o + most - 1) / most ≤ o + most - 1 := Int.ediv_le_self _ (by omega)
    omega
theorem stepsV_none {s : List Int} {v : Nat} {k : Int} (h : s.getD v 0 * k < 0) : stepsV s v k = none := if_pos h
theorem stepsV_some {s : List Int} {v : Nat} {k : Int} (h : ¬ s.getD v 0 * k < 0) : stepsV s v k = some (nudS s v k) := if_neg h
/-- The scripts seen and kept, in memory. -/
structure MoreSt (N b : Nat) (W : World) (n : Nat) (S1 S2 : List (List Int)) (pv : Value) (wx : World) : Prop where
  seen : SeenM N wx b n S1
  out : OwnS (slcR intR 1) 1 (b + 1) 26 (InF (fun k => k ≠ b) pv) wx pv S2
  be : Below b W wx
section
variable {N b n : Nat} {W wx w' : World} {S1 S2 : List (List Int)} {pv : Value}
theorem MoreSt.below (h : MoreSt N b W n S1 S2 pv wx) (hb : Below wx.heap.size wx w') : MoreSt N b W n S1 S2 pv w' :=
  ⟨SeenP.below h.seen hb, h.out.keep (slcR_ok intR_ok (by decide)) (fun g hg => hb.block g (h.out.block g hg).2) (fun k _ hl => hb.block k hl), h.be.trans (hb.mono (Nat.le_of_lt (SeenP.lt h.seen)))⟩
theorem MoreSt.turn (h : MoreSt N b W n S1 S2 pv wx) {S1' : List (List Int)} (hg : wx.grownBy w' (some b)) (hs : SeenM N w' b (n + 1) S1') : MoreSt N b W (n + 1) S1' S2 pv w' :=
  ⟨hs, h.out.keep (slcR_ok intR_ok (by decide)) (fun g hgo => by have h5 := h.out.block g hgo; exact hg.block g h5.2 (fun e => by injection e with e; omega)) (fun k hk hl => hg.block k hl (fun e => by injection e with e; exact hk.1 e)), h.be.grown hg (Nat.le_of_lt (SeenP.lt h.seen)) fun k hk => by injection hk with hk; omega⟩
end
theorem SCtx.bound {N : Nat} {es : List Edg} {oe : Option Addr} {c : Nat} {d : List Int} {od : Option Addr} {cd p : Nat} {most limit : Int} {w : World} (h : SCtx N es oe c d od cd p most limit w) (hmost : 0 ≤ most ∧ most ≤ 1000000) {s : List Int} (hs : ScrOk N s) {g cap : Nat} {rest : List Value} {u : World} (hr : Row1 (Value.int .i64) u g 3 (movedL s es d) rest) (hcap : N ≤ cap) :
    Calls Tryz.prog 65 #[.slice (some ⟨g, 0, none⟩) N cap, .int .i64 most] u fun e w' => e = .returned (.int .i64 (boundB (oweS es d s) most)) ∧ u = w' := by
  have hl : (movedL s es d).length = N := by rw [moved_len, h.dN]
  have hn := h.n12
  have h5 := bound_any (movedL s es d) (some ⟨g, 0, none⟩) cap All u (hr.ints (fun y hy => by have := h.movB hs y hy; unfold I64; omega) trivial) (by omega) (by omega) (h.movB hs) most hmost
  rw [hl] at h5
  exact h5
theorem SCtx.oweB {N : Nat} {es : List Edg} {oe : Option Addr} {c : Nat} {d : List Int} {od : Option Addr} {cd p : Nat} {most limit : Int} {w : World} (h : SCtx N es oe c d od cd p most limit w) {s : List Int} (hs : ScrOk N s) : 0 ≤ oweS es d s ∧ oweS es d s ≤ 12000000000000 := by
  refine ⟨owedL_nn _, ?_⟩
  have h1 := owedL_le (c := 1000000000000) (by omega) (movedL s es d) (h.movB hs)
  have hl : (movedL s es d).length = N := by rw [moved_len, h.dN]
  have hn := h.n12
  rw [hl] at h1
  unfold oweS
  omega
theorem step_at0 (w : World) : (Instr.index 135 (.agg #[.int .i64 (-1), .int .i64 1]) (.int .i64 0)).run Tryz.prog w = .ok (.int .i64 (-1)) w := by kernel_rfl
theorem step_at1 (w : World) : (Instr.index 135 (.agg #[.int .i64 (-1), .int .i64 1]) (.int .i64 1)).run Tryz.prog w = .ok (.int .i64 1) w := by kernel_rfl
theorem i64_same {n : Int} (h : -9223372036854775808 ≤ n ∧ n ≤ 9223372036854775807) : IntKind.i64.wrap n = n := by
  simp only [IntKind.wrap, IntKind.signed, IntKind.bits]
  simp
  omega
theorem scrInfo : (Tryz.prog.info? 26).map (fun i => (i.zero, i.size, i.bytes)) = some (some (.slice none 0 0), 1, 24) := by kernel_rfl
theorem nud_row {N : Nat} {s : List Int} (hN : s.length = N) (hs : ∀ y ∈ s, -50 ≤ y ∧ y ≤ 50) {v : Nat} {x k : Int} (hx : s[v]? = some x) (hk : k = 1 ∨ k = -1) : ScrOk N (nudS s v k) ∧ nudS s v k = s.set v (x + k) := by
  have e : s.getD v 0 = x := by rw [List.getD_eq_getElem?_getD, hx]; rfl
  refine ⟨⟨by rw [nudS_len]; exact hN, fun y hy => ?_⟩, by unfold nudS; rw [e]⟩
  unfold nudS at hy
  rw [e] at hy
  have hxb := hs x (List.mem_of_getElem? hx)
  rcases List.mem_or_eq_of_mem_set hy with h | h
  · have := hs y h; omega
  · omega
set_option maxRecDepth 100000 in
set_option maxHeartbeats 8000000 in
theorem more_any {N : Nat} {es : List Edg} {oe : Option Addr} {c : Nat} {d : List Int} {od : Option Addr} {cd p : Nat} {most limit : Int} {w : World} (h : SCtx N es oe c d od cd p most limit w) (hmost : 0 ≤ most ∧ most ≤ 1000000) (hlim : 0 ≤ limit ∧ limit ≤ 1000)
    (l : List (List Int)) (ol : Option Addr) (cl : Nat) (G : Foot) (hl : SliceR (slcR intR 1) 1 G w ol l) (hlc : l.length ≤ cl) (hl2 : l.length ≤ 110075314176) (hL : Hid (∀ s ∈ l, s.length = N ∧ ∀ y ∈ s, -50 ≤ y ∧ y ≤ 50)) (m : Int) (hm : 0 ≤ m ∧ m ≤ 1000) :
    Calls Tryz.prog 61 #[.pointer (some ⟨p, 0, none⟩), .slice ol l.length cl, .int .i64 m] w fun e w' => ∃ oa c, e = .returned (.slice oa (moreS (goodS (oweS es d) most limit (m + 1)) l).2.length c) ∧ (moreS (goodS (oweS es d) most limit (m + 1)) l).2.length ≤ c ∧ SliceR (slcR intR 1) 1 All w' oa (moreS (goodS (oweS es d) most limit (m + 1)) l).2 ∧ Below w.heap.size w w' := by
  have h12 := h.n12
  have H := hide h
  have HL := hide hl
  have hmm := @run_makeMap Tryz.prog
  obtain ⟨good, hgood⟩ : ∃ good, good = goodS (oweS es d) most limit (m + 1) := ⟨_, rfl⟩
  rw [← hgood]
  have HGOOD := hide hgood
  clear h hl hgood
  go_enter Tryz.func61, Tryz.ntmps61
  go_wp2_with fail
  have HM0 : Hid (MoreSt N w.heap.size w 0 [] [] (.slice none 0 0) (w.alloc (.map #[] 0))) := ⟨SeenP.made N w, OwnS.nil _ _ _ _ _ _, bnew (Below.refl _ _) _⟩
  generalize w.alloc (.map #[] 0) = W1 at *
  clear hmm
  go_loopg [8, 20] l.length (fun gm pv iv wx => ∃ (i n : Nat) (S1 S2 : List (List Int)), i ≤ l.length ∧ gm = l.length - i ∧ iv = .int .i64 i ∧ n ≤ 24 * i ∧ S2.length ≤ n ∧ Hid (foldC good (candL (l.take i)) = (S1, S2)) ∧ Hid (MoreSt N w.heap.size w n S1 S2 pv wx))
  case atStart => exact ⟨0, 0, [], [], by omega, by omega, rfl, by omega, by simp, rfl, HM0⟩
  case round =>
    obtain ⟨i, n, S1, S2, hi, hgm, rfl, hn, hS2, HF, HM⟩ := hrel
    have HGM := hide hgm
    clear hgm HM0
    by_cases hlt : i < l.length
    · obtain ⟨s, _, hget, b, off, os, cs, hol, _, c0, hsc, _, hsr⟩ := HL.out.slc_at hlt
      replace c0 := (HM.out.be.cell (World.block_lt_of_cell? _ _ c0)).trans c0
      have hsk := hL.out s (List.mem_of_getElem? hget)
      have hsN := hsk.1
      rw [hsN] at c0 hsc
      subst hol
      have HSK := hide hsk
      have HSR := hide hsr
      have HCS := hide (candL_succ hget)
      obtain ⟨cA, hcA⟩ : ∃ cA, cA = candL (l.take i) := ⟨_, rfl⟩
      rw [← hcA] at HF HCS
      have HSN := hide hsN
      clear hget hsk hsr hsN hcA
      obtain ⟨wt, hwt0⟩ : ∃ wt : World, wt = wr := ⟨_, rfl⟩
      subst hwt0
      go_wp2_with fail
      go_loopg [8, 26] N (fun gm pv iv wx => ∃ (v n : Nat) (S1 S2 : List (List Int)), v ≤ N ∧ gm = N - v ∧ iv = .int .i64 v ∧ n ≤ 24 * i + 2 * v ∧ S2.length ≤ n ∧ Hid (foldC good (cA ++ stepsUp s v) = (S1, S2)) ∧ Hid (MoreSt N w.heap.size w n S1 S2 pv wx))
      case atStart => exact ⟨0, n, S1, S2, by omega, by omega, rfl, by omega, hS2, by show _ = _; simpa [stepsUp] using HF.out, HM⟩
      case round =>
        clear HF HM hn hS2 n S1 S2 c0
        obtain ⟨v, n, S1, S2, hv, hgm, rfl, hn, hS2, HF, HM⟩ := hrel
        have HGM2 := hide hgm
        clear hgm
        by_cases hlv : v < N
        · obtain ⟨x, _, hxg, ix, bs, ofs, hos, _, cx⟩ := (HSR.out.below intR_ok HM.out.be).int_at (i := v) (by rw [HSN.out]; exact hlv)
          subst hos
          have HXG := hide hxg
          have hxb := HSK.out.2 x (List.mem_of_getElem? hxg)
          have HGD : Hid (s.getD v 0 = x) := by show _ = _; rw [List.getD_eq_getElem?_getD, hxg]; rfl
          have hv0 : (0 : Int) ≤ v := by omega
          have hv1 : (v : Int) < N := by omega
          clear hxg
          go_wp2_with fail
          clear cx
          go_loopg [8, 32] 2 (fun gm pv iv wx => ∃ (j n : Nat) (S1 S2 : List (List Int)), j ≤ 2 ∧ gm = 2 - j ∧ iv = .int .i64 j ∧ n ≤ 24 * i + 2 * v + j ∧ S2.length ≤ n ∧ Hid (foldC good (cA ++ (stepsUp s v ++ stepsJ s v j)) = (S1, S2)) ∧ Hid (MoreSt N w.heap.size w n S1 S2 pv wx))
          case atStart => exact ⟨0, n, S1, S2, by omega, by omega, rfl, by omega, hS2, by show _ = _; simpa [stepsJ] using HF.out, HM⟩
          case round =>
            clear HF HM hn hS2 n S1 S2
            obtain ⟨j, n, S1, S2, hj, hgm, rfl, hn, hS2, HF, HM⟩ := hrel
            have HGM3 := hide hgm
            clear hgm
            by_cases hj0 : j = 0
            · subst hj0
              have hix := step_at0 wr
              rw [show ((0 : Nat) : Int) = 0 from rfl]
              have HST : Hid (stepsUp s v ++ stepsJ s v (0 + 1) = (stepsUp s v ++ stepsJ s v 0) ++ (stepsV s v (-1)).toList) := by show _ = _; rw [stepsJ_1, List.append_assoc]
              by_cases hneg : x * (-1) < 0
              · have HF2 : Hid (foldC good (cA ++ (stepsUp s v ++ stepsJ s v (0 + 1))) = (S1, S2)) := by
                  show _ = _
                  rw [foldC_none HST.out (stepsV_none (by rw [HGD.out]; exact hneg))]
                  exact HF.out
                go_wp2_with fail
                go_roundg (2 - (0 + 1))
                case rel => exact ⟨0 + 1, n, S1, S2, by omega, rfl, by go_num, by omega, hS2, HF2, HM⟩
                case measure => rw [HGM3.out]; omega
              · have HF1 : Hid (foldC good (cA ++ (stepsUp s v ++ stepsJ s v (0 + 1))) = addC good (S1, S2) (nudS s v (-1))) := by
                  show _ = _
                  rw [foldC_some HST.out (stepsV_some (by rw [HGD.out]; exact hneg)), HF.out]
                have hnk := nud_row HSK.out.1 HSK.out.2 HXG.out (k := -1) (by first | exact .inl rfl | exact .inr rfl)
                obtain ⟨nx, hnx⟩ : ∃ nx, nx = nudS s v (-1) := ⟨_, rfl⟩
                rw [← hnx] at hnk HF1
                have hnxN := hnk.1.1
                have HNK := hide hnk
                have HNI : Hid (∀ y ∈ nx, I64 y) := fun y hy => by have := HNK.out.1.2 y hy; unfold I64; omega
                have HCL : Hid (Calls Tryz.prog 95 #[.slice (some ⟨bs, ofs, none⟩) N cs] wr fun e w' => ∃ g c2 rest, e = .returned (.slice (some ⟨g, 0, none⟩) N c2) ∧ Row1 (Value.int .i64) w' g 3 s rest ∧ N ≤ c2 ∧ wr.heap.size ≤ g ∧ Below wr.heap.size wr w') := by
                  have hcl := cloneSc_any s (some ⟨bs, ofs, none⟩) cs G wr (HSR.out.below intR_ok HM.out.be) (by rw [HSN.out]; exact hsc) (by rw [HSN.out]; omega)
                  rw [HSN.out] at hcl
                  refine hcl.mono ?_
                  rintro e w' ⟨vv, rfl, ho, hb⟩
                  obtain ⟨g, cap, rest, rfl, h1, h2, _, h4, _⟩ := ho.row (by intro e; have h9 := HSN.out; rw [e] at h9; simp at h9; omega)
                  rw [HSN.out] at h2 ⊢
                  exact ⟨g, cap, rest, rfl, h4, by omega, h1, hb⟩
                have HNXN := hide hnxN
                have hbw := SeenP.lt HM.out.seen
                clear hnk hnx hnxN
                go_wp2_with fail
                refine HCL.out.mono ?_
                rintro e w5 ⟨g, c2, rest, rfl, hr5, hc2, hg5, hb5⟩
                have r0 := hr5.cell HXG.out
                have rf := hr5.free v
                have hg5l := hr5.lt
                obtain ⟨W6, hW6⟩ : ∃ W6, w5.setCell ⟨g, v, none⟩ (.int .i64 (x + (-1))) = W6 := ⟨_, rfl⟩
                have hR6 : Row1 (Value.int .i64) W6 g 3 nx rest := by
                  rw [← hW6, HNK.out.2]
                  exact hr5.put (i := v) (by rw [HSN.out]; exact hlv) (x + (-1))
                have hb6 : Below wr.heap.size wr W6 := by rw [← hW6]; exact hb5.setCell hg5 _
                have HM6 := hide (HM.out.below hb6)
                have HKE : Hid (Calls Tryz.prog 96 #[.slice (some ⟨g, 0, none⟩) N c2] W6 fun e w' => e = .returned (.agg (keyC nx).toArray) ∧ Below W6.heap.size W6 w') := by
                  have h9 := keyed_any nx (some ⟨g, 0, none⟩) c2 All W6 (hR6.ints HNI.out trivial) (by rw [HNXN.out]; exact hc2) (by rw [HNXN.out]; exact h12)
                  rw [HNXN.out] at h9
                  exact h9
                have HR6 := hide hR6
                have HB6 := hide hb6
                clear hr5 hb5 hR6 hb6
                go_wp2_with fail
                refine HKE.out.mono ?_
                rintro e w7 ⟨rfl, hb7⟩
                clear hW6 r0 rf
                obtain ⟨kc, hkc⟩ : ∃ kc, kc = keyC nx := ⟨_, rfl⟩
                have HKC := hide hkc
                have hkl : kc.length = 12 := by rw [hkc]; exact keyC_len (by rw [HNXN.out]; omega)
                have hko : kc.toArray.all (·.oneCell') = true := by rw [hkc]; exact keyC_one nx
                have HKL := hide hkl
                have HKO := hide hko
                obtain ⟨W8, hW8⟩ : ∃ W8, w7.alloc (.cells kc.toArray 137) = W8 := ⟨_, rfl⟩
                have hset8 : (w7.alloc (.cells #[.int .i64 0, .int .i64 0, .int .i64 0, .int .i64 0, .int .i64 0, .int .i64 0, .int .i64 0, .int .i64 0, .int .i64 0, .int .i64 0, .int .i64 0, .int .i64 0] 137)).setRow w7.heap.size kc.toArray = W8 := by rw [← hW8]; exact World.setRow_alloc_new w7 _ _ _
                have HK8 : Hid (W8.heap[w7.heap.size]? = some (.cells kc.toArray 137 (0, 0))) := by rw [← hW8]; exact heap_alloc_last w7 _
                have HM8 : Hid (MoreSt N w.heap.size w n S1 S2 u8 W8) := by rw [← hW8]; exact (HM6.out.below hb7).below (bnew (Below.refl _ _) _)
                have HR8 : Hid (Row1 (Value.int .i64) W8 g 3 nx rest) := by rw [← hW8]; exact (HR6.out.below hb7).new _
                have HB8 : Hid (Below wr.heap.size wr W8) := by rw [← hW8]; exact (HB6.out.trans (hb7.mono HB6.out.size)).alloc (by have h9 := HB6.out.size; have h10 := hb7.size; omega) _
                have hlk := HM8.out.seen.look HNXN.out h12.2 HNI.out
                rw [← hkc] at hlk ⊢
                clear hkc hkl hko hW8 hb7
                by_cases hin : nx ∈ S1
                · have HF2 : Hid (foldC good (cA ++ (stepsUp s v ++ stepsJ s v (0 + 1))) = (S1, S2)) := by
                    show _ = _
                    rw [HF1.out]
                    unfold addC
                    rw [if_pos hin]
                  rw [decide_eq_true hin] at hlk
                  clear hin
                  go_wp2_with (first
                    | (refine wpList_store_row rfl 137 (.tmp 16) (.tmp 49) rfl w7.heap.size kc.toArray (by simp [Act.eval, Act.put]) (by simp [Act.eval, Act.put]) 137 #[.int .i64 0, .int .i64 0, .int .i64 0, .int .i64 0, .int .i64 0, .int .i64 0, .int .i64 0, .int .i64 0, .int .i64 0, .int .i64 0, .int .i64 0, .int .i64 0] (heap_alloc_last w7 _) (by rw [keySize, List.size_toArray, HKL.out]) (by show 12 = _; rw [List.size_toArray, HKL.out]) HKO.out ?_; rw [hset8])
                    | (refine wpList_load_row rfl 137 (.tmp 16) rfl w7.heap.size (by simp [Act.eval, Act.put]) 137 kc.toArray (0, 0) _ HK8.out Tryz.underlying137 rfl (by rw [keySize, List.size_toArray, HKL.out]) ?_))
                  go_roundg (2 - (0 + 1))
                  case rel => exact ⟨0 + 1, n, S1, S2, by omega, rfl, by go_num, by omega, hS2, HF2, HM8⟩
                  case measure => rw [HGM3.out]; omega
                · have HF2 : Hid (foldC good (cA ++ (stepsUp s v ++ stepsJ s v (0 + 1))) = (S1 ++ [nx], if good nx = true then S2 ++ [nx] else S2)) := by
                    show _ = _
                    rw [HF1.out]
                    unfold addC
                    rw [if_neg hin]
                  rw [decide_eq_false hin] at hlk
                  obtain ⟨W9, hup, hs9, hg9⟩ := HM8.out.seen.upd HNXN.out h12.2 HNI.out (by unfold maxLen; omega)
                  rw [← HKC.out] at hup
                  clear hin
                  go_wp2_with (first
                    | (refine wpList_store_row rfl 137 (.tmp 16) (.tmp 49) rfl w7.heap.size kc.toArray (by simp [Act.eval, Act.put]) (by simp [Act.eval, Act.put]) 137 #[.int .i64 0, .int .i64 0, .int .i64 0, .int .i64 0, .int .i64 0, .int .i64 0, .int .i64 0, .int .i64 0, .int .i64 0, .int .i64 0, .int .i64 0, .int .i64 0] (heap_alloc_last w7 _) (by rw [keySize, List.size_toArray, HKL.out]) (by show 12 = _; rw [List.size_toArray, HKL.out]) HKO.out ?_; rw [hset8])
                    | (refine wpList_load_row rfl 137 (.tmp 16) rfl w7.heap.size (by simp [Act.eval, Act.put]) 137 kc.toArray (0, 0) _ HK8.out Tryz.underlying137 rfl (by rw [keySize, List.size_toArray, HKL.out]) ?_))
                  have HM9 := hide (HM8.out.turn hg9 hs9)
                  have hgb : some g ≠ some w.heap.size := fun e => by injection e with e; omega
                  have HR9 : Hid (Row1 (Value.int .i64) W9 g 3 nx rest) := HR8.out.keep (hg9.block g HR8.out.lt hgb)
                  have HC9 := hide (H.out.below HM9.out.be)
                  have HBH : Hid (∀ u, Below W9.heap.size W9 u → Calls Tryz.prog 68 #[.pointer (some ⟨p, 0, none⟩), .slice (some ⟨g, 0, none⟩) N c2] u (BehPost N es d nx u)) := fun u hu => (HC9.out.below hu).behind (S := All) HNK.out.1 ((HR9.out.below hu).ints HNI.out trivial)
                  obtain ⟨bo, hbo⟩ : ∃ bo, bo = boundB (oweS es d nx) most := ⟨_, rfl⟩
                  have HBN : Hid (∀ (u : World) (g2 cap2 : Nat) (rest2 : List Value), Row1 (Value.int .i64) u g2 3 (movedL nx es d) rest2 → N ≤ cap2 → Calls Tryz.prog 65 #[.slice (some ⟨g2, 0, none⟩) N cap2, .int .i64 most] u (fun e w' => e = .returned (.int .i64 bo) ∧ u = w')) := fun u g2 cap2 rest2 h1 h2 => by
                    rw [hbo]
                    exact HC9.out.bound hmost HNK.out.1 h1 h2
                  have HGN : Hid (good nx = decide (m + 1 + bo ≤ limit)) := by rw [HGOOD.out, hbo]; rfl
                  have hbob : 0 ≤ bo ∧ bo ≤ 12000001000000 := by
                    have h1 := HC9.out.oweB HNK.out.1
                    have h2 := boundB_le (most := most) h1.1 hmost.1
                    rw [← hbo] at h2
                    omega
                  have y3 := HC9.out.box.cell 3
                  have y4 := HC9.out.box.cell 4
                  simp only [List.getElem?_cons_zero, List.getElem?_cons_succ] at y3 y4
                  have HBZ := hide (Below.refl W9.heap.size W9)
                  have hwr1 : IntKind.i64.wrap (m + 1) = m + 1 := i64_same (by omega)
                  have hwr2 : IntKind.i64.wrap (m + 1 + bo) = m + 1 + bo := i64_same (by omega)
                  clear hup hlk hg9 hs9 hbo hset8
                  go_region_held3 (fun w' => w'.cell? ⟨p, 3, none⟩ = some (.int .i64 most) ∧ w'.cell? ⟨p, 4, none⟩ = some (.int .i64 limit)) (first | with_reducible exact ⟨y3, y4⟩ | exact ⟨y3, y4⟩) (first
                    | (go_at_call 68; refine (HBH.out _ (by first | with_reducible exact HBZ.out | with_reducible exact HBZ.out.drew)).mono ?_; rintro e w10 ⟨g2, cap2, rest2, rfl, hcap2, hg2, hr2, h10⟩; have y3 := (h10.cell (World.block_lt_of_cell? _ _ y3)).trans y3; have y4 := (h10.cell (World.block_lt_of_cell? _ _ y4)).trans y4; have HBZ := hide (show Below W9.heap.size W9 w10 from below_then (by first | with_reducible exact HBZ.out | with_reducible exact HBZ.out.drew) h10); have HR2 := hide hr2; clear h10 hr2 hg2)
                    | (go_at_call 65; refine (HBN.out _ _ _ _ (by first | with_reducible exact HR2.out | with_reducible exact HR2.out.draw) hcap2).mono ?_; rintro e w11 ⟨rfl, rfl⟩))
                  all_goals
                    have HMz := hide (HM9.out.below HBZ.out)
                    have HRz := hide (HR9.out.below HBZ.out)
                    clear y3 y4
                    by_cases hgd : m + 1 + bo ≤ limit
                    · have HF3 : Hid (foldC good (cA ++ (stepsUp s v ++ stepsJ s v (0 + 1))) = (S1 ++ [nx], S2 ++ [nx])) := by
                        show _ = _
                        rw [HF2.out, HGN.out, decide_eq_true hgd, if_pos rfl]
                      have HS2L : Hid ((S2 ++ [nx]).length = S2.length + 1) := by show _ = _; simp
                      have hne9 : some g ≠ u8.ownBlock := fun e => by
                        have h5 := HM.out.out.block g e.symm
                        omega
                      have HFG : Hid (InF (fun k => k ≠ w.heap.size) u8 g) := ⟨by show g ≠ _; omega, hne9⟩
                      have hq9 : decide (m + 1 + bo ≤ limit) = true := decide_eq_true hgd
                      have hwz : w.heap.size + 1 ≤ w10.heap.size := by have h5 := SeenP.lt HMz.out.seen; omega
                      clear hne9
                      have HAD : Hid (∀ j2 u2, ([.slice (some ⟨g, 0, none⟩) N c2] : List Value)[j2]? = some u2 → (w10.alloc (.cells #[.slice (some ⟨g, 0, none⟩) N c2] 26)).cell? ((⟨w10.heap.size, 0, none⟩ : Addr).add j2) = some u2) := fun j2 u2 hj2 => by
                        match j2, hj2 with
                        | 0, hj2 =>
                          simp at hj2
                          subst hj2
                          rw [add_plain]
                          exact (Box.new w10 [.slice (some ⟨g, 0, none⟩) N c2] 26).cell 0
                        | j2 + 1, hj2 => simp at hj2
                      have HEL : Hid (slcR intR 1 (InF (fun k => k ≠ w.heap.size) u8) (w10.alloc (.cells #[.slice (some ⟨g, 0, none⟩) N c2] 26)) [.slice (some ⟨g, 0, none⟩) N c2] nx) := ⟨some ⟨g, 0, none⟩, c2, by rw [HNXN.out], by rw [HNXN.out]; exact hc2, by rw [HNXN.out]; omega, (HRz.out.new _).ints HNI.out HFG.out⟩
                      have HOZ := hide (HMz.out.below (bnew (Below.refl _ _) (.cells #[.slice (some ⟨g, 0, none⟩) N c2] 26))).out
                      go_wp2_with (at_builtin; go_loud (refine wpList_append_in rfl (.tmp 72) (.tmp 74) 103 rfl (w.heap.size + 1) 26 (.slice none 0 0) 1 24 Tryz.underlying103 scrInfo rfl (by decide) (slcR_ok intR_ok (by decide)) (fun k => k ≠ w.heap.size) u8 S2 (by simp [Act.eval, Act.put]) HOZ.out ⟨w10.heap.size, 0, none⟩ 1 [.slice (some ⟨g, 0, none⟩) N c2] nx (by simp [Act.eval, Act.put]) HAD.out HEL.out (by omega) (by unfold maxLen; omega) (by rw [alloc_size']; omega) ?_); intro v' w12 ho hb12 hg12 hown12; have HO12 := hide ho; have HG12 := hide hg12; have HB12 := hide hb12; clear ho hb12 hg12 hown12)
                      have HMe : Hid (MoreSt N w.heap.size w (n + 1) (S1 ++ [nx]) (S2 ++ [nx]) v' w12) := by
                        have hMa := HMz.out.below (bnew (Below.refl _ _) (.cells #[.slice (some ⟨g, 0, none⟩) N c2] 26))
                        refine ⟨SeenP.keep hMa.seen (HG12.out.block _ (SeenP.lt hMa.seen) (fun e => ?_)), HO12.out, hMa.be.trans (HB12.out.mono (by omega))⟩
                        have h5 := HM.out.out.block _ e.symm
                        omega
                      go_roundg (2 - (0 + 1))
                      case rel => exact ⟨0 + 1, n + 1, S1 ++ [nx], S2 ++ [nx], by omega, rfl, by go_num, by omega, by rw [HS2L.out]; omega, HF3, HMe⟩
                      case measure => rw [HGM3.out]; omega
                    · have HF3 : Hid (foldC good (cA ++ (stepsUp s v ++ stepsJ s v (0 + 1))) = (S1 ++ [nx], S2)) := by
                        show _ = _
                        rw [HF2.out, HGN.out, decide_eq_false hgd, if_neg (by simp)]
                      have hq9 : decide (m + 1 + bo ≤ limit) = false := decide_eq_false hgd
                      go_wp2_with fail
                      go_roundg (2 - (0 + 1))
                      case rel => exact ⟨0 + 1, n + 1, S1 ++ [nx], S2, by omega, rfl, by go_num, by omega, by omega, HF3, HMz⟩
                      case measure => rw [HGM3.out]; omega
            · by_cases hj1 : j = 1
              · subst hj1
                have hix := step_at1 wr
                rw [show ((1 : Nat) : Int) = 1 from rfl]
                have HST : Hid (stepsUp s v ++ stepsJ s v (1 + 1) = (stepsUp s v ++ stepsJ s v 1) ++ (stepsV s v (1)).toList) := by show _ = _; rw [stepsJ_2, List.append_assoc]
                by_cases hneg : x * (1) < 0
                · have HF2 : Hid (foldC good (cA ++ (stepsUp s v ++ stepsJ s v (1 + 1))) = (S1, S2)) := by
                    show _ = _
                    rw [foldC_none HST.out (stepsV_none (by rw [HGD.out]; exact hneg))]
                    exact HF.out
                  go_wp2_with fail
                  go_roundg (2 - (1 + 1))
                  case rel => exact ⟨1 + 1, n, S1, S2, by omega, rfl, by go_num, by omega, hS2, HF2, HM⟩
                  case measure => rw [HGM3.out]; omega
                · have HF1 : Hid (foldC good (cA ++ (stepsUp s v ++ stepsJ s v (1 + 1))) = addC good (S1, S2) (nudS s v (1))) := by
                    show _ = _
                    rw [foldC_some HST.out (stepsV_some (by rw [HGD.out]; exact hneg)), HF.out]
                  have hnk := nud_row HSK.out.1 HSK.out.2 HXG.out (k := 1) (by first | exact .inl rfl | exact .inr rfl)
                  obtain ⟨nx, hnx⟩ : ∃ nx, nx = nudS s v (1) := ⟨_, rfl⟩
                  rw [← hnx] at hnk HF1
                  have hnxN := hnk.1.1
                  have HNK := hide hnk
                  have HNI : Hid (∀ y ∈ nx, I64 y) := fun y hy => by have := HNK.out.1.2 y hy; unfold I64; omega
                  have HCL : Hid (Calls Tryz.prog 95 #[.slice (some ⟨bs, ofs, none⟩) N cs] wr fun e w' => ∃ g c2 rest, e = .returned (.slice (some ⟨g, 0, none⟩) N c2) ∧ Row1 (Value.int .i64) w' g 3 s rest ∧ N ≤ c2 ∧ wr.heap.size ≤ g ∧ Below wr.heap.size wr w') := by
                    have hcl := cloneSc_any s (some ⟨bs, ofs, none⟩) cs G wr (HSR.out.below intR_ok HM.out.be) (by rw [HSN.out]; exact hsc) (by rw [HSN.out]; omega)
                    rw [HSN.out] at hcl
                    refine hcl.mono ?_
                    rintro e w' ⟨vv, rfl, ho, hb⟩
                    obtain ⟨g, cap, rest, rfl, h1, h2, _, h4, _⟩ := ho.row (by intro e; have h9 := HSN.out; rw [e] at h9; simp at h9; omega)
                    rw [HSN.out] at h2 ⊢
                    exact ⟨g, cap, rest, rfl, h4, by omega, h1, hb⟩
                  have HNXN := hide hnxN
                  have hbw := SeenP.lt HM.out.seen
                  clear hnk hnx hnxN
                  go_wp2_with fail
                  refine HCL.out.mono ?_
                  rintro e w5 ⟨g, c2, rest, rfl, hr5, hc2, hg5, hb5⟩
                  have r0 := hr5.cell HXG.out
                  have rf := hr5.free v
                  have hg5l := hr5.lt
                  obtain ⟨W6, hW6⟩ : ∃ W6, w5.setCell ⟨g, v, none⟩ (.int .i64 (x + (1))) = W6 := ⟨_, rfl⟩
                  have hR6 : Row1 (Value.int .i64) W6 g 3 nx rest := by
                    rw [← hW6, HNK.out.2]
                    exact hr5.put (i := v) (by rw [HSN.out]; exact hlv) (x + (1))
                  have hb6 : Below wr.heap.size wr W6 := by rw [← hW6]; exact hb5.setCell hg5 _
                  have HM6 := hide (HM.out.below hb6)
                  have HKE : Hid (Calls Tryz.prog 96 #[.slice (some ⟨g, 0, none⟩) N c2] W6 fun e w' => e = .returned (.agg (keyC nx).toArray) ∧ Below W6.heap.size W6 w') := by
                    have h9 := keyed_any nx (some ⟨g, 0, none⟩) c2 All W6 (hR6.ints HNI.out trivial) (by rw [HNXN.out]; exact hc2) (by rw [HNXN.out]; exact h12)
                    rw [HNXN.out] at h9
                    exact h9
                  have HR6 := hide hR6
                  have HB6 := hide hb6
                  clear hr5 hb5 hR6 hb6
                  go_wp2_with fail
                  refine HKE.out.mono ?_
                  rintro e w7 ⟨rfl, hb7⟩
                  clear hW6 r0 rf
                  obtain ⟨kc, hkc⟩ : ∃ kc, kc = keyC nx := ⟨_, rfl⟩
                  have HKC := hide hkc
                  have hkl : kc.length = 12 := by rw [hkc]; exact keyC_len (by rw [HNXN.out]; omega)
                  have hko : kc.toArray.all (·.oneCell') = true := by rw [hkc]; exact keyC_one nx
                  have HKL := hide hkl
                  have HKO := hide hko
                  obtain ⟨W8, hW8⟩ : ∃ W8, w7.alloc (.cells kc.toArray 137) = W8 := ⟨_, rfl⟩
                  have hset8 : (w7.alloc (.cells #[.int .i64 0, .int .i64 0, .int .i64 0, .int .i64 0, .int .i64 0, .int .i64 0, .int .i64 0, .int .i64 0, .int .i64 0, .int .i64 0, .int .i64 0, .int .i64 0] 137)).setRow w7.heap.size kc.toArray = W8 := by rw [← hW8]; exact World.setRow_alloc_new w7 _ _ _
                  have HK8 : Hid (W8.heap[w7.heap.size]? = some (.cells kc.toArray 137 (0, 0))) := by rw [← hW8]; exact heap_alloc_last w7 _
                  have HM8 : Hid (MoreSt N w.heap.size w n S1 S2 u8 W8) := by rw [← hW8]; exact (HM6.out.below hb7).below (bnew (Below.refl _ _) _)
                  have HR8 : Hid (Row1 (Value.int .i64) W8 g 3 nx rest) := by rw [← hW8]; exact (HR6.out.below hb7).new _
                  have HB8 : Hid (Below wr.heap.size wr W8) := by rw [← hW8]; exact (HB6.out.trans (hb7.mono HB6.out.size)).alloc (by have h9 := HB6.out.size; have h10 := hb7.size; omega) _
                  have hlk := HM8.out.seen.look HNXN.out h12.2 HNI.out
                  rw [← hkc] at hlk ⊢
                  clear hkc hkl hko hW8 hb7
                  by_cases hin : nx ∈ S1
                  · have HF2 : Hid (foldC good (cA ++ (stepsUp s v ++ stepsJ s v (1 + 1))) = (S1, S2)) := by
                      show _ = _
                      rw [HF1.out]
                      unfold addC
                      rw [if_pos hin]
                    rw [decide_eq_true hin] at hlk
                    clear hin
                    go_wp2_with (first
                      | (refine wpList_store_row rfl 137 (.tmp 16) (.tmp 49) rfl w7.heap.size kc.toArray (by simp [Act.eval, Act.put]) (by simp [Act.eval, Act.put]) 137 #[.int .i64 0, .int .i64 0, .int .i64 0, .int .i64 0, .int .i64 0, .int .i64 0, .int .i64 0, .int .i64 0, .int .i64 0, .int .i64 0, .int .i64 0, .int .i64 0] (heap_alloc_last w7 _) (by rw [keySize, List.size_toArray, HKL.out]) (by show 12 = _; rw [List.size_toArray, HKL.out]) HKO.out ?_; rw [hset8])
                      | (refine wpList_load_row rfl 137 (.tmp 16) rfl w7.heap.size (by simp [Act.eval, Act.put]) 137 kc.toArray (0, 0) _ HK8.out Tryz.underlying137 rfl (by rw [keySize, List.size_toArray, HKL.out]) ?_))
                    go_roundg (2 - (1 + 1))
                    case rel => exact ⟨1 + 1, n, S1, S2, by omega, rfl, by go_num, by omega, hS2, HF2, HM8⟩
                    case measure => rw [HGM3.out]; omega
                  · have HF2 : Hid (foldC good (cA ++ (stepsUp s v ++ stepsJ s v (1 + 1))) = (S1 ++ [nx], if good nx = true then S2 ++ [nx] else S2)) := by
                      show _ = _
                      rw [HF1.out]
                      unfold addC
                      rw [if_neg hin]
                    rw [decide_eq_false hin] at hlk
                    obtain ⟨W9, hup, hs9, hg9⟩ := HM8.out.seen.upd HNXN.out h12.2 HNI.out (by unfold maxLen; omega)
                    rw [← HKC.out] at hup
                    clear hin
                    go_wp2_with (first
                      | (refine wpList_store_row rfl 137 (.tmp 16) (.tmp 49) rfl w7.heap.size kc.toArray (by simp [Act.eval, Act.put]) (by simp [Act.eval, Act.put]) 137 #[.int .i64 0, .int .i64 0, .int .i64 0, .int .i64 0, .int .i64 0, .int .i64 0, .int .i64 0, .int .i64 0, .int .i64 0, .int .i64 0, .int .i64 0, .int .i64 0] (heap_alloc_last w7 _) (by rw [keySize, List.size_toArray, HKL.out]) (by show 12 = _; rw [List.size_toArray, HKL.out]) HKO.out ?_; rw [hset8])
                      | (refine wpList_load_row rfl 137 (.tmp 16) rfl w7.heap.size (by simp [Act.eval, Act.put]) 137 kc.toArray (0, 0) _ HK8.out Tryz.underlying137 rfl (by rw [keySize, List.size_toArray, HKL.out]) ?_))
                    have HM9 := hide (HM8.out.turn hg9 hs9)
                    have hgb : some g ≠ some w.heap.size := fun e => by injection e with e; omega
                    have HR9 : Hid (Row1 (Value.int .i64) W9 g 3 nx rest) := HR8.out.keep (hg9.block g HR8.out.lt hgb)
                    have HC9 := hide (H.out.below HM9.out.be)
                    have HBH : Hid (∀ u, Below W9.heap.size W9 u → Calls Tryz.prog 68 #[.pointer (some ⟨p, 0, none⟩), .slice (some ⟨g, 0, none⟩) N c2] u (BehPost N es d nx u)) := fun u hu => (HC9.out.below hu).behind (S := All) HNK.out.1 ((HR9.out.below hu).ints HNI.out trivial)
                    obtain ⟨bo, hbo⟩ : ∃ bo, bo = boundB (oweS es d nx) most := ⟨_, rfl⟩
                    have HBN : Hid (∀ (u : World) (g2 cap2 : Nat) (rest2 : List Value), Row1 (Value.int .i64) u g2 3 (movedL nx es d) rest2 → N ≤ cap2 → Calls Tryz.prog 65 #[.slice (some ⟨g2, 0, none⟩) N cap2, .int .i64 most] u (fun e w' => e = .returned (.int .i64 bo) ∧ u = w')) := fun u g2 cap2 rest2 h1 h2 => by
                      rw [hbo]
                      exact HC9.out.bound hmost HNK.out.1 h1 h2
                    have HGN : Hid (good nx = decide (m + 1 + bo ≤ limit)) := by rw [HGOOD.out, hbo]; rfl
                    have hbob : 0 ≤ bo ∧ bo ≤ 12000001000000 := by
                      have h1 := HC9.out.oweB HNK.out.1
                      have h2 := boundB_le (most := most) h1.1 hmost.1
                      rw [← hbo] at h2
                      omega
                    have y3 := HC9.out.box.cell 3
                    have y4 := HC9.out.box.cell 4
                    simp only [List.getElem?_cons_zero, List.getElem?_cons_succ] at y3 y4
                    have HBZ := hide (Below.refl W9.heap.size W9)
                    have hwr1 : IntKind.i64.wrap (m + 1) = m + 1 := i64_same (by omega)
                    have hwr2 : IntKind.i64.wrap (m + 1 + bo) = m + 1 + bo := i64_same (by omega)
                    clear hup hlk hg9 hs9 hbo hset8
                    go_region_held3 (fun w' => w'.cell? ⟨p, 3, none⟩ = some (.int .i64 most) ∧ w'.cell? ⟨p, 4, none⟩ = some (.int .i64 limit)) (first | with_reducible exact ⟨y3, y4⟩ | exact ⟨y3, y4⟩) (first
                      | (go_at_call 68; refine (HBH.out _ (by first | with_reducible exact HBZ.out | with_reducible exact HBZ.out.drew)).mono ?_; rintro e w10 ⟨g2, cap2, rest2, rfl, hcap2, hg2, hr2, h10⟩; have y3 := (h10.cell (World.block_lt_of_cell? _ _ y3)).trans y3; have y4 := (h10.cell (World.block_lt_of_cell? _ _ y4)).trans y4; have HBZ := hide (show Below W9.heap.size W9 w10 from below_then (by first | with_reducible exact HBZ.out | with_reducible exact HBZ.out.drew) h10); have HR2 := hide hr2; clear h10 hr2 hg2)
                      | (go_at_call 65; refine (HBN.out _ _ _ _ (by first | with_reducible exact HR2.out | with_reducible exact HR2.out.draw) hcap2).mono ?_; rintro e w11 ⟨rfl, rfl⟩))
                    all_goals
                      have HMz := hide (HM9.out.below HBZ.out)
                      have HRz := hide (HR9.out.below HBZ.out)
                      clear y3 y4
                      by_cases hgd : m + 1 + bo ≤ limit
                      · have HF3 : Hid (foldC good (cA ++ (stepsUp s v ++ stepsJ s v (1 + 1))) = (S1 ++ [nx], S2 ++ [nx])) := by
                          show _ = _
                          rw [HF2.out, HGN.out, decide_eq_true hgd, if_pos rfl]
                        have HS2L : Hid ((S2 ++ [nx]).length = S2.length + 1) := by show _ = _; simp
                        have hne9 : some g ≠ u8.ownBlock := fun e => by
                          have h5 := HM.out.out.block g e.symm
                          omega
                        have HFG : Hid (InF (fun k => k ≠ w.heap.size) u8 g) := ⟨by show g ≠ _; omega, hne9⟩
                        have hq9 : decide (m + 1 + bo ≤ limit) = true := decide_eq_true hgd
                        have hwz : w.heap.size + 1 ≤ w10.heap.size := by have h5 := SeenP.lt HMz.out.seen; omega
                        clear hne9
                        have HAD : Hid (∀ j2 u2, ([.slice (some ⟨g, 0, none⟩) N c2] : List Value)[j2]? = some u2 → (w10.alloc (.cells #[.slice (some ⟨g, 0, none⟩) N c2] 26)).cell? ((⟨w10.heap.size, 0, none⟩ : Addr).add j2) = some u2) := fun j2 u2 hj2 => by
                          match j2, hj2 with
                          | 0, hj2 =>
                            simp at hj2
                            subst hj2
                            rw [add_plain]
                            exact (Box.new w10 [.slice (some ⟨g, 0, none⟩) N c2] 26).cell 0
                          | j2 + 1, hj2 => simp at hj2
                        have HEL : Hid (slcR intR 1 (InF (fun k => k ≠ w.heap.size) u8) (w10.alloc (.cells #[.slice (some ⟨g, 0, none⟩) N c2] 26)) [.slice (some ⟨g, 0, none⟩) N c2] nx) := ⟨some ⟨g, 0, none⟩, c2, by rw [HNXN.out], by rw [HNXN.out]; exact hc2, by rw [HNXN.out]; omega, (HRz.out.new _).ints HNI.out HFG.out⟩
                        have HOZ := hide (HMz.out.below (bnew (Below.refl _ _) (.cells #[.slice (some ⟨g, 0, none⟩) N c2] 26))).out
                        go_wp2_with (at_builtin; go_loud (refine wpList_append_in rfl (.tmp 72) (.tmp 74) 103 rfl (w.heap.size + 1) 26 (.slice none 0 0) 1 24 Tryz.underlying103 scrInfo rfl (by decide) (slcR_ok intR_ok (by decide)) (fun k => k ≠ w.heap.size) u8 S2 (by simp [Act.eval, Act.put]) HOZ.out ⟨w10.heap.size, 0, none⟩ 1 [.slice (some ⟨g, 0, none⟩) N c2] nx (by simp [Act.eval, Act.put]) HAD.out HEL.out (by omega) (by unfold maxLen; omega) (by rw [alloc_size']; omega) ?_); intro v' w12 ho hb12 hg12 hown12; have HO12 := hide ho; have HG12 := hide hg12; have HB12 := hide hb12; clear ho hb12 hg12 hown12)
                        have HMe : Hid (MoreSt N w.heap.size w (n + 1) (S1 ++ [nx]) (S2 ++ [nx]) v' w12) := by
                          have hMa := HMz.out.below (bnew (Below.refl _ _) (.cells #[.slice (some ⟨g, 0, none⟩) N c2] 26))
                          refine ⟨SeenP.keep hMa.seen (HG12.out.block _ (SeenP.lt hMa.seen) (fun e => ?_)), HO12.out, hMa.be.trans (HB12.out.mono (by omega))⟩
                          have h5 := HM.out.out.block _ e.symm
                          omega
                        go_roundg (2 - (1 + 1))
                        case rel => exact ⟨1 + 1, n + 1, S1 ++ [nx], S2 ++ [nx], by omega, rfl, by go_num, by omega, by rw [HS2L.out]; omega, HF3, HMe⟩
                        case measure => rw [HGM3.out]; omega
                      · have HF3 : Hid (foldC good (cA ++ (stepsUp s v ++ stepsJ s v (1 + 1))) = (S1 ++ [nx], S2)) := by
                          show _ = _
                          rw [HF2.out, HGN.out, decide_eq_false hgd, if_neg (by simp)]
                        have hq9 : decide (m + 1 + bo ≤ limit) = false := decide_eq_false hgd
                        go_wp2_with fail
                        go_roundg (2 - (1 + 1))
                        case rel => exact ⟨1 + 1, n + 1, S1 ++ [nx], S2, by omega, rfl, by go_num, by omega, by omega, HF3, HMz⟩
                        case measure => rw [HGM3.out]; omega
              · have hj2 : j = 2 := by omega
                subst hj2
                go_wp2_with fail
                go_roundg (N - (v + 1))
                case rel => exact ⟨v + 1, n, S1, S2, by omega, rfl, by go_num, by omega, hS2, by rw [stepsUp_succ]; exact HF, HM⟩
                case measure => rw [HGM2.out]; omega
        · have hve : v = N := by omega
          have HF2 : Hid (foldC good (candL (l.take (i + 1))) = (S1, S2)) := by show _ = _; rw [HCS.out, HSN.out, ← hve]; exact HF.out
          clear hve
          go_wp2_with fail
          go_roundg (l.length - (i + 1))
          case rel => exact ⟨i + 1, n, S1, S2, by omega, rfl, by go_num, by omega, hS2, HF2, HM⟩
          case measure => rw [HGM.out]; omega
    · have hie : l.take i = l := List.take_of_length_le (by omega)
      have HF2 : Hid ((moreS good l).2 = S2) := by
        have h5 := HF.out
        rw [hie] at h5
        show _ = _
        unfold moreS
        unfold foldC at h5
        rw [h5]
      obtain ⟨oa, ca, hpv, hca, hsl⟩ := HM.out.out.slice (slcR_ok intR_ok (by decide))
      have HSL := hide (hsl.all (slcR_ok intR_ok (by decide)) (by decide))
      have hca2 := hca
      subst hpv
      clear hie hsl hca
      go_wp2_with fail
      go_ret
      rw [HF2.out]
      exact ⟨oa, ca, rfl, hca2, HSL.out, HM.out.be⟩
end Go.Proofs.YtpgopmmobbemcaaGreat

set_option linter.unusedVariables false
set_option linter.unusedSimpArgs false
namespace Go.Proofs.YtpgopmmobbemcaaGreat
open Go.RowKit

section
variable {n q : Nat} {es : List Edg} {out : Nat → Int} {t : Nat} {work : List Nat} {pre : List (Int × Int)}
/-- Within a round: of the links of t some have come. -/
structure DMid (n q : Nat) (es : List Edg) (out : Nat → Int) (t : Nat) (pre : List (Int × Int)) (work : List Nat) : Prop where
  q0 : out q = 0
  lo : ∀ v, v < n → -1 ≤ out v
  back : ∀ v, v < n → v ≠ q → 0 ≤ out v → (∃ u, u < n ∧ 0 ≤ out u ∧ out u + 1 = out v ∧ ∃ x ∈ es, Jn x v u) ∨ (out v = out t + 1 ∧ ∃ p ∈ pre, p.1 = (v : Int))
  wk : ∀ u ∈ work, u < n ∧ 0 ≤ out u ∧ out t ≤ out u
  srt : work.Pairwise fun a b => out a ≤ out b
  top : ∀ v, v < n → out v ≤ out t + 1
  ht : t < n ∧ 0 ≤ out t
  done : ∀ p ∈ pre, ∀ u : Nat, p.1 = (u : Int) → 0 ≤ out u ∧ out u ≤ out t + 1
  closed : ∀ u, u < n → 0 ≤ out u → u ∉ work → u ≠ t → ∀ x ∈ es, ∀ w, Jn x u w → 0 ≤ out w ∧ out w ≤ out u + 1
theorem DBfs.pop {r : List Nat} (h : DBfs n q es out (t :: r)) : DMid n q es out t [] r where
  q0 := h.q0
  lo := h.lo
  back := fun v hv hne h0 => .inl (h.back v hv hne h0)
  wk := fun u hu => ⟨(h.wk u (by simp [hu])).1, (h.wk u (by simp [hu])).2, (List.pairwise_cons.1 h.srt).1 u hu⟩
  srt := (List.pairwise_cons.1 h.srt).2
  top := h.top t (by simp)
  ht := h.wk t (by simp)
  done := fun x hx => by simp at hx
  closed := fun u hu h0 hn hne => h.closed u hu h0 (by simp [hn, hne])
theorem DMid.skip (h : DMid n q es out t pre work) {p : Int × Int} {u : Nat} (hp : p.1 = (u : Int)) (hu : u < n) (h0 : 0 ≤ out u) : DMid n q es out t (pre ++ [p]) work := by
  refine { h with back := fun v hv hne hh => ?_, done := fun y hy w hyw => ?_ }
  · rcases h.back v hv hne hh with h1 | ⟨h1, y, hy, h2⟩
    · exact .inl h1
    · exact .inr ⟨h1, y, by simp [hy], h2⟩
  · rcases List.mem_append.1 hy with hy | hy
    · exact h.done y hy w hyw
    · simp at hy
      subst hy
      have : u = w := by omega
      subst this
      exact ⟨h0, h.top u hu⟩
theorem DMid.more (h : DMid n q es out t pre work) {p : Int × Int} {u : Nat} (hp : p.1 = (u : Int)) (hu : u < n) (hn : out u < 0) :
    DMid n q es (putF out u (out t + 1)) t (pre ++ [p]) (work ++ [u]) := by
  have ht := h.ht
  have hut : u ≠ t := fun e => by rw [e] at hn; omega
  have huq : u ≠ q := fun e => by rw [e, h.q0] at hn; omega
  have keep : ∀ v, 0 ≤ out v → putF out u (out t + 1) v = out v := fun v hv => putF_ne _ _ fun e => by rw [e] at hv; omega
  have hup : ∀ v, 0 ≤ out v → 0 ≤ putF out u (out t + 1) v := fun v hv => by rw [keep v hv]; exact hv
  have et := keep t ht.2
  refine ⟨?_, fun v hv => ?_, fun v hv hne h0 => ?_, fun v hv => ?_, ?_, fun v hv => ?_, ⟨ht.1, by rw [et]; exact ht.2⟩, fun y hy w hyw => ?_, fun v hv h0 hnw hne y hy w hyw => ?_⟩
  · rw [putF_ne _ _ huq.symm]; exact h.q0
  · by_cases e : v = u
    · rw [e, putF_at]; omega
    · rw [putF_ne _ _ e]; exact h.lo v hv
  · by_cases e : v = u
    · subst e
      exact .inr ⟨by rw [et, putF_at], p, by simp, hp⟩
    · rw [putF_ne _ _ e] at h0
      rcases h.back v hv hne h0 with ⟨w, h1, h2, h3, h4⟩ | ⟨h1, y, hy, h2⟩
      · exact .inl ⟨w, h1, hup w h2, by rw [keep w h2, putF_ne _ _ e]; exact h3, h4⟩
      · exact .inr ⟨by rw [et, putF_ne _ _ e]; exact h1, y, by simp [hy], h2⟩
  · rw [et]
    rcases List.mem_append.1 hv with hv | hv
    · obtain ⟨a, b, c⟩ := h.wk v hv
      rw [keep v b]
      exact ⟨a, b, c⟩
    · simp at hv
      subst hv
      rw [putF_at]
      exact ⟨hu, by omega, by omega⟩
  · rw [List.pairwise_append]
    refine ⟨h.srt.imp_of_mem fun {a b} ha hb hab => ?_, by simp, fun a ha b hb => ?_⟩
    · rw [keep a (h.wk a ha).2.1, keep b (h.wk b hb).2.1]
      exact hab
    · simp at hb
      subst hb
      rw [keep a (h.wk a ha).2.1, putF_at]
      exact h.top a (h.wk a ha).1
  · rw [et]
    by_cases e : v = u
    · rw [e, putF_at]; omega
    · rw [putF_ne _ _ e]; exact h.top v hv
  · rw [et]
    rcases List.mem_append.1 hy with hy | hy
    · obtain ⟨a, b⟩ := h.done y hy w hyw
      rw [keep w a]
      exact ⟨a, b⟩
    · simp at hy
      subst hy
      have : u = w := by omega
      subst this
      rw [putF_at]
      omega
  · have hvu : v ≠ u := fun e => hnw (by simp [e])
    rw [putF_ne _ _ hvu] at h0 ⊢
    obtain ⟨a, b⟩ := h.closed v hv h0 (fun e => hnw (by simp [e])) hne y hy w hyw
    rw [keep w a]
    exact ⟨a, b⟩
theorem lnk_jn {N : Nat} {t u : Nat} {m : Int} (h : ((u : Int), m) ∈ lnkL es t) : ∃ x ∈ es, Jn x u t := by
  obtain ⟨x, hx, e⟩ := List.mem_filterMap.1 h
  unfold lnkX at e
  split at e
  · rename_i hc
    injection e with e
    injection e with e1 e2
    exact ⟨x, hx, hc.1, by omega⟩
  · cases e
theorem jn_lnk {t w : Nat} {x : Edg} (hx : x ∈ es) (h : Jn x t w) : ((w : Int), x.m) ∈ lnkL es t := by
  refine List.mem_filterMap.2 ⟨x, hx, ?_⟩
  obtain ⟨h0, h1⟩ := h
  unfold lnkX
  rw [if_pos ⟨h0, by omega⟩]
  congr 2
  omega
theorem DMid.finish (h : DMid n q es out t (lnkL es t) work) : DBfs n q es out work where
  q0 := h.q0
  lo := h.lo
  back := fun v hv hne h0 => by
    rcases h.back v hv hne h0 with h1 | ⟨h1, ⟨p1, p2⟩, hp, h2⟩
    · exact h1
    · have h2 : p1 = (v : Int) := h2
      subst h2
      obtain ⟨x, hx, hj⟩ := lnk_jn (N := n) hp
      exact ⟨t, h.ht.1, h.ht.2, h1.symm, x, hx, hj⟩
  wk := fun u hu => ⟨(h.wk u hu).1, (h.wk u hu).2.1⟩
  srt := h.srt
  top := fun a ha v hv => by
    have := (h.wk a ha).2.2
    have := h.top v hv
    omega
  closed := fun u hu h0 hn x hx w hj => by
    by_cases e : u = t
    · subst e
      exact h.done _ (jn_lnk hx hj) w rfl
    · exact h.closed u hu h0 hn e x hx w hj
def RngF (n : Nat) (out : Nat → Int) : Prop := ∀ v, v < n → out v + unkN n out ≤ n
theorem unk_beg (hq : q < n) : unkN n (begF q) + 1 = n := by
  have h6 := sumN_one (f := fun v => if begF q v < 0 then 1 else 0) (g := fun _ => 1) hq (fun p hp hne => by simp [begF, hne])
  have h7 : ∀ n, sumN (fun _ => 1) n = n := fun n => by
    induction n with
    | zero => rfl
    | succ n ih => simp only [sumN, ih]
  have e : (if begF q q < 0 then 1 else 0) = 0 := by simp [begF]
  simp only [e, h7] at h6
  unfold unkN
  omega
theorem rng_beg (hq : q < n) : RngF n (begF q) := fun v hv => by
  have h5 := unk_beg hq
  have : begF q v ≤ 0 := by unfold begF; split <;> omega
  omega
theorem RngF.more (h : RngF n out) {u t : Nat} (hu : u < n) (ht : t < n) (hn : out u < 0) (h0 : 0 ≤ out t) : RngF n (putF out u (out t + 1)) := fun v hv => by
  have h1 := unk_more (n := n) hu hn (x := out t + 1) (by omega)
  by_cases e : v = u
  · subst e
    rw [putF_at]
    have := h t ht
    omega
  · rw [putF_ne _ _ e]
    have := h v hv
    omega
end
end Go.Proofs.YtpgopmmobbemcaaGreat

set_option linter.unusedVariables false
set_option linter.unusedSimpArgs false
set_option linter.unnecessarySimpa false
namespace Go.Proofs.YtpgopmmobbemcaaGreat
open Go.RowKit Go.Shelf

attribute [local go_sem] Oper.semAt_some

/-- The distances and the queue in memory. -/
structure DisM (base N bo go bq co : Nat) (rest : List Value) (out : Nat → Int) (vq : Value) (work : List Nat) (W : World) : Prop where
  bO : Boxed W bo 25 (.slice (some ⟨go, 0, none⟩) N co)
  rO : Row1 (Value.int .i64) W go 3 (lst N out) rest
  bQ : Boxed W bq 25 vq
  qQ : OwnQ base 3 W vq (castL work)
  ne : ∀ g, vq.ownBlock = some g → g ≠ go
  low : base ≤ bo ∧ base ≤ go ∧ base ≤ bq ∧ bo ≠ bq ∧ N ≤ co
section
variable {base N bo go bq co : Nat} {rest : List Value} {out : Nat → Int} {vq : Value} {work : List Nat} {W W' : World}
theorem DisM.below (h : DisM base N bo go bq co rest out vq work W) (hb : Below W.heap.size W W') : DisM base N bo go bq co rest out vq work W' :=
  ⟨(hb.block _ h.bO.lt).trans h.bO, h.rO.below hb, (hb.block _ h.bQ.lt).trans h.bQ, h.qQ.below hb, h.ne, h.low⟩
theorem DisM.turn {row : Option Nat} (h : DisM base N bo go bq co rest out vq work W) (hg : W.grownBy W' row) (hr : ∀ r, row = some r → ∃ o : Obj, W.heap[r]? = some o ∧ o.isCells = false) : DisM base N bo go bq co rest out vq work W' := by
  have key : ∀ (g : Nat) (o : Obj), W.heap[g]? = some o → o.isCells = true → W'.heap[g]? = some o := fun g o h1 h2 => (hg.block g (Array.getElem?_eq_some_iff.1 h1).1 fun e => by
    obtain ⟨o', h3, h4⟩ := hr g e.symm
    rw [h1] at h3
    injection h3 with h3
    subst h3
    rw [h2] at h4
    cases h4).trans h1
  refine ⟨key _ _ h.bO rfl, key _ _ h.rO rfl, key _ _ h.bQ rfl, h.qQ.keep fun g hg' => ?_, h.ne, h.low⟩
  obtain ⟨g', o, cap, cur, rfl, h1, h2, h3⟩ := h.qQ
  simp [Value.ownBlock] at hg'
  subst hg'
  rw [key _ _ h2 rfl, h2]
theorem DisM.bne (h : DisM base N bo go bq co rest out vq work W) : bo ≠ go ∧ bq ≠ go ∧ (∀ g, vq.ownBlock = some g → g ≠ bo ∧ g ≠ bq) := by
  refine ⟨ne_type (show W.heap[bo]? = some (.cells _ 25 (0, 0)) from h.bO) (show W.heap[go]? = some (.cells _ 3 (0, 0)) from h.rO) (by decide), ne_type (show W.heap[bq]? = some (.cells _ 25 (0, 0)) from h.bQ) (show W.heap[go]? = some (.cells _ 3 (0, 0)) from h.rO) (by decide), fun g hg => ?_⟩
  obtain ⟨g', o, cap, cur, rfl, h1, h2, h3⟩ := h.qQ
  simp [Value.ownBlock] at hg
  subst hg
  exact ⟨ne_type h2 (show W.heap[bo]? = some (.cells _ 25 (0, 0)) from h.bO) (by decide), ne_type h2 (show W.heap[bq]? = some (.cells _ 25 (0, 0)) from h.bQ) (by decide)⟩
end
/-- What was no row lies as it lay. -/
def KeepD (A W : World) : Prop := ∀ (k : Nat) (o : Obj), A.heap[k]? = some o → o.isCells = false → W.heap[k]? = some o
theorem KeepD.refl (A : World) : KeepD A A := fun _ _ h _ => h
theorem KeepD.trans {A B C : World} (h : KeepD A B) (k : KeepD B C) : KeepD A C := fun j o h1 h2 => k j o (h j o h1 h2) h2
theorem Marks.consD {B D : Nat} {ds : List Deferred} {w w' : World} (h : Marks B ds w) (hb : KeepD w w') (hD : w.heap.size ≤ D) (hB : B ≤ w.heap.size) (hk : w'.heap[D]? = some (.deferred (some []))) : Marks B ({ target := .collected D, args := #[] } :: ds) w' := by
  obtain ⟨Ds, rfl, h1, h2⟩ := h
  refine ⟨D :: Ds, rfl, List.nodup_cons.2 ⟨fun hm => ?_, h1⟩, fun D' hD' => ?_⟩
  · have := (Array.getElem?_eq_some_iff.1 (h2 D hm).2).1
    omega
  · rcases List.mem_cons.1 hD' with rfl | hm
    · exact ⟨by omega, hk⟩
    · exact ⟨(h2 D' hm).1, hb D' _ (h2 D' hm).2 rfl⟩
/-- Within the links of t. -/
def FarJ (base N q : Nat) (es : List Edg) (bo go bq co : Nat) (rest : List Value) (t bv Bv m0 : Nat) (A : World) (pre : List (Int × Int)) (W : World) : Prop :=
  ∃ (out : Nat → Int) (vq : Value) (work : List Nat), (DMid N q es out t pre work ∧ RngF N out ∧ unkN N out + work.length ≤ m0 ∧ work.length ≤ 1000 ∧ (∀ g, vq.ownBlock = some g → g ≠ bv ∧ g ≠ Bv)) ∧
    DisM base N bo go bq co rest out vq work W ∧ Boxed W bv 3 (.int .i64 t) ∧ Below base A W ∧ KeepD A W
theorem FarJ.own {base N q : Nat} {es : List Edg} {bo go bq co : Nat} {rest : List Value} {t bv Bv m0 : Nat} {A : World} {C : Nat} {ι : Type} (pr : ι → List (Int × Int)) (hb : base ≤ A.heap.size) (hC : A.heap.size ≤ C) : OwnFrom C (fun (s : ι) W => FarJ base N q es bo go bq co rest t bv Bv m0 A (pr s) W) := by
  rintro s X Y row ⟨out, vq, work, hp, hD, hV, hB, hK⟩ hg hr
  refine ⟨out, vq, work, hp, hD.turn hg (fun r e => (hr r e).2), boxed_own (β := Unit) bv 3 (fun _ => .int .i64 t) () X Y row hV hg (fun r e => (hr r e).2), ownFrom_below (β := Unit) hb (Nat.le_trans hb hC) () X Y row hB hg hr, fun k o h1 h2 => ?_⟩
  have h3 := hK k o h1 h2
  have hlt : k < A.heap.size := (Array.getElem?_eq_some_iff.1 h1).1
  exact (hg.block k (Array.getElem?_eq_some_iff.1 h3).1 fun e => by have := (hr k e.symm).1; omega).trans h3
/-- Between two rounds of the queue. -/
def FarI (B N q : Nat) (es : List Edg) (L : RLay) (w : World) (bo go bq co : Nat) (rest : List Value) (gm : Nat) (a' : Act) (w' : World) : Prop :=
  ∃ (out : Nat → Int) (work : List Nat) (vq : Value) (ds : List Deferred), ((DBfs N q es out work ∧ RngF N out ∧ unkN N out + work.length ≤ gm ∧ gm ≤ 12) ∧ DisM w.heap.size N bo go bq co rest out vq work w' ∧ Marks w.heap.size ds w' ∧ Below w.heap.size w w') ∧
    ∃ u : Nat → Value, True ∧ a' = { tmps := #[.pointer (some ⟨L.p, 0, none⟩), undef, .slice none 0 0, .pointer (some ⟨bo, 0, none⟩), .pointer (some ⟨bq, 0, none⟩), (u 5), (u 6), (u 7), (u 8), (u 9), (u 10), (u 11), (u 12), (u 13), (u 14), (u 15), (u 16), (u 17), (u 18), (u 19), (u 20), (u 21), (u 22), (u 23), (u 24), (u 25), (u 26), (u 27), (u 28), (u 29), (u 30), (u 31), (u 32), (u 33), (u 34), (u 35), (u 36), (u 37), (u 38), (u 39), (u 40), (u 41), (u 42), (u 43), (u 44), (u 45), (u 46), (u 47), (u 48), (u 49), (u 50), (u 51), (u 52), (u 53), (u 54), (u 55)], defers := ds }
def DistPost (w : World) (N q : Nat) (es : List Edg) (e : Ending) (w' : World) : Prop :=
  ∃ go co rest out, e = .returned (.slice (some ⟨go, 0, none⟩) N co) ∧ DBfs N q es out [] ∧ RngF N out ∧ Row1 (Value.int .i64) w' go 3 (lst N out) rest ∧ N ≤ co ∧ w.heap.size ≤ go ∧ Below w.heap.size w w'

set_option maxRecDepth 100000 in
set_option maxHeartbeats 8000000 in
theorem dist_any {B N q : Nat} {es : List Edg} {L : RLay} {x : RSt} {w : World} (hM : RMem B N q es L x w) :
    Calls Tryz.prog 125 #[.pointer (some ⟨L.p, 0, none⟩)] w (DistPost w N q es) := by
  refine (callsIn_wide (n := 6)).1 ?_
  have h1 : 1 ≤ 6 := by omega
  have hsz := hM.size
  have hok := hide hM.ok
  have h12 := hM.num.1
  have hqN := hM.num.2.1
  have HM := hide hM
  have hb1 := bnew (Below.refl w.heap.size w) (.cells #[.int .i64 (-1)] 3)
  have hlit : SliceR intR 1 All (w.alloc (.cells #[.int .i64 (-1)] 3)) (some ⟨w.heap.size, 0, none⟩) [-1] := by
    have := ints_lit (F := All) (G := All) w 3 [-1] (by intro z hz; simp at hz; subst hz; unfold I64; omega) trivial
    simpa using this
  have HR := hide (repeat_any (-1) N 1 (some ⟨w.heap.size, 0, none⟩) All _ (by unfold I64; omega) (by omega) hlit)
  obtain ⟨d0, _, _, _, _, _⟩ := (hM.below hb1).cells
  have HB1 := hide hb1
  clear hM hlit hb1
  refine callsIn_of_wp_marks Tryz.func125 rfl trivial ?_ rfl
  simp only [Tryz.ntmps125, List.size_toArray, List.length_cons, List.length_nil, Nat.reduceAdd, Nat.reduceSub, Array.replicate_succ, Array.replicate_zero, List.push_toArray, List.append_toArray, List.nil_append, List.cons_append]
  refine wpIn_wide.2 ?_
  go_wp2_with fail
  refine HR.out.mono ?_
  rintro e w2 ⟨v, rfl, hown, hb2⟩
  obtain ⟨go, co, rest, rfl, hgo, hco, hcm, hrow, _⟩ := hown.row (by simp; omega)
  rw [List.length_replicate] at hco ⊢
  have hcN : N ≤ co := by omega
  have HCM := hide hco
  clear hown d0 hco
  go_wp2_with fail
  obtain ⟨W3, hW3⟩ : ∃ W3, w2.alloc (.cells #[.slice (some ⟨go, 0, none⟩) N co] 25) = W3 := ⟨_, rfl⟩
  have hs3 : W3.heap.size = w2.heap.size + 1 := by rw [← hW3]; simp
  have hB3 : Below w.heap.size w W3 := by
    rw [← hW3]
    exact (below_then HB1.out hb2).alloc (by have := hb2.size; simp at this; omega) _
  have bO : Boxed W3 w2.heap.size 25 (.slice (some ⟨go, 0, none⟩) N co) := by rw [← hW3]; exact Boxed.new w2 _ _
  have rO : Row1 (Value.int .i64) W3 go 3 (List.replicate N (-1)) rest := by rw [← hW3]; exact hrow.new _
  have hgow : w.heap.size ≤ go := by simp at hgo; omega
  have hgol := hrow.lt
  have hw2 := hb2.size
  have hM3 := HM.out.below hB3
  obtain ⟨_, _, d2, _, _, _⟩ := hM3.cells
  have c0 := bO.cell
  have e0 := rO.cell (i := q) (x := -1) (by simp [hqN])
  have f0 := rO.free q
  have hq0 : (0 : Int) ≤ q := by omega
  have hq1 : (q : Int) < N := by omega
  rw [hW3]
  have HS3 := hide hs3
  have HX3 := hide (And.intro bO (And.intro rO (And.intro hB3 hM3)))
  clear hW3 hs3 bO rO hB3 hM3 hrow hb2
  go_region
  all_goals
    obtain ⟨bO, rO, hB3, hM3⟩ := HX3.out
    obtain ⟨W4, hW4⟩ : ∃ W4, (W3.setCell ⟨go, q, none⟩ (.int .i64 0)).drew = W4 := ⟨_, rfl⟩
    have rO4 : Row1 (Value.int .i64) W4 go 3 (lst N (begF q)) rest := by
      rw [← hW4]
      have h5 := rO.put (i := q) (by simpa using hqN) 0
      have h6 : (List.replicate N (-1 : Int)).set q 0 = lst N (begF q) := by
        rw [show List.replicate N (-1 : Int) = lst N (fun _ => -1) from ?_, lst_set]
        · rfl
        · unfold lst
          apply List.ext_getElem?
          intro j
          rw [List.getElem?_replicate, List.getElem?_map]
          by_cases h : j < N
          · rw [if_pos h, List.getElem?_range h]; rfl
          · rw [if_neg h, List.getElem?_eq_none (by simp; omega)]; rfl
      rw [h6] at h5
      exact h5
    have hne : w2.heap.size ≠ go := by omega
    have bO4 : Boxed W4 w2.heap.size 25 (.slice (some ⟨go, 0, none⟩) N co) := by rw [← hW4]; exact (Below.heap_setCell W3 ⟨go, q, none⟩ _ w2.heap.size hne).trans bO
    have hB4 : Below w.heap.size w W4 := by rw [← hW4]; exact (hB3.setCell hgow _).drew
    have hs4 : W4.heap.size = W3.heap.size := by rw [← hW4]; simp
    have hM4 := HM.out.below hB4
    obtain ⟨_, _, d2, _, _, _⟩ := hM4.cells
    have HX4 := hide (And.intro bO4 (And.intro rO4 (And.intro hB4 (And.intro hs4 HS3.out))))
    rw [hW4]
    clear hW4 c0 e0 f0 bO rO hB3 hM3 bO4 rO4 hB4 hs4 hM4 hq0 hq1
    go_wp2_with fail
    obtain ⟨bO4, rO4, hB4, hs4, hs3⟩ := HX4.out
    obtain ⟨W6, hW6⟩ : ∃ W6, (W4.alloc (.cells #[.int .i64 (q : Int)] 3)).alloc (.cells #[.slice (some ⟨W4.heap.size, 0, none⟩) 1 1] 25) = W6 := ⟨_, rfl⟩
    have hs6 : W6.heap.size = W4.heap.size + 2 := by rw [← hW6]; simp
    have hb6 : Below W4.heap.size W4 W6 := by rw [← hW6]; exact bnew (bnew (Below.refl _ _) _) _
    have hQ6 : OwnQ w.heap.size 3 W6 (.slice (some ⟨W4.heap.size, 0, none⟩) 1 1) (castL [q]) := by
      have h5 := OwnQ.lit W4 3 (castL [q]) (by intro z hz; simp [castL] at hz; subst hz; unfold I64; omega) (by simp [castL])
      have h6 := (h5.new (.cells #[.slice (some ⟨W4.heap.size, 0, none⟩) 1 1] 25)).rebase (base' := w.heap.size) hB4.size
      rw [← hW6]
      exact h6
    have bQ6 : Boxed W6 (W4.heap.size + 1) 25 (.slice (some ⟨W4.heap.size, 0, none⟩) 1 1) := by
      rw [← hW6]
      have := Boxed.new (W4.alloc (.cells #[.int .i64 (q : Int)] 3)) 25 (.slice (some ⟨W4.heap.size, 0, none⟩) 1 1)
      simpa using this
    have hD6 : DisM w.heap.size N w2.heap.size go (W4.heap.size + 1) co rest (begF q) (.slice (some ⟨W4.heap.size, 0, none⟩) 1 1) [q] W6 :=
      ⟨(hb6.block _ (by omega)).trans bO4, rO4.below hb6, bQ6, hQ6, fun g hg => by simp [Value.ownBlock] at hg; omega, by simp at hw2; omega, hgow, by omega, by omega, hcN⟩
    have hRng : RngF N (begF q) := rng_beg hqN
    have hUnk := unk_beg hqN
    have hB6 : Below w.heap.size w W6 := hB4.trans (hb6.mono hB4.size)
    generalize w2.heap.size = bo at *
    generalize W4.heap.size + 1 = bq at *
    rw [hW6]
    have HINIT := hide (And.intro hD6 (And.intro hRng hB6))
    clear hW6 hD6 hRng hB6 hQ6 bQ6 hb6 hs6 bO4 rO4 hB4 hs4 hs3 HX4 HX3 HS3 d2
    refine wp_loop_ghost (FarI B N q es L w bo go bq co rest) N ?atStart ?round
    case atStart =>
      obtain ⟨hD6, hRng, hB6⟩ := HINIT.out
      exact ⟨_, [q], _, [], ⟨⟨DBfs.begin_ hqN, hRng, by simp; omega, by omega⟩, hD6, Marks.nil _ _, hB6⟩, act_ex _ _ trivial rfl⟩
    case round =>
      clear HINIT
      rintro gm a' wr ⟨out, work, vq, ds, ⟨⟨hDB, hRg, hgm, hg12⟩, hDM, hMk, hBw⟩, u, _, rfl⟩
      have hszr := hBw.size
      have hMr := HM.out.below hBw
      obtain ⟨_, c1, _, _, _, _⟩ := hMr.cells
      have cO := hDM.bO.cell
      have cQ := hDM.bQ.cell
      have fQ := hDM.bQ.frozen
      have hNe := hDM.bne
      cases work with
      | nil =>
        obtain ⟨gq, oq, cq, cur, rfl, hq1, hq2, hq3, hq4, hq5, hq6, hq7⟩ := hDM.qQ
        have HX := hide (And.intro hDB (And.intro hRg (And.intro hDM (And.intro hMk hBw))))
        simp only [castL, List.map_nil, List.length_nil] at cQ
        clear hDB hRg hDM hMk hBw hMr hq1 hq2 hq3 hq4 hq5 hq6 hq7 hNe hgm
        go_wp2_with fail
        obtain ⟨hDB, hRg, hDM, hMk, hBw⟩ := HX.out
        obtain ⟨Ds, rfl, hnd, hDs⟩ := hMk
        refine leaves_marks (B := w.heap.size) Ds wr hnd hDs fun w' hb' hc' => ?_
        exact ⟨_, results_tmp rfl _ _ _, go, co, rest, out, rfl, hDB, hRg, hc' _ _ hDM.rO rfl, hDM.low.2.2.2.2, hDM.low.2.1, hBw.trans hb'⟩
      | cons t r =>
        obtain ⟨g, o, cap, hv, hg1, hg2, hrc, hcm, ct, it, hq1⟩ := OwnQ.head (show OwnQ w.heap.size 3 wr vq ((t : Int) :: castL r) from hDM.qQ)
        rw [castL_len] at hv hrc hq1
        subst hv
        have htN := (hDB.wk t (by simp)).1
        have HPOP := hide hDB.pop
        have hne1 : g ≠ go := hDM.ne g rfl
        have hne2 := (hNe.2.2 g rfl)
        have HQ : ∃ o', (cap = 0 → o' = o) ∧ (0 < cap → o' = o + 1) ∧ OwnQ w.heap.size 3 wr (.slice (some ⟨g, o', none⟩) r.length cap) (castL r) := by
          by_cases hcap : cap = 0
          · rw [if_pos hcap] at hq1; exact ⟨o, fun _ => rfl, fun h => by omega, hq1⟩
          · rw [if_neg hcap] at hq1; exact ⟨o + 1, fun h => by omega, fun _ => rfl, hq1⟩
        clear hq1
        obtain ⟨o', ho1, ho2, hq1⟩ := HQ
        have HX := hide (And.intro hRg (And.intro hDM (And.intro hMk (And.intro hBw (And.intro hq1 hMr)))))
        have hgm2 : unkN N out + r.length + 1 ≤ gm := by simp only [List.length_cons] at hgm; omega
        have hlow := hDM.low
        have hdl := hDM.rO.lt
        have hol := hDM.bO.lt
        have hql := hDM.bQ.lt
        have HINE : Hid (unkN N out + r.length + 1 ≤ gm ∧ gm ≤ 12) := by simp only [List.length_cons] at hgm; show _ ∧ _; omega
        have HLK := hide (links_any L.p (t : Int))
        clear hDB hRg hMk hBw hMr hNe hgm hq1 hDM cO it
        by_cases hcap : cap = 0
        · have h := (ho1 hcap).symm
          subst h
          subst hcap
          obtain rfl : r = [] := List.eq_nil_of_length_eq_zero (by omega)
          simp only [List.length_nil, Nat.zero_add] at *
          clear ho1 ho2
          go_wp2_with (go_at_call 154; refine (HLK.out _).mono ?_; rintro e w5 ⟨rfl, rfl⟩)
          obtain ⟨W5, hW5⟩ : ∃ W5, (((wr.setCell ⟨bq, 0, none⟩ (.slice (some ⟨g, o, none⟩) 0 0)).alloc (.cells #[.int .i64 (t : Int)] 3)).alloc (.cells #[.pointer (some ⟨L.p, 0, none⟩)] 143)).alloc (.cells #[.int .i64 (t : Int)] 3) = W5 := ⟨_, rfl⟩
          obtain ⟨hRg, hDM, hMk, hBw, hq1, hMr⟩ := HX.out
          have hs5 : W5.heap.size = wr.heap.size + 3 := by rw [← hW5]; simp
          have hn5 : ∀ k, k ≠ bq → k < wr.heap.size → W5.heap[k]? = wr.heap[k]? := fun k h5 h6 => by
            rw [← hW5]
            rw [Below.heap_alloc _ _ _ (by simp; omega), Below.heap_alloc _ _ _ (by simp; omega), Below.heap_alloc _ _ _ (by simpa using h6)]
            exact Below.heap_setCell wr ⟨bq, 0, none⟩ _ k h5
          have hb5 : Below w.heap.size w W5 := by
            rw [← hW5]
            exact (((hBw.setCell (p := ⟨bq, 0, none⟩) hlow.2.2.1 _).alloc (by simp; omega) _).alloc (by simp; omega) _).alloc (by simp; omega) _
          have bQ5 : Boxed W5 bq 25 (.slice (some ⟨g, o, none⟩) 0 0) := by
            rw [← hW5]
            exact (((hDM.bQ.set _).alloc _).alloc _).alloc _
          have bv5 : Boxed W5 wr.heap.size 3 (.int .i64 t) := by
            rw [← hW5]
            have := ((Boxed.new (wr.setCell ⟨bq, 0, none⟩ (.slice (some ⟨g, o, none⟩) 0 0)) 3 (.int .i64 (t : Int))).alloc (.cells #[.pointer (some ⟨L.p, 0, none⟩)] 143)).alloc (.cells #[.int .i64 (t : Int)] 3)
            simpa using this
          have bX5 : Boxed W5 (wr.heap.size + 1) 143 (.pointer (some ⟨L.p, 0, none⟩)) := by
            rw [← hW5]
            have := (Boxed.new ((wr.setCell ⟨bq, 0, none⟩ (.slice (some ⟨g, o, none⟩) 0 0)).alloc (.cells #[.int .i64 (t : Int)] 3)) 143 (.pointer (some ⟨L.p, 0, none⟩))).alloc (.cells #[.int .i64 (t : Int)] 3)
            simpa using this
          have bV5 : Boxed W5 (wr.heap.size + 1 + 1) 3 (.int .i64 t) := by
            rw [← hW5]
            have := Boxed.new (((wr.setCell ⟨bq, 0, none⟩ (.slice (some ⟨g, o, none⟩) 0 0)).alloc (.cells #[.int .i64 (t : Int)] 3)).alloc (.cells #[.pointer (some ⟨L.p, 0, none⟩)] 143)) 3 (.int .i64 t)
            simpa using this
          have hD5 : DisM w.heap.size N bo go bq co rest out (.slice (some ⟨g, o, none⟩) 0 0) [] W5 :=
            ⟨(hn5 bo hlow.2.2.2.1 hol).trans hDM.bO, hDM.rO.keep (hn5 go (fun e => hDM.bne.2.1 e.symm) hdl), bQ5, hq1.keep (fun g5 hg5 => by simp [Value.ownBlock] at hg5; subst hg5; exact hn5 _ hne2.2 hg2), fun g5 hg5 => by simp [Value.ownBlock] at hg5; subst hg5; exact hne1, hlow⟩
          have hM5 := HM.out.below hb5
          obtain ⟨_, c1, _, _, _, _⟩ := hM5.cells
          have hKD5 : KeepD wr W5 := fun k o5 h5 h6 => by
            refine (hn5 k (fun e => ?_) (Array.getElem?_eq_some_iff.1 h5).1).trans h5
            subst e
            rw [show wr.heap[k]? = _ from hDM.bQ] at h5
            injection h5 with h5
            subst h5
            cases h6
          have HOUT := hide (And.intro hMk (And.intro hKD5 (And.intro hb5 (And.intro hs5 hM5))))
          have hJ0 : FarJ w.heap.size N q es bo go bq co rest t wr.heap.size (wr.heap.size + 1 + 1) (unkN N out + ([] : List Nat).length) W5 [] W5 :=
            ⟨out, _, _, ⟨HPOP.out, hRg, Nat.le_refl _, by first | (simp; done) | (have h6 := HINE.out; omega), fun g5 hg5 => by simp [Value.ownBlock] at hg5; subst hg5; omega⟩, hD5, bv5, Below.refl _ _, KeepD.refl _⟩
          rw [hW5]
          clear hW5 hn5 bQ5 bv5 hD5 hRg hDM hMk hBw hq1 hMr hKD5 cQ ct HX
          refine (wpIn_wide (n := 6)).1 (wpIn_rangeFunc_ownF rfl h1 (gf := 165) (lb := #[.pointer (some ⟨wr.heap.size + 1, 0, none⟩), .pointer (some ⟨wr.heap.size + 1 + 1, 0, none⟩)]) rfl trivial (enters_of Tryz.func165 (by kernel_rfl) rfl)
            (links_stops Go.Fence.wide (6 - 1) trivial rfl (by omega) (wr.heap.size + 1) (wr.heap.size + 1 + 1) L.p B N t L.c L.oe es hok htN (by omega) W5 (by omega) bX5.cell bV5.cell c1 hM5.edg)
            KpL.t (KpL.b (by omega) (by intro g5 hg5; simp at hg5; omega)) (Below.refl _ _) (fun _ => rfl)
            (fun pre W => FarJ w.heap.size N q es bo go bq co rest t wr.heap.size (wr.heap.size + 1 + 1) (unkN N out + ([] : List Nat).length) W5 (lnkV pre) W)
            (fun _ _ _ => False)
            (FarJ.own (fun pre : List (LnkT N t) => lnkV pre) (by omega) (Nat.le_refl _))
            (fun _ _ _ _ _ hs _ _ => hs)
            hJ0 ?act1 ?assign ?body ?done ?stop)
          case assign =>
            intro l p W K hK
            simp only [lEnc]
            gi_wp2
            exact hK
          case body =>
            rintro l pre ⟨⟨u0, m⟩, z, e0, hz, hne, hm⟩ W ⟨out1, vq1, work1, ⟨hDM1, hR1, hm1, hwl, hgv⟩, hD1, hbv, hBA, hKD⟩ hlen
            have e0 : u0 = z := e0
            subst e0
            simp only at hm
            have hz0 : (0 : Int) ≤ z := by omega
            have hz1 : (z : Int) < N := by omega
            have ht0 : (0 : Int) ≤ t := by omega
            have ht1 : (t : Int) < N := by omega
            have cO := hD1.bO.cell
            have c0 : W.cell? ⟨go, z, none⟩ = some (.int .i64 (out1 z)) := hD1.rO.cell (lst_get out1 hz)
            have hWA := hBA.size
            have hlo := hDM1.lo z hz
            by_cases hneg : out1 z < 0
            · have q1 : decide (out1 z < 0) = true := by simpa using hneg
              have htk := hDM1.ht
              have hrt := hR1 t htN
              have hr1 := unk_more (n := N) hz hneg (x := out1 t + 1) (by omega)
              have cV := hbv.cell
              have fO := hD1.rO.free z
              have c2 : W.cell? ⟨go, t, none⟩ = some (.int .i64 (out1 t)) := hD1.rO.cell (lst_get out1 htN)
              obtain ⟨W6, hW6⟩ : ∃ W6, (W.setCell ⟨go, z, none⟩ (.int .i64 (out1 t + 1))).drew = W6 := ⟨_, rfl⟩
              have hn6 : ∀ j, j ≠ go → W6.heap[j]? = W.heap[j]? := fun j hj => by rw [← hW6]; exact Below.heap_setCell W ⟨go, z, none⟩ _ j hj
              have hs6 : W6.heap.size = W.heap.size := by rw [← hW6]; simp
              have hb6 : Below w.heap.size W W6 := by rw [← hW6]; exact ((Below.refl _ W).setCell hlow.2.1 _).drew
              have rO6 : Row1 (Value.int .i64) W6 go 3 (lst N (putF out1 z (out1 t + 1))) rest := by
                rw [← hW6]
                have h5 := hD1.rO.put (i := z) (by rw [lst_len]; exact hz) (out1 t + 1)
                rw [lst_set] at h5
                exact h5
              have hbn := hD1.bne
              have hD6 : DisM w.heap.size N bo go bq co rest (putF out1 z (out1 t + 1)) vq1 work1 W6 :=
                ⟨(hn6 bo hbn.1).trans hD1.bO, rO6, (hn6 bq hbn.2.1).trans hD1.bQ, hD1.qQ.keep (fun g5 hg5 => hn6 g5 (hD1.ne g5 hg5)), hD1.ne, hD1.low⟩
              obtain ⟨a1, c1q, hvf, hcl, _⟩ := OwnQ.slice hD1.qQ
              rw [castL_len] at hvf
              subst hvf
              have cQ6 := hD6.bQ.cell
              have HD6 := hide hD6
              have HNX := hide (And.intro (hDM1.more (p := ((z : Int), m)) rfl hz hneg) (And.intro (hR1.more hz htN hneg htk.2) hr1))
              have HFR := hide (And.intro hn6 (And.intro hb6 (And.intro hs6 (And.intro hgv (And.intro hbv (And.intro hBA (And.intro hKD (And.intro hbn hD1))))))))
              clear hDM1 hR1 hgv hD1 hbv hBA hKD hneg hn6 hs6 hb6 rO6 hbn hD6 hr1
              generalize out1 z = oz at *
              generalize out1 t = ot at *
              gi_wp2
              refine round_still 8 (by kernel_rfl) (by kernel_rfl) (by kernel_rfl) (by rintro ⟨_, _, h⟩; exact h) ?_
              simp only [List.take_succ_cons, List.take_zero, List.drop_succ_cons, List.drop_zero]
              repeat still_step
              refine wpStill_nil ?_
              change wpList _ _ _ _ _ W.drew
              go_wp2_with fail
              rw [hW6]
              clear hW6 cO c0 cV fO c2
              refine round_list (by kernel_rfl) (by rintro ⟨_, _, h⟩; exact h) ?_
              have hbW6 : w.heap.size ≤ W6.heap.size := by have := HFR.out.2.2.1; omega
              go_wp2_with (at_builtin; (refine wpList_append_q rfl (.tmp 51) (.tmp 53) 25 rfl w.heap.size 3 _ Tryz.underlying25 intInfo rfl _ (castL work1) rfl (HD6.out.qQ.new _) ⟨W6.heap.size, 0, none⟩ 1 z rfl (by simp [Addr.add]) (by unfold I64; omega) (by rw [castL_len]; omega) (by simp; omega) ?_); intro v7 w7 hq7 hb7 hg7 hv7; obtain ⟨a7, c7, hvf7, _, _⟩ := OwnQ.slice hq7; rw [show castL work1 ++ [(z : Int)] = castL (work1 ++ [z]) by rw [castL_app]; rfl] at hq7 hvf7; rw [castL_len] at hvf7; subst hvf7; simp only [List.length_append, List.length_cons, List.length_nil, Nat.zero_add] at hq7 hv7; have bQ7 : Boxed w7 bq 25 (.slice a1 work1.length c1q) := (hg7.block bq (by have := HD6.out.bQ.lt; simp; omega) (fun e => (HD6.out.bne.2.2 bq e.symm).2 rfl)).trans (HD6.out.bQ.alloc _); have cQ7 := bQ7.cell; have fQ7 := bQ7.frozen; replace bQ7 := hide bQ7; replace hq7 := hide hq7; replace hb7 := hide hb7; replace hg7 := hide hg7; replace hv7 := hide hv7)
              obtain ⟨hdm, hrng, hunk⟩ := HNX.out
              obtain ⟨hn6, hb6, hs6, hgv, hbv, hBA, hKD, hbn, hD1⟩ := HFR.out
              have hD6 := HD6.out
              obtain ⟨Wf, hWf⟩ : ∃ Wf, w7.setCell ⟨bq, 0, none⟩ (.slice a7 (work1.length + 1) c7) = Wf := ⟨_, rfl⟩
              rw [hWf]
              have hs7 : W.heap.size + 1 ≤ w7.heap.size := by have := hg7.out.size; simp at this; omega
              have hsf : Wf.heap.size = w7.heap.size := by rw [← hWf]; simp
              have hfr : ∀ k, k < W.heap.size → k ≠ go → k ≠ bq → (Value.slice a1 work1.length c1q).ownBlock ≠ some k → Wf.heap[k]? = W.heap[k]? := fun k h5 h6 h7 h8 => by
                rw [← hWf]
                exact (Below.heap_setCell w7 ⟨bq, 0, none⟩ _ k h7).trans ((hg7.out.block k (by simp; omega) (fun e => h8 e.symm)).trans ((Below.heap_alloc W6 _ k (by omega)).trans (hn6 k h6)))
              have hKW : KeepD W Wf := fun k o5 h5 h6 => by
                refine (hfr k (Array.getElem?_eq_some_iff.1 h5).1 (fun e => ?_) (fun e => ?_) (fun e => ?_)).trans h5
                · subst e
                  rw [show W.heap[k]? = _ from hD1.rO] at h5
                  injection h5 with h5
                  subst h5
                  cases h6
                · subst e
                  rw [show W.heap[k]? = _ from hD1.bQ] at h5
                  injection h5 with h5
                  subst h5
                  cases h6
                · obtain ⟨g5, o9, cap5, cur5, hv5, _, h9, _⟩ := hD1.qQ
                  rw [hv5] at e
                  simp [Value.ownBlock] at e
                  subst e
                  rw [h9] at h5
                  injection h5 with h5
                  subst h5
                  cases h6
              have hbvW : wr.heap.size < W.heap.size := hbv.lt
              have hw5 := HOUT.out.2.2.2.1
              have hqne : ∀ g5, (Value.slice a7 (work1.length + 1) c7).ownBlock = some g5 → g5 ≠ bq := fun g5 h5 => by
                obtain ⟨g6, o9, cap5, cur5, hv5, _, h9, _⟩ := hq7.out
                rw [hv5] at h5
                simp [Value.ownBlock] at h5
                subst h5
                exact ne_type h9 (show w7.heap[bq]? = some (.cells _ 25 (0, 0)) from bQ7.out) (by decide)
              refine ⟨⟨by omega, hKW⟩, ⟨?_, fun g5 hg5 => ?_⟩, ?_⟩
              · rw [← hWf]
                exact ((((hb6.mono hsz).alloc (by omega) _).trans (hb7.out.mono hsz)).setCell (p := ⟨bq, 0, none⟩) (Nat.le_trans hsz hlow.2.2.1) _)
              · have hg6 : g5 = wr.heap.size + 1 + 1 := by simpa using hg5
                subst hg6
                exact hfr _ (by omega) (by omega) (by omega) (fun e => (hgv _ e).2 rfl)
              · refine ⟨putF out1 z (ot + 1), .slice a7 (work1.length + 1) c7, work1 ++ [z], ⟨?_, hrng, ?_, ?_, ?_⟩, ⟨?_, ?_, ?_, ?_, ?_, hlow⟩, ?_, ?_, hKD.trans hKW⟩
                · rw [lnkV_snoc]
                  exact hdm
                · simp only [List.length_append, List.length_cons, List.length_nil] at hm1 ⊢
                  omega
                · have h6 := HINE.out
                  simp only [List.length_append, List.length_cons, List.length_nil] at *
                  omega
                · intro g5 h5
                  rcases hv7.out g5 h5 with h6 | h6
                  · exact hgv g5 h6
                  · simp at h6
                    omega
                · exact (hfr bo (by omega) hbn.1 hlow.2.2.2.1 (fun e => (hbn.2.2 bo e).1 rfl)).trans hD1.bO
                · refine hD6.rO.keep ?_
                  rw [← hWf]
                  exact (Below.heap_setCell w7 ⟨bq, 0, none⟩ _ go (fun e => hbn.2.1 e.symm)).trans ((hg7.out.block go (by simp; omega) (fun e => hD6.ne go e.symm rfl)).trans (Below.heap_alloc W6 _ go (by omega)))
                · rw [← hWf]
                  exact bQ7.out.set _
                · rw [← hWf]
                  exact hq7.out.keep (fun g5 h5 => Below.heap_setCell w7 ⟨bq, 0, none⟩ _ g5 (hqne g5 h5))
                · intro g5 h5
                  rcases hv7.out g5 h5 with h6 | h6
                  · exact hD1.ne g5 h6
                  · simp at h6
                    omega
                · exact (hfr wr.heap.size hbvW (by omega) (by omega) (fun e => (hgv _ e).1 rfl)).trans hbv
                · rw [← hWf]
                  exact (((hBA.trans hb6).alloc (by omega) _).trans hb7.out).setCell (p := ⟨bq, 0, none⟩) hlow.2.2.1 _
            · have q1 : decide (out1 z < 0) = false := by simpa using hneg
              have HJ : Hid (FarJ w.heap.size N q es bo go bq co rest t wr.heap.size (wr.heap.size + 1 + 1) (unkN N out + ([] : List Nat).length) W5 (lnkV (pre ++ [⟨((z : Int), m), ⟨z, rfl, hz, hne, hm⟩⟩])) W) := by
                refine ⟨out1, vq1, work1, ⟨?_, hR1, hm1, hwl, hgv⟩, hD1, hbv, hBA, hKD⟩
                rw [lnkV_snoc]
                exact hDM1.skip rfl hz (by omega)
              clear hDM1 hR1 hm1 hgv hD1 hbv hBA hKD hneg
              generalize out1 z = oz at *
              gi_wp2
              exact ⟨KeepsOthers.refl _, KpL.refl _ _ _, HJ.out⟩
          case done =>
            rintro D ys W hDl hys ⟨out1, vq1, work1, ⟨hDM1, hR1, hm1, hwl, hgv⟩, hD1, hbv, hBA, hKD⟩ hK
            rw [hys] at hDM1
            obtain ⟨hMk, hKD5, hb5, hs5, hM5⟩ := HOUT.out
            have hmk : Marks w.heap.size ({ target := .collected D, args := #[] } :: ds) W := hMk.consD (hKD5.trans hKD) (by omega) (by omega) hK
            have HEND := hide (And.intro (And.intro hDM1.finish (And.intro hR1 hm1)) (And.intro hD1 (And.intro hmk (hb5.trans hBA))))
            have hgm6 := HINE.out
            clear hDM1 hR1 hm1 hwl hgv hD1 hbv hBA hKD hMk hKD5 hb5 hM5 hmk hK c1 bX5 bV5 hJ0
            go_wp2_with fail
            refine ⟨gm - 1, by omega, out1, work1, vq1, _, ⟨⟨HEND.out.1.1, HEND.out.1.2.1, ?_, by omega⟩, HEND.out.2.1, HEND.out.2.2.1, HEND.out.2.2.2⟩, act_ex _ _ trivial rfl⟩
            have h5 := HEND.out.1.2.2
            first | omega | (simp only [List.length_nil] at h5 hgm6; omega)
          case stop =>
            rintro D c pre W _ _ h _
            exact h.elim
        · have h := (ho2 (by omega)).symm
          subst h
          clear ho1 ho2
          go_wp2_with (go_at_call 154; refine (HLK.out _).mono ?_; rintro e w5 ⟨rfl, rfl⟩)
          obtain ⟨W5, hW5⟩ : ∃ W5, (((wr.setCell ⟨bq, 0, none⟩ (.slice (some ⟨g, o + 1, none⟩) r.length cap)).alloc (.cells #[.int .i64 (t : Int)] 3)).alloc (.cells #[.pointer (some ⟨L.p, 0, none⟩)] 143)).alloc (.cells #[.int .i64 (t : Int)] 3) = W5 := ⟨_, rfl⟩
          obtain ⟨hRg, hDM, hMk, hBw, hq1, hMr⟩ := HX.out
          have hs5 : W5.heap.size = wr.heap.size + 3 := by rw [← hW5]; simp
          have hn5 : ∀ k, k ≠ bq → k < wr.heap.size → W5.heap[k]? = wr.heap[k]? := fun k h5 h6 => by
            rw [← hW5]
            rw [Below.heap_alloc _ _ _ (by simp; omega), Below.heap_alloc _ _ _ (by simp; omega), Below.heap_alloc _ _ _ (by simpa using h6)]
            exact Below.heap_setCell wr ⟨bq, 0, none⟩ _ k h5
          have hb5 : Below w.heap.size w W5 := by
            rw [← hW5]
            exact (((hBw.setCell (p := ⟨bq, 0, none⟩) hlow.2.2.1 _).alloc (by simp; omega) _).alloc (by simp; omega) _).alloc (by simp; omega) _
          have bQ5 : Boxed W5 bq 25 (.slice (some ⟨g, o + 1, none⟩) r.length cap) := by
            rw [← hW5]
            exact (((hDM.bQ.set _).alloc _).alloc _).alloc _
          have bv5 : Boxed W5 wr.heap.size 3 (.int .i64 t) := by
            rw [← hW5]
            have := ((Boxed.new (wr.setCell ⟨bq, 0, none⟩ (.slice (some ⟨g, o + 1, none⟩) r.length cap)) 3 (.int .i64 (t : Int))).alloc (.cells #[.pointer (some ⟨L.p, 0, none⟩)] 143)).alloc (.cells #[.int .i64 (t : Int)] 3)
            simpa using this
          have bX5 : Boxed W5 (wr.heap.size + 1) 143 (.pointer (some ⟨L.p, 0, none⟩)) := by
            rw [← hW5]
            have := (Boxed.new ((wr.setCell ⟨bq, 0, none⟩ (.slice (some ⟨g, o + 1, none⟩) r.length cap)).alloc (.cells #[.int .i64 (t : Int)] 3)) 143 (.pointer (some ⟨L.p, 0, none⟩))).alloc (.cells #[.int .i64 (t : Int)] 3)
            simpa using this
          have bV5 : Boxed W5 (wr.heap.size + 1 + 1) 3 (.int .i64 t) := by
            rw [← hW5]
            have := Boxed.new (((wr.setCell ⟨bq, 0, none⟩ (.slice (some ⟨g, o + 1, none⟩) r.length cap)).alloc (.cells #[.int .i64 (t : Int)] 3)).alloc (.cells #[.pointer (some ⟨L.p, 0, none⟩)] 143)) 3 (.int .i64 t)
            simpa using this
          have hD5 : DisM w.heap.size N bo go bq co rest out (.slice (some ⟨g, o + 1, none⟩) r.length cap) r W5 :=
            ⟨(hn5 bo hlow.2.2.2.1 hol).trans hDM.bO, hDM.rO.keep (hn5 go (fun e => hDM.bne.2.1 e.symm) hdl), bQ5, hq1.keep (fun g5 hg5 => by simp [Value.ownBlock] at hg5; subst hg5; exact hn5 _ hne2.2 hg2), fun g5 hg5 => by simp [Value.ownBlock] at hg5; subst hg5; exact hne1, hlow⟩
          have hM5 := HM.out.below hb5
          obtain ⟨_, c1, _, _, _, _⟩ := hM5.cells
          have hKD5 : KeepD wr W5 := fun k o5 h5 h6 => by
            refine (hn5 k (fun e => ?_) (Array.getElem?_eq_some_iff.1 h5).1).trans h5
            subst e
            rw [show wr.heap[k]? = _ from hDM.bQ] at h5
            injection h5 with h5
            subst h5
            cases h6
          have HOUT := hide (And.intro hMk (And.intro hKD5 (And.intro hb5 (And.intro hs5 hM5))))
          have hJ0 : FarJ w.heap.size N q es bo go bq co rest t wr.heap.size (wr.heap.size + 1 + 1) (unkN N out + (r : List Nat).length) W5 [] W5 :=
            ⟨out, _, _, ⟨HPOP.out, hRg, Nat.le_refl _, by first | (simp; done) | (have h6 := HINE.out; omega), fun g5 hg5 => by simp [Value.ownBlock] at hg5; subst hg5; omega⟩, hD5, bv5, Below.refl _ _, KeepD.refl _⟩
          rw [hW5]
          clear hW5 hn5 bQ5 bv5 hD5 hRg hDM hMk hBw hq1 hMr hKD5 cQ ct HX
          refine (wpIn_wide (n := 6)).1 (wpIn_rangeFunc_ownF rfl h1 (gf := 165) (lb := #[.pointer (some ⟨wr.heap.size + 1, 0, none⟩), .pointer (some ⟨wr.heap.size + 1 + 1, 0, none⟩)]) rfl trivial (enters_of Tryz.func165 (by kernel_rfl) rfl)
            (links_stops Go.Fence.wide (6 - 1) trivial rfl (by omega) (wr.heap.size + 1) (wr.heap.size + 1 + 1) L.p B N t L.c L.oe es hok htN (by omega) W5 (by omega) bX5.cell bV5.cell c1 hM5.edg)
            KpL.t (KpL.b (by omega) (by intro g5 hg5; simp at hg5; omega)) (Below.refl _ _) (fun _ => rfl)
            (fun pre W => FarJ w.heap.size N q es bo go bq co rest t wr.heap.size (wr.heap.size + 1 + 1) (unkN N out + (r : List Nat).length) W5 (lnkV pre) W)
            (fun _ _ _ => False)
            (FarJ.own (fun pre : List (LnkT N t) => lnkV pre) (by omega) (Nat.le_refl _))
            (fun _ _ _ _ _ hs _ _ => hs)
            hJ0 ?act2 ?assign ?body ?done ?stop)
          case assign =>
            intro l p W K hK
            simp only [lEnc]
            gi_wp2
            exact hK
          case body =>
            rintro l pre ⟨⟨u0, m⟩, z, e0, hz, hne, hm⟩ W ⟨out1, vq1, work1, ⟨hDM1, hR1, hm1, hwl, hgv⟩, hD1, hbv, hBA, hKD⟩ hlen
            have e0 : u0 = z := e0
            subst e0
            simp only at hm
            have hz0 : (0 : Int) ≤ z := by omega
            have hz1 : (z : Int) < N := by omega
            have ht0 : (0 : Int) ≤ t := by omega
            have ht1 : (t : Int) < N := by omega
            have cO := hD1.bO.cell
            have c0 : W.cell? ⟨go, z, none⟩ = some (.int .i64 (out1 z)) := hD1.rO.cell (lst_get out1 hz)
            have hWA := hBA.size
            have hlo := hDM1.lo z hz
            by_cases hneg : out1 z < 0
            · have q1 : decide (out1 z < 0) = true := by simpa using hneg
              have htk := hDM1.ht
              have hrt := hR1 t htN
              have hr1 := unk_more (n := N) hz hneg (x := out1 t + 1) (by omega)
              have cV := hbv.cell
              have fO := hD1.rO.free z
              have c2 : W.cell? ⟨go, t, none⟩ = some (.int .i64 (out1 t)) := hD1.rO.cell (lst_get out1 htN)
              obtain ⟨W6, hW6⟩ : ∃ W6, (W.setCell ⟨go, z, none⟩ (.int .i64 (out1 t + 1))).drew = W6 := ⟨_, rfl⟩
              have hn6 : ∀ j, j ≠ go → W6.heap[j]? = W.heap[j]? := fun j hj => by rw [← hW6]; exact Below.heap_setCell W ⟨go, z, none⟩ _ j hj
              have hs6 : W6.heap.size = W.heap.size := by rw [← hW6]; simp
              have hb6 : Below w.heap.size W W6 := by rw [← hW6]; exact ((Below.refl _ W).setCell hlow.2.1 _).drew
              have rO6 : Row1 (Value.int .i64) W6 go 3 (lst N (putF out1 z (out1 t + 1))) rest := by
                rw [← hW6]
                have h5 := hD1.rO.put (i := z) (by rw [lst_len]; exact hz) (out1 t + 1)
                rw [lst_set] at h5
                exact h5
              have hbn := hD1.bne
              have hD6 : DisM w.heap.size N bo go bq co rest (putF out1 z (out1 t + 1)) vq1 work1 W6 :=
                ⟨(hn6 bo hbn.1).trans hD1.bO, rO6, (hn6 bq hbn.2.1).trans hD1.bQ, hD1.qQ.keep (fun g5 hg5 => hn6 g5 (hD1.ne g5 hg5)), hD1.ne, hD1.low⟩
              obtain ⟨a1, c1q, hvf, hcl, _⟩ := OwnQ.slice hD1.qQ
              rw [castL_len] at hvf
              subst hvf
              have cQ6 := hD6.bQ.cell
              have HD6 := hide hD6
              have HNX := hide (And.intro (hDM1.more (p := ((z : Int), m)) rfl hz hneg) (And.intro (hR1.more hz htN hneg htk.2) hr1))
              have HFR := hide (And.intro hn6 (And.intro hb6 (And.intro hs6 (And.intro hgv (And.intro hbv (And.intro hBA (And.intro hKD (And.intro hbn hD1))))))))
              clear hDM1 hR1 hgv hD1 hbv hBA hKD hneg hn6 hs6 hb6 rO6 hbn hD6 hr1
              generalize out1 z = oz at *
              generalize out1 t = ot at *
              gi_wp2
              refine round_still 8 (by kernel_rfl) (by kernel_rfl) (by kernel_rfl) (by rintro ⟨_, _, h⟩; exact h) ?_
              simp only [List.take_succ_cons, List.take_zero, List.drop_succ_cons, List.drop_zero]
              repeat still_step
              refine wpStill_nil ?_
              change wpList _ _ _ _ _ W.drew
              go_wp2_with fail
              rw [hW6]
              clear hW6 cO c0 cV fO c2
              refine round_list (by kernel_rfl) (by rintro ⟨_, _, h⟩; exact h) ?_
              have hbW6 : w.heap.size ≤ W6.heap.size := by have := HFR.out.2.2.1; omega
              go_wp2_with (at_builtin; (refine wpList_append_q rfl (.tmp 51) (.tmp 53) 25 rfl w.heap.size 3 _ Tryz.underlying25 intInfo rfl _ (castL work1) rfl (HD6.out.qQ.new _) ⟨W6.heap.size, 0, none⟩ 1 z rfl (by simp [Addr.add]) (by unfold I64; omega) (by rw [castL_len]; omega) (by simp; omega) ?_); intro v7 w7 hq7 hb7 hg7 hv7; obtain ⟨a7, c7, hvf7, _, _⟩ := OwnQ.slice hq7; rw [show castL work1 ++ [(z : Int)] = castL (work1 ++ [z]) by rw [castL_app]; rfl] at hq7 hvf7; rw [castL_len] at hvf7; subst hvf7; simp only [List.length_append, List.length_cons, List.length_nil, Nat.zero_add] at hq7 hv7; have bQ7 : Boxed w7 bq 25 (.slice a1 work1.length c1q) := (hg7.block bq (by have := HD6.out.bQ.lt; simp; omega) (fun e => (HD6.out.bne.2.2 bq e.symm).2 rfl)).trans (HD6.out.bQ.alloc _); have cQ7 := bQ7.cell; have fQ7 := bQ7.frozen; replace bQ7 := hide bQ7; replace hq7 := hide hq7; replace hb7 := hide hb7; replace hg7 := hide hg7; replace hv7 := hide hv7)
              obtain ⟨hdm, hrng, hunk⟩ := HNX.out
              obtain ⟨hn6, hb6, hs6, hgv, hbv, hBA, hKD, hbn, hD1⟩ := HFR.out
              have hD6 := HD6.out
              obtain ⟨Wf, hWf⟩ : ∃ Wf, w7.setCell ⟨bq, 0, none⟩ (.slice a7 (work1.length + 1) c7) = Wf := ⟨_, rfl⟩
              rw [hWf]
              have hs7 : W.heap.size + 1 ≤ w7.heap.size := by have := hg7.out.size; simp at this; omega
              have hsf : Wf.heap.size = w7.heap.size := by rw [← hWf]; simp
              have hfr : ∀ k, k < W.heap.size → k ≠ go → k ≠ bq → (Value.slice a1 work1.length c1q).ownBlock ≠ some k → Wf.heap[k]? = W.heap[k]? := fun k h5 h6 h7 h8 => by
                rw [← hWf]
                exact (Below.heap_setCell w7 ⟨bq, 0, none⟩ _ k h7).trans ((hg7.out.block k (by simp; omega) (fun e => h8 e.symm)).trans ((Below.heap_alloc W6 _ k (by omega)).trans (hn6 k h6)))
              have hKW : KeepD W Wf := fun k o5 h5 h6 => by
                refine (hfr k (Array.getElem?_eq_some_iff.1 h5).1 (fun e => ?_) (fun e => ?_) (fun e => ?_)).trans h5
                · subst e
                  rw [show W.heap[k]? = _ from hD1.rO] at h5
                  injection h5 with h5
                  subst h5
                  cases h6
                · subst e
                  rw [show W.heap[k]? = _ from hD1.bQ] at h5
                  injection h5 with h5
                  subst h5
                  cases h6
                · obtain ⟨g5, o9, cap5, cur5, hv5, _, h9, _⟩ := hD1.qQ
                  rw [hv5] at e
                  simp [Value.ownBlock] at e
                  subst e
                  rw [h9] at h5
                  injection h5 with h5
                  subst h5
                  cases h6
              have hbvW : wr.heap.size < W.heap.size := hbv.lt
              have hw5 := HOUT.out.2.2.2.1
              have hqne : ∀ g5, (Value.slice a7 (work1.length + 1) c7).ownBlock = some g5 → g5 ≠ bq := fun g5 h5 => by
                obtain ⟨g6, o9, cap5, cur5, hv5, _, h9, _⟩ := hq7.out
                rw [hv5] at h5
                simp [Value.ownBlock] at h5
                subst h5
                exact ne_type h9 (show w7.heap[bq]? = some (.cells _ 25 (0, 0)) from bQ7.out) (by decide)
              refine ⟨⟨by omega, hKW⟩, ⟨?_, fun g5 hg5 => ?_⟩, ?_⟩
              · rw [← hWf]
                exact ((((hb6.mono hsz).alloc (by omega) _).trans (hb7.out.mono hsz)).setCell (p := ⟨bq, 0, none⟩) (Nat.le_trans hsz hlow.2.2.1) _)
              · have hg6 : g5 = wr.heap.size + 1 + 1 := by simpa using hg5
                subst hg6
                exact hfr _ (by omega) (by omega) (by omega) (fun e => (hgv _ e).2 rfl)
              · refine ⟨putF out1 z (ot + 1), .slice a7 (work1.length + 1) c7, work1 ++ [z], ⟨?_, hrng, ?_, ?_, ?_⟩, ⟨?_, ?_, ?_, ?_, ?_, hlow⟩, ?_, ?_, hKD.trans hKW⟩
                · rw [lnkV_snoc]
                  exact hdm
                · simp only [List.length_append, List.length_cons, List.length_nil] at hm1 ⊢
                  omega
                · have h6 := HINE.out
                  simp only [List.length_append, List.length_cons, List.length_nil] at *
                  omega
                · intro g5 h5
                  rcases hv7.out g5 h5 with h6 | h6
                  · exact hgv g5 h6
                  · simp at h6
                    omega
                · exact (hfr bo (by omega) hbn.1 hlow.2.2.2.1 (fun e => (hbn.2.2 bo e).1 rfl)).trans hD1.bO
                · refine hD6.rO.keep ?_
                  rw [← hWf]
                  exact (Below.heap_setCell w7 ⟨bq, 0, none⟩ _ go (fun e => hbn.2.1 e.symm)).trans ((hg7.out.block go (by simp; omega) (fun e => hD6.ne go e.symm rfl)).trans (Below.heap_alloc W6 _ go (by omega)))
                · rw [← hWf]
                  exact bQ7.out.set _
                · rw [← hWf]
                  exact hq7.out.keep (fun g5 h5 => Below.heap_setCell w7 ⟨bq, 0, none⟩ _ g5 (hqne g5 h5))
                · intro g5 h5
                  rcases hv7.out g5 h5 with h6 | h6
                  · exact hD1.ne g5 h6
                  · simp at h6
                    omega
                · exact (hfr wr.heap.size hbvW (by omega) (by omega) (fun e => (hgv _ e).1 rfl)).trans hbv
                · rw [← hWf]
                  exact (((hBA.trans hb6).alloc (by omega) _).trans hb7.out).setCell (p := ⟨bq, 0, none⟩) hlow.2.2.1 _
            · have q1 : decide (out1 z < 0) = false := by simpa using hneg
              have HJ : Hid (FarJ w.heap.size N q es bo go bq co rest t wr.heap.size (wr.heap.size + 1 + 1) (unkN N out + (r : List Nat).length) W5 (lnkV (pre ++ [⟨((z : Int), m), ⟨z, rfl, hz, hne, hm⟩⟩])) W) := by
                refine ⟨out1, vq1, work1, ⟨?_, hR1, hm1, hwl, hgv⟩, hD1, hbv, hBA, hKD⟩
                rw [lnkV_snoc]
                exact hDM1.skip rfl hz (by omega)
              clear hDM1 hR1 hm1 hgv hD1 hbv hBA hKD hneg
              generalize out1 z = oz at *
              gi_wp2
              exact ⟨KeepsOthers.refl _, KpL.refl _ _ _, HJ.out⟩
          case done =>
            rintro D ys W hDl hys ⟨out1, vq1, work1, ⟨hDM1, hR1, hm1, hwl, hgv⟩, hD1, hbv, hBA, hKD⟩ hK
            rw [hys] at hDM1
            obtain ⟨hMk, hKD5, hb5, hs5, hM5⟩ := HOUT.out
            have hmk : Marks w.heap.size ({ target := .collected D, args := #[] } :: ds) W := hMk.consD (hKD5.trans hKD) (by omega) (by omega) hK
            have HEND := hide (And.intro (And.intro hDM1.finish (And.intro hR1 hm1)) (And.intro hD1 (And.intro hmk (hb5.trans hBA))))
            have hgm6 := HINE.out
            clear hDM1 hR1 hm1 hwl hgv hD1 hbv hBA hKD hMk hKD5 hb5 hM5 hmk hK c1 bX5 bV5 hJ0
            go_wp2_with fail
            refine ⟨gm - 1, by omega, out1, work1, vq1, _, ⟨⟨HEND.out.1.1, HEND.out.1.2.1, ?_, by omega⟩, HEND.out.2.1, HEND.out.2.2.1, HEND.out.2.2.2⟩, act_ex _ _ trivial rfl⟩
            have h5 := HEND.out.1.2.2
            first | omega | (simp only [List.length_nil] at h5 hgm6; omega)
          case stop =>
            rintro D c pre W _ _ h _
            exact h.elim
end Go.Proofs.YtpgopmmobbemcaaGreat

set_option linter.unusedVariables false
set_option linter.unusedSimpArgs false
set_option linter.unnecessarySimpa false
namespace Go.Proofs.YtpgopmmobbemcaaGreat
open Go.RowKit

def cutF (n : Nat) (f : Nat → Int) : Nat → Int := fun v => if v < n then f v else 0
theorem cutF_lt {n v : Nat} (f : Nat → Int) (h : v < n) : cutF n f v = f v := if_pos h
theorem cutF_bound {n : Nat} {f : Nat → Int} {b : Int} (hb : 0 ≤ b) (h : ∀ v, v < n → -b ≤ f v ∧ f v ≤ b) (u : Nat) : -b ≤ cutF n f u ∧ cutF n f u ≤ b := by
  unfold cutF
  split
  · rename_i hu; exact h u hu
  · omega
/-- Firing, in terms of the script. -/
theorem fire_scr {B N q : Nat} {es : List Edg} {L : RLay} {D s : Nat → Int} {w : World} (hM : RMem B N q es L ⟨app N (linkE es) D s, s⟩ w) {gb : Nat} {S : Nat → Bool} (hin : Row1 Value.bool w gb 4 ((List.range N).map S) []) {t : Int} (ht : 0 ≤ t ∧ t ≤ 2097152)
    (hd : ∀ u, u < N → -2097152 ≤ app N (linkE es) D s u ∧ app N (linkE es) D s u ≤ 2097152) (hs : ∀ u, u < N → -2097152 ≤ s u ∧ s u ≤ 2097152)
    (hd' : ∀ u, u < N → -2097152 ≤ app N (linkE es) D (fireF S t s) u ∧ app N (linkE es) D (fireF S t s) u ≤ 2097152) (hs' : ∀ u, u < N → -2097152 ≤ fireF S t s u ∧ fireF S t s u ≤ 2097152) :
    Calls Tryz.prog 126 #[.pointer (some ⟨L.p, 0, none⟩), .slice (some ⟨gb, 0, none⟩) N N, .int .i64 t] w fun e w' => e = .returned (.tuple #[]) ∧ RMem B N q es L ⟨app N (linkE es) D (fireF S t s), fireF S t s⟩ w' ∧ Fk B L w w' := by
  have hok := hM.ok
  have hM1 : RMem B N q es L ⟨cutF N (app N (linkE es) D s), cutF N s⟩ w := hM.congr (fun v hv => (cutF_lt _ hv).symm) (fun v hv => (cutF_lt _ hv).symm)
  have e1 : ∀ v, v < N → fireD es S t (cutF N (app N (linkE es) D s)) N v = app N (linkE es) D (fireF S t s) v := fun v hv => fire_app hok (fun u hu => cutF_lt _ hu) hv
  have e2 : ∀ v, v < N → fireS S t (cutF N s) N v = fireF S t s v := fun v hv => by
    rw [fireS_all hv]
    unfold fireF
    rw [cutF_lt _ hv]
  refine (rfire_any hM1 hin ht (fun u => ?_) (fun u => ?_) (fun u hu => ?_) (fun u hu => ?_)).mono ?_
  · have := cutF_bound (b := 2097152) (by omega) hd u
    show _ ≤ cutF N _ u ∧ cutF N _ u ≤ _
    omega
  · have := cutF_bound (b := 2097152) (by omega) hs u
    show _ ≤ cutF N _ u ∧ cutF N _ u ≤ _
    omega
  · rw [e1 u hu]; exact hd' u hu
  · rw [e2 u hu]; exact hs' u hu
  · rintro e w' ⟨rfl, h1, h2⟩
    exact ⟨rfl, h1.congr e1 e2, h2⟩
theorem fire_zero (S : Nat → Bool) (s : Nat → Int) : fireF S 0 s = s := by
  funext v
  unfold fireF
  split <;> omega
/-- What is asked of the numbers. -/
structure LOk (N q : Nat) (es : List Edg) (D : Nat → Int) (c M : Int) : Prop where
  c0 : 0 ≤ c
  dB : ∀ v, v < N → -c ≤ D v ∧ D v ≤ c
  conn : Conn N (linkE es)
  big : ∀ far : Nat → Nat, Far N q (linkE es) far → c * P2 (downX N (linkE es) far 0) ≤ M
  M1 : 0 ≤ M ∧ 12 * M ≤ 2000000
theorem P2_one (x : Int) : 1 ≤ P2 x := by
  have h : (0 : Int) < 2 ^ x.toNat := Int.pow_pos (by omega)
  show 1 ≤ (2 : Int) ^ x.toNat
  omega
theorem LInv.bnd {N q : Nat} {es : List Edg} {D s : Nat → Int} {c M : Int} (hO : LOk N q es D c M) {far : Nat → Nat} (hF : Far N q (linkE es) far) (hG : Gr N (linkE es)) {K k : Nat} (hK : K ≤ 12) (h : LInv N q (linkE es) far D c K k s) :
    (∀ v, v < N → -M ≤ app N (linkE es) D s v ∧ app N (linkE es) D s v ≤ M) ∧ ∀ v, v < N → 0 ≤ s v ∧ s v ≤ 12 * M := by
  have hb := hO.big far hF
  have hc := hO.c0
  have hp : ∀ j, c * P2 (downX N (linkE es) far j) ≤ M := fun j => Int.le_trans (Int.mul_le_mul_of_nonneg_left (P2_mono (downX_nn (far := far) hG j) (downX_mono hG j)) hc) hb
  have hcM : c ≤ M := by
    have := Int.mul_le_mul_of_nonneg_left (P2_one (downX N (linkE es) far 0)) hc
    rw [Int.mul_one] at this
    omega
  refine ⟨fun v hv => ?_, fun v hv => ?_⟩
  · rcases Nat.lt_trichotomy (far v) k with h1 | h1 | h1
    · rw [h.lo v hv h1]
      have := hO.dB v hv
      omega
    · have := h.mid v hv h1
      have := hp k
      omega
    · have := h.hi v hv h1
      omega
  · have h1 := h.sb v hv
    refine ⟨h1.1, ?_⟩
    have h2 : ((K - k : Nat) : Int) * (c * P2 (downX N (linkE es) far 0)) ≤ 12 * M := by
      have h3 : ((K - k : Nat) : Int) * (c * P2 (downX N (linkE es) far 0)) ≤ ((K - k : Nat) : Int) * M := Int.mul_le_mul_of_nonneg_left hb (by omega)
      have h4 : ((K - k : Nat) : Int) * M ≤ 12 * M := Int.mul_le_mul_of_nonneg_right (by omega) hO.M1.1
      omega
    omega
def LendPost (B N q : Nat) (es : List Edg) (L : RLay) (D : Nat → Int) (c M : Int) (w : World) (e : Ending) (w' : World) : Prop :=
  e = .returned (.tuple #[]) ∧ ∃ (far : Nat → Nat) (K : Nat) (s : Nat → Int), Far N q (linkE es) far ∧ K ≤ N ∧ LInv N q (linkE es) far D c K 0 s ∧ RMem B N q es L ⟨app N (linkE es) D s, s⟩ w' ∧ Fk B L w w'

set_option maxRecDepth 100000 in
set_option maxHeartbeats 8000000 in
theorem lend_any {B N q : Nat} {es : List Edg} {L : RLay} {D : Nat → Int} {c M : Int} {w : World} (hM : RMem B N q es L ⟨D, fun _ => 0⟩ w) (hO : LOk N q es D c M) :
    Calls Tryz.prog 104 #[.pointer (some ⟨L.p, 0, none⟩)] w (LendPost B N q es L D c M w) := by
  have h12 := hM.num.1
  have hqN := hM.num.2.1
  have hok := hide hM.ok
  have hG : Hid (Gr N (linkE es)) := linkE_gr fun y hy => by have := (hok.out.at_ y hy).2; omega
  have HM := hide hM
  have HO := hide hO
  have hsz := hM.size
  have hlow := hM.low
  have hgdl := hM.rd.lt
  have hgsl := hM.rs.lt
  have HD := hide (dist_any hM)
  clear hM hO
  go_enter Tryz.func104, Tryz.ntmps104
  go_wp2_with fail
  refine HD.out.mono ?_
  rintro e w2 ⟨gf, co, rest, out, rfl, hDB, hRg, hrow, hco, hgf, hb2⟩
  have hall := hDB.all hqN HO.out.conn
  have hFar := hDB.far hqN (fun y hy => ((hok.out.at_ y hy).2).1) HO.out.conn
  obtain ⟨far, hfar⟩ : ∃ far : Nat → Nat, far = fun v => (out v).toNat := ⟨_, rfl⟩
  rw [← hfar] at hFar
  have hrow2 : Row1 (Value.int .i64) w2 gf 3 (lst N fun v => (far v : Int)) rest := by
    rw [← lst_congr (f := out) fun v hv => by have := hall v hv; rw [hfar]; show out v = ((out v).toNat : Int); omega]
    exact hrow
  have hf12 : ∀ v, v < N → far v ≤ N := fun v hv => by have h5 := hRg v hv; rw [hfar]; show (out v).toNat ≤ N; omega
  clear hDB hRg hall hrow hfar
  have HF := hide hFar
  have HR := hide hrow2
  have HF12 := hide hf12
  have HB2 := hide hb2
  have hgfl := hrow2.lt
  -- the greatest distance
  obtain ⟨x0, l, hl⟩ : ∃ x0 l, lst N (fun v => (far v : Int)) = x0 :: l := by
    cases h : lst N (fun v => (far v : Int)) with
    | nil => have := congrArg List.length h; rw [lst_len] at this; simp at this; omega
    | cons a b => exact ⟨a, b, rfl⟩
  have hlN : l.length + 1 = N := by have := congrArg List.length hl; rw [lst_len] at this; simpa using this.symm
  have hmx : Calls Tryz.prog 127 #[.slice (some ⟨gf, 0, none⟩) N co] w2 fun e w' => e = .returned (.int .i64 (maxF x0 l)) ∧ w2 = w' := by
    have h5 := maxI_any x0 l (some ⟨gf, 0, none⟩) co All w2 (by rw [← hl]; exact hrow2.ints (fun y hy => by obtain ⟨v, hv, rfl⟩ := List.mem_map.1 hy; have := hf12 v (List.mem_range.1 hv); unfold I64; omega) trivial) (by omega) (by omega)
    rw [List.length_cons, hlN] at h5
    exact h5
  have hmem : ∀ v, v < N → (far v : Int) ≤ maxF x0 l := fun v hv => by
    have h5 : (far v : Int) ∈ x0 :: l := by rw [← hl]; exact List.mem_map.2 ⟨v, List.mem_range.2 hv, rfl⟩
    rcases List.mem_cons.1 h5 with h5 | h5
    · rw [h5]; exact (maxF_ge x0 l).1
    · exact (maxF_ge x0 l).2 _ h5
  obtain ⟨K, hK, hK12⟩ : ∃ K : Nat, maxF x0 l = (K : Int) ∧ K ≤ N := by
    have h5 : maxF x0 l ∈ x0 :: l := by
      rcases maxF_mem x0 l with h6 | h6
      · rw [h6]; simp
      · simp [h6]
    rw [← hl] at h5
    obtain ⟨v, hv, h6⟩ := List.mem_map.1 h5
    exact ⟨far v, h6.symm, hf12 v (List.mem_range.1 hv)⟩
  have HKF : Hid (∀ v, v < N → far v ≤ K) := fun v hv => by have := hmem v hv; rw [hK] at this; omega
  rw [hK] at hmx
  have HMX := hide hmx
  clear hmx hmem hK hl hlN hrow2 hf12 hFar hb2
  go_wp2_with fail
  refine HMX.out.mono ?_
  rintro e w3 ⟨rfl, rfl⟩
  go_wp2_with fail
  have hM2 : RMem B N q es L ⟨app N (linkE es) D fun _ => 0, fun _ => 0⟩ w2 := (HM.out.below HB2.out).congr (fun v _ => (app_zero v).symm) (fun _ _ => rfl)
  have HM2 := hide hM2
  have hw2 := HB2.out.size
  clear hM2
  go_loopg [4] K (fun gk kv wr => ∃ (k : Nat) (s : Nat → Int), k ≤ gk ∧ k ≤ K ∧ kv = .int .i64 k ∧ Hid (LInv N q (linkE es) far D c K k s) ∧ Hid (RMem B N q es L ⟨app N (linkE es) D s, s⟩ wr) ∧ Hid (Fk B L w2 wr))
  case atStart => exact ⟨K, fun _ => 0, by omega, by omega, rfl, LInv.begin_ hG.out HO.out.c0 HO.out.dB HKF.out, HM2, Fk.refl _ _ _⟩
  case round =>
    obtain ⟨k, s, hkg, hkK, rfl, HI, HMr, HFr⟩ := hrel
    have hszr := HFr.out.1.size
    obtain ⟨d0, _, _, d3, _, d5⟩ := HMr.out.cells
    rcases Nat.eq_zero_or_pos k with h0 | hpos
    · subst h0
      go_wp2_with fail
      go_end0
      exact ⟨rfl, far, K, s, HF.out, by omega, HI.out, HMr.out, ⟨(HB2.out.mono hsz).trans HFr.out.1, fun j h5 h6 h7 => (HFr.out.2 j (by omega) h6 h7).trans (HB2.out.block j h5)⟩⟩
    · have q1 : decide ((0 : Int) < (k : Int)) = true := by simp; omega
      have hszB := HMr.out.size
      go_wp2_with (at_make; refine wpList_make_row _ rfl _ _ 139 rfl 4 false 1 Tryz.underlying139 rbInfo rfl .i64 .i64 _ _ N rfl rfl rfl rfl (by omega) (by unfold maxLen; omega) (fun w4 hrow4 hb4 hg4 => ?_))
      rw [map_false] at hrow4
      obtain ⟨W5, hW5⟩ : ∃ W5, w4.alloc (.cells #[.slice (some ⟨wr.heap.size, 0, none⟩) N N] 139) = W5 := ⟨_, rfl⟩
      have hlt4 := hrow4.lt
      have hB5 : BMem N w4.heap.size wr.heap.size (fun _ => false) W5 := by
        rw [← hW5]
        exact ⟨Box.new w4 [.slice (some ⟨wr.heap.size, 0, none⟩) N N] 139, hrow4.new _⟩
      have hb5 : Below wr.heap.size wr W5 := by rw [← hW5]; exact hb4.alloc hb4.size _
      have hRr : Row1 (Value.int .i64) wr gf 3 (lst N fun v => (far v : Int)) rest := HR.out.keep (HFr.out.2 gf hgfl (by omega) (by omega))
      have HRr := hide hRr
      obtain ⟨bb, hbb⟩ : ∃ bb, bb = w4.heap.size := ⟨_, rfl⟩
      rw [hW5]
      rw [← hbb] at hB5 ⊢
      have HB5 := hide hB5
      have Hb5 := hide hb5
      clear hW5 hrow4 hb4 hg4 hB5 hb5 hRr hbb d0 d3 d5
      obtain ⟨wo, rfl⟩ : ∃ wo : World, wo = wr := ⟨_, rfl⟩
      obtain ⟨gn, hgn⟩ : ∃ gn, gn = wo.heap.size := ⟨_, rfl⟩
      have HGN := hide hgn
      rw [← hgn] at HB5 Hb5 hszr hszB ⊢
      have hgnw : w2.heap.size ≤ gn := hszr
      clear hgn
      obtain ⟨gk0, hgk0⟩ : ∃ g0, g0 = gk := ⟨_, rfl⟩
      have HGK := hide hgk0
      have hkg0 : k ≤ gk0 := by omega
      clear hgk0
      go_wp2_with fail
      go_loopg [6, 36] N (fun gm _ iv wx => ∃ i : Nat, i ≤ N ∧ gm = N - i ∧ iv = .int .i64 i ∧ Hid (BMem N bb gn (fun v => if v < i then nearB far k v else false) wx) ∧ Hid (Below gn wo wx))
      case atStart =>
        refine ⟨0, by omega, by omega, rfl, ?_, Hb5⟩
        show BMem _ _ _ _ _
        rw [show (fun v : Nat => if v < 0 then nearB far k v else false) = fun _ => false from funext fun v => if_neg (Nat.not_lt_zero v)]
        exact HB5.out
      case round =>
        obtain ⟨i, hi, hgm, rfl, HBi, Hbi⟩ := hrel
        have HGM := hide hgm
        clear hgm
        have Hbw : Hid (Below wo.heap.size wo wr) := by show Below _ _ _; rw [← HGN.out]; exact Hbi.out
        by_cases hlt : i < N
        · have b0 := HBi.out.box.cell 0
          simp only [List.getElem?_cons_zero] at b0
          have g0 := HBi.out.at hlt
          simp only [Nat.lt_irrefl, if_false] at g0
          have fz := HBi.out.row.free i
          have r0 : wr.cell? ⟨gf, i, none⟩ = some (.int .i64 (far i)) := (HRr.out.below Hbw.out).cell (lst_get (fun v => (far v : Int)) hlt)
          have hi0 : (0 : Int) ≤ i := by omega
          have hi1 : (i : Int) < N := by omega
          have hico : (i : Int) < co := by omega
          have HP : Hid (BMem N bb gn (fun v => if v < i + 1 then nearB far k v else false) (wr.setCell ⟨gn, i, none⟩ (.bool (decide (far i < k)))).drew) := by
            have h5 := (HBi.out.below (Below.refl _ _).drew).put hlt (decide (far i < k))
            have e : updW (fun v => if v < i then nearB far k v else false) i (decide (far i < k)) = fun v => if v < i + 1 then nearB far k v else false := funext fun v => by
              unfold updW
              by_cases e : v = i
              · subst e
                rw [if_pos rfl, if_pos (by omega)]
                rfl
              · rw [if_neg e]
                show (if v < i then nearB far k v else false) = _
                by_cases h : v < i
                · rw [if_pos h, if_pos (by omega)]
                · rw [if_neg h, if_neg (by omega)]
            rw [e] at h5
            exact h5
          have HQ : Hid (Below gn wo (wr.setCell ⟨gn, i, none⟩ (.bool (decide (far i < k)))).drew) := (Hbi.out.setCell (Nat.le_refl _) _).drew
          go_wp2_with fail
          go_region
          all_goals
            go_wp2_with fail
            go_roundg (N - (i + 1))
            case rel => exact ⟨i + 1, by omega, rfl, by go_num, HP, HQ⟩
            case measure => rw [HGM.out]; omega
        · have hie : i = N := by omega
          have HBN : Hid (BMem N bb gn (nearB far k) wr) := by
            have h5 := HBi.out
            rw [hie] at h5
            refine ⟨h5.box, ?_⟩
            have h6 := h5.row
            rw [show ((List.range N).map fun v => if v < N then nearB far k v else false) = (List.range N).map (nearB far k) from List.map_congr_left fun v hv => if_pos (List.mem_range.1 hv)] at h6
            exact h6
          clear hie
          go_wp2_with fail
          have HMm := hide (HMr.out.below Hbw.out)
          have HRm := hide (HRr.out.below Hbw.out)
          clear HBi HRr
          obtain ⟨wm, rfl⟩ : ∃ wm : World, wm = wr := ⟨_, rfl⟩
          have hTL : Hid (∀ j, j ≤ N → 0 ≤ timesL N (linkE es) far (app N (linkE es) D s) k j ∧ timesL N (linkE es) far (app N (linkE es) D s) k j ≤ 2000000) := fun j hj => by
            have hMB := (HI.out.bnd HO.out HF.out hG.out (by omega)).1
            refine ⟨timesL_nn j, Int.le_trans (timesL_le (B := M) HO.out.M1.1 (fun v hv e => inD_pos hG.out HF.out hv e hpos) j hj fun v hv _ => (hMB v hv).1) ?_⟩
            have := HO.out.M1
            omega
          have hDBD : Hid (∀ v, v < N → -2000000 ≤ app N (linkE es) D s v ∧ app N (linkE es) D s v ≤ 2000000) := fun v hv => by
            have := (HI.out.bnd HO.out HF.out hG.out (by omega)).1 v hv
            have := HO.out.M1
            omega
          have hltN := hide hlt
          clear hlt
          go_loopg [7, 8, 9, 10, 51] N (fun gm tv _ _ _ iv wx => ∃ j : Nat, j ≤ N ∧ gm = N - j ∧ tv = .int .i64 (timesL N (linkE es) far (app N (linkE es) D s) k j) ∧ iv = .int .i64 j ∧ Hid (Below wm.heap.size wm wx))
          case atStart => exact ⟨0, by omega, by omega, rfl, rfl, Below.refl _ _⟩
          case round =>
            obtain ⟨j, hj, hgm, rfl, rfl, HBj⟩ := hrel
            have HGM2 := hide hgm
            clear hgm
            by_cases hlt : j < N
            · have HMj := hide (HMm.out.below HBj.out)
              obtain ⟨_, _, _, d3, _, _⟩ := HMj.out.cells
              have e0 : wr.cell? ⟨L.gd, j, none⟩ = some (.int .i64 (app N (linkE es) D s j)) := HMj.out.dAt hlt
              have r0 : wr.cell? ⟨gf, j, none⟩ = some (.int .i64 (far j)) := (HRm.out.below HBj.out).cell (lst_get (fun v => (far v : Int)) hlt)
              have hj0 : (0 : Int) ≤ j := by omega
              have hj1 : (j : Int) < N := by omega
              have hjco : (j : Int) < co := by omega
              obtain ⟨T, hT⟩ : ∃ T, T = timesL N (linkE es) far (app N (linkE es) D s) k j := ⟨_, rfl⟩
              have hTb := hTL.out j (by omega)
              have hTn := hTL.out (j + 1) (by omega)
              have hdb := hDBD.out j hlt
              have HTS : Hid (timesL N (linkE es) far (app N (linkE es) D s) k (j + 1) = if far j = k ∧ app N (linkE es) D s j < 0 then max T (needT (app N (linkE es) D s j) (inD N (linkE es) (nearB far k) j)) else T) := by show _ = _; rw [hT]; rfl
              rw [← hT] at hTb ⊢
              clear hT
              by_cases hfk : far j = k
              · by_cases hneg : app N (linkE es) D s j < 0
                · have hI1 := inD_pos hG.out HF.out hlt hfk hpos
                  have HJ : Hid (Calls Tryz.prog 128 #[.pointer (some ⟨L.p, 0, none⟩), .int .i64 j, .func (.func 129) #[] #[.pointer (some ⟨bb, 0, none⟩)]] wr fun e w' => e = .returned (.int .i64 (inD N (linkE es) (nearB far k) j)) ∧ Below wr.heap.size wr w') := by
                    have h5 := lend_joins HMj.out (HBN.out.below HBj.out) hlt
                    rw [jn_inD _ _ fun y hy => (hok.out.at_ y hy).1] at h5
                    exact h5
                  have hI2 : inD N (linkE es) (nearB far k) j ≤ 50000 := by
                    rw [← jn_inD (nearB far k) j fun y hy => (hok.out.at_ y hy).1]
                    have h1 := jnS_bound hok.out (v := j) (nearB far k) (lnkL es j) (fun p hp => by obtain ⟨u, _, _, _, h⟩ := lnk_in hok.out hp; exact h)
                    have h2 := lnk_len es (j : Int)
                    have h3 := hok.out.len
                    omega
                  rw [if_pos ⟨hfk, hneg⟩] at HTS
                  rw [HTS.out] at hTn
                  have hnd := needT_spec hI1 hneg
                  have q2 : decide (app N (linkE es) D s j < 0) = true := by simpa using hneg
                  have q1 : ((far j : Int) == (k : Int)) = true := by simp [hfk]
                  clear hfk
                  generalize inD N (linkE es) (nearB far k) j = E at *
                  generalize app N (linkE es) D s j = dj at *
                  have q0 : (E == 0) = false := by simp; omega
                  have HNE : needT dj E = (-dj + E - 1) / E := rfl
                  rw [HNE] at HTS hnd hTn
                  have hq3 : 1 ≤ (-dj + E - 1) / E ∧ (-dj + E - 1) / E ≤ 2000000 := by omega
                  clear hnd HNE hTn
                  go_wp2_with (go_at_call 128; refine HJ.out.mono ?_; rintro e w5 ⟨rfl, h5⟩; have d3 := (h5.cell (World.block_lt_of_cell? _ _ d3)).trans d3; have e0 := (h5.cell (World.block_lt_of_cell? _ _ e0)).trans e0; have HB5 := hide (below_then HBj.out h5); clear h5)
                  all_goals
                    go_roundg (N - (j + 1))
                    case rel => exact ⟨j + 1, by omega, rfl, by rw [HTS.out] <;> (first | (congr 1; done) | (congr 1; omega)), by go_num, HB5⟩
                    case measure => rw [HGM2.out]; omega
                · have q2 : decide (app N (linkE es) D s j < 0) = false := by simpa using hneg
                  have HT2 : Hid (timesL N (linkE es) far (app N (linkE es) D s) k (j + 1) = T) := by show _ = _; rw [HTS.out, if_neg (fun hh => hneg hh.2)]
                  have q1 : ((far j : Int) == (k : Int)) = true := by simp [hfk]
                  clear HTS hneg hTn hfk
                  generalize app N (linkE es) D s j = dj at *
                  go_wp2_with fail
                  go_roundg (N - (j + 1))
                  case rel => exact ⟨j + 1, by omega, rfl, by rw [HT2.out], by go_num, HBj⟩
                  case measure => rw [HGM2.out]; omega
              · have q1 : ((far j : Int) == (k : Int)) = false := by simp; omega
                have HT2 : Hid (timesL N (linkE es) far (app N (linkE es) D s) k (j + 1) = T) := by show _ = _; rw [HTS.out, if_neg (fun hh => hfk hh.1)]
                clear HTS hTn hfk
                go_wp2_with fail
                go_roundg (N - (j + 1))
                case rel => exact ⟨j + 1, by omega, rfl, by rw [HT2.out], by go_num, HBj⟩
                case measure => rw [HGM2.out]; omega
            · have hje : j = N := by omega
              have hTN : Hid (0 ≤ timesL N (linkE es) far (app N (linkE es) D s) k N ∧ timesL N (linkE es) far (app N (linkE es) D s) k N ≤ 2000000) := hTL.out N (Nat.le_refl _)
              have HT0 : Hid (timesL N (linkE es) far (app N (linkE es) D s) k j = timesL N (linkE es) far (app N (linkE es) D s) k N) := by show _ = _; rw [hje]
              rw [HT0.out]
              obtain ⟨k', rfl⟩ : ∃ k', k = k' + 1 := ⟨k - 1, by omega⟩
              have HI2 : Hid (LInv N q (linkE es) far D c K k' (stepL N (linkE es) far D (k' + 1) s)) := HI.out.step hG.out HF.out HO.out.c0 HO.out.dB (by omega)
              have HST : Hid (stepL N (linkE es) far D (k' + 1) s = fireF (nearB far (k' + 1)) (timesL N (linkE es) far (app N (linkE es) D s) (k' + 1) N) s) := rfl
              have HMj := hide (HMm.out.below HBj.out)
              have HBNj := hide (HBN.out.below HBj.out)
              have HFj : Hid (Fk B L w2 wr) := (HFr.out.below HMr.out.size Hbw.out).below HMm.out.size HBj.out
              have hTb := hTN.out
              obtain ⟨T, hT⟩ : ∃ T, T = timesL N (linkE es) far (app N (linkE es) D s) (k' + 1) N := ⟨_, rfl⟩
              rw [← hT] at hTb HST ⊢
              clear hT hje HT0 hTN
              have hk1 : ((k' + 1 : Nat) : Int) = (k' : Int) + 1 := by push_cast; rfl
              by_cases hT0 : T = 0
              · subst hT0
                have HI3 : Hid (LInv N q (linkE es) far D c K k' s) := by
                  have h5 := HI2.out
                  rw [HST.out, fire_zero] at h5
                  exact h5
                clear hk1
                go_wp2_with fail
                go_roundg k'
                case rel => exact ⟨k', s, Nat.le_refl _, by omega, by go_num, HI3, HMj, HFj⟩
                case measure => have := HGK.out; omega
              · have q1 : decide ((0 : Int) < T) = true := by simp; omega
                obtain ⟨hb1, hb2⟩ := HI.out.bnd HO.out HF.out hG.out (by omega)
                obtain ⟨hb3, hb4⟩ := HI2.out.bnd HO.out HF.out hG.out (by omega)
                rw [HST.out] at hb3 hb4
                have hMM := HO.out.M1
                have HFI := hide (fire_scr HMj.out HBNj.out.row (t := T) (by omega) (fun u hu => by have := hb1 u hu; omega) (fun u hu => by have := hb2 u hu; omega) (fun u hu => by have := hb3 u hu; omega) (fun u hu => by have := hb4 u hu; omega))
                have b0 := HBNj.out.box.cell 0
                simp only [List.getElem?_cons_zero] at b0
                clear hb1 hb2 hb3 hb4 hMM hk1
                go_wp2_with (go_at_call 126; refine HFI.out.mono ?_; rintro e w6 ⟨rfl, h6, h7⟩; have HM6 := hide h6; have HF6 := hide (HFj.out.trans h7); clear h6 h7)
                rw [← HST.out] at HM6
                go_roundg k'
                case rel => exact ⟨k', _, Nat.le_refl _, by omega, by go_num, HI2, HM6, HF6⟩
                case measure => have := HGK.out; omega
end Go.Proofs.YtpgopmmobbemcaaGreat

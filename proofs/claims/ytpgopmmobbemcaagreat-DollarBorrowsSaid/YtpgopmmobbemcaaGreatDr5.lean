/-
  Reduced divisors: what does not burn fires, as often as it can, until all burns.
  Reduced divisors: the end and the beginning of a reduction.
  Reduced divisors and winnable ones, on small graphs.
  The dollar game: Solve, as a function; the layers are small.
  The dollar game: Solve.
  DERIVED: THE SHELF's CONTRACTS AT THIS DUMP, IN PLAIN WORDS (tools/lay-plain.mjs out of 'TryzShelf.lean', which tools/lay-shelf.mjs wrote): THE SAME DECLARATIONS UNDER THE SAME NAMES: 'import', 'namespace', 'open', 'def', 'theorem' AND NOTHING ELSE: no command of the shelf's: FOR A HAND-IN. Each lay
  slices.Sort at a list of integers that the call made.
  slices.Sorted(slices.Values(l)) at integers.
  slices.Sorted(slices.Values(l)), slices.Clone and slices.Reverse at integers.
  slices.Sorted(slices.Values(s)) at scripts.
  The dollar game: Cheapest.
  slices.Equal of ints, ref17.Order, Same, ref18.SameScripts; the sizes that the statements take in (Few).
  The triangle of the examples: the graph. (Cut out of XTri.)
  The dollar game at the triangle: the values of the examples.
  awake: the examples of chapter 43 hold.
  append of one element that holds no data of its own in other rows. (Cut out of XNwRun.)
  The reference's tables: ref08.Table, ref19.Valences.
  The reference's table of joinings: ref19.Rows.
  Borrowing by the reference's table is borrowing along the edges.
  A region that draws its order, whose last operation (a store) waits for all others: the others first, by a condition on the world that the last need not keep. No program is named here.
  ref18.Moved.
  The dollar game's reference: totals, debts paid, the first debtor.
  Borrowing decides who wins, in plain Lean: the greedy game, and the reference's Wins.
  The reference's Wins: borrowing, one vertex in debt after the other.
  The reference's greedy game.
-/
import Derived.Test.YtpgopmmobbemcaaGreatDr4
import Derived.BigQuiet
import Derived.Shelf.Sort.Plain
import Derived.Ground.NamesProg
import Derived.Shelf.Slices.SearchI
import Derived.Shelf.Slices.In.SortNone
import Derived.Test.YtpgopmmobbemcaaGreatProg
import Derived.Sort.OwnSortedInts
import Derived.RangeFuncBox
import Derived.RangeFuncLeaves
import Derived.Shelf.Abstract
import Derived.OwnWalkIn
import Derived.TacticsInMore
import Derived.LoopNIn
import Derived.LoopIn
import Derived.Maps.AppendAt
import Derived.Deep.LoopGhost
import Derived.Laws.Rows
import Derived.Deep.RegionHeld3

set_option linter.unusedVariables false
set_option linter.unusedSimpArgs false
set_option linter.unnecessarySimpa false
namespace Go.Proofs.YtpgopmmobbemcaaGreat
open Go.RowKit

section
variable {n q : Nat} {R : Nat → Nat → Int} {D t : Nat → Int}
theorem off_nn (h : ∀ v, v < n → v ≠ q → 0 ≤ D v) : 0 ≤ sumI (fun v => if v = q then 0 else D v) n := sumI_nn fun v hv => by
  split
  · exact Int.le_refl _
  · rename_i e; exact h v hv e
theorem SInv.each (hG : Gr n R) (hq : q < n) (h : SInv n q R D t) {v : Nat} (hv : v < n) (hne : v ≠ q) : 0 ≤ app n R D t v ∧ app n R D t v ≤ sumI (fun v => if v = q then 0 else D v) n := by
  refine ⟨h.pay v hv hne, Int.le_trans ?_ (h.off hG hq)⟩
  have h1 := sumI_mem (f := fun v => if v = q then 0 else app n R D t v) (n := n) (k := v) (fun u hu => by
    split
    · exact Int.le_refl _
    · rename_i e; exact h.pay u hu e) hv
  rw [if_neg hne] at h1
  exact h1
theorem SInv.atq (hG : Gr n R) (hq : q < n) (h : SInv n q R D t) : D q ≤ app n R D t q ∧ app n R D t q ≤ D q + sumI (fun v => if v = q then 0 else D v) n := by
  have h1 := app_total (D := D) hG t
  have h2 := sumI_one (f := fun v => D v - app n R D t v) (g := fun v => (if v = q then 0 else D v) + -(if v = q then 0 else app n R D t v)) hq fun p hp hne => by
    simp only [if_neg hne]
    omega
  simp only [if_true] at h2
  rw [sumI_add, sumI_neg] at h2
  have h3 := h.off hG hq
  have h4 := off_nn (D := app n R D t) fun v hv hne => h.pay v hv hne
  omega
theorem most_le {S : Nat → Bool} {d : Nat → Int} {b : Int} (hb : 0 ≤ b) (hd : ∀ v, v < n → S v = true → d v ≤ b) (h0 : ∀ v, v < n → S v = true → outD n R S v ≤ d v) : ∀ i, i ≤ n → mostT n R S d i ≤ b
  | 0, _ => hb
  | i + 1, hi => by
    have ih := most_le hb hd h0 i (by omega)
    unfold mostT
    split
    · rename_i e
      have h1 : d i / outD n R S i ≤ b := by
        have h2 := hd i (by omega) e.1
        have h3 := h0 i (by omega) e.1
        exact Int.le_trans (Int.ediv_le_self _ (by omega)) h2
      split <;> omega
    · exact ih
end
/-- What is asked of the numbers. -/
structure SOk (N q : Nat) (es : List Edg) (D sL : Nat → Int) (M : Int) : Prop where
  n6 : N ≤ 6
  M1 : 0 ≤ M ∧ M ≤ 30720
  eB : ∀ v, v < N → v ≠ q → 0 ≤ app N (linkE es) D sL v ∧ app N (linkE es) D sL v ≤ M
  eQ : -M ≤ app N (linkE es) D sL q ∧ app N (linkE es) D sL q ≤ M
  sB : ∀ v, v < N → 0 ≤ sL v ∧ sL v ≤ 6 * M
  conn : Conn N (linkE es)
theorem sum_le_const {n : Nat} {f : Nat → Int} {b : Int} (h : ∀ v, v < n → f v ≤ b) : ∀ k, k ≤ n → sumI f k ≤ k * b
  | 0, _ => by simp [sumI]
  | k + 1, hk => by
    have ih := sum_le_const h k (by omega)
    have := h k (by omega)
    have e : ((k + 1 : Nat) : Int) * b = k * b + b := by push_cast; rw [Int.add_mul, Int.one_mul]
    simp only [sumI]
    omega
section
variable {N q : Nat} {es : List Edg} {D sL t : Nat → Int} {M : Int}
theorem SOk.off (hO : SOk N q es D sL M) (hq : q < N) : sumI (fun v => if v = q then 0 else app N (linkE es) D sL v) N ≤ 6 * M := by
  have h1 := sum_le_const (n := N) (f := fun v => if v = q then 0 else app N (linkE es) D sL v) (b := M) (fun v hv => by
    show (if v = q then 0 else _) ≤ M
    split
    · exact hO.M1.1
    · rename_i e; exact (hO.eB v hv e).2) N (Nat.le_refl _)
  have h2 : (N : Int) * M ≤ 6 * M := Int.mul_le_mul_of_nonneg_right (by have := hO.n6; omega) hO.M1.1
  omega
theorem SOk.offT (hO : SOk N q es D sL M) (hq : q < N) : sumI (fun v => if v = q then 0 else app N (linkE es) D sL v) N ≤ 153600 := by
  have h1 := sumI_one (f := fun v => if v = q then 0 else app N (linkE es) D sL v) (g := fun v => if v = q then 0 else app N (linkE es) D sL v) hq (fun _ _ _ => rfl)
  have h2 := sum_le_const (n := N) (f := fun v => (if v = q then 0 else app N (linkE es) D sL v) + (if v = q then M else 0)) (b := M) (fun v hv => by
    show (if v = q then 0 else _) + (if v = q then M else 0) ≤ M
    split
    · omega
    · rename_i e
      have := (hO.eB v hv e).2
      omega) N (Nat.le_refl _)
  rw [sumI_add] at h2
  have h3 := sumI_one (f := fun v => if v = q then M else 0) (g := fun _ => 0) hq (fun p hp hne => if_neg hne)
  rw [sumI_zero, if_pos rfl] at h3
  have h4 : (N : Int) * M ≤ 6 * M := Int.mul_le_mul_of_nonneg_right (by have := hO.n6; omega) hO.M1.1
  have := hO.M1
  omega
theorem SOk.bnd (hO : SOk N q es D sL M) (hG : Gr N (linkE es)) (hq : q < N) (h : SInv N q (linkE es) (app N (linkE es) D sL) t) :
    (∀ v, v < N → -200000 ≤ app N (linkE es) D (fun w => sL w + t w) v ∧ app N (linkE es) D (fun w => sL w + t w) v ≤ 200000) ∧ (∀ v, v < N → 0 ≤ t v ∧ t v ≤ 768000) ∧ ∀ v, v < N → 0 ≤ sL v + t v ∧ sL v + t v ≤ 960000 := by
  have hM := hO.M1
  have hC := hO.offT hq
  have ht : ∀ v, v < N → 0 ≤ t v ∧ t v ≤ 768000 := fun v hv => by
    have h1 := h.range hG hO.conn hq (C := 153600) (fun v hv e => (hO.eB v hv e).1) hC hv
    have h2 : ((N - 1 : Nat) : Int) * 153600 ≤ 5 * 153600 := Int.mul_le_mul_of_nonneg_right (by have := hO.n6; omega) (by omega)
    have := h.nn v hv
    omega
  refine ⟨fun v hv => ?_, ht, fun v hv => ?_⟩
  · rw [← app_app]
    by_cases e : v = q
    · subst e
      have h1 := h.atq hG hq
      have h2 := hO.eQ
      omega
    · have h1 := h.each hG hq hv e
      omega
  · have h1 := ht v hv
    have h2 := hO.sB v hv
    omega
end
def SetPost (B N q : Nat) (es : List Edg) (L : RLay) (D sL : Nat → Int) (w : World) (e : Ending) (w' : World) : Prop :=
  e = .returned (.tuple #[]) ∧ ∃ t : Nat → Int, SInv N q (linkE es) (app N (linkE es) D sL) t ∧ Redu N q (linkE es) (app N (linkE es) (app N (linkE es) D sL) t) ∧ RMem B N q es L ⟨app N (linkE es) D (fun w => sL w + t w), fun w => sL w + t w⟩ w' ∧ Fk B L w w'
set_option maxRecDepth 100000 in
set_option maxHeartbeats 8000000 in
theorem settle_any {B N q : Nat} {es : List Edg} {L : RLay} {D sL : Nat → Int} {M : Int} {w : World} (hM : RMem B N q es L ⟨app N (linkE es) D sL, sL⟩ w) (hO : SOk N q es D sL M) :
    Calls Tryz.prog 105 #[.pointer (some ⟨L.p, 0, none⟩)] w (SetPost B N q es L D sL w) := by
  have h12 := hM.num.1
  have hqN := hM.num.2.1
  have hok := hide hM.ok
  have hG : Hid (Gr N (linkE es)) := linkE_gr fun y hy => by have := (hok.out.at_ y hy).2; omega
  have HO := hide hO
  have hsz := hM.size
  have HM : Hid (RMem B N q es L ⟨app N (linkE es) D (fun w => sL w + 0), fun w => sL w + 0⟩ w) := by
    have e : (fun w => sL w + 0) = sL := funext fun w => by omega
    rw [e]
    exact hM
  have hI0 : Hid (SInv N q (linkE es) (app N (linkE es) D sL) (fun _ => 0)) := SInv.begin_ fun v hv hne => (hO.eB v hv hne).1
  have HBD : Hid (∀ t, SInv N q (linkE es) (app N (linkE es) D sL) t → 0 ≤ sumI t N ∧ sumI t N ≤ 4608000) := fun t ht => by
    obtain ⟨_, h2, _⟩ := HO.out.bnd hG.out hqN ht
    refine ⟨sumI_nn fun v hv => (h2 v hv).1, ?_⟩
    have h3 := sum_le_const (n := N) (f := t) (b := 768000) (fun v hv => (h2 v hv).2) N (Nat.le_refl _)
    have := HO.out.n6
    omega
  clear hM hO
  go_enter Tryz.func105, Tryz.ntmps105
  go_wp2_with fail
  go_loopg [2, 3, 4, 5, 6, 7, 8, 23] 4608001 (fun gk _ _ _ _ _ _ _ _ wr => ∃ t : Nat → Int, (4608000 - sumI t N).toNat < gk ∧ Hid (SInv N q (linkE es) (app N (linkE es) D sL) t) ∧ Hid (RMem B N q es L ⟨app N (linkE es) D (fun w => sL w + t w), fun w => sL w + t w⟩ wr) ∧ Hid (Fk B L w wr))
  case atStart => exact ⟨fun _ => 0, by rw [sumI_zero]; omega, hI0, HM, Fk.refl _ _ _⟩
  case round =>
    obtain ⟨t, hgk, HI, HMr, HFr⟩ := hrel
    obtain ⟨_, _, _, d3, _, d5⟩ := HMr.out.cells
    have hszB := HMr.out.size
    have HU := hide (unburnt_any HMr.out)
    obtain ⟨g0, hg0⟩ : ∃ g0, g0 = gk := ⟨_, rfl⟩
    have hgk0 : (4608000 - sumI t N).toNat < g0 := by rw [hg0]; exact hgk
    have HGK := hide hg0
    have HGK2 := hide hgk0
    clear hg0 hgk hgk0 d3
    go_wp2_with fail
    refine HU.out.mono ?_
    rintro e w2 ⟨gl, S, b, rfl, hUn, hb, hrow, hgl, hb2⟩
    have HUn := hide hUn
    have HBv := hide hb
    have HB2 := hide hb2
    have HRW := hide hrow
    clear hUn hb hb2 hrow
    rcases b with _ | _
    · go_wp2_with fail
      go_end0
      have hno : ∀ v, v < N → S v = false := fun v hv => by
        rcases h : S v with _ | _
        · rfl
        · exact absurd (HBv.out.2 ⟨v, hv, h⟩) (by simp)
      have hbb : Below wr.heap.size wr (w2.alloc (.cells #[.slice (some ⟨gl, 0, none⟩) N N] 139)) := HB2.out.alloc HB2.out.size _
      refine ⟨rfl, t, HI.out, ?_, HMr.out.below hbb, HFr.out.below hszB hbb⟩
      have h5 := HUn.out.redu hno
      rw [show app N (linkE es) (app N (linkE es) D sL) t = app N (linkE es) D (fun w => sL w + t w) from funext fun v => app_app t v]
      exact h5
    · have HNE : Hid (∃ v, v < N ∧ S v = true) := HBv.out.1 rfl
      go_wp2_with fail
      obtain ⟨W3, hW3⟩ : ∃ W3, w2.alloc (.cells #[.slice (some ⟨gl, 0, none⟩) N N] 139) = W3 := ⟨_, rfl⟩
      have hB3 : BMem N w2.heap.size gl S W3 := by
        rw [← hW3]
        exact ⟨Box.new w2 [.slice (some ⟨gl, 0, none⟩) N N] 139, HRW.out.new _⟩
      have hb3 : Below wr.heap.size wr W3 := by rw [← hW3]; exact HB2.out.alloc HB2.out.size _
      rw [hW3]
      obtain ⟨bb, hbb⟩ : ∃ bb, bb = w2.heap.size := ⟨_, rfl⟩
      rw [← hbb] at hB3 ⊢
      have HB3 := hide hB3
      have HM3 := hide (HMr.out.below hb3)
      have HF3 := hide (HFr.out.below hszB hb3)
      clear hW3 hB3 hb3 hbb d5
      obtain ⟨d, hd⟩ : ∃ d, d = app N (linkE es) D (fun w => sL w + t w) := ⟨_, rfl⟩
      have HDE := hide hd
      have hbnd := (HO.out.bnd hG.out hqN HI.out).1
      rw [← hd] at hbnd
      have HDB := hide hbnd
      have hUn2 := HUn.out
      simp only [← hd] at hUn2
      have HU2 := hide hUn2
      have HM4 : Hid (RMem B N q es L ⟨d, fun w => sL w + t w⟩ W3) := by rw [hd]; exact HM3.out
      clear hd hbnd hUn2 HUn
      have HTM : Hid (∀ j, j ≤ N → 0 ≤ mostT N (linkE es) S d j ∧ mostT N (linkE es) S d j ≤ 200000) := fun j hj =>
        ⟨(mostT_spec HU2.out.ok j hj).1, most_le (by omega) (fun v hv _ => (HDB.out v hv).2) HU2.out.ok j hj⟩
      go_loopg [4, 5, 6, 7, 8, 23] N (fun gm tv _ _ _ _ iv wx => ∃ i : Nat, i ≤ N ∧ gm = N - i ∧ tv = .int .i64 (mostT N (linkE es) S d i) ∧ iv = .int .i64 i ∧ Hid (Below W3.heap.size W3 wx))
      case atStart => exact ⟨0, by omega, by omega, rfl, rfl, Below.refl _ _⟩
      case round =>
        obtain ⟨i, hi, hgm, rfl, rfl, HBi⟩ := hrel
        have HGM := hide hgm
        clear hgm
        by_cases hlt : i < N
        · have HMi := hide (HM4.out.below HBi.out)
          have HBi2 := hide (HB3.out.below HBi.out)
          have b0 := HBi2.out.box.cell 0
          simp only [List.getElem?_cons_zero] at b0
          have g0 := HBi2.out.at hlt
          obtain ⟨_, _, _, d3, _, _⟩ := HMi.out.cells
          have e0 : wr.cell? ⟨L.gd, i, none⟩ = some (.int .i64 (d i)) := HMi.out.dAt hlt
          have hi0 : (0 : Int) ≤ i := by omega
          have hi1 : (i : Int) < N := by omega
          obtain ⟨T, hT⟩ : ∃ T, T = mostT N (linkE es) S d i := ⟨_, rfl⟩
          have hTb := HTM.out i (by omega)
          have hTn := HTM.out (i + 1) (by omega)
          have hdb := HDB.out i hlt
          have HTS : Hid (mostT N (linkE es) S d (i + 1) = if S i = true ∧ 0 < outD N (linkE es) S i then (if T = 0 ∨ d i / outD N (linkE es) S i < T then d i / outD N (linkE es) S i else T) else T) := by show _ = _; rw [hT]; rfl
          rw [← hT] at hTb ⊢
          clear hT
          rcases hS : S i with _ | _
          · rw [hS] at g0
            have HT2 : Hid (mostT N (linkE es) S d (i + 1) = T) := by show _ = _; rw [HTS.out, if_neg (fun hh => by rw [hS] at hh; cases hh.1)]
            clear HTS hS hTn e0 d3
            go_wp2_with fail
            go_roundg (N - (i + 1))
            case rel => exact ⟨i + 1, by omega, rfl, by rw [HT2.out], by go_num, HBi⟩
            case measure => rw [HGM.out]; omega
          · rw [hS] at g0
            have hle := HU2.out.ok i hlt hS
            have ho0 := outD_nn hG.out S hlt
            have HJ : Hid (Calls Tryz.prog 128 #[.pointer (some ⟨L.p, 0, none⟩), .int .i64 i, .func (.func 131) #[] #[.pointer (some ⟨bb, 0, none⟩)]] wr fun e w' => e = .returned (.int .i64 (outD N (linkE es) S i)) ∧ Below wr.heap.size wr w') := by
              have h5 := setl_joins HMi.out HBi2.out hlt
              rw [jn_inD _ _ fun y hy => (hok.out.at_ y hy).1, ← out_not] at h5
              have e : (fun u => !(fun u => !S u) u) = S := funext fun u => by simp
              rw [e] at h5
              exact h5
            generalize hO5 : outD N (linkE es) S i = E at *
            generalize hD5 : d i = di at *
            have hcond : S i = true ∧ 0 < E ↔ 0 < E := ⟨fun h => h.2, fun h => ⟨hS, h⟩⟩
            simp only [hcond] at HTS
            clear hO5 hD5 hS hcond
            by_cases hE : 0 < E
            · have q1 : decide ((0 : Int) < E) = true := by simpa using hE
              have q0 : (E == 0) = false := by simp; omega
              have HTS2 : Hid (mostT N (linkE es) S d (i + 1) = if T = 0 ∨ di / E < T then di / E else T) := by show _ = _; rw [HTS.out, if_pos hE]
              have hq3 : 0 ≤ di / E ∧ di / E ≤ di := ⟨Int.ediv_nonneg (by omega) (by omega), Int.ediv_le_self _ (by omega)⟩
              have hdi0 : 0 ≤ di := by omega
              clear HTS hTn
              by_cases hT0 : T = 0
              · have q2 : (T == 0) = true := by simpa using hT0
                have HT3 : Hid (mostT N (linkE es) S d (i + 1) = di / E) := by show _ = _; rw [HTS2.out, if_pos (.inl hT0)]
                clear HTS2 hT0
                go_wp2_with (go_at_call 128; refine HJ.out.mono ?_; rintro e w5 ⟨rfl, h5⟩; have d3 := (h5.cell (World.block_lt_of_cell? _ _ d3)).trans d3; have e0 := (h5.cell (World.block_lt_of_cell? _ _ e0)).trans e0; have HB5 := hide (below_then HBi.out h5); clear h5)
                go_roundg (N - (i + 1))
                case rel => exact ⟨i + 1, by omega, rfl, by rw [HT3.out], by go_num, HB5⟩
                case measure => rw [HGM.out]; omega
              · have q2 : (T == 0) = false := by simpa using hT0
                by_cases hlt2 : di / E < T
                · have q3 : decide (di / E < T) = true := by simpa using hlt2
                  have HT3 : Hid (mostT N (linkE es) S d (i + 1) = di / E) := by show _ = _; rw [HTS2.out, if_pos (.inr hlt2)]
                  clear HTS2 hT0
                  go_wp2_with (go_at_call 128; refine HJ.out.mono ?_; rintro e w5 ⟨rfl, h5⟩; have d3 := (h5.cell (World.block_lt_of_cell? _ _ d3)).trans d3; have e0 := (h5.cell (World.block_lt_of_cell? _ _ e0)).trans e0; have HB5 := hide (below_then HBi.out h5); clear h5)
                  go_roundg (N - (i + 1))
                  case rel => exact ⟨i + 1, by omega, rfl, by rw [HT3.out], by go_num, HB5⟩
                  case measure => rw [HGM.out]; omega
                · have q3 : decide (di / E < T) = false := by simpa using hlt2
                  have HT3 : Hid (mostT N (linkE es) S d (i + 1) = T) := by show _ = _; rw [HTS2.out, if_neg (fun hh => by rcases hh with h | h; exact hT0 h; exact hlt2 h)]
                  clear HTS2 hT0
                  go_wp2_with (go_at_call 128; refine HJ.out.mono ?_; rintro e w5 ⟨rfl, h5⟩; have d3 := (h5.cell (World.block_lt_of_cell? _ _ d3)).trans d3; have e0 := (h5.cell (World.block_lt_of_cell? _ _ e0)).trans e0; have HB5 := hide (below_then HBi.out h5); clear h5)
                  go_roundg (N - (i + 1))
                  case rel => exact ⟨i + 1, by omega, rfl, by rw [HT3.out], by go_num, HB5⟩
                  case measure => rw [HGM.out]; omega
            · have q1 : decide ((0 : Int) < E) = false := by simpa using hE
              have HT2 : Hid (mostT N (linkE es) S d (i + 1) = T) := by show _ = _; rw [HTS.out, if_neg hE]
              clear HTS hTn
              go_wp2_with (go_at_call 128; refine HJ.out.mono ?_; rintro e w5 ⟨rfl, h5⟩; have HB5 := hide (below_then HBi.out h5); clear h5)
              go_roundg (N - (i + 1))
              case rel => exact ⟨i + 1, by omega, rfl, by rw [HT2.out], by go_num, HB5⟩
              case measure => rw [HGM.out]; omega
        · have hie : i = N := by omega
          subst hie
          obtain ⟨T, hT⟩ : ∃ T, T = mostT i (linkE es) S d i := ⟨_, rfl⟩
          have hTb := HTM.out i (Nat.le_refl _)
          have HMi := hide (HM4.out.below HBi.out)
          have HBi2 := hide (HB3.out.below HBi.out)
          have b0 := HBi2.out.box.cell 0
          simp only [List.getElem?_cons_zero] at b0
          have hdE : d = app i (linkE es) (app i (linkE es) D sL) t := by rw [HDE.out]; exact funext fun v => (app_app t v).symm
          have hUE := HU2.out
          rw [hdE] at hUE
          have HI2 := hide (HI.out.step hG.out hqN hUE)
          rw [← hdE, ← hT] at HI2
          have hT1 : 1 ≤ T := by
            rw [hT]
            exact most_pos HO.out.conn hqN HU2.out.q0 HU2.out.ok hG.out HNE.out
          have HSUM := hide (fire_sum (t := t) (n := i) hT1 HNE.out)
          have HFS : Hid (fireF S T (fun w => sL w + t w) = fun w => sL w + fireF S T t w) := funext fun v => by
            show sL v + t v + (if S v = true then T else 0) = sL v + (t v + if S v = true then T else 0)
            omega
          rw [← hT] at hTb ⊢
          obtain ⟨k1, k2, k3⟩ := HO.out.bnd hG.out hqN HI.out
          obtain ⟨k4, k5, k6⟩ := HO.out.bnd hG.out hqN HI2.out
          have hMi2 : RMem B i q es L ⟨app i (linkE es) D (fun w => sL w + t w), fun w => sL w + t w⟩ wr := by have := HMi.out; rw [HDE.out] at this; exact this
          have HFI := hide (fire_scr hMi2 HBi2.out.row (t := T) (by omega) (fun u hu => by have := k1 u hu; omega) (fun u hu => by have := k3 u hu; omega) (fun u hu => by rw [HFS.out]; have := k4 u hu; omega) (fun u hu => by rw [HFS.out]; have h9 := k6 u hu; exact ⟨Int.le_trans (by omega) h9.1, Int.le_trans h9.2 (by omega)⟩))
          rw [HFS.out] at HFI
          have HFB := hide (HF3.out.below HM4.out.size HBi.out)
          have hs5 := HBD.out _ HI2.out
          clear k1 k2 k3 k4 k5 k6 hMi2 hdE hUE hT
          go_wp2_with (go_at_call 126; refine HFI.out.mono ?_; rintro e w6 ⟨rfl, h6, h7⟩; have HM6 := hide h6; have HF6 := hide (HFB.out.trans h7); clear h6 h7)
          go_roundg ((4608000 - sumI (fireF S T t) i).toNat + 1)
          case rel => exact ⟨_, Nat.lt_succ_self _, HI2, HM6, HF6⟩
          case measure =>
            have h5 := HGK2.out
            have h6 := HSUM.out
            have h7 := HGK.out
            have h8 := HBD.out _ HI.out
            omega
end Go.Proofs.YtpgopmmobbemcaaGreat

set_option linter.unusedVariables false
set_option linter.unusedSimpArgs false
set_option linter.unnecessarySimpa false
namespace Go.Proofs.YtpgopmmobbemcaaGreat
open Go.RowKit

def ResPost (B N q : Nat) (es : List Edg) (L : RLay) (x : RSt) (w : World) (e : Ending) (w' : World) : Prop :=
  e = .returned (.tuple #[.slice (some ⟨L.gd, 0, none⟩) N L.cd, .slice (some ⟨L.gs, 0, none⟩) N N, .int .i64 0]) ∧ RMem B N q es L ⟨x.d, fun v => x.s v - x.s q⟩ w' ∧ Fk B L w w'
theorem dErr_lst {N : Nat} {f : Nat → Int} (h12 : 1 ≤ N ∧ N ≤ 12) (h : ∀ v, v < N → -1048576 ≤ f v ∧ f v ≤ 1048576) : dErr N (lst N f) = 0 := by
  unfold dErr
  rw [if_pos (by omega), if_pos (by rw [lst_len])]
  have key : ∀ l : List Int, (∀ x ∈ l, -1048576 ≤ x ∧ x ≤ 1048576) → dScan l = 0 := by
    intro l
    induction l with
    | nil => intro _; rfl
    | cons y r ih =>
      intro hl
      have h1 := hl y (by simp)
      have h2 := ih fun x hx => hl x (by simp [hx])
      unfold dScan
      rw [if_pos (by unfold inChips; simp; omega)]
      exact h2
  refine key _ fun x hx => ?_
  obtain ⟨v, hv, rfl⟩ := List.mem_map.1 hx
  exact h v (List.mem_range.1 hv)
set_option maxRecDepth 100000 in
set_option maxHeartbeats 8000000 in
theorem result_any {B N q : Nat} {es : List Edg} {L : RLay} {x : RSt} {w : World} (hM : RMem B N q es L x w) (hd : Hid (∀ v, v < N → -1048576 ≤ x.d v ∧ x.d v ≤ 1048576)) (hs : Hid (∀ v, v < N → -1048576 ≤ x.s v - x.s q ∧ x.s v - x.s q ≤ 1048576)) (hs2 : Hid (∀ v, v < N → -2000000 ≤ x.s v ∧ x.s v ≤ 2000000)) :
    Calls Tryz.prog 106 #[.pointer (some ⟨L.p, 0, none⟩)] w (ResPost B N q es L x w) := by
  have h12 := hM.num.1
  have hqN := hM.num.2.1
  have hcd := hM.num.2.2
  have hsz := hM.size
  have hlow := hM.low
  obtain ⟨_, _, d2, d3, d4, d5⟩ := hM.cells
  have s0 := hM.sAt hqN
  have hq0 : (0 : Int) ≤ q := by omega
  have hq1 : (q : Int) < N := by omega
  have HM := hide hM
  have hsq := hs2.out q hqN
  obtain ⟨own, hown⟩ : ∃ own, own = x.s q := ⟨_, rfl⟩
  rw [← hown] at s0 hsq
  have HOW := hide hown
  clear hM hown
  go_enter Tryz.func106, Tryz.ntmps106
  go_wp2_with fail
  go_quiet (fail)
  go_wp2_with fail
  clear d2 d3 d4 d5 s0
  go_loopg [6, 31] N (fun gm _ iv wx => ∃ i : Nat, i ≤ N ∧ gm = N - i ∧ iv = .int .i64 i ∧ Hid (RMem B N q es L ⟨x.d, fun v => if v < i then x.s v - own else x.s v⟩ wx) ∧ Hid (Fk B L w wx))
  case atStart => exact ⟨0, by omega, by omega, rfl, HM.out.drewN _, (Fk.refl B L w).below hsz (below_drewN (Below.refl _ _) _)⟩
  case round =>
    obtain ⟨i, hi, hgm, rfl, HMi, HFi⟩ := hrel
    have HGM := hide hgm
    clear hgm
    by_cases hlt : i < N
    · obtain ⟨_, _, d2, d3, d4, d5⟩ := HMi.out.cells
      have s1 : wr.cell? ⟨L.gs, i, none⟩ = some (.int .i64 (x.s i)) := by
        have h5 := HMi.out.sAt hlt
        simp only [Nat.lt_irrefl, if_false] at h5
        exact h5
      have fz := HMi.out.rs.free i
      have hi0 : (0 : Int) ≤ i := by omega
      have hi1 : (i : Int) < N := by omega
      have hsi := hs2.out i hlt
      have HM2 : Hid (RMem B N q es L ⟨x.d, fun v => if v < i + 1 then x.s v - own else x.s v⟩ (wr.setCell ⟨L.gs, i, none⟩ (.int .i64 (x.s i - own)))) := by
        refine (HMi.out.putS hlt (x.s i - own)).congr (fun _ _ => rfl) fun v hv => ?_
        show putF (fun v => if v < i then x.s v - own else x.s v) i (x.s i - own) v = if v < i + 1 then x.s v - own else x.s v
        by_cases e : v = i
        · subst e; rw [putF_at, if_pos (by omega)]
        · rw [putF_ne _ _ e]
          by_cases h : v < i
          · rw [if_pos h, if_pos (by omega)]
          · rw [if_neg h, if_neg (by omega)]
      have HF2 : Hid (Fk B L w (wr.setCell ⟨L.gs, i, none⟩ (.int .i64 (x.s i - own)))) := HFi.out.put (.inr rfl) hlow.2.2 i _
      generalize x.s i = si at *
      go_wp2_with fail
      go_roundg (N - (i + 1))
      case rel => exact ⟨i + 1, by omega, rfl, by go_num, HM2, HF2⟩
      case measure => rw [HGM.out]; omega
    · have hie : i = N := by omega
      have HMN : Hid (RMem B N q es L ⟨x.d, fun v => x.s v - x.s q⟩ wr) := by
        rw [hie] at HMi
        refine HMi.out.congr (fun _ _ => rfl) fun v hv => ?_
        show (if v < N then x.s v - own else x.s v) = x.s v - x.s q
        rw [if_pos hv, HOW.out]
      obtain ⟨d0, _, _, d3, d4, d5⟩ := HMN.out.cells
      have HC1 : Hid (∀ W, Below wr.heap.size wr W → Calls Tryz.prog 89 #[.slice (some ⟨L.gd, 0, none⟩) N L.cd, .int .i64 N] W fun e w' => e = .returned (.int .i64 0) ∧ Below W.heap.size W w') := fun W hW => by
        have h5 := dcheck_any N (lst N x.d) (some ⟨L.gd, 0, none⟩) L.cd All W ((HMN.out.below hW).rd.ints (fun y hy => by obtain ⟨v, hv, rfl⟩ := List.mem_map.1 hy; have := hd.out v (List.mem_range.1 hv); change I64 (x.d v); unfold I64; omega) trivial) (by rw [lst_len]; exact hcd) (by rw [lst_len]; omega)
        rw [lst_len, dErr_lst h12 hd.out] at h5
        exact h5
      have HC2 : Hid (∀ W, Below wr.heap.size wr W → Calls Tryz.prog 89 #[.slice (some ⟨L.gs, 0, none⟩) N N, .int .i64 N] W fun e w' => e = .returned (.int .i64 0) ∧ Below W.heap.size W w') := fun W hW => by
        have h5 := dcheck_any N (lst N fun v => x.s v - x.s q) (some ⟨L.gs, 0, none⟩) N All W ((HMN.out.below hW).rs.ints (fun y hy => by obtain ⟨v, hv, rfl⟩ := List.mem_map.1 hy; have := hs.out v (List.mem_range.1 hv); change I64 (x.s v - x.s q); unfold I64; omega) trivial) (by rw [lst_len]; omega) (by rw [lst_len]; omega)
        rw [lst_len, dErr_lst h12 hs.out] at h5
        exact h5
      have HCG : Hid (∀ (g k : Nat) (W : World), (g = L.gd ∧ k = L.cd ∨ g = L.gs ∧ k = N) → Below wr.heap.size wr W → Calls Tryz.prog 89 #[.slice (some ⟨g, 0, none⟩) N k, .int .i64 N] W fun e w' => e = .returned (.int .i64 0) ∧ Below W.heap.size W w') := fun g k W hgk hW => by
        rcases hgk with ⟨rfl, rfl⟩ | ⟨rfl, rfl⟩
        · exact HC1.out W hW
        · exact HC2.out W hW
      have HBW := hide (Below.refl wr.heap.size wr)
      clear hie HMi HC1 HC2
      go_wp2_with fail
      go_region_held3 (fun w' => w'.cell? ⟨L.p, 0, none⟩ = some (.int .i64 N) ∧ w'.cell? ⟨L.p, 3, none⟩ = some (.slice (some ⟨L.gd, 0, none⟩) N L.cd) ∧ w'.cell? ⟨L.p, 4, none⟩ = some (.slice (some ⟨L.gs, 0, none⟩) N N)) (first | exact ⟨d0, d3, d4⟩) (first | (go_at_call 89; refine (HCG.out _ _ _ (by first | exact .inl ⟨rfl, rfl⟩ | exact .inr ⟨rfl, rfl⟩) (by first | with_reducible exact HBW.out | with_reducible exact HBW.out.drew)).mono ?_; rintro e w5 ⟨rfl, h5⟩; have d0 := (h5.cell (World.block_lt_of_cell? _ _ d0)).trans d0; have d3 := (h5.cell (World.block_lt_of_cell? _ _ d3)).trans d3; have d4 := (h5.cell (World.block_lt_of_cell? _ _ d4)).trans d4; have HBW := hide (show Below wr.heap.size wr w5 from below_then (by first | with_reducible exact HBW.out | with_reducible exact HBW.out.drew) h5); clear h5))
      all_goals
        go_wp2_with fail
        clear d3 d4
        have HM5 := hide (HMN.out.below HBW.out)
        obtain ⟨_, _, _, d3, d4, _⟩ := HM5.out.cells
        go_quiet (fail)
        go_wp2_with fail
        go_ret3
        exact ⟨rfl, HM5.out.drewN _, (HFi.out.below HMN.out.size HBW.out).below HM5.out.size (below_drewN (Below.refl _ _) _)⟩
/-- A state at the beginning. -/
def BegPost (w : World) (B N q : Nat) (es : List Edg) (D : Nat → Int) (e : Ending) (w' : World) : Prop :=
  ∃ L, e = .returned (.pointer (some ⟨L.p, 0, none⟩)) ∧ RMem B N q es L ⟨D, fun _ => 0⟩ w' ∧ Below w.heap.size w w' ∧ w.heap.size ≤ L.p ∧ w.heap.size ≤ L.gd ∧ w.heap.size ≤ L.gs
theorem beg_mk {W1 U : World} {B N q gd cd gs c p : Nat} {oe : Option Addr} {rest : List Value} {es : List Edg} {D : Nat → Int} (hgd : Row1 (Value.int .i64) U gd 3 (lst N D) rest) (hgs : Row1 (Value.int .i64) U gs 3 (List.replicate N 0) [])
    (hE : EdgesBelow B U oe es) (hok : EOk N es) (h12 : 1 ≤ N ∧ N ≤ 12) (hq : q < N) (hcd : N ≤ cd) (hne : gd ≠ gs) (hB : B ≤ W1.heap.size) (hlo : W1.heap.size ≤ gd ∧ W1.heap.size ≤ gs) (hb : Below W1.heap.size W1 U) (he : p = U.heap.size) :
    RMem B N q es ⟨p, gd, cd, gs, oe, c, rest⟩ ⟨D, fun _ => 0⟩ (U.alloc (.cells (rCells N q es.length ⟨p, gd, cd, gs, oe, c, rest⟩).toArray 162)) := by
  subst he
  have e0 : lst N (fun _ => 0) = List.replicate N 0 := by
    apply List.ext_getElem?
    intro i
    by_cases hi : i < N
    · rw [lst_get _ hi, List.getElem?_replicate, if_pos hi]
    · rw [List.getElem?_eq_none (by rw [lst_len]; omega), List.getElem?_eq_none (by simp; omega)]
  have hsz := hb.size
  exact ⟨Box.new U _ _, hgd.new _, by show Row1 _ _ _ _ (lst N fun _ => 0) _; rw [e0]; exact hgs.new _, hE.below (bnew (Below.refl _ _) _ |>.mono (by omega)), hne, ⟨by show B ≤ U.heap.size; omega, by show B ≤ gd; omega, by show B ≤ gs; omega⟩, ⟨h12, hq, hcd⟩, hok⟩
set_option maxRecDepth 100000 in
set_option maxHeartbeats 8000000 in
theorem begin_any {B N q : Nat} {es : List Edg} {oe : Option Addr} {c : Nat} {w : World} (hE : EdgesBelow B w oe es) (hB : B ≤ w.heap.size) (hok : EOk N es) (h12 : 1 ≤ N ∧ N ≤ 12) (hq : q < N) (d : List Int) (od : Option Addr) (cd : Nat) (F : Foot) (hd : SliceR intR 1 F w od d) (hdc : d.length ≤ cd) (hdN : d.length = N) :
    Calls Tryz.prog 103 #[.agg #[.int .i64 N, .slice oe es.length c], .int .i64 q, .slice od d.length cd] w (BegPost w B N q es fun v => d.getD v 0) := by
  obtain ⟨Zs, hZs, hmk⟩ := mk_ints 26 3 Tryz.underlying26 (by kernel_rfl) N (by omega)
  obtain ⟨W1, e1⟩ : ∃ W1, w.alloc (.cells #[.int .i64 N, .slice oe es.length c] 24) = W1 := ⟨_, rfl⟩
  have bx1 : Box W1 w.heap.size [.int .i64 N, .slice oe es.length c] 24 := by rw [← e1]; exact Box.new w [.int .i64 N, .slice oe es.length c] 24
  have bb1 := bnew (Below.refl w.heap.size w) (.cells #[.int .i64 N, .slice oe es.length c] 24)
  rw [e1] at bb1
  have hl3 : w.heap.size < W1.heap.size := bx1.lt
  have HDL : Hid (d = lst N fun v => d.getD v 0) := by
    show _ = _
    apply List.ext_getElem?
    intro i
    by_cases hi : i < N
    · rw [lst_get _ hi, List.getD_eq_getElem?_getD, List.getElem?_eq_getElem (by omega)]
      rfl
    · rw [List.getElem?_eq_none (by omega), List.getElem?_eq_none (by rw [lst_len]; omega)]
  have HCL : Hid (∀ u, Below W1.heap.size W1 u → Calls Tryz.prog 53 #[.slice od N cd] u fun e w' => ∃ gd c2 rest, e = .returned (.slice (some ⟨gd, 0, none⟩) N c2) ∧ Row1 (Value.int .i64) w' gd 3 (lst N fun v => d.getD v 0) rest ∧ N ≤ c2 ∧ u.heap.size ≤ gd ∧ Below u.heap.size u w') := fun u hu => by
    have h := cloneD_any d od cd F u ((hd.below intR_ok bb1).below intR_ok hu) hdc (by omega)
    rw [hdN] at h
    refine h.mono ?_
    rintro e w' ⟨v, rfl, ho, hb⟩
    obtain ⟨g, cap, rest, rfl, h1, h2, _, h4, _⟩ := ho.row (by intro e; rw [e] at hdN; simp at hdN; omega)
    rw [hdN] at h2 ⊢
    rw [HDL.out] at h4
    exact ⟨g, cap, rest, rfl, h4, by omega, h1, hb⟩
  have HE1 := hide (hE.below (bb1.mono hB))
  have HZS := hide hZs
  have HB1 := hide bb1
  have HOK := hide hok
  have y0 := bx1.cell 0
  have y1 := bx1.cell 1
  simp only [List.getElem?_cons_zero, List.getElem?_cons_succ] at y0 y1
  rw [hdN]
  clear hdN hd hdc HDL hE bx1 bb1 hok
  go_enter Tryz.func103, Tryz.ntmps103
  go_wp2_with fail
  go_region_held3 (fun w' => w'.cell? ⟨w.heap.size, 0, none⟩ = some (.int .i64 N) ∧ w'.cell? ⟨w.heap.size, 1, none⟩ = some (.slice oe es.length c)) (first | with_reducible exact ⟨y0, y1⟩ | with_reducible exact ⟨cell_next (cell_next y0 _) _, cell_next (cell_next y1 _) _⟩ | with_reducible exact ⟨cell_drew (cell_next y0 _), cell_drew (cell_next y1 _)⟩ | with_reducible exact ⟨cell_drew y0, cell_drew y1⟩ | with_reducible exact ⟨cell_next y0 _, cell_next y1 _⟩) (first
    | (go_at_call 53; refine (HCL.out _ (by first | with_reducible exact (bnew (Below.refl _ _) _).drew | with_reducible exact (Below.refl _ _).drew)).mono ?_; rintro e w4 ⟨gd, c2, rest, rfl, hgd, hc2', hgl, hb4⟩; replace y0 := (hb4.cell (by first | with_reducible exact World.block_lt_of_cell? _ _ (cell_drew (cell_next y0 _)) | with_reducible exact World.block_lt_of_cell? _ _ (cell_drew y0))).trans (by first | with_reducible exact cell_drew (cell_next y0 _) | with_reducible exact cell_drew y0); replace y1 := (hb4.cell (by first | with_reducible exact World.block_lt_of_cell? _ _ (cell_drew (cell_next y1 _)) | with_reducible exact World.block_lt_of_cell? _ _ (cell_drew y1))).trans (by first | with_reducible exact cell_drew (cell_next y1 _) | with_reducible exact cell_drew y1)))
  · go_wp2_with fail
    go_ret
    have hb40 := hb4
    simp only [drew_size, World.size_alloc] at hb4 hgl
    have hlt := hgd.lt
    have hsz := hb4.size
    have hbU : Below W1.heap.size W1 (w4.alloc (.cells Zs 3)) := ((Below.refl W1.heap.size W1).drew.trans hb4).alloc (by omega) (.cells Zs 3)
    refine ⟨⟨w4.heap.size + 1, gd, c2, w4.heap.size, oe, c, rest⟩, rfl, beg_mk (W1 := W1) (hgd.new _) (row_new HZS.out w4) (HE1.out.below (hbU.mono (by omega))) HOK.out h12 hq hc2' (by omega) (by omega) ⟨by omega, by omega⟩ hbU (by simp), ?_, by show _ ≤ w4.heap.size + 1; omega, by show _ ≤ gd; omega, by show _ ≤ w4.heap.size; omega⟩
    exact (HB1.out.trans (hbU.mono (by omega))).alloc (by simp; omega) _
  · go_wp2_with fail
    go_ret
    have hb40 := hb4
    simp only [drew_size, World.size_alloc] at hb4 hgl
    have hlt := hgd.lt
    have hsz := hb4.size
    simp only [drew_size, World.size_alloc] at hsz
    have hbU : Below W1.heap.size W1 w4 := (bnew (Below.refl W1.heap.size W1) (.cells Zs 3)).drew.trans (hb4.mono (by omega))
    refine ⟨⟨w4.heap.size, gd, c2, W1.heap.size, oe, c, rest⟩, rfl, beg_mk (W1 := W1) hgd ((row_new HZS.out W1).draw.below hb40) (HE1.out.below (hbU.mono (by omega))) HOK.out h12 hq hc2' (by omega) (by omega) ⟨by omega, by omega⟩ hbU rfl, ?_, by show _ ≤ w4.heap.size; omega, by show _ ≤ gd; omega, by show _ ≤ W1.heap.size; omega⟩
    exact (HB1.out.trans (hbU.mono (by omega))).alloc (by omega) _
end Go.Proofs.YtpgopmmobbemcaaGreat

set_option linter.unusedVariables false
set_option linter.unusedSimpArgs false
set_option linter.unnecessarySimpa false
namespace Go.Proofs.YtpgopmmobbemcaaGreat
open Go.RowKit

theorem sum_one_le {n : Nat} {a m : Int} (hm : 0 ≤ m) : sumI (fun v => if a = (v : Int) then m else 0) n ≤ m := by
  by_cases h : ∃ k : Nat, a = (k : Int) ∧ k < n
  · obtain ⟨k, rfl, hk⟩ := h
    have h1 := sumI_one (f := fun v : Nat => if ((k : Nat) : Int) = (v : Int) then m else 0) (g := fun _ => 0) hk (fun p hp hne => if_neg (by omega))
    rw [sumI_zero, if_pos rfl] at h1
    omega
  · rw [sumI_eq (g := fun _ => 0) fun v hv => if_neg fun e => h ⟨v, e, hv⟩, sumI_zero]
    exact hm
theorem val_sum {n : Nat} : ∀ {es : List Edg}, (∀ x ∈ es, 0 ≤ x.m) → sumI (fun v => valE es v) n ≤ 2 * ((endsL es).length : Int)
  | [], _ => by
    have h : sumI (fun v : Nat => valE [] v) n = 0 := sumI_zero n
    rw [h]
    simp [endsL]
  | x :: r, h => by
    have ih := val_sum (n := n) (es := r) fun y hy => h y (by simp [hy])
    have hx := h x (by simp)
    have e : sumI (fun v : Nat => valE (x :: r) v) n = sumI (fun v : Nat => valX x v) n + sumI (fun v : Nat => valE r v) n := by rw [← sumI_add]; rfl
    have h1 : sumI (fun v : Nat => valX x v) n ≤ sumI (fun v : Nat => (if x.a = (v : Int) then x.m else 0) + (if x.b = (v : Int) then x.m else 0)) n := sumI_le fun v hv => by
      unfold valX
      split
      · rename_i hc
        rcases hc.2 with h2 | h2
        · rw [if_pos h2]; split <;> omega
        · rw [if_pos h2]; split <;> omega
      · split <;> split <;> omega
    rw [sumI_add] at h1
    have h2 := sum_one_le (n := n) (a := x.a) hx
    have h3 := sum_one_le (n := n) (a := x.b) hx
    rw [e, endsL_cons, List.length_append, List.length_replicate]
    push_cast
    omega
/-- A small graph and a small divisor. -/
structure SmG (N : Nat) (es : List Edg) (d : List Int) : Prop where
  n6 : N ≤ 6
  sz : (endsL es).length ≤ 9
  dB : ∀ x ∈ d, -60 ≤ x ∧ x ≤ 60
theorem SmG.lok {N q : Nat} {es : List Edg} {d : List Int} (h : SmG N es d) (hok : EOk N es) (hc : Conn N (linkE es)) : LOk N q es (fun v => d.getD v 0) 60 30720 where
  c0 := by omega
  dB := fun v hv => by
    rw [List.getD_eq_getElem?_getD]
    rcases hx : d[v]? with _ | x
    · simp
    · have := h.dB x (List.mem_of_getElem? hx)
      simpa using this
  conn := hc
  big := fun far hF => by
    have hG : Gr N (linkE es) := linkE_gr fun y hy => by have := (hok.at_ y hy).2; omega
    have h1 := downX_half (far := far) hG
    have h2 : sumI (fun v => vlR N (linkE es) v) N = sumI (fun v : Nat => valE es v) N := sumI_eq fun v hv => (val_link v fun x hx => (hok.at_ x hx).1).symm
    have h3 := val_sum (n := N) (es := es) fun x hx => by have := (hok.at_ x hx).2; omega
    have h4 := h.sz
    have h5 := P2_mono (downX_nn (far := far) hG 0) (show downX N (linkE es) far 0 ≤ 9 by omega)
    have h6 : P2 9 = 512 := rfl
    omega
  M1 := by omega
theorem LInv.sok {N q : Nat} {es : List Edg} {D s : Nat → Int} (hO : LOk N q es D 60 30720) (h6 : N ≤ 6) (hq : q < N) (hG : Gr N (linkE es)) {far : Nat → Nat} (hF : Far N q (linkE es) far) {K : Nat} (hK : K ≤ N) (h : LInv N q (linkE es) far D 60 K 0 s) : SOk N q es D s 30720 where
  n6 := h6
  M1 := by omega
  eB := fun v hv hne => by
    have h1 := h.hi v hv (hF.pos v hv hne)
    have h2 := hO.big far hF
    omega
  eQ := by
    have h1 := h.mid q hq hF.q0
    have h2 := hO.big far hF
    omega
  sB := fun v hv => by
    have h1 := h.sb v hv
    have h2 := hO.big far hF
    have h3 : ((K - 0 : Nat) : Int) * (60 * P2 (downX N (linkE es) far 0)) ≤ ((K - 0 : Nat) : Int) * 30720 := Int.mul_le_mul_of_nonneg_left h2 (by omega)
    have h4 : ((K - 0 : Nat) : Int) * 30720 ≤ 6 * 30720 := Int.mul_le_mul_of_nonneg_right (by omega) (by omega)
    omega
  conn := hO.conn

set_option maxRecDepth 100000 in
set_option maxHeartbeats 2000000 in
theorem redgiven_any (n : Int) (es : List Edg) (oe : Option Addr) (c : Nat) (F : Foot) (w : World) (hs : SliceR edgR 3 F w oe es) (hc : es.length ≤ c) (hc2 : es.length ≤ 9223372036854775807)
    (f : List Nat) (hU : Hid (gErr n es = 0 → Uf f (eL es))) (d : List Int) (od : Option Addr) (cd : Nat) (G : Foot) (hd : SliceR intR 1 G w od d) (hdc : d.length ≤ cd) (hdl : d.length ≤ 9223372036854775807) :
    Calls Tryz.prog 102 #[.agg #[.int .i64 n, .slice oe es.length c], .int .i64 0, .slice od d.length cd] w (ErrPost w (tErr n es f d)) := by
  have hb0 := bnew (Below.refl w.heap.size w) (.cells #[.int .i64 n, .slice oe es.length c] 24)
  have bxx := Box.new w [.int .i64 n, .slice oe es.length c] 24
  have HK := hide (conn_any n es oe c F _ (hs.below edgR_ok hb0) hc hc2 f hU)
  have HD := hide (hd.below intR_ok hb0)
  have HB := hide hb0
  have HX := hide bxx
  clear hs hd hb0 bxx
  go_enter Tryz.func102, Tryz.ntmps102
  go_wp2_with fail
  refine HK.out.mono ?_
  rintro e w2 ⟨rfl, hb2⟩
  have HB2 := hide (below_then HB.out hb2)
  have bx2 := HX.out.below hb2
  have d0 := bx2.cell 0
  have d1 := bx2.cell 1
  simp only [List.getElem?_cons_zero, List.getElem?_cons_succ] at d0 d1
  have HC := hide (dcheck_any n d od cd G w2 (HD.out.below intR_ok hb2) hdc hdl)
  clear hb2 bx2
  by_cases hV : gErr n es = 0
  · have hn := (gErr_zero hV).1
    rw [hV]
    by_cases hp : partsN n es f = 1
    · have HJ : Hid (tErr n es f d = dErr n d) := by show _ = _; unfold tErr jErr; rw [if_pos hV, if_pos hp]; exact if_pos rfl
      have hq : (partsN n es f == 1) = true := by simpa using hp
      have q0 : decide (n ≤ (0 : Int)) = false := by simp; omega
      have q1 : ¬ n ≤ 0 := by omega
      rw [hq]
      clear hV hp hq
      go_wp2_with fail
      refine HC.out.mono ?_
      rintro e w3 ⟨rfl, h3⟩
      go_wp2_with fail
      go_ret
      exact ⟨ret_int HJ.out.symm, below_then HB2.out h3⟩
    · have HJ : Hid (tErr n es f d = 13) := by show _ = _; unfold tErr jErr; rw [if_pos hV, if_neg hp]; rfl
      have hq : (partsN n es f == 1) = false := by simpa using hp
      rw [hq]
      clear hV hp hq
      go_wp2_with fail
      go_ret
      exact ⟨ret_int HJ.out.symm, HB2.out⟩
  · have HJ : Hid (tErr n es f d = gErr n es) := by show _ = _; unfold tErr jErr; rw [if_neg hV]; exact if_neg hV
    have hq : (gErr n es != 0) = true := by simpa using hV
    go_wp2_with fail
    go_ret
    exact ⟨ret_int HJ.out.symm, HB2.out⟩
/-- What Reduce hands back. -/
def RedPost (w : World) (N : Nat) (es : List Edg) (d : List Int) (err : Int) (e : Ending) (w' : World) : Prop :=
  (err ≠ 0 → e = .returned (.tuple #[.slice none 0 0, .slice none 0 0, .int .i64 err])) ∧
  (err = 0 → ∃ gd cd gs rest r, e = .returned (.tuple #[.slice (some ⟨gd, 0, none⟩) N cd, .slice (some ⟨gs, 0, none⟩) N N, .int .i64 0]) ∧ Row1 (Value.int .i64) w' gd 3 (lst N r) rest ∧ (Winn N (linkE es) (fun v => d.getD v 0) ↔ 0 ≤ r 0) ∧ ∀ v, v < N → -1048576 ≤ r v ∧ r v ≤ 1048576) ∧
  Below w.heap.size w w'
set_option maxRecDepth 100000 in
set_option maxHeartbeats 2000000 in
theorem reduce_any (n : Int) (es : List Edg) (oe : Option Addr) (c : Nat) (F : Foot) (w : World) (hs : SliceR edgR 3 F w oe es) (hc : es.length ≤ c) (hc2 : es.length ≤ 1000)
    (f : List Nat) (hU : Hid (gErr n es = 0 → Uf f (eL es))) (d : List Int) (od : Option Addr) (cd : Nat) (G : Foot) (hd : SliceR intR 1 G w od d) (hdc : d.length ≤ cd) (hdl : d.length ≤ 1000) (hS : Hid (tErr n es f d = 0 → SmG n.toNat es d)) :
    Calls Tryz.prog 70 #[.agg #[.int .i64 n, .slice oe es.length c], .int .i64 0, .slice od d.length cd] w (RedPost w n.toNat es d (tErr n es f d)) := by
  have hb0 := bnew (Below.refl w.heap.size w) (.cells #[.int .i64 n, .slice oe es.length c] 24)
  have bxx := Box.new w [.int .i64 n, .slice oe es.length c] 24
  have HK := hide (redgiven_any n es oe c F _ (hs.below edgR_ok hb0) hc (by omega) f hU d od cd G (hd.below intR_ok hb0) hdc (by omega))
  have HD := hide (hd.below intR_ok hb0)
  have HE := hide (hs.below edgR_ok hb0)
  have HB := hide hb0
  have HX := hide bxx
  clear hs hd hb0 bxx
  go_enter Tryz.func70, Tryz.ntmps70
  go_wp2_with fail
  refine HK.out.mono ?_
  rintro e w2 ⟨rfl, hb2⟩
  have HB2 := hide (below_then HB.out hb2)
  have bx2 := HX.out.below hb2
  have d0 := bx2.cell 0
  have d1 := bx2.cell 1
  simp only [List.getElem?_cons_zero, List.getElem?_cons_succ] at d0 d1
  have HE2 := hide (HE.out.below edgR_ok hb2)
  have HD2 := hide (HD.out.below intR_ok hb2)
  clear hb2 bx2
  by_cases hV : tErr n es f d = 0
  · have hj : jErr n es f = 0 := by
      unfold tErr at hV
      split at hV
      · rename_i h; exact h
      · rename_i h; exact absurd hV h
    have hg := jErr_g hj
    have hn := (gErr_zero hg).1
    obtain ⟨N, rfl⟩ := Int.eq_ofNat_of_zero_le (show 0 ≤ n by omega)
    rw [Int.toNat_natCast] at hS ⊢
    have hSm := hS.out hV
    have hdN : d.length = N := by
      unfold tErr at hV
      rw [if_pos hj] at hV
      unfold dErr at hV
      split at hV
      · split at hV
        · rename_i h; omega
        · exact absurd hV (by omega)
      · exact absurd hV (by omega)
    have hok := EOk.of hg hc2
    have hconn := conn_link hU.out hj
    have h12 : 1 ≤ N ∧ N ≤ 12 := by omega
    have hG : Hid (Gr N (linkE es)) := linkE_gr fun y hy => by have := (hok.at_ y hy).2; omega
    have hLO := hSm.lok (q := 0) hok hconn
    have HBG := hide (begin_any (B := w2.heap.size) (EdgesBelow.of HE2.out) (Nat.le_refl _) hok h12 (show 0 < N by omega) d od cd G HD2.out hdc hdN (c := c))
    have HLO := hide hLO
    have HSM := hide hSm
    rw [hdN] at HBG ⊢
    have HV := hide hV
    rw [hV]
    clear hV hj hg hSm hok hconn hLO hdN
    go_wp2_with fail
    refine HBG.out.mono ?_
    rintro e w3 ⟨L, rfl, hM3, hb3, hl1, hl2, hl3⟩
    have HB3 := hide hb3
    have HLD := hide (lend_any hM3 HLO.out)
    have hq3 := hM3.num.2.1
    clear hb3 hM3
    go_wp2_with fail
    refine HLD.out.mono ?_
    rintro e w4 ⟨rfl, far, K, s, hF, hKN, hI, hM4, hFk4⟩
    have hSO := hI.sok HLO.out HSM.out.n6 hq3 hG.out hF hKN
    have HST := hide (settle_any hM4 hSO)
    have HSO := hide hSO
    have HF4 := hide hFk4
    clear hF hI hM4 hFk4 hSO
    go_wp2_with fail
    refine HST.out.mono ?_
    rintro e w5 ⟨rfl, t, hIt, hRe, hM5, hFk5⟩
    obtain ⟨k1, k2, k3⟩ := HSO.out.bnd hG.out hq3 hIt
    have HRS := hide (result_any hM5 (fun v hv => ⟨Int.le_trans (by omega) (k1 v hv).1, Int.le_trans (k1 v hv).2 (by omega)⟩) (fun v hv => by
      have h1 := k3 v hv
      have h2 := HSO.out.sB 0 hq3
      have h3 := hIt.q0
      have h4 := HSO.out.M1
      show _ ≤ (s v + t v) - (s 0 + t 0) ∧ (s v + t v) - (s 0 + t 0) ≤ _
      omega) (fun v hv => by have := k3 v hv; show _ ≤ s v + t v ∧ s v + t v ≤ _; omega))
    have HW : Hid (Winn N (linkE es) (fun v => d.getD v 0) ↔ 0 ≤ app N (linkE es) (fun v => d.getD v 0) (fun w => s w + t w) 0) := by
      have h1 := redu_win hG.out hq3 (fun v hv hne => hIt.pay v hv hne) hRe
      show _ ↔ _
      rw [← app_app, ← h1, Winn.moved, Winn.moved]
    have HF5 := hide (HF4.out.trans hFk5)
    have HK1 := hide k1
    clear hIt hRe hM5 hFk5 k1 k2 k3
    go_wp2_with fail
    refine HRS.out.mono ?_
    rintro e w6 ⟨rfl, hM6, hFk6⟩
    have HM6 := hide hM6
    have HF6 := hide (HF5.out.trans hFk6)
    clear hM6 hFk6
    go_wp2_with fail
    go_ret3
    refine ⟨fun h => absurd HV.out h, fun _ => ⟨L.gd, L.cd, L.gs, L.rest, _, rfl, HM6.out.rd, HW.out, fun v hv => ⟨Int.le_trans (by omega) (HK1.out v hv).1, Int.le_trans (HK1.out v hv).2 (by omega)⟩⟩, ?_⟩
    have h5 := HB2.out.size
    exact (HB2.out.trans (HB3.out.mono h5)).trans (HF6.out.1.mono h5)
  · have hq : (tErr n es f d != 0) = true := by simpa using hV
    have HV := hide hV
    clear hV
    go_wp2_with fail
    go_ret3
    exact ⟨fun _ => rfl, fun h => absurd h HV.out, HB2.out⟩
theorem results_tmp4 {fn : Func} {t u v z : Tmp} (h : fn.results = #[.tmp t, .tmp u, .tmp v, .tmp z]) (tmps : Array Value) (P : Program) (w : World) :
    (results fn tmps).run P w = .ok (.tuple #[tmps.getD t undef, tmps.getD u undef, tmps.getD v undef, tmps.getD z undef]) w := by
  simp [results, h]
/-- What Winnable hands back. -/
def WinPost (w : World) (N : Nat) (es : List Edg) (d : List Int) (err : Int) (e : Ending) (w' : World) : Prop :=
  ∃ b rv sv, e = .returned (.tuple #[.bool b, rv, sv, .int .i64 err]) ∧ (err = 0 → (b = true ↔ Winn N (linkE es) (fun v => d.getD v 0))) ∧ Below w.heap.size w w'
set_option maxRecDepth 100000 in
set_option maxHeartbeats 2000000 in
theorem winnable_any (n : Int) (es : List Edg) (oe : Option Addr) (c : Nat) (F : Foot) (w : World) (hs : SliceR edgR 3 F w oe es) (hc : es.length ≤ c) (hc2 : es.length ≤ 1000)
    (f : List Nat) (hU : Hid (gErr n es = 0 → Uf f (eL es))) (d : List Int) (od : Option Addr) (cd : Nat) (G : Foot) (hd : SliceR intR 1 G w od d) (hdc : d.length ≤ cd) (hdl : d.length ≤ 1000) (hS : Hid (tErr n es f d = 0 → SmG n.toNat es d)) :
    Calls Tryz.prog 29 #[.agg #[.int .i64 n, .slice oe es.length c], .slice od d.length cd] w (WinPost w n.toNat es d (tErr n es f d)) := by
  have hb0 := bnew (Below.refl w.heap.size w) (.cells #[.int .i64 n, .slice oe es.length c] 24)
  have HK := hide (reduce_any n es oe c F _ (hs.below edgR_ok hb0) hc hc2 f hU d od cd G (hd.below intR_ok hb0) hdc hdl hS)
  have HB := hide hb0
  clear hs hd hb0
  go_enter Tryz.func29, Tryz.ntmps29
  go_wp2_with fail
  refine HK.out.mono ?_
  rintro e w2 ⟨h1, h2, hb2⟩
  have HB2 := hide (below_then HB.out hb2)
  clear hb2
  by_cases hV : tErr n es f d = 0
  · obtain ⟨gd, c2, gs, rest, r, rfl, hrow, hw, hrb⟩ := h2 hV
    have hN : 0 < n.toNat := by
      have hj : jErr n es f = 0 := by
        unfold tErr at hV
        split at hV
        · rename_i h; exact h
        · rename_i h; exact absurd hV h
      have := (gErr_zero (jErr_g hj)).1
      omega
    have c0 : w2.cell? ⟨gd, 0, none⟩ = some (.int .i64 (r 0)) := hrow.cell (lst_get r hN)
    have hr0 := hrb 0 hN
    have hN1 : (0 : Int) < (n.toNat : Int) := by omega
    generalize n.toNat = N at *
    have HW := hide hw
    have HV := hide hV
    clear h1 h2 hrow hw hrb hV
    obtain ⟨b, hb⟩ : ∃ b, b = decide (0 ≤ r 0) := ⟨_, rfl⟩
    go_wp2_with fail
    refine bodyPost_ret (results_tmp4 rfl _ _ _) rfl ?_
    exact ⟨_, _, _, by rw [HV.out]; rfl, fun _ => by rw [HW.out]; simp, HB2.out⟩
  · have h3 := h1 hV
    subst h3
    have hq : (tErr n es f d != 0) = true := by simpa using hV
    have HV := hide hV
    clear hV h1 h2
    go_wp2_with fail
    refine bodyPost_ret (results_tmp4 rfl _ _ _) rfl ?_
    exact ⟨_, _, _, rfl, fun h => absurd h HV.out, HB2.out⟩
end Go.Proofs.YtpgopmmobbemcaaGreat

set_option linter.unusedVariables false
set_option linter.unusedSimpArgs false
set_option linter.unnecessarySimpa false
namespace Go.Proofs.YtpgopmmobbemcaaGreat
open Go.RowKit

theorem stepsJ_len (s : List Int) (v : Nat) : (stepsJ s v 2).length ≤ 2 := by
  unfold stepsJ
  exact Nat.le_trans (List.length_filterMap_le _ _) (by simp)
theorem stepsUp_len (s : List Int) : ∀ v, (stepsUp s v).length ≤ 2 * v
  | 0 => by simp [stepsUp]
  | v + 1 => by
    have h1 := stepsUp_len s v
    have h2 := stepsJ_len s v
    rw [stepsUp_succ, List.length_append]
    omega
theorem candL_len : ∀ {l : List (List Int)}, (∀ s ∈ l, s.length ≤ 12) → (candL l).length ≤ 24 * l.length
  | [], _ => by simp [candL]
  | s :: r, h => by
    have ih := candL_len (l := r) fun x hx => h x (by simp [hx])
    have h1 := stepsUp_len s s.length
    have h2 := h s (by simp)
    have e : candL (s :: r) = stepsUp s s.length ++ candL r := by simp [candL, stepsS, stepsUp]
    rw [e, List.length_append, List.length_cons]
    omega
theorem foldC_len (good : List Int → Bool) : ∀ (cs : List (List Int)) (st : List (List Int) × List (List Int)), (cs.foldl (addC good) st).2.length ≤ st.2.length + cs.length
  | [], st => by simp
  | c :: r, st => by
    have ih := foldC_len good r (addC good st c)
    have h1 : (addC good st c).2.length ≤ st.2.length + 1 := by
      unfold addC
      split
      · omega
      · simp only; split <;> simp
    rw [List.foldl_cons, List.length_cons]
    omega
theorem lay_ok {N : Nat} {owe : List Int → Int} {most limit : Int} : ∀ (n : Nat), ∀ s ∈ layS N owe most limit n, s.length = N ∧ ∀ y ∈ s, -(n : Int) ≤ y ∧ y ≤ n
  | 0, s, hs => by
    have e : s = List.replicate N 0 := by simpa [layS] using hs
    subst e
    exact ⟨by simp, fun y hy => by have := (List.mem_replicate.1 hy).2; omega⟩
  | n + 1, s, hs => by
    obtain ⟨⟨t, ht, hst⟩, _⟩ := more_mem.1 (show s ∈ (moreS (goodS owe most limit ((n : Int) + 1)) (layS N owe most limit n)).2 from hs)
    obtain ⟨h1, h2⟩ := lay_ok n t ht
    obtain ⟨v, k, hv, hk, _, rfl⟩ := steps_mem.1 hst
    refine ⟨by rw [nudS_len]; exact h1, fun y hy => ?_⟩
    unfold nudS at hy
    have hg : -(n : Int) ≤ t.getD v 0 ∧ t.getD v 0 ≤ n := by
      rw [List.getD_eq_getElem?_getD, List.getElem?_eq_getElem hv]
      exact h2 _ (List.getElem_mem hv)
    rcases List.mem_or_eq_of_mem_set hy with h | h
    · have := h2 y h; push_cast; omega
    · push_cast; omega
theorem lay_len {N : Nat} (h12 : N ≤ 12) {owe : List Int → Int} {most limit : Int} : ∀ n, (layS N owe most limit n).length ≤ 24 ^ n
  | 0 => by simp [layS]
  | n + 1 => by
    have ih := lay_len h12 (owe := owe) (most := most) (limit := limit) n
    have h1 := foldC_len (goodS owe most limit ((n : Int) + 1)) (candL (layS N owe most limit n)) ([], [])
    have h2 := candL_len (l := layS N owe most limit n) fun s hs => by have := (lay_ok n s hs).1; omega
    show (moreS (goodS owe most limit ((n : Int) + 1)) (layS N owe most limit n)).2.length ≤ _
    unfold moreS
    rw [Nat.pow_succ]
    simp at h1
    omega
theorem lay_small {N : Nat} (h12 : N ≤ 12) {owe : List Int → Int} {most limit : Int} {n : Nat} (h8 : n ≤ 8) : (layS N owe most limit n).length ≤ 110075314176 := by
  have h1 := lay_len h12 (owe := owe) (most := most) (limit := limit) n
  have h2 : 24 ^ n ≤ 24 ^ 8 := Nat.pow_le_pow_right (by omega) h8
  omega
/-- The search, layer by layer. -/
def solF (N : Nat) (owe : List Int → Int) (most limit : Int) : Nat → Nat → List Int × Int × Int
  | 0, _ => ([], 0, 12)
  | fuel + 1, n => match (layS N owe most limit n).foldl (winStep (winsO owe) cmpL) none with
    | some s => (s, n, 0)
    | none => solF N owe most limit fuel (n + 1)
def solveR (n : Int) (es : List Edg) (f : List Nat) (d : List Int) (limit : Int) (b : Bool) : List Int × Int × Int :=
  if tErr n es f d ≠ 0 then ([], 0, tErr n es f d) else if limit < 0 ∨ 8 < limit then ([], 0, 2) else if b = false then ([], 0, 6) else solF n.toNat (oweS es d) (grtE es n.toNat) limit (limit.toNat + 1) 0
end Go.Proofs.YtpgopmmobbemcaaGreat

set_option linter.unusedVariables false
set_option linter.unusedSimpArgs false
set_option linter.unnecessarySimpa false
namespace Go.Proofs.YtpgopmmobbemcaaGreat
open Go.RowKit

def SolPost (w : World) (r : List Int × Int × Int) (e : Ending) (w' : World) : Prop :=
  ∃ oa c, e = .returned (.tuple #[.slice oa r.1.length c, .int .i64 r.2.1, .int .i64 r.2.2]) ∧ r.1.length ≤ c ∧ SliceR intR 1 All w' oa r.1 ∧ Below w.heap.size w w'
theorem SolPost.none {w w' : World} {x y : Int} (h : Below w.heap.size w w') : SolPost w ([], x, y) (.returned (.tuple #[.slice none 0 0, .int .i64 x, .int .i64 y])) w' :=
  ⟨Option.none, 0, rfl, by simp, fun i x hx => by simp at hx, h⟩
def SolvePost (w : World) (n : Int) (es : List Edg) (f : List Nat) (d : List Int) (limit : Int) (e : Ending) (w' : World) : Prop :=
  ∃ b : Bool, (tErr n es f d = 0 → (b = true ↔ Winn n.toNat (linkE es) (fun v => d.getD v 0))) ∧ SolPost w (solveR n es f d limit b) e w'
theorem lay0 {N : Nat} (hN : N ≤ 12) {Zs : Array Value} (hZ : Zs.toList = List.replicate N (.int .i64 0)) (w : World) : SliceR (slcR intR 1) 1 All ((w.alloc (.cells Zs 3)).alloc (.cells #[.slice (some ⟨w.heap.size, 0, none⟩) N N] 26)) (some ⟨w.heap.size + 1, 0, none⟩) [List.replicate N 0] := by
  have hr := (row_new hZ w).new (.cells #[.slice (some ⟨w.heap.size, 0, none⟩) N N] 26)
  have hs : SliceR intR 1 All ((w.alloc (.cells Zs 3)).alloc (.cells #[.slice (some ⟨w.heap.size, 0, none⟩) N N] 26)) (some ⟨w.heap.size, 0, none⟩) (List.replicate N 0) := hr.ints (fun y hy => by have := (List.mem_replicate.1 hy).2; subst this; unfold I64; omega) trivial
  have bx := Box.new (w.alloc (.cells Zs 3)) [.slice (some ⟨w.heap.size, 0, none⟩) N N] 26
  intro i x hx
  match i, hx with
  | 0, hx =>
    simp at hx
    subst hx
    refine ⟨w.heap.size + 1, 0, [.slice (some ⟨w.heap.size, 0, none⟩) N N], rfl, trivial, ⟨_, N, by simp, by simp, by simp; omega, hs⟩, fun j v hj => ?_⟩
    match j, hj with
    | 0, hj =>
      simp at hj
      subst hj
      have := bx.cell 0
      rw [alloc_size'] at this
      simpa using this
    | j + 1, hj => simp at hj
  | i + 1, hx => simp at hx
set_option maxRecDepth 100000 in
set_option maxHeartbeats 8000000 in
theorem solve_any (n : Int) (es : List Edg) (oe : Option Addr) (c : Nat) (F : Foot) (w : World) (hs : SliceR edgR 3 F w oe es) (hc : es.length ≤ c) (hc2 : es.length ≤ 1000)
    (f : List Nat) (hU : Hid (gErr n es = 0 → Uf f (eL es))) (d : List Int) (od : Option Addr) (cd : Nat) (G : Foot) (hd : SliceR intR 1 G w od d) (hdc : d.length ≤ cd) (hdl : d.length ≤ 1000) (hS : Hid (tErr n es f d = 0 → SmG n.toNat es d)) (limit : Int) (hlim : I64 limit) :
    Calls Tryz.prog 20 #[.agg #[.int .i64 n, .slice oe es.length c], .slice od d.length cd, .int .i64 limit] w (SolvePost w n es f d limit) := by
  have hb0 := bnew (Below.refl w.heap.size w) (.cells #[.int .i64 n, .slice oe es.length c] 24)
  have bxx := Box.new w [.int .i64 n, .slice oe es.length c] 24
  have HK := hide (dgiven_any n es oe c F _ (hs.below edgR_ok hb0) hc (by omega) f hU d od cd G (hd.below intR_ok hb0) hdc (by omega))
  have HWI : Hid (∀ u, Below w.heap.size w u → Calls Tryz.prog 29 #[.agg #[.int .i64 n, .slice oe es.length c], .slice od d.length cd] u (WinPost u n.toNat es d (tErr n es f d))) := fun u hu => winnable_any n es oe c F u (hs.below edgR_ok hu) hc hc2 f hU d od cd G (hd.below intR_ok hu) hdc hdl hS
  have HD := hide hd
  have HS := hide hs
  have HB := hide hb0
  have HX := hide bxx
  clear hs hd hb0 bxx
  go_enter Tryz.func20, Tryz.ntmps20
  go_wp2_with fail
  refine HK.out.mono ?_
  rintro e w2 ⟨rfl, hb2⟩
  have HB2 := hide (below_then HB.out hb2)
  have HX2 := hide (HX.out.below hb2)
  clear hb2
  by_cases hV : tErr n es f d = 0
  case neg =>
    have hR : Hid (solveR n es f d limit false = ([], 0, tErr n es f d)) := if_pos hV
    have hq : (tErr n es f d != 0) = true := by simpa using hV
    have HV := hide hV
    go_wp2_with fail
    go_ret3
    exact ⟨false, fun h => absurd h HV.out, by rw [hR.out]; exact SolPost.none HB2.out⟩
  obtain ⟨N, rfl, hT⟩ := tErr_ok hV
  have HT := hide hT
  have h12 := hT.n12
  have hdN := hT.len
  have HOK := hide (EOk.of hT.g hc2)
  by_cases hl0 : limit < 0 ∨ 8 < limit
  case pos =>
    have hR : Hid (∀ b, solveR N es f d limit b = ([], 0, 2)) := fun b => by unfold solveR; rw [if_neg (fun h => h hV), if_pos hl0]
    have HWN : Hid (∃ b : Bool, (b = true ↔ Winn N (linkE es) (fun v => d.getD v 0))) := by
      by_cases h : Winn N (linkE es) (fun v => d.getD v 0)
      · exact ⟨true, ⟨fun _ => h, fun _ => rfl⟩⟩
      · exact ⟨false, ⟨(fun h2 => by cases h2), fun h2 => absurd h2 h⟩⟩
    rw [hV]
    clear hV
    rcases Int.lt_or_le limit 0 with h1 | h1
    · clear hl0
      go_wp2_with fail
      go_ret3
      obtain ⟨b, hb⟩ := HWN.out
      exact ⟨b, fun _ => by rw [Int.toNat_natCast]; exact hb, by rw [hR.out]; exact SolPost.none HB2.out⟩
    · have h2 : 8 < limit := by omega
      clear hl0
      go_wp2_with fail
      go_ret3
      obtain ⟨b, hb⟩ := HWN.out
      exact ⟨b, fun _ => by rw [Int.toNat_natCast]; exact hb, by rw [hR.out]; exact SolPost.none HB2.out⟩
  have hl1 : 0 ≤ limit := by omega
  have hl2 : limit ≤ 8 := by omega
  have y0 := HX2.out.cell 0
  have y1 := HX2.out.cell 1
  simp only [List.getElem?_cons_zero, List.getElem?_cons_succ] at y0 y1
  have HWI2 := hide (HWI.out w2 HB2.out)
  rw [hdN] at HWI2 ⊢
  rw [hV] at HWI2 ⊢
  have HSV : Hid (∀ b, solveR N es f d limit b = if b = false then ([], 0, 6) else solF N (oweS es d) (grtE es N) limit (limit.toNat + 1) 0) := fun b => by unfold solveR; rw [if_neg (fun h => h hV), if_neg hl0, Int.toNat_natCast]
  have HDN := hide hdN
  rw [hdN] at hdc
  clear hV hT hl0 hdN
  go_wp2_with fail
  refine HWI2.out.mono ?_
  rintro e w3 ⟨b, rv, sv, rfl, hbw, hb3⟩
  have HBW := hide (hbw rfl)
  have HB3 := hide (below_then HB2.out hb3)
  have HX3 := hide (HX2.out.below hb3)
  replace y0 := (hb3.cell (World.block_lt_of_cell? _ _ y0)).trans y0
  replace y1 := (hb3.cell (World.block_lt_of_cell? _ _ y1)).trans y1
  clear hbw hb3
  rcases b with _ | _
  · have HWF : Hid (tErr N es f d = 0 → (false = true ↔ Winn (N : Int).toNat (linkE es) (fun v => d.getD v 0))) := fun _ => HBW.out
    clear HBW
    go_wp2_with fail
    go_ret3
    exact ⟨false, HWF.out, by rw [HSV.out, if_pos rfl]; exact SolPost.none HB3.out⟩
  have HWT : Hid (tErr N es f d = 0 → (true = true ↔ Winn (N : Int).toNat (linkE es) (fun v => d.getD v 0))) := fun _ => ⟨fun _ => HBW.out.1 rfl, fun _ => rfl⟩
  clear HBW
  have hR : Hid (solveR N es f d limit true = solF N (oweS es d) (grtE es N) limit (limit.toNat + 1) 0) := by show _ = _; rw [HSV.out, if_neg (by simp)]
  have HGR : Hid (∀ W, Below w.heap.size w W → Calls Tryz.prog 59 #[.agg #[.int .i64 N, .slice oe es.length c]] W fun e w' => e = .returned (.int .i64 (grtE es N)) ∧ Below W.heap.size W w') := fun W hW => greatest_any N es oe c F W (HS.out.below edgR_ok hW) hc hc2 HT.out.g
  have hgb := grtE_le (valE_bound HT.out.g hc2) N
  obtain ⟨gr, hgr⟩ : ∃ gr, gr = grtE es N := ⟨_, rfl⟩
  rw [← hgr] at HGR hgb hR
  clear hgr HSV HWI HWI2
  go_upto_region 11 with fail
  go_cut [14] (fun s14 wx => ∃ p, s14 = .pointer (some ⟨p, 0, none⟩) ∧ Hid (SCtx N es oe c d od cd p gr limit wx) ∧ Hid (Below w.heap.size w wx) ∧ Hid (wx.cell? ⟨w.heap.size, 0, none⟩ = some (.int .i64 N)))
  case first =>
    have HBZ := HB3
    go_region_held3 (fun w' => w'.cell? ⟨w.heap.size, 0, none⟩ = some (.int .i64 N) ∧ w'.cell? ⟨w.heap.size, 1, none⟩ = some (.slice oe es.length c)) (first | with_reducible exact ⟨y0, y1⟩ | with_reducible exact ⟨cell_next y0 _, cell_next y1 _⟩ | exact ⟨y0, y1⟩) (first
      | (go_at_call 59; refine (HGR.out _ (by first | with_reducible exact HBZ.out | with_reducible exact HBZ.out.drew)).mono ?_; rintro e w5 ⟨rfl, h5⟩; have y0 := (h5.cell (World.block_lt_of_cell? _ _ y0)).trans y0; have y1 := (h5.cell (World.block_lt_of_cell? _ _ y1)).trans y1; have HBZ := hide (show Below w.heap.size w w5 from below_then (by first | with_reducible exact HBZ.out | with_reducible exact HBZ.out.drew) h5); clear h5))
    all_goals
      go_wp2_with fail
      go_meet
      have hbz := HBZ.out.alloc HBZ.out.size (.cells #[.int .i64 N, .slice oe es.length c, .slice od N cd, .int .i64 gr, .int .i64 limit] 102)
      exact ⟨_, rfl, ⟨HOK.out, h12, (HS.out.below edgR_ok hbz).all edgR_ok (by decide), hc, (HD.out.below intR_ok hbz).all intR_ok (by decide), hdc, HDN.out, HT.out.dB, Box.new _ _ _⟩, hbz, cell_next y0 _⟩
  case rest =>
    obtain ⟨p, rfl, HC, HBc, HY0⟩ := hcut
    obtain ⟨Zs, hZs, hmk⟩ := mk_ints 26 3 Tryz.underlying26 (by kernel_rfl) N (by omega)
    have HZS := hide hZs
    have hy0 := HY0.out
    clear y0 y1 hZs
    go_wp2_with fail
    have HL0 : Hid (SliceR (slcR intR 1) 1 All ((wc.alloc (.cells Zs 3)).alloc (.cells #[.slice (some ⟨wc.heap.size, 0, none⟩) N N] 26)) (some ⟨wc.heap.size + 1, 0, none⟩) [List.replicate N 0]) := lay0 h12.2 HZS.out wc
    have HC0 : Hid (SCtx N es oe c d od cd p gr limit ((wc.alloc (.cells Zs 3)).alloc (.cells #[.slice (some ⟨wc.heap.size, 0, none⟩) N N] 26))) := (HC.out.below (bnew (Below.refl _ _) _)).below (bnew (Below.refl _ _) _)
    have HB0 : Hid (Below w.heap.size w ((wc.alloc (.cells Zs 3)).alloc (.cells #[.slice (some ⟨wc.heap.size, 0, none⟩) N N] 26))) := (HBc.out.alloc HBc.out.size _).alloc (by have := HBc.out.size; rw [alloc_size']; omega) _
    clear hmk hy0
    generalize (wc.alloc (.cells Zs 3)).alloc (.cells #[.slice (some ⟨wc.heap.size, 0, none⟩) N N] 26) = W0 at *
    obtain ⟨M, hM⟩ : ∃ M : Nat, M = limit.toNat + 1 := ⟨_, rfl⟩
    have hML : (M : Int) = limit + 1 := by omega
    have hM9 : M ≤ 9 := by omega
    rw [← hM] at hR
    clear hM
    obtain ⟨owe, howe⟩ : ∃ owe, owe = oweS es d := ⟨_, rfl⟩
    rw [← howe] at hR
    have HOWE := hide howe
    clear howe
    go_loopg [15, 16] M (fun gm lv nv wx => ∃ (k : Nat) (ol : Option Addr) (cl : Nat) (L : List (List Int)), k ≤ M ∧ gm = M - k ∧ nv = .int .i64 k ∧ lv = .slice ol L.length cl ∧ L.length ≤ cl ∧ Hid (L = layS N owe gr limit k) ∧ Hid (SliceR (slcR intR 1) 1 All wx ol L) ∧ Hid (SCtx N es oe c d od cd p gr limit wx) ∧ Hid (Below w.heap.size w wx) ∧ Hid (solF N owe gr limit M 0 = solF N owe gr limit (M - k) k))
    case atStart => exact ⟨0, _, 1, [List.replicate N 0], by omega, by omega, rfl, rfl, by simp, rfl, HL0, HC0, HB0, rfl⟩
    case round =>
      obtain ⟨k, ol, cl, L, hk, hgm, rfl, rfl, hLc, HLE, HLS, HCk, HBk, HSF⟩ := hrel
      have HGM := hide hgm
      clear hgm
      by_cases hlt : (k : Int) ≤ limit
      · have hk8 : k ≤ 8 := by omega
        have hkM : k < M := by omega
        have hLl : L.length ≤ 110075314176 := by rw [HLE.out]; exact lay_small h12.2 hk8
        have HLO : Hid (∀ s ∈ L, s.length = N ∧ ∀ y ∈ s, -50 ≤ y ∧ y ≤ 50) := fun s hs => by
          rw [HLE.out] at hs
          obtain ⟨h1, h2⟩ := lay_ok k s hs
          exact ⟨h1, fun y hy => by have := h2 y hy; omega⟩
        have HWN := hide (winner_any HCk.out L ol cl All HLS.out hLc (by omega) (fun s hs => ⟨(HLO.out s hs).1, fun y hy => by have := (HLO.out s hs).2 y hy; omega⟩))
        rw [← HOWE.out] at HWN
        have HST : Hid (solF N owe gr limit (M - k) k = match L.foldl (winStep (winsO owe) cmpL) Option.none with | some s => (s, (k : Int), 0) | Option.none => solF N owe gr limit (M - (k + 1)) (k + 1)) := by
          show _ = _
          rw [show M - k = (M - (k + 1)) + 1 by omega, HLE.out]
          rfl
        go_wp2_with fail
        refine HWN.out.mono ?_
        rintro e w5 ⟨v, rfl, hbest, hb5⟩
        have HB5 := hide (below_then HBk.out hb5)
        have HC5 := hide (HCk.out.below hb5)
        have HL5 := hide (HLS.out.below (slcR_ok intR_ok (by decide)) hb5)
        have HBEST := hide hbest
        clear hbest hb5
        cases hfo : L.foldl (winStep (winsO owe) cmpL) Option.none with
        | none =>
          rw [hfo] at HBEST HST
          have h5 : v = .slice none 0 0 := HBEST.out
          subst h5
          clear hfo
          have hq : (binOp .neq 26 (.slice none 0 0) (.slice none 0 0)).run Tryz.prog w5 = .ok (.bool false) w5 := run_neq_slice_nil_any w5 _ 3 none 0 0 0 0 Tryz.underlying26
          have HMO := hide (more_any HC5.out (by omega) (by omega) L ol cl All HL5.out hLc hLl HLO (k : Int) (by omega))
          rw [← HOWE.out] at HMO
          go_wp2_with fail
          refine HMO.out.mono ?_
          rintro e w6 ⟨oa, ca, rfl, hca, hsl, hb6⟩
          have HB6 := hide (below_then HB5.out hb6)
          have HC6 := hide (HC5.out.below hb6)
          have HL6 := hide hsl
          have HLN : Hid ((moreS (goodS owe gr limit ((k : Int) + 1)) L).2 = layS N owe gr limit (k + 1)) := by show _ = _; rw [HLE.out]; rfl
          have HSN : Hid (solF N owe gr limit M 0 = solF N owe gr limit (M - (k + 1)) (k + 1)) := by show _ = _; rw [HSF.out, HST.out]
          generalize (moreS (goodS owe gr limit ((k : Int) + 1)) L).2 = L2 at *
          clear hsl hb6
          go_wp2_with fail
          go_roundg (M - (k + 1))
          case rel => exact ⟨k + 1, oa, ca, L2, by omega, rfl, by go_num, rfl, hca, HLN, HL6, HC6, HB6, HSN⟩
          case measure => rw [HGM.out]; omega
        | some t =>
          rw [hfo] at HBEST HST
          obtain ⟨b5, o5, c5, h5, hc5, ht5, hs5⟩ := HBEST.out
          subst h5
          have HT5 := hide ht5
          have HS5 := hide hs5
          clear hfo ht5 hs5
          have hq : (binOp .neq 26 (.slice (some ⟨b5, o5, none⟩) N c5) (.slice none 0 0)).run Tryz.prog w5 = .ok (.bool true) w5 := run_neq_slice_nil_any w5 _ 3 (some ⟨b5, o5, none⟩) N c5 0 0 Tryz.underlying26
          go_wp2_with fail
          go_ret3
          refine ⟨true, fun h => ⟨fun _ => (HWT.out h).1 (by trivial), fun _ => rfl⟩, ?_⟩
          rw [hR.out, HSF.out, HST.out]
          exact ⟨_, c5, by rw [HT5.out]; rfl, by rw [HT5.out]; exact hc5, HS5.out, HB5.out⟩
      · have hkM : k = M := by omega
        have HSE : Hid (solF N owe gr limit M 0 = ([], 0, 12)) := by
          show _ = _
          rw [HSF.out, hkM, Nat.sub_self]
          rfl
        clear hkM
        go_wp2_with fail
        go_ret3
        exact ⟨true, fun h => ⟨fun _ => (HWT.out h).1 (by trivial), fun _ => rfl⟩, by rw [hR.out, HSE.out]; exact SolPost.none HBk.out⟩
end Go.Proofs.YtpgopmmobbemcaaGreat

namespace Go.Proofs
open Go.Shelf
def Tryz.lays189_ren : Go.Shelf.Ren := ⟨fun | 189 => 85 | 125 => 118 | 257 => 117 | 128 => 150 | 129 => 151 | 294 => 141 | 295 => 142 | 296 => 143 | 297 => 144 | 298 => 145 | 299 => 146 | 216 => 147 | 300 => 148 | 301 => 149 | 328 => 160 | 329 => 161 | 330 => 162 | 331 => 163 | 332 => 164 | 215 => 152 | 343 => 169 | n => n, fun | 28 => 25 | 3 => 3 | 46 => 146 | 0 => 0 | 51 => 168 | 53 => 171 | 4 => 4 | 183 => 185 | 182 => 184 | 131 => 189 | 5 => 5 | 9 => 9 | 218 => 201 | 222 => 205 | 228 => 211 | 229 => 53 | n => n, fun | n => n⟩
theorem Tryz.lays189 : Go.Proofs.Lays.n189 Tryz.prog Tryz.lays189_ren := {
  mixed := by kernel_rfl
  f125 := Tryz.func118.trans (congrArg some (by kernel_rfl))
  f128 := Tryz.func150.trans (congrArg some (by kernel_rfl))
  f129 := Tryz.func151.trans (congrArg some (by kernel_rfl))
  f189 := Tryz.func85.trans (congrArg some (by kernel_rfl))
  f215 := Tryz.func152.trans (congrArg some (by kernel_rfl))
  f216 := Tryz.func147.trans (congrArg some (by kernel_rfl))
  f257 := Tryz.func117.trans (congrArg some (by kernel_rfl))
  f294 := Tryz.func141.trans (congrArg some (by kernel_rfl))
  f295 := Tryz.func142.trans (congrArg some (by kernel_rfl))
  f296 := Tryz.func143.trans (congrArg some (by kernel_rfl))
  f297 := Tryz.func144.trans (congrArg some (by kernel_rfl))
  f298 := Tryz.func145.trans (congrArg some (by kernel_rfl))
  f299 := Tryz.func146.trans (congrArg some (by kernel_rfl))
  f300 := Tryz.func148.trans (congrArg some (by kernel_rfl))
  f301 := Tryz.func149.trans (congrArg some (by kernel_rfl))
  f328 := Tryz.func160.trans (congrArg some (by kernel_rfl))
  f329 := Tryz.func161.trans (congrArg some (by kernel_rfl))
  f330 := Tryz.func162.trans (congrArg some (by kernel_rfl))
  f331 := Tryz.func163.trans (congrArg some (by kernel_rfl))
  f332 := Tryz.func164.trans (congrArg some (by kernel_rfl))
  f343 := Tryz.func169.trans (congrArg some (by kernel_rfl))
  t0 := Tryz.underlying0
  a0 := Tryz.isAgg0
  z0 := Tryz.sizeOf0
  v0 := Tryz.zeroValue0
  t3 := Tryz.underlying3
  a3 := Tryz.isAgg3
  z3 := Tryz.sizeOf3
  v3 := Tryz.zeroValue3
  t4 := Tryz.underlying4
  a4 := Tryz.isAgg4
  z4 := Tryz.sizeOf4
  v4 := Tryz.zeroValue4
  t5 := Tryz.underlying5
  a5 := Tryz.isAgg5
  z5 := Tryz.sizeOf5
  v5 := Tryz.zeroValue5
  t9 := Tryz.underlying9
  a9 := Tryz.isAgg9
  z9 := Tryz.sizeOf9
  v9 := Tryz.zeroValue9
  t28 := Tryz.underlying25
  a28 := Tryz.isAgg25
  z28 := Tryz.sizeOf25
  v28 := Tryz.zeroValue25
  t46 := Tryz.underlying146
  a46 := Tryz.isAgg146
  z46 := Tryz.sizeOf146
  v46 := Tryz.zeroValue146
  t51 := Tryz.underlying168
  a51 := Tryz.isAgg168
  z51 := Tryz.sizeOf168
  v51 := Tryz.zeroValue168
  t53 := Tryz.underlying171
  a53 := Tryz.isAgg171
  z53 := Tryz.sizeOf171
  v53 := Tryz.zeroValue171
  t131 := Tryz.underlying189
  a131 := Tryz.isAgg189
  z131 := Tryz.sizeOf189
  v131 := Tryz.zeroValue189
  t182 := Tryz.underlying184
  a182 := Tryz.isAgg184
  z182 := Tryz.sizeOf184
  v182 := Tryz.zeroValue184
  t183 := Tryz.underlying185
  a183 := Tryz.isAgg185
  z183 := Tryz.sizeOf185
  v183 := Tryz.zeroValue185
  t218 := Tryz.underlying201
  a218 := Tryz.isAgg201
  z218 := Tryz.sizeOf201
  v218 := Tryz.zeroValue201
  t222 := Tryz.underlying205
  a222 := Tryz.isAgg205
  z222 := Tryz.sizeOf205
  v222 := Tryz.zeroValue205
  t228 := Tryz.underlying211
  a228 := Tryz.isAgg211
  z228 := Tryz.sizeOf211
  v228 := Tryz.zeroValue211
  t229 := Tryz.underlying53
  a229 := Tryz.isAgg53
  z229 := Tryz.sizeOf53
  v229 := Tryz.zeroValue53 }
open Go.Sort Go.RowKit in
theorem Tryz.slices_Sort_int (blk off cap : Nat) (zs : List Int) (w : World) (hH : Holds (Value.int .i64) w blk off zs.toArray) (hblk : blk < w.heap.size) (hsz : zs.length < 4611686018427387904) :
    Calls Tryz.prog 85 #[.slice (some ⟨blk, off, none⟩) zs.length cap] w fun e w' =>
      e = .returned (.tuple #[]) ∧ ∃ n os, w' = grow (putRow (Value.int .i64) (Sort.ahead w n) blk off (zs.mergeSort fun x y => decide (x ≤ y)).toArray) os := Any.slices_Sort_int Tryz.lays189 blk off cap zs w hH hblk hsz
open Go.RowKit Go.Sort in
/-- .. and plain. (LAID: no walk: one application.) -/
theorem Tryz.slices_Sort_int_none (p : Option Addr) (cap : Nat) (w : World) :
    Calls Tryz.prog 85 #[.slice p 0 cap] w fun e w' => e = .returned (.tuple #[]) ∧ w' = w := Any.slices_Sort_int_none Tryz.lays189 p cap w
end Go.Proofs

set_option linter.unusedVariables false
namespace Go.Proofs.YtpgopmmobbemcaaGreat
open Go.RowKit Go.Sort

theorem sortI_any (base : Nat) (e : TypeId) (v : Value) (xs : List Int) (w : World) (hown : OwnQ base e w v xs) (hlen : xs.length ≤ 1000000000) :
    Calls Tryz.prog 85 #[v] w fun e' w' => e' = .returned (.tuple #[]) ∧ OwnQ base e w' v (xs.mergeSort fun x y => decide (x ≤ y)) ∧ w.grownBy w' v.ownBlock := by
  have h0 := hown
  obtain ⟨g, o, cap, cur, rfl, h1, h2, h3, h4, h5, h6, h7⟩ := hown
  have hg : g < w.heap.size := (Array.getElem?_eq_some_iff.1 h2).1
  have hH : Holds (Value.int .i64) w g o xs.toArray := by
    intro j hj
    have hj' : j < xs.length := by simpa using hj
    refine ⟨?_, by simp [World.frozen?, h2]⟩
    rw [h0.get rfl j _ (List.getElem?_eq_getElem hj')]
    simp [hj']
  refine (Tryz.slices_Sort_int g o cap xs w hH hg (by omega)).mono ?_
  rintro e' w' ⟨rfl, n, os, rfl⟩
  generalize hts : (xs.mergeSort fun x y => decide (x ≤ y)) = ts
  have hl : ts.length = xs.length := by rw [← hts]; exact List.length_mergeSort _
  have hm : ∀ x ∈ ts, I64 x := fun x hx => h7 x (by rw [← hts] at hx; exact (List.mergeSort_perm xs _).mem_iff.1 hx)
  refine ⟨rfl, ⟨g, o, cap, putCells (Value.int .i64) o ts.toArray cur, by rw [hl], h1, ?_, by omega, h4, by simp [putCells]; exact h5, ?_, hm⟩, ?_⟩
  · rw [heap_grow_old _ _ (by simpa [putRow, mapBlock, Sort.ahead] using hg)]
    simp [putRow, mapBlock, Sort.ahead, Array.getElem?_modify, h2, onCells]
  · apply List.ext_getElem?
    intro j
    by_cases hj : j < ts.length
    · rw [List.getElem?_take_of_lt hj, List.getElem?_drop, Array.getElem?_toList]
      simp [putCells, hj, show o + j < cur.size by omega]
    · rw [List.getElem?_take_eq_none (by omega), List.getElem?_eq_none (by simp; omega)]
  · refine ⟨rfl, rfl, rfl, by simp [grow, putRow, mapBlock, Sort.ahead], fun k hk hne => ?_⟩
    rw [heap_grow_old _ _ (by simpa [putRow, mapBlock, Sort.ahead] using hk)]
    have : g ≠ k := fun e => hne (by simp [Value.ownBlock, e])
    simp [putRow, mapBlock, Sort.ahead, Array.getElem?_modify, this]

end Go.Proofs.YtpgopmmobbemcaaGreat

set_option linter.unusedVariables false
namespace Go.Proofs.YtpgopmmobbemcaaGreat
open Go.RowKit Go.Shelf

attribute [local go_sem] Oper.semAt_some

def upto {α : Type} (f : Nat → α) (k : Nat) : List α := (List.range k).map f
theorem upto_succ {α : Type} (f : Nat → α) (k : Nat) : upto f (k + 1) = upto f k ++ [f k] := by simp [upto, List.range_succ]
theorem upto_length {α : Type} (f : Nat → α) (k : Nat) : (upto f k).length = k := by simp [upto]
theorem upto_all (zs : List Int) : upto (fun j => zs[j]?.getD 0) zs.length = zs := by
  apply List.ext_getElem
  · simp [upto]
  · intro i h1 h2
    simp [upto, h2]
theorem upto_take (zs : List Int) {k : Nat} (hk : k ≤ zs.length) : upto (fun j => zs[j]?.getD 0) k = zs.take k := by
  apply List.ext_getElem
  · simp [upto, hk]
  · intro i h1 h2
    have : i < zs.length := by simp [upto] at h1; omega
    simp [upto, this]

/-- The slice value sv holds the ints zs, in a block below n₀; or there are none. -/
def IntsBelow (n₀ : Nat) (W : World) (sv : Value) (zs : List Int) : Prop :=
  (∃ a c, sv = .slice a 0 c ∧ zs = []) ∨ ∃ b off cap, sv = .slice (some ⟨b, off, none⟩) zs.length cap ∧ b < n₀ ∧ ∀ j, j < zs.length → W.cell? ⟨b, off + j, none⟩ = some (.int .i64 (zs[j]?.getD 0))
theorem IntsBelow.below {n₀ : Nat} {A B : World} (h : Below n₀ A B) {sv : Value} {zs : List Int} : IntsBelow n₀ A sv zs → IntsBelow n₀ B sv zs
  | .inl e => .inl e
  | .inr ⟨b, off, cap, e, hb, hc⟩ => .inr ⟨b, off, cap, e, hb, fun j hj => (h.cell (p := ⟨b, off + j, none⟩) hb).trans (hc j hj)⟩
theorem IntsBelow.mono {n₀ n₁ : Nat} {A : World} {sv : Value} {zs : List Int} (h : IntsBelow n₀ A sv zs) (hn : n₀ ≤ n₁) : IntsBelow n₁ A sv zs :=
  h.imp id fun ⟨b, off, cap, e, hb, hc⟩ => ⟨b, off, cap, e, by omega, hc⟩
theorem IntsBelow.of {F : Foot} {w : World} {oa : Option Addr} {c : Nat} {zs : List Int} (h : SliceR intR 1 F w oa zs) : IntsBelow w.heap.size w (.slice oa zs.length c) zs := by
  rcases Nat.eq_zero_or_pos zs.length with h0 | h0
  · have : zs = [] := List.eq_nil_of_length_eq_zero h0
    subst this
    exact .inl ⟨oa, c, rfl, rfl⟩
  · obtain ⟨x, _, _, _, b, off, rfl, _, hc0⟩ := h.int_at h0
    refine .inr ⟨b, off, c, rfl, World.block_lt_of_cell? _ _ hc0, fun j hj => ?_⟩
    obtain ⟨y, _, hy, _, b', off', he, _, hc⟩ := h.int_at hj
    injection he with he
    injection he with e1 e2
    subst e1 e2
    rw [hc, hy]
    rfl

def ApPost (w : World) (zs : List Int) (e : Ending) (W' : World) : Prop := ∃ v, e = .returned v ∧ W'.ownsRow w.heap.size 3 1 v zs.length (zs.map (Value.int .i64)) ∧ Below w.heap.size w W'

end Go.Proofs.YtpgopmmobbemcaaGreat

set_option linter.unusedVariables false
set_option linter.unusedSimpArgs false
namespace Go.Proofs.YtpgopmmobbemcaaGreat
open Go.RowKit

theorem OwnQ.of_row {base : Nat} {e : TypeId} {w : World} {v : Value} {zs : List Int} (h : w.ownsRow base e 1 v zs.length (zs.map (Value.int .i64))) (hz : ∀ x ∈ zs, I64 x) : (v = .slice none 0 0 ∧ zs = []) ∨ OwnQ base e w v zs := by
  rcases h.2 with ⟨rfl, hn⟩ | ⟨g, cap, cur, rfl, hg, hh, hle, hcm, hcs, htake⟩
  · exact .inl ⟨rfl, List.eq_nil_of_length_eq_zero hn⟩
  · exact .inr ⟨g, 0, cap, cur, rfl, hg, hh, hle, hcm, by omega, by simpa using htake, hz⟩

def SortedPost (w : World) (zs : List Int) (e : Ending) (w' : World) : Prop :=
  ∃ oa c, e = .returned (.slice oa zs.length c) ∧ zs.length ≤ c ∧ SliceR intR 1 All w' oa (zs.mergeSort fun x y => decide (x ≤ y)) ∧ Below w.heap.size w w'

def RevPost (base : Nat) (up : List Int) (v : Value) (w : World) (e' : Ending) (w' : World) : Prop :=
  e' = .returned (.tuple #[]) ∧ ∃ oa c ys, v = .slice oa ys.length c ∧ ys.length ≤ c ∧ ys.Perm up ∧ SliceR intR 1 All w' oa ys ∧ Below base w w'

end Go.Proofs.YtpgopmmobbemcaaGreat

set_option linter.unusedVariables false
set_option linter.unusedSimpArgs false
namespace Go.Proofs.YtpgopmmobbemcaaGreat
open Go.RowKit Go.Shelf

attribute [local go_sem] Oper.semAt_some

set_option maxRecDepth 100000 in
set_option maxHeartbeats 2000000 in
theorem values1S_in (F : Fence) (n : Nat) (h7 : F.fn 86) (hro : F.round = none) (hn : 1 ≤ n) (l Bs n₀ b off len cap : Nat) (zs : List Int) (hreach : len * 8 ≤ 140737488351232) (hb : b < n₀) (J Jx : List Int → World → Prop)
    (hY : ∀ pre x W, J pre W → pre.length < len → YieldAt F (n - 1) Tryz.prog l #[.int .i64 x] W fun e W' =>
      (e = .returned (.bool true) ∧ J (pre ++ [x]) W' ∧ Below n₀ W W') ∨ (e = .returned (.bool false) ∧ Jx (pre ++ [x]) W'))
    (W : World) (hBs : W.cell? ⟨Bs, 0, none⟩ = some (.slice (some ⟨b, off, none⟩) len cap)) (hc : ∀ j, j < len → W.cell? ⟨b, off + j, none⟩ = some (.int .i64 (zs[j]?.getD 0))) (h0 : J [] W) :
    CallsIn F n Tryz.prog 86 #[.func (.yield l) #[] #[], .pointer (some ⟨Bs, 0, none⟩)] W fun e W' => (∃ v, e = .returned v) ∧
      ((∃ ys, ys = upto (fun j => zs[j]?.getD 0) len ∧ J ys W') ∨ (∃ pre, (∃ k, k ≤ len ∧ pre = upto (fun j => zs[j]?.getD 0) k) ∧ Jx pre W')) := by
  refine callsIn_of_wp Tryz.func86 rfl h7 ?_ hro
  simp only [Tryz.ntmps86, List.size_toArray, List.length_cons, List.length_nil, Nat.reduceAdd, Nat.reduceSub, Array.replicate_succ, Array.replicate_zero, List.push_toArray, List.append_toArray, List.nil_append, List.cons_append]
  gi_wp2
  gi_loopw [7] (fun i wr => ∃ k : Nat, k ≤ len ∧ i = .int .i64 k ∧ J (upto (fun j => zs[j]?.getD 0) k) wr ∧ Below n₀ W wr)
    (fun i _ => len - (intOf i).toNat)
  case atStart => exact ⟨0, Nat.zero_le _, rfl, h0, Below.refl _ _⟩
  case round =>
    obtain ⟨k, hk, rfl, hJs, hnx⟩ := hrel
    have hcx : k < len → wr.cell? ⟨b, off + k, none⟩ = some (.int .i64 (zs[k]?.getD 0)) := fun h => (hnx.cell (p := ⟨b, off + k, none⟩) hb).trans (hc k h)
    by_cases hlt : k < len
    · obtain ⟨fn, tmps, assign, body, hy, hR⟩ := hY _ (zs[k]?.getD 0) wr hJs (by rw [upto_length]; exact hlt)
      have hcx' := hcx hlt
      gi_wp2
      refine hR.mono ?_
      rintro e W3 (⟨rfl, hJ3, hk3⟩ | ⟨rfl, hJx3⟩)
      · gi_wp2
        go_roundw
        case rel => exact ⟨k + 1, by omega, by simp, by rw [upto_succ]; exact hJ3, hnx.trans hk3⟩
        case measure => simp [intOf]; omega
      · gi_wp2
        refine bodyPost_ret (results_none rfl _ _ _) rfl ?_
        exact ⟨⟨_, rfl⟩, .inr ⟨_, ⟨k + 1, by omega, (upto_succ _ _).symm⟩, hJx3⟩⟩
    · obtain rfl : k = len := by omega
      gi_wp2
      go_end0
      exact ⟨⟨_, rfl⟩, .inl ⟨_, rfl, hJs⟩⟩


set_option maxRecDepth 100000 in
set_option maxHeartbeats 2000000 in
theorem values1S_nil_in (F : Fence) (n : Nat) (h7 : F.fn 86) (hro : F.round = none) (l Bs : Nat) (a : Option Addr) (c : Nat) (J : List Int → World → Prop) (W : World) (hBs : W.cell? ⟨Bs, 0, none⟩ = some (.slice a 0 c)) (h0 : J [] W) :
    CallsIn F n Tryz.prog 86 #[.func (.yield l) #[] #[], .pointer (some ⟨Bs, 0, none⟩)] W fun e W' => (∃ v, e = .returned v) ∧ J [] W' := by
  refine callsIn_of_wp Tryz.func86 rfl h7 ?_ hro
  simp only [Tryz.ntmps86, List.size_toArray, List.length_cons, List.length_nil, Nat.reduceAdd, Nat.reduceSub, Array.replicate_succ, Array.replicate_zero, List.push_toArray, List.append_toArray, List.nil_append, List.cons_append]
  gi_wp2
  gi_loopw [7] (fun i wr => i = .int .i64 0 ∧ J [] wr) (fun _ _ => 0)
  case atStart => exact ⟨rfl, h0⟩
  case round =>
    obtain ⟨rfl, hJs⟩ := hrel
    gi_wp2
    go_end0
    exact ⟨⟨_, rfl⟩, hJs⟩


theorem valuesS_stops (F : Fence) (n : Nat) (h7 : F.fn 86) (hro : F.round = none) (hn : 1 ≤ n) (Bs n₀ : Nat) (sv : Value) (zs : List Int) (hreach : zs.length * 8 ≤ 140737488351232) (w : World) (hBs : Bs < w.heap.size) (hn₀ : n₀ ≤ w.heap.size)
    (hc : w.cell? ⟨Bs, 0, none⟩ = some sv) (hI : IntsBelow n₀ w sv zs) :
    SeqStopsK F n Tryz.prog 86 #[.pointer (some ⟨Bs, 0, none⟩)] (fun x : Int => #[Value.int .i64 x]) (Below n₀) (fun ys => ys = zs) (fun pre => pre <+: zs) zs.length w := fun l J Jx W hW _ _ hY h0 => by
  have hc' := (hW.cell (p := ⟨Bs, 0, none⟩) hBs).trans hc
  rcases hI.below (hW.mono hn₀) with ⟨a, c, rfl, rfl⟩ | ⟨b, off, cap, rfl, hb, hcs⟩
  · exact (values1S_nil_in F n h7 hro l Bs a c J W hc' h0).mono fun e W' ⟨he, hj⟩ => ⟨he, .inl ⟨_, rfl, hj⟩⟩
  · refine (values1S_in F n h7 hro hn l Bs n₀ b off zs.length cap zs hreach hb J Jx hY W hc' hcs h0).mono ?_
    rintro e W' ⟨he, ⟨ys, rfl, hj⟩ | ⟨pre, ⟨k, hk, rfl⟩, hj⟩⟩
    · exact ⟨he, .inl ⟨_, upto_all zs, hj⟩⟩
    · exact ⟨he, .inr ⟨_, by rw [upto_take zs hk]; exact List.take_prefix _ _, hj⟩⟩


set_option maxRecDepth 100000 in
set_option maxHeartbeats 2000000 in
theorem appendSeqS_in (F : Fence) (n : Nat) (h3 : F.fn 116) (h7 : F.fn 86) (hro : F.round = none) (hn : 3 ≤ n) (Bs : Nat) (sv : Value) (zs : List Int) (hlen : zs.length ≤ 1000000) (w : World) (hBs : Bs < w.heap.size)
    (hc : w.cell? ⟨Bs, 0, none⟩ = some sv) (hI : IntsBelow w.heap.size w sv zs) :
    CallsIn F n Tryz.prog 116 #[.slice none 0 0, .func (.func 86) #[] #[.pointer (some ⟨Bs, 0, none⟩)]] w (ApPost w zs) := by
  have h1 : 1 ≤ n := by omega
  obtain ⟨i0, hi, hz0, hz1, hz2⟩ := info_parts intInfo
  refine callsIn_of_wp_marks Tryz.func116 rfl h3 ?_ hro
  simp only [Tryz.ntmps116, List.size_toArray, List.length_cons, List.length_nil, Nat.reduceAdd, Nat.reduceSub, Array.replicate_succ, Array.replicate_zero, List.push_toArray, List.append_toArray, List.nil_append, List.cons_append]
  gi_wp2
  have bO := Boxed.new w 25 (.slice none 0 0)
  have hB0 : Below w.heap.size w (w.alloc (.cells #[.slice none 0 0] 25)) := (Below.refl _ w).alloc (Nat.le_refl _) _
  refine wpIn_rangeFunc_ownG hro h1 (gf := 86) (lb := #[.pointer (some ⟨Bs, 0, none⟩)]) rfl h7 (enters_of Tryz.func86 (by kernel_rfl) rfl)
    (valuesS_stops F (n - 1) h7 hro (by omega) Bs w.heap.size sv zs (by omega) (w.alloc (.cells #[.slice none 0 0] 25)) (by simp; omega) (by simp) ((hB0.cell (p := ⟨Bs, 0, none⟩) hBs).trans hc) (hI.below hB0)) belowK_t (belowK_b (by simp)) (Below.refl _ _) (fun _ => rfl)
    (fun pre W => (∃ v, Boxed W w.heap.size 25 v ∧ W.ownsRow w.heap.size 3 1 v pre.length (pre.map (Value.int .i64)) ∧ True) ∧ Below w.heap.size w W)
    (fun _ _ _ => False)
    (OwnFrom.and (Own.from (holdsRow_own w.heap.size w.heap.size 25 3 1 (fun pre : List Int => pre.length) (fun pre => pre.map (Value.int .i64)) (fun pre v => True)) _) (ownFrom_below (Nat.le_refl _) (by simp)))
    (fun _ _ _ _ _ hs _ _ => hs)
    ⟨⟨_, bO, World.ownsRow_nil _ _ _ _, trivial⟩, hB0⟩
    (fun x => { tmps := #[.slice none 0 0, .func (.func 86) #[] #[.pointer (some ⟨Bs, 0, none⟩)], .pointer (some ⟨w.heap.size, 0, none⟩), undef, .slice none 0 0, .int .i64 x, .func (.func 86) #[] #[.pointer (some ⟨Bs, 0, none⟩)], .int .i64 x, undef, undef, undef, undef, undef], defers := [] }) ?assign ?body ?done ?stop
  case assign =>
    intro l x W K hK
    gi_wp2
    exact hK
  case body =>
    rintro l pre x W ⟨⟨v, hv, hrow, _⟩, hB⟩ hlt
    have hc := hv.cell
    gi_wp2_with (gi_at_builtin; refine wpListIn_append_own _ rfl _ _ 25 rfl w.heap.size 3 i0 (.int .i64 0) 1 8 Tryz.underlying25 hi hz0 hz1 hz2 rfl (by decide) _ _ _ rfl (hrow.alloc _) ⟨W.heap.size, 0, none⟩ 1 1 [.int .i64 x] rfl rfl (cell_one_new _ _ _) (by simp [Value.oneCell']) (by unfold maxLen; omega) (by omega) (by have := hB.size; simp; omega) ?_; intro v' w1 hown' hgrow _; obtain ⟨g', cap', rfl⟩ := ownsRow_succ hown'; obtain ⟨hv1, hv2, hr2, hk2, hb2⟩ := hv.appended (by decide) hrow hB.size (Nat.le_refl _) hown' hgrow; have hc1 := hv1.cell; have hf1 := hv1.frozen)
    exact ⟨hk2.from _, hb2, ⟨_, hv2, by simpa using hr2, trivial⟩, hB.trans hb2⟩
  case done =>
    rintro D ys W hD rfl ⟨⟨v, hv, hrow, _⟩, hB⟩ hK
    have hc := hv.cell
    gi_wp2
    refine ⟨by simp, .inl ⟨_, _, rfl, run_takeDeferred hK, ?_⟩⟩
    exact ⟨_, results_tmp rfl _ _ _, v, rfl, ownsRow_putObj hrow _ hK rfl, hB.trans (belowK_b (w := w) (Nat.le_refl _) W D _ _ (by simp at hD; omega) hK rfl rfl)⟩
  case stop =>
    rintro D c pre W _ _ h _
    exact h.elim


theorem valuesS_any (oa : Option Addr) (n c : Nat) (w : World) :
    Calls Tryz.prog 45 #[.slice oa n c] w fun e w' => e = .returned (.func (.func 86) #[] #[.pointer (some ⟨w.heap.size, 0, none⟩)]) ∧ w' = w.alloc (.cells #[.slice oa n c] 26) := by
  go_enter Tryz.func45, Tryz.ntmps45
  go_wp2_with fail
  go_ret
  exact ⟨rfl, rfl⟩


theorem appendSeqS_any (Bs : Nat) (sv : Value) (zs : List Int) (hlen : zs.length ≤ 1000000) (w : World) (hBs : Bs < w.heap.size) (hc : w.cell? ⟨Bs, 0, none⟩ = some sv) (hI : IntsBelow w.heap.size w sv zs) :
    Calls Tryz.prog 116 #[.slice none 0 0, .func (.func 86) #[] #[.pointer (some ⟨Bs, 0, none⟩)]] w (ApPost w zs) :=
  (callsIn_wide (n := 3)).1 (appendSeqS_in Go.Fence.wide 3 trivial trivial rfl (by omega) Bs sv zs hlen w hBs hc hI)

theorem collectS_any (Bs : Nat) (sv : Value) (zs : List Int) (hlen : zs.length ≤ 1000000) (w : World) (hBs : Bs < w.heap.size) (hc : w.cell? ⟨Bs, 0, none⟩ = some sv) (hI : IntsBelow w.heap.size w sv zs) :
    Calls Tryz.prog 84 #[.func (.func 86) #[] #[.pointer (some ⟨Bs, 0, none⟩)]] w (ApPost w zs) := by
  go_enter Tryz.func84, Tryz.ntmps84
  go_wp2_with fail
  refine (appendSeqS_any Bs sv zs hlen _ hBs hc hI).mono ?_
  rintro e w' ⟨v, rfl, ho, hb⟩
  go_wp2_with fail
  go_ret
  exact ⟨v, rfl, ho, hb⟩


theorem sortedVS_any (Bs : Nat) (sv : Value) (zs : List Int) (hz : ∀ x ∈ zs, I64 x) (hlen : zs.length ≤ 1000000) (w : World) (hBs : Bs < w.heap.size) (hc : w.cell? ⟨Bs, 0, none⟩ = some sv) (hI : IntsBelow w.heap.size w sv zs) :
    Calls Tryz.prog 44 #[.func (.func 86) #[] #[.pointer (some ⟨Bs, 0, none⟩)]] w (SortedPost w zs) := by
  go_enter Tryz.func44, Tryz.ntmps44
  go_wp2_with fail
  refine (collectS_any Bs sv zs hlen _ hBs hc hI).mono ?_
  rintro e w2 ⟨v, rfl, ho, hb⟩
  rcases OwnQ.of_row ho hz with ⟨rfl, rfl⟩ | hq
  · go_wp2_with fail
    refine (Tryz.slices_Sort_int_none none 0 w2).mono ?_
    rintro e w3 ⟨rfl, rfl⟩
    go_wp2_with fail
    go_ret
    exact ⟨none, 0, rfl, by simp, by simpa using SliceR.nil _ _ _ _ _, hb⟩
  · go_wp2_with fail
    refine (sortI_any _ _ _ _ _ hq (by omega)).mono ?_
    rintro e w3 ⟨rfl, hq2, hg⟩
    obtain ⟨oa, c, rfl, hc2, hs⟩ := hq2.slice
    go_wp2_with fail
    go_ret
    rw [List.length_mergeSort] at hc2
    exact ⟨oa, c, by simp, hc2, hs.all intR_ok (by omega), hb.grown hg hb.size fun k hk => (hq.block k hk).1⟩


end Go.Proofs.YtpgopmmobbemcaaGreat

set_option linter.unusedVariables false
set_option linter.unusedSimpArgs false
set_option linter.unnecessarySimpa false
namespace Go.Proofs.YtpgopmmobbemcaaGreat
open Go.RowKit

def cheapR (n : Int) (es : List Edg) (f : List Nat) (s : List Int) : List Int × Int × Int :=
  if tErr n es f s = 0 then (if dErr n (cheapS s) = 0 then (cheapS s, costS (cheapS s), 0) else ([], 0, 11)) else ([], 0, tErr n es f s)
def ScrPost (w : World) (r : List Int × Int × Int) (e : Ending) (w' : World) : Prop :=
  ∃ v, e = .returned (.tuple #[v, .int .i64 r.2.1, .int .i64 r.2.2]) ∧ OwnS intR 1 w.heap.size 3 Non w' v r.1 ∧ Below w.heap.size w w'
theorem raised_lst {N : Nat} {s : List Int} (hN : s.length = N) (m : Int) : lst N (fun v => s.getD v 0 - m) = raisedS s (-m) := by
  apply List.ext_getElem?
  intro i
  unfold raisedS
  rw [List.getElem?_map]
  by_cases hi : i < N
  · rw [lst_get _ hi, List.getD_eq_getElem?_getD, List.getElem?_eq_getElem (by omega)]
    rfl
  · rw [List.getElem?_eq_none (by rw [lst_len]; omega), List.getElem?_eq_none (by omega)]
    rfl
set_option maxRecDepth 100000 in
set_option maxHeartbeats 4000000 in
theorem cheapest_any (n : Int) (es : List Edg) (oe : Option Addr) (c : Nat) (F : Foot) (w : World) (hs : SliceR edgR 3 F w oe es) (hc : es.length ≤ c) (hc2 : es.length ≤ 1000)
    (f : List Nat) (hU : Hid (gErr n es = 0 → Uf f (eL es))) (d : List Int) (od : Option Addr) (cd : Nat) (G : Foot) (hd : SliceR intR 1 G w od d) (hdc : d.length ≤ cd) (hdl : d.length ≤ 9223372036854775807) :
    Calls Tryz.prog 13 #[.agg #[.int .i64 n, .slice oe es.length c], .slice od d.length cd] w (ScrPost w (cheapR n es f d)) := by
  have hb0 := bnew (Below.refl w.heap.size w) (.cells #[.int .i64 n, .slice oe es.length c] 24)
  have bxx := Box.new w [.int .i64 n, .slice oe es.length c] 24
  have HK := hide (dscripted_any n es oe c F _ (hs.below edgR_ok hb0) hc (by omega) f hU d od cd G (hd.below intR_ok hb0) hdc hdl)
  have HD := hide hd
  have HS := hide hs
  have HB := hide hb0
  have HX := hide bxx
  clear hs hd hb0 bxx
  go_enter Tryz.func13, Tryz.ntmps13
  go_wp2_with fail
  refine HK.out.mono ?_
  rintro e w2 ⟨rfl, hb2⟩
  have HB2 := hide (below_then HB.out hb2)
  have HX2 := hide (HX.out.below hb2)
  clear hb2
  by_cases hV : tErr n es f d = 0
  · obtain ⟨N, rfl, hT⟩ := tErr_ok hV
    have hR : Hid (cheapR N es f d = if dErr N (cheapS d) = 0 then (cheapS d, costS (cheapS d), 0) else ([], 0, 11)) := if_pos hV
    have HT := hide hT
    have h12 := hT.n12
    have hdN := hT.len
    have HVL := hide (valuesS_any od d.length cd w2)
    have HSO : Hid (∀ w3, w3 = w2.alloc (.cells #[.slice od d.length cd] 26) → Calls Tryz.prog 44 #[.func (.func 86) #[] #[.pointer (some ⟨w2.heap.size, 0, none⟩)]] w3 (SortedPost w3 d)) := fun w3 e => by
      subst e
      have hdw := HD.out.below intR_ok HB2.out
      refine sortedVS_any w2.heap.size (.slice od d.length cd) d (fun x hx => by have := HT.out.dB x hx; unfold I64; omega) (by omega) _ (by simp) ?_ ((IntsBelow.of hdw).below (bnew (Below.refl _ _) _) |>.mono (by simp))
      simpa using (Box.new w2 [.slice od d.length cd] 26).cell 0
    have HV := hide hV
    rw [hV]
    rw [hdN] at HVL HSO hdc ⊢
    clear hV hT hdl
    go_wp2_with fail
    refine HVL.out.mono ?_
    rintro e w3 ⟨rfl, hw3⟩
    have HB3 : Hid (Below w.heap.size w w3) := by rw [hw3]; exact HB2.out.alloc HB2.out.size _
    have HSO3 := hide (HSO.out w3 hw3)
    have HX3 : Hid (Box w3 w.heap.size [.int .i64 N, .slice oe es.length c] 24) := by rw [hw3]; exact HX2.out.next _
    clear hw3
    go_wp2_with fail
    refine HSO3.out.mono ?_
    rintro e w4 ⟨oa, c4, rfl, hc4, hs4, hb4⟩
    rw [hdN] at hc4 ⊢
    have HB4 := hide (below_then HB3.out hb4)
    have HX4 := hide (HX3.out.below hb4)
    have hml : (d.mergeSort fun x y => decide (x ≤ y)).length = N := by rw [List.length_mergeSort]; exact hdN
    obtain ⟨m, _, hm, _, bm, om, hoa, _, cm⟩ := hs4.int_at (i := N / 2) (by rw [hml]; omega)
    have hperm := List.mergeSort_perm d fun x y => decide (x ≤ y)
    have hmid : MidN d m := mid_sorted hperm ((List.pairwise_mergeSort (le := fun x y : Int => decide (x ≤ y)) (by intro a b c; simp; omega) (by intro a b; simp; omega) d).imp (by simp)) (by rw [hdN]; exact hm)
    have HCH : Hid (cheapS d = raisedS d (-m)) := cheap_mid hmid
    have hmb := HT.out.dB m (hperm.mem_iff.1 (List.mem_of_getElem? hm))
    subst hoa
    have hdw := HD.out.below intR_ok HB4.out
    have HDW := hide hdw
    have HDN := hide hdN
    clear hb4 hs4 hml hm hperm hmid hdw hdN
    obtain ⟨h2, hh2⟩ : ∃ h2 : Nat, h2 = N / 2 := ⟨_, rfl⟩
    have hh3 : 2 * h2 ≤ N ∧ N < 2 * h2 + 2 := by omega
    rw [← hh2] at cm
    clear hh2
    have hdiv : (N : Int).tdiv 2 = (h2 : Int) := by
      rw [Int.tdiv_eq_ediv_of_nonneg (by omega)]
      omega
    have hlt2 : (h2 : Int) < (N : Int) := by omega
    have hge2 : (0 : Int) ≤ (h2 : Int) := by omega
    have hwr : wrap64 (h2 : Int) = (h2 : Int) := by unfold wrap64; omega
    go_wp2_with (at_make; refine wpList_make_row (f := Value.int .i64) _ rfl _ _ 26 rfl 3 (0 : Int) 8 Tryz.underlying26 intInfo rfl .i64 .i64 _ _ N rfl rfl rfl rfl (by omega) (by unfold maxLen; omega) (fun w5 hrow5 hb5 hg5 => ?_))
    clear hdiv hwr cm
    have HR5 := hide hrow5
    have HB5 := hide (below_then HB4.out hb5)
    have HX5 := hide (HX4.out.below hb5)
    have HDW5 := hide (HDW.out.below intR_ok hb5)
    have hw4 := HB4.out.size
    have Hb5 := hide hb5
    have HML := hide hmb
    obtain ⟨g, hg⟩ : ∃ g, g = w4.heap.size := ⟨_, rfl⟩
    have HG := hide hg
    rw [← hg] at HR5 hw4 ⊢
    clear hrow5 hb5 hg5 hg hlt2 hge2
    go_loopg [11, 12, 33] N (fun gm _ _ iv wx => ∃ i : Nat, i ≤ N ∧ gm = N - i ∧ iv = .int .i64 i ∧ Hid (Row1 (Value.int .i64) wx g 3 (lst N fun v => if v < i then d.getD v 0 - m else 0) []) ∧ Hid (Below g w5 wx))
    case atStart =>
      refine ⟨0, by omega, by omega, rfl, ?_, Below.refl _ _⟩
      show Row1 _ _ _ _ _ _
      rw [show (lst N fun v => if v < 0 then d.getD v 0 - m else 0) = List.replicate N 0 from ?_]
      · exact HR5.out
      · apply List.ext_getElem?
        intro i
        by_cases hi : i < N
        · rw [lst_get _ hi, List.getElem?_replicate, if_pos hi, if_neg (Nat.not_lt_zero i)]
        · rw [List.getElem?_eq_none (by rw [lst_len]; omega), List.getElem?_eq_none (by simp; omega)]
    case round =>
      obtain ⟨i, hi, hgm, rfl, HRi, HBi⟩ := hrel
      have HGM := hide hgm
      clear hgm
      by_cases hlt : i < N
      · have HBW : Hid (Below w4.heap.size w4 wr) := by
          have h5 := HBi.out
          rw [HG.out] at h5
          exact Hb5.out.trans h5
        have l0 : wr.cell? ⟨g, i, none⟩ = some (.int .i64 0) := by
          have h5 := HRi.out.cell (lst_get (fun v => if v < i then d.getD v 0 - m else 0) hlt)
          simp only [Nat.lt_irrefl, if_false] at h5
          exact h5
        have fz := HRi.out.free i
        obtain ⟨x, _, hx, _, bd, od2, hod, _, cx⟩ := (HDW.out.below intR_ok HBW.out).int_at (i := i) (by rw [HDN.out]; exact hlt)
        have hxb := HT.out.dB x (List.mem_of_getElem? hx)
        have hml := HML.out
        have HP : Hid (Row1 (Value.int .i64) (wr.setCell ⟨g, i, none⟩ (.int .i64 (x - m))) g 3 (lst N fun v => if v < i + 1 then d.getD v 0 - m else 0) []) := by
          have h5 := HRi.out.put (i := i) (by rw [lst_len]; exact hlt) (x - m)
          rw [lst_set] at h5
          rw [lst_congr (g := updF (fun v => if v < i then d.getD v 0 - m else 0) i (x - m)) fun v hv => ?_]
          · exact h5
          · unfold updF
            by_cases e : v = i
            · subst e
              rw [if_pos (by omega), if_pos rfl, List.getD_eq_getElem?_getD, hx]
              rfl
            · rw [if_neg e]
              show _ = if v < i then d.getD v 0 - m else 0
              by_cases h : v < i
              · rw [if_pos h, if_pos (by omega)]
              · rw [if_neg h, if_neg (by omega)]
        have HQ : Hid (Below g w5 (wr.setCell ⟨g, i, none⟩ (.int .i64 (x - m)))) := HBi.out.setCell (Nat.le_refl _) _
        have hi0 : (0 : Int) ≤ i := by omega
        have hi1 : (i : Int) < N := by omega
        subst hod
        clear hx
        go_wp2_with fail
        go_roundg (N - (i + 1))
        case rel => exact ⟨i + 1, by omega, rfl, by go_num, HP, HQ⟩
        case measure => rw [HGM.out]; omega
      · have hie : i = N := by omega
        have HBW : Hid (Below w4.heap.size w4 wr) := by
          have h5 := HBi.out
          rw [HG.out] at h5
          exact Hb5.out.trans h5
        have HBWw : Hid (Below w.heap.size w wr) := below_then HB4.out HBW.out
        have hRN : Row1 (Value.int .i64) wr g 3 (cheapS d) [] := by
          rw [HCH.out, ← raised_lst HDN.out]
          have h5 := HRi.out
          rw [hie, lst_congr (g := fun v => d.getD v 0 - m) fun v hv => if_pos hv] at h5
          exact h5
        have hcl : (cheapS d).length = N := by rw [HCH.out]; unfold raisedS; rw [List.length_map]; exact HDN.out
        have hcb : ∀ x ∈ cheapS d, -2097152 ≤ x ∧ x ≤ 2097152 := fun x hx => by
          rw [HCH.out] at hx
          unfold raisedS at hx
          obtain ⟨y, hy, rfl⟩ := List.mem_map.1 hx
          have h5 := HT.out.dB y hy
          have h6 := HML.out
          omega
        have hsl : ∀ W, Below wr.heap.size wr W → SliceR intR 1 All W (some ⟨g, 0, none⟩) (cheapS d) := fun W hW => (hRN.below hW).ints (fun y hy => by have := hcb y hy; unfold I64; omega) trivial
        have hck := fcheckG_any N es oe c F wr (HS.out.below edgR_ok HBWw.out) hc (by omega) (cheapS d) (some ⟨g, 0, none⟩) N All (hsl wr (Below.refl _ _)) (by omega) (by omega)
        have hco : ∀ W, Below wr.heap.size wr W → Calls Tryz.prog 47 #[.slice (some ⟨g, 0, none⟩) N N] W fun e w' => e = .returned (.int .i64 (costS (cheapS d))) ∧ W = w' := fun W hW => by
          have h5 := cost_any (cheapS d) (some ⟨g, 0, none⟩) N All W (hsl W hW) (by omega) (by omega) (fun x hx => by have := hcb x hx; omega)
          rw [hcl] at h5
          exact h5
        rw [hcl] at hck
        have hfe : fErr N es (cheapS d) = dErr N (cheapS d) := if_pos HT.out.g
        rw [hfe] at hck
        have HCK := hide hck
        have HCO := hide hco
        have HRN := hide hRN
        have HCL := hide hcl
        have HCB := hide hcb
        have bx := (HX5.out.under HBi.out (by have := HX4.out.lt; have := HG.out; omega))
        have y0 := bx.cell 0
        have y1 := bx.cell 1
        simp only [List.getElem?_cons_zero, List.getElem?_cons_succ] at y0 y1
        clear hie hRN hcl hcb hsl hck hco hfe bx
        go_wp2_with fail
        refine HCK.out.mono ?_
        rintro e w6 ⟨rfl, hb6⟩
        have HB6 := hide (below_then HBWw.out hb6)
        have HRN6 := hide (HRN.out.below hb6)
        have HCO6 := hide (HCO.out w6 hb6)
        clear hb6
        by_cases hz : dErr N (cheapS d) = 0
        · have hR2 : Hid (cheapR N es f d = (cheapS d, costS (cheapS d), 0)) := by show _ = _; rw [hR.out, if_pos hz]
          rw [hz]
          clear hz
          go_wp2_with fail
          refine HCO6.out.mono ?_
          rintro e w7 ⟨rfl, rfl⟩
          go_wp2_with fail
          go_ret3
          refine ⟨_, by rw [hR2.out]; rfl, ?_, HB6.out⟩
          rw [hR2.out, ← HCL.out]
          exact HRN6.out.ownInts (fun x hx => by have := HCB.out x hx; unfold I64; omega) (by have := HB4.out.size; have := HG.out; omega) (by simp) (by unfold maxLen; have := HCL.out; omega)
        · have hR2 : Hid (cheapR N es f d = ([], 0, 11)) := by show _ = _; rw [hR.out, if_neg hz]
          have hq : (dErr N (cheapS d) != 0) = true := by simpa using hz
          clear hz
          go_wp2_with fail
          go_ret3
          exact ⟨_, by rw [hR2.out]; rfl, by rw [hR2.out]; exact OwnS.nil _ _ _ _ _ _, HB6.out⟩
  · have hR : Hid (cheapR n es f d = ([], 0, tErr n es f d)) := if_neg hV
    have hq : (tErr n es f d != 0) = true := by simpa using hV
    go_wp2_with fail
    go_ret3
    exact ⟨_, by rw [hR.out]; rfl, by rw [hR.out]; exact OwnS.nil _ _ _ _ _ _, HB2.out⟩
end Go.Proofs.YtpgopmmobbemcaaGreat

set_option linter.unusedVariables false
set_option linter.unusedSimpArgs false
set_option linter.unnecessarySimpa false
namespace Go.Proofs.YtpgopmmobbemcaaGreat
open Go.RowKit


/-- The order of two lists of the same length. -/
def ordE : List Int → List Int → Int
  | [], _ => 0
  | _, [] => 0
  | x :: l, y :: m => if x < y then -1 else if y < x then 1 else ordE l m
theorem ordE_zero : ∀ {l m : List Int}, l.length = m.length → (ordE l m = 0 ↔ l = m)
  | [], [], _ => by simp [ordE]
  | x :: l, y :: m, h => by
    have ih := ordE_zero (l := l) (m := m) (by simpa using h)
    unfold ordE
    by_cases h1 : x < y
    · rw [if_pos h1]; simp; omega
    · by_cases h2 : y < x
      · rw [if_neg h1, if_pos h2]; simp; omega
      · rw [if_neg h1, if_neg h2, ih]
        have : x = y := by omega
        simp [this]
  | [], _ :: _, h => by simp at h
  | _ :: _, [], h => by simp at h

set_option maxHeartbeats 400000 in
theorem order_any (l m : List Int) (oa ob : Option Addr) (c d : Nat) (F : Foot) (w : World) (hs : SliceR intR 1 F w oa l) (ht : SliceR intR 1 F w ob m) (hc : l.length ≤ c) (hc2 : l.length ≤ 9223372036854775807) (hlen : Hid (l.length = m.length)) :
    Calls Tryz.prog 78 #[.slice oa l.length c, .slice ob m.length d] w fun e w' => e = .returned (.int .i64 (ordE l m)) ∧ Below w.heap.size w w' := by
  go_enter Tryz.func78, Tryz.ntmps78
  go_wp2_with fail
  go_loopw [5] (fun i wr => ∃ k : Nat, k ≤ l.length ∧ i = .int .i64 k ∧ Hid (ordE l m = ordE (l.drop k) (m.drop k)) ∧ Below w.heap.size w wr) (fun i _ => l.length - (intOf i).toNat)
  case atStart => exact ⟨0, by omega, rfl, rfl, Below.refl _ _⟩
  case round =>
    obtain ⟨k, hk, rfl, HE, hb⟩ := hrel
    by_cases hlt : k < l.length
    · obtain ⟨x, hd, _, _, b, off, rfl, _, c0⟩ := (hs.below intR_ok hb).int_at hlt
      have hlt2 : k < m.length := by rw [← hlen.out]; exact hlt
      obtain ⟨x', hd', _, _, b', off', rfl, _, c0'⟩ := (ht.below intR_ok hb).int_at hlt2
      have HE2 : Hid (ordE l m = if x < x' then -1 else if x' < x then 1 else ordE (l.drop (k + 1)) (m.drop (k + 1))) := by show _ = _; rw [HE.out, hd, hd']; rfl
      clear hd hd' hs ht
      by_cases hx : x < x'
      · have q1 : decide (x < x') = true := by simp [hx]
        have HR : Hid (ordE l m = -1) := by show _ = _; rw [HE2.out, if_pos hx]
        clear hx
        go_wp2_with fail
        go_quiet (fail)
        go_wp2_with fail
        go_ret
        exact ⟨ret_int HR.out.symm, below_drewN hb _⟩
      · have q1 : decide (x < x') = false := by simp; omega
        by_cases hx2 : x' < x
        · have q2 : decide (x' < x) = true := by simp [hx2]
          have HR : Hid (ordE l m = 1) := by show _ = _; rw [HE2.out, if_neg hx, if_pos hx2]
          clear hx hx2
          go_wp2_with fail
          go_quiet (fail)
          go_wp2_with fail
          go_quiet (fail)
          go_wp2_with fail
          go_ret
          exact ⟨ret_int HR.out.symm, below_drewN (below_drewN hb _) _⟩
        · have q2 : decide (x' < x) = false := by simp; omega
          have HR : Hid (ordE l m = ordE (l.drop (k + 1)) (m.drop (k + 1))) := by show _ = _; rw [HE2.out, if_neg hx, if_neg hx2]
          clear hx hx2
          go_wp2_with fail
          go_quiet (fail)
          go_wp2_with fail
          go_quiet (fail)
          go_wp2_with fail
          go_roundw
          case rel => exact ⟨k + 1, by omega, by go_num, HR, by first | exact below_drewN hb _ | exact below_drewN (below_drewN hb _) _⟩
          case measure => simp [intOf]; omega
    · have hke : k = l.length := by omega
      have HR : Hid (ordE l m = 0) := by show _ = _; rw [HE.out, hke, List.drop_length]; unfold ordE; rfl
      clear hke
      go_wp2_with fail
      go_ret
      exact ⟨ret_int HR.out.symm, hb⟩

theorem same_any (l m : List Int) (oa ob : Option Addr) (c d : Nat) (F : Foot) (w : World) (hs : SliceR intR 1 F w oa l) (ht : SliceR intR 1 F w ob m) (hc : l.length ≤ c) (hc2 : l.length ≤ 9223372036854775807) :
    Calls Tryz.prog 38 #[.slice oa l.length c, .slice ob m.length d] w fun e w' => e = .returned (.bool (decide (l = m))) ∧ Below w.heap.size w w' := by
  by_cases hlen : l.length = m.length
  · have hl' : ((l.length : Int) != m.length) = false := by simp [hlen]
    have hO := order_any l m oa ob c d F w hs ht hc hc2 hlen
    by_cases hz : ordE l m = 0
    · have HZ : Hid (decide (l = m) = true) := decide_eq_true ((ordE_zero hlen).1 hz)
      rw [hz] at hO
      replace hlen := hide hlen
      clear hz
      go_enter Tryz.func38, Tryz.ntmps38
      go_wp2_with fail
      refine hO.mono ?_
      rintro e w' ⟨rfl, hb⟩
      go_wp2_with fail
      go_ret
      exact ⟨ret_bool HZ.out.symm, hb⟩
    · have HZ : Hid (decide (l = m) = false) := decide_eq_false fun h => hz ((ordE_zero hlen).2 h)
      have q1 : (ordE l m == 0) = false := by simpa using hz
      replace hlen := hide hlen
      clear hz
      go_enter Tryz.func38, Tryz.ntmps38
      go_wp2_with fail
      refine hO.mono ?_
      rintro e w' ⟨rfl, hb⟩
      go_wp2_with fail
      go_ret
      exact ⟨ret_bool HZ.out.symm, hb⟩
  · have hl' : ((l.length : Int) != m.length) = true := by simp; omega
    have HL : Hid (decide (l = m) = false) := decide_eq_false fun h => hlen (by rw [h])
    clear hlen
    go_enter Tryz.func38, Tryz.ntmps38
    go_wp2_with fail
    go_ret
    exact ⟨ret_bool HL.out.symm, Below.refl _ _⟩
theorem sameS_any (l m : List Int) (oa ob : Option Addr) (c d : Nat) (F : Foot) (w : World) (hs : SliceR intR 1 F w oa l) (ht : SliceR intR 1 F w ob m) (hc : l.length ≤ c) (hc2 : l.length ≤ 9223372036854775807) :
    Calls Tryz.prog 15 #[.slice oa l.length c, .slice ob m.length d] w fun e w' => e = .returned (.bool (decide (l = m))) ∧ Below w.heap.size w w' := by
  have hO := same_any l m oa ob c d F w hs ht hc hc2
  go_enter Tryz.func15, Tryz.ntmps15
  go_wp2_with fail
  refine hO.mono ?_
  rintro e w' ⟨rfl, hb⟩
  go_wp2_with fail
  go_ret
  exact ⟨rfl, hb⟩

end Go.Proofs.YtpgopmmobbemcaaGreat

set_option linter.unusedVariables false
set_option linter.unusedSimpArgs false
set_option linter.unnecessarySimpa false
namespace Go.Proofs.YtpgopmmobbemcaaGreat
open Go.RowKit

def triE : List Edg := [⟨0, 1, 1⟩, ⟨0, 2, 1⟩, ⟨1, 2, 1⟩]

theorem i64_s {x : Int} (h : 0 ≤ x ∧ x ≤ 100) : I64 x := by unfold I64; omega
theorem triE_lit (B : Nat) (w : World) (hB : B ≤ w.heap.size) : SliceR edgR 3 (Ge B) (w.alloc (.cells #[.int .i64 0, .int .i64 1, .int .i64 1, .int .i64 0, .int .i64 2, .int .i64 1, .int .i64 1, .int .i64 2, .int .i64 1] 123)) (some ⟨w.heap.size, 0, none⟩) triE :=
  SliceR.lit (F := Ge B) edgR_ok w 123 [[.int .i64 0, .int .i64 1, .int .i64 1], [.int .i64 0, .int .i64 2, .int .i64 1], [.int .i64 1, .int .i64 2, .int .i64 1]] _ (fun i y hy => by
    match i, hy with
    | 0, hy => simp [triE] at hy; subst hy; exact ⟨_, rfl, rfl, i64_s (by decide), i64_s (by decide), i64_s (by decide)⟩
    | 1, hy => simp [triE] at hy; subst hy; exact ⟨_, rfl, rfl, i64_s (by decide), i64_s (by decide), i64_s (by decide)⟩
    | 2, hy => simp [triE] at hy; subst hy; exact ⟨_, rfl, rfl, i64_s (by decide), i64_s (by decide), i64_s (by decide)⟩
    | i + 3, hy => simp [triE] at hy) rfl (fun _ h => h) hB

set_option maxRecDepth 100000 in
theorem tri18_any (w : World) : Calls Tryz.prog 42 #[] w fun e w' => ∃ g, e = .returned (.agg #[.int .i64 3, .slice (some ⟨g, 0, none⟩) 3 3]) ∧ SliceR edgR 3 (Ge w.heap.size) w' (some ⟨g, 0, none⟩) triE ∧ Below w.heap.size w w' := by
  go_enter Tryz.func42, Tryz.ntmps42
  go_wp2_with fail
  have hb := (Box.new w [.int .i64 3, .slice (some ⟨w.heap.size + 1, 0, none⟩) 3 3] 24).next (.cells #[.int .i64 0, .int .i64 1, .int .i64 1, .int .i64 0, .int .i64 2, .int .i64 1, .int .i64 1, .int .i64 2, .int .i64 1] 123)
  have hl := triE_lit w.heap.size (w.alloc (.cells #[.int .i64 3, .slice (some ⟨w.heap.size + 1, 0, none⟩) 3 3] 24)) (by simp)
  rw [World.size_alloc] at hl
  refine bodyPost_ret (results_cell_row rfl _ _ w.heap.size 24 #[.int .i64 3, .slice (some ⟨w.heap.size + 1, 0, none⟩) 3 3] (0, 0) _ rfl hb Tryz.underlying24 rfl (by kernel_rfl)) rfl ?_
  exact ⟨_, rfl, hl, bnew (bnew (Below.refl _ _) _) _⟩

end Go.Proofs.YtpgopmmobbemcaaGreat

set_option linter.unusedVariables false
set_option linter.unusedSimpArgs false
set_option linter.unnecessarySimpa false
namespace Go.Proofs.YtpgopmmobbemcaaGreat
open Go.RowKit

theorem t43_d : tErr 3 triE (forest triE) [-1, 0, 2] = 0 := by decide +kernel
theorem t43_d2 : tErr 3 triE (forest triE) [-1, 0, 1] = 0 := by decide +kernel
theorem t43_debt : debtR 3 triE (forest triE) [-1, 0, 2] = (1, 1, 0) := by decide +kernel
theorem t43_cheap : cheapR 3 triE (forest triE) [-1, -1, 0] = ([0, 0, 1], 1, 0) := by decide +kernel
theorem t43_sol : solveR 3 triE (forest triE) [-1, 0, 2] 3 true = ([0, 0, 1], 1, 0) := by decide +kernel
theorem t43_sol2 : solveR 3 triE (forest triE) [-1, 0, 1] 8 false = ([], 0, 6) := by decide +kernel
theorem gRun_tri (k : Nat) : gRun 3 triE [0] (k + 3) 0 (fun v => [-1, 0, 2].getD v 0) (fun _ => 0) = (true, [-1, -1, 0], 0) := by
  have h : ∀ k, gRun 3 triE [0] (k + 3) 0 (fun v => [-1, 0, 2].getD v 0) (fun _ => 0) = gRun 3 triE [0] (k + 3) 0 (fun v => [-1, 0, 2].getD v 0) (fun _ => 0) := fun _ => rfl
  rfl
theorem gRun_tri2 (k : Nat) : gRun 3 triE [0] (k + 4) 0 (fun v => [-1, 0, 1].getD v 0) (fun _ => 0) = (false, [-1, -1, -1], 0) := by rfl
theorem t43_gre : greedyR 1048576 3 triE (forest triE) [-1, 0, 2] [0] = (true, [-1, -1, 0], 0) := by
  unfold greedyR
  rw [if_neg (by rw [t43_d]; simp), if_neg (by decide)]
  exact gRun_tri 1048573
theorem t43_gre2 : greedyR 1048576 3 triE (forest triE) [-1, 0, 1] [0] = (false, [-1, -1, -1], 0) := by
  unfold greedyR
  rw [if_neg (by rw [t43_d2]; simp), if_neg (by decide)]
  exact gRun_tri2 1048572
theorem t43_win : Winn 3 (linkE triE) (fun v => [-1, 0, 2].getD v 0) := ⟨fun v => if v = 2 then 1 else 0, by decide +kernel⟩
theorem t43_win2 : ¬ Winn 3 (linkE triE) (fun v => [-1, 0, 1].getD v 0) := by
  rintro ⟨s, hs⟩
  have h0 := hs 0 (by omega)
  have h1 := hs 1 (by omega)
  have h2 := hs 2 (by omega)
  have e : ∀ v w, v < 3 → w < 3 → linkE triE v w = if v = w then 0 else 1 := fun v w hv hw => (by decide +kernel : ∀ v, v < 3 → ∀ w, w < 3 → linkE triE v w = if v = w then 0 else 1) v hv w hw
  simp only [app, sumI, e 0 0 (by omega) (by omega), e 0 1 (by omega) (by omega), e 0 2 (by omega) (by omega), e 1 0 (by omega) (by omega), e 1 1 (by omega) (by omega), e 1 2 (by omega) (by omega), e 2 0 (by omega) (by omega), e 2 1 (by omega) (by omega), e 2 2 (by omega) (by omega)] at h0 h1 h2
  simp at h0 h1 h2
  omega
end Go.Proofs.YtpgopmmobbemcaaGreat

set_option linter.unusedVariables false
set_option linter.unusedSimpArgs false
set_option linter.unnecessarySimpa false
namespace Go.Proofs.YtpgopmmobbemcaaGreat
open Go.RowKit

theorem i64_t {x : Int} (h : -100 ≤ x ∧ x ≤ 100) : I64 x := by unfold I64; omega
/-- What awake leans on between its calls. -/
structure T43 (g bx gd : Nat) (W : World) : Prop where
  es : SliceR edgR 3 All W (some ⟨g, 0, none⟩) triE
  ds : SliceR intR 1 All W (some ⟨gd, 0, none⟩) [-1, 0, 2]
  box : Box W bx [.int .i64 3, .slice (some ⟨g, 0, none⟩) 3 3] 24
theorem T43.below {g bx gd : Nat} {W W' : World} (c : T43 g bx gd W) (hb : Below W.heap.size W W') : T43 g bx gd W' :=
  ⟨c.es.below edgR_ok hb, c.ds.below intR_ok hb, c.box.below hb⟩
/-- A list that a call gave. -/
def GivenL (W : World) (v : Value) (l : List Int) : Prop := ∃ oa c, v = .slice oa l.length c ∧ l.length ≤ c ∧ SliceR intR 1 All W oa l
theorem OwnS.givenL {B : Nat} {W : World} {rv : Value} {l : List Int} (h : OwnS intR 1 B 3 Non W rv l) : GivenL W rv l := by
  obtain ⟨oa, c, e, hc, hs⟩ := h.slice intR_ok
  exact ⟨oa, c, e, hc, hs.all intR_ok (by decide)⟩
theorem GivenL.below {W W' : World} {v : Value} {l : List Int} (h : GivenL W v l) (hb : Below W.heap.size W W') : GivenL W' v l := by
  obtain ⟨oa, c, e, hc, hs⟩ := h
  exact ⟨oa, c, e, hc, hs.below intR_ok hb⟩
theorem hU43 : Hid (gErr 3 triE = 0 → Uf (forest triE) (eL triE)) := forest_ok 3 triE
section
variable {g bx gd : Nat} {W : World} (C : T43 g bx gd W)
include C
theorem tri43_debt : Calls Tryz.prog 23 #[.agg #[.int .i64 3, .slice (some ⟨g, 0, none⟩) 3 3], .slice (some ⟨gd, 0, none⟩) 3 3] W (Int3Post W (1, 1, 0)) := by
  have h5 := debt_any 3 triE (some ⟨g, 0, none⟩) 3 All W C.es (by decide) (by decide) (forest triE) hU43 [-1, 0, 2] (some ⟨gd, 0, none⟩) 3 All C.ds (by decide) (by decide)
  rw [t43_debt] at h5
  exact h5
theorem tri43_solve : Calls Tryz.prog 20 #[.agg #[.int .i64 3, .slice (some ⟨g, 0, none⟩) 3 3], .slice (some ⟨gd, 0, none⟩) 3 3, .int .i64 3] W fun e w' => ∃ v, e = .returned (.tuple #[v, .int .i64 1, .int .i64 0]) ∧ GivenL w' v [0, 0, 1] ∧ Below W.heap.size W w' := by
  refine (solve_any 3 triE (some ⟨g, 0, none⟩) 3 All W C.es (by decide) (by decide) (forest triE) hU43 [-1, 0, 2] (some ⟨gd, 0, none⟩) 3 All C.ds (by decide) (by decide) (fun _ => ⟨by decide, by decide, by decide⟩) 3 (i64_t (by decide))).mono ?_
  rintro e w' ⟨b, hb, oa, c, rfl, hc, hs, hbb⟩
  have hbt : b = true := (hb t43_d).2 t43_win
  subst hbt
  rw [t43_sol] at hc hs ⊢
  exact ⟨_, rfl, ⟨oa, c, rfl, hc, hs⟩, hbb⟩
theorem tri43_solve2 (oa : Option Addr) (hd : SliceR intR 1 All W oa [-1, 0, 1]) : Calls Tryz.prog 20 #[.agg #[.int .i64 3, .slice (some ⟨g, 0, none⟩) 3 3], .slice oa 3 3, .int .i64 8] W fun e w' => ∃ v, e = .returned (.tuple #[v, .int .i64 0, .int .i64 6]) ∧ Below W.heap.size W w' := by
  refine (solve_any 3 triE (some ⟨g, 0, none⟩) 3 All W C.es (by decide) (by decide) (forest triE) hU43 [-1, 0, 1] oa 3 All hd (by decide) (by decide) (fun _ => ⟨by decide, by decide, by decide⟩) 8 (i64_t (by decide))).mono ?_
  rintro e w' ⟨b, hb, oa, c, rfl, hc, hs, hbb⟩
  have hbt : b = false := by
    cases b with
    | false => rfl
    | true => exact absurd ((hb t43_d2).1 rfl) t43_win2
  subst hbt
  rw [t43_sol2]
  exact ⟨_, rfl, hbb⟩
theorem tri43_greedy (op : Option Addr) (hp : SliceR intR 1 All W op [0]) : Calls Tryz.prog 17 #[.agg #[.int .i64 3, .slice (some ⟨g, 0, none⟩) 3 3], .slice (some ⟨gd, 0, none⟩) 3 3, .slice op 1 1] W fun e w' => ∃ v, e = .returned (.tuple #[.bool true, v, .int .i64 0]) ∧ GivenL w' v [-1, -1, 0] ∧ Below W.heap.size W w' := by
  refine (greedy_any 3 triE (some ⟨g, 0, none⟩) 3 All W C.es (by decide) (by decide) (forest triE) hU43 [-1, 0, 2] (some ⟨gd, 0, none⟩) 3 All C.ds (by decide) (by decide) [0] op 1 All hp (by decide) (by decide)).mono ?_
  rintro e w' ⟨v, rfl, ho, hb⟩
  rw [t43_gre] at ho ⊢
  exact ⟨v, rfl, ho.givenL, hb⟩
theorem tri43_greedy2 (oa op : Option Addr) (hd : SliceR intR 1 All W oa [-1, 0, 1]) (hp : SliceR intR 1 All W op [0]) : Calls Tryz.prog 17 #[.agg #[.int .i64 3, .slice (some ⟨g, 0, none⟩) 3 3], .slice oa 3 3, .slice op 1 1] W fun e w' => ∃ v, e = .returned (.tuple #[.bool false, v, .int .i64 0]) ∧ GivenL w' v [-1, -1, -1] ∧ Below W.heap.size W w' := by
  refine (greedy_any 3 triE (some ⟨g, 0, none⟩) 3 All W C.es (by decide) (by decide) (forest triE) hU43 [-1, 0, 1] oa 3 All hd (by decide) (by decide) [0] op 1 All hp (by decide) (by decide)).mono ?_
  rintro e w' ⟨v, rfl, ho, hb⟩
  rw [t43_gre2] at ho ⊢
  exact ⟨v, rfl, ho.givenL, hb⟩
theorem tri43_cheap (oa : Option Addr) (c : Nat) (hc : 3 ≤ c) (hd : SliceR intR 1 All W oa [-1, -1, 0]) : Calls Tryz.prog 13 #[.agg #[.int .i64 3, .slice (some ⟨g, 0, none⟩) 3 3], .slice oa 3 c] W fun e w' => ∃ v, e = .returned (.tuple #[v, .int .i64 1, .int .i64 0]) ∧ GivenL w' v [0, 0, 1] ∧ Below W.heap.size W w' := by
  refine (cheapest_any 3 triE (some ⟨g, 0, none⟩) 3 All W C.es (by decide) (by decide) (forest triE) hU43 [-1, -1, 0] oa c All hd hc (by decide)).mono ?_
  rintro e w' ⟨v, rfl, ho, hb⟩
  rw [t43_cheap] at ho ⊢
  exact ⟨v, rfl, ho.givenL, hb⟩
end
theorem same_lit (l m : List Int) (oa ob : Option Addr) (c d : Nat) (W : World) (hc : l.length ≤ c) (hl : l.length ≤ 9223372036854775807) (hs : SliceR intR 1 All W oa l) (hm : SliceR intR 1 All W ob m) {j k : Nat} (hj : j = l.length) (hk : k = m.length) :
    Calls Tryz.prog 15 #[.slice oa j c, .slice ob k d] W fun e w' => e = .returned (.bool (decide (l = m))) ∧ Below W.heap.size W w' := by
  subst hj hk
  exact sameS_any l m oa ob c d All W hs hm hc hl
theorem ints_l (W : World) (l : List Int) (hl : ∀ x ∈ l, -100 ≤ x ∧ x ≤ 100) (cs : Array Value) (hcs : cs = (l.map (Value.int .i64)).toArray) : SliceR intR 1 All (W.alloc (.cells cs 3)) (some ⟨W.heap.size, 0, none⟩) l := by
  subst hcs
  exact ints_lit (F := All) (G := All) W 3 l (fun x hx => i64_t (hl x hx)) trivial
set_option maxRecDepth 100000 in
set_option maxHeartbeats 4000000 in
theorem awake43_any (w : World) : Calls Tryz.prog 12 #[] w fun e w' => e = .returned (.bool true) ∧ Below w.heap.size w w' := by
  go_enter Tryz.func12, Tryz.ntmps12
  go_wp2_with fail
  refine (tri18_any _).mono ?_
  rintro e w1 ⟨g, rfl, hE, hb1⟩
  obtain ⟨W2, hW2⟩ : ∃ W2, (w1.alloc (.cells #[.int .i64 (-1), .int .i64 0, .int .i64 2] 3)).alloc (.cells #[.int .i64 3, .slice (some ⟨g, 0, none⟩) 3 3] 24) = W2 := ⟨_, rfl⟩
  have hb12 : Below w1.heap.size w1 W2 := by rw [← hW2]; exact bnew (bnew (Below.refl _ _) _) _
  have C2 : T43 g (w1.heap.size + 1) w1.heap.size W2 := by
    refine ⟨(hE.all edgR_ok (by decide)).below edgR_ok hb12, ?_, ?_⟩
    · rw [← hW2]
      exact (ints_l w1 [-1, 0, 2] (by decide) _ rfl).below intR_ok (bnew (Below.refl _ _) _)
    · have := Box.new (w1.alloc (.cells #[.int .i64 (-1), .int .i64 0, .int .i64 2] 3)) [.int .i64 3, .slice (some ⟨g, 0, none⟩) 3 3] 24
      rw [← hW2]
      simpa using this
  have HC := hide C2
  have hB2 := hide (hb1.trans (hb12.mono hb1.size))
  have d0 := C2.box.cell 0
  have d1 := C2.box.cell 1
  simp only [List.getElem?_cons_zero, List.getElem?_cons_succ] at d0 d1
  clear hE hb1 hb12 C2
  go_wp2_with fail
  clear d0 d1 hW2
  refine (tri43_debt HC.out).mono ?_
  rintro e W3 ⟨rfl, hb⟩
  have HC := hide (HC.out.below hb)
  have hB2 := hide (hB2.out.trans (hb.mono hB2.out.size))
  have d0 := HC.out.box.cell 0
  have d1 := HC.out.box.cell 1
  simp only [List.getElem?_cons_zero, List.getElem?_cons_succ] at d0 d1
  clear hb
  go_wp2_with fail
  clear d0 d1
  refine (tri43_solve HC.out).mono ?_
  rintro e W4 ⟨sv, rfl, hgs, hb⟩
  obtain ⟨oS, cS, rfl, hcS, hsS⟩ := hgs
  have HSS := hide hsS
  have HC := hide (HC.out.below hb)
  have hB2 := hide (hB2.out.trans (hb.mono hB2.out.size))
  have d0 := HC.out.box.cell 0
  have d1 := HC.out.box.cell 1
  simp only [List.getElem?_cons_zero, List.getElem?_cons_succ] at d0 d1
  clear hb hsS
  go_wp2_with fail
  clear d0 d1
  have hbq := bnew (Below.refl W4.heap.size W4) (.cells #[.int .i64 0] 3)
  refine (tri43_greedy (HC.out.below hbq) _ (ints_l W4 [0] (by decide) _ rfl)).mono ?_
  rintro e W5 ⟨tv, rfl, hgt, hb⟩
  obtain ⟨oT, cT, rfl, hcT, hsT⟩ := hgt
  replace hb := hbq.trans (hb.mono hbq.size)
  have HST := hide hsT
  have HSS := hide (HSS.out.below intR_ok hb)
  have HC := hide (HC.out.below hb)
  have hB2 := hide (hB2.out.trans (hb.mono hB2.out.size))
  have d0 := HC.out.box.cell 0
  have d1 := HC.out.box.cell 1
  simp only [List.getElem?_cons_zero, List.getElem?_cons_succ] at d0 d1
  clear hb hsT hbq
  go_wp2_with fail
  clear d0 d1
  have hbq := bnew (Below.refl W5.heap.size W5) (.cells #[.int .i64 0, .int .i64 0, .int .i64 1] 3)
  refine (same_lit [0, 0, 1] [0, 0, 1] oS _ cS _ _ hcS (by decide) (HSS.out.below intR_ok hbq) (ints_l W5 [0, 0, 1] (by decide) _ rfl) rfl rfl).mono ?_
  rintro e W6 ⟨rfl, hb⟩
  replace hb := hbq.trans (hb.mono hbq.size)
  have HSS := hide (HSS.out.below intR_ok hb)
  have HST := hide (HST.out.below intR_ok hb)
  have HC := hide (HC.out.below hb)
  have hB2 := hide (hB2.out.trans (hb.mono hB2.out.size))
  have d0 := HC.out.box.cell 0
  have d1 := HC.out.box.cell 1
  simp only [List.getElem?_cons_zero, List.getElem?_cons_succ] at d0 d1
  clear hb hbq
  go_wp2_with fail
  clear d0 d1
  have hbq := bnew (Below.refl W6.heap.size W6) (.cells #[.int .i64 (-1), .int .i64 (-1), .int .i64 0] 3)
  refine (same_lit [-1, -1, 0] [-1, -1, 0] oT _ cT _ _ hcT (by decide) (HST.out.below intR_ok hbq) (ints_l W6 [-1, -1, 0] (by decide) _ rfl) rfl rfl).mono ?_
  rintro e W7 ⟨rfl, hb⟩
  replace hb := hbq.trans (hb.mono hbq.size)
  have HSS := hide (HSS.out.below intR_ok hb)
  have HST := hide (HST.out.below intR_ok hb)
  have HC := hide (HC.out.below hb)
  have hB2 := hide (hB2.out.trans (hb.mono hB2.out.size))
  have d0 := HC.out.box.cell 0
  have d1 := HC.out.box.cell 1
  simp only [List.getElem?_cons_zero, List.getElem?_cons_succ] at d0 d1
  clear hb hbq
  go_wp2_with fail
  clear d0 d1
  refine (tri43_cheap HC.out oT cT hcT HST.out).mono ?_
  rintro e W8 ⟨cv, rfl, hgc, hb⟩
  obtain ⟨oC, cC, rfl, hcC, hsC⟩ := hgc
  have HSC := hide hsC
  have HSS := hide (HSS.out.below intR_ok hb)
  have HC := hide (HC.out.below hb)
  have hB2 := hide (hB2.out.trans (hb.mono hB2.out.size))
  have d0 := HC.out.box.cell 0
  have d1 := HC.out.box.cell 1
  simp only [List.getElem?_cons_zero, List.getElem?_cons_succ] at d0 d1
  clear hb hsC HST
  go_wp2_with fail
  clear d0 d1
  have hbq := bnew (bnew (Below.refl W8.heap.size W8) (.cells #[.int .i64 (-1), .int .i64 0, .int .i64 1] 3)) (.cells #[.int .i64 0] 3)
  have hz2 := ints_l (W8.alloc (.cells #[.int .i64 (-1), .int .i64 0, .int .i64 1] 3)) [0] (by decide) _ rfl
  rw [alloc_size'] at hz2
  refine (tri43_greedy2 (HC.out.below hbq) _ _ ((ints_l W8 [-1, 0, 1] (by decide) _ rfl).below intR_ok (bnew (Below.refl _ _) _)) hz2).mono ?_
  rintro e W9 ⟨uv, rfl, hgu, hb⟩
  obtain ⟨oU, cU, rfl, hcU, hsU⟩ := hgu
  replace hb := hbq.trans (hb.mono hbq.size)
  have HSU := hide hsU
  have HSC := hide (HSC.out.below intR_ok hb)
  have HSS := hide (HSS.out.below intR_ok hb)
  have HC := hide (HC.out.below hb)
  have hB2 := hide (hB2.out.trans (hb.mono hB2.out.size))
  have d0 := HC.out.box.cell 0
  have d1 := HC.out.box.cell 1
  simp only [List.getElem?_cons_zero, List.getElem?_cons_succ] at d0 d1
  clear hb hbq hsU hz2
  go_wp2_with fail
  clear d0 d1
  have hbq := bnew (Below.refl W9.heap.size W9) (.cells #[.int .i64 (-1), .int .i64 0, .int .i64 1] 3)
  refine (tri43_solve2 (HC.out.below hbq) _ (ints_l W9 [-1, 0, 1] (by decide) _ rfl)).mono ?_
  rintro e W10 ⟨xv, rfl, hb⟩
  replace hb := hbq.trans (hb.mono hbq.size)
  have HSU := hide (HSU.out.below intR_ok hb)
  have HSC := hide (HSC.out.below intR_ok hb)
  have HSS := hide (HSS.out.below intR_ok hb)
  have HC := hide (HC.out.below hb)
  have hB2 := hide (hB2.out.trans (hb.mono hB2.out.size))
  have d0 := HC.out.box.cell 0
  have d1 := HC.out.box.cell 1
  simp only [List.getElem?_cons_zero, List.getElem?_cons_succ] at d0 d1
  clear hb hbq d0 d1
  go_wp2_with fail
  refine (same_lit [0, 0, 1] [0, 0, 1] oC oS cC cS _ hcC (by decide) HSC.out HSS.out rfl rfl).mono ?_
  rintro e W11 ⟨rfl, hb⟩
  have HSU := hide (HSU.out.below intR_ok hb)
  have hB2 := hide (hB2.out.trans (hb.mono hB2.out.size))
  clear hb
  go_wp2_with fail
  have hbq := bnew (Below.refl W11.heap.size W11) (.cells #[.int .i64 (-1), .int .i64 (-1), .int .i64 (-1)] 3)
  refine (same_lit [-1, -1, -1] [-1, -1, -1] oU _ cU _ _ hcU (by decide) (HSU.out.below intR_ok hbq) (ints_l W11 [-1, -1, -1] (by decide) _ rfl) rfl rfl).mono ?_
  rintro e W12 ⟨rfl, hb⟩
  replace hb := hbq.trans (hb.mono hbq.size)
  have hB2 := hide (hB2.out.trans (hb.mono hB2.out.size))
  clear hb hbq
  go_wp2_with fail
  go_ret
  exact ⟨by first | rfl | trivial, hB2.out⟩
end Go.Proofs.YtpgopmmobbemcaaGreat

set_option linter.unusedVariables false
set_option linter.unusedSimpArgs false
namespace Go.Proofs.YtpgopmmobbemcaaGreat
open Go.RowKit

theorem wpList_append_one {α : Type} {R : Rep α} {P : Program} {w : World} {ops : Array Oper} {rest : List Oper} {o : Oper} {a : Act} {Q : Exit → Act → World → Prop} (hgd : o.guard = none) (s x : Operand) (t : TypeId)
    (ho : o.op = .call { callee := .builtin .append, args := #[s, x], argTypes := #[t, t] })
    (base : Nat) (e : TypeId) (z : Value) (size bytes : Nat) (ht : P.underlying t = some (.slice e)) (hinfo : (P.info? e).map (fun i => (i.zero, i.size, i.bytes)) = some (some z, size, bytes))
    (hzs : z.cells.size = size) (hsz : 0 < size) (ok : RepOk R size) (v : Value) (xs : List α) (hs : a.eval s = v) (hown : OwnS R size base e Non w v xs)
    (ad : Addr) (c : Nat) (news : List Value) (y : α) (hx : a.eval x = .slice (some ad) 1 c) (hnews : ∀ j u, news[j]? = some u → w.cell? (ad.add j) = some u) (hR : R Non w news y)
    (hbytes : (xs.length + 1) * bytes ≤ 140737488355328) (hm : xs.length + 1 ≤ maxLen) (hbase : base ≤ w.heap.size)
    (hK : ∀ v' w', OwnS R size base e Non w' v' (xs ++ [y]) → Below base w w' → w.grownBy w' v.ownBlock → wpList P ops Q rest (a.put o.dst v') w') : wpList P ops Q (o :: rest) a w :=
  wpList_append_in hgd s x t ho base e z size bytes ht hinfo hzs hsz ok Non v xs hs (hown.wide ok fun k hk _ => hk.elim) ad c news y hx hnews (ok.wide hR fun k hk _ => hk.elim) hbytes hm hbase fun v' w' h1 h2 h3 _ => hK v' w' (h1.wide ok fun k hk _ => hk.1.elim) h2 h3
end Go.Proofs.YtpgopmmobbemcaaGreat

set_option linter.unusedVariables false
set_option linter.unusedSimpArgs false
set_option linter.unnecessarySimpa false
namespace Go.Proofs.YtpgopmmobbemcaaGreat
open Go.RowKit

theorem tabInfoD : (Tryz.prog.info? 25).map (fun i => (i.zero, i.size, i.bytes)) = some (some (.slice none 0 0), 1, 24) := by kernel_rfl
set_option maxRecDepth 100000 in
set_option maxHeartbeats 2000000 in
theorem rtab08_any (n : Nat) (hn : n ≤ 12) (w : World) : Calls Tryz.prog 121 #[.int .i64 n] w fun e w' => ∃ tw rs, e = .returned tw ∧ RTab w.heap.size tw rs w' ∧ tabL rs = List.replicate n (List.replicate n 0) ∧ Below w.heap.size w w' := by
  obtain ⟨Zs, hZs, hmk⟩ := mk_ints 25 3 Tryz.underlying25 (by kernel_rfl) n (by omega)
  have HZS := hide hZs
  clear hZs
  go_enter Tryz.func121, Tryz.ntmps121
  go_wp2_with fail
  go_loopg [3, 4] n (fun gm tv iv wx => ∃ (i : Nat) (rs : List Rw), i ≤ n ∧ gm = n - i ∧ iv = .int .i64 i ∧ Hid (RTab w.heap.size tv rs wx) ∧ Hid (tabL rs = List.replicate i (List.replicate n 0)) ∧ Hid (Below w.heap.size w wx))
  case atStart => exact ⟨0, [], by omega, by omega, rfl, RTab.nil _ _, rfl, Below.refl _ _⟩
  case round =>
    obtain ⟨i, rs, hi, hgm, rfl, HT, HL, HB⟩ := hrel
    have HGM := hide hgm
    clear hgm
    have HLEN : Hid (rs.length = i) := by
      have h5 := congrArg List.length HL.out
      show _ = _
      simpa [tabL] using h5
    have HML : Hid ((rs.map Rw.val).length = i) := by show _ = _; rw [List.length_map]; exact HLEN.out
    by_cases hlt : i < n
    · have HT1 := hide ((HT.out.below (bnew (Below.refl _ _) (.cells Zs 3))).below (bnew (Below.refl _ _) (.cells #[.slice (some ⟨wr.heap.size, 0, none⟩) n n] 25)))
      have hs := HB.out.size
      go_wp2_with (at_builtin; (refine wpList_append_one rfl (.tmp 10) (.tmp 13) 129 rfl w.heap.size 25 _ 1 24 Tryz.underlying129 tabInfoD rfl (by decide) valR_ok u3 (rs.map Rw.val) (by simp [Act.eval, Act.put]) HT1.out.tab ⟨wr.heap.size + 1, 0, none⟩ 1 [.slice (some ⟨wr.heap.size, 0, none⟩) n n] (.slice (some ⟨wr.heap.size, 0, none⟩) n n) (by simp [Act.eval, Act.put]) (World.news_of_block (heap_alloc2_new _ _ _)) ⟨rfl, rfl⟩ (by rw [HML.out]; omega) (by rw [HML.out]; unfold maxLen; omega) (by rw [alloc_size', alloc_size']; omega) (fun v' w8 ho hb8 hg8 => ?_)); have HO8 := hide ho; have HB8 := hide hb8; have HG8 := hide hg8; clear ho hb8 hg8)
      have HP : Hid (RTab w.heap.size v' (rs ++ [⟨wr.heap.size, n, List.replicate n 0, []⟩]) w8) := by
        refine HT.out.push (r := ⟨wr.heap.size, n, List.replicate n 0, []⟩) (W' := w8) (by unfold Rw.val slV; simp only [List.length_replicate]; exact HO8.out) (fun k hk hne => ?_) ?_ (Nat.le_refl _) hs (by simp)
        · exact (HG8.out.block k (by rw [alloc_size', alloc_size']; omega) hne).trans ((Below.heap_alloc _ _ k (by rw [alloc_size']; omega)).trans (Below.heap_alloc _ _ k hk))
        · refine ((row_new HZS.out wr).new _).keep (HG8.out.block wr.heap.size (by rw [alloc_size', alloc_size']; omega) (fun e => ?_))
          have h5 := (HT.out.tab.block _ e.symm).2
          omega
      have HQ : Hid (tabL (rs ++ [⟨wr.heap.size, n, List.replicate n 0, []⟩]) = List.replicate (i + 1) (List.replicate n 0)) := by
        show _ = _
        unfold tabL
        rw [List.map_append, List.replicate_succ']
        have h5 := HL.out
        unfold tabL at h5
        rw [h5]
        rfl
      have HBB : Hid (Below w.heap.size w w8) := ((HB.out.alloc hs _).alloc (by rw [alloc_size']; omega) _).trans HB8.out
      go_roundg (n - (i + 1))
      case rel => exact ⟨i + 1, _, by omega, rfl, by go_num, HP, HQ, HBB⟩
      case measure => rw [HGM.out]; omega
    · have hie : i = n := by omega
      rw [hie] at HL
      clear hie
      go_wp2_with fail
      go_ret
      exact ⟨_, rs, rfl, HT.out, HL.out, HB.out⟩
/-- The valences. -/
def valsL (es : List Edg) (n : Nat) : Nat → List Int
  | 0 => []
  | k + 1 => valsL es n k ++ [valU es (k : Int) n]
theorem valsL_len (es : List Edg) (n : Nat) : ∀ k, (valsL es n k).length = k
  | 0 => rfl
  | k + 1 => by unfold valsL; rw [List.length_append, valsL_len es n k]; rfl
theorem valsL_get (es : List Edg) (n : Nat) {v : Nat} : ∀ {k}, v < k → (valsL es n k)[v]? = some (valU es v n)
  | 0, h => by omega
  | k + 1, h => by
    unfold valsL
    by_cases e : v < k
    · rw [List.getElem?_append_left (by rw [valsL_len]; exact e)]
      exact valsL_get es n e
    · have : v = k := by omega
      subst this
      rw [List.getElem?_append_right (by rw [valsL_len]; omega), valsL_len]
      simp
set_option maxRecDepth 100000 in
set_option maxHeartbeats 2000000 in
theorem rvals_any (n : Nat) (hn : n ≤ 12) (es : List Edg) (oe : Option Addr) (c : Nat) (F : Foot) (w : World) (hs : SliceR edgR 3 F w oe es) (hc : es.length ≤ c) (hc2 : es.length ≤ 1000) (hm : Hid (∀ x ∈ es, 0 ≤ x.m ∧ x.m ≤ 50)) :
    Calls Tryz.prog 92 #[.agg #[.int .i64 n, .slice oe es.length c]] w fun e w' => ∃ v, e = .returned v ∧ OwnS intR 1 w.heap.size 3 Non w' v (valsL es n n) ∧ Below w.heap.size w w' := by
  obtain ⟨W1, e1⟩ : ∃ W1, w.alloc (.cells #[.int .i64 n, .slice oe es.length c] 24) = W1 := ⟨_, rfl⟩
  have bx1 : Box W1 w.heap.size [.int .i64 n, .slice oe es.length c] 24 := by rw [← e1]; exact Box.new w [.int .i64 n, .slice oe es.length c] 24
  have bb1 := bnew (Below.refl w.heap.size w) (.cells #[.int .i64 n, .slice oe es.length c] 24)
  rw [e1] at bb1
  have HX := hide bx1
  have HB1 := hide bb1
  have hwl := bx1.lt
  have HS1 := hide (hs.below edgR_ok bb1)
  clear hs bx1 bb1
  go_enter Tryz.func92, Tryz.ntmps92
  go_wp2_with fail
  clear e1
  go_loopg [3, 4] n (fun gm pv iv wx => ∃ i : Nat, i ≤ n ∧ gm = n - i ∧ iv = .int .i64 i ∧ Hid (OwnS intR 1 W1.heap.size 3 Non wx pv (valsL es n i)) ∧ Hid (Below W1.heap.size W1 wx))
  case atStart => exact ⟨0, by omega, by omega, rfl, OwnS.nil _ _ _ _ _ _, Below.refl _ _⟩
  case round =>
    obtain ⟨i, hi, hgm, rfl, HO, HB⟩ := hrel
    have HGM := hide hgm
    clear hgm
    have bx := HX.out.below HB.out
    have y0 := bx.cell 0
    have y1 := bx.cell 1
    simp only [List.getElem?_cons_zero, List.getElem?_cons_succ] at y0 y1
    by_cases hlt : i < n
    · have HV := hide (val_any n hn es oe c F wr (HS1.out.below edgR_ok HB.out) hc hc2 hm (i : Int))
      have hvr := valU_range hm.out (i : Int) n
      have HVN : Hid (valsL es n (i + 1) = valsL es n i ++ [valU es (i : Int) n]) := rfl
      have HVL := hide (valsL_len es n i)
      have hiv : I64 (valU es (i : Int) n) := by unfold I64; omega
      generalize valU es (i : Int) n = x at *
      clear bx
      go_wp2_with fail
      refine HV.out.mono ?_
      rintro e w3 ⟨rfl, hb3⟩
      have HO3 := hide (HO.out.below intR_ok hb3)
      have HB3 := hide (below_then HB.out hb3)
      clear hb3 y0 y1
      go_wp2_with (at_builtin; refine wpList_append_rep rfl (.tmp 11) (.tmp 15) 25 rfl W1.heap.size 3 _ 1 8 Tryz.underlying25 iInfo rfl (by decide) intR_ok Non All _ (valsL es n i) (by simp [Act.eval, Act.put]) (HO3.out.new intR_ok _) (some ⟨w3.heap.size, 0, none⟩) 1 [x] (by simp [Act.eval, Act.put]) (intlF w3 x hiv trivial) (fun _ _ h => h) (fun _ h => h.elim) (by rw [HVL.out]; simp; omega) (by rw [HVL.out]; simp; omega) (by rw [alloc_size']; have := HB3.out.size; omega) ?_; intro v' w14 ho hb5 hg5; have HO5 := hide ho; have HB5' := hide hb5; clear ho hb5 hg5)
      go_roundg (n - (i + 1))
      case rel => exact ⟨i + 1, by omega, rfl, by go_num, by rw [HVN.out]; exact HO5.out, (HB3.out.alloc HB3.out.size _).trans HB5'.out⟩
      case measure => rw [HGM.out]; omega
    · have hie : i = n := by omega
      rw [hie] at HO
      clear hie bx
      go_wp2_with fail
      go_ret
      exact ⟨_, rfl, HO.out.rebase (by omega), HB1.out.trans (HB.out.mono (by omega))⟩
end Go.Proofs.YtpgopmmobbemcaaGreat

set_option linter.unusedVariables false
set_option linter.unusedSimpArgs false
set_option linter.unnecessarySimpa false
namespace Go.Proofs.YtpgopmmobbemcaaGreat
open Go.RowKit

/-- The table up to row v, column w. -/
def tabP (es : List Edg) (n v w : Nat) : List (List Int) := (List.range n).map fun i => lst n fun j => if (i < v ∨ (i = v ∧ j < w)) ∧ i ≠ j then betw es i j else 0
theorem tabP_zero (es : List Edg) (n : Nat) : tabP es n 0 0 = List.replicate n (List.replicate n 0) := by
  apply List.ext_getElem?
  intro i
  unfold tabP
  rw [List.getElem?_map, List.getElem?_replicate]
  by_cases hi : i < n
  · rw [List.getElem?_range hi, if_pos hi]
    simp only [Option.map_some]
    congr 1
    apply List.ext_getElem?
    intro j
    by_cases hj : j < n
    · rw [lst_get _ hj, List.getElem?_replicate, if_pos hj, if_neg (by omega)]
    · rw [List.getElem?_eq_none (by rw [lst_len]; omega), List.getElem?_eq_none (by simp; omega)]
  · rw [List.getElem?_eq_none (by simp; omega), if_neg hi]
    rfl
theorem tabP_row {es : List Edg} {n v w i : Nat} (hi : i < n) : (tabP es n v w)[i]? = some (lst n fun j => if (i < v ∨ (i = v ∧ j < w)) ∧ i ≠ j then betw es i j else 0) := by
  unfold tabP
  rw [List.getElem?_map, List.getElem?_range hi]
  rfl
theorem tabP_len (es : List Edg) (n v w : Nat) : (tabP es n v w).length = n := by simp [tabP]
theorem tabP_next (es : List Edg) (n v : Nat) : tabP es n v n = tabP es n (v + 1) 0 := by
  unfold tabP
  apply List.map_congr_left
  intro i _
  refine lst_congr fun j hj => ?_
  by_cases h : i ≠ j
  · by_cases h2 : i < v + 1
    · rw [if_pos ⟨by omega, h⟩, if_pos ⟨by omega, h⟩]
    · rw [if_neg (by omega), if_neg (by omega)]
  · rw [if_neg (fun h2 => h h2.2), if_neg (fun h2 => h h2.2)]
theorem tabP_same {es : List Edg} {n v w : Nat} (h : v = w) : tabP es n v (w + 1) = tabP es n v w := by
  unfold tabP
  apply List.map_congr_left
  intro i _
  refine lst_congr fun j hj => ?_
  by_cases h2 : (i < v ∨ (i = v ∧ j < w)) ∧ i ≠ j
  · rw [if_pos ⟨by omega, h2.2⟩, if_pos h2]
  · rw [if_neg h2, if_neg (by omega)]
theorem tabP_set {es : List Edg} {n v w : Nat} (h : v ≠ w) (hv : v < n) (hw : w < n) : tabP es n v (w + 1) = (tabP es n v w).set v ((lst n fun j => if (v < v ∨ (v = v ∧ j < w)) ∧ v ≠ j then betw es v j else 0).set w (betw es v w)) := by
  apply List.ext_getElem?
  intro i
  by_cases hi : i < n
  · rw [tabP_row hi, List.getElem?_set]
    by_cases e : v = i
    · subst e
      rw [if_pos rfl, if_pos (by rw [tabP_len]; exact hi), lst_set]
      congr 1
      refine lst_congr fun j hj => ?_
      unfold updF
      by_cases e2 : j = w
      · subst e2
        rw [if_pos rfl, if_pos ⟨by omega, h⟩]
      · rw [if_neg e2]
        show (if (v < v ∨ (v = v ∧ j < w + 1)) ∧ v ≠ j then betw es v j else 0) = (if (v < v ∨ (v = v ∧ j < w)) ∧ v ≠ j then betw es v j else 0)
        by_cases h2 : (v < v ∨ (v = v ∧ j < w)) ∧ v ≠ j
        · rw [if_pos ⟨by omega, h2.2⟩, if_pos h2]
        · rw [if_neg h2, if_neg (by omega)]
    · rw [if_neg e, tabP_row hi]
      congr 1
      refine lst_congr fun j hj => ?_
      by_cases h2 : (i < v ∨ (i = v ∧ j < w)) ∧ i ≠ j
      · rw [if_pos ⟨by omega, h2.2⟩, if_pos h2]
      · rw [if_neg h2, if_neg (by omega)]
  · rw [List.getElem?_eq_none (by rw [tabP_len]; omega), List.getElem?_eq_none (by rw [List.length_set, tabP_len]; omega)]
theorem cell_put {W : World} {p q : Addr} {v x : Value} (h : W.cell? q = some v) (hne : q.block ≠ p.block) : (W.setCell p x).cell? q = some v := by
  unfold World.cell? at h ⊢
  rw [Below.heap_setCell W p x q.block hne]
  exact h
theorem RTab.rebase {B B' : Nat} {tw : Value} {rs : List Rw} {W : World} (h : RTab B tw rs W) (hb : B' ≤ B) : RTab B' tw rs W :=
  ⟨h.tab.rebase hb, fun r hr => ⟨(h.row r hr).1, by have := (h.row r hr).2.1; omega, (h.row r hr).2.2⟩, h.inj⟩
set_option maxRecDepth 100000 in
set_option maxHeartbeats 8000000 in
theorem rrows_any (n : Nat) (hn : n ≤ 12) (es : List Edg) (oe : Option Addr) (c : Nat) (F : Foot) (w : World) (hs : SliceR edgR 3 F w oe es) (hc : es.length ≤ c) (hc2 : es.length ≤ 1000) (hm : Hid (∀ x ∈ es, 0 ≤ x.m ∧ x.m ≤ 50)) :
    Calls Tryz.prog 91 #[.agg #[.int .i64 n, .slice oe es.length c]] w fun e w' => ∃ tw rs, e = .returned tw ∧ RTab w.heap.size tw rs w' ∧ tabL rs = tabP es n n 0 ∧ Below w.heap.size w w' := by
  obtain ⟨W1, e1⟩ : ∃ W1, w.alloc (.cells #[.int .i64 n, .slice oe es.length c] 24) = W1 := ⟨_, rfl⟩
  have bx1 : Box W1 w.heap.size [.int .i64 n, .slice oe es.length c] 24 := by rw [← e1]; exact Box.new w [.int .i64 n, .slice oe es.length c] 24
  have bb1 := bnew (Below.refl w.heap.size w) (.cells #[.int .i64 n, .slice oe es.length c] 24)
  rw [e1] at bb1
  have HX := hide bx1
  have HB1 := hide bb1
  have hwl := bx1.lt
  have HS1 := hide (hs.below edgR_ok bb1)
  have y0 := bx1.cell 0
  simp only [List.getElem?_cons_zero] at y0
  have HTB := hide (rtab08_any n hn W1)
  clear hs bx1 bb1
  go_enter Tryz.func91, Tryz.ntmps91
  go_wp2_with fail
  refine HTB.out.mono ?_
  rintro e w2 ⟨tw, rs0, rfl, hT, hL, hb2⟩
  obtain ⟨ot, ct, rfl, hct⟩ := hT.len
  have HT0 := hide hT
  have HL0 : Hid (tabL rs0 = tabP es n 0 0) := by show _ = _; rw [tabP_zero]; exact hL
  have HB2 := hide hb2
  obtain ⟨m, hm0⟩ : ∃ m, m = rs0.length := ⟨_, rfl⟩
  have HM0 := hide hm0
  have hmn : m = n := by
    have h5 := congrArg List.length hL
    rw [hm0]
    simpa [tabL] using h5
  subst hmn
  rw [← hm0] at hct ⊢
  clear hT hL hb2 y0 e1 hm0
  go_wp2_with fail
  go_loopg [4] m (fun gm iv wx => ∃ (v : Nat) (rs : List Rw), v ≤ m ∧ gm = m - v ∧ iv = .int .i64 v ∧ Hid (rs.length = m) ∧ Hid (RTab W1.heap.size (.slice ot m ct) rs wx) ∧ Hid (tabL rs = tabP es m v 0) ∧ Hid (Below W1.heap.size W1 wx))
  case atStart => exact ⟨0, rs0, by omega, by omega, rfl, HM0.out.symm, by show RTab _ _ _ _; rw [HM0.out]; exact HT0.out, HL0, HB2⟩
  case round =>
    obtain ⟨v, rs, hv, hgm, rfl, HN, HT, HL, HB⟩ := hrel
    have HGM := hide hgm
    have bx := HX.out.below HB.out
    have y0 := bx.cell 0
    simp only [List.getElem?_cons_zero] at y0
    clear hgm HT0 HL0 HB2 HM0 bx
    by_cases hlt : v < m
    · go_wp2_with fail
      clear y0
      go_loopg [5] m (fun gm iv wx => ∃ (u : Nat) (rs : List Rw), u ≤ m ∧ gm = m - u ∧ iv = .int .i64 u ∧ Hid (rs.length = m) ∧ Hid (RTab W1.heap.size (.slice ot m ct) rs wx) ∧ Hid (tabL rs = tabP es m v u) ∧ Hid (Below W1.heap.size W1 wx))
      case atStart => exact ⟨0, rs, by omega, by omega, rfl, HN, HT, HL, HB⟩
      case round =>
        clear HN HT HL HB rs
        obtain ⟨u, rs, hu, hgm, rfl, HN, HT, HL, HB⟩ := hrel
        have HGM2 := hide hgm
        have bx := HX.out.below HB.out
        have y0 := bx.cell 0
        have y1 := bx.cell 1
        simp only [List.getElem?_cons_zero, List.getElem?_cons_succ] at y0 y1
        clear hgm bx
        by_cases hlu : u < m
        · by_cases hvu : v = u
          · have HL2 : Hid (tabL rs = tabP es m v (u + 1)) := by show _ = _; rw [tabP_same hvu]; exact HL.out
            have hq : ((v : Int) != (u : Int)) = false := by simp [hvu]
            clear hvu
            go_wp2_with fail
            go_roundg (m - (u + 1))
            case rel => exact ⟨u + 1, rs, by omega, rfl, by go_num, HN, HT, HL2, HB⟩
            case measure => rw [HGM2.out]; omega
          · have hq : ((v : Int) != (u : Int)) = true := by simp; omega
            obtain ⟨r, hr⟩ : ∃ r, rs[v]? = some r := ⟨_, List.getElem?_eq_getElem (by rw [HN.out]; exact hlt)⟩
            obtain ⟨gt, cap, htw, hcap, hgt, hcell, hrow, hrB, hrc, hrg⟩ := HT.out.get hr
            have hrl : r.l = lst m fun j => if (v < v ∨ (v = v ∧ j < u)) ∧ v ≠ j then betw es v j else 0 := by
              have h5 := congrArg (fun l => l[v]?) HL.out
              simp only [tabL, List.getElem?_map, hr, Option.map_some, tabP_row hlt] at h5
              injection h5 with h5
              rw [h5]
              simp
            have hrn : r.l.length = m := by rw [hrl, lst_len]
            rw [HN.out] at htw
            injection htw with e1 e2 e3
            subst e1 e3
            have HBT := hide (fun (W : World) (hW : Below wr.heap.size wr W) => betw_any (m : Int) es oe c F W ((HS1.out.below edgR_ok HB.out).below edgR_ok hW) hc (by omega) (v : Int) (u : Int))
            have hbr := betw_range hm.out (v : Int) (u : Int)
            obtain ⟨x, hx⟩ : ∃ x, x = betw es (v : Int) (u : Int) := ⟨_, rfl⟩
            have hl0 : ∃ z, r.l[u]? = some z := ⟨_, List.getElem?_eq_getElem (by rw [hrn]; exact hlu)⟩
            obtain ⟨z, hz⟩ := hl0
            have cz := hrow.cell hz
            have fz := hrow.free u
            have HFZ : Hid (∀ W, Below wr.heap.size wr W → W.frozen? ⟨r.g, u, none⟩ = false) := fun W hW => (hrow.below hW).free u
            have HRT : Hid (∀ W, Below wr.heap.size wr W → RTab W1.heap.size (.slice (some ⟨gt, 0, none⟩) m ct) (rwSet rs v (r.l.set u x)) (W.setCell ⟨r.g, u, none⟩ (.int .i64 x))) := fun W hW => (HT.out.below hW).put hr (by rw [hrn]; exact hlu) x
            have HRL : Hid (tabL (rwSet rs v (r.l.set u x)) = tabP es m v (u + 1)) := by
              show _ = _
              rw [tabL_set, HL.out, tabP_set hvu hlt hlu, hrl, hx]
            have HRN : Hid ((rwSet rs v (r.l.set u x)).length = m) := by show _ = _; rw [rwSet_len]; exact HN.out
            have HBZ := hide (Below.refl wr.heap.size wr)
            rw [← hx] at HBT
            unfold slV at hcell
            rw [hrn] at hcell
            have hrgB : W1.heap.size ≤ r.g := hrB
            have hrcc : m ≤ r.c := by omega
            have hv0 : (0 : Int) ≤ v := by omega
            have hv1 : (v : Int) < m := by omega
            have hu0 : (0 : Int) ≤ u := by omega
            have hu1 : (u : Int) < m := by omega
            obtain ⟨rg, hrge⟩ : ∃ rg, rg = r.g := ⟨_, rfl⟩
            obtain ⟨rc, hrce⟩ : ∃ rc, rc = r.c := ⟨_, rfl⟩
            rw [← hrge, ← hrce] at hcell
            rw [← hrge] at cz fz HRT hrgB HFZ
            rw [← hrce] at hrcc
            have hne1 : w.heap.size ≠ rg := by omega
            have hne2 : gt ≠ rg := by rw [hrge]; exact fun h => hrg h.symm
            clear hvu hx hrl hz hrow hrge hrce hr hrn hrc hrB hrg
            go_wp2_with fail
            go_region_held3 (fun w' => w'.cell? ⟨w.heap.size, 0, none⟩ = some (.int .i64 m) ∧ w'.cell? ⟨w.heap.size, 1, none⟩ = some (.slice oe es.length c) ∧ w'.cell? ⟨gt, v, none⟩ = some (.slice (some ⟨rg, 0, none⟩) m rc)) (first | with_reducible exact ⟨y0, y1, hcell⟩ | with_reducible exact ⟨cell_put y0 hne1, cell_put y1 hne1, cell_put hcell hne2⟩ | exact ⟨y0, y1, hcell⟩) (first
              | (go_at_call 100; refine (HBT.out _ (by first | with_reducible exact HBZ.out | with_reducible exact HBZ.out.drew)).mono ?_; rintro e w5 ⟨rfl, h5⟩; have y0 := (h5.cell (World.block_lt_of_cell? _ _ y0)).trans y0; have y1 := (h5.cell (World.block_lt_of_cell? _ _ y1)).trans y1; have hcell := (h5.cell (World.block_lt_of_cell? _ _ hcell)).trans hcell; have cz := (h5.cell (World.block_lt_of_cell? _ _ cz)).trans cz; have HBZ := hide (show Below wr.heap.size wr w5 from below_then (by first | with_reducible exact HBZ.out | with_reducible exact HBZ.out.drew) h5); have fz := HFZ.out _ HBZ.out; clear h5))
            all_goals
              have hrt := hide (HRT.out _ HBZ.out)
              have HBB : Hid (Below W1.heap.size W1 (w5.setCell ⟨rg, u, none⟩ (.int .i64 x))) := (below_then HB.out HBZ.out).setCell hrgB _
              go_wp2_with fail
              go_roundg (m - (u + 1))
              case rel => exact ⟨u + 1, _, by omega, rfl, by go_num, HRN, hrt, HRL, HBB⟩
              case measure => rw [HGM2.out]; omega
        · have hue : u = m := by omega
          have HL2 : Hid (tabL rs = tabP es m (v + 1) 0) := by
            have h5 := HL.out
            rw [hue] at h5
            show _ = _
            rw [← tabP_next]
            exact h5
          clear hue
          go_wp2_with fail
          go_roundg (m - (v + 1))
          case rel => exact ⟨v + 1, rs, by omega, rfl, by go_num, HN, HT, HL2, HB⟩
          case measure => rw [HGM.out]; omega
    · have hve : v = m := by omega
      rw [hve] at HL
      clear hve
      go_wp2_with fail
      go_ret
      exact ⟨_, rs, rfl, HT.out.rebase (by omega), HL.out, HB1.out.trans (HB.out.mono (by omega))⟩
end Go.Proofs.YtpgopmmobbemcaaGreat

set_option linter.unusedVariables false
set_option linter.unusedSimpArgs false
namespace Go.Proofs.YtpgopmmobbemcaaGreat
open Go.RowKit

theorem valU_sum {n : Int} {es : List Edg} (h : gErr n es = 0) (v : Nat) (h0 : linkE es v v = 0) : ∀ k : Nat, valU es (v : Int) k = sumI (fun u => linkE es v u) k
  | 0 => rfl
  | k + 1 => by
    unfold valU sumI
    rw [valU_sum h v h0 k]
    by_cases e : k = v
    · rw [if_pos (by omega), e, h0]
    · rw [if_neg (by omega), betw_symm, gErr_link h (fun h2 => e h2.symm)]
theorem bor_rows {N : Nat} {es : List Edg} (h : gErr N es = 0) (hok : EOk N es) {v w : Nat} (hv : v < N) (hw : w < N) (left : Nat → Int) :
    borF es v left w = left w + (if w = v then valU es v N else 0) - (if v = w then 0 else betw es v w) := by
  have hGr : Gr N (linkE es) := linkE_gr fun y hy => by have := (hok.at_ y hy).2; omega
  have h0 : linkE es v v = 0 := hGr.dg v
  rw [borF_at hok hv hw]
  have e1 : vlR N (linkE es) v = valU es v N := by unfold vlR; rw [valU_sum h v h0 N]
  rw [e1]
  by_cases e : v = w
  · rw [if_pos e, ← e, h0]
  · rw [if_neg e, gErr_link h e]
end Go.Proofs.YtpgopmmobbemcaaGreat

set_option linter.unusedVariables false
set_option linter.unusedSimpArgs false
namespace Go.Proofs.YtpgopmmobbemcaaGreat
open Go.RowKit

section
variable {P : Program} {Q : Exit → Act → World → Prop} {md : Region.Mode} {S : World → Prop}

/-- What is left to do behind the others. -/
def TailQ (P : Program) (ops : Array Oper) (Q : Exit → Act → World → Prop) (last : Oper) : Exit → Act → World → Prop
  | .normal, a, w => wpList P ops Q [last] a w
  | e, a, w => Q e a w
/-- Each operation waits only for earlier ones; each but the last is waited for; no guards. -/
def tailOk (md : Region.Mode) (l : List Oper) (last : Oper) : Bool :=
  ((List.range (l.length + 1)).all fun i => (preOf md (l ++ [last]).toArray i).all fun p => decide (p < i)) &&
  ((List.range l.length).all fun j => (List.range (l.length + 1)).any fun k => decide (j < k) && (preOf md (l ++ [last]).toArray k).contains j) &&
  (l.all fun o => o.guard.isNone) && last.guard.isNone
theorem wanted_none {o : Oper} (h : o.guard.isNone = true) (y : Nat → Option Bool) : Region.wanted o y = true := by
  have h1 : o.guard = none := by simpa using h
  simp [Region.wanted, h1]
theorem upon_tail {o : Oper} {a : Act} {K K' : Act → World → Prop} {ops : Array Oper} {last : Oper} (hK : ∀ a w, K a w → K' a w) (r : _) (h : o.upon P a K (TailQ P ops Q last) r) : o.upon P a K' Q r := by
  cases r with
  | ok n w' =>
    cases n <;> simp only [Oper.upon] at h ⊢
    case value u => exact hK _ _ h
    case skip => exact hK _ _ h
    case defer d => exact hK _ _ h
    case enter f args =>
      refine Calls.mono h fun e w'' he => ?_
      cases e with
      | returned u => exact hK _ _ he
      | panicked c => exact he
      | outgrown => exact he
    case row row args => exact Rows.mono h fun u w'' he => hK _ _ he
  | halt x w' =>
    cases x <;> simp only [Oper.upon] at h ⊢
    case panic u => exact h
theorem preOf_app {l : List Oper} {last : Oper} {i : Nat} (h : i < l.length) : preOf md l.toArray i = preOf md (l ++ [last]).toArray i := by
  unfold preOf
  simp only [List.getElem?_toArray]
  rw [List.getElem?_append_left h]
theorem push_getD {b : Array Bool} {i : Nat} {d : Bool} (h : i < b.size) : (b.push false).getD i d = b.getD i d := by
  rw [Array.getD_eq_getD_getElem?, Array.getD_eq_getD_getElem?, Array.getElem?_push_lt h, Array.getElem?_eq_getElem h]
theorem wpAny_tail {l : List Oper} {last : Oper} (hck : tailOk md l last = true) :
    ∀ (fuel : Nat) (listed : Array Bool) (a : Act) (w : World), listed.size = l.length → (∀ k, listed.getD k false = true → ∀ p ∈ preOf md l.toArray k, listed.getD p false = true) →
      wpAnyH P md l.toArray (TailQ P (l ++ [last]).toArray Q last) S fuel listed a w → wpAny P md (l ++ [last]).toArray Q (fuel + 1) (listed.push false) a w := by
  unfold tailOk at hck
  simp only [Bool.and_eq_true] at hck
  obtain ⟨⟨⟨hp, hu⟩, hg⟩, hgl⟩ := hck
  have hsz : (l ++ [last]).toArray.size = l.length + 1 := by simp
  have hp' : (List.range l.toArray.size).all (fun i => (preOf md l.toArray i).all fun p => decide (p < i)) = true := by
    rw [List.all_eq_true] at hp ⊢
    intro i hi
    have hi' : i < l.length := by simpa using hi
    rw [preOf_app (last := last) hi']
    exact hp i (List.mem_range.2 (by omega))
  have hpl : ∀ i, i < l.length + 1 → ∀ p ∈ preOf md (l ++ [last]).toArray i, p < i := fun i hi p hpp => by
    have h1 := (List.all_eq_true.1 hp) i (List.mem_range.2 hi)
    simpa using (List.all_eq_true.1 h1) p hpp
  have hlastop : (l ++ [last]).toArray[l.length]? = some last := by simp
  -- if the last is ready, all others are listed
  have hall : ∀ (listed : Array Bool), listed.size = l.length → (∀ k, listed.getD k false = true → ∀ p ∈ preOf md l.toArray k, listed.getD p false = true) → (∀ p ∈ preOf md (l ++ [last]).toArray l.length, (listed.push false).getD p false = true) → ∀ m j, l.length - j = m → j < l.length → listed.getD j false = true := by
    intro listed hs hcl hr m
    induction m using Nat.strongRecOn with
    | _ m ih =>
      intro j hm hj
      have h1 := (List.all_eq_true.1 hu) j (List.mem_range.2 hj)
      obtain ⟨k, hk, h2⟩ := List.any_eq_true.1 h1
      have hk := List.mem_range.1 hk
      simp only [Bool.and_eq_true, decide_eq_true_eq, List.contains_iff_mem] at h2
      by_cases e : k = l.length
      · subst e
        have h3 := hr j h2.2
        rwa [push_getD (by omega)] at h3
      · have hkl : k < l.length := by omega
        have h3 := ih (l.length - k) (by omega) k rfl hkl
        refine hcl k h3 j ?_
        rw [preOf_app (last := last) hkl]
        exact h2.2
  have hnone : ∀ (listed : Array Bool), listed.size = l.length → (∀ j, j < l.length → listed.getD j false = true) → Region.ready md l.toArray listed = [] := by
    intro listed hs h
    rw [List.eq_nil_iff_forall_not_mem]
    intro i hi
    obtain ⟨h1, h2, _⟩ := ready_pre.1 hi
    have h3 := h i (by simpa using h1)
    rw [Array.getD_eq_getD_getElem?] at h2 h3
    have h4 : i < listed.size := by rw [hs]; simpa using h1
    rw [Array.getElem?_eq_getElem h4] at h2 h3
    simp at h2 h3
    rw [h2] at h3
    cases h3
  have hnone2 : ∀ (listed : Array Bool), listed.size = l.length → (∀ j, j < l.length → listed.getD j false = true) → Region.ready md (l ++ [last]).toArray ((listed.push false).setIfInBounds l.length true) = [] := by
    intro listed hs h
    rw [List.eq_nil_iff_forall_not_mem]
    intro i hi
    obtain ⟨h1, h2, _⟩ := ready_pre.1 hi
    rw [hsz] at h1
    rw [Array.getD_eq_getD_getElem?] at h2
    by_cases e : i = l.length
    · subst e
      rw [Array.getElem?_setIfInBounds_self_of_lt (by simp; omega)] at h2
      simp at h2
    · rw [Array.getElem?_setIfInBounds_ne (fun h => e h.symm)] at h2
      have h3 := h i (by omega)
      rw [Array.getD_eq_getD_getElem?] at h3
      have h4 : i < listed.size := by omega
      rw [Array.getElem?_push_lt h4] at h2
      rw [Array.getElem?_eq_getElem h4] at h3
      simp at h2 h3
      rw [h2] at h3
      cases h3
  have hlast : ∀ (listed : Array Bool) (a : Act) (w : World) (K : Act → World → Prop), wpList P (l ++ [last]).toArray Q [last] a w → (∀ a' w', Q .normal a' w' → K a' w') → wpOp P (l ++ [last]).toArray Q l.length K a w := by
    intro listed a w K h hK
    unfold wpOp
    rw [hlastop]
    simp only
    unfold wpList at h
    have hw := wanted_none hgl (yielded (l ++ [last]).toArray a.tmps)
    rw [if_pos hw] at h ⊢
    rcases h with h | h
    · exact .inl (Oper.wp_mono (fun a' w' h' => hK a' w' h') h)
    · exact .inr h
  have hin : ∀ (listed : Array Bool) (i : Nat), listed.size = l.length → i ∈ Region.ready md (l ++ [last]).toArray (listed.push false) → i ≠ l.length → i ∈ Region.ready md l.toArray listed := by
    intro listed i hs hi hne
    obtain ⟨h1, h2, h3⟩ := ready_pre.1 hi
    rw [hsz] at h1
    have hil : i < l.length := by omega
    refine ready_pre.2 ⟨by simpa using hil, ?_, fun p hpp => ?_⟩
    · rwa [push_getD (by omega)] at h2
    · rw [preOf_app (last := last) hil] at hpp
      have h4 := h3 p hpp
      have h5 := hpl i (by omega) p hpp
      rwa [push_getD (by omega)] at h4
  have hnil : ∀ (listed : Array Bool), listed.size = l.length → Region.ready md (l ++ [last]).toArray (listed.push false) ≠ [] := by
    intro listed hs h
    have h1 := ready_nil_all (md := md) (ops := (l ++ [last]).toArray) (by rw [hsz]; exact hp) (by rw [hsz, Array.size_push, hs]) h l.length (by rw [hsz]; omega)
    rw [Array.getD_eq_getD_getElem?, ← hs] at h1
    simp at h1
  intro fuel
  induction fuel with
  | zero =>
    intro listed a w hs hcl h
    obtain ⟨h1, h2⟩ := h
    have hal := ready_nil_all hp' (by simpa using hs) h1
    have hal' : ∀ j, j < l.length → listed.getD j false = true := fun j hj => hal j (by simpa using hj)
    refine ⟨fun h => absurd h (hnil listed hs), fun i hi => ?_⟩
    by_cases e : i = l.length
    · subst e
      exact hlast listed a w _ h2 fun a' w' hq => ⟨hnone2 listed hs hal', hq⟩
    · have h3 := hin listed i hs hi e
      rw [h1] at h3
      cases h3
  | succ fuel ih =>
    intro listed a w hs hcl h
    obtain ⟨h1, h2⟩ := h
    refine ⟨fun h => absurd h (hnil listed hs), fun i hi => ?_⟩
    by_cases e : i = l.length
    · subst e
      have hal := hall listed hs hcl (fun p hpp => (ready_pre.1 hi).2.2 p hpp)
      have hal' : ∀ j, j < l.length → listed.getD j false = true := fun j hj => hal _ j rfl hj
      have hr := hnone listed hs hal'
      refine hlast listed a w _ (h1 hr) fun a' w' hq => ?_
      have hn := hnone2 listed hs hal'
      refine ⟨fun _ => hq, fun j hj => ?_⟩
      rw [hn] at hj
      cases hj
    · have h3 := hin listed i hs hi e
      obtain ⟨g1, g2, g3⟩ := ready_pre.1 h3
      have hil : i < l.length := by simpa using g1
      have h4 := h2 i h3
      have ho : l.toArray[i]? = some l[i] := by simp [hil]
      have ho2 : (l ++ [last]).toArray[i]? = some l[i] := by
        simp only [List.getElem?_toArray]
        rw [List.getElem?_append_left hil, List.getElem?_eq_getElem hil]
      unfold wpOp at h4 ⊢
      rw [ho] at h4
      rw [ho2]
      simp only at h4 ⊢
      have hgi := (List.all_eq_true.1 hg) l[i] (List.getElem_mem hil)
      rw [if_pos (wanted_none hgi _)] at h4 ⊢
      have hset : (listed.push false).setIfInBounds i true = (listed.setIfInBounds i true).push false := by
        apply Array.ext_getElem?
        intro j
        rw [Array.getElem?_setIfInBounds, Array.getElem?_push, Array.getElem?_push, Array.getElem?_setIfInBounds]
        simp only [Array.size_push, Array.size_setIfInBounds]
        by_cases e2 : i = j
        · subst e2
          rw [if_pos rfl, if_pos (by omega), if_neg (by omega), if_pos rfl, if_pos (by omega)]
        · rw [if_neg e2, if_neg e2]
      rcases h4 with h4 | h4
      · refine .inl ?_
        unfold Oper.wp at h4 ⊢
        refine upon_tail (fun a' w' h5 => ?_) _ h4
        rw [hset]
        refine ih _ a' w' (by simpa using hs) (fun k hk p hpp => ?_) h5.2
        have hkeep : ∀ q, listed.getD q false = true → (listed.setIfInBounds i true).getD q false = true := fun q hq => by
          rw [Array.getD_eq_getD_getElem?] at hq ⊢
          by_cases e2 : i = q
          · subst e2
            rw [Array.getElem?_setIfInBounds_self_of_lt (by omega)]
            rfl
          · rw [Array.getElem?_setIfInBounds_ne e2]
            exact hq
        by_cases e2 : i = k
        · subst e2
          exact hkeep p (g3 p hpp)
        · exact hkeep p (hcl k (listed_set e2 hk) p hpp)
      · exact .inr h4
theorem wp_region_tail {id : Nat} {l : List Oper} {last : Oper} {a : Act} {w : World} (hm : P.follows .mixedOrders = true) (hck : tailOk .any l last = true) (hS : S w.drew)
    (h : S w.drew → wpAnyH P .any l.toArray (TailQ P (l ++ [last]).toArray Q last) S l.toArray.size (Array.replicate l.toArray.size false) a w.drew) : (Code.region id (l ++ [last]).toArray true).wp P Q a w := by
  refine wp_region_any hm ?_
  have h1 := wpAny_tail (P := P) (Q := Q) hck l.toArray.size (Array.replicate l.toArray.size false) a w.drew (by simp) (fun k hk => by
    rw [Array.getD_eq_getD_getElem?, Array.getElem?_replicate] at hk
    split at hk <;> simp at hk) (h hS)
  have e1 : (Array.replicate l.toArray.size false).push false = Array.replicate (l ++ [last]).toArray.size false := by
    rw [← Array.replicate_succ]
    simp
  have e2 : l.toArray.size + 1 = (l ++ [last]).toArray.size := by simp
  rw [e1, e2] at h1
  exact h1
end
end Go.Proofs.YtpgopmmobbemcaaGreat

set_option linter.unusedVariables false
set_option linter.unusedSimpArgs false
set_option linter.unnecessarySimpa false
namespace Go.Proofs.YtpgopmmobbemcaaGreat
open Go.RowKit

theorem i64_sam2 {n : Int} (h : -9223372036854775808 ≤ n ∧ n ≤ 9223372036854775807) : IntKind.i64.wrap n = n := by
  simp only [IntKind.wrap, IntKind.signed, IntKind.bits]
  simp
  omega
/-- What reaches v from the first u vertices. -/
def mvU (es : List Edg) (s : List Int) (v : Nat) : Nat → Int
  | 0 => 0
  | u + 1 => mvU es s v u + if v = u then 0 else betw es v u * (s.getD u 0 - s.getD v 0)
/-- The divisor under way: row v, up to u. -/
def mvP (es : List Edg) (s : List Int) (D : Nat → Int) (N v u : Nat) : Nat → Int := fun i => if i < v then D i + mvU es s i N else if i = v then D i + mvU es s i u else D i
end Go.Proofs.YtpgopmmobbemcaaGreat

set_option linter.unusedVariables false
set_option linter.unusedSimpArgs false
namespace Go.Proofs.YtpgopmmobbemcaaGreat
open Go.RowKit

def paidL (d : List Int) : Bool := d.all fun k => decide (0 ≤ k)
/-- The first vertex in debt, or -1. -/
def debtorL : List Int → Nat → Int
  | [], _ => -1
  | k :: r, i => if k < 0 then i else debtorL r (i + 1)
def totL : List Int → Int
  | [] => 0
  | k :: r => k + totL r
end Go.Proofs.YtpgopmmobbemcaaGreat

set_option linter.unusedVariables false
set_option linter.unusedSimpArgs false
namespace Go.Proofs.YtpgopmmobbemcaaGreat
open Go.RowKit

/-- What a game of borrowing needs. -/
structure GOk (N : Nat) (es : List Edg) (d : List Int) : Prop where
  ok : EOk N es
  n1 : 1 ≤ N
  conn : Conn N (linkE es)
  sm : SmG N es d
theorem GOk.gr {N : Nat} {es : List Edg} {d : List Int} (h : GOk N es d) : Gr N (linkE es) := linkE_gr fun y hy => by have := (h.ok.at_ y hy).2; omega
theorem GOk.few {N : Nat} {es : List Edg} {d : List Int} (h : GOk N es d) {b : Nat → Nat} (hb : Bor N (linkE es) (fun v => d.getD v 0) b) {z : Nat} (hz : z < N) (hbz : b z = 0) : sumI (fun v => (b v : Int)) N ≤ 11340 := by
  have h6 := h.sm.n6
  have h1 := h.n1
  have hD : ∀ v, v < N → -(60 : Int) ≤ (fun v => d.getD v 0) v := fun v _ => by
    show -(60 : Int) ≤ d.getD v 0
    rw [List.getD_eq_getElem?_getD]
    rcases hx : d[v]? with _ | x
    · simp
    · have := h.sm.dB x (List.mem_of_getElem? hx)
      simpa using this.1
  have h2 : sumI (vlR N (linkE es)) N = sumI (fun v : Nat => valE es v) N := sumI_eq fun v hv => (val_link v fun x hx => (h.ok.at_ x hx).1).symm
  have h3 := val_sum (n := N) (es := es) fun x hx => by have := (h.ok.at_ x hx).2; omega
  have h4 := h.sm.sz
  have h5 : sumI (fun _ => (60 : Int)) N = 60 * N := by
    have : ∀ n : Nat, sumI (fun _ => (60 : Int)) n = 60 * n := fun n => by
      induction n with
      | zero => rfl
      | succ n ih => rw [sumI, ih]; push_cast; omega
    exact this N
  have h7 : sumI (fun u => vlR N (linkE es) u + 60) N ≤ 378 := by
    rw [sumI_add, h5]
    omega
  have h8 : ∀ v, v < N → (b v : Int) ≤ 1890 := fun v hv => by
    have h9 := hb.range h.gr h.conn hD (by omega) hz hbz hv
    have h10 : ((N - 1 : Nat) : Int) * sumI (fun u => vlR N (linkE es) u + 60) N ≤ ((N - 1 : Nat) : Int) * 378 := Int.mul_le_mul_of_nonneg_left h7 (by omega)
    omega
  have h11 := sumI_le (f := fun v => (b v : Int)) (g := fun _ => 1890) (n := N) h8
  have h12 : ∀ n : Nat, sumI (fun _ => (1890 : Int)) n = 1890 * n := fun n => by
    induction n with
    | zero => rfl
    | succ n ih => rw [sumI, ih]; push_cast; omega
  rw [h12] at h11
  omega
/-- A game of borrowing under way. -/
structure GSt (N : Nat) (es : List Edg) (d : List Int) (i : Nat) (b : Nat → Nat) (left : Nat → Int) : Prop where
  bor : Bor N (linkE es) (fun v => d.getD v 0) b
  left : ∀ v, v < N → left v = app N (linkE es) (fun v => d.getD v 0) (negU b) v
  sum : sumI (fun v => (b v : Int)) N = i
  few : i ≤ 11341
theorem GSt.zero {N : Nat} {es : List Edg} {d : List Int} : GSt N es d 0 (fun _ => 0) (fun v => d.getD v 0) where
  bor := .zero
  left := fun v hv => by
    have e : negU (fun _ => 0) = fun _ => 0 := by funext v; simp [negU]
    rw [e, app_zero]
  sum := sumI_zero N
  few := by omega
theorem GSt.step {N : Nat} {es : List Edg} {d : List Int} (h : GOk N es d) {i : Nat} {b : Nat → Nat} {left : Nat → Int} (hg : GSt N es d i b left) {z : Nat} (hz : z < N) (hbz : b z = 0) {v : Nat} (hv : v < N) (hl : left v < 0) : GSt N es d (i + 1) (upU b v 1) (borF es v left) where
  bor := .step hg.bor hv (by rw [← hg.left v hv]; exact hl)
  left := fun u hu => by
    rw [borF_at h.ok hv hu, hg.left u hu, app_up h.gr b hv hu, h.gr.sym v u]
  sum := by
    have h1 := sumI_one (f := fun u => (upU b v 1 u : Int)) (g := fun u => (b u : Int)) hv (fun p hp hne => by rw [upU_ne _ _ hne])
    rw [h1, hg.sum, upU_at]
    push_cast
    omega
  few := by
    have h1 := h.few hg.bor hz hbz
    rw [hg.sum] at h1
    omega
theorem GSt.le {N : Nat} {es : List Edg} {d : List Int} {i : Nat} {b : Nat → Nat} {left : Nat → Int} (hg : GSt N es d i b left) {v : Nat} (hv : v < N) : b v ≤ 11341 := by
  have h1 := sumI_one (f := fun u => (b u : Int)) (g := fun u => if u = v then 0 else (b u : Int)) hv (fun p hp hne => by rw [if_neg hne])
  have h2 : 0 ≤ sumI (fun u => if u = v then 0 else (b u : Int)) N := sumI_nn fun p hp => by split <;> omega
  rw [hg.sum, if_pos rfl] at h1
  have h3 := hg.few
  omega
/-- How a game of borrowing ends. -/
structure GEnd (N : Nat) (es : List Edg) (d : List Int) (a : Bool) (b : Nat → Nat) : Prop where
  bor : Bor N (linkE es) (fun v => d.getD v 0) b
  won : a = true → ∀ v, v < N → 0 ≤ app N (linkE es) (fun v => d.getD v 0) (negU b) v
  lost : a = false → ¬ Winn N (linkE es) (fun v => d.getD v 0)
  le : ∀ v, v < N → b v ≤ 11341
theorem GEnd.iff {N : Nat} {es : List Edg} {d : List Int} {a : Bool} {b : Nat → Nat} (h : GEnd N es d a b) : a = true ↔ Winn N (linkE es) (fun v => d.getD v 0) := by
  constructor
  · intro ha
    exact h.bor.won (h.won ha)
  · intro hw
    cases ha : a
    · exact absurd hw (h.lost ha)
    · rfl
theorem GSt.won {N : Nat} {es : List Edg} {d : List Int} {i : Nat} {b : Nat → Nat} {left : Nat → Int} (hg : GSt N es d i b left) (hp : ∀ v, v < N → 0 ≤ left v) : GEnd N es d true b where
  bor := hg.bor
  won := fun _ v hv => by rw [← hg.left v hv]; exact hp v hv
  lost := fun h => by cases h
  le := fun v hv => hg.le hv
theorem GSt.lost {N : Nat} {es : List Edg} {d : List Int} (h : GOk N es d) {i : Nat} {b : Nat → Nat} {left : Nat → Int} (hg : GSt N es d i b left) (ha : ∀ v, v < N → 1 ≤ b v) : GEnd N es d false b where
  bor := hg.bor
  won := fun h => by cases h
  lost := fun _ => hg.bor.lost h.gr h.n1 ha
  le := fun v hv => hg.le hv
/-- Two games end alike. -/
theorem GEnd.same {N : Nat} {es : List Edg} {d : List Int} (h : GOk N es d) {a c : Bool} {b g : Nat → Nat} (h1 : GEnd N es d a b) (h2 : GEnd N es d c g) : a = c ∧ (a = true → lst N (negU b) = lst N (negU g)) := by
  have e : a = c := by rw [Bool.eq_iff_iff, h1.iff, h2.iff]
  refine ⟨e, fun ha => lst_congr fun v hv => ?_⟩
  have h3 := h1.bor.same h.gr h2.bor (h1.won ha) (h2.won (by rw [← e]; exact ha)) v hv
  unfold negU
  rw [h3]
/-- The reference's Wins. -/
def allB (N : Nat) (bor : Nat → Bool) : Bool := (List.range N).all bor
def wRun (N : Nat) (es : List Edg) : Nat → (Nat → Int) → (Nat → Bool) → Bool
  | 0, _, _ => false
  | fuel + 1, left, bor => if debtorL (lst N left) 0 < 0 then true else if allB N bor = true then false else
      wRun N es fuel (borF es (debtorL (lst N left) 0).toNat left) (fun u => if u = (debtorL (lst N left) 0).toNat then true else bor u)
end Go.Proofs.YtpgopmmobbemcaaGreat

set_option linter.unusedVariables false
set_option linter.unusedSimpArgs false
set_option linter.unnecessarySimpa false
namespace Go.Proofs.YtpgopmmobbemcaaGreat
open Go.RowKit

/-- The chips when v borrows, up to vertex k. -/
def refB (es : List Edg) (v : Nat) (left : Nat → Int) (k : Nat) : Nat → Int := fun i => if i = v then left v + valU es v k else if i < k then left i - betw es i v else left i
theorem valU_bnd {es : List Edg} (hm : ∀ x ∈ es, 0 ≤ x.m ∧ x.m ≤ 50) (v : Int) : ∀ k : Nat, 0 ≤ valU es v k ∧ valU es v k ≤ 50 * k
  | 0 => by simp [valU]
  | k + 1 => by
    have h1 := valU_bnd hm v k
    have h2 := betw_range hm (k : Int) v
    unfold valU
    split <;> (push_cast; omega)
/-- The chips and the marks, in memory. -/
structure WMem (w0 : World) (N gd gb : Nat) (rest : List Value) (left : Nat → Int) (bor : Nat → Bool) (w : World) : Prop where
  rd : Row1 (Value.int .i64) w gd 3 (lst N left) rest
  rb : Row1 Value.bool w gb 4 ((List.range N).map bor) []
  ne : gd ≠ gb
  lo : w0.heap.size ≤ gd ∧ w0.heap.size ≤ gb
  be : Below w0.heap.size w0 w
theorem WMem.below {w0 w w' : World} {N gd gb : Nat} {rest : List Value} {left : Nat → Int} {bor : Nat → Bool} (h : WMem w0 N gd gb rest left bor w) (hb : Below w.heap.size w w') : WMem w0 N gd gb rest left bor w' :=
  ⟨h.rd.below hb, h.rb.below hb, h.ne, h.lo, below_then h.be hb⟩
theorem WMem.put {w0 w : World} {N gd gb : Nat} {rest : List Value} {left : Nat → Int} {bor : Nat → Bool} (h : WMem w0 N gd gb rest left bor w) {i : Nat} (hi : i < N) (x : Int) : WMem w0 N gd gb rest (updF left i x) bor (w.setCell ⟨gd, i, none⟩ (.int .i64 x)) := by
  have h5 := h.rd.put (i := i) (by rw [lst_len]; exact hi) x
  rw [lst_set] at h5
  exact ⟨h5, h.rb.other (fun e => h.ne e.symm) _, h.ne, h.lo, h.be.setCell h.lo.1 _⟩
theorem WMem.congr {w0 w : World} {N gd gb : Nat} {rest : List Value} {left l2 : Nat → Int} {bor b2 : Nat → Bool} (h : WMem w0 N gd gb rest left bor w) (h1 : ∀ i, i < N → left i = l2 i) (h2 : ∀ i, i < N → bor i = b2 i) : WMem w0 N gd gb rest l2 b2 w := by
  refine ⟨?_, ?_, h.ne, h.lo, h.be⟩
  · rw [← lst_congr h1]; exact h.rd
  · rw [← List.map_congr_left (fun i hi => h2 i (List.mem_range.1 hi))]; exact h.rb
end Go.Proofs.YtpgopmmobbemcaaGreat

set_option linter.unusedVariables false
set_option linter.unusedSimpArgs false
set_option linter.unnecessarySimpa false
namespace Go.Proofs.YtpgopmmobbemcaaGreat
open Go.RowKit

/-- What a game by the reference returns. -/
def PlayPost (w : World) (N : Nat) (r : Bool × List Int × Int) (e : Ending) (w' : World) : Prop :=
  ∃ (a over : Bool) (g : Nat) (l : List Int), e = .returned (.agg #[.bool a, .slice (some ⟨g, 0, none⟩) N N, .bool over]) ∧ Row1 (Value.int .i64) w' g 3 l [] ∧ l.length = N ∧ (∀ x ∈ l, I64 x) ∧ r = (if over = true then (false, [], 12) else (a, l, 0)) ∧ w.heap.size ≤ g ∧ Below w.heap.size w w'
/-- The game in memory. -/
structure PMem43 (w0 : World) (N gd gs bc : Nat) (rest : List Value) (left s : Nat → Int) (w : World) : Prop where
  rd : Row1 (Value.int .i64) w gd 3 (lst N left) rest
  rs : Row1 (Value.int .i64) w gs 3 (lst N s) []
  bx : Box w bc [.bool false, .slice (some ⟨gs, 0, none⟩) N N, .bool false] 97
  ne : gd ≠ gs
  lo : w0.heap.size ≤ gd ∧ w0.heap.size ≤ gs ∧ w0.heap.size ≤ bc
  be : Below w0.heap.size w0 w
section
variable {w0 w w' : World} {N gd gs bc : Nat} {rest : List Value} {left s : Nat → Int}
theorem PMem43.nd (h : PMem43 w0 N gd gs bc rest left s w) : bc ≠ gd ∧ bc ≠ gs :=
  ⟨ne_type (show w.heap[bc]? = some (.cells _ 97 (0, 0)) from h.bx) (show w.heap[gd]? = some (.cells _ 3 (0, 0)) from h.rd) (by decide), ne_type (show w.heap[bc]? = some (.cells _ 97 (0, 0)) from h.bx) (show w.heap[gs]? = some (.cells _ 3 (0, 0)) from h.rs) (by decide)⟩
theorem PMem43.below (h : PMem43 w0 N gd gs bc rest left s w) (hb : Below w.heap.size w w') : PMem43 w0 N gd gs bc rest left s w' :=
  ⟨h.rd.below hb, h.rs.below hb, h.bx.below hb, h.ne, h.lo, below_then h.be hb⟩
theorem PMem43.putD (h : PMem43 w0 N gd gs bc rest left s w) {i : Nat} (hi : i < N) (x : Int) : PMem43 w0 N gd gs bc rest (updF left i x) s (w.setCell ⟨gd, i, none⟩ (.int .i64 x)) := by
  have h5 := h.rd.put (i := i) (by rw [lst_len]; exact hi) x
  rw [lst_set] at h5
  exact ⟨h5, h.rs.other (fun e => h.ne e.symm) _, h.bx.other h.nd.1 _, h.ne, h.lo, h.be.setCell h.lo.1 _⟩
theorem PMem43.putS (h : PMem43 w0 N gd gs bc rest left s w) {i : Nat} (hi : i < N) (x : Int) : PMem43 w0 N gd gs bc rest left (updF s i x) (w.setCell ⟨gs, i, none⟩ (.int .i64 x)) := by
  have h5 := h.rs.put (i := i) (by rw [lst_len]; exact hi) x
  rw [lst_set] at h5
  exact ⟨h.rd.other h.ne _, h5, h.bx.other h.nd.2 _, h.ne, h.lo, h.be.setCell h.lo.2.1 _⟩
theorem PMem43.congr (h : PMem43 w0 N gd gs bc rest left s w) {l2 : Nat → Int} (h1 : ∀ i, i < N → left i = l2 i) : PMem43 w0 N gd gs bc rest l2 s w :=
  ⟨by rw [← lst_congr h1]; exact h.rd, h.rs, h.bx, h.ne, h.lo, h.be⟩
end
/-- The chips when v borrows, row by row. -/
def refP (es : List Edg) (N v : Nat) (left : Nat → Int) (k : Nat) : Nat → Int := fun i => (if i = v then left v + valU es v N else left i) - (if i < k ∧ v ≠ i then betw es v i else 0)
theorem refP_zero (es : List Edg) (N v : Nat) (left : Nat → Int) : refP es N v left 0 = updF left v (left v + valU es v N) := by
  funext i
  unfold refP updF
  rw [if_neg (show ¬ (i < 0 ∧ v ≠ i) from fun h => by omega)]
  omega
theorem refP_next (es : List Edg) (N v k : Nat) (left : Nat → Int) : refP es N v left (k + 1) = updF (refP es N v left k) k (refP es N v left k k - (if v ≠ k then betw es v k else 0)) := by
  funext i
  unfold updF
  by_cases e : i = k
  · subst e
    rw [if_pos rfl]
    unfold refP
    rw [if_neg (show ¬ (i < i ∧ v ≠ i) from fun h => by omega)]
    by_cases h : v ≠ i
    · rw [if_pos h, if_pos (show i < i + 1 ∧ v ≠ i from ⟨by omega, h⟩)]
      omega
    · rw [if_neg h, if_neg (show ¬ (i < i + 1 ∧ v ≠ i) from fun h2 => h h2.2)]
      omega
  · rw [if_neg e]
    unfold refP
    by_cases h : i < k ∧ v ≠ i
    · rw [if_pos h, if_pos (show i < k + 1 ∧ v ≠ i from ⟨by omega, h.2⟩)]
    · rw [if_neg h, if_neg (show ¬ (i < k + 1 ∧ v ≠ i) from fun h2 => h ⟨by omega, h2.2⟩)]
theorem refP_end {N : Nat} {es : List Edg} (h : gErr N es = 0) (hok : EOk N es) {v w : Nat} (hv : v < N) (hw : w < N) (left : Nat → Int) : refP es N v left N w = borF es v left w := by
  rw [bor_rows h hok hv hw]
  unfold refP
  by_cases e : w = v
  · subst e
    rw [if_pos rfl, if_pos rfl, if_pos rfl, if_neg (show ¬ (w < N ∧ w ≠ w) from fun h => h.2 rfl)]
  · rw [if_neg e, if_neg e, if_neg (show ¬ v = w from fun h => e h.symm), if_pos (show w < N ∧ v ≠ w from ⟨hw, fun h => e h.symm⟩)]
    omega
theorem allNeg_next (N : Nat) (s : Nat → Int) : allNeg (N + 1) s = (allNeg N s && decide (s N < 0)) := by
  unfold allNeg
  rw [List.range_succ, List.all_append]
  simp
theorem hp_new {w : World} {o : Obj} {b : Nat} (hb : b = w.heap.size) : (w.alloc o).heap[b]? = some o := by rw [hb]; exact heap_alloc_new w o
theorem hp_old {w : World} {o x : Obj} {b : Nat} (h : w.heap[b]? = some x) : (w.alloc o).heap[b]? = some x := ((bnew (Below.refl _ _) o).block b (Array.getElem?_eq_some_iff.1 h).1).trans h
theorem hp_n0 (w : World) (o : Obj) : (w.alloc o).drew.heap[w.heap.size]? = some o := heap_alloc_new w o
theorem hp_n1 (w : World) (p o : Obj) : ((w.alloc p).alloc o).drew.heap[w.heap.size + 1]? = some o := by
  have h := heap_alloc_new (w.alloc p) o
  rw [World.size_alloc] at h
  exact h
theorem hp_n2 (w : World) (p q o : Obj) : (((w.alloc p).alloc q).alloc o).drew.heap[w.heap.size + 2]? = some o := by
  have h := heap_alloc_new ((w.alloc p).alloc q) o
  rw [World.size_alloc, World.size_alloc] at h
  exact h
theorem hp_on {w : World} {o x : Obj} {b : Nat} (h : w.drew.heap[b]? = some x) : (w.alloc o).drew.heap[b]? = some x := hp_old (w := w) h
theorem kept43 {W w1 : World} {k : Nat} {x : Obj} {o : Option Nat} (hg : W.grownBy w1 o) (hne : some k ≠ o) (h : W.heap[k]? = some x) : w1.heap[k]? = some x := (hg.block k (Array.getElem?_eq_some_iff.1 h).1 hne).trans h
theorem zs_row {N : Nat} {Zs : Array Value} (hZ : Zs.toList = List.replicate N (.int .i64 0)) {W : World} {g : Nat} (h : W.heap[g]? = some (.cells Zs 3 (0, 0))) : Row1 (Value.int .i64) W g 3 (lst N fun _ => 0) [] := by
  unfold Row1
  rw [h, lst_zero]
  congr 2
  apply Array.toList_inj.1
  rw [hZ]
  simp
theorem pm_mk {W2 W : World} {N gd gs bc : Nat} {rest : List Value} {D : Nat → Int} {Zs : Array Value} (hZ : Zs.toList = List.replicate N (.int .i64 0)) (hrd : Row1 (Value.int .i64) W gd 3 (lst N D) rest) (hrs : W.heap[gs]? = some (.cells Zs 3 (0, 0))) (hbx : Box W bc [.bool false, .slice (some ⟨gs, 0, none⟩) N N, .bool false] 97) (hne : gd ≠ gs) (hlo : W2.heap.size ≤ gd ∧ W2.heap.size ≤ gs ∧ W2.heap.size ≤ bc) (hbe : Below W2.heap.size W2 W) : PMem43 W2 N gd gs bc rest D (fun _ => 0) W :=
  ⟨hrd, zs_row hZ hrs, hbx, hne, hlo, hbe⟩
section
variable {W2 w1 : World} {N gd : Nat} {rest : List Value} {D : Nat → Int} {Zs : Array Value} (hZ : Zs.toList = List.replicate N (.int .i64 0)) (hr : Row1 (Value.int .i64) w1 gd 3 (lst N D) rest) (hc : Below W2.heap.size W2 w1) (hg : W2.heap.size ≤ gd)
include hZ hr hc hg
theorem pm_a : PMem43 W2 N gd w1.heap.size (w1.heap.size + 1) rest D (fun _ => 0) ((w1.alloc (.cells Zs 3)).alloc (.cells #[.bool false, .slice (some ⟨w1.heap.size, 0, none⟩) N N, .bool false] 97)) := by
  have h1 := hr.lt
  have h2 := hc.size
  exact pm_mk hZ ((hr.new _).new _) (hp_old (hp_new rfl)) (by have h := Box.new (w1.alloc (.cells Zs 3)) [.bool false, .slice (some ⟨w1.heap.size, 0, none⟩) N N, .bool false] 97; rw [World.size_alloc] at h; exact h) (by omega) ⟨hg, by omega, by omega⟩ ((hc.alloc hc.size _).alloc (by rw [World.size_alloc]; omega) _)
theorem pm_b : PMem43 W2 N gd (w1.heap.size + 1) w1.heap.size rest D (fun _ => 0) ((w1.alloc (.cells #[.bool false, .slice (some ⟨w1.heap.size + 1, 0, none⟩) N N, .bool false] 97)).alloc (.cells Zs 3)) := by
  have h1 := hr.lt
  have h2 := hc.size
  exact pm_mk hZ ((hr.new _).new _) (hp_new (by rw [World.size_alloc])) ((Box.new w1 [.bool false, .slice (some ⟨w1.heap.size + 1, 0, none⟩) N N, .bool false] 97).next _) (by omega) ⟨hg, by omega, by omega⟩ ((hc.alloc hc.size _).alloc (by rw [World.size_alloc]; omega) _)
theorem pm_c {gs : Nat} (hs : w1.heap[gs]? = some (.cells Zs 3 (0, 0))) (hne : gd ≠ gs) (hl : W2.heap.size ≤ gs) : PMem43 W2 N gd gs w1.heap.size rest D (fun _ => 0) (w1.alloc (.cells #[.bool false, .slice (some ⟨gs, 0, none⟩) N N, .bool false] 97)) := by
  have h2 := hc.size
  exact pm_mk hZ (hr.new _) (hp_old hs) (Box.new w1 [.bool false, .slice (some ⟨gs, 0, none⟩) N N, .bool false] 97) hne ⟨hg, hl, by omega⟩ (hc.alloc hc.size _)
theorem pm_d {gs bc : Nat} (hs : w1.heap[gs]? = some (.cells Zs 3 (0, 0))) (hb : Box w1 bc [.bool false, .slice none 0 0, .bool false] 97) (hne : gd ≠ gs) (hnb : gd ≠ bc ∧ gs ≠ bc) (hl : W2.heap.size ≤ gs ∧ W2.heap.size ≤ bc) :
    PMem43 W2 N gd gs bc rest D (fun _ => 0) (((w1.setCell ⟨bc, 0, none⟩ (.bool false)).setCell ⟨bc, 1, none⟩ (.slice (some ⟨gs, 0, none⟩) N N)).setCell ⟨bc, 2, none⟩ (.bool false)) := by
  have hk : ∀ k, k ≠ bc → (((w1.setCell ⟨bc, 0, none⟩ (.bool false)).setCell ⟨bc, 1, none⟩ (.slice (some ⟨gs, 0, none⟩) N N)).setCell ⟨bc, 2, none⟩ (.bool false)).heap[k]? = w1.heap[k]? := fun k hk =>
    (Below.heap_setCell _ _ _ k hk).trans ((Below.heap_setCell _ _ _ k hk).trans (Below.heap_setCell _ _ _ k hk))
  have hb3 := ((hb.put 0 (.bool false)).put 1 (.slice (some ⟨gs, 0, none⟩) N N)).put 2 (.bool false)
  simp only [List.set_cons_zero, List.set_cons_succ] at hb3
  exact pm_mk hZ (hr.keep (hk gd hnb.1)) ((hk gs hnb.2).trans hs) hb3 hne ⟨hg, hl.1, hl.2⟩ (((hc.setCell hl.2 _).setCell hl.2 _).setCell hl.2 _)
end
theorem refP_bnd {es : List Edg} (hm : ∀ x ∈ es, 0 ≤ x.m ∧ x.m ≤ 50) {N v : Nat} (h12 : N ≤ 12) {left : Nat → Int} {b : Int} (h : ∀ u, -b ≤ left u ∧ left u ≤ b) (k i : Nat) : -(b + 50) ≤ refP es N v left k i ∧ refP es N v left k i ≤ b + 600 := by
  have h1 := valU_bnd hm (v : Int) N
  have h2 := betw_range hm (v : Int) (i : Int)
  have h3 := h v
  have h4 := h i
  unfold refP
  split <;> split <;> omega
theorem tab_row43 {B : Nat} {tw : Value} {rs : List Rw} {W : World} {es : List Edg} {N v : Nat} (h : RTab B tw rs W) (hL : tabL rs = tabP es N N 0) (hv : v < N) :
    ∃ (g cap rg rc : Nat), tw = .slice (some ⟨g, 0, none⟩) N cap ∧ N ≤ cap ∧ W.cell? ⟨g, v, none⟩ = some (.slice (some ⟨rg, 0, none⟩) N rc) ∧ N ≤ rc ∧ ∀ u, u < N → W.cell? ⟨rg, u, none⟩ = some (.int .i64 (if v ≠ u then betw es v u else 0)) := by
  have hl : rs.length = N := by
    have h5 := congrArg List.length hL
    rw [tabP_len] at h5
    simpa [tabL] using h5
  obtain ⟨r, hr⟩ : ∃ r, rs[v]? = some r := ⟨_, List.getElem?_eq_getElem (by omega)⟩
  have h5 := congrArg (fun l => l[v]?) hL
  simp only [tabL, List.getElem?_map, hr, Option.map_some, tabP_row hv] at h5
  injection h5 with h5
  obtain ⟨g, cap, h1, h2, _, h3, h4, _, h6, _⟩ := h.get hr
  have h7 : r.l.length = N := by rw [h5, lst_len]
  rw [hl] at h1 h2
  rw [h7] at h3 h6
  refine ⟨g, cap, r.g, r.c, h1, h2, h3, h6, fun u hu => ?_⟩
  have h8 := h4.cell (i := u) (by rw [h5]; exact lst_get _ hu)
  rw [h8]
  by_cases e : v = u
  · subst e
    simp
  · rw [if_pos ⟨.inl hv, e⟩, if_pos e]
theorem played_end {w W2 wr : World} {N gd gs bc : Nat} {rest : List Value} {left s : Nat → Int} {r : Bool × List Int × Int} (h : PMem43 W2 N gd gs bc rest left s wr) (hb : Below w.heap.size w W2) (hle : w.heap.size + 1 < W2.heap.size) (a over : Bool) (i : Nat) (x y0 y1 y2 : Value) (hs : ∀ u, -2000000 ≤ s u ∧ s u ≤ 0) (hr : r = if over = true then (false, [], 12) else (a, lst N s, 0)) :
    PlayPost w N r (.returned (.agg #[.bool a, .slice (some ⟨gs, 0, none⟩) N N, .bool over])) ((((wr.setCell ⟨bc, i, none⟩ x).setCell ⟨w.heap.size + 1, 0, none⟩ y0).setCell ⟨w.heap.size + 1, 1, none⟩ y1).setCell ⟨w.heap.size + 1, 2, none⟩ y2) := by
  have hl := h.lo
  have hz := hb.size
  have hn : gs ≠ w.heap.size + 1 := by omega
  have h1 := (((h.rs.other (p := ⟨bc, i, none⟩) (fun e => h.nd.2 e.symm) x).other (p := ⟨w.heap.size + 1, 0, none⟩) hn y0).other (p := ⟨w.heap.size + 1, 1, none⟩) hn y1).other (p := ⟨w.heap.size + 1, 2, none⟩) hn y2
  have h2 : Below w.heap.size w wr := hb.trans (h.be.mono hz)
  exact ⟨a, over, gs, lst N s, rfl, h1, lst_len N s, fun z hm => by obtain ⟨v, _, rfl⟩ := List.mem_map.1 hm; have := hs v; unfold I64; omega, hr, by omega, (((h2.setCell (by show w.heap.size ≤ bc; omega) _).setCell (by show w.heap.size ≤ w.heap.size + 1; omega) _).setCell (by show w.heap.size ≤ w.heap.size + 1; omega) _).setCell (by show w.heap.size ≤ w.heap.size + 1; omega) _⟩
set_option maxRecDepth 100000 in
set_option maxHeartbeats 8000000 in
theorem rplayed_any {N : Nat} {es : List Edg} (hV : gErr N es = 0) (hok : EOk N es) (h12 : 1 ≤ N ∧ N ≤ 12) (oe : Option Addr) (c : Nat) (F : Foot) (w : World) (hs : SliceR edgR 3 F w oe es) (hc : es.length ≤ c) (d : List Int) (od : Option Addr) (cd : Nat) (G : Foot) (hd : SliceR intR 1 G w od d) (hdc : N ≤ cd) (hdN : d.length = N) (hdb : Hid (∀ y ∈ d, -1048576 ≤ y ∧ y ≤ 1048576))
    (pk : List Int) (op : Option Addr) (cp : Nat) (H : Foot) (hp : SliceR intR 1 H w op pk) (hpc : pk.length ≤ cp) (hpl : 0 < pk.length ∧ pk.length ≤ 4096) (hpz : Hid (∀ x ∈ pk, 0 ≤ x)) :
    Calls Tryz.prog 56 #[.agg #[.int .i64 N, .slice oe es.length c], .slice od N cd, .slice op pk.length cp] w (PlayPost w N (gRun N es pk 1048576 0 (fun v => d.getD v 0) (fun _ => 0))) := by
  obtain ⟨M, hM⟩ : ∃ M : Nat, M = 1048576 := ⟨_, rfl⟩
  rw [← hM]
  have HM := hide hM
  obtain ⟨_, _, _, _, bd, ofd, hod, _, _⟩ := hd.int_at (i := 0) (by omega)
  subst hod
  obtain ⟨D, hD⟩ : ∃ D : Nat → Int, D = fun v => d.getD v 0 := ⟨_, rfl⟩
  have HDB : Hid (∀ u, -1048576 ≤ D u ∧ D u ≤ 1048576) := fun u => by
    rw [hD]
    show -1048576 ≤ d.getD u 0 ∧ d.getD u 0 ≤ 1048576
    rw [List.getD_eq_getElem?_getD]
    cases h : d[u]? with
    | none => simp
    | some x => have := hdb.out x (List.mem_of_getElem? h); simpa using this
  have HDL : Hid (d = lst N D) := by
    show _ = _
    apply List.ext_getElem?
    intro i
    by_cases hi : i < N
    · rw [lst_get _ hi, hD]
      show _ = some (d.getD i 0)
      rw [List.getD_eq_getElem?_getD, List.getElem?_eq_getElem (by omega)]
      rfl
    · rw [List.getElem?_eq_none (by omega), List.getElem?_eq_none (by rw [lst_len]; omega)]
  rw [← hD]
  have HV := hide hV
  have HOK := hide hok
  have HMB : Hid (∀ x ∈ es, 0 ≤ x.m ∧ x.m ≤ 50) := fun x hx => by have := (hok.at_ x hx).2; omega
  have hes := hok.len
  obtain ⟨W0, e0⟩ : ∃ W0, w.alloc (.cells #[.int .i64 N, .slice oe es.length c] 24) = W0 := ⟨_, rfl⟩
  have hW0s : W0.heap.size = w.heap.size + 1 := by rw [← e0, World.size_alloc]
  obtain ⟨W1, e1⟩ : ∃ W1, W0.alloc (.cells #[.bool false, .slice none 0 0, .bool false] 97) = W1 := ⟨_, rfl⟩
  have bx0 : Box W0 w.heap.size [.int .i64 N, .slice oe es.length c] 24 := by rw [← e0]; exact Box.new w [.int .i64 N, .slice oe es.length c] 24
  have bx1 : Box W1 w.heap.size [.int .i64 N, .slice oe es.length c] 24 := by rw [← e1]; exact bx0.next _
  have br1 : Box W1 W0.heap.size [.bool false, .slice none 0 0, .bool false] 97 := by rw [← e1]; exact Box.new W0 [.bool false, .slice none 0 0, .bool false] 97
  have bb1 : Below w.heap.size w W1 := by
    rw [← e1, ← e0]
    exact bnew (bnew (Below.refl w.heap.size w) _) _
  rw [hW0s] at br1
  have HX := hide bx1
  have HRX := hide br1
  have HB1 := hide bb1
  have hwl := br1.lt
  have HS1 := hide (hs.below edgR_ok bb1)
  have HD1 := hide (hd.below intR_ok bb1)
  have HP1 := hide (hp.below intR_ok bb1)
  have HDN := hide hdN
  have y0 := bx1.cell 0
  have y1 := bx1.cell 1
  simp only [List.getElem?_cons_zero, List.getElem?_cons_succ] at y0 y1
  have HRO : Hid (∀ W, Below W1.heap.size W1 W → Calls Tryz.prog 91 #[.agg #[.int .i64 N, .slice oe es.length c]] W fun e w' => ∃ tw rs, e = .returned tw ∧ RTab W.heap.size tw rs w' ∧ tabL rs = tabP es N N 0 ∧ Below W.heap.size W w') := fun W hW => rrows_any N h12.2 es oe c F W (HS1.out.below edgR_ok hW) hc hok.len HMB
  have HVA : Hid (∀ W, Below W1.heap.size W1 W → Calls Tryz.prog 92 #[.agg #[.int .i64 N, .slice oe es.length c]] W fun e w' => ∃ v, e = .returned v ∧ OwnS intR 1 W.heap.size 3 Non w' v (valsL es N N) ∧ Below W.heap.size W w') := fun W hW => rvals_any N h12.2 es oe c F W (HS1.out.below edgR_ok hW) hc hok.len HMB
  have HB2 := hide (Below.refl W1.heap.size W1)
  clear hs hd hp bx0 bx1 br1 bb1 hok hD hdN hM hV
  go_enter Tryz.func56, Tryz.ntmps56
  go_upto_region 1 with fail
  go_cut [7, 8] (fun s7 s8 wx => ∃ (tw : Value) (rs : List Rw) (vv : Value), s7 = tw ∧ s8 = vv ∧ Hid (RTab W1.heap.size tw rs wx) ∧ Hid (tabL rs = tabP es N N 0) ∧ Hid (OwnS intR 1 W1.heap.size 3 Non wx vv (valsL es N N)) ∧ Hid (Below W1.heap.size W1 wx))
  case first =>
    go_region_held3 (fun w' => w'.cell? ⟨w.heap.size, 0, none⟩ = some (.int .i64 N) ∧ w'.cell? ⟨w.heap.size, 1, none⟩ = some (.slice oe es.length c)) (first | with_reducible exact ⟨y0, y1⟩ | exact ⟨y0, y1⟩) (first
      | (go_at_call 91; refine (HRO.out _ (by first | with_reducible exact HB2.out | with_reducible exact HB2.out.drew)).mono ?_; rintro e w5 ⟨tw, rs, rfl, hT, hL, h5⟩; have HT := hide hT; have HL := hide hL; have HBT := hide h5; have y0 := (h5.cell (World.block_lt_of_cell? _ _ y0)).trans y0; have y1 := (h5.cell (World.block_lt_of_cell? _ _ y1)).trans y1; have HB2 := hide (show Below W1.heap.size W1 w5 from below_then (by first | with_reducible exact HB2.out | with_reducible exact HB2.out.drew) h5); clear h5 hT hL)
      | (go_at_call 92; refine (HVA.out _ (by first | with_reducible exact HB2.out | with_reducible exact HB2.out.drew)).mono ?_; rintro e w6 ⟨vv, rfl, hO, h6⟩; have HO := hide hO; have HBO := hide h6; have y0 := (h6.cell (World.block_lt_of_cell? _ _ y0)).trans y0; have y1 := (h6.cell (World.block_lt_of_cell? _ _ y1)).trans y1; have HB2 := hide (show Below W1.heap.size W1 w6 from below_then (by first | with_reducible exact HB2.out | with_reducible exact HB2.out.drew) h6); clear h6 hO))
    · go_wp2_with fail
      go_meet
      have hsz := HBT.out.size
      refine ⟨tw, rs, vv, rfl, rfl, ?_, HL, ?_, HB2⟩
      · first
        | exact (HT.out.rebase (by first | exact Nat.le_refl _ | (simp only [drew_size] at *; omega))).below HBO.out
        | exact HT.out.rebase (by have := HBO.out.size; simp only [drew_size] at *; omega)
      · first
        | exact (OwnS.rebase HO.out (by have := HBT.out.size; simp only [drew_size] at *; omega))
        | exact (OwnS.rebase HO.out (by first | exact Nat.le_refl _ | (simp only [drew_size] at *; omega))).below intR_ok HBT.out
  case rest =>
    obtain ⟨tw, rs, vv, rfl, rfl, HT, HTL, HO, HB⟩ := hcut
    obtain ⟨W2, hW2⟩ : ∃ W2, W2 = wc := ⟨_, rfl⟩
    subst hW2
    have bx2 := HX.out.under HB.out (by omega)
    have y0 := bx2.cell 0
    simp only [List.getElem?_cons_zero, List.getElem?_cons_succ] at y0
    obtain ⟨Zs, hZs, hmk⟩ := mk_ints 26 3 Tryz.underlying26 (by kernel_rfl) N (by omega)
    have HZS := hide hZs
    have HBD : Hid (∀ W, Below W2.heap.size W2 W → SliceR intR 1 G W (some ⟨bd, ofd, none⟩) d) := fun W hW => (HD1.out.below intR_ok HB.out).below intR_ok hW
    clear bx2 hZs y1
    have y0w := y0
    have hwW : w.heap.size < W2.heap.size := by have := HB.out.size; omega
    have hn0 : w.heap.size ≠ W2.heap.size := by omega
    have hn1 : w.heap.size ≠ W2.heap.size + 1 := by omega
    have hn2 : w.heap.size ≠ W2.heap.size + 1 + 1 := by omega
    go_upto_region 2 with fail
    go_cut [9, 10] (fun s9 s10 wx => ∃ gd c2 gs bc rest, s9 = .slice (some ⟨gd, 0, none⟩) N c2 ∧ s10 = .pointer (some ⟨bc, 0, none⟩) ∧ N ≤ c2 ∧ Hid (PMem43 W2 N gd gs bc rest D (fun _ => 0) wx))
    case first =>
      go_region_held3 (fun w' => w'.cell? ⟨w.heap.size, 0, none⟩ = some (.int .i64 N)) (first | with_reducible exact y0 | with_reducible exact cell_drew y0 | with_reducible exact cell_next y0 _ | with_reducible exact cell_drew (cell_next y0 _) | with_reducible exact cell_next (cell_next y0 _) _ | with_reducible exact cell_drew (cell_next (cell_next y0 _) _)| with_reducible exact cell_next (cell_next (cell_next y0 _) _) _ | with_reducible exact cell_drew (cell_next (cell_next (cell_next y0 _) _) _) | with_reducible exact cell_set3 y0 hn0 | with_reducible exact cell_set3 y0 hn1 | with_reducible exact cell_set3 y0 hn2 | with_reducible exact cell_set3 (cell_next y0 _) hn0 | with_reducible exact cell_set3 (cell_next y0 _) hn1 | with_reducible exact cell_set3 (cell_next y0 _) hn2) (first
        | (refine step_append_fresh (R := intR) (f := Value.int .i64) rfl (.tmp 21) (.tmp 22) 28 rfl 3 _ 8 Tryz.underlying28 iInfo rfl (fun _ _ _ _ h => h.1) _ rfl G (some ⟨bd, ofd, none⟩) cd d (by rw [HDN.out]; simp [Act.eval, Act.put]) (HBD.out _ (by first | with_reducible exact (bnew (Below.refl _ _) _).drew | with_reducible exact (bnew (bnew (Below.refl _ _) _) _).drew | with_reducible exact (bnew (bnew (bnew (Below.refl _ _) _) _) _).drew)) (by rw [HDN.out]; omega) (by rw [HDN.out]; omega) (by rw [HDN.out]; unfold maxLen; omega) ?_; intro w1 gd cap rest hgd1 hrow1 hcap1 hg1; rw [HDN.out]; have HR1 : Hid (Row1 (Value.int .i64) w1 gd 3 (lst N D) rest) := (by rw [← HDL.out]; exact hrow1); have HC1 : Hid (Below W2.heap.size W2 w1) := below_then (by first | with_reducible exact (bnew (Below.refl _ _) _).drew | with_reducible exact (bnew (bnew (Below.refl _ _) _) _).drew | with_reducible exact (bnew (bnew (bnew (Below.refl _ _) _) _) _).drew) ((Below.refl _ _).grown hg1 (Nat.le_refl _) fun k hk => by cases hk); rw [HDN.out] at hcap1; have HCP := hide hcap1; simp only [World.size_alloc, drew_size] at hgd1; have HGD := hide hgd1; have y0 := (HC1.out.cell (World.block_lt_of_cell? _ _ y0w)).trans y0w; (first | (have hbx : Box w1 (W2.heap.size) [.bool false, .slice none 0 0, .bool false] 97 := kept43 hg1 (by simp) (by first | with_reducible exact hp_n0 _ _ | with_reducible exact hp_n1 _ _ _ | with_reducible exact hp_n2 _ _ _ _ | with_reducible exact hp_on (hp_n0 _ _) | with_reducible exact hp_on (hp_n1 _ _ _) | with_reducible exact hp_on (hp_on (hp_n0 _ _))); have x0 := hbx.cell 0; have x1 := hbx.cell 1; have x2 := hbx.cell 2; simp only [List.getElem?_cons_zero, List.getElem?_cons_succ] at x0 x1 x2; have f0 := hbx.free 0; have f1 := hbx.free 1; have f2 := hbx.free 2; have hby := hbx.next (.cells Zs 3); have x3 := hby.cell 0; have x4 := hby.cell 1; have x5 := hby.cell 2; simp only [List.getElem?_cons_zero, List.getElem?_cons_succ] at x3 x4 x5; have f3 := hby.free 0; have f4 := hby.free 1; have f5 := hby.free 2; have HBX1 := hide hbx; clear hbx hby) | (have hbx : Box w1 (W2.heap.size + 1) [.bool false, .slice none 0 0, .bool false] 97 := kept43 hg1 (by simp) (by first | with_reducible exact hp_n0 _ _ | with_reducible exact hp_n1 _ _ _ | with_reducible exact hp_n2 _ _ _ _ | with_reducible exact hp_on (hp_n0 _ _) | with_reducible exact hp_on (hp_n1 _ _ _) | with_reducible exact hp_on (hp_on (hp_n0 _ _))); have x0 := hbx.cell 0; have x1 := hbx.cell 1; have x2 := hbx.cell 2; simp only [List.getElem?_cons_zero, List.getElem?_cons_succ] at x0 x1 x2; have f0 := hbx.free 0; have f1 := hbx.free 1; have f2 := hbx.free 2; have hby := hbx.next (.cells Zs 3); have x3 := hby.cell 0; have x4 := hby.cell 1; have x5 := hby.cell 2; simp only [List.getElem?_cons_zero, List.getElem?_cons_succ] at x3 x4 x5; have f3 := hby.free 0; have f4 := hby.free 1; have f5 := hby.free 2; have HBX1 := hide hbx; clear hbx hby) | (have hbx : Box w1 (W2.heap.size + 2) [.bool false, .slice none 0 0, .bool false] 97 := kept43 hg1 (by simp) (by first | with_reducible exact hp_n0 _ _ | with_reducible exact hp_n1 _ _ _ | with_reducible exact hp_n2 _ _ _ _ | with_reducible exact hp_on (hp_n0 _ _) | with_reducible exact hp_on (hp_n1 _ _ _) | with_reducible exact hp_on (hp_on (hp_n0 _ _))); have x0 := hbx.cell 0; have x1 := hbx.cell 1; have x2 := hbx.cell 2; simp only [List.getElem?_cons_zero, List.getElem?_cons_succ] at x0 x1 x2; have f0 := hbx.free 0; have f1 := hbx.free 1; have f2 := hbx.free 2; have hby := hbx.next (.cells Zs 3); have x3 := hby.cell 0; have x4 := hby.cell 1; have x5 := hby.cell 2; simp only [List.getElem?_cons_zero, List.getElem?_cons_succ] at x3 x4 x5; have f3 := hby.free 0; have f4 := hby.free 1; have f5 := hby.free 2; have HBX1 := hide hbx; clear hbx hby) | skip); (first | (have hrs : w1.heap[W2.heap.size]? = some (.cells Zs 3 (0, 0)) := kept43 hg1 (by simp) (by first | with_reducible exact hp_n0 _ _ | with_reducible exact hp_n1 _ _ _ | with_reducible exact hp_n2 _ _ _ _ | with_reducible exact hp_on (hp_n0 _ _) | with_reducible exact hp_on (hp_n1 _ _ _) | with_reducible exact hp_on (hp_on (hp_n0 _ _))); have HRS1 := hide hrs; clear hrs) | (have hrs : w1.heap[W2.heap.size + 1]? = some (.cells Zs 3 (0, 0)) := kept43 hg1 (by simp) (by first | with_reducible exact hp_n0 _ _ | with_reducible exact hp_n1 _ _ _ | with_reducible exact hp_n2 _ _ _ _ | with_reducible exact hp_on (hp_n0 _ _) | with_reducible exact hp_on (hp_n1 _ _ _) | with_reducible exact hp_on (hp_on (hp_n0 _ _))); have HRS1 := hide hrs; clear hrs) | (have hrs : w1.heap[W2.heap.size + 2]? = some (.cells Zs 3 (0, 0)) := kept43 hg1 (by simp) (by first | with_reducible exact hp_n0 _ _ | with_reducible exact hp_n1 _ _ _ | with_reducible exact hp_n2 _ _ _ _ | with_reducible exact hp_on (hp_n0 _ _) | with_reducible exact hp_on (hp_n1 _ _ _) | with_reducible exact hp_on (hp_on (hp_n0 _ _))); have HRS1 := hide hrs; clear hrs) | skip); clear hg1 hrow1 hgd1 hcap1)
        | fail)
      all_goals
        go_wp2_with fail
        go_meet
        have hgl := HGD.out
        have hlt := HR1.out.lt
        have hsz := HC1.out.size
        have hcp : N ≤ cap := by have := HCP.out.1; omega
        first
        | exact ⟨gd, cap, _, _, rest, rfl, rfl, hcp, pm_a HZS.out HR1.out HC1.out (by omega)⟩
        | exact ⟨gd, cap, _, _, rest, rfl, rfl, hcp, pm_b HZS.out HR1.out HC1.out (by omega)⟩
        | exact ⟨gd, cap, _, _, rest, rfl, rfl, hcp, pm_c HZS.out HR1.out HC1.out (by omega) HRS1.out (by omega) (by omega)⟩
        | exact ⟨gd, cap, _, _, rest, rfl, rfl, hcp, pm_d HZS.out HR1.out HC1.out (by omega) HRS1.out HBX1.out (by omega) (by omega) (by omega)⟩
        | exact ⟨gd, cap, _, _, rest, rfl, rfl, hcp, pm_d HZS.out (HR1.out.new _) (HC1.out.alloc HC1.out.size _) (by omega) (hp_new rfl) (HBX1.out.next _) (by omega) (by omega) (by omega)⟩
    case rest =>
      obtain ⟨gd, c2, gs, bc, rest, rfl, rfl, hc2, HG0⟩ := hcut
      have hw12 := HB.out.size
      have HX2 := hide (HX.out.under HB.out (by omega))
      have HRX2 := hide (HRX.out.under HB.out (by omega))
      have HB12 : Hid (Below w.heap.size w W2) := HB1.out.trans (HB.out.mono (by omega))
      have HPK := hide (HP1.out.below intR_ok HB.out)
      have hwl2 : w.heap.size + 1 < W2.heap.size := by omega
      obtain ⟨np, hnp⟩ : ∃ np, np = pk.length := ⟨_, rfl⟩
      have HNP := hide hnp
      have hnp1 : 0 < np ∧ np ≤ 4096 := by omega
      have hnpc : np ≤ cp := by omega
      rw [← hnp]
      clear y0 y0w hmk HBD hn0 hn1 hn2 HRO HVA HB2 HS1 HD1 HP1 HX HRX HZS HB1 hnp hpl hpc HDN HDL e0 e1
      go_wp2_with fail
      go_loopg [11] M (fun gm iv wx => ∃ (k : Nat) (left s : Nat → Int), k ≤ M ∧ gm = M - k ∧ iv = .int .i64 k ∧ Hid (PMem43 W2 N gd gs bc rest left s wx) ∧ Hid (gRun N es pk M 0 D (fun _ => 0) = gRun N es pk (M - k) k left s) ∧ Hid (∀ u, -(1048576 + 100000 * (k : Int)) ≤ left u ∧ left u ≤ 1048576 + 100000 * (k : Int)) ∧ Hid (∀ u, -(k : Int) ≤ s u ∧ s u ≤ 0))
      case atStart => exact ⟨0, D, fun _ => 0, by omega, by omega, rfl, HG0, rfl, fun u => by have := HDB.out u; omega, fun u => by simp⟩
      case round =>
        obtain ⟨k, left, s, hk, hgm, rfl, HG, HRUN, HLB, HSB⟩ := hrel
        have HGM := hide hgm
        have hMk : M ≤ 1048576 := by have := HM.out; omega
        clear hgm HG0
        obtain ⟨wt, hwt0⟩ : ∃ wt : World, wt = wr := ⟨_, rfl⟩
        subst hwt0
        go_wp2_with fail
        go_loopg [12, 13, 14] N (fun gm pv av iv wx => ∃ j : Nat, j ≤ N ∧ gm = N - j ∧ iv = .int .i64 j ∧ av = .bool (allNeg j s) ∧ Hid (OwnS intR 1 wt.heap.size 3 Non wx pv (poorL left j)) ∧ Hid (Below wt.heap.size wt wx))
        case atStart => exact ⟨0, by omega, by omega, rfl, rfl, OwnS.nil _ _ _ _ _ _, Below.refl _ _⟩
        case round =>
          obtain ⟨j, hj, hgm, rfl, rfl, HO, HBt⟩ := hrel
          have HGM2 := hide hgm
          have HGr := hide (HG.out.below HBt.out)
          have y0 := (HX2.out.under HGr.out.be (by omega)).cell 0
          simp only [List.getElem?_cons_zero, List.getElem?_cons_succ] at y0
          clear hgm
          by_cases hlt : j < N
          · obtain ⟨z, hz⟩ : ∃ z, z = s j := ⟨_, rfl⟩
            have e0 : wr.cell? ⟨gd, j, none⟩ = some (.int .i64 (left j)) := HGr.out.rd.cell (lst_get left hlt)
            have e1 : wr.cell? ⟨gs, j, none⟩ = some (.int .i64 z) := by rw [hz]; exact HGr.out.rs.cell (lst_get s hlt)
            have e2 := HGr.out.bx.cell 1
            simp only [List.getElem?_cons_zero, List.getElem?_cons_succ] at e2
            have hj0 : (0 : Int) ≤ j := by omega
            have hj1 : (j : Int) < N := by omega
            have hlb := HLB.out j
            have hzb := HSB.out j
            rw [← hz] at hzb
            have HPJ : Hid (poorL left (j + 1) = if left j < 0 then poorL left j ++ [(j : Int)] else poorL left j) := rfl
            have HPL := hide (poorL_len left j)
            have hij : I64 (j : Int) := by unfold I64; omega
            have HAN : Hid (allNeg (j + 1) s = (allNeg j s && decide (z < 0))) := by rw [hz]; exact allNeg_next j s
            have HCE : Hid (∀ W, Below wt.heap.size wt W → W.cell? ⟨gs, j, none⟩ = some (.int .i64 z) ∧ W.cell? ⟨bc, 1, none⟩ = some (.slice (some ⟨gs, 0, none⟩) N N)) := fun W hW => ⟨by rw [hz]; exact (HG.out.below hW).rs.cell (lst_get s hlt), by have h5 := (HG.out.below hW).bx.cell 1; simp only [List.getElem?_cons_zero, List.getElem?_cons_succ] at h5; exact h5⟩
            generalize left j = x at *
            generalize allNeg j s = an at *
            clear hz
            by_cases hx : x < 0
            · have HPJ2 : Hid (poorL left (j + 1) = poorL left j ++ [(j : Int)]) := by show _ = _; rw [HPJ.out, if_pos hx]
              rcases an with _ | _
              all_goals
                go_wp2_with (at_builtin; refine wpList_append_rep rfl (.tmp 41) (.tmp 43) 25 rfl wt.heap.size 3 _ 1 8 Tryz.underlying25 iInfo rfl (by decide) intR_ok Non All _ (poorL left j) (by simp [Act.eval, Act.put]) (HO.out.new intR_ok _) (some ⟨wr.heap.size, 0, none⟩) 1 [(j : Int)] (by simp [Act.eval, Act.put]) (intlF wr j hij trivial) (fun _ _ h => h) (fun _ h => h.elim) (by have := HPL.out; simp; omega) (by have := HPL.out; simp; omega) (by rw [alloc_size']; have := HBt.out.size; omega) ?_; intro v' w14 ho hb5 hg5; have HO5 := hide ho; have HB5' := hide (show Below wt.heap.size wt w14 from (HBt.out.alloc HBt.out.size _).trans hb5); clear ho hb5 hg5; have e1 := (HCE.out _ HB5'.out).1; have e2 := (HCE.out _ HB5'.out).2)
                go_roundg (N - (j + 1))
                case measure => have := HGM2.out; omega
                case rel => exact ⟨j + 1, by omega, rfl, by go_num, by rw [HAN.out]; rfl, by rw [HPJ2.out]; exact HO5.out, HB5'.out⟩
            · have HPJ2 : Hid (poorL left (j + 1) = poorL left j) := by show _ = _; rw [HPJ.out, if_neg hx]
              rcases an with _ | _
              all_goals
                go_wp2_with fail
                go_roundg (N - (j + 1))
                case measure => have := HGM2.out; omega
                case rel => exact ⟨j + 1, by omega, rfl, by go_num, by rw [HAN.out]; rfl, by rw [HPJ2.out]; exact HO.out, HBt.out⟩
          · have hje : j = N := by omega
            have HOE : Hid (OwnS intR 1 wt.heap.size 3 Non wr u12 (poorL left N)) := by rw [← hje]; exact HO.out
            obtain ⟨oP, cP, hpv, hcP, hsP⟩ := HOE.out.slice intR_ok
            subst hpv
            obtain ⟨pl, hpl⟩ : ∃ pl, pl = (poorL left N).length := ⟨_, rfl⟩
            have HPL := hide hpl
            have hplN : pl ≤ 12 := by have := poorL_len left N; omega
            have HSP := hide hsP
            have HMK2 : Hid (∀ u, -2000000 ≤ s u ∧ s u ≤ 0) := fun u => by have := HSB.out u; omega
            rw [← hpl] at hcP ⊢
            rw [hje]
            have hbx := HGr.out.bx
            have x0 := hbx.cell 0
            have f0 := hbx.free 0
            have f2 := hbx.free 2
            have x2 := hbx.cell 2
            simp only [List.getElem?_cons_zero, List.getElem?_cons_succ] at x0 x2
            have hlo := HGr.out.lo
            have hbne : bc ≠ w.heap.size + 1 := by omega
            have hrx := HRX2.out.under HGr.out.be (by omega)
            have HBX := hide hbx
            have HRXr := hide hrx
            clear hje hpl hsP HO HOE hbx
            have fin : ∀ (i : Nat) (a over : Bool) (v : Value), ([Value.bool false, .slice (some ⟨gs, 0, none⟩) N N, .bool false]).set i v = [.bool a, .slice (some ⟨gs, 0, none⟩) N N, .bool over] →
                ((wr.setCell ⟨bc, i, none⟩ v).cell? ⟨bc, 0, none⟩ = some (.bool a) ∧ (wr.setCell ⟨bc, i, none⟩ v).cell? ⟨bc, 1, none⟩ = some (.slice (some ⟨gs, 0, none⟩) N N) ∧ (wr.setCell ⟨bc, i, none⟩ v).cell? ⟨bc, 2, none⟩ = some (.bool over)) ∧ Box (wr.setCell ⟨bc, i, none⟩ v) (w.heap.size + 1) [.bool false, .slice none 0 0, .bool false] 97 := fun i a over v he => by
              have h5 := HBX.out.put i v
              rw [he] at h5
              have g0 := h5.cell 0
              have g1 := h5.cell 1
              have g2 := h5.cell 2
              simp only [List.getElem?_cons_zero, List.getElem?_cons_succ] at g0 g1 g2
              exact ⟨⟨g0, g1, g2⟩, HRXr.out.other (fun e => hbne e.symm) _⟩
            have HFIN := hide fin
            clear fin hrx
            by_cases hp0 : pl = 0
            · have hpe : poorL left N = [] := List.eq_nil_of_length_eq_zero (by have := HPL.out; omega)
              have HR2 : Hid (gRun N es pk M 0 D (fun _ => 0) = (true, lst N s, 0)) := by
                show _ = _
                rw [HRUN.out]
                cases M - k <;> (unfold gRun; rw [if_pos hpe])
              have q1 : ((pl : Int) == 0) = true := by rw [hp0]; rfl
              obtain ⟨⟨g0, g1, g2⟩, hrx⟩ := HFIN.out 0 true false (.bool true) rfl
              obtain ⟨W8, hW8⟩ : ∃ W8, wr.setCell ⟨bc, 0, none⟩ (.bool true) = W8 := ⟨_, rfl⟩
              rw [hW8] at g0 g1 g2 hrx
              have r0 := hrx.cell 0
              have r1 := hrx.cell 1
              have r2 := hrx.cell 2
              have rf := hrx.free
              simp only [List.getElem?_cons_zero, List.getElem?_cons_succ] at r0 r1 r2
              have hend := ((hrx.put 0 (.bool true)).put 1 (.slice (some ⟨gs, 0, none⟩) N N)).put 2 (.bool false)
              simp only [List.set_cons_zero, List.set_cons_succ] at hend
              have HEND := hide hend
              clear hp0 hpe hend hrx
              go_wp2_with fail
              refine bodyPost_ret (results_cell_row rfl _ _ (w.heap.size + 1) 97 _ (0, 0) _ rfl HEND.out Tryz.underlying97 rfl (by kernel_rfl)) rfl ?_
              rw [← hW8]
              exact played_end HGr.out HB12.out hwl2 true false 0 _ _ _ _ HMK2.out HR2.out
            · have hpe : poorL left N ≠ [] := fun h => hp0 (by rw [HPL.out, h]; rfl)
              have q1 : ((pl : Int) == 0) = false := by simp; intro e; rw [e] at hp0; exact hp0 rfl
              have HPE := hide hpe
              have hpl1 : 0 < pl := by omega
              clear hp0 hpe
              by_cases han : allNeg N s = true
              · have HR2 : Hid (gRun N es pk M 0 D (fun _ => 0) = (false, lst N s, 0)) := by
                  show _ = _
                  rw [HRUN.out]
                  cases M - k <;> (unfold gRun; rw [if_neg HPE.out, if_pos han])
                rw [han]
                clear han
                obtain ⟨⟨g0, g1, g2⟩, hrx⟩ := HFIN.out 0 false false (.bool false) rfl
                obtain ⟨W8, hW8⟩ : ∃ W8, wr.setCell ⟨bc, 0, none⟩ (.bool false) = W8 := ⟨_, rfl⟩
                rw [hW8] at g0 g1 g2 hrx
                have r0 := hrx.cell 0
                have r1 := hrx.cell 1
                have r2 := hrx.cell 2
                have rf := hrx.free
                simp only [List.getElem?_cons_zero, List.getElem?_cons_succ] at r0 r1 r2
                have hend := ((hrx.put 0 (.bool false)).put 1 (.slice (some ⟨gs, 0, none⟩) N N)).put 2 (.bool false)
                simp only [List.set_cons_zero, List.set_cons_succ] at hend
                have HEND := hide hend
                clear hend hrx
                go_wp2_with fail
                refine bodyPost_ret (results_cell_row rfl _ _ (w.heap.size + 1) 97 _ (0, 0) _ rfl HEND.out Tryz.underlying97 rfl (by kernel_rfl)) rfl ?_
                rw [← hW8]
                exact played_end HGr.out HB12.out hwl2 false false 0 _ _ _ _ HMK2.out HR2.out
              · have h5 : Hid (¬ allNeg N s = true) := han
                have han2 : allNeg N s = false := by simpa using han
                rw [han2]
                clear han han2
                by_cases hkM : k = M
                · have HR2 : Hid (gRun N es pk M 0 D (fun _ => 0) = (false, [], 12)) := by
                    show _ = _
                    rw [HRUN.out, hkM, Nat.sub_self]
                    unfold gRun
                    rw [if_neg HPE.out, if_neg h5.out]
                  have q2 : ((k : Int) == 1048576) = true := by simp; have := HM.out; omega
                  clear hkM
                  obtain ⟨⟨g0, g1, g2⟩, hrx⟩ := HFIN.out 2 false true (.bool true) rfl
                  obtain ⟨W8, hW8⟩ : ∃ W8, wr.setCell ⟨bc, 2, none⟩ (.bool true) = W8 := ⟨_, rfl⟩
                  rw [hW8] at g0 g1 g2 hrx
                  have r0 := hrx.cell 0
                  have r1 := hrx.cell 1
                  have r2 := hrx.cell 2
                  have rf := hrx.free
                  simp only [List.getElem?_cons_zero, List.getElem?_cons_succ] at r0 r1 r2
                  have hend := ((hrx.put 0 (.bool false)).put 1 (.slice (some ⟨gs, 0, none⟩) N N)).put 2 (.bool true)
                  simp only [List.set_cons_zero, List.set_cons_succ] at hend
                  have HEND := hide hend
                  clear hend hrx
                  go_wp2_with fail
                  refine bodyPost_ret (results_cell_row rfl _ _ (w.heap.size + 1) 97 _ (0, 0) _ rfl HEND.out Tryz.underlying97 rfl (by kernel_rfl)) rfl ?_
                  rw [← hW8]
                  exact played_end HGr.out HB12.out hwl2 false true 2 _ _ _ _ HMK2.out HR2.out
                · have q2 : ((k : Int) == 1048576) = false := by simp; have := HM.out; omega
                  obtain ⟨hvN, hvl, hvg⟩ := gPick_ok (picks := pk) (i := k) HPE.out
                  have HRUN2 : Hid (gRun N es pk M 0 D (fun _ => 0) = gRun N es pk (M - (k + 1)) (k + 1) (borF es (gPick pk k (poorL left N)) left) (putF s (gPick pk k (poorL left N)) (s (gPick pk k (poorL left N)) - 1))) := by
                    show _ = _
                    rw [HRUN.out, show M - k = (M - (k + 1)) + 1 by omega, gRun, if_neg HPE.out, if_neg h5.out]
                  generalize gPick pk k (poorL left N) = v at *
                  obtain ⟨A, hA⟩ : ∃ A, A = k % np := ⟨_, rfl⟩
                  have hAl : A < np := by rw [hA]; exact Nat.mod_lt _ (by omega)
                  have rem1 : ((k : Int)).tmod (np : Int) = (A : Int) := by rw [hA, Int.tmod_eq_emod_of_nonneg (by omega)]; rfl
                  obtain ⟨Yi, _, hYg, hYi, bP, offP, hoP, _, cY⟩ := (HPK.out.below intR_ok HGr.out.be).int_at (i := A) (by rw [← HNP.out]; exact hAl)
                  subst hoP
                  obtain ⟨Y, rfl⟩ := Int.eq_ofNat_of_zero_le (hpz.out Yi (List.mem_of_getElem? hYg))
                  have hYb : (Y : Int) ≤ 9223372036854775807 := by unfold I64 at hYi; omega
                  obtain ⟨J, hJ⟩ : ∃ J, J = Y % pl := ⟨_, rfl⟩
                  have hJl : J < pl := by rw [hJ]; exact Nat.mod_lt _ (by omega)
                  have rem2 : ((Y : Int)).tmod (pl : Int) = (J : Int) := by rw [hJ, Int.tmod_eq_emod_of_nonneg (by omega)]; rfl
                  rw [← HNP.out, ← HPL.out, ← hA, List.getD_eq_getElem?_getD, hYg, Option.getD_some, Int.toNat_natCast, ← hJ] at hvg
                  obtain ⟨x, _, hxg, _, bQ, offQ, hoQ, _, cQ⟩ := HSP.out.int_at (i := J) (by rw [← HPL.out]; exact hJl)
                  rw [hvg] at hxg
                  injection hxg with hxg
                  subst hxg hoQ
                  have hkl : k < M := by omega
                  have HVL := hide hvl
                  clear hYg hA hJ hvg hkM x0 x2 f0 f2 hvl
                  have hlb := HLB.out v
                  obtain ⟨sv, hsv⟩ : ∃ sv, sv = s v := ⟨_, rfl⟩
                  have hsb := HSB.out v
                  rw [← hsv] at hsb
                  have e0 : wr.cell? ⟨gs, v, none⟩ = some (.int .i64 sv) := by rw [hsv]; exact HGr.out.rs.cell (lst_get s hvN)
                  have fs := HGr.out.rs.free v
                  have x1 := HGr.out.bx.cell 1
                  simp only [List.getElem?_cons_zero, List.getElem?_cons_succ] at x1
                  have hv0 : (0 : Int) ≤ v := by omega
                  have hv1 : (v : Int) < N := by omega
                  have HSV := hide hsv
                  obtain ⟨W8, hW8⟩ : ∃ W8, wr.setCell ⟨gs, v, none⟩ (.int .i64 (sv - 1)) = W8 := ⟨_, rfl⟩
                  have HG8 : Hid (PMem43 W2 N gd gs bc rest left (putF s v (sv - 1)) W8) := by
                    rw [← hW8]
                    exact HGr.out.putS hvN (sv - 1)
                  obtain ⟨lv, hlv⟩ : ∃ lv, lv = left v := ⟨_, rfl⟩
                  rw [← hlv] at hlb
                  have HLV := hide hlv
                  have cz : W8.cell? ⟨gd, v, none⟩ = some (.int .i64 lv) := by rw [hlv]; exact HG8.out.rd.cell (lst_get left hvN)
                  have fz := HG8.out.rd.free v
                  obtain ⟨oV, cV, hvv, hcV, hsV⟩ := (HO.out.below intR_ok HG8.out.be).slice intR_ok
                  obtain ⟨va, _, hva, _, bV, offV, hoV, _, cva⟩ := hsV.int_at (i := v) (by rw [valsL_len]; exact hvN)
                  rw [valsL_get es N hvN] at hva
                  injection hva with hva
                  rw [valsL_len] at hvv hcV
                  subst hvv hoV
                  have hvab := valU_bnd HMB.out (v : Int) N
                  rw [hva] at hvab
                  have HVAV := hide hva
                  have hw1 : IntKind.i64.wrap (lv + va) = lv + va := i64_sam2 (by omega)
                  obtain ⟨W9, hW9⟩ : ∃ W9, W8.setCell ⟨gd, v, none⟩ (.int .i64 (lv + va)) = W9 := ⟨_, rfl⟩
                  have HG9 : Hid (PMem43 W2 N gd gs bc rest (refP es N v left 0) (putF s v (sv - 1)) W9) := by
                    rw [← hW9, refP_zero, ← hlv, hva]
                    exact HG8.out.putD hvN (lv + va)
                  clear hsv hlv hsV hva
                  obtain ⟨gt, ct, rg, rc, htw, hct, ct0, hrc, hcr⟩ := tab_row43 HT.out HTL.out hvN
                  subst htw
                  have HCR := hide hcr
                  have HCT0 := hide ct0
                  clear hcr ct0
                  go_wp2_with fail
                  refine wp_region_tail (l := [?q1a0, ?q1a1, ?q1a2, ?q1a3, ?q1a4, ?q1a5, ?q1a6, ?q1a7, ?q1a8, ?q1a9]) (last := ?q1al) (S := fun w' => w'.cell? ⟨gd, v, none⟩ = some (.int .i64 lv) ∧ w'.cell? ⟨bV, offV + v, none⟩ = some (.int .i64 va)) (by kernel_rfl) (by kernel_rfl) ⟨cz, cva⟩ (fun hHeld => ?_)
                  refine wpAnyH_take (i := 0) (oi := ?q1oi0) (v := ?q1v0) ?q1hi0 (by kernel_rfl) (by kernel_rfl) (by kernel_rfl) ?q1hq0 ?q1hy0 (by assumption) ?q1rest0
                  case q1hi0 => simp only [List.getElem?_toArray, List.getElem?_cons_zero, List.getElem?_cons_succ]; rfl
                  case q1hq0 => exact fun _ _ _ h => h
                  case q1hy0 => refine Or.inl ⟨by rfl, ?_⟩; intro w hSw; (try dsimp only at hSw); go_simp; (try with_reducible rfl)
                  try simp only [Act.put, List.setIfInBounds_toArray, List.set_cons_zero, List.set_cons_succ]
                  refine wpAnyH_take (i := 1) (oi := ?q1oi1) (v := ?q1v1) ?q1hi1 (by kernel_rfl) (by kernel_rfl) (by kernel_rfl) ?q1hq1 ?q1hy1 (by assumption) ?q1rest1
                  case q1hi1 => simp only [List.getElem?_toArray, List.getElem?_cons_zero, List.getElem?_cons_succ]; rfl
                  case q1hq1 => exact fun _ _ _ h => h
                  case q1hy1 => refine Or.inl ⟨by rfl, ?_⟩; intro w hSw; (try dsimp only at hSw); go_simp; (try with_reducible rfl)
                  try simp only [Act.put, List.setIfInBounds_toArray, List.set_cons_zero, List.set_cons_succ]
                  refine wpAnyH_take (i := 2) (oi := ?q1oi2) (v := ?q1v2) ?q1hi2 (by kernel_rfl) (by kernel_rfl) (by kernel_rfl) ?q1hq2 ?q1hy2 (by assumption) ?q1rest2
                  case q1hi2 => simp only [List.getElem?_toArray, List.getElem?_cons_zero, List.getElem?_cons_succ]; rfl
                  case q1hq2 => exact fun _ _ _ h => h
                  case q1hy2 => refine Or.inl ⟨by rfl, ?_⟩; intro w hSw; (try dsimp only at hSw); go_simp; (try with_reducible rfl)
                  try simp only [Act.put, List.setIfInBounds_toArray, List.set_cons_zero, List.set_cons_succ]
                  refine wpAnyH_take (i := 3) (oi := ?q1oi3) (v := ?q1v3) ?q1hi3 (by kernel_rfl) (by kernel_rfl) (by kernel_rfl) ?q1hq3 ?q1hy3 (by assumption) ?q1rest3
                  case q1hi3 => simp only [List.getElem?_toArray, List.getElem?_cons_zero, List.getElem?_cons_succ]; rfl
                  case q1hq3 => exact fun _ _ _ h => h
                  case q1hy3 => refine Or.inl ⟨by rfl, ?_⟩; intro w hSw; (try dsimp only at hSw); go_simp; (try with_reducible rfl)
                  try simp only [Act.put, List.setIfInBounds_toArray, List.set_cons_zero, List.set_cons_succ]
                  refine wpAnyH_take (i := 4) (oi := ?q1oi4) (v := ?q1v4) ?q1hi4 (by kernel_rfl) (by kernel_rfl) (by kernel_rfl) ?q1hq4 ?q1hy4 (by assumption) ?q1rest4
                  case q1hi4 => simp only [List.getElem?_toArray, List.getElem?_cons_zero, List.getElem?_cons_succ]; rfl
                  case q1hq4 => exact fun _ _ _ h => h
                  case q1hy4 => refine Or.inl ⟨by rfl, ?_⟩; intro w hSw; (try dsimp only at hSw); go_simp; (try with_reducible rfl)
                  try simp only [Act.put, List.setIfInBounds_toArray, List.set_cons_zero, List.set_cons_succ]
                  refine wpAnyH_take (i := 5) (oi := ?q1oi5) (v := ?q1v5) ?q1hi5 (by kernel_rfl) (by kernel_rfl) (by kernel_rfl) ?q1hq5 ?q1hy5 (by assumption) ?q1rest5
                  case q1hi5 => simp only [List.getElem?_toArray, List.getElem?_cons_zero, List.getElem?_cons_succ]; rfl
                  case q1hq5 => exact fun _ _ _ h => h
                  case q1hy5 => refine Or.inl ⟨by rfl, ?_⟩; intro w hSw; (try dsimp only at hSw); go_simp; (try with_reducible rfl)
                  try simp only [Act.put, List.setIfInBounds_toArray, List.set_cons_zero, List.set_cons_succ]
                  refine wpAnyH_take (i := 6) (oi := ?q1oi6) (v := ?q1v6) ?q1hi6 (by kernel_rfl) (by kernel_rfl) (by kernel_rfl) ?q1hq6 ?q1hy6 (by assumption) ?q1rest6
                  case q1hi6 => simp only [List.getElem?_toArray, List.getElem?_cons_zero, List.getElem?_cons_succ]; rfl
                  case q1hq6 => exact fun _ _ _ h => h
                  case q1hy6 => refine Or.inl ⟨by rfl, ?_⟩; intro w hSw; (try dsimp only at hSw); go_simp; (try with_reducible rfl)
                  try simp only [Act.put, List.setIfInBounds_toArray, List.set_cons_zero, List.set_cons_succ]
                  refine wpAnyH_take (i := 7) (oi := ?q1oi7) (v := ?q1v7) ?q1hi7 (by kernel_rfl) (by kernel_rfl) (by kernel_rfl) ?q1hq7 ?q1hy7 (by assumption) ?q1rest7
                  case q1hi7 => simp only [List.getElem?_toArray, List.getElem?_cons_zero, List.getElem?_cons_succ]; rfl
                  case q1hq7 => exact fun _ _ _ h => h
                  case q1hy7 => refine Or.inl ⟨by rfl, ?_⟩; intro w hSw; (try dsimp only at hSw); go_simp; (try with_reducible rfl)
                  try simp only [Act.put, List.setIfInBounds_toArray, List.set_cons_zero, List.set_cons_succ]
                  refine wpAnyH_take (i := 8) (oi := ?q1oi8) (v := ?q1v8) ?q1hi8 (by kernel_rfl) (by kernel_rfl) (by kernel_rfl) ?q1hq8 ?q1hy8 (by assumption) ?q1rest8
                  case q1hi8 => simp only [List.getElem?_toArray, List.getElem?_cons_zero, List.getElem?_cons_succ]; rfl
                  case q1hq8 => exact fun _ _ _ h => h
                  case q1hy8 => refine Or.inl ⟨by rfl, ?_⟩; intro w hSw; (try dsimp only at hSw); go_simp; (try with_reducible rfl)
                  try simp only [Act.put, List.setIfInBounds_toArray, List.set_cons_zero, List.set_cons_succ]
                  refine wpAnyH_take (i := 9) (oi := ?q1oi9) (v := ?q1v9) ?q1hi9 (by kernel_rfl) (by kernel_rfl) (by kernel_rfl) ?q1hq9 ?q1hy9 (by assumption) ?q1rest9
                  case q1hi9 => simp only [List.getElem?_toArray, List.getElem?_cons_zero, List.getElem?_cons_succ]; rfl
                  case q1hq9 => exact fun _ _ _ h => h
                  case q1hy9 => refine Or.inl ⟨by rfl, ?_⟩; intro w hSw; (try dsimp only at hSw); go_simp; (try with_reducible rfl)
                  try simp only [Act.put, List.setIfInBounds_toArray, List.set_cons_zero, List.set_cons_succ]
                  refine wpAnyH_done (by kernel_rfl) ?_ _
                  dsimp only [TailQ, List.append, List.cons_append, List.nil_append]
                  all_goals
                    go_wp2_with fail
                    clear cz cva e0 cQ cY x1 y0
                    go_loopg [16] N (fun gm iv wx => ∃ u : Nat, u ≤ N ∧ gm = N - u ∧ iv = .int .i64 u ∧ Hid (PMem43 W2 N gd gs bc rest (refP es N v left u) (putF s v (sv - 1)) wx))
                    case atStart => exact ⟨0, by omega, by omega, rfl, HG9.out.below (Below.refl _ _).drew⟩
                    case round =>
                      obtain ⟨u, hu, hgm, rfl, HGu⟩ := hrel
                      have HGM3 := hide hgm
                      have y0 := (HX2.out.under HGu.out.be (by omega)).cell 0
                      simp only [List.getElem?_cons_zero, List.getElem?_cons_succ] at y0
                      clear hgm
                      by_cases hlu : u < N
                      · obtain ⟨p, hp⟩ : ∃ p, p = refP es N v left u u := ⟨_, rfl⟩
                        have hpb := refP_bnd (v := v) HMB.out h12.2 HLB.out u u
                        rw [← hp] at hpb
                        have cp : wr.cell? ⟨gd, u, none⟩ = some (.int .i64 p) := by rw [hp]; exact HGu.out.rd.cell (lst_get _ hlu)
                        have fp := HGu.out.rd.free u
                        obtain ⟨x, hx⟩ : ∃ x : Int, x = if v ≠ u then betw es v u else 0 := ⟨_, rfl⟩
                        have hxb : 0 ≤ x ∧ x ≤ 50 := by rw [hx]; have := betw_range HMB.out (v : Int) (u : Int); split <;> omega
                        have ctw : wr.cell? ⟨gt, v, none⟩ = some (.slice (some ⟨rg, 0, none⟩) N rc) := (HGu.out.be.cell (World.block_lt_of_cell? _ _ HCT0.out)).trans HCT0.out
                        have crw : wr.cell? ⟨rg, u, none⟩ = some (.int .i64 x) := by rw [hx]; have h5 := HCR.out u hlu; exact (HGu.out.be.cell (World.block_lt_of_cell? _ _ h5)).trans h5
                        have hu0 : (0 : Int) ≤ u := by omega
                        have hu1 : (u : Int) < N := by omega
                        have hw2 : IntKind.i64.wrap (p - x) = p - x := i64_sam2 (by omega)
                        obtain ⟨Wn, hWn⟩ : ∃ Wn, wr.setCell ⟨gd, u, none⟩ (.int .i64 (p - x)) = Wn := ⟨_, rfl⟩
                        have HGn : Hid (PMem43 W2 N gd gs bc rest (refP es N v left (u + 1)) (putF s v (sv - 1)) Wn) := by
                          rw [← hWn, refP_next, ← hp, ← hx]
                          exact HGu.out.putD hlu (p - x)
                        clear hp hx
                        go_wp2_with fail
                        refine wp_region_tail (l := [?q2a0, ?q2a1, ?q2a2, ?q2a3, ?q2a4, ?q2a5, ?q2a6, ?q2a7, ?q2a8, ?q2a9, ?q2a10, ?q2a11, ?q2a12]) (last := ?q2al) (S := fun w' => w'.cell? ⟨gd, u, none⟩ = some (.int .i64 p) ∧ w'.cell? ⟨gt, v, none⟩ = some (.slice (some ⟨rg, 0, none⟩) N rc) ∧ w'.cell? ⟨rg, u, none⟩ = some (.int .i64 x)) (by kernel_rfl) (by kernel_rfl) ⟨cp, ctw, crw⟩ (fun hHeld => ?_)
                        refine wpAnyH_take (i := 0) (oi := ?q2oi0) (v := ?q2v0) ?q2hi0 (by kernel_rfl) (by kernel_rfl) (by kernel_rfl) ?q2hq0 ?q2hy0 (by assumption) ?q2rest0
                        case q2hi0 => simp only [List.getElem?_toArray, List.getElem?_cons_zero, List.getElem?_cons_succ]; rfl
                        case q2hq0 => exact fun _ _ _ h => h
                        case q2hy0 => refine Or.inl ⟨by rfl, ?_⟩; intro w hSw; (try dsimp only at hSw); go_simp; (try with_reducible rfl)
                        try simp only [Act.put, List.setIfInBounds_toArray, List.set_cons_zero, List.set_cons_succ]
                        refine wpAnyH_take (i := 1) (oi := ?q2oi1) (v := ?q2v1) ?q2hi1 (by kernel_rfl) (by kernel_rfl) (by kernel_rfl) ?q2hq1 ?q2hy1 (by assumption) ?q2rest1
                        case q2hi1 => simp only [List.getElem?_toArray, List.getElem?_cons_zero, List.getElem?_cons_succ]; rfl
                        case q2hq1 => exact fun _ _ _ h => h
                        case q2hy1 => refine Or.inl ⟨by rfl, ?_⟩; intro w hSw; (try dsimp only at hSw); go_simp; (try with_reducible rfl)
                        try simp only [Act.put, List.setIfInBounds_toArray, List.set_cons_zero, List.set_cons_succ]
                        refine wpAnyH_take (i := 2) (oi := ?q2oi2) (v := ?q2v2) ?q2hi2 (by kernel_rfl) (by kernel_rfl) (by kernel_rfl) ?q2hq2 ?q2hy2 (by assumption) ?q2rest2
                        case q2hi2 => simp only [List.getElem?_toArray, List.getElem?_cons_zero, List.getElem?_cons_succ]; rfl
                        case q2hq2 => exact fun _ _ _ h => h
                        case q2hy2 => refine Or.inl ⟨by rfl, ?_⟩; intro w hSw; (try dsimp only at hSw); go_simp; (try with_reducible rfl)
                        try simp only [Act.put, List.setIfInBounds_toArray, List.set_cons_zero, List.set_cons_succ]
                        refine wpAnyH_take (i := 3) (oi := ?q2oi3) (v := ?q2v3) ?q2hi3 (by kernel_rfl) (by kernel_rfl) (by kernel_rfl) ?q2hq3 ?q2hy3 (by assumption) ?q2rest3
                        case q2hi3 => simp only [List.getElem?_toArray, List.getElem?_cons_zero, List.getElem?_cons_succ]; rfl
                        case q2hq3 => exact fun _ _ _ h => h
                        case q2hy3 => refine Or.inl ⟨by rfl, ?_⟩; intro w hSw; (try dsimp only at hSw); go_simp; (try with_reducible rfl)
                        try simp only [Act.put, List.setIfInBounds_toArray, List.set_cons_zero, List.set_cons_succ]
                        refine wpAnyH_take (i := 4) (oi := ?q2oi4) (v := ?q2v4) ?q2hi4 (by kernel_rfl) (by kernel_rfl) (by kernel_rfl) ?q2hq4 ?q2hy4 (by assumption) ?q2rest4
                        case q2hi4 => simp only [List.getElem?_toArray, List.getElem?_cons_zero, List.getElem?_cons_succ]; rfl
                        case q2hq4 => exact fun _ _ _ h => h
                        case q2hy4 => refine Or.inl ⟨by rfl, ?_⟩; intro w hSw; (try dsimp only at hSw); go_simp; (try with_reducible rfl)
                        try simp only [Act.put, List.setIfInBounds_toArray, List.set_cons_zero, List.set_cons_succ]
                        refine wpAnyH_take (i := 5) (oi := ?q2oi5) (v := ?q2v5) ?q2hi5 (by kernel_rfl) (by kernel_rfl) (by kernel_rfl) ?q2hq5 ?q2hy5 (by assumption) ?q2rest5
                        case q2hi5 => simp only [List.getElem?_toArray, List.getElem?_cons_zero, List.getElem?_cons_succ]; rfl
                        case q2hq5 => exact fun _ _ _ h => h
                        case q2hy5 => refine Or.inl ⟨by rfl, ?_⟩; intro w hSw; (try dsimp only at hSw); go_simp; (try with_reducible rfl)
                        try simp only [Act.put, List.setIfInBounds_toArray, List.set_cons_zero, List.set_cons_succ]
                        refine wpAnyH_take (i := 6) (oi := ?q2oi6) (v := ?q2v6) ?q2hi6 (by kernel_rfl) (by kernel_rfl) (by kernel_rfl) ?q2hq6 ?q2hy6 (by assumption) ?q2rest6
                        case q2hi6 => simp only [List.getElem?_toArray, List.getElem?_cons_zero, List.getElem?_cons_succ]; rfl
                        case q2hq6 => exact fun _ _ _ h => h
                        case q2hy6 => refine Or.inl ⟨by rfl, ?_⟩; intro w hSw; (try dsimp only at hSw); go_simp; (try with_reducible rfl)
                        try simp only [Act.put, List.setIfInBounds_toArray, List.set_cons_zero, List.set_cons_succ]
                        refine wpAnyH_take (i := 7) (oi := ?q2oi7) (v := ?q2v7) ?q2hi7 (by kernel_rfl) (by kernel_rfl) (by kernel_rfl) ?q2hq7 ?q2hy7 (by assumption) ?q2rest7
                        case q2hi7 => simp only [List.getElem?_toArray, List.getElem?_cons_zero, List.getElem?_cons_succ]; rfl
                        case q2hq7 => exact fun _ _ _ h => h
                        case q2hy7 => refine Or.inl ⟨by rfl, ?_⟩; intro w hSw; (try dsimp only at hSw); go_simp; (try with_reducible rfl)
                        try simp only [Act.put, List.setIfInBounds_toArray, List.set_cons_zero, List.set_cons_succ]
                        refine wpAnyH_take (i := 8) (oi := ?q2oi8) (v := ?q2v8) ?q2hi8 (by kernel_rfl) (by kernel_rfl) (by kernel_rfl) ?q2hq8 ?q2hy8 (by assumption) ?q2rest8
                        case q2hi8 => simp only [List.getElem?_toArray, List.getElem?_cons_zero, List.getElem?_cons_succ]; rfl
                        case q2hq8 => exact fun _ _ _ h => h
                        case q2hy8 => refine Or.inl ⟨by rfl, ?_⟩; intro w hSw; (try dsimp only at hSw); go_simp; (try with_reducible rfl)
                        try simp only [Act.put, List.setIfInBounds_toArray, List.set_cons_zero, List.set_cons_succ]
                        refine wpAnyH_take (i := 9) (oi := ?q2oi9) (v := ?q2v9) ?q2hi9 (by kernel_rfl) (by kernel_rfl) (by kernel_rfl) ?q2hq9 ?q2hy9 (by assumption) ?q2rest9
                        case q2hi9 => simp only [List.getElem?_toArray, List.getElem?_cons_zero, List.getElem?_cons_succ]; rfl
                        case q2hq9 => exact fun _ _ _ h => h
                        case q2hy9 => refine Or.inl ⟨by rfl, ?_⟩; intro w hSw; (try dsimp only at hSw); go_simp; (try with_reducible rfl)
                        try simp only [Act.put, List.setIfInBounds_toArray, List.set_cons_zero, List.set_cons_succ]
                        refine wpAnyH_take (i := 10) (oi := ?q2oi10) (v := ?q2v10) ?q2hi10 (by kernel_rfl) (by kernel_rfl) (by kernel_rfl) ?q2hq10 ?q2hy10 (by assumption) ?q2rest10
                        case q2hi10 => simp only [List.getElem?_toArray, List.getElem?_cons_zero, List.getElem?_cons_succ]; rfl
                        case q2hq10 => exact fun _ _ _ h => h
                        case q2hy10 => refine Or.inl ⟨by rfl, ?_⟩; intro w hSw; (try dsimp only at hSw); go_simp; (try with_reducible rfl)
                        try simp only [Act.put, List.setIfInBounds_toArray, List.set_cons_zero, List.set_cons_succ]
                        refine wpAnyH_take (i := 11) (oi := ?q2oi11) (v := ?q2v11) ?q2hi11 (by kernel_rfl) (by kernel_rfl) (by kernel_rfl) ?q2hq11 ?q2hy11 (by assumption) ?q2rest11
                        case q2hi11 => simp only [List.getElem?_toArray, List.getElem?_cons_zero, List.getElem?_cons_succ]; rfl
                        case q2hq11 => exact fun _ _ _ h => h
                        case q2hy11 => refine Or.inl ⟨by rfl, ?_⟩; intro w hSw; (try dsimp only at hSw); go_simp; (try with_reducible rfl)
                        try simp only [Act.put, List.setIfInBounds_toArray, List.set_cons_zero, List.set_cons_succ]
                        refine wpAnyH_take (i := 12) (oi := ?q2oi12) (v := ?q2v12) ?q2hi12 (by kernel_rfl) (by kernel_rfl) (by kernel_rfl) ?q2hq12 ?q2hy12 (by assumption) ?q2rest12
                        case q2hi12 => simp only [List.getElem?_toArray, List.getElem?_cons_zero, List.getElem?_cons_succ]; rfl
                        case q2hq12 => exact fun _ _ _ h => h
                        case q2hy12 => refine Or.inl ⟨by rfl, ?_⟩; intro w hSw; (try dsimp only at hSw); go_simp; (try with_reducible rfl)
                        try simp only [Act.put, List.setIfInBounds_toArray, List.set_cons_zero, List.set_cons_succ]
                        refine wpAnyH_done (by kernel_rfl) ?_ _
                        dsimp only [TailQ, List.append, List.cons_append, List.nil_append]
                        all_goals
                          go_wp2_with fail
                          go_roundg (N - (u + 1))
                          case rel => exact ⟨u + 1, by omega, rfl, by go_num, HGn.out.below (Below.refl _ _).drew⟩
                          case measure => rw [HGM3.out]; omega
                      · have hue : u = N := by omega
                        have HGe : Hid (PMem43 W2 N gd gs bc rest (borF es v left) (putF s v (sv - 1)) wr) := by
                          have h6 := HGu.out
                          rw [hue] at h6
                          exact h6.congr fun i hi => refP_end HV.out HOK.out hvN hi left
                        clear hue
                        go_wp2_with fail
                        go_roundg (M - (k + 1))
                        case rel => exact ⟨k + 1, borF es v left, putF s v (sv - 1), by omega, rfl, by go_num, HGe, by rw [HSV.out]; exact HRUN2, fun u => by have := borF_bnd HOK.out (v := v) HLB.out u; push_cast; omega, fun u => by
                          have := HSB.out u
                          by_cases e : u = v
                          · subst e; rw [putF_at]; push_cast; omega
                          · rw [putF_ne _ _ e]; push_cast; omega⟩
                        case measure => rw [HGM.out]; omega
end Go.Proofs.YtpgopmmobbemcaaGreat

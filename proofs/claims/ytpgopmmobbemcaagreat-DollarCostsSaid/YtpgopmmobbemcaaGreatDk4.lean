/-
  Debts lent away and sets fired until none can, in plain Lean: the rounds, their bounds, and that the end is reduced.
  Distances from a vertex by a queue, in plain Lean.
  Reduced divisors: the state in memory; how many single edges lead to vertices with a property.
  Reduced divisors: the vertices that remain when a fire starts at q.
  Ranges over functions within a loop: their marks.
  A drawn region that reads and then writes, in a round of a range over a function.
  Reduced divisors: what firing a set does, link by link, in plain Lean.
  Reduced divisors: a set fires some times.
  The dollar game in plain Lean: the cheapest script of a script; the upper one of the middle numbers becomes 0.
  The dollar game: debts and costs.
  The dollar game: the greatest valence; debts and bounds.
  The dollar game: Debt.
  The dollar game: a vertex borrows.
  slices.Max of ints and of scripts.
  slices.Min of ints: whether it is negative; ref21.Picks, ref21.FewPicks.
  The greedy game, as a function.
  The dollar game: the error of picks.
  network.Sandpile.
  The dollar game: Greedy.
-/
import Derived.Test.YtpgopmmobbemcaaGreatDk3
import Derived.Deep.LoopGhost
import Derived.RangeFuncBox
import Derived.RangeFuncNested
import Derived.RangeFuncLeaves
import Derived.RangeFuncCalls
import Derived.OrdersIn
import Derived.StillTailTactics
import Derived.OwnWalkIn
import Derived.BigRegionIn
import Derived.BigRegion
import Derived.Deep.RegionWith
import Derived.Deep.RegionHeld3
import Derived.Laws.MakeOwn
import Derived.BigQuiet

set_option linter.unusedVariables false
set_option linter.unusedSimpArgs false
namespace Go.Proofs.YtpgopmmobbemcaaGreat
open Go.RowKit

section
variable {n q : Nat} {R : Nat → Nat → Int} {D s t : Nat → Int} {far : Nat → Nat}
def lendF (n : Nat) (R : Nat → Nat → Int) (far : Nat → Nat) (D : Nat → Int) : Nat → (Nat → Int) → Nat → Int
  | 0, s => s
  | k + 1, s => lendF n R far D k (stepL n R far D (k + 1) s)
theorem LInv.begin_ (hG : Gr n R) {c : Int} (hc : 0 ≤ c) (hD : ∀ v, v < n → -c ≤ D v ∧ D v ≤ c) {K : Nat} (hK : ∀ v, v < n → far v ≤ K) : LInv n q R far D c K K (fun _ => 0) where
  lo := fun v _ _ => app_zero v
  mid := fun v hv _ => by
    rw [app_zero]
    have h1 := hD v hv
    have h2 := P2_ge (downX_nn (far := far) hG K)
    have h3 := downX_nn (far := far) hG K
    have h4 := Int.mul_le_mul_of_nonneg_left (show 1 ≤ P2 (downX n R far K) by omega) hc
    omega
  hi := fun v hv h => by have := hK v hv; omega
  sb := fun v _ => by simp
/-- What a fire from q leaves. -/
structure Unb (n q : Nat) (R : Nat → Nat → Int) (d : Nat → Int) (S : Nat → Bool) : Prop where
  q0 : S q = false
  ok : ∀ v, v < n → S v = true → outD n R S v ≤ d v
  top : ∀ T : Nat → Bool, T q = false → (∀ v, v < n → T v = true → outD n R T v ≤ d v) → ∀ v, v < n → T v = true → S v = true
theorem Unb.redu {d : Nat → Int} {S : Nat → Bool} (h : Unb n q R d S) (he : ∀ v, v < n → S v = false) : Redu n q R d := fun T hT hv => by
  refine Classical.byContradiction fun hn => ?_
  obtain ⟨v, hv, hTv⟩ := hv
  have := h.top T hT (fun u hu hTu => Int.not_lt.1 fun hlt => hn ⟨u, hu, hTu, hlt⟩) v hv hTv
  rw [he v hv] at this
  cases this
/-- How often a set can fire. -/
def mostT (n : Nat) (R : Nat → Nat → Int) (S : Nat → Bool) (d : Nat → Int) : Nat → Int
  | 0 => 0
  | i + 1 => if S i = true ∧ 0 < outD n R S i then (if mostT n R S d i = 0 ∨ d i / outD n R S i < mostT n R S d i then d i / outD n R S i else mostT n R S d i) else mostT n R S d i
theorem mostT_spec {S : Nat → Bool} {d : Nat → Int} (hok : ∀ v, v < n → S v = true → outD n R S v ≤ d v) : ∀ i, i ≤ n → (0 ≤ mostT n R S d i) ∧ (mostT n R S d i = 0 → ∀ v, v < i → S v = true → ¬ 0 < outD n R S v) ∧ ∀ v, v < i → S v = true → 0 < outD n R S v → mostT n R S d i ≤ d v / outD n R S v
  | 0, _ => ⟨Int.le_refl _, fun _ v hv => by omega, fun v hv => by omega⟩
  | i + 1, hi => by
    obtain ⟨h1, h2, h3⟩ := mostT_spec hok i (by omega)
    unfold mostT
    by_cases e : S i = true ∧ 0 < outD n R S i
    · rw [if_pos e]
      have hq : 1 ≤ d i / outD n R S i := Int.le_ediv_of_mul_le e.2 (by have := hok i (by omega) e.1; omega)
      split
      · rename_i hc
        refine ⟨by omega, fun hz => by omega, fun v hv hS ho => ?_⟩
        by_cases ev : v = i
        · subst ev; exact Int.le_refl _
        · rcases hc with hc | hc
          · exact absurd ho (h2 hc v (by omega) hS)
          · have := h3 v (by omega) hS ho; omega
      · rename_i hc
        refine ⟨h1, fun hz => absurd (Or.inl hz) hc, fun v hv hS ho => ?_⟩
        by_cases ev : v = i
        · subst ev
          rcases Int.lt_or_le (d v / outD n R S v) (mostT n R S d v) with hh | hh
          · exact absurd (Or.inr hh) hc
          · exact hh
        · exact h3 v (by omega) hS ho
    · rw [if_neg e]
      refine ⟨h1, fun hz v hv hS ho => ?_, fun v hv hS ho => ?_⟩
      · by_cases ev : v = i
        · subst ev; exact e ⟨hS, ho⟩
        · exact h2 hz v (by omega) hS ho
      · by_cases ev : v = i
        · subst ev; exact absurd ⟨hS, ho⟩ e
        · exact h3 v (by omega) hS ho
/-- What sets without q have fired, with no debt but at q. -/
structure SInv (n q : Nat) (R : Nat → Nat → Int) (D t : Nat → Int) : Prop where
  q0 : t q = 0
  nn : ∀ v, v < n → 0 ≤ t v
  pay : ∀ v, v < n → v ≠ q → 0 ≤ app n R D t v
theorem SInv.begin_ (h : ∀ v, v < n → v ≠ q → 0 ≤ D v) : SInv n q R D (fun _ => 0) where
  q0 := rfl
  nn := fun _ _ => Int.le_refl _
  pay := fun v hv hne => by rw [app_zero]; exact h v hv hne
theorem most_pos (hc : Conn n R) (hq : q < n) {S : Nat → Bool} (h0 : S q = false) {d : Nat → Int} (hok : ∀ v, v < n → S v = true → outD n R S v ≤ d v) (hG : Gr n R) (hS : ∃ v, v < n ∧ S v = true) : 1 ≤ mostT n R S d n := by
  obtain ⟨h1, h2, _⟩ := mostT_spec hok n (Nat.le_refl _)
  obtain ⟨a, b, ha, hb, hSa, hSb, hR⟩ := hc S hS ⟨q, hq, h0⟩
  rcases Int.lt_or_le 0 (mostT n R S d n) with h | h
  · omega
  · exfalso
    refine h2 (by omega) a ha hSa ?_
    have := sumI_mem (f := fun w => if S w then 0 else R a w) (n := n) (fun w hw => by
      split
      · exact Int.le_refl _
      · exact hG.nn a w ha hw) hb
    simp only [hSb, Bool.false_eq_true, if_false] at this
    unfold outD
    omega
theorem SInv.step (hG : Gr n R) (hq : q < n) {S : Nat → Bool} (hU : Unb n q R (app n R D t) S) (h : SInv n q R D t) : SInv n q R D (fireF S (mostT n R S (app n R D t) n) t) := by
  obtain ⟨h1, _, h3⟩ := mostT_spec hU.ok n (Nat.le_refl _)
  obtain ⟨m, hm⟩ : ∃ m, m = mostT n R S (app n R D t) n := ⟨_, rfl⟩
  rw [← hm] at h1 h3 ⊢
  refine ⟨?_, fun v hv => ?_, fun v hv hne => ?_⟩
  · unfold fireF
    rw [hU.q0, h.q0]
    rfl
  · have := h.nn v hv
    unfold fireF
    split <;> omega
  · rw [app_fire]
    have h4 := h.pay v hv hne
    rcases hS : S v with _ | _
    · have := Int.mul_nonneg h1 (inD_nn hG S hv)
      simp only [Bool.false_eq_true, if_false]
      omega
    · simp only [if_true]
      have ho := outD_nn hG S hv
      rcases Int.lt_or_le 0 (outD n R S v) with h5 | h5
      · have h6 := h3 v hv hS h5
        have h7 := Int.mul_le_mul_of_nonneg_right h6 ho
        have h8 : app n R D t v / outD n R S v * outD n R S v ≤ app n R D t v := Int.ediv_mul_le _ (by omega)
        omega
      · rw [show outD n R S v = 0 by omega, Int.mul_zero]
        omega
/-- The numbers stay small. -/
theorem SInv.range (hG : Gr n R) (hc : Conn n R) (hq : q < n) {C : Int} (hD : ∀ v, v < n → v ≠ q → 0 ≤ D v) (hC : sumI (fun v => if v = q then 0 else D v) n ≤ C) (h : SInv n q R D t) {v : Nat} (hv : v < n) : t v ≤ (n - 1 : Nat) * C := by
  have hs0 : 0 ≤ sumI (fun v => if v = q then 0 else D v) n := sumI_nn fun u hu => by
    split
    · exact Int.le_refl _
    · rename_i hh; exact hD u hu hh
  have hcut : ∀ l, sumI (fun u => if decide (l ≤ t u) then D u - app n R D t u else 0) n ≤ C := fun l => by
    rcases Int.lt_or_le 0 l with hl | hl
    · refine Int.le_trans (sumI_le fun u hu => ?_) hC
      show (if decide (l ≤ t u) then D u - app n R D t u else 0) ≤ if u = q then 0 else D u
      by_cases e : u = q
      · subst e
        rw [if_neg (by rw [h.q0]; simp; omega), if_pos rfl]
        exact Int.le_refl _
      · rw [if_neg e]
        have h1 := h.pay u hu e
        have h2 := hD u hu e
        split <;> omega
    · have h1 := app_total (D := D) hG t
      rw [sumI_eq (g := fun u => D u - app n R D t u) fun u hu => if_pos (by have := h.nn u hu; simp; omega), h1]
      omega
  have := range_le hG hc (D := D) (s := t) hcut (by omega) hv q hq
  rw [h.q0] at this
  omega
theorem SInv.off (hG : Gr n R) (hq : q < n) (h : SInv n q R D t) : sumI (fun v => if v = q then 0 else app n R D t v) n ≤ sumI (fun v => if v = q then 0 else D v) n := by
  have h1 := app_total (D := D) hG t
  have h2 : app n R D t q - D q = sumI (fun v => if v = q then 0 else D v) n - sumI (fun v => if v = q then 0 else app n R D t v) n := by
    have e : sumI (fun v => D v - app n R D t v) n = sumI (fun v => (if v = q then 0 else D v) + -(if v = q then 0 else app n R D t v)) n + ((D q - app n R D t q) - 0) := by
      have := sumI_one (f := fun v => D v - app n R D t v) (g := fun v => (if v = q then 0 else D v) + -(if v = q then 0 else app n R D t v)) hq fun p hp hne => by
        simp only [if_neg hne]
        omega
      simp only [if_true] at this
      rw [this]
      omega
    rw [sumI_add, sumI_neg] at e
    omega
  have h3 : D q ≤ app n R D t q := by
    unfold app
    have h4 : sumI (fun w => R q w * (t q - t w)) n ≤ 0 := by
      have := sumI_nn (f := fun w => -(R q w * (t q - t w))) (n := n) fun w hw => by
        rw [← Int.mul_neg]
        refine Int.mul_nonneg (hG.nn q w hq hw) ?_
        have := h.nn w hw
        rw [h.q0]
        omega
      rw [sumI_neg] at this
      omega
    omega
  omega
/-- Each round adds to the numbers. -/
theorem fire_sum {S : Nat → Bool} {m : Int} (hm : 1 ≤ m) (hS : ∃ v, v < n ∧ S v = true) : sumI t n + 1 ≤ sumI (fireF S m t) n := by
  obtain ⟨v, hv, hSv⟩ := hS
  have e : sumI (fireF S m t) n = sumI t n + sumI (fun w => if S w then m else 0) n := by
    rw [← sumI_add]
    rfl
  have := sumI_mem (f := fun w => if S w then m else 0) (n := n) (fun w hw => by split <;> omega) hv
  simp only [hSv, if_true] at this
  omega
end

end Go.Proofs.YtpgopmmobbemcaaGreat

set_option linter.unusedVariables false
set_option linter.unusedSimpArgs false
namespace Go.Proofs.YtpgopmmobbemcaaGreat
open Go.RowKit

/-- An edge that leads from t to u. -/
def Jn (x : Edg) (t u : Nat) : Prop := x.a ≠ x.b ∧ ((x.a = (t : Int) ∧ x.b = (u : Int)) ∨ (x.a = (u : Int) ∧ x.b = (t : Int)))
theorem Jn.symm {x : Edg} {t u : Nat} (h : Jn x t u) : Jn x u t := ⟨h.1, h.2.symm⟩
theorem jn_link {es : List Edg} (hm : ∀ x ∈ es, 1 ≤ x.m) {v w : Nat} (x : Edg) (hx : x ∈ es) (h : Jn x v w) : 1 ≤ linkE es v w := by
  have h1 := linkE_mem v w (fun x hx => by have := hm x hx; omega) hx
  have h2 := hm x hx
  unfold lkX at h1
  rw [if_pos (show _ ∧ _ from h)] at h1
  omega
theorem link_jn : ∀ {es : List Edg} {v w : Nat}, 1 ≤ linkE es v w → ∃ x ∈ es, Jn x v w
  | [], v, w, h => by simp [linkE] at h
  | x :: r, v, w, h => by
    by_cases hj : Jn x v w
    · exact ⟨x, by simp, hj⟩
    · have e : linkE (x :: r) v w = lkX x v w + linkE r v w := rfl
      have e2 : lkX x v w = 0 := by unfold lkX; exact if_neg hj
      obtain ⟨y, hy, hj2⟩ := link_jn (es := r) (v := v) (w := w) (by omega)
      exact ⟨y, by simp [hy], hj2⟩
section
variable {n q : Nat} {es : List Edg} {out : Nat → Int} {t k : Nat} {work : List Nat}
def putF (f : Nat → Int) (i : Nat) (x : Int) : Nat → Int := fun u => if u = i then x else f u
/-- Between two rounds. -/
structure DBfs (n q : Nat) (es : List Edg) (out : Nat → Int) (work : List Nat) : Prop where
  q0 : out q = 0
  lo : ∀ v, v < n → -1 ≤ out v
  back : ∀ v, v < n → v ≠ q → 0 ≤ out v → ∃ u, u < n ∧ 0 ≤ out u ∧ out u + 1 = out v ∧ ∃ x ∈ es, Jn x v u
  wk : ∀ u ∈ work, u < n ∧ 0 ≤ out u
  srt : work.Pairwise fun a b => out a ≤ out b
  top : ∀ a ∈ work, ∀ v, v < n → out v ≤ out a + 1
  closed : ∀ u, u < n → 0 ≤ out u → u ∉ work → ∀ x ∈ es, ∀ w, Jn x u w → 0 ≤ out w ∧ out w ≤ out u + 1
/-- How many are still unknown. -/
def unkN (n : Nat) (out : Nat → Int) : Nat := sumN (fun v => if out v < 0 then 1 else 0) n
def begF (q : Nat) : Nat → Int := fun v => if v = q then 0 else -1
theorem DBfs.begin_ (hq : q < n) : DBfs n q es (begF q) [q] where
  q0 := if_pos rfl
  lo := fun v _ => by unfold begF; split <;> omega
  back := fun v _ hne h => by unfold begF at h; rw [if_neg hne] at h; omega
  wk := fun u hu => by simp at hu; subst hu; exact ⟨hq, by unfold begF; simp⟩
  srt := by simp
  top := fun a ha v hv => by
    simp at ha
    subst ha
    unfold begF
    simp only [if_true]
    split <;> omega
  closed := fun u hu h hn => by
    unfold begF at h
    split at h
    · rename_i e; exact absurd (by simp [e]) hn
    · omega
theorem putF_at (f : Nat → Int) (i : Nat) (x : Int) : putF f i x i = x := if_pos rfl
theorem putF_ne (f : Nat → Int) {i j : Nat} (x : Int) (h : j ≠ i) : putF f i x j = f j := if_neg h
theorem unk_more {u : Nat} (hu : u < n) (hn : out u < 0) {x : Int} (hx : 0 ≤ x) : unkN n (putF out u x) + 1 = unkN n out := by
  unfold unkN
  have h1 := sumN_one (f := fun v => if out v < 0 then 1 else 0) (g := fun v => if putF out u x v < 0 then 1 else 0) hu (fun p hp hne => by simp only [putF_ne _ _ hne])
  simp only [putF_at, if_pos hn] at h1
  rw [if_neg (by omega)] at h1
  omega
theorem DBfs.all (h : DBfs n q es out []) (hq : q < n) (hc : Conn n (linkE es)) : ∀ v, v < n → 0 ≤ out v := fun v hv => by
  refine Classical.byContradiction fun hn => ?_
  obtain ⟨a, b, ha, hb, h1, h2, h3⟩ := hc (fun u => decide (0 ≤ out u)) ⟨q, hq, by simp [h.q0]⟩ ⟨v, hv, by simpa using hn⟩
  obtain ⟨x, hx, hj⟩ := link_jn h3
  have h4 := h.closed a ha (by simpa using h1) (by simp) x hx b hj
  have h5 : ¬ 0 ≤ out b := by simpa using h2
  exact h5 h4.1
/-- The distances. -/
theorem DBfs.far (h : DBfs n q es out []) (hq : q < n) (hm : ∀ x ∈ es, 1 ≤ x.m) (hc : Conn n (linkE es)) : Far n q (linkE es) (fun v => (out v).toNat) := by
  have ha := h.all hq hc
  refine ⟨by simp [h.q0], fun v hv hne => ?_, fun v hv hne => ?_, fun v w hv hw hlt => ?_⟩
  · obtain ⟨u, h1, h2, h3, _⟩ := h.back v hv hne (ha v hv)
    show 1 ≤ (out v).toNat
    omega
  · obtain ⟨u, h1, h2, h3, x, hx, hj⟩ := h.back v hv hne (ha v hv)
    exact ⟨u, h1, by show (out u).toNat + 1 = (out v).toNat; omega, jn_link hm x hx hj⟩
  · refine Classical.byContradiction fun hne => ?_
    have h0 : 0 ≤ linkE es v w := (linkE_gr (n := n) (es := es) fun x hx => by have := hm x hx; omega).nn v w hv hw
    obtain ⟨x, hx, hj⟩ := link_jn (show 1 ≤ linkE es v w by omega)
    have h1 := h.closed w hw (ha w hw) (by simp) x hx v hj.symm
    have h2 := ha w hw
    have h3 := ha v hv
    have hlt' : (out w).toNat + 1 < (out v).toNat := hlt
    omega
end
end Go.Proofs.YtpgopmmobbemcaaGreat

set_option linter.unusedVariables false
set_option linter.unusedSimpArgs false
namespace Go.Proofs.YtpgopmmobbemcaaGreat
open Go.RowKit Go.Shelf

attribute [local go_sem] Oper.semAt_some

structure RLay where
  p : Nat
  gd : Nat
  cd : Nat
  gs : Nat
  oe : Option Addr
  c : Nat
  rest : List Value
structure RSt where
  d : Nat → Int
  s : Nat → Int
def rCells (N q len : Nat) (L : RLay) : List Value := [.int .i64 N, .slice L.oe len L.c, .int .i64 q, .slice (some ⟨L.gd, 0, none⟩) N L.cd, .slice (some ⟨L.gs, 0, none⟩) N N, .int .i64 0]
/-- The state in memory. -/
structure RMem (B N q : Nat) (es : List Edg) (L : RLay) (x : RSt) (W : World) : Prop where
  box : Box W L.p (rCells N q es.length L) 162
  rd : Row1 (Value.int .i64) W L.gd 3 (lst N x.d) L.rest
  rs : Row1 (Value.int .i64) W L.gs 3 (lst N x.s) []
  edg : EdgesBelow B W L.oe es
  ne : L.gd ≠ L.gs
  low : B ≤ L.p ∧ B ≤ L.gd ∧ B ≤ L.gs
  num : (1 ≤ N ∧ N ≤ 12) ∧ q < N ∧ N ≤ L.cd
  ok : EOk N es
section
variable {B N q : Nat} {es : List Edg} {L : RLay} {x : RSt} {W W' : World}
theorem RMem.size (h : RMem B N q es L x W) : B ≤ W.heap.size := by have := h.box.lt; have := h.low.1; omega
theorem RMem.below (h : RMem B N q es L x W) (hb : Below W.heap.size W W') : RMem B N q es L x W' := ⟨h.box.below hb, h.rd.below hb, h.rs.below hb, h.edg.below (hb.mono h.size), h.ne, h.low, h.num, h.ok⟩
theorem RMem.drewN (h : RMem B N q es L x W) (n : Nat) : RMem B N q es L x (W.drewN n) := h.below (below_drewN (Below.refl _ _) n)
theorem RMem.pne (h : RMem B N q es L x W) : L.p ≠ L.gd ∧ L.p ≠ L.gs := by
  have key : ∀ {g : Nat} {xs : List Int} {rest : List Value}, Row1 (Value.int .i64) W g 3 xs rest → g ≠ L.p := fun hr => ne_type hr h.box (by decide)
  exact ⟨(key h.rd).symm, (key h.rs).symm⟩
theorem RMem.cells (h : RMem B N q es L x W) : W.cell? ⟨L.p, 0, none⟩ = some (.int .i64 N) ∧ W.cell? ⟨L.p, 1, none⟩ = some (.slice L.oe es.length L.c) ∧ W.cell? ⟨L.p, 2, none⟩ = some (.int .i64 q) ∧ W.cell? ⟨L.p, 3, none⟩ = some (.slice (some ⟨L.gd, 0, none⟩) N L.cd) ∧ W.cell? ⟨L.p, 4, none⟩ = some (.slice (some ⟨L.gs, 0, none⟩) N N) ∧ W.cell? ⟨L.p, 5, none⟩ = some (.int .i64 0) :=
  ⟨h.box.cell 0, h.box.cell 1, h.box.cell 2, h.box.cell 3, h.box.cell 4, h.box.cell 5⟩
theorem RMem.dAt (h : RMem B N q es L x W) {v : Nat} (hv : v < N) : W.cell? ⟨L.gd, v, none⟩ = some (.int .i64 (x.d v)) := h.rd.cell (lst_get x.d hv)
theorem RMem.sAt (h : RMem B N q es L x W) {v : Nat} (hv : v < N) : W.cell? ⟨L.gs, v, none⟩ = some (.int .i64 (x.s v)) := h.rs.cell (lst_get x.s hv)
theorem RMem.putD (h : RMem B N q es L x W) {i : Nat} (hi : i < N) (z : Int) : RMem B N q es L { x with d := putF x.d i z } (W.setCell ⟨L.gd, i, none⟩ (.int .i64 z)) := by
  obtain ⟨p1, p2⟩ := h.pne
  refine ⟨h.box.other (by simpa using p1) _, ?_, h.rs.other (by simpa using h.ne.symm) _, h.edg.below ((Below.refl _ _).setCell h.low.2.1 _), h.ne, h.low, h.num, h.ok⟩
  have := h.rd.put (i := i) (by rw [lst_len]; exact hi) z
  rw [lst_set] at this
  exact this
theorem RMem.putS (h : RMem B N q es L x W) {i : Nat} (hi : i < N) (z : Int) : RMem B N q es L { x with s := putF x.s i z } (W.setCell ⟨L.gs, i, none⟩ (.int .i64 z)) := by
  obtain ⟨p1, p2⟩ := h.pne
  refine ⟨h.box.other (by simpa using p2) _, h.rd.other (by simpa using h.ne) _, ?_, h.edg.below ((Below.refl _ _).setCell h.low.2.2 _), h.ne, h.low, h.num, h.ok⟩
  have := h.rs.put (i := i) (by rw [lst_len]; exact hi) z
  rw [lst_set] at this
  exact this
theorem RMem.congr (h : RMem B N q es L x W) {y : RSt} (hd : ∀ v, v < N → x.d v = y.d v) (hs : ∀ v, v < N → x.s v = y.s v) : RMem B N q es L y W := by
  refine ⟨h.box, ?_, ?_, h.edg, h.ne, h.low, h.num, h.ok⟩
  · rw [← lst_congr hd]; exact h.rd
  · rw [← lst_congr hs]; exact h.rs
end
/-- A list of truths behind a captured variable. -/
structure BMem (N bb gb : Nat) (f : Nat → Bool) (W : World) : Prop where
  box : Box W bb [.slice (some ⟨gb, 0, none⟩) N N] 139
  row : Row1 Value.bool W gb 4 ((List.range N).map f) []
section
variable {N bb gb : Nat} {f : Nat → Bool} {W W' : World}
theorem BMem.below (h : BMem N bb gb f W) (hb : Below W.heap.size W W') : BMem N bb gb f W' := ⟨h.box.below hb, h.row.below hb⟩
theorem BMem.at (h : BMem N bb gb f W) {v : Nat} (hv : v < N) : W.cell? ⟨gb, v, none⟩ = some (.bool (f v)) := h.row.cell (by rw [List.getElem?_map, List.getElem?_range hv]; rfl)
theorem BMem.put (h : BMem N bb gb f W) {i : Nat} (hi : i < N) (z : Bool) : BMem N bb gb (updW f i z) (W.setCell ⟨gb, i, none⟩ (.bool z)) := by
  have hne : bb ≠ gb := ne_type (show W.heap[bb]? = some (.cells _ 139 (0, 0)) from h.box) (show W.heap[gb]? = some (.cells _ 4 (0, 0)) from h.row) (by decide)
  refine ⟨h.box.other hne _, ?_⟩
  have := h.row.put (i := i) (by simpa using hi) z
  rw [map_set] at this
  exact this
end
theorem lnkV_ok {N v : Nat} (l : List (LnkT N v)) : ∀ p ∈ lnkV l, 1 ≤ p.2 ∧ p.2 ≤ 50 := fun p hp => by
  obtain ⟨x, _, rfl⟩ := List.mem_map.1 hp
  obtain ⟨u, _, _, _, h⟩ := x.2
  exact h
/-- The single edges at v that lead to vertices with a property. -/
def jnS (P : Nat → Bool) (l : List (Int × Int)) : Int := (l.map fun p => if P p.1.toNat then p.2 else 0).sum
theorem jnS_snoc (P : Nat → Bool) (l : List (Int × Int)) (p : Int × Int) : jnS P (l ++ [p]) = jnS P l + (if P p.1.toNat then p.2 else 0) := by simp [jnS]
theorem lnk_len (es : List Edg) (v : Int) : (lnkL es v).length ≤ es.length := List.length_filterMap_le _ _
theorem jnS_bound {N : Nat} {es : List Edg} (h : EOk N es) {v : Nat} (P : Nat → Bool) : ∀ l : List (Int × Int), (∀ p ∈ l, 1 ≤ p.2 ∧ p.2 ≤ 50) → 0 ≤ jnS P l ∧ jnS P l ≤ l.length * 50
  | [], _ => by simp [jnS]
  | p :: r, hl => by
    have h1 := jnS_bound (v := v) h P r fun x hx => hl x (by simp [hx])
    have h2 := hl p (by simp)
    have e : jnS P (p :: r) = (if P p.1.toNat then p.2 else 0) + jnS P r := by simp [jnS]
    have e2 : (((p :: r).length : Nat) : Int) * 50 = (r.length : Int) * 50 + 50 := by rw [List.length_cons]; push_cast; omega
    rw [e]
    split <;> omega
theorem jn_inD {N : Nat} (P : Nat → Bool) (v : Nat) : ∀ {es : List Edg}, (∀ y ∈ es, (0 ≤ y.a ∧ y.a < N) ∧ 0 ≤ y.b ∧ y.b < N) → jnS P (lnkL es v) = inD N (linkE es) P v
  | [], _ => by
    unfold inD
    rw [sumI_eq (g := fun _ => 0) fun w hw => by split <;> rfl, sumI_zero]
    rfl
  | x :: r, h => by
    have ih := jn_inD P v (es := r) fun y hy => h y (by simp [hy])
    have hx := h x (by simp)
    have e : inD N (linkE (x :: r)) P v = sumI (fun w => if P w then lkX x v w else 0) N + inD N (linkE r) P v := by
      unfold inD
      rw [← sumI_add]
      refine sumI_eq fun w hw => ?_
      show (if P w = true then lkX x v w + linkE r v w else 0) = _
      split <;> omega
    rw [e, ← ih]
    by_cases hc : x.a ≠ x.b ∧ (x.a = v ∨ x.b = v)
    · have e1 : lnkL (x :: r) v = (x.a + x.b - v, x.m) :: lnkL r v := by
        unfold lnkL
        rw [List.filterMap_cons]
        unfold lnkX
        rw [if_pos hc]
      have e2 : jnS P ((x.a + x.b - v, x.m) :: lnkL r v) = (if P (x.a + x.b - v).toNat then x.m else 0) + jnS P (lnkL r v) := by simp [jnS]
      rw [e1, e2]
      congr 1
      have h1 := sumI_one (f := fun w => if P w then lkX x v w else 0) (g := fun _ => 0) (n := N) (k := (x.a + x.b - v).toNat) (by omega) (fun p hp hne => by
        have : lkX x v p = 0 := by unfold lkX; exact if_neg (by omega)
        simp only [this]
        split <;> rfl)
      rw [h1, sumI_zero]
      have : lkX x v (x.a + x.b - v).toNat = x.m := by unfold lkX; exact if_pos (by omega)
      rw [this]
      omega
    · have e1 : lnkL (x :: r) v = lnkL r v := by
        unfold lnkL
        rw [List.filterMap_cons]
        unfold lnkX
        rw [if_neg hc]
      have e2 : sumI (fun w => if P w then lkX x v w else 0) N = 0 := by
        rw [sumI_eq (g := fun _ => 0) fun w hw => by
          have : lkX x v w = 0 := by unfold lkX; exact if_neg (by omega)
          rw [this]
          split <;> rfl, sumI_zero]
      rw [e1, e2]
      omega

theorem unb_is {N bb gb : Nat} {f : Nat → Bool} {W : World} (h : BMem N bb gb f W) {u : Nat} (hu : u < N) : Calls Tryz.prog 155 #[.int .i64 u, .pointer (some ⟨bb, 0, none⟩)] W fun e w' => e = .returned (.bool (f u)) ∧ W = w' := by
  have d0 := h.box.cell 0
  have c0 := h.at hu
  simp only [List.getElem?_cons_zero] at d0
  have h0 : (0 : Int) ≤ u := by omega
  have h1 : (u : Int) < N := by omega
  clear h
  generalize f u = b at *
  go_enter Tryz.func155, Tryz.ntmps155
  go_wp2_with fail
  go_ret
  exact ⟨rfl, rfl⟩
set_option maxRecDepth 100000 in
set_option maxHeartbeats 4000000 in
theorem unb_joins {B N q : Nat} {es : List Edg} {L : RLay} {x : RSt} {w : World} {bb gb : Nat} {f : Nat → Bool} (hM : RMem B N q es L x w) (hB : BMem N bb gb f w) {v : Nat} (hv : v < N) :
    Calls Tryz.prog 128 #[.pointer (some ⟨L.p, 0, none⟩), .int .i64 v, .func (.func 155) #[] #[.pointer (some ⟨bb, 0, none⟩)]] w fun e w' => e = .returned (.int .i64 (jnS (fun u => f u) (lnkL es v))) ∧ Below w.heap.size w w' := by
  refine (callsIn_wide (n := 6)).1 ?_
  have h1 : 1 ≤ 6 := by omega
  have hsz := hM.size
  have hok := hM.ok
  obtain ⟨_, d1, _, _, _, _⟩ := hM.cells
  have h12 := hM.num.1
  have HL := hide (fun W => links_any L.p (v : Int) W)
  have HM := hide hM
  have HBM := hide hB
  have hED := hM.edg
  clear hM hB
  refine callsIn_of_wp_marks Tryz.func128 rfl trivial ?_ rfl
  simp only [Tryz.ntmps128, List.size_toArray, List.length_cons, List.length_nil, Nat.reduceAdd, Nat.reduceSub, Array.replicate_succ, Array.replicate_zero, List.push_toArray, List.append_toArray, List.nil_append, List.cons_append]
  have HLc : Hid (∀ W, CallsIn Go.Fence.wide (6 - 1) Tryz.prog 154 #[.pointer (some ⟨L.p, 0, none⟩), .int .i64 v] W fun e w' => e = .returned (.func (.func 165) #[] #[.pointer (some ⟨W.heap.size, 0, none⟩), .pointer (some ⟨W.heap.size + 1, 0, none⟩)]) ∧ w' = (W.alloc (.cells #[.pointer (some ⟨L.p, 0, none⟩)] 143)).alloc (.cells #[.int .i64 v] 3)) := fun W => callsIn_wide.2 (HL.out W)
  have hf1 : Go.Fence.wide.fn 154 := trivial
  clear d1
  gi_wp2_with (gi_at_call 154; refine (HLc.out _).mono ?_; rintro e w2 ⟨rfl, rfl⟩)
  obtain ⟨W2, hW2⟩ : ∃ W2, (((w.alloc (.cells #[.func (.func 155) #[] #[.pointer (some ⟨bb, 0, none⟩)]] 126)).alloc (.cells #[.int .i64 0] 3)).alloc (.cells #[.pointer (some ⟨L.p, 0, none⟩)] 143)).alloc (.cells #[.int .i64 (v : Int)] 3) = W2 := ⟨_, rfl⟩
  have hs2 : W2.heap.size = w.heap.size + 4 := by rw [← hW2]; simp
  have hb2 : Below w.heap.size w W2 := by rw [← hW2]; exact bnew (bnew (bnew (bnew (Below.refl _ _) _) _) _) _
  have bI : Boxed W2 w.heap.size 126 (.func (.func 155) #[] #[.pointer (some ⟨bb, 0, none⟩)]) := by rw [← hW2]; exact (((Boxed.new w _ _).alloc _).alloc _).alloc _
  have bN : Boxed W2 (w.heap.size + 1) 3 (.int .i64 0) := by
    rw [← hW2]
    have := ((Boxed.new (w.alloc (.cells #[.func (.func 155) #[] #[.pointer (some ⟨bb, 0, none⟩)]] 126)) 3 (.int .i64 0)).alloc (.cells #[.pointer (some ⟨L.p, 0, none⟩)] 143)).alloc (.cells #[.int .i64 (v : Int)] 3)
    simpa using this
  have bX : Boxed W2 (w.heap.size + 2) 143 (.pointer (some ⟨L.p, 0, none⟩)) := by
    rw [← hW2]
    have := (Boxed.new ((w.alloc (.cells #[.func (.func 155) #[] #[.pointer (some ⟨bb, 0, none⟩)]] 126)).alloc (.cells #[.int .i64 0] 3)) 143 (.pointer (some ⟨L.p, 0, none⟩))).alloc (.cells #[.int .i64 (v : Int)] 3)
    simpa using this
  have bV : Boxed W2 (w.heap.size + 3) 3 (.int .i64 v) := by
    rw [← hW2]
    have := Boxed.new (((w.alloc (.cells #[.func (.func 155) #[] #[.pointer (some ⟨bb, 0, none⟩)]] 126)).alloc (.cells #[.int .i64 0] 3)).alloc (.cells #[.pointer (some ⟨L.p, 0, none⟩)] 143)) 3 (.int .i64 v)
    simpa using this
  have hM2 := HM.out.below hb2
  obtain ⟨_, d1, _, _, _, _⟩ := hM2.cells
  simp only [World.size_alloc, Nat.add_assoc, Nat.reduceAdd]
  rw [hW2]
  clear hW2
  refine wpIn_rangeFunc_ownF rfl h1 (gf := 165) (lb := #[.pointer (some ⟨w.heap.size + 2, 0, none⟩), .pointer (some ⟨w.heap.size + 3, 0, none⟩)]) rfl trivial (enters_of Tryz.func165 (by kernel_rfl) rfl)
    (links_stops Go.Fence.wide (6 - 1) trivial rfl (by omega) (w.heap.size + 2) (w.heap.size + 3) L.p w.heap.size N v L.c L.oe es hok hv (by omega) W2 (by omega) bX.cell bV.cell d1 (EdgesBelow.below hb2 (hED.more hsz)))
    KpL.t (KpL.b (by omega) (by intro g hg; simp at hg; omega)) (Below.refl _ _) (fun _ => rfl)
    (fun pre W => (Boxed W (w.heap.size + 1) 3 (.int .i64 (jnS (fun u => f u) (lnkV pre))) ∧ Boxed W w.heap.size 126 (.func (.func 155) #[] #[.pointer (some ⟨bb, 0, none⟩)])) ∧ Below w.heap.size w W)
    (fun _ _ _ => False)
    (OwnFrom.and (OwnFrom.and (Own.from (boxed_own _ _ _) _) (Own.from (boxed_own _ _ _) _)) (ownFrom_below (Nat.le_refl _) (by omega)))
    (fun _ _ _ _ _ hs _ _ => hs)
    ⟨⟨bN, bI⟩, hb2⟩
    (fun p => { tmps := #[.pointer (some ⟨L.p, 0, none⟩), .int .i64 v, .func (.func 155) #[] #[.pointer (some ⟨bb, 0, none⟩)], undef, undef, .pointer (some ⟨w.heap.size, 0, none⟩), .int .i64 0, .pointer (some ⟨w.heap.size + 1, 0, none⟩), .int .i64 p.1.1, .int .i64 p.1.2, .pointer (some ⟨L.p, 0, none⟩), .int .i64 v, .func (.func 165) #[] #[.pointer (some ⟨w.heap.size + 2, 0, none⟩), .pointer (some ⟨w.heap.size + 3, 0, none⟩)], .int .i64 p.1.1, .int .i64 p.1.2, undef, undef, undef, undef, undef, undef, undef], defers := [] }) ?assign ?body ?done ?stop
  case assign =>
    intro l p W K hK
    simp only [lEnc]
    gi_wp2
    exact hK
  case body =>
    rintro l pre ⟨⟨u0, k⟩, u, e0, hu, hne, hk⟩ W ⟨⟨bN, bI⟩, hB⟩ hlt
    have e0 : u0 = u := e0
    subst e0
    have hJB := jnS_bound hok (v := v) (fun u => f u) (lnkV pre) (lnkV_ok pre)
    have hll := lnk_len es (v : Int)
    have hl5 : (lnkV pre).length = pre.length := by unfold lnkV; rw [List.length_map]
    have hes := hok.len
    obtain ⟨S, hS⟩ : ∃ S, S = jnS (fun u => f u) (lnkV pre) := ⟨_, rfl⟩
    rw [← hS] at hJB bN
    have HS := hide hS
    have cN := bN.cell
    have fN := bN.frozen
    have cI := bI.cell
    have HBB := hide (HBM.out.below hB)
    obtain ⟨b, hb⟩ : ∃ b, b = f u := ⟨_, rfl⟩
    have HI : Hid (Calls Tryz.prog 155 #[.int .i64 u, .pointer (some ⟨bb, 0, none⟩)] W fun e w' => e = .returned (.bool b) ∧ W = w') := by have := unb_is HBB.out hu; rw [← hb] at this; exact this
    have HBS : Hid (jnS (fun u => f u) (lnkV (pre ++ [⟨((u : Int), k), ⟨u, rfl, hu, hne, hk⟩⟩])) = S + if b = true then k else 0) := by
      show _ = _
      rw [lnkV_snoc, jnS_snoc, hS]
      simp only [Int.toNat_natCast, ← hb]
    simp only at hk
    have HBW := hide hB
    have hN1 : 1 ≤ 6 - 1 - 1 := by omega
    clear hb hS hB
    rcases b with _ | _
    · simp only [Bool.false_eq_true, if_false, Int.add_zero] at HBS
      gi_wp2_with (refine ⟨trivial, ?_⟩; gi_at_call 155; refine (CallsIn.inRound l (callsIn_wide.2 HI.out)).mono ?_; rintro e w5 ⟨rfl, rfl⟩)
      exact ⟨KeepsOthers.refl _, KpL.refl _ _ _, ⟨by rw [HBS.out]; exact bN, bI⟩, HBW.out⟩
    · simp only [if_true] at HBS
      gi_wp2_with (refine ⟨trivial, ?_⟩; gi_at_call 155; refine (CallsIn.inRound l (callsIn_wide.2 HI.out)).mono ?_; rintro e w5 ⟨rfl, rfl⟩)
      exact ⟨KeepsOthers.setCell _ _ _, ⟨(Below.refl _ _).setCell (by simp) _, fun g hg => Below.heap_setCell _ _ _ g (by simp at hg; simp; omega)⟩, ⟨by rw [HBS.out]; exact bN.set _, bI.other (by omega) _⟩, HBW.out.setCell (p := ⟨w.heap.size + 1, 0, none⟩) (by simp) _⟩
  case done =>
    rintro D ys W hD hys ⟨⟨bN, bI⟩, hB⟩ hK
    rw [hys] at bN
    have cN := bN.cell
    obtain ⟨S, hS⟩ : ∃ S, S = jnS (fun u => f u) (lnkL es v) := ⟨_, rfl⟩
    rw [← hS] at cN
    have HS := hide hS
    clear hS bN
    gi_wp2
    refine ⟨by simp, .inl ⟨_, _, rfl, run_takeDeferred hK, ?_⟩⟩
    exact ⟨_, results_tmp rfl _ _ _, by rw [HS.out]; rfl, hB.trans (belowK_b (w := w) (Nat.le_refl _) W D _ _ (by omega) hK rfl rfl)⟩
  case stop =>
    rintro D c pre W _ _ h _
    exact h.elim

theorem lend_is {N bb gb : Nat} {f : Nat → Bool} {W : World} (h : BMem N bb gb f W) {u : Nat} (hu : u < N) : Calls Tryz.prog 129 #[.int .i64 u, .pointer (some ⟨bb, 0, none⟩)] W fun e w' => e = .returned (.bool (f u)) ∧ W = w' := by
  have d0 := h.box.cell 0
  have c0 := h.at hu
  simp only [List.getElem?_cons_zero] at d0
  have h0 : (0 : Int) ≤ u := by omega
  have h1 : (u : Int) < N := by omega
  clear h
  generalize f u = b at *
  go_enter Tryz.func129, Tryz.ntmps129
  go_wp2_with fail
  go_ret
  exact ⟨rfl, rfl⟩
set_option maxRecDepth 100000 in
set_option maxHeartbeats 4000000 in
theorem lend_joins {B N q : Nat} {es : List Edg} {L : RLay} {x : RSt} {w : World} {bb gb : Nat} {f : Nat → Bool} (hM : RMem B N q es L x w) (hB : BMem N bb gb f w) {v : Nat} (hv : v < N) :
    Calls Tryz.prog 128 #[.pointer (some ⟨L.p, 0, none⟩), .int .i64 v, .func (.func 129) #[] #[.pointer (some ⟨bb, 0, none⟩)]] w fun e w' => e = .returned (.int .i64 (jnS (fun u => f u) (lnkL es v))) ∧ Below w.heap.size w w' := by
  refine (callsIn_wide (n := 6)).1 ?_
  have h1 : 1 ≤ 6 := by omega
  have hsz := hM.size
  have hok := hM.ok
  obtain ⟨_, d1, _, _, _, _⟩ := hM.cells
  have h12 := hM.num.1
  have HL := hide (fun W => links_any L.p (v : Int) W)
  have HM := hide hM
  have HBM := hide hB
  have hED := hM.edg
  clear hM hB
  refine callsIn_of_wp_marks Tryz.func128 rfl trivial ?_ rfl
  simp only [Tryz.ntmps128, List.size_toArray, List.length_cons, List.length_nil, Nat.reduceAdd, Nat.reduceSub, Array.replicate_succ, Array.replicate_zero, List.push_toArray, List.append_toArray, List.nil_append, List.cons_append]
  have HLc : Hid (∀ W, CallsIn Go.Fence.wide (6 - 1) Tryz.prog 154 #[.pointer (some ⟨L.p, 0, none⟩), .int .i64 v] W fun e w' => e = .returned (.func (.func 165) #[] #[.pointer (some ⟨W.heap.size, 0, none⟩), .pointer (some ⟨W.heap.size + 1, 0, none⟩)]) ∧ w' = (W.alloc (.cells #[.pointer (some ⟨L.p, 0, none⟩)] 143)).alloc (.cells #[.int .i64 v] 3)) := fun W => callsIn_wide.2 (HL.out W)
  have hf1 : Go.Fence.wide.fn 154 := trivial
  clear d1
  gi_wp2_with (gi_at_call 154; refine (HLc.out _).mono ?_; rintro e w2 ⟨rfl, rfl⟩)
  obtain ⟨W2, hW2⟩ : ∃ W2, (((w.alloc (.cells #[.func (.func 129) #[] #[.pointer (some ⟨bb, 0, none⟩)]] 126)).alloc (.cells #[.int .i64 0] 3)).alloc (.cells #[.pointer (some ⟨L.p, 0, none⟩)] 143)).alloc (.cells #[.int .i64 (v : Int)] 3) = W2 := ⟨_, rfl⟩
  have hs2 : W2.heap.size = w.heap.size + 4 := by rw [← hW2]; simp
  have hb2 : Below w.heap.size w W2 := by rw [← hW2]; exact bnew (bnew (bnew (bnew (Below.refl _ _) _) _) _) _
  have bI : Boxed W2 w.heap.size 126 (.func (.func 129) #[] #[.pointer (some ⟨bb, 0, none⟩)]) := by rw [← hW2]; exact (((Boxed.new w _ _).alloc _).alloc _).alloc _
  have bN : Boxed W2 (w.heap.size + 1) 3 (.int .i64 0) := by
    rw [← hW2]
    have := ((Boxed.new (w.alloc (.cells #[.func (.func 129) #[] #[.pointer (some ⟨bb, 0, none⟩)]] 126)) 3 (.int .i64 0)).alloc (.cells #[.pointer (some ⟨L.p, 0, none⟩)] 143)).alloc (.cells #[.int .i64 (v : Int)] 3)
    simpa using this
  have bX : Boxed W2 (w.heap.size + 2) 143 (.pointer (some ⟨L.p, 0, none⟩)) := by
    rw [← hW2]
    have := (Boxed.new ((w.alloc (.cells #[.func (.func 129) #[] #[.pointer (some ⟨bb, 0, none⟩)]] 126)).alloc (.cells #[.int .i64 0] 3)) 143 (.pointer (some ⟨L.p, 0, none⟩))).alloc (.cells #[.int .i64 (v : Int)] 3)
    simpa using this
  have bV : Boxed W2 (w.heap.size + 3) 3 (.int .i64 v) := by
    rw [← hW2]
    have := Boxed.new (((w.alloc (.cells #[.func (.func 129) #[] #[.pointer (some ⟨bb, 0, none⟩)]] 126)).alloc (.cells #[.int .i64 0] 3)).alloc (.cells #[.pointer (some ⟨L.p, 0, none⟩)] 143)) 3 (.int .i64 v)
    simpa using this
  have hM2 := HM.out.below hb2
  obtain ⟨_, d1, _, _, _, _⟩ := hM2.cells
  simp only [World.size_alloc, Nat.add_assoc, Nat.reduceAdd]
  rw [hW2]
  clear hW2
  refine wpIn_rangeFunc_ownF rfl h1 (gf := 165) (lb := #[.pointer (some ⟨w.heap.size + 2, 0, none⟩), .pointer (some ⟨w.heap.size + 3, 0, none⟩)]) rfl trivial (enters_of Tryz.func165 (by kernel_rfl) rfl)
    (links_stops Go.Fence.wide (6 - 1) trivial rfl (by omega) (w.heap.size + 2) (w.heap.size + 3) L.p w.heap.size N v L.c L.oe es hok hv (by omega) W2 (by omega) bX.cell bV.cell d1 (EdgesBelow.below hb2 (hED.more hsz)))
    KpL.t (KpL.b (by omega) (by intro g hg; simp at hg; omega)) (Below.refl _ _) (fun _ => rfl)
    (fun pre W => (Boxed W (w.heap.size + 1) 3 (.int .i64 (jnS (fun u => f u) (lnkV pre))) ∧ Boxed W w.heap.size 126 (.func (.func 129) #[] #[.pointer (some ⟨bb, 0, none⟩)])) ∧ Below w.heap.size w W)
    (fun _ _ _ => False)
    (OwnFrom.and (OwnFrom.and (Own.from (boxed_own _ _ _) _) (Own.from (boxed_own _ _ _) _)) (ownFrom_below (Nat.le_refl _) (by omega)))
    (fun _ _ _ _ _ hs _ _ => hs)
    ⟨⟨bN, bI⟩, hb2⟩
    (fun p => { tmps := #[.pointer (some ⟨L.p, 0, none⟩), .int .i64 v, .func (.func 129) #[] #[.pointer (some ⟨bb, 0, none⟩)], undef, undef, .pointer (some ⟨w.heap.size, 0, none⟩), .int .i64 0, .pointer (some ⟨w.heap.size + 1, 0, none⟩), .int .i64 p.1.1, .int .i64 p.1.2, .pointer (some ⟨L.p, 0, none⟩), .int .i64 v, .func (.func 165) #[] #[.pointer (some ⟨w.heap.size + 2, 0, none⟩), .pointer (some ⟨w.heap.size + 3, 0, none⟩)], .int .i64 p.1.1, .int .i64 p.1.2, undef, undef, undef, undef, undef, undef, undef], defers := [] }) ?assign ?body ?done ?stop
  case assign =>
    intro l p W K hK
    simp only [lEnc]
    gi_wp2
    exact hK
  case body =>
    rintro l pre ⟨⟨u0, k⟩, u, e0, hu, hne, hk⟩ W ⟨⟨bN, bI⟩, hB⟩ hlt
    have e0 : u0 = u := e0
    subst e0
    have hJB := jnS_bound hok (v := v) (fun u => f u) (lnkV pre) (lnkV_ok pre)
    have hll := lnk_len es (v : Int)
    have hl5 : (lnkV pre).length = pre.length := by unfold lnkV; rw [List.length_map]
    have hes := hok.len
    obtain ⟨S, hS⟩ : ∃ S, S = jnS (fun u => f u) (lnkV pre) := ⟨_, rfl⟩
    rw [← hS] at hJB bN
    have HS := hide hS
    have cN := bN.cell
    have fN := bN.frozen
    have cI := bI.cell
    have HBB := hide (HBM.out.below hB)
    obtain ⟨b, hb⟩ : ∃ b, b = f u := ⟨_, rfl⟩
    have HI : Hid (Calls Tryz.prog 129 #[.int .i64 u, .pointer (some ⟨bb, 0, none⟩)] W fun e w' => e = .returned (.bool b) ∧ W = w') := by have := lend_is HBB.out hu; rw [← hb] at this; exact this
    have HBS : Hid (jnS (fun u => f u) (lnkV (pre ++ [⟨((u : Int), k), ⟨u, rfl, hu, hne, hk⟩⟩])) = S + if b = true then k else 0) := by
      show _ = _
      rw [lnkV_snoc, jnS_snoc, hS]
      simp only [Int.toNat_natCast, ← hb]
    simp only at hk
    have HBW := hide hB
    have hN1 : 1 ≤ 6 - 1 - 1 := by omega
    clear hb hS hB
    rcases b with _ | _
    · simp only [Bool.false_eq_true, if_false, Int.add_zero] at HBS
      gi_wp2_with (refine ⟨trivial, ?_⟩; gi_at_call 129; refine (CallsIn.inRound l (callsIn_wide.2 HI.out)).mono ?_; rintro e w5 ⟨rfl, rfl⟩)
      exact ⟨KeepsOthers.refl _, KpL.refl _ _ _, ⟨by rw [HBS.out]; exact bN, bI⟩, HBW.out⟩
    · simp only [if_true] at HBS
      gi_wp2_with (refine ⟨trivial, ?_⟩; gi_at_call 129; refine (CallsIn.inRound l (callsIn_wide.2 HI.out)).mono ?_; rintro e w5 ⟨rfl, rfl⟩)
      exact ⟨KeepsOthers.setCell _ _ _, ⟨(Below.refl _ _).setCell (by simp) _, fun g hg => Below.heap_setCell _ _ _ g (by simp at hg; simp; omega)⟩, ⟨by rw [HBS.out]; exact bN.set _, bI.other (by omega) _⟩, HBW.out.setCell (p := ⟨w.heap.size + 1, 0, none⟩) (by simp) _⟩
  case done =>
    rintro D ys W hD hys ⟨⟨bN, bI⟩, hB⟩ hK
    rw [hys] at bN
    have cN := bN.cell
    obtain ⟨S, hS⟩ : ∃ S, S = jnS (fun u => f u) (lnkL es v) := ⟨_, rfl⟩
    rw [← hS] at cN
    have HS := hide hS
    clear hS bN
    gi_wp2
    refine ⟨by simp, .inl ⟨_, _, rfl, run_takeDeferred hK, ?_⟩⟩
    exact ⟨_, results_tmp rfl _ _ _, by rw [HS.out]; rfl, hB.trans (belowK_b (w := w) (Nat.le_refl _) W D _ _ (by omega) hK rfl rfl)⟩
  case stop =>
    rintro D c pre W _ _ h _
    exact h.elim

theorem setl_is {N bb gb : Nat} {f : Nat → Bool} {W : World} (h : BMem N bb gb f W) {u : Nat} (hu : u < N) : Calls Tryz.prog 131 #[.int .i64 u, .pointer (some ⟨bb, 0, none⟩)] W fun e w' => e = .returned (.bool (!f u)) ∧ W = w' := by
  have d0 := h.box.cell 0
  have c0 := h.at hu
  simp only [List.getElem?_cons_zero] at d0
  have h0 : (0 : Int) ≤ u := by omega
  have h1 : (u : Int) < N := by omega
  clear h
  generalize f u = b at *
  go_enter Tryz.func131, Tryz.ntmps131
  go_wp2_with fail
  go_ret
  exact ⟨rfl, rfl⟩
set_option maxRecDepth 100000 in
set_option maxHeartbeats 4000000 in
theorem setl_joins {B N q : Nat} {es : List Edg} {L : RLay} {x : RSt} {w : World} {bb gb : Nat} {f : Nat → Bool} (hM : RMem B N q es L x w) (hB : BMem N bb gb f w) {v : Nat} (hv : v < N) :
    Calls Tryz.prog 128 #[.pointer (some ⟨L.p, 0, none⟩), .int .i64 v, .func (.func 131) #[] #[.pointer (some ⟨bb, 0, none⟩)]] w fun e w' => e = .returned (.int .i64 (jnS (fun u => !f u) (lnkL es v))) ∧ Below w.heap.size w w' := by
  refine (callsIn_wide (n := 6)).1 ?_
  have h1 : 1 ≤ 6 := by omega
  have hsz := hM.size
  have hok := hM.ok
  obtain ⟨_, d1, _, _, _, _⟩ := hM.cells
  have h12 := hM.num.1
  have HL := hide (fun W => links_any L.p (v : Int) W)
  have HM := hide hM
  have HBM := hide hB
  have hED := hM.edg
  clear hM hB
  refine callsIn_of_wp_marks Tryz.func128 rfl trivial ?_ rfl
  simp only [Tryz.ntmps128, List.size_toArray, List.length_cons, List.length_nil, Nat.reduceAdd, Nat.reduceSub, Array.replicate_succ, Array.replicate_zero, List.push_toArray, List.append_toArray, List.nil_append, List.cons_append]
  have HLc : Hid (∀ W, CallsIn Go.Fence.wide (6 - 1) Tryz.prog 154 #[.pointer (some ⟨L.p, 0, none⟩), .int .i64 v] W fun e w' => e = .returned (.func (.func 165) #[] #[.pointer (some ⟨W.heap.size, 0, none⟩), .pointer (some ⟨W.heap.size + 1, 0, none⟩)]) ∧ w' = (W.alloc (.cells #[.pointer (some ⟨L.p, 0, none⟩)] 143)).alloc (.cells #[.int .i64 v] 3)) := fun W => callsIn_wide.2 (HL.out W)
  have hf1 : Go.Fence.wide.fn 154 := trivial
  clear d1
  gi_wp2_with (gi_at_call 154; refine (HLc.out _).mono ?_; rintro e w2 ⟨rfl, rfl⟩)
  obtain ⟨W2, hW2⟩ : ∃ W2, (((w.alloc (.cells #[.func (.func 131) #[] #[.pointer (some ⟨bb, 0, none⟩)]] 126)).alloc (.cells #[.int .i64 0] 3)).alloc (.cells #[.pointer (some ⟨L.p, 0, none⟩)] 143)).alloc (.cells #[.int .i64 (v : Int)] 3) = W2 := ⟨_, rfl⟩
  have hs2 : W2.heap.size = w.heap.size + 4 := by rw [← hW2]; simp
  have hb2 : Below w.heap.size w W2 := by rw [← hW2]; exact bnew (bnew (bnew (bnew (Below.refl _ _) _) _) _) _
  have bI : Boxed W2 w.heap.size 126 (.func (.func 131) #[] #[.pointer (some ⟨bb, 0, none⟩)]) := by rw [← hW2]; exact (((Boxed.new w _ _).alloc _).alloc _).alloc _
  have bN : Boxed W2 (w.heap.size + 1) 3 (.int .i64 0) := by
    rw [← hW2]
    have := ((Boxed.new (w.alloc (.cells #[.func (.func 131) #[] #[.pointer (some ⟨bb, 0, none⟩)]] 126)) 3 (.int .i64 0)).alloc (.cells #[.pointer (some ⟨L.p, 0, none⟩)] 143)).alloc (.cells #[.int .i64 (v : Int)] 3)
    simpa using this
  have bX : Boxed W2 (w.heap.size + 2) 143 (.pointer (some ⟨L.p, 0, none⟩)) := by
    rw [← hW2]
    have := (Boxed.new ((w.alloc (.cells #[.func (.func 131) #[] #[.pointer (some ⟨bb, 0, none⟩)]] 126)).alloc (.cells #[.int .i64 0] 3)) 143 (.pointer (some ⟨L.p, 0, none⟩))).alloc (.cells #[.int .i64 (v : Int)] 3)
    simpa using this
  have bV : Boxed W2 (w.heap.size + 3) 3 (.int .i64 v) := by
    rw [← hW2]
    have := Boxed.new (((w.alloc (.cells #[.func (.func 131) #[] #[.pointer (some ⟨bb, 0, none⟩)]] 126)).alloc (.cells #[.int .i64 0] 3)).alloc (.cells #[.pointer (some ⟨L.p, 0, none⟩)] 143)) 3 (.int .i64 v)
    simpa using this
  have hM2 := HM.out.below hb2
  obtain ⟨_, d1, _, _, _, _⟩ := hM2.cells
  simp only [World.size_alloc, Nat.add_assoc, Nat.reduceAdd]
  rw [hW2]
  clear hW2
  refine wpIn_rangeFunc_ownF rfl h1 (gf := 165) (lb := #[.pointer (some ⟨w.heap.size + 2, 0, none⟩), .pointer (some ⟨w.heap.size + 3, 0, none⟩)]) rfl trivial (enters_of Tryz.func165 (by kernel_rfl) rfl)
    (links_stops Go.Fence.wide (6 - 1) trivial rfl (by omega) (w.heap.size + 2) (w.heap.size + 3) L.p w.heap.size N v L.c L.oe es hok hv (by omega) W2 (by omega) bX.cell bV.cell d1 (EdgesBelow.below hb2 (hED.more hsz)))
    KpL.t (KpL.b (by omega) (by intro g hg; simp at hg; omega)) (Below.refl _ _) (fun _ => rfl)
    (fun pre W => (Boxed W (w.heap.size + 1) 3 (.int .i64 (jnS (fun u => !f u) (lnkV pre))) ∧ Boxed W w.heap.size 126 (.func (.func 131) #[] #[.pointer (some ⟨bb, 0, none⟩)])) ∧ Below w.heap.size w W)
    (fun _ _ _ => False)
    (OwnFrom.and (OwnFrom.and (Own.from (boxed_own _ _ _) _) (Own.from (boxed_own _ _ _) _)) (ownFrom_below (Nat.le_refl _) (by omega)))
    (fun _ _ _ _ _ hs _ _ => hs)
    ⟨⟨bN, bI⟩, hb2⟩
    (fun p => { tmps := #[.pointer (some ⟨L.p, 0, none⟩), .int .i64 v, .func (.func 131) #[] #[.pointer (some ⟨bb, 0, none⟩)], undef, undef, .pointer (some ⟨w.heap.size, 0, none⟩), .int .i64 0, .pointer (some ⟨w.heap.size + 1, 0, none⟩), .int .i64 p.1.1, .int .i64 p.1.2, .pointer (some ⟨L.p, 0, none⟩), .int .i64 v, .func (.func 165) #[] #[.pointer (some ⟨w.heap.size + 2, 0, none⟩), .pointer (some ⟨w.heap.size + 3, 0, none⟩)], .int .i64 p.1.1, .int .i64 p.1.2, undef, undef, undef, undef, undef, undef, undef], defers := [] }) ?assign ?body ?done ?stop
  case assign =>
    intro l p W K hK
    simp only [lEnc]
    gi_wp2
    exact hK
  case body =>
    rintro l pre ⟨⟨u0, k⟩, u, e0, hu, hne, hk⟩ W ⟨⟨bN, bI⟩, hB⟩ hlt
    have e0 : u0 = u := e0
    subst e0
    have hJB := jnS_bound hok (v := v) (fun u => !f u) (lnkV pre) (lnkV_ok pre)
    have hll := lnk_len es (v : Int)
    have hl5 : (lnkV pre).length = pre.length := by unfold lnkV; rw [List.length_map]
    have hes := hok.len
    obtain ⟨S, hS⟩ : ∃ S, S = jnS (fun u => !f u) (lnkV pre) := ⟨_, rfl⟩
    rw [← hS] at hJB bN
    have HS := hide hS
    have cN := bN.cell
    have fN := bN.frozen
    have cI := bI.cell
    have HBB := hide (HBM.out.below hB)
    obtain ⟨b, hb⟩ : ∃ b, b = !f u := ⟨_, rfl⟩
    have HI : Hid (Calls Tryz.prog 131 #[.int .i64 u, .pointer (some ⟨bb, 0, none⟩)] W fun e w' => e = .returned (.bool b) ∧ W = w') := by have := setl_is HBB.out hu; rw [← hb] at this; exact this
    have HBS : Hid (jnS (fun u => !f u) (lnkV (pre ++ [⟨((u : Int), k), ⟨u, rfl, hu, hne, hk⟩⟩])) = S + if b = true then k else 0) := by
      show _ = _
      rw [lnkV_snoc, jnS_snoc, hS]
      simp only [Int.toNat_natCast, ← hb]
    simp only at hk
    have HBW := hide hB
    have hN1 : 1 ≤ 6 - 1 - 1 := by omega
    clear hb hS hB
    rcases b with _ | _
    · simp only [Bool.false_eq_true, if_false, Int.add_zero] at HBS
      gi_wp2_with (refine ⟨trivial, ?_⟩; gi_at_call 131; refine (CallsIn.inRound l (callsIn_wide.2 HI.out)).mono ?_; rintro e w5 ⟨rfl, rfl⟩)
      exact ⟨KeepsOthers.refl _, KpL.refl _ _ _, ⟨by rw [HBS.out]; exact bN, bI⟩, HBW.out⟩
    · simp only [if_true] at HBS
      gi_wp2_with (refine ⟨trivial, ?_⟩; gi_at_call 131; refine (CallsIn.inRound l (callsIn_wide.2 HI.out)).mono ?_; rintro e w5 ⟨rfl, rfl⟩)
      exact ⟨KeepsOthers.setCell _ _ _, ⟨(Below.refl _ _).setCell (by simp) _, fun g hg => Below.heap_setCell _ _ _ g (by simp at hg; simp; omega)⟩, ⟨by rw [HBS.out]; exact bN.set _, bI.other (by omega) _⟩, HBW.out.setCell (p := ⟨w.heap.size + 1, 0, none⟩) (by simp) _⟩
  case done =>
    rintro D ys W hD hys ⟨⟨bN, bI⟩, hB⟩ hK
    rw [hys] at bN
    have cN := bN.cell
    obtain ⟨S, hS⟩ : ∃ S, S = jnS (fun u => !f u) (lnkL es v) := ⟨_, rfl⟩
    rw [← hS] at cN
    have HS := hide hS
    clear hS bN
    gi_wp2
    refine ⟨by simp, .inl ⟨_, _, rfl, run_takeDeferred hK, ?_⟩⟩
    exact ⟨_, results_tmp rfl _ _ _, by rw [HS.out]; rfl, hB.trans (belowK_b (w := w) (Nat.le_refl _) W D _ _ (by omega) hK rfl rfl)⟩
  case stop =>
    rintro D c pre W _ _ h _
    exact h.elim
end Go.Proofs.YtpgopmmobbemcaaGreat

set_option linter.unusedVariables false
set_option linter.unusedSimpArgs false
namespace Go.Proofs.YtpgopmmobbemcaaGreat
open Go.RowKit

section
variable {n q : Nat} {R : Nat → Nat → Int} {d : Nat → Int} {f : Nat → Bool}
/-- Burnt: q, and who cannot be in a set that can fire. -/
structure Burn (n q : Nat) (R : Nat → Nat → Int) (d : Nat → Int) (f : Nat → Bool) : Prop where
  q1 : f q = true
  out : ∀ T : Nat → Bool, T q = false → (∀ v, v < n → T v = true → outD n R T v ≤ d v) → ∀ v, v < n → T v = true → f v = false
theorem Burn.begin_ : Burn n q R d (updW (fun _ => false) q true) where
  q1 := if_pos rfl
  out := fun T hq _ v hv hT => if_neg fun e => by rw [e, hq] at hT; cases hT
theorem Burn.step (hG : Gr n R) (h : Burn n q R d f) {v : Nat} (hv : v < n) (hd : d v < inD n R f v) : Burn n q R d (updW f v true) where
  q1 := by unfold updW; split; rfl; exact h.q1
  out := fun T hq hT u hu hTu => by
    by_cases e : u = v
    · subst e
      exfalso
      have h1 := hT u hu hTu
      have h2 : inD n R f u ≤ outD n R T u := sumI_le fun w hw => by
        rcases hTw : T w with _ | _
        · simp only [Bool.false_eq_true, if_false]
          split
          · exact Int.le_refl _
          · exact hG.nn u w hu hw
        · rw [h.out T hq hT w hw hTw]
          exact Int.le_refl _
      omega
    · unfold updW
      rw [if_neg e]
      exact h.out T hq hT u hu hTu
theorem out_not (v : Nat) : outD n R (fun u => !f u) v = inD n R f v := by
  unfold outD inD
  refine sumI_eq fun w _ => ?_
  show (if (!f w) = true then 0 else R v w) = if f w = true then R v w else 0
  cases f w <;> rfl
theorem Burn.unb (h : Burn n q R d f) (hd : ∀ v, v < n → f v = false → ¬ d v < inD n R f v) : Unb n q R d (fun v => !f v) where
  q0 := by rw [h.q1]; rfl
  ok := fun v hv hS => by
    rw [out_not]
    have := hd v hv (by simpa using hS)
    omega
  top := fun T hq hT v hv hTv => by rw [h.out T hq hT v hv hTv]; rfl
/-- How many are not burnt. -/
def unbN (n : Nat) (f : Nat → Bool) : Nat := sumN (fun v => if f v then 0 else 1) n
theorem unbN_le : ∀ n, unbN n f ≤ n
  | 0 => Nat.le_refl _
  | n + 1 => by
    have := unbN_le n
    unfold unbN at this ⊢
    simp only [sumN]
    split <;> omega
theorem unbN_step {v : Nat} (hv : v < n) (h : f v = false) : unbN n (updW f v true) + 1 = unbN n f := by
  unfold unbN
  have h1 := sumN_one (f := fun u => if f u then 0 else 1) (g := fun u => if updW f v true u then 0 else 1) hv (fun p hp hne => by simp [updW, hne])
  have e1 : (if f v = true then 0 else 1) = 1 := by rw [h]; rfl
  have e2 : (if updW f v true v = true then 0 else 1) = 0 := by simp [updW]
  simp only [e1, e2] at h1
  omega
end
theorem rbInfo : (Tryz.prog.info? 4).map (fun i => (i.zero, i.size, i.bytes)) = some (some (.bool false), 1, 1) := by kernel_rfl
theorem map_false (n : Nat) : List.replicate n false = (List.range n).map fun _ => false := by
  apply List.ext_getElem?
  intro j
  rw [List.getElem?_replicate, List.getElem?_map]
  by_cases h : j < n
  · rw [if_pos h, List.getElem?_range h]; rfl
  · rw [if_neg h, List.getElem?_eq_none (by simp; omega)]; rfl
def UnbPost (w : World) (N q : Nat) (es : List Edg) (d : Nat → Int) (e : Ending) (w' : World) : Prop :=
  ∃ gl S b, e = .returned (.tuple #[.slice (some ⟨gl, 0, none⟩) N N, .bool b]) ∧ Unb N q (linkE es) d S ∧ (b = true ↔ ∃ v, v < N ∧ S v = true) ∧ Row1 Value.bool w' gl 4 ((List.range N).map S) [] ∧ w.heap.size ≤ gl ∧ Below w.heap.size w w'

set_option maxRecDepth 100000 in
set_option maxHeartbeats 4000000 in
theorem unburnt_any {B N q : Nat} {es : List Edg} {L : RLay} {x : RSt} {w : World} (hM : RMem B N q es L x w) :
    Calls Tryz.prog 130 #[.pointer (some ⟨L.p, 0, none⟩)] w (UnbPost w N q es x.d) := by
  have h12 := hM.num.1
  have hqN := hM.num.2.1
  have hcd := hM.num.2.2
  have hok := hide hM.ok
  have hG : Hid (Gr N (linkE es)) := linkE_gr fun y hy => by have := (hok.out.at_ y hy).2; omega
  have HM := hide hM
  obtain ⟨d0, _, d2, _, _, _⟩ := hM.cells
  clear hM
  go_enter Tryz.func130, Tryz.ntmps130
  go_wp2_with (at_make; refine wpList_make_row _ rfl _ _ 139 rfl 4 false 1 Tryz.underlying139 rbInfo rfl .i64 .i64 _ _ N rfl rfl rfl rfl (by omega) (by unfold maxLen; omega) (fun w1 hrow hb1 hg1 => ?_))
  rw [map_false] at hrow
  obtain ⟨W2, hW2⟩ : ∃ W2, w1.alloc (.cells #[.slice (some ⟨w.heap.size, 0, none⟩) N N] 139) = W2 := ⟨_, rfl⟩
  have hlt1 := hrow.lt
  have hB2 : BMem N w1.heap.size w.heap.size (fun _ => false) W2 := by
    rw [← hW2]
    exact ⟨Box.new w1 [.slice (some ⟨w.heap.size, 0, none⟩) N N] 139, hrow.new _⟩
  have hb2 : Below w.heap.size w W2 := by rw [← hW2]; exact hb1.alloc hb1.size _
  rw [hW2]
  have hM2 := HM.out.below hb2
  obtain ⟨d0, _, d2, _, _, _⟩ := hM2.cells
  have b0 := hB2.box.cell 0
  have g0 := hB2.at hqN
  have f0 := hB2.row.free q
  simp only [List.getElem?_cons_zero] at b0
  have hq0 : (0 : Int) ≤ q := by omega
  have hq1 : (q : Int) < N := by omega
  have HB2 := hide hB2
  have HL2 := hide hb2
  clear hB2 hb2 hM2 hrow hb1 hg1 hW2
  go_region
  all_goals
    have hB3 : BMem N w1.heap.size w.heap.size (updW (fun _ => false) q true) (W2.drew.setCell ⟨w.heap.size, q, none⟩ (.bool true)) := (HB2.out.below (Below.refl _ _).drew).put hqN true
    have hL3 : Below w.heap.size w (W2.drew.setCell ⟨w.heap.size, q, none⟩ (.bool true)) := HL2.out.drew.setCell (by simp) _
    go_wp2_with fail
    go_loopg [6] (N + 1) (fun gk av wr => ∃ (ag : Bool) (f : Nat → Bool), av = .bool ag ∧ (ag = true → unbN N f < gk) ∧ Hid (Burn N q (linkE es) x.d f ∧ (ag = false → ∀ v, v < N → f v = false → ¬ x.d v < inD N (linkE es) f v)) ∧ Hid (BMem N w1.heap.size w.heap.size f wr) ∧ Hid (Below w.heap.size w wr))
    case atStart => exact ⟨true, _, rfl, fun _ => by have := unbN_le (f := updW (fun _ => false) q true) N; omega, ⟨Burn.begin_, fun h => by cases h⟩, hB3, hL3⟩
    case round =>
      obtain ⟨ag, f, rfl, hag, HU, HB, HL⟩ := hrel
      clear d0 d2 b0 g0 f0 hB3 hL3
      rcases ag with _ | _
      · have hUnb := hide (HU.out.1.unb (HU.out.2 rfl))
        clear hag
        have hMr := HM.out.below HL.out
        obtain ⟨d0, _, _, _, _, _⟩ := hMr.cells
        have b0 := HB.out.box.cell 0
        simp only [List.getElem?_cons_zero] at b0
        clear hMr
        go_wp2_with (at_make; refine wpList_make_row _ rfl _ _ 139 rfl 4 false 1 Tryz.underlying139 rbInfo rfl .i64 .i64 _ _ N rfl rfl rfl rfl (by omega) (by unfold maxLen; omega) (fun w3 hrow3 hb3 hg3 => ?_); have b0 := (hb3.cell (World.block_lt_of_cell? _ _ b0)).trans b0)
        rw [map_false] at hrow3
        have HB3 := hide (HB.out.below hb3)
        have HL3 := hide (below_then HL.out hb3)
        have HR3 := hide hrow3
        have hgl := HL.out.size
        have hl3 := hrow3.lt
        clear hb3 hg3 hrow3 b0 d0
        obtain ⟨wo, rfl⟩ : ∃ wo : World, wo = wr := ⟨_, rfl⟩
        obtain ⟨gl, hgle⟩ : ∃ gl, gl = wo.heap.size := ⟨_, rfl⟩
        rw [← hgle] at HR3 hl3 ⊢
        have HGL : Hid (w.heap.size ≤ gl) := by show _ ≤ _; omega
        have HNE : Hid (w.heap.size ≠ gl ∧ w1.heap.size ≠ gl) := by
          have h1 := HB.out.box.lt
          have h2 := HB.out.row.lt
          show _ ∧ _
          omega
        clear hgle
        go_loopg [9, 64] N (fun gm sv iv wx => ∃ (i : Nat) (sm : Bool), i ≤ N ∧ gm = N - i ∧ sv = .bool sm ∧ iv = .int .i64 i ∧ Hid (sm = true ↔ ∃ v, v < i ∧ f v = false) ∧ Hid (Row1 Value.bool wx gl 4 ((List.range N).map fun v => if v < i then !f v else false) []) ∧ Hid (BMem N w1.heap.size w.heap.size f wx) ∧ Hid (Below w.heap.size w wx))
        case atStart =>
          refine ⟨0, false, by omega, by omega, rfl, rfl, (show _ ↔ _ from ⟨fun h => Bool.noConfusion h, fun ⟨v, h, _⟩ => absurd h (Nat.not_lt_zero v)⟩), ?_, HB3, HL3⟩
          show Row1 _ _ _ _ _ _
          rw [show (fun v : Nat => if v < 0 then !f v else false) = fun _ => false from funext fun v => if_neg (Nat.not_lt_zero v)]
          exact HR3.out
        case round =>
          obtain ⟨i, sm, hi, hgm, rfl, rfl, HS, HR, HB', HL'⟩ := hrel
          have HGM := hide hgm
          clear hgm
          by_cases hlt : i < N
          · have b0 := HB'.out.box.cell 0
            have g0 := HB'.out.at hlt
            simp only [List.getElem?_cons_zero] at b0
            have fz := HR.out.free i
            have l1 : wr.cell? ⟨gl, i, none⟩ = some (.bool false) := HR.out.cell (i := i) (x := false) (by rw [List.getElem?_map, List.getElem?_range hlt]; simp)
            have hi0 : (0 : Int) ≤ i := by omega
            have hi1 : (i : Int) < N := by omega
            obtain ⟨b, hb⟩ : ∃ b, f i = b := ⟨_, rfl⟩
            rw [hb] at g0
            have hput := HR.out.put (i := i) (by simpa using hlt) (!b)
            rw [map_set] at hput
            have he : (fun u => if u = i then !b else if u < i then !f u else false) = fun v => if v < i + 1 then !f v else false := funext fun u => by
              by_cases e : u = i
              · subst e; rw [if_pos rfl, if_pos (by omega), hb]
              · rw [if_neg e]
                by_cases h : u < i
                · rw [if_pos h, if_pos (by omega)]
                · rw [if_neg h, if_neg (by omega)]
            rw [he] at hput
            obtain ⟨W5, hW5⟩ : ∃ W5, wr.setCell ⟨gl, i, none⟩ (.bool !b) = W5 := ⟨_, rfl⟩
            rw [hW5] at hput
            have l0 : W5.cell? ⟨gl, i, none⟩ = some (.bool !b) := by
              have := hput.cell (i := i) (x := !b) (by rw [List.getElem?_map, List.getElem?_range hlt]; simp [hb])
              exact this
            have hne : w.heap.size ≠ gl ∧ w1.heap.size ≠ gl := HNE.out
            have hBW5 : BMem N w1.heap.size w.heap.size f W5 := by
              rw [← hW5]
              exact ⟨HB'.out.box.other hne.2 _, HB'.out.row.other hne.1 _⟩
            have hL5 : Below w.heap.size w W5 := by rw [← hW5]; exact HL'.out.setCell HGL.out _
            have HB5 := hide hBW5
            have HL5 := hide hL5
            have HR5 := hide hput
            have HS2 : Hid ((sm || !b) = true ↔ ∃ v, v < i + 1 ∧ f v = false) := by
              show _ ↔ _
              constructor
              · intro h
                rcases Bool.or_eq_true_iff.1 h with h | h
                · obtain ⟨v, h1, h2⟩ := HS.out.1 h
                  exact ⟨v, by omega, h2⟩
                · exact ⟨i, by omega, by rw [hb]; simpa using h⟩
              · rintro ⟨v, h1, h2⟩
                by_cases e : v = i
                · rw [e, hb] at h2; rw [h2]; simp
                · rw [HS.out.2 ⟨v, by omega, h2⟩]; rfl
            clear hb he hput hBW5 hL5
            rcases sm with _ | _
            · rw [Bool.false_or] at HS2
              go_wp2_with fail
              go_roundg (N - (i + 1))
              case rel => exact ⟨i + 1, !b, by omega, rfl, by first | rfl | trivial, by go_num, HS2, HR5, HB5, HL5⟩
              case measure => rw [HGM.out]; omega
            · rw [Bool.true_or] at HS2
              go_wp2_with fail
              go_roundg (N - (i + 1))
              case rel => exact ⟨i + 1, true, by omega, rfl, by first | rfl | trivial, by go_num, (show _ ↔ _ from ⟨fun _ => HS2.out.1 (by trivial), fun _ => by trivial⟩), HR5, HB5, HL5⟩
              case measure => rw [HGM.out]; omega
          · have hie : i = N := by omega
            subst hie
            have HRE : Hid (Row1 Value.bool wr gl 4 ((List.range i).map fun v => !f v) []) := by
              have h1 := HR.out
              rw [show ((List.range i).map fun v => if v < i then !f v else false) = (List.range i).map fun v => !f v from List.map_congr_left fun v hv => if_pos (List.mem_range.1 hv)] at h1
              exact h1
            go_wp2_with fail
            go_ret2
            refine ⟨gl, _, sm, rfl, hUnb.out, ?_, HRE.out, HGL.out, HL'.out⟩
            rw [HS.out]
            constructor
            · rintro ⟨v, h1, h2⟩
              exact ⟨v, h1, by simp [h2]⟩
            · rintro ⟨v, h1, h2⟩
              exact ⟨v, h1, by simpa using h2⟩
      · have hag := hag rfl
        have hMr := HM.out.below HL.out
        obtain ⟨d0, _, _, _, _, _⟩ := hMr.cells
        clear hMr
        obtain ⟨g0, hg0⟩ : ∃ g0, g0 = gk := ⟨_, rfl⟩
        have hag : unbN N f < g0 := by rw [hg0]; exact hag
        have HG0 := hide hg0
        clear hg0
        go_wp2_with fail
        obtain ⟨wo, rfl⟩ : ∃ wo : World, wo = wr := ⟨_, rfl⟩
        go_loopg [6, 30] N (fun gm av iv wx => ∃ (i : Nat) (ag' : Bool) (f' : Nat → Bool), i ≤ N ∧ gm = N - i ∧ av = .bool ag' ∧ iv = .int .i64 i ∧ Hid (Burn N q (linkE es) x.d f' ∧ (ag' = false → f' = f ∧ ∀ v, v < i → f v = false → ¬ x.d v < inD N (linkE es) f v) ∧ (ag' = true → unbN N f' + 1 ≤ unbN N f)) ∧ Hid (BMem N w1.heap.size w.heap.size f' wx) ∧ Hid (Below w.heap.size w wx))
        case atStart => exact ⟨0, false, f, by omega, by omega, rfl, rfl, ⟨HU.out.1, fun _ => ⟨rfl, fun v hv => by omega⟩, fun h => by cases h⟩, HB, HL⟩
        case round =>
          clear d0
          obtain ⟨i, ag', f', hi, hgm, rfl, rfl, HU', HB', HL'⟩ := hrel
          have HGM := hide hgm
          clear hgm
          by_cases hlt : i < N
          · have hMr := HM.out.below HL'.out
            obtain ⟨_, _, _, d3, _, _⟩ := hMr.cells
            have e0 := hMr.dAt hlt
            have b0 := HB'.out.box.cell 0
            have g0 := HB'.out.at hlt
            have fz := HB'.out.row.free i
            simp only [List.getElem?_cons_zero] at b0
            have hi0 : (0 : Int) ≤ i := by omega
            have hi1 : (i : Int) < N := by omega
            have HMr := hide hMr
            clear hMr
            by_cases hf : f' i = true
            · have HU2 : Hid (Burn N q (linkE es) x.d f' ∧ (ag' = false → f' = f ∧ ∀ v, v < i + 1 → f v = false → ¬ x.d v < inD N (linkE es) f v) ∧ (ag' = true → unbN N f' + 1 ≤ unbN N f)) := by
                refine ⟨HU'.out.1, fun h => ⟨(HU'.out.2.1 h).1, fun v hv hfv => ?_⟩, HU'.out.2.2⟩
                by_cases e : v = i
                · rw [e, ← (HU'.out.2.1 h).1, hf] at hfv
                  cases hfv
                · exact (HU'.out.2.1 h).2 v (by omega) hfv
              rw [hf] at g0
              clear hf e0 d3 fz
              go_wp2_with fail
              go_quiet (fail)
              go_wp2_with fail
              go_roundg (N - (i + 1))
              case rel => exact ⟨i + 1, ag', f', by omega, rfl, by first | rfl | trivial, by go_num, HU2, HB'.out.below (below_drewN (Below.refl _ _) _), below_drewN HL'.out _⟩
              case measure => rw [HGM.out]; omega
            · have hf : f' i = false := by simpa using hf
              have HJ : Hid (∀ W, Below wr.heap.size wr W → Calls Tryz.prog 128 #[.pointer (some ⟨L.p, 0, none⟩), .int .i64 i, .func (.func 155) #[] #[.pointer (some ⟨w1.heap.size, 0, none⟩)]] W fun e w' => e = .returned (.int .i64 (inD N (linkE es) f' i)) ∧ Below W.heap.size W w') := fun W hW => by
                have := unb_joins (HMr.out.below hW) (HB'.out.below hW) hlt
                rw [jn_inD _ _ fun y hy => (hok.out.at_ y hy).1] at this
                exact this
              have hjb : 0 ≤ inD N (linkE es) f' i ∧ inD N (linkE es) f' i ≤ 50000 := by
                rw [← jn_inD (fun u => f' u) i fun y hy => (hok.out.at_ y hy).1]
                have h1 := jnS_bound hok.out (v := i) (fun u => f' u) (lnkL es i) (fun p hp => by obtain ⟨u, _, _, _, h⟩ := lnk_in hok.out hp; exact h)
                have h2 := lnk_len es (i : Int)
                have h3 := hok.out.len
                omega
              have HST : Hid (x.d i < inD N (linkE es) f' i → (Burn N q (linkE es) x.d (updW f' i true) ∧ (true = false → updW f' i true = f ∧ ∀ v, v < i + 1 → f v = false → ¬ x.d v < inD N (linkE es) f v) ∧ (true = true → unbN N (updW f' i true) + 1 ≤ unbN N f))) := fun hd => by
                refine ⟨HU'.out.1.step hG.out hlt hd, ⟨fun h => Bool.noConfusion h, fun _ => ?_⟩⟩
                have h1 := unbN_step hlt hf
                cases ag' with
                | true => have := HU'.out.2.2 rfl; omega
                | false => rw [← (HU'.out.2.1 rfl).1]; omega
              have HKP : Hid (¬ x.d i < inD N (linkE es) f' i → (Burn N q (linkE es) x.d f' ∧ (ag' = false → f' = f ∧ ∀ v, v < i + 1 → f v = false → ¬ x.d v < inD N (linkE es) f v) ∧ (ag' = true → unbN N f' + 1 ≤ unbN N f))) := fun hd => by
                refine ⟨HU'.out.1, fun h => ⟨(HU'.out.2.1 h).1, fun v hv hfv => ?_⟩, HU'.out.2.2⟩
                by_cases e : v = i
                · rw [e, ← (HU'.out.2.1 h).1]; exact hd
                · exact (HU'.out.2.1 h).2 v (by omega) hfv
              rw [hf] at g0
              clear hf
              generalize inD N (linkE es) f' i = J at *
              generalize hdi : x.d i = D at *
              clear hdi
              by_cases hd : D < J
              · have q1 : decide (D < J) = true := by simpa using hd
                have HU2 := hide (HST.out hd)
                clear hd HST HKP
                go_wp2_with fail
                go_region_held3 (fun w' => w'.cell? ⟨w1.heap.size, 0, none⟩ = some (.slice (some ⟨w.heap.size, 0, none⟩) N N) ∧ w'.cell? ⟨w.heap.size, i, none⟩ = some (.bool false) ∧ w'.cell? ⟨L.p, 3, none⟩ = some (.slice (some ⟨L.gd, 0, none⟩) N L.cd) ∧ w'.cell? ⟨L.gd, i, none⟩ = some (.int .i64 D)) (first | exact ⟨b0, g0, d3, e0⟩) (first
                  | (go_at_call 128; refine (HJ.out _ (Below.refl _ _)).mono ?_; rintro e w5 ⟨rfl, h5⟩; have b0 := (h5.cell (World.block_lt_of_cell? _ _ b0)).trans b0; have g0 := (h5.cell (World.block_lt_of_cell? _ _ g0)).trans g0; have d3 := (h5.cell (World.block_lt_of_cell? _ _ d3)).trans d3; have e0 := (h5.cell (World.block_lt_of_cell? _ _ e0)).trans e0; have HB5 := hide (HB'.out.below h5); have HL5 := hide (below_then HL'.out h5); have fz := HB5.out.row.free i)
                  | (go_at_call 128; refine (HJ.out _ (Below.refl _ _).drew).mono ?_; rintro e w5 ⟨rfl, h5⟩; have b0 := (h5.cell (World.block_lt_of_cell? _ _ b0)).trans b0; have g0 := (h5.cell (World.block_lt_of_cell? _ _ g0)).trans g0; have d3 := (h5.cell (World.block_lt_of_cell? _ _ d3)).trans d3; have e0 := (h5.cell (World.block_lt_of_cell? _ _ e0)).trans e0; have HB5 := hide (HB'.out.below ((Below.refl _ _).drew.trans h5)); have HL5 := hide (below_then HL'.out ((Below.refl _ _).drew.trans h5)); have fz := HB5.out.row.free i))
                all_goals
                  go_wp2_with fail
                  go_roundg (N - (i + 1))
                  case rel =>
                    have hlow : w.heap.size ≤ w.heap.size := Nat.le_refl _
                    exact ⟨i + 1, true, updW f' i true, by omega, rfl, by first | rfl | trivial, by go_num, ⟨HU2.out.1, HU2.out.2.1, fun _ => HU2.out.2.2 (by trivial)⟩, by first | exact HB5.out.put hlt true | exact (HB5.out.below (Below.refl _ _).drew).put hlt true, by first | exact HL5.out.setCell hlow _ | exact HL5.out.drew.setCell hlow _⟩
                  case measure => rw [HGM.out]; omega
              · have q1 : decide (D < J) = false := by simpa using hd
                have HU2 := hide (HKP.out hd)
                clear hd HST HKP
                go_wp2_with fail
                go_region_held3 (fun w' => w'.cell? ⟨w1.heap.size, 0, none⟩ = some (.slice (some ⟨w.heap.size, 0, none⟩) N N) ∧ w'.cell? ⟨w.heap.size, i, none⟩ = some (.bool false) ∧ w'.cell? ⟨L.p, 3, none⟩ = some (.slice (some ⟨L.gd, 0, none⟩) N L.cd) ∧ w'.cell? ⟨L.gd, i, none⟩ = some (.int .i64 D)) (first | exact ⟨b0, g0, d3, e0⟩) (first
                  | (go_at_call 128; refine (HJ.out _ (Below.refl _ _)).mono ?_; rintro e w5 ⟨rfl, h5⟩; have b0 := (h5.cell (World.block_lt_of_cell? _ _ b0)).trans b0; have g0 := (h5.cell (World.block_lt_of_cell? _ _ g0)).trans g0; have d3 := (h5.cell (World.block_lt_of_cell? _ _ d3)).trans d3; have e0 := (h5.cell (World.block_lt_of_cell? _ _ e0)).trans e0; have HB5 := hide (HB'.out.below h5); have HL5 := hide (below_then HL'.out h5); have fz := HB5.out.row.free i)
                  | (go_at_call 128; refine (HJ.out _ (Below.refl _ _).drew).mono ?_; rintro e w5 ⟨rfl, h5⟩; have b0 := (h5.cell (World.block_lt_of_cell? _ _ b0)).trans b0; have g0 := (h5.cell (World.block_lt_of_cell? _ _ g0)).trans g0; have d3 := (h5.cell (World.block_lt_of_cell? _ _ d3)).trans d3; have e0 := (h5.cell (World.block_lt_of_cell? _ _ e0)).trans e0; have HB5 := hide (HB'.out.below ((Below.refl _ _).drew.trans h5)); have HL5 := hide (below_then HL'.out ((Below.refl _ _).drew.trans h5)); have fz := HB5.out.row.free i))
                all_goals
                  go_wp2_with fail
                  go_roundg (N - (i + 1))
                  case rel =>
                    exact ⟨i + 1, ag', f', by omega, rfl, by first | rfl | trivial, by go_num, HU2, by first | exact HB5.out | exact (HB5.out.below (Below.refl _ _).drew), by first | exact HL5.out | exact HL5.out.drew⟩
                  case measure => rw [HGM.out]; omega
          · have hie : i = N := by omega
            have HU2 : Hid (Burn N q (linkE es) x.d f' ∧ (ag' = false → ∀ v, v < N → f' v = false → ¬ x.d v < inD N (linkE es) f' v)) := ⟨HU'.out.1, fun h => by
              have h1 := HU'.out.2.1 h
              rw [hie] at h1
              rw [h1.1]
              exact h1.2⟩
            have HU3 : Hid (ag' = true → unbN N f' < g0 - 1) := fun h => by have := HU'.out.2.2 h; omega
            have hgk : 1 ≤ g0 := by omega
            clear hie
            go_wp2_with fail
            go_roundg (g0 - 1)
            case rel => exact ⟨ag', f', by first | rfl | trivial, HU3.out, HU2, HB', HL'⟩
            case measure => rw [← HG0.out]; omega
end Go.Proofs.YtpgopmmobbemcaaGreat

set_option linter.unusedVariables false
namespace Go.Proofs.YtpgopmmobbemcaaGreat
open Go.RowKit

/-- The marks of ranges that are over. -/
def Marks (B : Nat) (ds : List Deferred) (w : World) : Prop := ∃ Ds : List Nat, ds = Ds.map (fun D => ({ target := .collected D, args := #[] } : Deferred)) ∧ Ds.Nodup ∧ ∀ D ∈ Ds, B ≤ D ∧ w.heap[D]? = some (.deferred (some []))
theorem Marks.nil (B : Nat) (w : World) : Marks B [] w := ⟨[], rfl, List.nodup_nil, fun _ h => by cases h⟩
theorem Marks.cons {B D : Nat} {ds : List Deferred} {w w' : World} (h : Marks B ds w) (hb : ∀ k, B ≤ k → k < w.heap.size → w'.heap[k]? = w.heap[k]?) (hD : w.heap.size ≤ D) (hB : B ≤ w.heap.size) (hk : w'.heap[D]? = some (.deferred (some []))) : Marks B ({ target := .collected D, args := #[] } :: ds) w' := by
  obtain ⟨Ds, rfl, h1, h2⟩ := h
  have hl : ∀ D' ∈ Ds, D' < w.heap.size := fun D' hD' => (Array.getElem?_eq_some_iff.1 (h2 D' hD').2).1
  refine ⟨D :: Ds, rfl, List.nodup_cons.2 ⟨fun hm => ?_, h1⟩, fun D' hD' => ?_⟩
  · have := hl D hm; omega
  · rcases List.mem_cons.1 hD' with rfl | hm
    · exact ⟨by omega, hk⟩
    · exact ⟨(h2 D' hm).1, (hb D' (h2 D' hm).1 (hl D' hm)).trans (h2 D' hm).2⟩
theorem Marks.keep {B : Nat} {ds : List Deferred} {w w' : World} (h : Marks B ds w) (hb : ∀ k, B ≤ k → w'.heap[k]? = w.heap[k]?) : Marks B ds w' := by
  obtain ⟨Ds, e, h1, h2⟩ := h
  exact ⟨Ds, e, h1, fun D' hD' => ⟨(h2 D' hD').1, (hb D' (h2 D' hD').1).trans (h2 D' hD').2⟩⟩
theorem Marks.below {B : Nat} {ds : List Deferred} {w w' : World} (h : Marks B ds w) (hb : Below w.heap.size w w') : Marks B ds w' := by
  obtain ⟨Ds, e, h1, h2⟩ := h
  exact ⟨Ds, e, h1, fun D' hD' => ⟨(h2 D' hD').1, (hb.block D' (Array.getElem?_eq_some_iff.1 (h2 D' hD').2).1).trans (h2 D' hD').2⟩⟩
/-- The function leaves over its marks. -/
theorem leaves_marks {F : Fence} {n : Nat} {P : Program} {fn : Func} {tmps : Array Value} {R : Ending → World → Prop} {B : Nat} : ∀ (Ds : List Nat) (w : World), Ds.Nodup → (∀ D ∈ Ds, B ≤ D ∧ w.heap[D]? = some (.deferred (some []))) →
    (∀ w' : World, Below B w w' → (∀ (k : Nat) (o : Obj), w.heap[k]? = some o → o.isCells = true → w'.heap[k]? = some o) → LeavesInM F n P fn tmps R [] .returning w') →
    LeavesInM F n P fn tmps R (Ds.map (fun D => ({ target := .collected D, args := #[] } : Deferred))) .returning w
  | [], w, _, _, hf => hf w (Below.refl _ _) fun _ _ h _ => h
  | D :: Ds, w, hn, hm, hf => by
    obtain ⟨h1, h2⟩ := List.nodup_cons.1 hn
    obtain ⟨hB, hD⟩ := hm D (List.mem_cons_self ..)
    refine ⟨by simp, .inl ⟨D, _, rfl, run_takeDeferred hD, ?_⟩⟩
    refine leaves_marks (B := B) Ds _ h2 (fun D' hD' => ?_) fun w' hb hc => hf w' ?_ fun k o hk ho => hc k o ?_ ho
    · have hne : D' ≠ D := fun e => h1 (e ▸ hD')
      exact ⟨(hm D' (List.mem_cons_of_mem _ hD')).1, (World.putObj_heap_other hne).trans (hm D' (List.mem_cons_of_mem _ hD')).2⟩
    · have h0 : Below B w (w.putObj D (.deferred none)) := ⟨rfl, rfl, rfl, by simp, fun k hk => World.putObj_heap_other (by omega)⟩
      exact h0.trans hb
    · refine (World.putObj_heap_other fun e => ?_).trans hk
      subst e
      rw [hD] at hk
      injection hk with hk
      subst hk
      cases ho

end Go.Proofs.YtpgopmmobbemcaaGreat

set_option linter.unusedVariables false
namespace Go.Proofs.YtpgopmmobbemcaaGreat
open Go.RowKit

section
variable {P : Program} {Q : Exit → Act → World → Prop} {r m : Nat}
theorem rows_round {row : String} {args : Array Value} {w : World} {R : Value → World → Prop} (h : Rows P row args w R) : RowsIn (Fence.wide.inRound r) m P row args w R := fun c cs _ => by
  obtain ⟨v, w', h1, h2⟩ := h c cs
  exact ⟨v, w', h1, stepsIn_wide.2 h2⟩
theorem op_round {o : Oper} {a : Act} {w : World} {K : Act → World → Prop} (hnd : ∀ c, o.op ≠ .defer c) (h : o.wp P a w K Q) : o.wpIn (Fence.wide.inRound r) m P a w K Q := by
  refine ⟨fun _ _ => trivial, ?_⟩
  rw [Oper.semAt_plain _ _ _ hnd]
  unfold Oper.wp at h
  have hd : (Fence.wide.inRound r).depth.isSome = true → 1 ≤ m := fun e => by cases e
  generalize (execOp a.eval o).run P w = z at h ⊢
  rcases z with ⟨x, w'⟩ | ⟨x, w'⟩
  · cases x with
    | value v => exact h
    | skip => exact h
    | defer d => exact h
    | enter f args =>
      exact ⟨hd, CallsIn.inRound r (callsIn_wide.2 h)⟩
    | row n args => exact ⟨hd, rows_round h⟩
    | _ => exact h.elim
  · cases x <;> first | exact h | exact h.elim
def noDefer (l : List Oper) : Bool := l.all fun o => match o.op with
  | .defer _ => false
  | _ => true
theorem noDefer_at {l : List Oper} (h : noDefer l = true) {j : Nat} {o : Oper} (ho : l.toArray[j]? = some o) : ∀ c, o.op ≠ .defer c := fun c hc => by
  have h1 := List.all_eq_true.1 h o (List.mem_of_getElem? (by simpa using ho))
  rw [hc] at h1
  cases h1
theorem any_round {l : List Oper} (hnd : noDefer l = true) (hout : ¬ LetsOut Q) {md : Region.Mode} : ∀ (fuel : Nat) (listed : Array Bool) (a : Act) (w : World), wpAny P md l.toArray Q fuel listed a w → wpAnyIn (Fence.wide.inRound r) m P md l.toArray Q fuel listed a w
  | 0, _, _, _, h => h
  | fuel + 1, listed, a, w, h => by
    refine ⟨h.1, fun i hi => ?_⟩
    have h1 := h.2 i hi
    unfold wpOp at h1
    unfold wpOpIn
    rcases ho : l.toArray[i]? with _ | o
    · rw [ho] at h1
      exact any_round hnd hout fuel _ _ _ h1
    · rw [ho] at h1
      simp only at h1 ⊢
      by_cases hw : Region.wanted o (yielded l.toArray a.tmps) = true
      · rw [if_pos hw] at h1 ⊢
        rcases h1 with h1 | h1
        · exact Oper.wpIn_mono (fun a w => any_round hnd hout fuel _ a w) (op_round (noDefer_at hnd ho) h1)
        · exact absurd h1.2 hout
      · rw [if_neg hw] at h1 ⊢
        exact ⟨fun _ _ => trivial, any_round hnd hout fuel _ _ _ h1⟩
/-- The operations but the last ones only read: walked once, in the order of the text. -/
theorem round_still {id : Nat} {a : Act} {w : World} {l : List Oper} (n : Nat) (hm : P.follows .mixedOrders = true) (hB : Region.lexTailB .any l.toArray n = true) (hnd : noDefer l = true) (hout : ¬ LetsOut Q)
    (h : wpStill P l.toArray w.drew (fun a' => wpList P l.toArray Q (l.drop n) a' w.drew) (l.take n) a) : (Code.region id l.toArray true).wpIn (Fence.wide.inRound r) m P Q a w := by
  refine wpIn_region_any hm (any_round hnd hout _ _ _ _ ?_)
  unfold Region.lexTailB at hB
  simp only [Bool.and_eq_true, decide_eq_true_eq] at hB
  have hn : n < l.length := by simpa using hB.1.1.1.2
  have e1 : (l.take n).length = n := by simp; omega
  have e2 : (l.drop n).length = l.length - n := List.length_drop
  have hI : HeadInv .any l.toArray n (Array.replicate l.toArray.size false) := ⟨by simp, fun _ _ _ hh => (by rw [getD_replicate_false] at hh; cases hh), fun t _ ht => getD_in (by simpa using ht) (getD_replicate_false _ _)⟩
  have hL := wpAnyL_lex (md := .any) (g := l.length - n) hB.1.1.1.1 hB.1.1.2 hB.1.2 (by simpa using hn) (l.take n) 0 (Array.replicate l.toArray.size false) a (fun j hj => by rw [e1] at hj; simp [hj]) (by simpa using e1) hI (by rw [e1]; simpa using hB.2) h
  have hT := wpAny_of_head (Q' := Q) (g := l.length - n) (fun listed a' hh => by
    have hs := wpAny_of_seq (md := .any) (Q' := Q) (l.drop n) n listed a' w.drew (fun j => by simp [List.getElem?_drop]) (by rw [e2]; exact hh.1) hh.2
    rw [e2] at hs
    exact hs) _ _ _ hL
  rw [e1, Nat.add_sub_cancel' (Nat.le_of_lt hn)] at hT
  simpa using hT
theorem list_round {ops : Array Oper} (hout : ¬ LetsOut Q) : ∀ (l : List Oper) (a : Act) (w : World), noDefer l = true → wpList P ops Q l a w → wpListIn (Fence.wide.inRound r) m P ops Q l a w
  | [], _, _, _, h => h
  | o :: rest, a, w, hnd, h => by
    have hn1 := noDefer_at hnd (j := 0) (o := o) (by simp)
    have hn2 : noDefer rest = true := by
      unfold noDefer at hnd ⊢
      rw [List.all_cons, Bool.and_eq_true] at hnd
      exact hnd.2
    unfold wpList at h
    unfold wpListIn
    by_cases hw : Region.wanted o (yielded ops a.tmps) = true
    · rw [if_pos hw] at h ⊢
      rcases h with h | h
      · exact Oper.wpIn_mono (fun a w => list_round hout rest a w hn2) (op_round hn1 h)
      · exact absurd h.2 hout
    · rw [if_neg hw] at h ⊢
      exact ⟨fun _ _ => trivial, list_round hout rest _ _ hn2 h⟩
/-- A region in the order of its text. -/
theorem round_list {id : Nat} {a : Act} {w : World} {l : List Oper} (hnd : noDefer l = true) (hout : ¬ LetsOut Q) (h : wpList P l.toArray Q l a w) : (Code.region id l.toArray false).wpIn (Fence.wide.inRound r) m P Q a w :=
  wpIn_region_lit (list_round hout l a w hnd h)
end
end Go.Proofs.YtpgopmmobbemcaaGreat

set_option linter.unusedVariables false
set_option linter.unusedSimpArgs false
namespace Go.Proofs.YtpgopmmobbemcaaGreat
open Go.RowKit

def linkStep (v : Nat) (t : Int) (d : Nat → Int) (p : Int × Int) : Nat → Int :=
  putF (putF d v (d v - p.2 * t)) p.1.toNat (putF d v (d v - p.2 * t) p.1.toNat + p.2 * t)
def linkAll (v : Nat) (t : Int) (d : Nat → Int) (l : List (Int × Int)) : Nat → Int := l.foldl (linkStep v t) d
theorem linkAll_snoc (v : Nat) (t : Int) (d : Nat → Int) (l : List (Int × Int)) (p : Int × Int) : linkAll v t d (l ++ [p]) = linkStep v t (linkAll v t d l) p := by unfold linkAll; rw [List.foldl_append]; rfl
theorem linkStep_at {v : Nat} {t : Int} {d : Nat → Int} {p : Int × Int} (h : p.1.toNat ≠ v) (w : Nat) : linkStep v t d p w = d w - (if w = v then t * p.2 else 0) + t * (if p.1.toNat = w then p.2 else 0) := by
  unfold linkStep
  have e : p.2 * t = t * p.2 := Int.mul_comm _ _
  by_cases h1 : w = p.1.toNat
  · subst h1
    rw [putF_at, putF_ne _ _ h, if_neg h, if_pos rfl, e]
    omega
  · have h1' : ¬ p.1.toNat = w := fun e => h1 e.symm
    rw [putF_ne _ _ h1, if_neg h1']
    by_cases h2 : w = v
    · subst h2
      rw [putF_at, if_pos rfl, e]
      omega
    · rw [putF_ne _ _ h2, if_neg h2]
      omega
theorem linkAll_at {v : Nat} {t : Int} (w : Nat) : ∀ (l : List (Int × Int)) (d : Nat → Int), (∀ p ∈ l, p.1.toNat ≠ v) → linkAll v t d l w = d w - (if w = v then t * jnS (fun _ => true) l else 0) + t * jnS (fun u => decide (u = w)) l
  | [], d, _ => by simp [linkAll, jnS]
  | p :: r, d, h => by
    have ih := linkAll_at (t := t) w r (linkStep v t d p) fun x hx => h x (by simp [hx])
    have e : linkAll v t d (p :: r) = linkAll v t (linkStep v t d p) r := rfl
    have e1 : jnS (fun _ => true) (p :: r) = p.2 + jnS (fun _ => true) r := by simp [jnS]
    have e2 : jnS (fun u => decide (u = w)) (p :: r) = (if p.1.toNat = w then p.2 else 0) + jnS (fun u => decide (u = w)) r := by simp [jnS]
    rw [e, ih, linkStep_at (h p (by simp)), e1, e2, Int.mul_add, Int.mul_add]
    split <;> omega
theorem linkStep_bound {v : Nat} {t : Int} {d : Nat → Int} {p : Int × Int} {b : Int} (h : p.1.toNat ≠ v) (hd : ∀ u, -b ≤ d u ∧ d u ≤ b) (ht : 0 ≤ t ∧ t ≤ 2097152) (hp : 1 ≤ p.2 ∧ p.2 ≤ 50) (u : Nat) : -(b + 104857600) ≤ linkStep v t d p u ∧ linkStep v t d p u ≤ b + 104857600 := by
  have h1 : 0 ≤ t * p.2 := Int.mul_nonneg ht.1 (by omega)
  have h2 : t * p.2 ≤ 2097152 * 50 := Int.le_trans (Int.mul_le_mul_of_nonneg_right ht.2 (by omega)) (Int.mul_le_mul_of_nonneg_left hp.2 (by omega))
  have h3 := hd u
  rw [linkStep_at h]
  by_cases e1 : u = v
  · rw [if_pos e1, if_neg (fun e2 => h (e2.trans e1))]
    omega
  · rw [if_neg e1]
    split
    · omega
    · omega
theorem linkAll_bound {N v : Nat} {t : Int} {d : Nat → Int} {b : Int} (ht : 0 ≤ t ∧ t ≤ 2097152) (hd : ∀ u, -b ≤ d u ∧ d u ≤ b) (l : List (LnkT N v)) : ∀ u, -(b + 104857600 * (l.length : Int)) ≤ linkAll v t d (lnkV l) u ∧ linkAll v t d (lnkV l) u ≤ b + 104857600 * (l.length : Int) := by
  have key : ∀ (r : List (LnkT N v)) (d : Nat → Int) (b : Int), (∀ u, -b ≤ d u ∧ d u ≤ b) → ∀ u, -(b + 104857600 * (r.length : Int)) ≤ linkAll v t d (lnkV r) u ∧ linkAll v t d (lnkV r) u ≤ b + 104857600 * (r.length : Int) := by
    intro r
    induction r with
    | nil => intro d b h u; have := h u; simp [linkAll, lnkV]; omega
    | cons p r ih =>
      intro d b h u
      obtain ⟨z, h1, h2, h3, h4⟩ := p.2
      have h5 := ih (linkStep v t d p.1) (b + 104857600) (linkStep_bound (by omega) h ht h4) u
      have e : linkAll v t d (lnkV (p :: r)) = linkAll v t (linkStep v t d p.1) (lnkV r) := rfl
      rw [e, List.length_cons]
      push_cast
      omega
  exact key l d b hd
/-- The chips when the first k vertices have been looked at. -/
def fireD (es : List Edg) (S : Nat → Bool) (t : Int) (d : Nat → Int) : Nat → Nat → Int
  | 0 => d
  | k + 1 => if S k then linkAll k t (fireD es S t d k) (lnkL es k) else fireD es S t d k
def fireS (S : Nat → Bool) (t : Int) (s : Nat → Int) (k : Nat) : Nat → Int := fun v => s v + if v < k ∧ S v = true then t else 0
section
variable {N : Nat} {es : List Edg} {S : Nat → Bool} {t : Int} {d : Nat → Int}
theorem fireD_at (h : EOk N es) {w : Nat} (hw : w < N) : ∀ k, k ≤ N → fireD es S t d k w = d w + sumI (fun v => if S v then t * linkE es w v - (if v = w then t * vlR N (linkE es) w else 0) else 0) k
  | 0, _ => by simp [fireD, sumI]
  | k + 1, hk => by
    have ih := fireD_at h hw k (by omega)
    have hGr : Gr N (linkE es) := linkE_gr fun y hy => by have := (h.at_ y hy).2; omega
    unfold fireD
    simp only [sumI]
    rcases hS : S k with _ | _
    · simp only [Bool.false_eq_true, if_false]
      rw [ih]
      omega
    · simp only [if_true]
      rw [linkAll_at w (lnkL es k) _ (fun p hp => by obtain ⟨u, h1, _, h2, _⟩ := lnk_in h hp; omega), ih]
      have hat := fun y hy => (h.at_ y hy).1
      rw [jn_inD (fun _ => true) k hat, jn_inD (fun u => decide (u = w)) k hat]
      have e1 : inD N (linkE es) (fun _ => true) k = vlR N (linkE es) k := by unfold inD vlR; exact sumI_eq fun u _ => if_pos rfl
      have e2 : inD N (linkE es) (fun u => decide (u = w)) k = linkE es w k := by
        unfold inD
        have h1 := sumI_one (f := fun u => if decide (u = w) then linkE es k u else 0) (g := fun _ => 0) hw (fun p hp hne => by simp [hne])
        rw [h1, sumI_zero, hGr.sym w k]
        simp
      rw [e1, e2]
      by_cases e : w = k
      · subst e
        rw [if_pos rfl]
        omega
      · rw [if_neg e, if_neg (fun e2 => e e2.symm)]
        omega
theorem fireN_all (h : EOk N es) {w : Nat} (hw : w < N) : fireD es S t d N w = d w + if S w then -(t * outD N (linkE es) S w) else t * inD N (linkE es) S w := by
  rw [fireD_at h hw N (Nat.le_refl _)]
  have hGr : Gr N (linkE es) := linkE_gr fun y hy => by have := (h.at_ y hy).2; omega
  have e1 : sumI (fun v => if S v then t * linkE es w v - (if v = w then t * vlR N (linkE es) w else 0) else 0) N = t * inD N (linkE es) S w + sumI (fun v => if v = w then (if S w then -(t * vlR N (linkE es) w) else 0) else 0) N := by
    unfold inD
    rw [← sumI_mul, ← sumI_add]
    refine sumI_eq fun v hv => ?_
    by_cases e : v = w
    · subst e
      cases S v <;> simp
      omega
    · simp only [e, if_false]
      cases S v <;> simp
  have e2 : sumI (fun v => if v = w then (if S w then -(t * vlR N (linkE es) w) else 0) else 0) N = if S w then -(t * vlR N (linkE es) w) else 0 := by
    have h1 := sumI_one (f := fun v => if v = w then (if S w then -(t * vlR N (linkE es) w) else 0) else 0) (g := fun _ => 0) hw (fun p hp hne => if_neg hne)
    rw [h1, sumI_zero, if_pos rfl]
    omega
  have e3 : vlR N (linkE es) w = inD N (linkE es) S w + outD N (linkE es) S w := by
    unfold vlR inD outD
    rw [← sumI_add]
    refine sumI_eq fun v _ => ?_
    cases S v <;> simp
  rw [e1, e2]
  rcases hS : S w with _ | _
  · simp
  · simp only [if_true]
    rw [e3, Int.mul_add]
    omega
theorem fire_app (h : EOk N es) {D s : Nat → Int} (hd : ∀ v, v < N → d v = app N (linkE es) D s v) {w : Nat} (hw : w < N) : fireD es S t d N w = app N (linkE es) D (fireF S t s) w := by
  rw [fireN_all h hw, app_fire, hd w hw]
theorem fireS_all {s : Nat → Int} {v : Nat} (hv : v < N) : fireS S t s N v = fireF S t s v := by
  unfold fireS fireF
  by_cases h : S v = true
  · rw [if_pos ⟨hv, h⟩, if_pos h]
  · rw [if_neg (fun hh => h hh.2), if_neg h]
theorem fireS_next (s : Nat → Int) (k : Nat) : fireS S t s (k + 1) = if S k then putF (fireS S t s k) k (fireS S t s k k + t) else fireS S t s k := by
  funext v
  rcases hS : S k with _ | _
  · simp only [Bool.false_eq_true, if_false]
    unfold fireS
    congr 1
    by_cases h : v < k ∧ S v = true
    · rw [if_pos h, if_pos ⟨by omega, h.2⟩]
    · rw [if_neg h, if_neg (fun hh => h ⟨by
        have : v ≠ k := fun e => by rw [e, hS] at hh; cases hh.2
        omega, hh.2⟩)]
  · simp only [if_true]
    by_cases e : v = k
    · subst e
      rw [putF_at]
      unfold fireS
      rw [if_pos ⟨by omega, hS⟩, if_neg (fun hh => by omega)]
      omega
    · rw [putF_ne _ _ e]
      unfold fireS
      congr 1
      by_cases h : v < k ∧ S v = true
      · rw [if_pos h, if_pos ⟨by omega, h.2⟩]
      · rw [if_neg h, if_neg (fun hh => h ⟨by omega, hh.2⟩)]
theorem fireS_zero (s : Nat → Int) : fireS S t s 0 = s := by
  funext v
  unfold fireS
  rw [if_neg (fun hh => by omega)]
  omega
end
end Go.Proofs.YtpgopmmobbemcaaGreat

set_option linter.unusedVariables false
set_option linter.unusedSimpArgs false
set_option linter.unnecessarySimpa false
namespace Go.Proofs.YtpgopmmobbemcaaGreat
open Go.RowKit Go.Shelf

attribute [local go_sem] Oper.semAt_some

/-- What firing leaves alone: all but the two rows. -/
def Fk (B : Nat) (L : RLay) (A W : World) : Prop := Below B A W ∧ ∀ k, k < A.heap.size → k ≠ L.gd → k ≠ L.gs → W.heap[k]? = A.heap[k]?
section
variable {B N q : Nat} {es : List Edg} {L : RLay} {x : RSt} {A W W' : World}
theorem Fk.refl (B : Nat) (L : RLay) (A : World) : Fk B L A A := ⟨Below.refl _ _, fun _ _ _ _ => rfl⟩
theorem Fk.trans (h : Fk B L A W) (k : Fk B L W W') : Fk B L A W' := ⟨h.1.trans k.1, fun j hj h1 h2 => (k.2 j (Nat.lt_of_lt_of_le hj h.1.size) h1 h2).trans (h.2 j hj h1 h2)⟩
theorem Fk.below (h : Fk B L A W) (hB : B ≤ W.heap.size) (k : Below W.heap.size W W') : Fk B L A W' := h.trans ⟨k.mono hB, fun j hj _ _ => k.block j hj⟩
theorem Fk.put (h : Fk B L A W) {g : Nat} (hg : g = L.gd ∨ g = L.gs) (hB : B ≤ g) (i : Nat) (z : Value) : Fk B L A (W.setCell ⟨g, i, none⟩ z) :=
  ⟨h.1.setCell hB _, fun j hj h1 h2 => (Below.heap_setCell W ⟨g, i, none⟩ z j (by rcases hg with e | e <;> (rw [e]; assumption))).trans (h.2 j hj h1 h2)⟩
theorem Fk.box {b : Nat} {cs : List Value} {t : TypeId} (h : Fk B L A W) (hb : Box A b cs t) (h1 : b ≠ L.gd) (h2 : b ≠ L.gs) : Box W b cs t := hb.keep (h.2 b hb.lt h1 h2)
/-- Within the links of a vertex: only the row of the chips changes. -/
def Fd (B g : Nat) (A W : World) : Prop := Below B A W ∧ ∀ k, k < A.heap.size → k ≠ g → W.heap[k]? = A.heap[k]?
theorem Fd.from {β : Type} {C g : Nat} {A : World} (hB : B ≤ A.heap.size) (hC : A.heap.size ≤ C) : OwnFrom C (fun (_ : β) W => Fd B g A W) := fun _ X Y row h hg hr => by
  refine ⟨ownFrom_below (β := Unit) hB (by omega) () X Y row h.1 hg hr, fun k h1 h2 => ?_⟩
  have h3 := h.2 k h1 h2
  have hl : k < X.heap.size := by
    rw [Array.getElem?_eq_getElem h1] at h3
    exact (Array.getElem?_eq_some_iff.1 h3).1
  rw [hg.block k hl (fun e => by have := (hr k e.symm).1; omega), h3]
theorem row1_own {β : Type} (g : Nat) (t : TypeId) (xs : β → List Int) (rest : List Value) : Own (fun s W => Row1 (Value.int .i64) W g t (xs s) rest) := fun s X Y row hs hg hr =>
  hs.keep (hg.block g hs.lt fun e => by
    obtain ⟨o, h1, h2⟩ := hr g e.symm
    have h3 := (show X.heap[g]? = _ from hs).symm.trans h1
    injection h3 with h3
    subst h3
    cases h2)
theorem RMem.fd (h : RMem B N q es L x A) (hF : Fd B L.gd A W) {d : Nat → Int} (hr : Row1 (Value.int .i64) W L.gd 3 (lst N d) L.rest) : RMem B N q es L { x with d := d } W :=
  ⟨h.box.keep (hF.2 _ h.box.lt h.pne.1), hr, h.rs.keep (hF.2 _ h.rs.lt h.ne.symm), h.edg.below hF.1, h.ne, h.low, h.num, h.ok⟩
end
theorem act_ex (T : Array Value) (ds : List Deferred) {X : (Nat → Value) → Act} {p : Prop} (hp : p) (h : ({ tmps := T, defers := ds } : Act) = X fun i => T.getD i undef) : ∃ u, p ∧ ({ tmps := T, defers := ds } : Act) = X u := ⟨_, hp, h⟩
def FirePost (B N q : Nat) (es : List Edg) (L : RLay) (x : RSt) (S : Nat → Bool) (t : Int) (w : World) (e : Ending) (w' : World) : Prop :=
  e = .returned (.tuple #[]) ∧ RMem B N q es L ⟨fireD es S t x.d N, fireS S t x.s N⟩ w' ∧ Fk B L w w'

def mx2 (x y : Int) : Int := if x < y then y else x
theorem mx2_eq (x y : Int) : mx2 x y = max x y := by unfold mx2; omega
theorem quiet_max4 {P : Program} {o : Oper} {a : Act} {C : World → Prop} {K : Act → Prop} (t1 t2 t3 t4 : Nat) (ats : Array TypeId) (x y z u : Int) (ho : o.op = .call { callee := .builtin .max, args := #[.tmp t1, .tmp t2, .tmp t3, .tmp t4], argTypes := ats })
    (h1 : a.tmps[t1]?.getD undef = .int .i64 x) (h2 : a.tmps[t2]?.getD undef = .int .i64 y) (h3 : a.tmps[t3]?.getD undef = .int .i64 z) (h4 : a.tmps[t4]?.getD undef = .int .i64 u) (hK : K (a.put o.dst (.int .i64 (mx2 (mx2 (mx2 x y) z) u)))) : o.quiet P a C K := by
  refine ⟨_, fun w _ => ?_, hK⟩
  unfold Oper.quietAt
  have e : (execOp a.eval o).run P w = .ok (.value (.int .i64 (mx2 (mx2 (mx2 x y) z) u))) w := by
    unfold execOp
    rw [ho]
    simp [go_sem, h1, h2, h3, h4, Builtin.max_, Builtin.max2, mx2]
    first | rfl | congr
  rw [e]
  exact ⟨rfl, rfl⟩
/-- The rounds of the first loop. -/
def FireI (B N q : Nat) (es : List Edg) (L : RLay) (x : RSt) (S : Nat → Bool) (t : Int) (gb : Nat) (w W1 : World) (a' : Act) (w' : World) : Prop :=
  ∃ (k : Nat) (ds : List Deferred), (k ≤ N ∧ Marks w.heap.size ds w' ∧ RMem B N q es L ⟨fireD es S t x.d k, fireS S t x.s k⟩ w' ∧ Fk B L W1 w' ∧ ∀ u, -(4194304 + 104857600 * (1000 * (k : Int))) ≤ fireD es S t x.d k u ∧ fireD es S t x.d k u ≤ 4194304 + 104857600 * (1000 * (k : Int))) ∧ ∃ u : Nat → Value, True ∧ a' = { tmps := #[.pointer (some ⟨L.p, 0, none⟩), .slice (some ⟨gb, 0, none⟩) N N, .int .i64 t, .pointer (some ⟨w.heap.size, 0, none⟩), undef, .pointer (some ⟨w.heap.size + 1, 0, none⟩), (u 6), (u 7), (u 8), (u 9), (u 10), .slice (some ⟨gb, 0, none⟩) N N, .int .i64 N, .int .i64 (k : Nat), (u 14), (u 15), (u 16), (u 17), (u 18), (u 19), (u 20), (u 21), (u 22), (u 23), (u 24), (u 25), (u 26), (u 27), (u 28), (u 29), (u 30), (u 31), (u 32), (u 33), (u 34), (u 35), (u 36), (u 37), (u 38), (u 39), (u 40), (u 41), (u 42), (u 43), (u 44), (u 45), (u 46), (u 47), (u 48), (u 49), (u 50), (u 51), (u 52), (u 53), (u 54), (u 55), (u 56), (u 57), (u 58), (u 59), (u 60), (u 61), (u 62), (u 63), (u 64), (u 65), (u 66), (u 67), (u 68), (u 69), (u 70), (u 71), (u 72), (u 73), (u 74), (u 75), (u 76), (u 77), (u 78), (u 79), (u 80), (u 81), (u 82), (u 83), (u 84), (u 85), (u 86), (u 87), (u 88), (u 89), (u 90), (u 91), (u 92), (u 93), (u 94), (u 95), (u 96), (u 97), (u 98), (u 99), (u 100), (u 101), (u 102), (u 103), (u 104), (u 105), (u 106), (u 107), (u 108), (u 109), (u 110)], defers := ds }
set_option maxRecDepth 100000 in
set_option maxHeartbeats 8000000 in
theorem rfire_any {B N q : Nat} {es : List Edg} {L : RLay} {x : RSt} {w : World} (hM : RMem B N q es L x w) {gb : Nat} {S : Nat → Bool} (hin : Row1 Value.bool w gb 4 ((List.range N).map S) []) {t : Int} (ht : 0 ≤ t ∧ t ≤ 2097152)
    (hd : Hid (∀ u, -4194304 ≤ x.d u ∧ x.d u ≤ 4194304)) (hs : Hid (∀ u, -4194304 ≤ x.s u ∧ x.s u ≤ 4194304)) (hd' : Hid (∀ u, u < N → -2097152 ≤ fireD es S t x.d N u ∧ fireD es S t x.d N u ≤ 2097152)) (hs' : Hid (∀ u, u < N → -2097152 ≤ fireS S t x.s N u ∧ fireS S t x.s N u ≤ 2097152)) :
    Calls Tryz.prog 126 #[.pointer (some ⟨L.p, 0, none⟩), .slice (some ⟨gb, 0, none⟩) N N, .int .i64 t] w (FirePost B N q es L x S t w) := by
  refine (callsIn_wide (n := 6)).1 ?_
  have h1 : 1 ≤ 6 := by omega
  have hsz := hM.size
  have hok := hide hM.ok
  have h12 := hM.num.1
  have hcd := hM.num.2.2
  have hge1 : gb ≠ L.gd := ne_type (show w.heap[gb]? = some (.cells _ 4 (0, 0)) from hin) (show w.heap[L.gd]? = some (.cells _ 3 (0, 0)) from hM.rd) (by decide)
  have hge2 : gb ≠ L.gs := ne_type (show w.heap[gb]? = some (.cells _ 4 (0, 0)) from hin) (show w.heap[L.gs]? = some (.cells _ 3 (0, 0)) from hM.rs) (by decide)
  have hgdl := hM.rd.lt
  have hgsl := hM.rs.lt
  have hpl := hM.box.lt
  have hlow := hM.low
  have HM := hide hM
  have HIN := hide hin
  obtain ⟨W1, hW1⟩ : ∃ W1, (w.alloc (.cells #[.pointer (some ⟨L.p, 0, none⟩)] 143)).alloc (.cells #[.int .i64 t] 3) = W1 := ⟨_, rfl⟩
  have hs1 : W1.heap.size = w.heap.size + 2 := by rw [← hW1]; simp
  have hb1 : Below w.heap.size w W1 := by rw [← hW1]; exact bnew (bnew (Below.refl _ _) _) _
  have bP : Boxed W1 w.heap.size 143 (.pointer (some ⟨L.p, 0, none⟩)) := by rw [← hW1]; exact (Boxed.new w _ _).alloc _
  have bT : Boxed W1 (w.heap.size + 1) 3 (.int .i64 t) := by
    rw [← hW1]
    have := Boxed.new (w.alloc (.cells #[.pointer (some ⟨L.p, 0, none⟩)] 143)) 3 (.int .i64 t)
    simpa using this
  have HIN1 := hide (hin.below hb1)
  have HBP := hide bP
  have HBT := hide bT
  have HM1 := hide (hM.below hb1)
  have HF1 : Hid (Fk B L w W1) := (Fk.refl B L w).below hsz hb1
  have HS1 := hide hs1
  clear hM hin bP bT hs1
  refine callsIn_of_wp_marks Tryz.func126 rfl trivial ?_ rfl
  simp only [Tryz.ntmps126, List.size_toArray, List.length_cons, List.length_nil, Nat.reduceAdd, Nat.reduceSub, Array.replicate_succ, Array.replicate_zero, List.push_toArray, List.append_toArray, List.nil_append, List.cons_append]
  refine wpIn_wide.2 ?_
  go_wp2_with fail
  clear hW1 hb1
  refine wp_loop (FireI B N q es L x S t gb w W1)
    (fun a' _ => N - (intOf (a'.tmps.getD 13 undef)).toNat) ?atStart ?round
  case atStart =>
    exact ⟨0, [], ⟨by omega, Marks.nil _ _, HM1.out.congr (fun _ _ => rfl) (fun v _ => by show x.s v = fireS S t x.s 0 v; rw [fireS_zero]), Fk.refl _ _ _, fun u => by have := hd.out u; show _ ≤ x.d u ∧ x.d u ≤ _; omega⟩, act_ex _ _ trivial rfl⟩
  case round =>
    rintro a' wr ⟨k, ds, ⟨hk, hMk, hMr, hFr, hbd⟩, u, _, rfl⟩
    have hszr := hFr.1.size
    have hszB := hMr.size
    have hBPr : Boxed wr w.heap.size 143 (.pointer (some ⟨L.p, 0, none⟩)) := (hFr.2 _ (by have := HS1.out; omega) (by omega) (by omega)).trans HBP.out
    have hBTr : Boxed wr (w.heap.size + 1) 3 (.int .i64 t) := (hFr.2 _ (by have := HS1.out; omega) (by omega) (by omega)).trans HBT.out
    have hINr : Row1 Value.bool wr gb 4 ((List.range N).map S) [] := HIN1.out.keep (hFr.2 gb HIN1.out.lt hge1 hge2)
    have HMK := hide hMk
    have HMR := hide hMr
    have HFR := hide hFr
    have HBD := hide hbd
    clear hMk hMr hFr hbd
    by_cases hlt : k < N
    · have g0 : wr.cell? ⟨gb, k, none⟩ = some (.bool (S k)) := hINr.cell (by rw [List.getElem?_map, List.getElem?_range hlt]; rfl)
      have hk0 : (0 : Int) ≤ k := by omega
      have hk1 : (k : Int) < N := by omega
      rcases hS : S k with _ | _
      · rw [hS] at g0
        have HD : Hid (fireD es S t x.d (k + 1) = fireD es S t x.d k) := by show _ = _; rw [fireD, hS]; rfl
        have HSS : Hid (fireS S t x.s (k + 1) = fireS S t x.s k) := by show _ = _; rw [fireS_next, hS]; rfl
        clear hS hBPr hBTr hINr
        go_wp2_with fail
        refine ⟨⟨k + 1, ds, ⟨by omega, HMK.out.below (bnew (Below.refl _ _) _), by rw [HD.out, HSS.out]; exact HMR.out.below (bnew (Below.refl _ _) _), HFR.out.below hszB (bnew (Below.refl _ _) _), fun z => ?_⟩, act_ex _ _ trivial rfl⟩, by simp [intOf]; omega⟩
        have := HBD.out z
        rw [HD.out]
        push_cast
        omega
      · rw [hS] at g0
        obtain ⟨W2, hW2⟩ : ∃ W2, wr.alloc (.cells #[.int .i64 (k : Int)] 3) = W2 := ⟨_, rfl⟩
        have hb2 : Below wr.heap.size wr W2 := by rw [← hW2]; exact bnew (Below.refl _ _) _
        have hs2 : W2.heap.size = wr.heap.size + 1 := by rw [← hW2]; simp
        have bV : Boxed W2 wr.heap.size 3 (.int .i64 k) := by rw [← hW2]; exact Boxed.new wr _ _
        have bP : Boxed W2 w.heap.size 143 (.pointer (some ⟨L.p, 0, none⟩)) := (hb2.block _ hBPr.lt).trans hBPr
        have bT : Boxed W2 (w.heap.size + 1) 3 (.int .i64 t) := (hb2.block _ hBTr.lt).trans hBTr
        have hM2 := HMR.out.below hb2
        obtain ⟨_, _, _, _, d4, _⟩ := hM2.cells
        have f4 := hM2.rs.free k
        have cV := bV.cell
        have cP := bP.cell
        have cT := bT.cell
        have hsb := hs.out k
        have HSK : Hid (fireS S t x.s k k = x.s k) := by show _ = _; unfold fireS; rw [if_neg (fun hh => by omega)]; omega
        have e4 : W2.cell? ⟨L.gs, k, none⟩ = some (.int .i64 (x.s k)) := by
          have h5 : W2.cell? ⟨L.gs, k, none⟩ = some (.int .i64 (fireS S t x.s k k)) := hM2.sAt hlt
          rw [HSK.out] at h5
          exact h5
        obtain ⟨sk, hsk⟩ : ∃ sk, sk = x.s k := ⟨_, rfl⟩
        rw [← hsk] at e4 hsb
        have HSKE := hide hsk
        have HS2 := hide hs2
        have HV := hide bV
        have HP := hide bP
        have HT := hide bT
        have HM2 := hide hM2
        have HB2 := hide hb2
        have HST := hide hS
        clear hS hBPr hBTr hINr hb2 hs2 bV bP bT hM2 hsk
        go_wp2_with fail
        clear hW2
        go_region
        all_goals
          obtain ⟨W3, hW3⟩ : ∃ W3, (W2.setCell ⟨L.gs, k, none⟩ (.int .i64 (sk + t))).drew = W3 := ⟨_, rfl⟩
          rw [hW3]
          have hlgs : W2.heap.size ≤ W3.heap.size := by rw [← hW3]; simp
          have hM3 : RMem B N q es L ⟨fireD es S t x.d k, fireS S t x.s (k + 1)⟩ W3 := by
            have h5 := (HM2.out.putS hlt (fireS S t x.s k k + t)).below (Below.refl _ _).drew
            rw [fireS_next, HST.out, ← hW3]
            rw [HSK.out, ← HSKE.out] at h5
            simp only [if_true]
            rw [HSK.out, ← HSKE.out]
            exact h5
          have hF3 : Fk B L W1 W3 := by
            have h5 := ((HFR.out.below hszB HB2.out).put (.inr rfl) hlow.2.2 k (.int .i64 (sk + t)))
            have h6 := h5.below (by have := HB2.out.size; simp; omega) (Below.refl _ _).drew
            rw [hW3] at h6
            exact h6
          have hF23 : Fk B L W2 W3 := by
            have h5 := ((Fk.refl B L W2).put (.inr rfl) hlow.2.2 k (.int .i64 (sk + t)))
            have h6 := h5.below (by have := HB2.out.size; simp; omega) (Below.refl _ _).drew
            rw [hW3] at h6
            exact h6
          have hs2 := HS2.out
          have hs1 := HS1.out
          have hne1 : wr.heap.size ≠ L.gd ∧ wr.heap.size ≠ L.gs := by omega
          have bV3 : Boxed W3 wr.heap.size 3 (.int .i64 k) := (hF23.2 wr.heap.size (by omega) hne1.1 hne1.2).trans HV.out
          have bP3 : Boxed W3 w.heap.size 143 (.pointer (some ⟨L.p, 0, none⟩)) := (hF23.2 w.heap.size (by omega) (by omega) (by omega)).trans HP.out
          have bT3 : Boxed W3 (w.heap.size + 1) 3 (.int .i64 t) := (hF23.2 (w.heap.size + 1) (by have := HS1.out; omega) (by omega) (by omega)).trans HT.out
          have HX3 := hide (And.intro bP3 (And.intro bT3 (And.intro bV3 (And.intro hM3 (And.intro hF3 hF23)))))
          have cV3 := bV3.cell
          have cP3 := bP3.cell
          clear hW3 cV cP cT d4 e4 f4 bV3 bP3 bT3 hM3 hF3 hF23 g0
          have HL3 := hide (links_any L.p (k : Int) W3)
          clear hs2 hs1
          go_wp2_with (go_at_call 154; refine HL3.out.mono ?_; rintro e w5 ⟨rfl, rfl⟩)
          obtain ⟨hP3, hT3, hV3, hM3, hF3, hF23⟩ := HX3.out
          obtain ⟨W4, hW4⟩ : ∃ W4, (W3.alloc (.cells #[.pointer (some ⟨L.p, 0, none⟩)] 143)).alloc (.cells #[.int .i64 (k : Int)] 3) = W4 := ⟨_, rfl⟩
          have hs4 : W4.heap.size = W3.heap.size + 2 := by rw [← hW4]; simp
          have hb4 : Below W3.heap.size W3 W4 := by rw [← hW4]; exact bnew (bnew (Below.refl _ _) _) _
          have bX4 : Boxed W4 W3.heap.size 143 (.pointer (some ⟨L.p, 0, none⟩)) := by rw [← hW4]; exact (Boxed.new W3 _ _).alloc _
          have bV4 : Boxed W4 (W3.heap.size + 1) 3 (.int .i64 k) := by
            rw [← hW4]
            have := Boxed.new (W3.alloc (.cells #[.pointer (some ⟨L.p, 0, none⟩)] 143)) 3 (.int .i64 (k : Int))
            simpa using this
          have hP4 : Boxed W4 w.heap.size 143 (.pointer (some ⟨L.p, 0, none⟩)) := (hb4.block _ hP3.lt).trans hP3
          have hT4 : Boxed W4 (w.heap.size + 1) 3 (.int .i64 t) := (hb4.block _ hT3.lt).trans hT3
          have hV4 : Boxed W4 wr.heap.size 3 (.int .i64 k) := (hb4.block _ hV3.lt).trans hV3
          have hM4 := hM3.below hb4
          have hB4 := hM4.size
          have hF4 : Fk B L W1 W4 := hF3.below hM3.size hb4
          have hz23 := hF23.1.size
          obtain ⟨_, c1, _, _, _, _⟩ := hM4.cells
          have HFW : Hid (Fk B L wr W4) := (((Fk.refl B L wr).below hszB HB2.out).trans hF23).below hM3.size hb4
          rw [hW4]
          clear hW4 hb4
          refine (wpIn_wide (n := 6)).1 (wpIn_rangeFunc_ownF rfl h1 (gf := 165) (lb := #[.pointer (some ⟨W3.heap.size, 0, none⟩), .pointer (some ⟨W3.heap.size + 1, 0, none⟩)]) rfl trivial (enters_of Tryz.func165 (by kernel_rfl) rfl)
            (links_stops Go.Fence.wide (6 - 1) trivial rfl (by omega) W3.heap.size (W3.heap.size + 1) L.p B N k L.c L.oe es hok hlt (by omega) W4 hB4 bX4.cell bV4.cell c1 hM4.edg)
            KpL.t (KpL.b hB4 (by intro g hg; simp at hg; omega)) (Below.refl _ _) (fun _ => rfl)
            (fun pre W => Row1 (Value.int .i64) W L.gd 3 (lst N (linkAll k t (fireD es S t x.d k) (lnkV pre))) L.rest ∧ Fd B L.gd W4 W)
            (fun _ _ _ => False)
            (OwnFrom.and (Own.from (row1_own _ _ _ _) _) (Fd.from hB4 (Nat.le_refl _)))
            (fun _ _ _ _ _ hs _ _ => hs)
            ⟨hM4.rd, Below.refl _ _, fun _ _ _ => rfl⟩
            (fun p => { tmps := #[.pointer (some ⟨L.p, 0, none⟩), .slice (some ⟨gb, 0, none⟩) N N, .int .i64 t, .pointer (some ⟨w.heap.size, 0, none⟩), undef, .pointer (some ⟨w.heap.size + 1, 0, none⟩), .pointer (some ⟨wr.heap.size, 0, none⟩), .bool true, .int .i64 p.1.1, .int .i64 p.1.2, (u 10), .slice (some ⟨gb, 0, none⟩) N N, .int .i64 N, .int .i64 (k : Int), .bool true, .int .i64 (k : Int), .pointer (some ⟨gb, k, none⟩), .bool true, .bool true, .bool false, .pointer (some ⟨L.p, 0, none⟩), .pointer (some ⟨L.p, 0, none⟩), .pointer (some ⟨L.p, 4, none⟩), .slice (some ⟨L.gs, 0, none⟩) N N, .int .i64 (k : Int), .pointer (some ⟨L.gs, k, none⟩), .int .i64 sk, .int .i64 t, .int .i64 (sk + t), .pointer (some ⟨L.gs, k, none⟩), .pointer (some ⟨L.p, 0, none⟩), .int .i64 (k : Int), .func (.func 165) #[] #[.pointer (some ⟨W3.heap.size, 0, none⟩), .pointer (some ⟨W3.heap.size + 1, 0, none⟩)], .int .i64 p.1.1, .int .i64 p.1.2, (u 35), (u 36), (u 37), (u 38), (u 39), (u 40), (u 41), (u 42), (u 43), (u 44), (u 45), (u 46), (u 47), (u 48), (u 49), (u 50), (u 51), (u 52), (u 53), (u 54), (u 55), (u 56), (u 57), (u 58), (u 59), (u 60), (u 61), (u 62), (u 63), (u 64), (u 65), (u 66), (u 67), (u 68), (u 69), (u 70), (u 71), (u 72), (u 73), (u 74), (u 75), (u 76), (u 77), (u 78), (u 79), (u 80), (u 81), (u 82), (u 83), (u 84), (u 85), (u 86), (u 87), (u 88), (u 89), (u 90), (u 91), (u 92), (u 93), (u 94), (u 95), (u 96), (u 97), (u 98), (u 99), (u 100), (u 101), (u 102), (u 103), (u 104), (u 105), (u 106), (u 107), (u 108), (u 109), (u 110)], defers := [] }) ?assign ?body ?done ?stop)
          case assign =>
            intro l p W K hK
            simp only [lEnc]
            gi_wp2
            exact hK
          case body =>
            rintro l pre ⟨⟨u0, m⟩, z, e0, hz, hne, hm⟩ W ⟨hrow, hFd⟩ hlen
            have e0 : u0 = z := e0
            subst e0
            simp only at hm
            have hMW := hM4.fd hFd hrow
            obtain ⟨_, _, _, d3, _, _⟩ := hMW.cells
            have hs1 := HS1.out
            have hPW : Boxed W w.heap.size 143 (.pointer (some ⟨L.p, 0, none⟩)) := (hFd.2 w.heap.size hP4.lt (by omega)).trans hP4
            have hTW : Boxed W (w.heap.size + 1) 3 (.int .i64 t) := (hFd.2 (w.heap.size + 1) hT4.lt (by omega)).trans hT4
            have hVW : Boxed W wr.heap.size 3 (.int .i64 k) := (hFd.2 wr.heap.size hV4.lt (by omega)).trans hV4
            have cP := hPW.cell
            have cT := hTW.cell
            have cV := hVW.cell
            obtain ⟨D, hD⟩ : ∃ D, D = linkAll k t (fireD es S t x.d k) (lnkV pre) := ⟨_, rfl⟩
            have hbD : ∀ u, -(4194304 + 104857600 * (1000 * (k : Int)) + 104857600 * pre.length) ≤ D u ∧ D u ≤ 4194304 + 104857600 * (1000 * (k : Int)) + 104857600 * pre.length := by
              rw [hD]
              exact linkAll_bound ht HBD.out pre
            have hll := lnk_len es (k : Int)
            have hes := hok.out.len
            have hbk := hbD k
            have hbz := hbD z
            rw [← hD] at hrow hMW
            have e1 : W.cell? ⟨L.gd, k, none⟩ = some (.int .i64 (D k)) := hMW.dAt hlt
            have f1 := hMW.rd.free k
            have e2 : W.cell? ⟨L.gd, z, none⟩ = some (.int .i64 (D z)) := hMW.dAt hz
            have hz0 : (0 : Int) ≤ z := by omega
            have hz1 : (z : Int) < N := by omega
            obtain ⟨mt, hmt⟩ : ∃ mt, mt = m * t := ⟨_, rfl⟩
            have hmtb : 0 ≤ mt ∧ mt ≤ 104857600 := by
              rw [hmt]
              have h5 := Int.mul_nonneg (show 0 ≤ m by omega) ht.1
              have h6 := Int.mul_le_mul hm.2 ht.2 ht.1 (by omega)
              omega
            obtain ⟨W5, hW5⟩ : ∃ W5, (W.setCell ⟨L.gd, k, none⟩ (.int .i64 (D k - mt))).drew = W5 := ⟨_, rfl⟩
            have hM5 : RMem B N q es L { d := putF D k (D k - mt), s := fireS S t x.s (k + 1) } W5 := by
              rw [← hW5]
              exact (hMW.putD hlt (D k - mt)).below (Below.refl _ _).drew
            have hFd5 : Fd B L.gd W4 W5 := by
              rw [← hW5]
              exact ⟨(hFd.1.setCell hlow.2.1 _).drew, fun j hj hjg => (Below.heap_setCell W ⟨L.gd, k, none⟩ _ j hjg).trans (hFd.2 j hj hjg)⟩
            have hkk : (fun j => j) k ≠ z := fun e => hne e.symm
            obtain ⟨_, _, _, d35, _, _⟩ := hM5.cells
            have cP5 : W5.cell? ⟨w.heap.size, 0, none⟩ = some (.pointer (some ⟨L.p, 0, none⟩)) := Boxed.cell (t := 143) ((hFd5.2 w.heap.size hP4.lt (by omega)).trans hP4)
            have cT5 : W5.cell? ⟨w.heap.size + 1, 0, none⟩ = some (.int .i64 t) := Boxed.cell (t := 3) ((hFd5.2 (w.heap.size + 1) hT4.lt (by omega)).trans hT4)
            have e25 : W5.cell? ⟨L.gd, z, none⟩ = some (.int .i64 (D z)) := by
              have h5 : W5.cell? ⟨L.gd, z, none⟩ = some (.int .i64 (putF D k (D k - mt) z)) := hM5.dAt hz
              rw [putF_ne _ _ hne] at h5
              exact h5
            have f25 := hM5.rd.free z
            have HMT := hide hmt
            have HD := hide hD
            have hWW5 : Below B W W5 := by rw [← hW5]; exact ((Below.refl B W).setCell hlow.2.1 _).drew
            have hn5 : ∀ j, j ≠ L.gd → W5.heap[j]? = W.heap[j]? := fun j hj => by rw [← hW5]; exact Below.heap_setCell W ⟨L.gd, k, none⟩ _ j hj
            have HXB := hide (And.intro hM5 (And.intro hFd5 (And.intro hWW5 hn5)))
            have HKO : Hid (KeepsOthers W W5) := by rw [← hW5]; exact ⟨(KeepsOthers.setCell _ _ _).size, (KeepsOthers.setCell W ⟨L.gd, k, none⟩ (.int .i64 (D k - mt))).same⟩
            have HROW := hide hrow
            have HLV := hide (linkAll_snoc k t (fireD es S t x.d k) (lnkV pre) ((z : Int), m))
            have hq5 : m * t = mt := hmt.symm
            clear hWW5 hn5 hM5 hFd5 hFd hrow hMW hPW hTW hVW hbD hkk hmt hD hs1
            generalize hdk : D k = dk at *
            generalize hdz : D z = dz at *
            have HDK := hide hdk
            have HDZ := hide hdz
            clear hdk hdz
            gi_wp2
            refine round_still 12 (by kernel_rfl) (by kernel_rfl) (by kernel_rfl) (by rintro ⟨_, _, h⟩; exact h) ?_
            simp only [List.take_succ_cons, List.take_zero, List.drop_succ_cons, List.drop_zero]
            repeat still_step
            refine wpStill_nil ?_
            change wpList _ _ _ _ _ W.drew
            go_wp2_with fail
            rw [hW5]
            clear e1 f1 e2 hW5 d3 cP cT cV
            refine round_still 12 (by kernel_rfl) (by kernel_rfl) (by kernel_rfl) (by rintro ⟨_, _, h⟩; exact h) ?_
            simp only [List.take_succ_cons, List.take_zero, List.drop_succ_cons, List.drop_zero]
            repeat still_step
            refine wpStill_nil ?_
            change wpList _ _ _ _ _ W5.drew
            go_wp2_with fail
            obtain ⟨hM5, hFd5, hWW5, hn5⟩ := HXB.out
            have hKO2 : KeepsOthers W (W5.setCell ⟨L.gd, z, none⟩ (.int .i64 (dz + mt))).drew := HKO.out.trans ⟨(KeepsOthers.setCell _ _ _).size, (KeepsOthers.setCell W5 ⟨L.gd, z, none⟩ (.int .i64 (dz + mt))).same⟩
            have hFd6 : Fd B L.gd W4 (W5.setCell ⟨L.gd, z, none⟩ (.int .i64 (dz + mt))).drew := ⟨(hFd5.1.setCell hlow.2.1 _).drew, fun j hj hjg => (Below.heap_setCell W5 ⟨L.gd, z, none⟩ _ j hjg).trans (hFd5.2 j hj hjg)⟩
            refine ⟨hKO2, ⟨?_, fun g hg => ?_⟩, ?_, hFd6⟩
            · exact (hWW5.setCell hlow.2.1 _).drew
            · have hg5 : g = W3.heap.size + 1 := by simpa using hg
              have hs1 := HS1.out
              have hs2 := HS2.out
              exact (Below.heap_setCell W5 ⟨L.gd, z, none⟩ _ g (by show g ≠ L.gd; omega)).trans (hn5 g (by omega))
            · have h5 := ((hM5.putD hz (dz + mt)).below (Below.refl _ _).drew).rd
              have h6 : linkAll k t (fireD es S t x.d k) (lnkV (pre ++ [⟨((z : Int), m), ⟨z, rfl, hz, hne, hm⟩⟩])) = putF (putF D k (dk - mt)) z (dz + mt) := by
                rw [lnkV_snoc, HLV.out, ← HD.out]
                unfold linkStep
                simp only [Int.toNat_natCast]
                rw [putF_ne _ _ hne, HDK.out, HDZ.out, HMT.out]
              rw [h6]
              exact h5
          case done =>
            rintro D ys W hDl hys ⟨hrow, hFd⟩ hK
            rw [hys] at hrow
            have hs1 := HS1.out
            have hMW := hM4.fd hFd hrow
            have hmk : Marks w.heap.size ({ target := .collected D, args := #[] } :: ds) W := HMK.out.cons (fun j hj1 hj2 => (hFd.2 j (Nat.lt_of_lt_of_le hj2 HFW.out.1.size) (by omega)).trans (HFW.out.2 j hj2 (by omega) (by omega))) (Nat.le_trans HFW.out.1.size hDl) (by omega) hK
            have hF5 : Fk B L W1 W := hF4.trans ⟨hFd.1, fun j hj h5 _ => hFd.2 j hj h5⟩
            have HD1 : Hid (linkAll k t (fireD es S t x.d k) (lnkL es k) = fireD es S t x.d (k + 1)) := by show _ = _; rw [fireD, HST.out]; rfl
            have hbn : ∀ z, -(4194304 + 104857600 * (1000 * ((k + 1 : Nat) : Int))) ≤ fireD es S t x.d (k + 1) z ∧ fireD es S t x.d (k + 1) z ≤ 4194304 + 104857600 * (1000 * ((k + 1 : Nat) : Int)) := fun z => by
              have h5 := linkAll_bound ht HBD.out ys z
              rw [hys, HD1.out] at h5
              have h6 := congrArg List.length hys
              have h7 := lnk_len es (k : Int)
              have h8 := hok.out.len
              unfold lnkV at h6
              rw [List.length_map] at h6
              push_cast
              omega
            rw [HD1.out] at hMW
            have HEND := hide (And.intro hmk (And.intro hMW (And.intro hF5 hbn)))
            clear hrow hFd hMW hmk hF5 hbn hK hM4 hF4 c1 bX4 bV4 hP4 hT4 hV4 hM3 hF3 hF23 hP3 hT3 hV3 hs1
            go_wp2_with fail
            refine ⟨⟨k + 1, _, ⟨by omega, HEND.out.1, HEND.out.2.1, HEND.out.2.2.1, HEND.out.2.2.2⟩, act_ex _ _ trivial rfl⟩, by simp [intOf]; omega⟩
          case stop =>
            rintro D c pre W _ _ h _
            exact h.elim
    · have hke : k = N := by omega
      subst hke
      obtain ⟨_, _, _, d3, _, _⟩ := HMR.out.cells
      have cP := hBPr.cell
      have HBW := hide hBPr
      clear hBPr hBTr hINr hlt
      go_wp2_with fail
      clear d3 cP
      go_loopg [10, 65] k (fun gm _ iv wx => ∃ i : Nat, i ≤ k ∧ gm = k - i ∧ iv = .int .i64 i ∧ Hid (Below wr.heap.size wr wx))
      case atStart => exact ⟨0, by omega, by omega, rfl, Below.refl _ _⟩
      case round =>
        obtain ⟨i, hi, hgm, rfl, HB⟩ := hrel
        have HGM := hide hgm
        clear hgm
        by_cases hlt : i < k
        · have hMx := HMR.out.below HB.out
          obtain ⟨_, _, _, d3, d4, d5⟩ := hMx.cells
          have e0 : wr.cell? ⟨L.gd, i, none⟩ = some (.int .i64 (fireD es S t x.d k i)) := hMx.dAt hlt
          have s0 : wr.cell? ⟨L.gs, i, none⟩ = some (.int .i64 (fireS S t x.s k i)) := hMx.sAt hlt
          have hx1 := hd'.out i hlt
          have hx2 := hs'.out i hlt
          have hi0 : (0 : Int) ≤ i := by omega
          have hi1 : (i : Int) < k := by omega
          have cP : wr.cell? ⟨w.heap.size, 0, none⟩ = some (.pointer (some ⟨L.p, 0, none⟩)) := Boxed.cell (t := 143) ((HB.out.block _ HBW.out.lt).trans HBW.out)
          clear hMx
          generalize fireD es S t x.d k i = dv at *
          generalize fireS S t x.s k i = sv at *
          go_wp2_with fail
          have hmx : mx2 (mx2 (mx2 dv (-dv)) sv) (-sv) ≤ 2097152 := by simp only [mx2_eq]; omega
          generalize hME : mx2 (mx2 (mx2 dv (-dv)) sv) (-sv) = M at hmx
          have HME := hide hME
          clear hME
          have m4 : decide ((2097152 : Int) < M) = false := by simp; omega
          refine wp_region_quiet_lit (by kernel_rfl) (by kernel_rfl) ?_
          repeat (go_big_quiet_step (fail))
          go_big_quiet_want
          refine quiet_max4 74 82 89 97 _ dv (-dv) sv (-sv) rfl rfl rfl rfl rfl ?_
          rw [HME.out]
          simp only [Act.put, List.setIfInBounds_toArray, List.set_cons_zero, List.set_cons_succ]
          go_big_quiet_on
          repeat (go_big_quiet_step (fail))
          refine wpQuiet_nil ?_
          rintro w' ⟨nq, rfl⟩
          clear cP d3 d4 d5 e0 s0 m4
          go_wp2_with fail
          go_roundg (k - (i + 1))
          case rel => exact ⟨i + 1, by omega, rfl, by go_num, below_drewN HB.out nq⟩
          case measure => rw [HGM.out]; omega
        · have hke : i = k := by omega
          subst hke
          have HMX := hide (HMR.out.below HB.out)
          clear hlt
          go_wp2_with fail
          obtain ⟨Ds, rfl, hnd, hDs⟩ := HMK.out.below HB.out
          refine leaves_marks (B := w.heap.size) Ds wr hnd hDs fun w' hb' hc' => ?_
          refine ⟨_, results_none rfl _ _ _, rfl, ?_, ?_⟩
          · have hM := HMX.out
            exact ⟨hc' _ _ hM.box rfl, hc' _ _ hM.rd rfl, hc' _ _ hM.rs rfl, hM.edg.below (hb'.mono hsz), hM.ne, hM.low, hM.num, hM.ok⟩
          · have hF := HF1.out.trans (HFR.out.below hszB HB.out)
            exact ⟨hF.1.trans (hb'.mono hsz), fun j hj h5 h6 => (hb'.block j hj).trans (hF.2 j hj h5 h6)⟩
end Go.Proofs.YtpgopmmobbemcaaGreat

set_option linter.unusedVariables false
set_option linter.unusedSimpArgs false
namespace Go.Proofs.YtpgopmmobbemcaaGreat
open Go.RowKit

def magI (k : Int) : Int := max k (-k)
/-- The number of moves of a script. -/
def costS : List Int → Int
  | [] => 0
  | k :: r => magI k + costS r
def raisedS (s : List Int) (k : Int) : List Int := s.map fun x => x + k
/-- The cheapest script, as the reference finds it: behind some numbers, the best one and what was added. -/
def cheapStep (s : List Int) (b : Option (Int × List Int)) (k : Int) : Option (Int × List Int) :=
  match b with
  | none => some (-k, raisedS s (-k))
  | some (a, x) => if costS (raisedS s (-k)) < costS x ∨ costS (raisedS s (-k)) = costS x ∧ -k < a then some (-k, raisedS s (-k)) else some (a, x)
def cheapS (s : List Int) : List Int :=
  match s.foldl (cheapStep s) none with
  | none => s
  | some (_, x) => x
def cntLe (m : Int) (s : List Int) : Nat := s.countP fun x => decide (x ≤ m)
def cntLt (m : Int) (s : List Int) : Nat := s.countP fun x => decide (x < m)

theorem cost_up {m c : Int} (h : m ≤ c) : ∀ s : List Int, costS (raisedS s (-m)) + (c - m) * (2 * (cntLe m s : Int) - s.length) ≤ costS (raisedS s (-c))
  | [] => by simp [raisedS, costS, cntLe]
  | x :: r => by
    have ih := cost_up h r
    simp only [raisedS, List.map_cons, costS, cntLe, List.countP_cons, List.length_cons] at ih ⊢
    by_cases hx : x ≤ m
    · have e : (if decide (x ≤ m) = true then 1 else 0) = 1 := by simp [hx]
      rw [e]
      have h1 : magI (x + -m) + (c - m) ≤ magI (x + -c) := by unfold magI; omega
      have h2 : (c - m) * (2 * ((List.countP (fun x => decide (x ≤ m)) r + 1 : Nat) : Int) - ((r.length + 1 : Nat) : Int)) = (c - m) * (2 * (List.countP (fun x => decide (x ≤ m)) r : Int) - r.length) + (c - m) := by
        push_cast
        rw [show (2 * ((List.countP (fun x => decide (x ≤ m)) r : Int) + 1) - ((r.length : Int) + 1)) = (2 * (List.countP (fun x => decide (x ≤ m)) r : Int) - r.length) + 1 by omega, Int.mul_add, Int.mul_one]
      rw [h2]
      omega
    · have e : (if decide (x ≤ m) = true then 1 else 0) = 0 := by simp [hx]
      rw [e]
      have h1 : magI (x + -m) - (c - m) ≤ magI (x + -c) := by unfold magI; omega
      have h2 : (c - m) * (2 * ((List.countP (fun x => decide (x ≤ m)) r + 0 : Nat) : Int) - ((r.length + 1 : Nat) : Int)) = (c - m) * (2 * (List.countP (fun x => decide (x ≤ m)) r : Int) - r.length) - (c - m) := by
        push_cast
        rw [show (2 * ((List.countP (fun x => decide (x ≤ m)) r : Int) + 0) - ((r.length : Int) + 1)) = (2 * (List.countP (fun x => decide (x ≤ m)) r : Int) - r.length) - 1 by omega, Int.mul_sub, Int.mul_one]
      rw [h2]
      omega
theorem cost_down {m c : Int} (h : c ≤ m) : ∀ s : List Int, costS (raisedS s (-m)) + (m - c) * ((s.length : Int) - 2 * (cntLt m s : Int)) ≤ costS (raisedS s (-c))
  | [] => by simp [raisedS, costS, cntLt]
  | x :: r => by
    have ih := cost_down h r
    simp only [raisedS, List.map_cons, costS, cntLt, List.countP_cons, List.length_cons] at ih ⊢
    by_cases hx : x < m
    · have e : (if decide (x < m) = true then 1 else 0) = 1 := by simp [hx]
      rw [e]
      have h1 : magI (x + -m) - (m - c) ≤ magI (x + -c) := by unfold magI; omega
      have h2 : (m - c) * (((r.length + 1 : Nat) : Int) - 2 * ((List.countP (fun x => decide (x < m)) r + 1 : Nat) : Int)) = (m - c) * ((r.length : Int) - 2 * (List.countP (fun x => decide (x < m)) r : Int)) - (m - c) := by
        push_cast
        rw [show (((r.length : Int) + 1) - 2 * ((List.countP (fun x => decide (x < m)) r : Int) + 1)) = ((r.length : Int) - 2 * (List.countP (fun x => decide (x < m)) r : Int)) - 1 by omega, Int.mul_sub, Int.mul_one]
      rw [h2]
      omega
    · have e : (if decide (x < m) = true then 1 else 0) = 0 := by simp [hx]
      rw [e]
      have h1 : magI (x + -m) + (m - c) ≤ magI (x + -c) := by unfold magI; omega
      have h2 : (m - c) * (((r.length + 1 : Nat) : Int) - 2 * ((List.countP (fun x => decide (x < m)) r + 0 : Nat) : Int)) = (m - c) * ((r.length : Int) - 2 * (List.countP (fun x => decide (x < m)) r : Int)) + (m - c) := by
        push_cast
        rw [show (((r.length : Int) + 1) - 2 * ((List.countP (fun x => decide (x < m)) r : Int) + 0)) = ((r.length : Int) - 2 * (List.countP (fun x => decide (x < m)) r : Int)) + 1 by omega, Int.mul_add, Int.mul_one]
      rw [h2]
      omega
/-- A number that more than half are no greater than, and at most half less than. -/
structure MidN (s : List Int) (m : Int) : Prop where
  mem : m ∈ s
  le : s.length < 2 * cntLe m s
  lt : 2 * cntLt m s ≤ s.length
theorem MidN.above {s : List Int} {m c : Int} (h : MidN s m) (hc : m < c) : costS (raisedS s (-m)) < costS (raisedS s (-c)) := by
  have h1 := cost_up (m := m) (c := c) (by omega) s
  have h2 := h.le
  have h3 : 0 < (c - m) * (2 * (cntLe m s : Int) - s.length) := Int.mul_pos (by omega) (by omega)
  omega
theorem MidN.least {s : List Int} {m : Int} (h : MidN s m) (c : Int) : costS (raisedS s (-m)) ≤ costS (raisedS s (-c)) := by
  rcases Int.lt_or_le m c with hc | hc
  · exact Int.le_of_lt (h.above hc)
  · have h1 := cost_down hc s
    have h2 := h.lt
    have h3 : 0 ≤ (m - c) * ((s.length : Int) - 2 * (cntLt m s : Int)) := Int.mul_nonneg (by omega) (by omega)
    omega
/-- The middle number of a sorted list. -/
theorem mid_sorted {s l : List Int} {m : Int} (hp : l.Perm s) (hs : l.Pairwise (· ≤ ·)) (hm : l[s.length / 2]? = some m) : MidN s m := by
  have hlen := hp.length_eq
  have hlt := (List.getElem?_eq_some_iff.1 hm).1
  have hcut := List.take_append_drop (s.length / 2) l
  have hd : l.drop (s.length / 2) = m :: l.drop (s.length / 2 + 1) := by
    rw [List.drop_eq_getElem_cons hlt]
    rw [List.getElem?_eq_getElem hlt] at hm
    injection hm with hm
    rw [hm]
  have hs2 := hs
  rw [← hcut, hd] at hs2
  obtain ⟨_, q2, q3⟩ := List.pairwise_append.1 hs2
  have q4 := (List.pairwise_cons.1 q2).1
  refine ⟨hp.subset (List.mem_of_getElem? hm), ?_, ?_⟩
  · have e : cntLe m s = cntLe m l := (hp.countP_eq _).symm
    have e2 : cntLe m l = cntLe m (l.take (s.length / 2)) + (cntLe m (l.drop (s.length / 2 + 1)) + 1) := by
      unfold cntLe
      conv => lhs; rw [← hcut, hd, List.countP_append, List.countP_cons]
      simp
    have e3 : cntLe m (l.take (s.length / 2)) = (l.take (s.length / 2)).length := by
      unfold cntLe
      rw [List.countP_eq_length]
      intro a ha
      simpa using q3 a ha m (by simp)
    rw [List.length_take] at e3
    omega
  · have e : cntLt m s = cntLt m l := (hp.countP_eq _).symm
    have e2 : cntLt m l = cntLt m (l.take (s.length / 2)) + cntLt m (m :: l.drop (s.length / 2 + 1)) := by
      unfold cntLt
      conv => lhs; rw [← hcut, hd, List.countP_append]
    have e3 : cntLt m (m :: l.drop (s.length / 2 + 1)) = 0 := by
      unfold cntLt
      rw [List.countP_eq_zero]
      intro a ha
      rcases List.mem_cons.1 ha with rfl | ha
      · simp
      · have := q4 a ha
        simp
        omega
    have e4 : cntLt m (l.take (s.length / 2)) ≤ (l.take (s.length / 2)).length := List.countP_le_length
    rw [List.length_take] at e4
    omega
theorem cheap_fold {s : List Int} {m : Int} (h : MidN s m) : ∀ (r : List Int) (b : Option (Int × List Int)), (∀ a x, b = some (a, x) → x = raisedS s a) → (m ∈ r ∨ b = some (-m, raisedS s (-m))) → r.foldl (cheapStep s) b = some (-m, raisedS s (-m))
  | [], b, _, hm => by
    rcases hm with hm | hm
    · simp at hm
    · exact hm
  | k :: r, b, hb, hm => by
    rw [List.foldl_cons]
    refine cheap_fold h r _ ?_ ?_
    · intro a x hx
      unfold cheapStep at hx
      rcases b with _ | ⟨a0, x0⟩
      · simp only [Option.some.injEq, Prod.mk.injEq] at hx
        rw [← hx.1, ← hx.2]
      · simp only at hx
        split at hx
        · simp only [Option.some.injEq, Prod.mk.injEq] at hx
          rw [← hx.1, ← hx.2]
        · exact hb a x hx
    · by_cases hk : k = m
      · right
        subst hk
        unfold cheapStep
        rcases b with _ | ⟨a0, x0⟩
        · rfl
        · simp only
          have e := hb a0 x0 rfl
          split
          · rfl
          · rename_i hn
            have h1 := h.least (-a0)
            rw [Int.neg_neg, ← e] at h1
            have h2 : ¬ (-k < a0) := fun hh => hn (by omega)
            rcases Int.lt_or_le k (-a0) with h3 | h3
            · have := h.above h3
              rw [Int.neg_neg, ← e] at this
              exact absurd (Or.inl this) hn
            · have h4 : a0 = -k := by omega
              subst h4
              rw [e]
      · rcases hm with hm | hm
        · rcases List.mem_cons.1 hm with hm | hm
          · exact absurd hm.symm hk
          · exact .inl hm
        · right
          subst hm
          unfold cheapStep
          simp only
          rw [if_neg]
          rintro (h1 | ⟨h1, h2⟩)
          · have := h.least k
            omega
          · have := h.above (c := k) (by omega)
            omega
/-- The cheapest script of a script. -/
theorem cheap_mid {s : List Int} {m : Int} (h : MidN s m) : cheapS s = raisedS s (-m) := by
  unfold cheapS
  rw [cheap_fold h s none (fun a x e => by cases e) (.inl h.mem)]
end Go.Proofs.YtpgopmmobbemcaaGreat

set_option linter.unusedVariables false
set_option linter.unusedSimpArgs false
namespace Go.Proofs.YtpgopmmobbemcaaGreat
open Go.RowKit

/-- The debt of a divisor. -/
def owedL : List Int → Int
  | [] => 0
  | k :: r => max 0 (-k) + owedL r
theorem owedL_nn : ∀ d, 0 ≤ owedL d
  | [] => Int.le_refl _
  | k :: r => by have := owedL_nn r; unfold owedL; omega
theorem owedL_le {c : Int} (hc : 0 ≤ c) : ∀ d : List Int, (∀ k ∈ d, -c ≤ k ∧ k ≤ c) → owedL d ≤ d.length * c
  | [], _ => by simp [owedL]
  | k :: r, h => by
    have h1 := owedL_le hc r fun x hx => h x (by simp [hx])
    have h2 := h k (by simp)
    have h3 : (((k :: r).length : Nat) : Int) * c = (r.length : Int) * c + c := by rw [List.length_cons]; push_cast; rw [Int.add_mul, Int.one_mul]
    unfold owedL
    omega
theorem owedL_app (l m : List Int) : owedL (l ++ m) = owedL l + owedL m := by
  induction l with
  | nil => simp [owedL]
  | cons k r ih => simp only [List.cons_append, owedL, ih]; omega
theorem magnitude_any (k : Int) (hk : -1000000000000 ≤ k ∧ k ≤ 1000000000000) (w : World) : Calls Tryz.prog 73 #[.int .i64 k] w fun e w' => e = .returned (.int .i64 (magI k)) ∧ w = w' := by
  go_enter Tryz.func73, Tryz.ntmps73
  go_wp2_with fail
  all_goals (go_ret; refine ⟨?_, rfl⟩; unfold magI; go_num)
theorem owedL_take {d : List Int} {k : Nat} {x : Int} (h : d.drop k = x :: d.drop (k + 1)) : owedL (d.take (k + 1)) = owedL (d.take k) + max 0 (-x) := by
  have hx : d[k]? = some x := by
    have := congrArg (fun l => l[0]?) h
    simpa using this
  rw [List.take_add_one, hx, owedL_app]
  simp [owedL]
theorem owed_any (d : List Int) (od : Option Addr) (cd : Nat) (F : Foot) (w : World) (hd : SliceR intR 1 F w od d) (hc : d.length ≤ cd) (hc2 : d.length ≤ 1000) (hb : Hid (∀ k ∈ d, -1000000000000 ≤ k ∧ k ≤ 1000000000000)) :
    Calls Tryz.prog 64 #[.slice od d.length cd] w fun e w' => e = .returned (.int .i64 (owedL d)) ∧ w = w' := by
  have HB : Hid (∀ k, 0 ≤ owedL (d.take k) ∧ owedL (d.take k) ≤ 1000000000000000) := fun k => by
    refine ⟨owedL_nn _, ?_⟩
    have h1 := owedL_le (c := 1000000000000) (by omega) (d.take k) fun x hx => hb.out x (List.mem_of_mem_take hx)
    have h2 : (d.take k).length ≤ 1000 := by rw [List.length_take]; omega
    omega
  go_enter Tryz.func64, Tryz.ntmps64
  go_wp2_with fail
  go_loopw [3, 8] (fun sv iv wr => ∃ k : Nat, k ≤ d.length ∧ iv = .int .i64 k ∧ sv = .int .i64 (owedL (d.take k)) ∧ wr = w) (fun _ iv _ => d.length - (intOf iv).toNat)
  case atStart => exact ⟨0, by omega, rfl, rfl, rfl⟩
  case round =>
    obtain ⟨k, hk, rfl, rfl, rfl⟩ := hrel
    obtain ⟨S, hS⟩ : ∃ S, S = owedL (d.take k) := ⟨_, rfl⟩
    have hS1 := HB.out k
    rw [← hS] at hS1 ⊢
    by_cases hlt : k < d.length
    · obtain ⟨x, hdr, hm, ix, b, off, hod, _, c0⟩ := hd.int_at hlt
      have hx := hb.out x (by rw [← List.take_append_drop k d, hdr]; simp)
      have HS2 : Hid (owedL (d.take (k + 1)) = S + max 0 (-x)) := by show _ = _; rw [hS]; exact owedL_take hdr
      subst hod
      clear hdr
      by_cases h1 : x ≤ 0
      · have HS3 : Hid (owedL (d.take (k + 1)) = S - x) := by show _ = _; rw [HS2.out]; omega
        go_wp2_with fail
        all_goals (try omega)
        all_goals
          go_roundw
          case rel => exact ⟨k + 1, by omega, by go_num, by rw [HS3.out]; go_num, by first | rfl | trivial⟩
          case measure => simp [intOf]; omega
      · have HS3 : Hid (owedL (d.take (k + 1)) = S) := by show _ = _; rw [HS2.out]; omega
        go_wp2_with fail
        all_goals (try omega)
        all_goals
          go_roundw
          case rel => exact ⟨k + 1, by omega, by go_num, by rw [HS3.out]; go_num, by first | rfl | trivial⟩
          case measure => simp [intOf]; omega
    · have hke : k = d.length := by omega
      have HS3 : Hid (S = owedL d) := by show _ = _; rw [hS, hke, List.take_length]
      clear hke hS
      go_wp2_with fail
      go_ret
      exact ⟨by rw [HS3.out]; rfl, rfl⟩
theorem rowed_any (d : List Int) (od : Option Addr) (cd : Nat) (F : Foot) (w : World) (hd : SliceR intR 1 F w od d) (hc : d.length ≤ cd) (hc2 : d.length ≤ 1000) (hb : Hid (∀ k ∈ d, -1000000000000 ≤ k ∧ k ≤ 1000000000000)) :
    Calls Tryz.prog 66 #[.slice od d.length cd] w fun e w' => e = .returned (.int .i64 (owedL d)) ∧ w = w' := by
  have HB : Hid (∀ k, 0 ≤ owedL (d.take k) ∧ owedL (d.take k) ≤ 1000000000000000) := fun k => by
    refine ⟨owedL_nn _, ?_⟩
    have h1 := owedL_le (c := 1000000000000) (by omega) (d.take k) fun x hx => hb.out x (List.mem_of_mem_take hx)
    have h2 : (d.take k).length ≤ 1000 := by rw [List.length_take]; omega
    omega
  go_enter Tryz.func66, Tryz.ntmps66
  go_wp2_with fail
  go_loopw [3, 4] (fun sv iv wr => ∃ k : Nat, k ≤ d.length ∧ iv = .int .i64 k ∧ sv = .int .i64 (owedL (d.take k)) ∧ wr = w) (fun _ iv _ => d.length - (intOf iv).toNat)
  case atStart => exact ⟨0, by omega, rfl, rfl, rfl⟩
  case round =>
    obtain ⟨k, hk, rfl, rfl, rfl⟩ := hrel
    obtain ⟨S, hS⟩ : ∃ S, S = owedL (d.take k) := ⟨_, rfl⟩
    have hS1 := HB.out k
    rw [← hS] at hS1 ⊢
    by_cases hlt : k < d.length
    · obtain ⟨x, hdr, hm, ix, b, off, hod, _, c0⟩ := hd.int_at hlt
      have hx := hb.out x (by rw [← List.take_append_drop k d, hdr]; simp)
      have HS2 : Hid (owedL (d.take (k + 1)) = S + max 0 (-x)) := by show _ = _; rw [hS]; exact owedL_take hdr
      subst hod
      clear hdr
      by_cases h1 : x ≤ 0
      · have HS3 : Hid (owedL (d.take (k + 1)) = S - x) := by show _ = _; rw [HS2.out]; omega
        go_wp2_with fail
        all_goals (try omega)
        all_goals
          go_roundw
          case rel => exact ⟨k + 1, by omega, by go_num, by rw [HS3.out]; go_num, by first | rfl | trivial⟩
          case measure => simp [intOf]; omega
      · have HS3 : Hid (owedL (d.take (k + 1)) = S) := by show _ = _; rw [HS2.out]; omega
        go_wp2_with fail
        all_goals (try omega)
        all_goals
          go_roundw
          case rel => exact ⟨k + 1, by omega, by go_num, by rw [HS3.out]; go_num, by first | rfl | trivial⟩
          case measure => simp [intOf]; omega
    · have hke : k = d.length := by omega
      have HS3 : Hid (S = owedL d) := by show _ = _; rw [hS, hke, List.take_length]
      clear hke hS
      go_wp2_with fail
      go_ret
      exact ⟨by rw [HS3.out]; rfl, rfl⟩
theorem costS_le {c : Int} (hc : 0 ≤ c) : ∀ d : List Int, (∀ k ∈ d, -c ≤ k ∧ k ≤ c) → 0 ≤ costS d ∧ costS d ≤ d.length * c
  | [], _ => by simp [costS]
  | k :: r, h => by
    have h1 := costS_le hc r fun x hx => h x (by simp [hx])
    have h2 := h k (by simp)
    have h3 : (((k :: r).length : Nat) : Int) * c = (r.length : Int) * c + c := by rw [List.length_cons]; push_cast; rw [Int.add_mul, Int.one_mul]
    unfold costS magI
    omega
theorem costS_app (l m : List Int) : costS (l ++ m) = costS l + costS m := by
  induction l with
  | nil => simp [costS]
  | cons k r ih => simp only [List.cons_append, costS, ih]; omega
theorem costS_take {d : List Int} {k : Nat} {x : Int} (h : d.drop k = x :: d.drop (k + 1)) : costS (d.take (k + 1)) = costS (d.take k) + magI x := by
  have hx : d[k]? = some x := by
    have := congrArg (fun l => l[0]?) h
    simpa using this
  rw [List.take_add_one, hx, costS_app]
  simp [costS]
theorem cost_any (d : List Int) (od : Option Addr) (cd : Nat) (F : Foot) (w : World) (hd : SliceR intR 1 F w od d) (hc : d.length ≤ cd) (hc2 : d.length ≤ 1000) (hb : Hid (∀ k ∈ d, -1000000000000 ≤ k ∧ k ≤ 1000000000000)) :
    Calls Tryz.prog 47 #[.slice od d.length cd] w fun e w' => e = .returned (.int .i64 (costS d)) ∧ w = w' := by
  have HB : Hid (∀ k, 0 ≤ costS (d.take k) ∧ costS (d.take k) ≤ 1000000000000000) := fun k => by
    have h1 := costS_le (c := 1000000000000) (by omega) (d.take k) fun x hx => hb.out x (List.mem_of_mem_take hx)
    have h2 : (d.take k).length ≤ 1000 := by rw [List.length_take]; omega
    omega
  go_enter Tryz.func47, Tryz.ntmps47
  go_wp2_with fail
  go_loopw [3, 8] (fun sv iv wr => ∃ k : Nat, k ≤ d.length ∧ iv = .int .i64 k ∧ sv = .int .i64 (costS (d.take k)) ∧ wr = w) (fun _ iv _ => d.length - (intOf iv).toNat)
  case atStart => exact ⟨0, by omega, rfl, rfl, rfl⟩
  case round =>
    obtain ⟨k, hk, rfl, rfl, rfl⟩ := hrel
    obtain ⟨S, hS⟩ : ∃ S, S = costS (d.take k) := ⟨_, rfl⟩
    have hS1 := HB.out k
    rw [← hS] at hS1 ⊢
    by_cases hlt : k < d.length
    · obtain ⟨x, hdr, hm, ix, b, off, hod, _, c0⟩ := hd.int_at hlt
      have hx := hb.out x (by rw [← List.take_append_drop k d, hdr]; simp)
      have HS3 : Hid (costS (d.take (k + 1)) = S + magI x) := by show _ = _; rw [hS]; exact costS_take hdr
      have hmx : 0 ≤ magI x ∧ magI x ≤ 1000000000000 := by unfold magI; omega
      subst hod
      clear hdr
      go_wp2_with fail
      refine (magnitude_any x hx _).mono ?_
      rintro e w2 ⟨rfl, rfl⟩
      obtain ⟨M, hM⟩ : ∃ M, M = magI x := ⟨_, rfl⟩
      rw [← hM] at HS3 hmx ⊢
      clear hM
      go_wp2_with fail
      go_roundw
      case rel => exact ⟨k + 1, by omega, by go_num, by rw [HS3.out]; go_num, by first | rfl | trivial⟩
      case measure => simp [intOf]; omega
    · have hke : k = d.length := by omega
      have HS3 : Hid (S = costS d) := by show _ = _; rw [hS, hke, List.take_length]
      clear hke hS
      go_wp2_with fail
      go_ret
      exact ⟨by rw [HS3.out]; rfl, rfl⟩
theorem rcost_any (d : List Int) (od : Option Addr) (cd : Nat) (F : Foot) (w : World) (hd : SliceR intR 1 F w od d) (hc : d.length ≤ cd) (hc2 : d.length ≤ 1000) (hb : Hid (∀ k ∈ d, -1000000000000 ≤ k ∧ k ≤ 1000000000000)) :
    Calls Tryz.prog 40 #[.slice od d.length cd] w fun e w' => e = .returned (.int .i64 (costS d)) ∧ Below w.heap.size w w' := by
  have HB : Hid (∀ k, 0 ≤ costS (d.take k) ∧ costS (d.take k) ≤ 1000000000000000) := fun k => by
    have h1 := costS_le (c := 1000000000000) (by omega) (d.take k) fun x hx => hb.out x (List.mem_of_mem_take hx)
    have h2 : (d.take k).length ≤ 1000 := by rw [List.length_take]; omega
    omega
  have HD := hide hd
  clear hd
  go_enter Tryz.func40, Tryz.ntmps40
  go_wp2_with fail
  go_loopw [3, 4] (fun sv iv wr => ∃ k : Nat, k ≤ d.length ∧ iv = .int .i64 k ∧ sv = .int .i64 (costS (d.take k)) ∧ Hid (Below w.heap.size w wr)) (fun _ iv _ => d.length - (intOf iv).toNat)
  case atStart => exact ⟨0, by omega, rfl, rfl, Below.refl _ _⟩
  case round =>
    obtain ⟨k, hk, rfl, rfl, HW⟩ := hrel
    obtain ⟨S, hS⟩ : ∃ S, S = costS (d.take k) := ⟨_, rfl⟩
    have hS1 := HB.out k
    rw [← hS] at hS1 ⊢
    by_cases hlt : k < d.length
    · obtain ⟨x, hdr, hm, ix, b, off, hod, _, c0⟩ := (HD.out.below intR_ok HW.out).int_at hlt
      have hx := hb.out x (by rw [← List.take_append_drop k d, hdr]; simp)
      have HS2 : Hid (costS (d.take (k + 1)) = S + magI x) := by show _ = _; rw [hS]; exact costS_take hdr
      subst hod
      clear hdr hS
      by_cases h1 : x ≤ 0
      · have HS3 : Hid (costS (d.take (k + 1)) = S - x) := by show _ = _; rw [HS2.out]; unfold magI; omega
        go_wp2_with fail
        go_quiet (fail)
        go_wp2_with fail
        all_goals (try omega)
        all_goals
          go_roundw
          case rel => exact ⟨k + 1, by omega, by go_num, by rw [HS3.out] <;> go_num, below_drewN HW.out _⟩
          case measure => simp [intOf]; omega
      · have HS3 : Hid (costS (d.take (k + 1)) = S + x) := by show _ = _; rw [HS2.out]; unfold magI; omega
        go_wp2_with fail
        go_quiet (fail)
        go_wp2_with fail
        all_goals (try omega)
        all_goals
          go_roundw
          case rel => exact ⟨k + 1, by omega, by go_num, by rw [HS3.out] <;> go_num, below_drewN HW.out _⟩
          case measure => simp [intOf]; omega
    · have hke : k = d.length := by omega
      have HS3 : Hid (S = costS d) := by show _ = _; rw [hS, hke, List.take_length]
      clear hke hS
      go_wp2_with fail
      go_ret
      exact ⟨by rw [HS3.out]; rfl, HW.out⟩
/-- How many moves are necessary at least. -/
def boundB (o most : Int) : Int := if most = 0 then 0 else (o + most - 1) / most
theorem bound_any (d : List Int) (od : Option Addr) (cd : Nat) (F : Foot) (w : World) (hd : SliceR intR 1 F w od d) (hc : d.length ≤ cd) (hc2 : d.length ≤ 1000) (hb : Hid (∀ k ∈ d, -1000000000000 ≤ k ∧ k ≤ 1000000000000)) (m : Int) (hm : 0 ≤ m ∧ m ≤ 1000000) :
    Calls Tryz.prog 65 #[.slice od d.length cd, .int .i64 m] w fun e w' => e = .returned (.int .i64 (boundB (owedL d) m)) ∧ w = w' := by
  have HB : Hid (0 ≤ owedL d ∧ owedL d ≤ 1000000000000000) := by
    refine ⟨owedL_nn _, ?_⟩
    have h1 := owedL_le (c := 1000000000000) (by omega) d hb.out
    omega
  go_enter Tryz.func65, Tryz.ntmps65
  by_cases h0 : m = 0
  · subst h0
    go_wp2_with fail
    go_ret
    exact ⟨rfl, rfl⟩
  · have q0 : (m == 0) = false := by simpa using h0
    have HC := hide (owed_any d od cd F w hd hc hc2 hb)
    have HQ : Hid (boundB (owedL d) m = (owedL d + m - 1) / m) := by show _ = _; unfold boundB; rw [if_neg h0]
    go_wp2_with fail
    refine HC.out.mono ?_
    rintro e w2 ⟨rfl, rfl⟩
    have hB := HB.out
    obtain ⟨o, ho⟩ : ∃ o, o = owedL d := ⟨_, rfl⟩
    rw [← ho] at hB HQ ⊢
    have HO := hide ho
    clear ho HB HC
    go_wp2_with fail
    go_ret
    refine ⟨?_, rfl⟩
    rw [← HO.out, HQ.out]
    rfl
end Go.Proofs.YtpgopmmobbemcaaGreat

set_option linter.unusedVariables false
set_option linter.unusedSimpArgs false
namespace Go.Proofs.YtpgopmmobbemcaaGreat
open Go.RowKit

/-- The greatest valence of the first vertices. -/
def grtE (es : List Edg) : Nat → Int
  | 0 => 0
  | k + 1 => max (grtE es k) (valE es k)
theorem grtE_le {es : List Edg} (h : ∀ v, 0 ≤ valE es v ∧ valE es v ≤ 50000) : ∀ k, 0 ≤ grtE es k ∧ grtE es k ≤ 50000
  | 0 => by unfold grtE; omega
  | k + 1 => by
    have h1 := grtE_le h k
    have h2 := h k
    unfold grtE
    omega
theorem valE_bound {n : Int} {es : List Edg} (hV : gErr n es = 0) (hc2 : es.length ≤ 1000) (v : Int) : 0 ≤ valE es v ∧ valE es v ≤ 50000 := by
  have h1 := valE_le v es fun x hx => by
    have := (gErr_zero hV).2.1 x hx
    omega
  omega
set_option maxRecDepth 100000 in
set_option maxHeartbeats 2000000 in
theorem greatest_any (n : Nat) (es : List Edg) (oe : Option Addr) (c : Nat) (F : Foot) (w : World) (hs : SliceR edgR 3 F w oe es) (hc : es.length ≤ c) (hc2 : es.length ≤ 1000) (hV : Hid (gErr n es = 0)) :
    Calls Tryz.prog 59 #[.agg #[.int .i64 n, .slice oe es.length c]] w fun e w' => e = .returned (.int .i64 (grtE es n)) ∧ Below w.heap.size w w' := by
  have HN : Hid (1 ≤ n ∧ n ≤ 12) := by have := (gErr_zero hV.out).1; show _ ∧ _; omega
  have HB : Hid (∀ k, 0 ≤ grtE es k ∧ grtE es k ≤ 50000) := grtE_le (valE_bound hV.out hc2)
  have HV2 : Hid (∀ v, 0 ≤ valE es v ∧ valE es v ≤ 50000) := valE_bound hV.out hc2
  have HC : Hid (∀ (u : World) (v : Nat), v < n → Below w.heap.size w u → Calls Tryz.prog 93 #[.agg #[.int .i64 n, .slice oe es.length c], .int .i64 v] u fun e w' => e = .returned (.tuple #[.int .i64 (valE es v), .int .i64 0]) ∧ Below u.heap.size u w') := fun u v hv hu =>
    gval_any n es oe c F u (hs.below edgR_ok hu) hc hc2 v (by have := HN.out; unfold I64; omega) hV (by
      show _ = _
      unfold atE
      rw [if_pos hV.out, if_pos]
      simp only [List.all_cons, List.all_nil, Bool.and_true]
      unfold vtxB
      simp
      omega)
  obtain ⟨W1, e1⟩ : ∃ W1, w.alloc (.cells #[.int .i64 n, .slice oe es.length c] 24) = W1 := ⟨_, rfl⟩
  have bx : Box W1 w.heap.size [.int .i64 n, .slice oe es.length c] 24 := by rw [← e1]; exact Box.new w [.int .i64 n, .slice oe es.length c] 24
  have bb1 := bnew (Below.refl w.heap.size w) (.cells #[.int .i64 n, .slice oe es.length c] 24)
  rw [e1] at bb1
  have d0 := bx.cell 0
  have d1 := bx.cell 1
  simp only [List.getElem?_cons_zero, List.getElem?_cons_succ] at d0 d1
  have HX := hide bx
  have HB1 := hide bb1
  clear hs bx bb1
  go_enter Tryz.func59, Tryz.ntmps59
  go_wp2_with fail
  go_loopw [3, 9] (fun sv iv wr => ∃ k : Nat, k ≤ n ∧ iv = .int .i64 k ∧ sv = .int .i64 (grtE es k) ∧ Hid (Box wr w.heap.size [.int .i64 n, .slice oe es.length c] 24) ∧ Hid (Below w.heap.size w wr)) (fun _ iv _ => n - (intOf iv).toNat)
  case atStart => exact ⟨0, by omega, rfl, rfl, HX, HB1⟩
  case round =>
    obtain ⟨k, hk, rfl, rfl, HXr, HY⟩ := hrel
    have hn12 := HN.out.2
    obtain ⟨S, hS⟩ : ∃ S, S = grtE es k := ⟨_, rfl⟩
    have hS1 := HB.out k
    rw [← hS] at hS1 ⊢
    clear d0 d1 e1
    by_cases hlt : k < n
    · have d0 := HXr.out.cell 0
      have d1 := HXr.out.cell 1
      simp only [List.getElem?_cons_zero, List.getElem?_cons_succ] at d0 d1
      have hv2 := HV2.out k
      obtain ⟨V, hVe⟩ : ∃ V, V = valE es k := ⟨_, rfl⟩
      have HS2 : Hid (grtE es (k + 1) = max S V) := by show _ = _; rw [hS, hVe]; rfl
      have HCk := hide (HC.out wr k hlt HY.out)
      rw [← hVe] at HCk hv2
      clear hS hVe
      by_cases h1 : S ≤ V
      · have HS3 : Hid (grtE es (k + 1) = V) := by show _ = _; rw [HS2.out]; omega
        go_wp2_with fail
        refine HCk.out.mono ?_
        rintro e w2 ⟨rfl, hb2⟩
        have HX2 := hide (HXr.out.below hb2)
        have HY2 := hide (below_then HY.out hb2)
        clear hb2 d0 d1
        go_wp2_with fail
        all_goals (try omega)
        all_goals
          go_roundw
          case rel => exact ⟨k + 1, by omega, by go_num, by rw [HS3.out] <;> go_num, HX2, HY2⟩
          case measure => simp [intOf]; omega
      · have HS3 : Hid (grtE es (k + 1) = S) := by show _ = _; rw [HS2.out]; omega
        go_wp2_with fail
        refine HCk.out.mono ?_
        rintro e w2 ⟨rfl, hb2⟩
        have HX2 := hide (HXr.out.below hb2)
        have HY2 := hide (below_then HY.out hb2)
        clear hb2 d0 d1
        go_wp2_with fail
        all_goals (try omega)
        all_goals
          go_roundw
          case rel => exact ⟨k + 1, by omega, by go_num, by rw [HS3.out] <;> go_num, HX2, HY2⟩
          case measure => simp [intOf]; omega
    · have hke : k = n := by omega
      have HS3 : Hid (S = grtE es n) := by show _ = _; rw [hS, hke]
      clear hke hS
      go_wp2_with fail
      go_ret
      exact ⟨by rw [HS3.out]; rfl, HY.out⟩
end Go.Proofs.YtpgopmmobbemcaaGreat

set_option linter.unusedVariables false
set_option linter.unusedSimpArgs false
set_option linter.unnecessarySimpa false
namespace Go.Proofs.YtpgopmmobbemcaaGreat
open Go.RowKit

theorem tErr_j {n : Int} {es : List Edg} {f : List Nat} {d : List Int} (h : tErr n es f d = 0) : jErr n es f = 0 := by
  unfold tErr at h
  split at h
  · rename_i h1; exact h1
  · rename_i h1; exact absurd h h1
theorem tErr_d {n : Int} {es : List Edg} {f : List Nat} {d : List Int} (h : tErr n es f d = 0) : dErr n d = 0 := by
  have := tErr_j h
  unfold tErr at h
  rw [if_pos this] at h
  exact h
theorem dErr_len {n : Int} {d : List Int} (h : dErr n d = 0) : (1 ≤ n ∧ n ≤ 12) ∧ (d.length : Int) = n ∧ ∀ x ∈ d, -1048576 ≤ x ∧ x ≤ 1048576 := by
  unfold dErr at h
  split at h
  · rename_i h1
    split at h
    · rename_i h2; exact ⟨h1, h2, dScan_zero h⟩
    · exact absurd h (by omega)
  · exact absurd h (by omega)
/-- A connected graph with a divisor, all in order. -/
structure TOk (N : Nat) (es : List Edg) (f : List Nat) (d : List Int) : Prop where
  g : gErr N es = 0
  j : jErr N es f = 0
  n12 : 1 ≤ N ∧ N ≤ 12
  len : d.length = N
  dB : ∀ x ∈ d, -1048576 ≤ x ∧ x ≤ 1048576
theorem tErr_ok {n : Int} {es : List Edg} {f : List Nat} {d : List Int} (h : tErr n es f d = 0) : ∃ N : Nat, n = N ∧ TOk N es f d := by
  obtain ⟨h1, h2, h3⟩ := dErr_len (tErr_d h)
  obtain ⟨N, rfl⟩ := Int.eq_ofNat_of_zero_le (show 0 ≤ n by omega)
  exact ⟨N, rfl, jErr_g (tErr_j h), tErr_j h, by omega, by omega, h3⟩
def debtR (n : Int) (es : List Edg) (f : List Nat) (d : List Int) : Int × Int × Int := if tErr n es f d = 0 then (owedL d, boundB (owedL d) (grtE es n.toNat), 0) else (0, 0, tErr n es f d)
def Int3Post (w : World) (r : Int × Int × Int) (e : Ending) (w' : World) : Prop := e = .returned (.tuple #[.int .i64 r.1, .int .i64 r.2.1, .int .i64 r.2.2]) ∧ Below w.heap.size w w'
set_option maxRecDepth 100000 in
set_option maxHeartbeats 2000000 in
theorem debt_any (n : Int) (es : List Edg) (oe : Option Addr) (c : Nat) (F : Foot) (w : World) (hs : SliceR edgR 3 F w oe es) (hc : es.length ≤ c) (hc2 : es.length ≤ 1000)
    (f : List Nat) (hU : Hid (gErr n es = 0 → Uf f (eL es))) (d : List Int) (od : Option Addr) (cd : Nat) (G : Foot) (hd : SliceR intR 1 G w od d) (hdc : d.length ≤ cd) (hdl : d.length ≤ 9223372036854775807) :
    Calls Tryz.prog 23 #[.agg #[.int .i64 n, .slice oe es.length c], .slice od d.length cd] w (Int3Post w (debtR n es f d)) := by
  have hb0 := bnew (Below.refl w.heap.size w) (.cells #[.int .i64 n, .slice oe es.length c] 24)
  have bxx := Box.new w [.int .i64 n, .slice oe es.length c] 24
  have HK := hide (dgiven_any n es oe c F _ (hs.below edgR_ok hb0) hc (by omega) f hU d od cd G (hd.below intR_ok hb0) hdc hdl)
  have HD := hide hd
  have HS := hide hs
  have HB := hide hb0
  have HX := hide bxx
  clear hs hd hb0 bxx
  go_enter Tryz.func23, Tryz.ntmps23
  go_wp2_with fail
  refine HK.out.mono ?_
  rintro e w2 ⟨rfl, hb2⟩
  have HB2 := hide (below_then HB.out hb2)
  have bx2 := HX.out.below hb2
  have y0 := bx2.cell 0
  have y1 := bx2.cell 1
  simp only [List.getElem?_cons_zero, List.getElem?_cons_succ] at y0 y1
  clear hb2 bx2
  by_cases hV : tErr n es f d = 0
  · obtain ⟨N, rfl, hT⟩ := tErr_ok hV
    have hR : Hid (debtR N es f d = (owedL d, boundB (owedL d) (grtE es N), 0)) := by show _ = _; unfold debtR; rw [if_pos hV, Int.toNat_natCast]
    have HT := hide hT
    have h12 := hT.n12
    have hdl2 := hT.len
    have hdl3 : d.length ≤ 1000 := by omega
    have HDB : Hid (∀ k ∈ d, -1000000000000 ≤ k ∧ k ≤ 1000000000000) := fun k hk => by have := HT.out.dB k hk; omega
    have HOW : Hid (∀ W, Below w.heap.size w W → Calls Tryz.prog 64 #[.slice od d.length cd] W fun e w' => e = .returned (.int .i64 (owedL d)) ∧ W = w') := fun W hW => owed_any d od cd G W (HD.out.below intR_ok hW) hdc hdl3 HDB
    have HGR : Hid (∀ W, Below w.heap.size w W → Calls Tryz.prog 59 #[.agg #[.int .i64 N, .slice oe es.length c]] W fun e w' => e = .returned (.int .i64 (grtE es N)) ∧ Below W.heap.size W w') := fun W hW => greatest_any N es oe c F W (HS.out.below edgR_ok hW) hc hc2 HT.out.g
    have hgb := grtE_le (valE_bound HT.out.g hc2) N
    have HBO : Hid (∀ W, Below w.heap.size w W → Calls Tryz.prog 65 #[.slice od d.length cd, .int .i64 (grtE es N)] W fun e w' => e = .returned (.int .i64 (boundB (owedL d) (grtE es N))) ∧ W = w') := fun W hW => bound_any d od cd G W (HD.out.below intR_ok hW) hdc hdl3 HDB _ (by omega)
    have HV := hide hV
    rw [hV]
    generalize boundB (owedL d) (grtE es N) = bo at *
    generalize grtE es N = gr at *
    generalize owedL d = ow at *
    clear hV hT hdl2
    go_wp2_with fail
    go_region_held3 (fun w' => w'.cell? ⟨w.heap.size, 0, none⟩ = some (.int .i64 N) ∧ w'.cell? ⟨w.heap.size, 1, none⟩ = some (.slice oe es.length c)) (first | with_reducible exact ⟨y0, y1⟩ | exact ⟨y0, y1⟩) (first
      | (go_at_call 64; refine (HOW.out _ (by first | with_reducible exact HB2.out | with_reducible exact HB2.out.drew)).mono ?_; rintro e w5 ⟨rfl, rfl⟩)
      | (go_at_call 65; refine (HBO.out _ (by first | with_reducible exact HB2.out | with_reducible exact HB2.out.drew)).mono ?_; rintro e w5 ⟨rfl, rfl⟩)
      | (go_at_call 59; refine (HGR.out _ (by first | with_reducible exact HB2.out | with_reducible exact HB2.out.drew)).mono ?_; rintro e w5 ⟨rfl, h5⟩; have y0 := (h5.cell (World.block_lt_of_cell? _ _ y0)).trans y0; have y1 := (h5.cell (World.block_lt_of_cell? _ _ y1)).trans y1; have HB2 := hide (show Below w.heap.size w w5 from below_then (by first | with_reducible exact HB2.out | with_reducible exact HB2.out.drew) h5); clear h5))
    all_goals
      go_wp2_with fail
      go_ret3
      exact ⟨by rw [hR.out]; rfl, by first | with_reducible exact HB2.out | with_reducible exact HB2.out.drew⟩
  · have hR : Hid (debtR n es f d = (0, 0, tErr n es f d)) := if_neg hV
    have hq : (tErr n es f d != 0) = true := by simpa using hV
    go_wp2_with fail
    go_ret3
    exact ⟨by rw [hR.out]; rfl, HB2.out⟩
end Go.Proofs.YtpgopmmobbemcaaGreat

set_option linter.unusedVariables false
set_option linter.unusedSimpArgs false
set_option linter.unnecessarySimpa false
namespace Go.Proofs.YtpgopmmobbemcaaGreat
open Go.RowKit

/-- The chips when v has borrowed. -/
def borF (es : List Edg) (v : Nat) (left : Nat → Int) : Nat → Int := linkAll v (-1) left (lnkL es v)
theorem lnk_edge {N : Nat} {es : List Edg} (h : EOk N es) {v k : Nat} {a b m : Int} (hx : es[k]? = some ⟨a, b, m⟩) (hc : a ≠ b ∧ (a = (v : Int) ∨ b = (v : Int))) : ∃ u : Nat, a + b - v = (u : Int) ∧ u < N ∧ u ≠ v ∧ (1 ≤ m ∧ m ≤ 50) ∧ lnkL (es.take (k + 1)) v = lnkL (es.take k) v ++ [((u : Int), m)] := by
  obtain ⟨h1, h2⟩ := h.at_ _ (List.mem_of_getElem? hx)
  simp only at h1 h2
  refine ⟨(a + b - v).toNat, by omega, by omega, by omega, h2, ?_⟩
  rw [lnkL_next hx]
  unfold lnkX
  rw [if_pos hc]
  simp only [Option.toList_some]
  congr 3
  omega
set_option maxRecDepth 100000 in
set_option maxHeartbeats 4000000 in
theorem borrow_any {N : Nat} {es : List Edg} (hok : EOk N es) (oe : Option Addr) (c : Nat) (F : Foot) (w0 w : World) (hs : SliceR edgR 3 F w0 oe es) (hc : es.length ≤ c) (hB : Below w0.heap.size w0 w) (gd cd : Nat) (rest : List Value) (left : Nat → Int) (hd : Row1 (Value.int .i64) w gd 3 (lst N left) rest) (hgd : w0.heap.size ≤ gd) (hcd : N ≤ cd) (h12 : 1 ≤ N ∧ N ≤ 12)
    (hb : Hid (∀ u, -100000000000000 ≤ left u ∧ left u ≤ 100000000000000)) (v : Nat) (hv : v < N) :
    Calls Tryz.prog 55 #[.agg #[.int .i64 N, .slice oe es.length c], .slice (some ⟨gd, 0, none⟩) N cd, .int .i64 v, .int .i64 1] w fun e w' => e = .returned (.tuple #[]) ∧ Row1 (Value.int .i64) w' gd 3 (lst N (borF es v left)) rest ∧ Fd w0.heap.size gd w w' := by
  have hs1 := hB.size
  have hgl := hd.lt
  have hes := hok.len
  have HOK := hide hok
  have HBD : Hid (∀ (k : Nat) (u : Nat), k ≤ es.length → -200000000000000 ≤ linkAll v (-1) left (lnkL (es.take k) v) u ∧ linkAll v (-1) left (lnkL (es.take k) v) u ≤ 200000000000000) := by
    intro k
    induction k with
    | zero => intro u _; have := hb.out u; show _ ≤ left u ∧ left u ≤ _; omega
    | succ k ih =>
        intro u hk
        have key : ∀ (r : List (Int × Int)) (d : Nat → Int) (b : Int), (∀ p ∈ r, ∃ u : Nat, p.1 = u ∧ u < N ∧ u ≠ v ∧ 1 ≤ p.2 ∧ p.2 ≤ 50) → (∀ u, -b ≤ d u ∧ d u ≤ b) → ∀ u, -(b + 100 * (r.length : Int)) ≤ linkAll v (-1) d r u ∧ linkAll v (-1) d r u ≤ b + 100 * (r.length : Int) := by
          intro r
          induction r with
          | nil => intro d b _ h u; have := h u; simp [linkAll]; omega
          | cons p r ih =>
            intro d b hp h u
            obtain ⟨z, h1, h2, h3, h4⟩ := hp p (by simp)
            have h5 := ih (linkStep v (-1) d p) (b + 100) (fun x hx => hp x (by simp [hx])) (fun z => by
              have := h z
              rw [linkStep_at (by omega)]
              split <;> split <;> omega) u
            have e : linkAll v (-1) d (p :: r) = linkAll v (-1) (linkStep v (-1) d p) r := rfl
            rw [e, List.length_cons]
            push_cast
            omega
        have h1 := key (lnkL (es.take (k + 1)) v) left 100000000000000 (fun p hp => lnk_in hok ((lnkL_pre es (k + 1) v).subset hp)) hb.out u
        have h2 := lnk_len (es.take (k + 1)) (v : Int)
        rw [List.length_take] at h2
        omega
  obtain ⟨W1, e1⟩ : ∃ W1, w.alloc (.cells #[.int .i64 N, .slice oe es.length c] 24) = W1 := ⟨_, rfl⟩
  have bx1 : Box W1 w.heap.size [.int .i64 N, .slice oe es.length c] 24 := by rw [← e1]; exact Box.new w [.int .i64 N, .slice oe es.length c] 24
  have bb1 := bnew (Below.refl w.heap.size w) (.cells #[.int .i64 N, .slice oe es.length c] 24)
  rw [e1] at bb1
  have hFd1 : Fd w0.heap.size gd w W1 := ⟨bb1.mono hs1, fun k hk _ => bb1.block k hk⟩
  have HR1 := hide (hd.below bb1)
  have HF1 := hide hFd1
  have HB0 := hide hB
  have HS := hide hs
  have d1 := bx1.cell 1
  simp only [List.getElem?_cons_zero, List.getElem?_cons_succ] at d1
  clear hd hB hs hok bx1 bb1 hFd1
  go_enter Tryz.func55, Tryz.ntmps55
  go_wp2_with fail
  clear d1 e1
  go_loopg [9, 13] es.length (fun gm _ iv wx => ∃ k : Nat, k ≤ es.length ∧ gm = es.length - k ∧ iv = .int .i64 k ∧ Hid (Row1 (Value.int .i64) wx gd 3 (lst N (linkAll v (-1) left (lnkL (es.take k) v))) rest) ∧ Hid (Fd w0.heap.size gd w wx))
  case atStart => exact ⟨0, by omega, by omega, rfl, HR1, HF1⟩
  case round =>
    obtain ⟨k, hk, hgm, rfl, HR, HF⟩ := hrel
    have HGM := hide hgm
    clear hgm
    by_cases hlt : k < es.length
    · have hBr : Below w0.heap.size w0 wr := HB0.out.trans HF.out.1
      obtain ⟨a, b, m, _, hget, _, _, _, bl, off, hoe, _, c0, c1, c2⟩ := (HS.out.below edgR_ok hBr).edg_at hlt
      have hat := HOK.out.at_ _ (List.mem_of_getElem? hget)
      simp only at hat
      obtain ⟨W4, hW4⟩ : ∃ W4, wr.alloc (.cells #[.int .i64 a, .int .i64 b, .int .i64 m] 123) = W4 := ⟨_, rfl⟩
      have hbb := bnew (Below.refl wr.heap.size wr) (.cells #[.int .i64 a, .int .i64 b, .int .i64 m] 123)
      rw [hW4] at hbb
      have bx : Box W4 wr.heap.size [.int .i64 a, .int .i64 b, .int .i64 m] 123 := by rw [← hW4]; exact Box.new wr [.int .i64 a, .int .i64 b, .int .i64 m] 123
      have x0 := bx.cell 0
      have x1 := bx.cell 1
      have x2 := bx.cell 2
      simp only [List.getElem?_cons_zero, List.getElem?_cons_succ] at x0 x1 x2
      have hsr := HF.out.1.size
      have HR4 := hide (HR.out.below hbb)
      have hgl4 := HR.out.lt
      have HF4 : Hid (Fd w0.heap.size gd w W4) := ⟨HF.out.1.trans (hbb.mono (by omega)), fun j hj hjg => (hbb.block j (by have h5 := HF.out.2 j hj hjg; rw [Array.getElem?_eq_getElem hj] at h5; exact (Array.getElem?_eq_some_iff.1 h5).1)).trans (HF.out.2 j hj hjg)⟩
      have hbk := HBD.out k
      subst hoe
      by_cases h1 : a = b
      · have q1 : (a != b) = false := by simpa using h1
        have HN : Hid (lnkL (es.take (k + 1)) v = lnkL (es.take k) v) := by show _ = _; rw [lnkL_next hget]; unfold lnkX; rw [if_neg (fun hh => hh.1 h1)]; simp
        clear h1 hbb bx hBr hget
        go_wp2_with fail
        go_roundg (es.length - (k + 1))
        case rel => exact ⟨k + 1, by omega, rfl, by go_num, by rw [HN.out]; exact HR4, HF4⟩
        case measure => rw [HGM.out]; omega
      · have q1 : (a != b) = true := by simpa using h1
        by_cases h2 : a = (v : Int) ∨ b = (v : Int)
        · obtain ⟨z, hz, hzN, hzv, hmm, hnx⟩ := lnk_edge HOK.out hget ⟨h1, h2⟩
          obtain ⟨D, hD⟩ : ∃ D, D = linkAll v (-1) left (lnkL (es.take k) v) := ⟨_, rfl⟩
          have hbv := hbk v hk
          have hbz := hbk z hk
          rw [← hD] at hbv hbz HR4
          have e0 : W4.cell? ⟨gd, v, none⟩ = some (.int .i64 (D v)) := HR4.out.cell (lst_get D hv)
          have f0 := HR4.out.free v
          have e2 : W4.cell? ⟨gd, z, none⟩ = some (.int .i64 (D z)) := HR4.out.cell (lst_get D hzN)
          have hv0 : (0 : Int) ≤ v := by omega
          have hv1 : (v : Int) < N := by omega
          have hz0 : (0 : Int) ≤ z := by omega
          have hz1 : (z : Int) < N := by omega
          obtain ⟨W5, hW5⟩ : ∃ W5, (W4.setCell ⟨gd, v, none⟩ (.int .i64 (D v + m))).drew = W5 := ⟨_, rfl⟩
          have hn5 : ∀ j, j ≠ gd → W5.heap[j]? = W4.heap[j]? := fun j hj => by rw [← hW5]; exact Below.heap_setCell W4 ⟨gd, v, none⟩ _ j hj
          have R5 : Row1 (Value.int .i64) W5 gd 3 (lst N (putF D v (D v + m))) rest := by
            rw [← hW5]
            have h5 := HR4.out.put (i := v) (by rw [lst_len]; exact hv) (D v + m)
            rw [lst_set] at h5
            exact h5
          have b5 : Below w0.heap.size W4 W5 := by rw [← hW5]; exact ((Below.refl _ W4).setCell hgd _).drew
          have bx5 : Box W5 wr.heap.size [.int .i64 a, .int .i64 b, .int .i64 m] 123 := bx.keep (hn5 _ (by omega))
          have x05 := bx5.cell 0
          have x15 := bx5.cell 1
          have x25 := bx5.cell 2
          simp only [List.getElem?_cons_zero, List.getElem?_cons_succ] at x05 x15 x25
          have e25 : W5.cell? ⟨gd, z, none⟩ = some (.int .i64 (D z)) := by
            have h5 : W5.cell? ⟨gd, z, none⟩ = some (.int .i64 (putF D v (D v + m) z)) := R5.cell (lst_get _ hzN)
            rw [putF_ne _ _ hzv] at h5
            exact h5
          have f25 := R5.free z
          have HP : Hid (Row1 (Value.int .i64) (W5.setCell ⟨gd, z, none⟩ (.int .i64 (D z - m))).drew gd 3 (lst N (linkAll v (-1) left (lnkL (es.take (k + 1)) v))) rest) := by
            have h5 := R5.put (i := z) (by rw [lst_len]; exact hzN) (D z - m)
            rw [lst_set] at h5
            have e : linkAll v (-1) left (lnkL (es.take (k + 1)) v) = updF (putF D v (D v + m)) z (D z - m) := by
              rw [hnx, linkAll_snoc, ← hD]
              unfold linkStep
              simp only [Int.toNat_natCast]
              rw [putF_ne _ _ hzv, show D v - m * -1 = D v + m by omega, show D z + m * -1 = D z - m by omega]
              rfl
            rw [e]
            exact h5
          have HQ : Hid (Fd w0.heap.size gd w (W5.setCell ⟨gd, z, none⟩ (.int .i64 (D z - m))).drew) :=
            ⟨((HF4.out.1.trans b5).setCell hgd _).drew, fun j hj hjg => (Below.heap_setCell W5 ⟨gd, z, none⟩ _ j hjg).trans ((hn5 j hjg).trans (HF4.out.2 j hj hjg))⟩
          have HW5 := hide hW5
          have HD := hide hD
          clear hbb bx hBr hget hnx hD hn5 R5 b5 bx5 hbk
          generalize D v = dv at *
          generalize D z = dz at *
          by_cases h3 : a = (v : Int)
          · have q2 : (a == (v : Int)) = true := by simpa using h3
            have hz2 : a + b - v = z := hz
            clear h1 h2 h3 hz
            go_wp2_with fail
            clear hW4 hW5
            go_region
            all_goals
              rw [HW5.out]
              clear x0 x1 x2 e0 e2 f0
              go_wp2_with fail
              go_region
              all_goals
                go_wp2_with fail
                go_roundg (es.length - (k + 1))
                case rel => exact ⟨k + 1, by omega, rfl, by go_num, HP, HQ⟩
                case measure => rw [HGM.out]; omega
          · have q2 : (a == (v : Int)) = false := by simpa using h3
            have q3 : (b == (v : Int)) = true := by
              rcases h2 with h | h
              · exact absurd h h3
              · simpa using h
            have hz2 : a + b - v = z := hz
            clear h1 h2 h3 hz
            go_wp2_with fail
            clear hW4 hW5
            go_region
            all_goals
              rw [HW5.out]
              clear x0 x1 x2 e0 e2 f0
              go_wp2_with fail
              go_region
              all_goals
                go_wp2_with fail
                go_roundg (es.length - (k + 1))
                case rel => exact ⟨k + 1, by omega, rfl, by go_num, HP, HQ⟩
                case measure => rw [HGM.out]; omega
        · have q2 : (a == (v : Int)) = false := by simp; exact fun h => h2 (.inl h)
          have q3 : (b == (v : Int)) = false := by simp; exact fun h => h2 (.inr h)
          have HN : Hid (lnkL (es.take (k + 1)) v = lnkL (es.take k) v) := by show _ = _; rw [lnkL_next hget]; unfold lnkX; rw [if_neg (fun hh => h2 hh.2)]; simp
          clear h1 h2 hbb bx hBr hget
          go_wp2_with fail
          go_roundg (es.length - (k + 1))
          case rel => exact ⟨k + 1, by omega, rfl, by go_num, by rw [HN.out]; exact HR4, HF4⟩
          case measure => rw [HGM.out]; omega
    · have hke : es.take k = es := List.take_of_length_le (by omega)
      have HRE : Hid (Row1 (Value.int .i64) wr gd 3 (lst N (borF es v left)) rest) := by
        have h5 := HR.out
        rw [hke] at h5
        exact h5
      clear hke
      go_wp2_with fail
      go_end0
      exact ⟨rfl, HRE.out, HF.out⟩
end Go.Proofs.YtpgopmmobbemcaaGreat

set_option linter.unusedVariables false
set_option linter.unusedSimpArgs false
namespace Go.Proofs.YtpgopmmobbemcaaGreat
open Go.RowKit

/-- The greatest of a number and a list. -/
def maxF (x : Int) (l : List Int) : Int := l.foldl max x
theorem maxF_snoc (x : Int) (l : List Int) (y : Int) : maxF x (l ++ [y]) = max (maxF x l) y := by unfold maxF; rw [List.foldl_append]; rfl
theorem maxF_ge (x : Int) : ∀ l : List Int, x ≤ maxF x l ∧ ∀ y ∈ l, y ≤ maxF x l := fun l => by
  induction l generalizing x with
  | nil => exact ⟨Int.le_refl _, fun y hy => by simp at hy⟩
  | cons z r ih =>
    obtain ⟨h1, h2⟩ := ih (max x z)
    have e : maxF x (z :: r) = maxF (max x z) r := rfl
    rw [e]
    refine ⟨by omega, fun y hy => ?_⟩
    rcases List.mem_cons.1 hy with rfl | hy
    · omega
    · exact h2 y hy
theorem maxF_mem (x : Int) : ∀ l : List Int, maxF x l = x ∨ maxF x l ∈ l := fun l => by
  induction l generalizing x with
  | nil => exact .inl rfl
  | cons z r ih =>
    have e : maxF x (z :: r) = maxF (max x z) r := rfl
    rw [e]
    rcases ih (max x z) with h | h
    · rw [h]
      rcases Int.le_total x z with h1 | h1
      · right; rw [Int.max_eq_right h1]; simp
      · left; exact Int.max_eq_left h1
    · exact .inr (List.mem_cons_of_mem _ h)
set_option maxHeartbeats 400000 in
theorem maxI_any (x0 : Int) (l : List Int) (oa : Option Addr) (c : Nat) (F : Foot) (w : World) (hs : SliceR intR 1 F w oa (x0 :: l)) (hc : l.length + 1 ≤ c) (hc2 : l.length + 1 ≤ 9223372036854775807) :
    Calls Tryz.prog 127 #[.slice oa (x0 :: l).length c] w fun e w' => e = .returned (.int .i64 (maxF x0 l)) ∧ w = w' := by
  obtain ⟨x1, hd0, hg0, i0, b, off, hoa, _, c0⟩ := hs.int_at (i := 0) (by simp)
  have hx1 : x1 = x0 := by simpa using hg0.symm
  subst hx1
  have hoa' := hoa
  subst hoa'
  clear hd0 hg0 hoa i0
  rw [Nat.add_zero] at c0
  obtain ⟨n, hn⟩ : ∃ n, n = (x1 :: l).length := ⟨_, rfl⟩
  have hn2 : n = l.length + 1 := by rw [hn]; simp
  have HNL := hide hn2
  rw [← hn]
  have hnc : n ≤ c := by omega
  have hn3 : 1 ≤ n ∧ n ≤ 9223372036854775807 := by omega
  have HN := hide hn
  have hl1 : decide ((n : Int) < 1) = false := by simp; omega
  clear hn hn2 hc hc2
  go_enter Tryz.func127, Tryz.ntmps127
  go_wp2_with fail
  go_loop [3, 4] (fun mv i => ∃ (k : Nat), 0 < k ∧ k ≤ n ∧ mv = .int .i64 (maxF x1 (l.take (k - 1))) ∧ i = .int .i64 k) (fun _ i => n - (intOf i).toNat)
  case atStart => exact ⟨1, by omega, by omega, rfl, rfl⟩
  case round =>
    obtain ⟨k, hk0, hk, rfl, rfl⟩ := hrel
    obtain ⟨M, hM⟩ : ∃ M, M = maxF x1 (l.take (k - 1)) := ⟨_, rfl⟩
    rw [← hM]
    by_cases hlt : k < n
    · obtain ⟨x, hd, hget, _, b', off', hoa, _, cx⟩ := hs.int_at (i := k) (by rw [← HN.out]; exact hlt)
      injection hoa with hoa
      injection hoa with e1 e2
      subst e1 e2
      have HS : Hid (maxF x1 (l.take (k + 1 - 1)) = max M x) := by
        show _ = _
        rw [hM, show k + 1 - 1 = (k - 1) + 1 by omega, List.take_add_one]
        have : l[k - 1]? = some x := by
          rw [show k = (k - 1) + 1 by omega, List.getElem?_cons_succ] at hget
          exact hget
        rw [this]
        exact maxF_snoc _ _ _
      clear hd hget hM
      by_cases hmx : M ≤ x
      · have HS3 : Hid (maxF x1 (l.take (k + 1 - 1)) = x) := by show _ = _; rw [HS.out]; omega
        go_wp2_with fail
        all_goals (try omega)
        all_goals
          go_round
          case rel => exact ⟨k + 1, by omega, by omega, by rw [HS3.out] <;> go_num, by go_num⟩
          case measure => simp [intOf]; omega
      · have HS3 : Hid (maxF x1 (l.take (k + 1 - 1)) = M) := by show _ = _; rw [HS.out]; omega
        go_wp2_with fail
        all_goals (try omega)
        all_goals
          go_round
          case rel => exact ⟨k + 1, by omega, by omega, by rw [HS3.out] <;> go_num, by go_num⟩
          case measure => simp [intOf]; omega
    · have hke : k = n := by omega
      have HS3 : Hid (M = maxF x1 l) := by show _ = _; rw [hM, hke, HNL.out, Nat.add_sub_cancel, List.take_length]
      clear hke hM
      go_wp2_with fail
      go_ret
      exact ⟨by rw [HS3.out]; rfl, rfl⟩
set_option maxHeartbeats 400000 in
theorem maxS_any (x0 : Int) (l : List Int) (oa : Option Addr) (c : Nat) (F : Foot) (w : World) (hs : SliceR intR 1 F w oa (x0 :: l)) (hc : l.length + 1 ≤ c) (hc2 : l.length + 1 ≤ 9223372036854775807) :
    Calls Tryz.prog 54 #[.slice oa (x0 :: l).length c] w fun e w' => e = .returned (.int .i64 (maxF x0 l)) ∧ w = w' := by
  obtain ⟨x1, hd0, hg0, i0, b, off, hoa, _, c0⟩ := hs.int_at (i := 0) (by simp)
  have hx1 : x1 = x0 := by simpa using hg0.symm
  subst hx1
  have hoa' := hoa
  subst hoa'
  clear hd0 hg0 hoa i0
  rw [Nat.add_zero] at c0
  obtain ⟨n, hn⟩ : ∃ n, n = (x1 :: l).length := ⟨_, rfl⟩
  have hn2 : n = l.length + 1 := by rw [hn]; simp
  have HNL := hide hn2
  rw [← hn]
  have hnc : n ≤ c := by omega
  have hn3 : 1 ≤ n ∧ n ≤ 9223372036854775807 := by omega
  have HN := hide hn
  have hl1 : decide ((n : Int) < 1) = false := by simp; omega
  clear hn hn2 hc hc2
  go_enter Tryz.func54, Tryz.ntmps54
  go_wp2_with fail
  go_loop [3, 4] (fun mv i => ∃ (k : Nat), 0 < k ∧ k ≤ n ∧ mv = .int .i64 (maxF x1 (l.take (k - 1))) ∧ i = .int .i64 k) (fun _ i => n - (intOf i).toNat)
  case atStart => exact ⟨1, by omega, by omega, rfl, rfl⟩
  case round =>
    obtain ⟨k, hk0, hk, rfl, rfl⟩ := hrel
    obtain ⟨M, hM⟩ : ∃ M, M = maxF x1 (l.take (k - 1)) := ⟨_, rfl⟩
    rw [← hM]
    by_cases hlt : k < n
    · obtain ⟨x, hd, hget, _, b', off', hoa, _, cx⟩ := hs.int_at (i := k) (by rw [← HN.out]; exact hlt)
      injection hoa with hoa
      injection hoa with e1 e2
      subst e1 e2
      have HS : Hid (maxF x1 (l.take (k + 1 - 1)) = max M x) := by
        show _ = _
        rw [hM, show k + 1 - 1 = (k - 1) + 1 by omega, List.take_add_one]
        have : l[k - 1]? = some x := by
          rw [show k = (k - 1) + 1 by omega, List.getElem?_cons_succ] at hget
          exact hget
        rw [this]
        exact maxF_snoc _ _ _
      clear hd hget hM
      by_cases hmx : M ≤ x
      · have HS3 : Hid (maxF x1 (l.take (k + 1 - 1)) = x) := by show _ = _; rw [HS.out]; omega
        go_wp2_with fail
        all_goals (try omega)
        all_goals
          go_round
          case rel => exact ⟨k + 1, by omega, by omega, by rw [HS3.out] <;> go_num, by go_num⟩
          case measure => simp [intOf]; omega
      · have HS3 : Hid (maxF x1 (l.take (k + 1 - 1)) = M) := by show _ = _; rw [HS.out]; omega
        go_wp2_with fail
        all_goals (try omega)
        all_goals
          go_round
          case rel => exact ⟨k + 1, by omega, by omega, by rw [HS3.out] <;> go_num, by go_num⟩
          case measure => simp [intOf]; omega
    · have hke : k = n := by omega
      have HS3 : Hid (M = maxF x1 l) := by show _ = _; rw [hM, hke, HNL.out, Nat.add_sub_cancel, List.take_length]
      clear hke hM
      go_wp2_with fail
      go_ret
      exact ⟨by rw [HS3.out]; rfl, rfl⟩
end Go.Proofs.YtpgopmmobbemcaaGreat

set_option linter.unusedVariables false
set_option linter.unusedSimpArgs false
set_option linter.unnecessarySimpa false
namespace Go.Proofs.YtpgopmmobbemcaaGreat
open Go.RowKit



/-- The error of picks. -/
def pkE (l : List Int) : Int := if 4096 < l.length then 5 else if l.length = 0 then 14 else if negB l = true then 2 else 0
theorem pkE_zero {l : List Int} (h : pkE l = 0) : l.length ≤ 4096 ∧ 0 < l.length ∧ ∀ x ∈ l, 0 ≤ x := by
  unfold pkE at h
  split at h
  · cases h
  · rename_i h1
    split at h
    · cases h
    · rename_i h2
      split at h
      · cases h
      · rename_i h3
        refine ⟨by omega, by omega, fun x hx => ?_⟩
        simp only [negB, List.any_eq_true, not_exists, not_and, decide_eq_true_eq] at h3
        have := h3 x hx
        omega

def pScan : List Int → Int
  | [] => 0
  | x :: r => if x < 0 then 2 else pScan r
def fewP (l : List Int) : Bool := if l.length ≤ 60 then true else if 4096 < l.length then decide (l.length ≤ 8192) else false
end Go.Proofs.YtpgopmmobbemcaaGreat

set_option linter.unusedVariables false
set_option linter.unusedSimpArgs false
namespace Go.Proofs.YtpgopmmobbemcaaGreat
open Go.RowKit

/-- Who is in debt. -/
def poorL (left : Nat → Int) : Nat → List Int
  | 0 => []
  | k + 1 => if left k < 0 then poorL left k ++ [(k : Int)] else poorL left k
theorem poorL_len (left : Nat → Int) : ∀ k, (poorL left k).length ≤ k
  | 0 => by simp [poorL]
  | k + 1 => by
    have := poorL_len left k
    unfold poorL
    split <;> simp <;> omega
theorem poorL_mem {left : Nat → Int} {x : Int} : ∀ {k}, x ∈ poorL left k ↔ ∃ v : Nat, x = v ∧ v < k ∧ left v < 0
  | 0 => by simp [poorL]
  | k + 1 => by
    unfold poorL
    split
    · rename_i h
      rw [List.mem_append, poorL_mem (k := k)]
      simp only [List.mem_singleton]
      constructor
      · rintro (⟨v, h1, h2, h3⟩ | h1)
        · exact ⟨v, h1, by omega, h3⟩
        · exact ⟨k, h1, by omega, h⟩
      · rintro ⟨v, h1, h2, h3⟩
        by_cases e : v = k
        · subst e; exact .inr h1
        · exact .inl ⟨v, h1, by omega, h3⟩
    · rename_i h
      rw [poorL_mem (k := k)]
      constructor
      · rintro ⟨v, h1, h2, h3⟩
        exact ⟨v, h1, by omega, h3⟩
      · rintro ⟨v, h1, h2, h3⟩
        by_cases e : v = k
        · subst e; exact absurd h3 h
        · exact ⟨v, h1, by omega, h3⟩
def allNeg (N : Nat) (s : Nat → Int) : Bool := (List.range N).all fun v => decide (s v < 0)
theorem allNeg_true {N : Nat} {s : Nat → Int} : allNeg N s = true ↔ ∀ v, v < N → s v < 0 := by
  unfold allNeg
  rw [List.all_eq_true]
  exact ⟨fun h v hv => of_decide_eq_true (h v (List.mem_range.2 hv)), fun h v hv => decide_eq_true (h v (List.mem_range.1 hv))⟩
theorem allNeg_max {N : Nat} {s : Nat → Int} {x0 : Int} {l : List Int} (h : lst N s = x0 :: l) : decide (maxF x0 l < 0) = allNeg N s := by
  rw [Bool.eq_iff_iff, decide_eq_true_iff, allNeg_true]
  constructor
  · intro hm v hv
    have h1 : s v ∈ x0 :: l := by rw [← h]; exact List.mem_map.2 ⟨v, List.mem_range.2 hv, rfl⟩
    rcases List.mem_cons.1 h1 with h1 | h1
    · have := (maxF_ge x0 l).1; omega
    · have := (maxF_ge x0 l).2 _ h1; omega
  · intro hs
    have h1 : maxF x0 l ∈ x0 :: l := by
      rcases maxF_mem x0 l with h1 | h1
      · rw [h1]; simp
      · simp [h1]
    rw [← h] at h1
    obtain ⟨v, hv, h2⟩ := List.mem_map.1 h1
    rw [← h2]
    exact hs v (List.mem_range.1 hv)
/-- Who borrows next. -/
def gPick (picks : List Int) (i : Nat) (poor : List Int) : Nat := (poor.getD ((picks.getD (i % picks.length) 0).toNat % poor.length) 0).toNat
def gRun (N : Nat) (es : List Edg) (picks : List Int) : Nat → Nat → (Nat → Int) → (Nat → Int) → Bool × List Int × Int
  | 0, _, left, s => if poorL left N = [] then (true, lst N s, 0) else if allNeg N s = true then (false, lst N s, 0) else (false, [], 12)
  | fuel + 1, i, left, s => if poorL left N = [] then (true, lst N s, 0) else if allNeg N s = true then (false, lst N s, 0) else
      gRun N es picks fuel (i + 1) (borF es (gPick picks i (poorL left N)) left) (putF s (gPick picks i (poorL left N)) (s (gPick picks i (poorL left N)) - 1))
theorem gPick_ok {N : Nat} {picks : List Int} {i : Nat} {left : Nat → Int} (h : poorL left N ≠ []) : gPick picks i (poorL left N) < N ∧ left (gPick picks i (poorL left N)) < 0 ∧ (poorL left N)[(picks.getD (i % picks.length) 0).toNat % (poorL left N).length]? = some ((gPick picks i (poorL left N) : Nat) : Int) := by
  have hl : 0 < (poorL left N).length := by
    cases hp : poorL left N with
    | nil => exact absurd hp h
    | cons a b => simp
  obtain ⟨j, hj⟩ : ∃ j, j = (picks.getD (i % picks.length) 0).toNat % (poorL left N).length := ⟨_, rfl⟩
  have hjl : j < (poorL left N).length := by rw [hj]; exact Nat.mod_lt _ hl
  obtain ⟨x, hx⟩ : ∃ x, (poorL left N)[j]? = some x := ⟨_, List.getElem?_eq_getElem hjl⟩
  obtain ⟨v, rfl, h1, h2⟩ := poorL_mem.1 (List.mem_of_getElem? hx)
  have e : gPick picks i (poorL left N) = v := by
    unfold gPick
    rw [← hj, List.getD_eq_getElem?_getD, hx]
    simp
  rw [e, ← hj]
  exact ⟨h1, h2, hx⟩
def greedyR (M : Nat) (n : Int) (es : List Edg) (f : List Nat) (d picks : List Int) : Bool × List Int × Int :=
  if tErr n es f d ≠ 0 then (false, [], tErr n es f d) else if pkE picks ≠ 0 then (false, [], pkE picks) else gRun n.toNat es picks M 0 (fun v => d.getD v 0) (fun _ => 0)
end Go.Proofs.YtpgopmmobbemcaaGreat

set_option linter.unusedVariables false
set_option linter.unusedSimpArgs false
namespace Go.Proofs.YtpgopmmobbemcaaGreat
open Go.RowKit

theorem picked43_any (l : List Int) (oa : Option Addr) (c : Nat) (F : Foot) (w : World) (hs : SliceR intR 1 F w oa l) (hc : l.length ≤ c) (hc2 : l.length ≤ 9223372036854775807) :
    Calls Tryz.prog 52 #[.slice oa l.length c] w fun e w' => e = .returned (.int .i64 (pkE l)) ∧ w = w' := by
  by_cases h1 : 4096 < l.length
  · have q1 : decide ((4096 : Int) < (l.length : Int)) = true := by simp; omega
    have HR : Hid (pkE l = 5) := if_pos h1
    clear h1
    go_enter Tryz.func52, Tryz.ntmps52
    go_wp2_with fail
    go_ret
    exact ⟨ret_int HR.out.symm, rfl⟩
  · have q1 : decide ((4096 : Int) < (l.length : Int)) = false := by simp; omega
    by_cases h2 : l.length = 0
    · have q2 : ((l.length : Int) == 0) = true := by rw [h2]; rfl
      have HR : Hid (pkE l = 14) := by show _ = _; unfold pkE; rw [if_neg h1, if_pos h2]
      have hl : l = [] := List.eq_nil_of_length_eq_zero h2
      subst hl
      clear h1 h2 q1 q2
      go_enter Tryz.func52, Tryz.ntmps52
      go_wp2_with fail
      go_ret
      exact ⟨ret_int HR.out.symm, rfl⟩
    · have q2 : ((l.length : Int) == 0) = false := by simp; intro e; rw [e] at h2; simp at h2
      have HM := hide (min_any l oa c F w hs hc hc2 (by omega))
      have hR : Hid (pkE l = if negB l = true then 2 else 0) := by show _ = _; unfold pkE; rw [if_neg h1, if_neg h2]
      clear h1 h2 hs
      go_enter Tryz.func52, Tryz.ntmps52
      go_wp2_with fail
      refine HM.out.mono ?_
      rintro e w2 ⟨m, rfl, hm, rfl⟩
      rcases hb : negB l with _ | _
      · rw [hb] at hm hR
        clear hb
        go_wp2_with fail
        go_ret
        exact ⟨ret_int hR.out.symm, rfl⟩
      · rw [hb] at hm hR
        clear hb
        go_wp2_with fail
        go_ret
        exact ⟨ret_int hR.out.symm, rfl⟩
end Go.Proofs.YtpgopmmobbemcaaGreat

set_option linter.unusedVariables false
set_option linter.unusedSimpArgs false
namespace Go.Proofs.YtpgopmmobbemcaaGreat
open Go.RowKit

theorem mk_ints (T E : TypeId) (hT : Tryz.prog.underlying T = some (.slice E)) (hE : (Tryz.prog.info? E).map (fun i => (i.zero, i.size, i.bytes)) = some (some (.int .i64 0), 1, 8)) (n : Nat) (hn : n ≤ 1000000) :
    ∃ Z : Array Value, Z.toList = List.replicate n (.int .i64 0) ∧ ∀ w : World, (Instr.makeSlice T (.int .i64 (n : Int)) (.int .i64 (n : Int))).run Tryz.prog w = .ok (.slice (some ⟨w.heap.size, 0, none⟩) n n) (w.alloc (.cells Z E)) := by
  obtain ⟨i, hi, hz, hs, hb⟩ := info_parts hE
  refine ⟨madeCells #[.int .i64 0] n, toList_madeCells_one _ n, fun w => ?_⟩
  have h := run_make (P := Tryz.prog) w T E i (.int .i64 0) hT hi hz .i64 .i64 (n : Int) (n : Int) (by omega) (Int.le_refl _) (by rw [hb]; omega) (by omega)
  simp only [Int.toNat_natCast, hs, Nat.mul_one] at h
  exact h
/-- The processors of the first i vertices. -/
def pilesU (es : List Edg) (n : Nat) (q : Int) : Nat → Option (List Prc)
  | 0 => some []
  | v + 1 => (pilesU es n q v).bind fun l => if (v : Int) = q then some (l ++ [sinkP]) else if (nbrU es v n).length ≤ 16 then some (l ++ [topP (nbrU es v n)]) else none
def nwk0 : Nwk := ⟨[], [], []⟩
/-- What Sandpile comes to. -/
def sandR (n : Int) (es : List Edg) (f : List Nat) (q : Int) (d : List Int) : Nwk × Int :=
  if cfgE n es f q d = 0 then
    match pilesU es n.toNat q n.toNat with
    | some l => (⟨l, List.replicate n.toNat 0, waitD d q n.toNat⟩, 0)
    | none => (nwk0, 12)
  else (nwk0, cfgE n es f q d)
/-- A network in memory. -/
def NwAt (F : Foot) (w : World) (v : Value) (y : Nwk) : Prop := ∃ oq cq os cs ow cw, v = .agg #[.slice oq y.procs.length cq, .slice os y.state.length cs, .slice ow y.waiting.length cw] ∧ y.procs.length ≤ cq ∧ y.state.length ≤ cs ∧ y.waiting.length ≤ cw ∧ SliceR prcR 3 F w oq y.procs ∧ SliceR intR 1 F w os y.state ∧ SliceR (slcR intR 1) 1 F w ow y.waiting
def NwPost (w : World) (r : Nwk × Int) (e : Ending) (w' : World) : Prop := ∃ v, e = .returned (.tuple #[v, .int .i64 r.2]) ∧ NwAt All w' v r.1 ∧ Below w.heap.size w w'
theorem cell_drew {w : World} {a : Addr} {v : Value} (h : w.cell? a = some v) : w.drew.cell? a = some v := h
theorem drew_size (w : World) : w.drew.heap.size = w.heap.size := rfl
theorem row_new {N : Nat} {Zs : Array Value} (hZ : Zs.toList = List.replicate N (.int .i64 0)) (w : World) : Row1 (Value.int .i64) (w.alloc (.cells Zs 3)) w.heap.size 3 (List.replicate N 0) [] := by
  have h := heap_alloc_new w (.cells Zs 3)
  unfold Row1
  rw [h]
  congr 2
  apply Array.toList_inj.1
  rw [hZ]
  simp
section
variable {w3 w4 : World} {N cw : Nat} {ow : Option Addr} {d : List Int} {q : Int} {Zs : Array Value}
end

end Go.Proofs.YtpgopmmobbemcaaGreat

set_option linter.unusedVariables false
set_option linter.unusedSimpArgs false
set_option linter.unnecessarySimpa false
namespace Go.Proofs.YtpgopmmobbemcaaGreat
open Go.RowKit

theorem linkAll_bnd {N : Nat} {v : Nat} : ∀ (r : List (Int × Int)) (d : Nat → Int) (b : Int), (∀ p ∈ r, ∃ u : Nat, p.1 = u ∧ u < N ∧ u ≠ v ∧ 1 ≤ p.2 ∧ p.2 ≤ 50) → (∀ u, -b ≤ d u ∧ d u ≤ b) → ∀ u, -(b + 100 * (r.length : Int)) ≤ linkAll v (-1) d r u ∧ linkAll v (-1) d r u ≤ b + 100 * (r.length : Int) := by
  intro r
  induction r with
  | nil => intro d b _ h u; have := h u; simp [linkAll]; omega
  | cons p r ih =>
    intro d b hp h u
    obtain ⟨z, h1, h2, h3, h4⟩ := hp p (by simp)
    have h5 := ih (linkStep v (-1) d p) (b + 100) (fun x hx => hp x (by simp [hx])) (fun z => by
      have := h z
      rw [linkStep_at (by omega)]
      split <;> split <;> omega) u
    have e : linkAll v (-1) d (p :: r) = linkAll v (-1) (linkStep v (-1) d p) r := rfl
    rw [e, List.length_cons]
    push_cast
    omega
theorem borF_bnd {N : Nat} {es : List Edg} (hok : EOk N es) {v : Nat} {left : Nat → Int} {b : Int} (h : ∀ u, -b ≤ left u ∧ left u ≤ b) (u : Nat) : -(b + 100000) ≤ borF es v left u ∧ borF es v left u ≤ b + 100000 := by
  have h1 := linkAll_bnd (N := N) (v := v) (lnkL es v) left b (fun p hp => lnk_in hok hp) h u
  have h2 := lnk_len es (v : Int)
  have h3 := hok.len
  unfold borF
  omega
def GrePost (w : World) (r : Bool × List Int × Int) (e : Ending) (w' : World) : Prop :=
  ∃ v, e = .returned (.tuple #[.bool r.1, v, .int .i64 r.2.2]) ∧ OwnS intR 1 w.heap.size 3 Non w' v r.2.1 ∧ Below w.heap.size w w'
/-- The chips and the script of the game, in memory. -/
structure GMem (w0 : World) (N gd gs : Nat) (rest : List Value) (left s : Nat → Int) (w : World) : Prop where
  rd : Row1 (Value.int .i64) w gd 3 (lst N left) rest
  rs : Row1 (Value.int .i64) w gs 3 (lst N s) []
  ne : gd ≠ gs
  lo : w0.heap.size ≤ gd ∧ w0.heap.size ≤ gs
  be : Below w0.heap.size w0 w
theorem GMem.below {w0 w w' : World} {N gd gs : Nat} {rest : List Value} {left s : Nat → Int} (h : GMem w0 N gd gs rest left s w) (hb : Below w.heap.size w w') : GMem w0 N gd gs rest left s w' :=
  ⟨h.rd.below hb, h.rs.below hb, h.ne, h.lo, below_then h.be hb⟩
theorem lst_zero (N : Nat) : lst N (fun _ => 0) = List.replicate N 0 := by
  apply List.ext_getElem?
  intro i
  by_cases hi : i < N
  · rw [lst_get _ hi, List.getElem?_replicate, if_pos hi]
  · rw [List.getElem?_eq_none (by rw [lst_len]; omega), List.getElem?_eq_none (by simp; omega)]
theorem GMem.own {w0 w : World} {N gd gs : Nat} {rest : List Value} {left s : Nat → Int} (h : GMem w0 N gd gs rest left s w) (h12 : 1 ≤ N ∧ N ≤ 12) (hs : ∀ u, -2000000 ≤ s u ∧ s u ≤ 0) {B : Nat} (hB : B ≤ w0.heap.size) : OwnS intR 1 B 3 Non w (.slice (some ⟨gs, 0, none⟩) N N) (lst N s) := by
  have h5 := h.rs.ownInts (base := B) (F := Non) (cap := N) (fun x hx => by obtain ⟨v, _, rfl⟩ := List.mem_map.1 hx; have := hs v; unfold I64; omega) (by have := h.lo; omega) (by rw [lst_len]; simp) (by unfold maxLen; omega)
  rw [lst_len] at h5
  exact h5
set_option maxRecDepth 100000 in
set_option maxHeartbeats 8000000 in
theorem greedy_any (n : Int) (es : List Edg) (oe : Option Addr) (c : Nat) (F : Foot) (w : World) (hs : SliceR edgR 3 F w oe es) (hc : es.length ≤ c) (hc2 : es.length ≤ 1000)
    (f : List Nat) (hU : Hid (gErr n es = 0 → Uf f (eL es))) (d : List Int) (od : Option Addr) (cd : Nat) (G : Foot) (hd : SliceR intR 1 G w od d) (hdc : d.length ≤ cd) (hdl : d.length ≤ 9223372036854775807)
    (pk : List Int) (op : Option Addr) (cp : Nat) (H : Foot) (hp : SliceR intR 1 H w op pk) (hpc : pk.length ≤ cp) (hpl : pk.length ≤ 9223372036854775807) :
    Calls Tryz.prog 17 #[.agg #[.int .i64 n, .slice oe es.length c], .slice od d.length cd, .slice op pk.length cp] w (GrePost w (greedyR 1048576 n es f d pk)) := by
  obtain ⟨M, hM⟩ : ∃ M : Nat, M = 1048576 := ⟨_, rfl⟩
  rw [← hM]
  have HM := hide hM
  have hb0 := bnew (Below.refl w.heap.size w) (.cells #[.int .i64 n, .slice oe es.length c] 24)
  have bxx := Box.new w [.int .i64 n, .slice oe es.length c] 24
  have HK := hide (dgiven_any n es oe c F _ (hs.below edgR_ok hb0) hc (by omega) f hU d od cd G (hd.below intR_ok hb0) hdc hdl)
  have HPI : Hid (∀ u, Below w.heap.size w u → Calls Tryz.prog 52 #[.slice op pk.length cp] u fun e w' => e = .returned (.int .i64 (pkE pk)) ∧ u = w') := fun u hu => picked43_any pk op cp H u (hp.below intR_ok hu) hpc hpl
  have HD := hide hd
  have HS := hide hs
  have HPK := hide hp
  have HB := hide hb0
  have HX := hide bxx
  clear hs hd hp hb0 bxx hM
  go_enter Tryz.func17, Tryz.ntmps17
  go_wp2_with fail
  refine HK.out.mono ?_
  rintro e w2 ⟨rfl, hb2⟩
  have HB2 := hide (below_then HB.out hb2)
  have HX2 := hide (HX.out.below hb2)
  have HPI2 := hide (HPI.out w2 HB2.out)
  clear hb2
  by_cases hV : tErr n es f d = 0
  case neg =>
    have hR : Hid (greedyR M n es f d pk = (false, [], tErr n es f d)) := if_pos hV
    have hq : (tErr n es f d != 0) = true := by simpa using hV
    go_wp2_with fail
    go_ret3
    exact ⟨_, by rw [hR.out]; rfl, by rw [hR.out]; exact OwnS.nil _ _ _ _ _ _, HB2.out⟩
  obtain ⟨N, rfl, hT⟩ := tErr_ok hV
  have HT := hide hT
  have h12 := hT.n12
  have hdN := hT.len
  have HOK := hide (EOk.of hT.g hc2)
  by_cases hP : pkE pk = 0
  case neg =>
    have hR : Hid (greedyR M N es f d pk = (false, [], pkE pk)) := by show _ = _; unfold greedyR; rw [if_neg (fun h => h hV), if_pos hP]
    have hq : (pkE pk != 0) = true := by simpa using hP
    rw [hV]
    clear hV hT hdN
    go_wp2_with fail
    refine HPI2.out.mono ?_
    rintro e w3 ⟨rfl, rfl⟩
    go_wp2_with fail
    go_ret3
    exact ⟨_, by rw [hR.out]; rfl, by rw [hR.out]; exact OwnS.nil _ _ _ _ _ _, HB2.out⟩
  obtain ⟨D, hD⟩ : ∃ D : Nat → Int, D = fun v => d.getD v 0 := ⟨_, rfl⟩
  have hR : Hid (greedyR M N es f d pk = gRun N es pk M 0 D (fun _ => 0)) := by show _ = _; unfold greedyR; rw [if_neg (fun h => h hV), if_neg (fun h => h hP), Int.toNat_natCast, hD]
  have HDB : Hid (∀ u, -1048576 ≤ D u ∧ D u ≤ 1048576) := fun u => by
    rw [hD]
    show -1048576 ≤ d.getD u 0 ∧ d.getD u 0 ≤ 1048576
    rw [List.getD_eq_getElem?_getD]
    cases h : d[u]? with
    | none => simp
    | some x => have := hT.dB x (List.mem_of_getElem? h); simpa using this
  have HPZ := hide (pkE_zero hP)
  obtain ⟨Zs, hZs, hmk⟩ := mk_ints 26 3 Tryz.underlying26 (by kernel_rfl) N (by omega)
  have HDL : Hid (d = lst N D) := by
    show _ = _
    apply List.ext_getElem?
    intro i
    by_cases hi : i < N
    · rw [lst_get _ hi, hD]
      show _ = some (d.getD i 0)
      rw [List.getD_eq_getElem?_getD, List.getElem?_eq_getElem (by omega)]
      rfl
    · rw [List.getElem?_eq_none (by omega), List.getElem?_eq_none (by rw [lst_len]; omega)]
  have HCL : Hid (∀ u, Below w2.heap.size w2 u → Calls Tryz.prog 53 #[.slice od N cd] u fun e w' => ∃ gd c2 rest, e = .returned (.slice (some ⟨gd, 0, none⟩) N c2) ∧ Row1 (Value.int .i64) w' gd 3 (lst N D) rest ∧ N ≤ c2 ∧ u.heap.size ≤ gd ∧ Below u.heap.size u w') := fun u hu => by
    have h := cloneD_any d od cd G u ((HD.out.below intR_ok HB2.out).below intR_ok hu) hdc (by omega)
    rw [hdN] at h
    refine h.mono ?_
    rintro e w' ⟨v, rfl, ho, hb⟩
    obtain ⟨g, cap, rest, rfl, h1, h2, _, h4, _⟩ := ho.row (by intro e; rw [e] at hdN; simp at hdN; omega)
    rw [hdN] at h2 ⊢
    rw [HDL.out] at h4
    exact ⟨g, cap, rest, rfl, h4, by omega, h1, hb⟩
  have HZS := hide hZs
  obtain ⟨np, hnp⟩ : ∃ np, np = pk.length := ⟨_, rfl⟩
  have HNP := hide hnp
  have hnp1 : 0 < np ∧ np ≤ 4096 := by have := HPZ.out; omega
  have hnpc : np ≤ cp := by omega
  have y0 := HX2.out.cell 0
  simp only [List.getElem?_cons_zero, List.getElem?_cons_succ] at y0
  rw [hV]
  rw [← hnp] at HPI2 ⊢
  rw [hP] at HPI2
  rw [hdN]
  clear hV hT hdN hP hnp hdc hdl hZs hD hpc hpl HDL
  go_wp2_with fail
  refine HPI2.out.mono ?_
  rintro e w3 ⟨rfl, hw3⟩
  subst hw3
  go_upto_region 7 with fail
  go_cut [11, 12] (fun s11 s12 wx => ∃ gd c2 gs rest, s11 = .slice (some ⟨gd, 0, none⟩) N c2 ∧ s12 = .slice (some ⟨gs, 0, none⟩) N N ∧ N ≤ c2 ∧ Hid (GMem w2 N gd gs rest D (fun _ => 0) wx))
  case first =>
    go_region_held3 (fun w' => w'.cell? ⟨w.heap.size, 0, none⟩ = some (.int .i64 N)) (first | with_reducible exact y0 | with_reducible exact cell_next (cell_next y0 _) _ | with_reducible exact cell_drew (cell_next y0 _) | with_reducible exact cell_drew y0 | with_reducible exact cell_next y0 _) (first
      | (go_at_call 53; refine (HCL.out _ (by first | with_reducible exact (bnew (Below.refl _ _) _).drew | with_reducible exact (Below.refl _ _).drew)).mono ?_; rintro e w4 ⟨gd, c2, rest, rfl, hgd, hc2', hgl, hb4⟩; replace y0 := (hb4.cell (by first | with_reducible exact World.block_lt_of_cell? _ _ (cell_drew (cell_next y0 _)) | with_reducible exact World.block_lt_of_cell? _ _ (cell_drew y0))).trans (by first | with_reducible exact cell_drew (cell_next y0 _) | with_reducible exact cell_drew y0)))
    · go_wp2_with fail
      go_meet
      have hb40 := hb4
      simp only [drew_size, World.size_alloc] at hb4 hgl
      have hlt := hgd.lt
      have hsz := hb4.size
      have hbU : Below w2.heap.size w2 (w4.alloc (.cells Zs 3)) := ((Below.refl w2.heap.size w2).drew.trans hb4).alloc (by omega) (.cells Zs 3)
      exact ⟨gd, c2, w4.heap.size, rest, rfl, rfl, hc2', ⟨hgd.new _, by show Row1 _ _ _ _ (lst N fun _ => 0) _; rw [lst_zero]; exact row_new HZS.out w4, by omega, ⟨by omega, by omega⟩, hbU⟩⟩
    · go_wp2_with fail
      go_meet
      have hb40 := hb4
      simp only [drew_size, World.size_alloc] at hb4 hgl
      have hlt := hgd.lt
      have hsz := hb4.size
      simp only [drew_size, World.size_alloc] at hsz
      have hbU : Below w2.heap.size w2 w4 := (bnew (Below.refl w2.heap.size w2) (.cells Zs 3)).drew.trans (hb4.mono (by omega))
      exact ⟨gd, c2, w2.heap.size, rest, rfl, rfl, hc2', ⟨hgd, by show Row1 _ _ _ _ (lst N fun _ => 0) _; rw [lst_zero]; exact (row_new HZS.out w2).draw.below hb40, by omega, ⟨by omega, by omega⟩, hbU⟩⟩
  case rest =>
    obtain ⟨gd, c2, gs, rest, rfl, rfl, hc2', HG0⟩ := hcut
    have hwl := HX2.out.lt
    clear y0 hmk HCL HZS HPI HPI2 HK
    go_wp2_with fail
    go_loopg [13] M (fun gm iv wx => ∃ (k : Nat) (left s : Nat → Int), k ≤ M ∧ gm = M - k ∧ iv = .int .i64 k ∧ Hid (GMem w2 N gd gs rest left s wx) ∧ Hid (gRun N es pk M 0 D (fun _ => 0) = gRun N es pk (M - k) k left s) ∧ Hid (∀ u, -(1048576 + 100000 * (k : Int)) ≤ left u ∧ left u ≤ 1048576 + 100000 * (k : Int)) ∧ Hid (∀ u, -(k : Int) ≤ s u ∧ s u ≤ 0))
    case atStart => exact ⟨0, D, fun _ => 0, by omega, by omega, rfl, HG0, rfl, fun u => by have := HDB.out u; omega, fun u => by simp⟩
    case round =>
      obtain ⟨k, left, s, hk, hgm, rfl, HG, HRUN, HLB, HSB⟩ := hrel
      have HGM := hide hgm
      have hMk : M ≤ 1048576 := by have := HM.out; omega
      clear hgm HG0
      obtain ⟨wt, hwt0⟩ : ∃ wt : World, wt = wr := ⟨_, rfl⟩
      subst hwt0
      go_wp2_with fail
      go_loopg [14, 15, 16, 38] N (fun gm pv _ _ iv wx => ∃ j : Nat, j ≤ N ∧ gm = N - j ∧ iv = .int .i64 j ∧ Hid (OwnS intR 1 wt.heap.size 3 Non wx pv (poorL left j)) ∧ Hid (Below wt.heap.size wt wx))
      case atStart => exact ⟨0, by omega, by omega, rfl, OwnS.nil _ _ _ _ _ _, Below.refl _ _⟩
      case round =>
        obtain ⟨j, hj, hgm, rfl, HO, HBt⟩ := hrel
        have HGM2 := hide hgm
        clear hgm
        by_cases hlt : j < N
        · have e0 : wr.cell? ⟨gd, j, none⟩ = some (.int .i64 (left j)) := (HG.out.rd.below HBt.out).cell (lst_get left hlt)
          have hj0 : (0 : Int) ≤ j := by omega
          have hj1 : (j : Int) < N := by omega
          have hlb := HLB.out j
          have HPJ : Hid (poorL left (j + 1) = if left j < 0 then poorL left j ++ [(j : Int)] else poorL left j) := rfl
          have HPL := hide (poorL_len left j)
          have hij : I64 (j : Int) := by unfold I64; omega
          generalize left j = x at *
          by_cases hx : x < 0
          · have HPJ2 : Hid (poorL left (j + 1) = poorL left j ++ [(j : Int)]) := by show _ = _; rw [HPJ.out, if_pos hx]
            go_wp2_with (at_builtin; refine wpList_append_rep rfl (.tmp 45) (.tmp 47) 25 rfl wt.heap.size 3 _ 1 8 Tryz.underlying25 iInfo rfl (by decide) intR_ok Non All _ (poorL left j) (by simp [Act.eval, Act.put]) (HO.out.new intR_ok _) (some ⟨wr.heap.size, 0, none⟩) 1 [(j : Int)] (by simp [Act.eval, Act.put]) (intlF wr j hij trivial) (fun _ _ h => h) (fun _ h => h.elim) (by have := HPL.out; simp; omega) (by have := HPL.out; simp; omega) (by rw [alloc_size']; have := HBt.out.size; omega) ?_; intro v' w14 ho hb5 hg5; have HO5 := hide ho; have HB5' := hide hb5; clear ho hb5 hg5)
            go_roundg (N - (j + 1))
            case measure => have := HGM2.out; omega
            case rel => exact ⟨j + 1, by omega, rfl, by go_num, by rw [HPJ2.out]; exact HO5.out, (HBt.out.alloc HBt.out.size _).trans HB5'.out⟩
          · have HPJ2 : Hid (poorL left (j + 1) = poorL left j) := by show _ = _; rw [HPJ.out, if_neg hx]
            go_wp2_with fail
            go_roundg (N - (j + 1))
            case measure => have := HGM2.out; omega
            case rel => exact ⟨j + 1, by omega, rfl, by go_num, by rw [HPJ2.out]; exact HO.out, HBt.out⟩
        · have hje : j = N := by omega
          have HOE : Hid (OwnS intR 1 wt.heap.size 3 Non wr u14 (poorL left N)) := by rw [← hje]; exact HO.out
          obtain ⟨oP, cP, hpv, hcP, hsP⟩ := HOE.out.slice intR_ok
          subst hpv
          obtain ⟨pl, hpl⟩ : ∃ pl, pl = (poorL left N).length := ⟨_, rfl⟩
          have HPL := hide hpl
          have hplN : pl ≤ 12 := by have := poorL_len left N; omega
          have HSP := hide hsP
          have HGr := hide (HG.out.below HBt.out)
          have hMk2 : ∀ u, -2000000 ≤ s u ∧ s u ≤ 0 := fun u => by have := HSB.out u; omega
          have HMK2 := hide hMk2
          have HBW : Hid (Below w.heap.size w wr) := below_then HB2.out HGr.out.be
          have hw2 := HB2.out.size
          rw [← hpl] at hcP ⊢
          clear hje hpl hsP HO HOE hMk2
          by_cases hp0 : pl = 0
          · have hpe : poorL left N = [] := List.eq_nil_of_length_eq_zero (by have := HPL.out; omega)
            have HR2 : Hid (gRun N es pk M 0 D (fun _ => 0) = (true, lst N s, 0)) := by
              show _ = _
              rw [HRUN.out]
              cases M - k <;> (unfold gRun; rw [if_pos hpe])
            have q1 : ((pl : Int) == 0) = true := by rw [hp0]; rfl
            clear hp0 hpe
            go_wp2_with fail
            go_ret3
            exact ⟨_, by rw [hR.out, HR2.out]; rfl, by rw [hR.out, HR2.out]; exact HGr.out.own h12 HMK2.out hw2, HBW.out⟩
          · have hpe : poorL left N ≠ [] := fun h => hp0 (by rw [HPL.out, h]; rfl)
            have q1 : ((pl : Int) == 0) = false := by simp; intro e; rw [e] at hp0; exact hp0 rfl
            obtain ⟨x0, l0, hl0⟩ : ∃ x0 l0, lst N s = x0 :: l0 := by
              cases hl : lst N s with
              | nil => have := lst_len N s; rw [hl] at this; simp at this; omega
              | cons a b => exact ⟨a, b, rfl⟩
            have hll : (x0 :: l0).length = N := by rw [← hl0, lst_len]
            have hMX : Calls Tryz.prog 54 #[.slice (some ⟨gs, 0, none⟩) N N] wr fun e w' => e = .returned (.int .i64 (maxF x0 l0)) ∧ wr = w' := by
              have h5 := maxS_any x0 l0 (some ⟨gs, 0, none⟩) N All wr (by rw [← hl0]; exact HGr.out.rs.ints (fun y hy => by obtain ⟨v, _, rfl⟩ := List.mem_map.1 hy; have := HMK2.out v; unfold I64; omega) trivial) (by simp at hll; omega) (by simp at hll; omega)
              rw [hll] at h5
              exact h5
            have HMX := hide hMX
            have HAN := hide (allNeg_max hl0)
            have HPE := hide hpe
            generalize maxF x0 l0 = mx at *
            have hpl1 : 0 < pl := by omega
            clear hl0 hll hMX hp0 hpe
            go_wp2_with fail
            refine HMX.out.mono ?_
            rintro e w8 ⟨rfl, hw8⟩
            subst hw8
            by_cases hmx : mx < 0
            · have HR2 : Hid (gRun N es pk M 0 D (fun _ => 0) = (false, lst N s, 0)) := by
                have h5 : allNeg N s = true := by rw [← HAN.out]; exact decide_eq_true hmx
                show _ = _
                rw [HRUN.out]
                cases M - k <;> (unfold gRun; rw [if_neg HPE.out, if_pos h5])
              go_wp2_with fail
              go_ret3
              exact ⟨_, by rw [hR.out, HR2.out]; rfl, by rw [hR.out, HR2.out]; exact HGr.out.own h12 HMK2.out hw2, HBW.out⟩
            · have h5 : Hid (¬ allNeg N s = true) := by show ¬ _; rw [← HAN.out]; simpa using hmx
              by_cases hkM : k = M
              · have HR2 : Hid (gRun N es pk M 0 D (fun _ => 0) = (false, [], 12)) := by
                  show _ = _
                  rw [HRUN.out, hkM, Nat.sub_self]
                  unfold gRun
                  rw [if_neg HPE.out, if_neg h5.out]
                have q2 : ((k : Int) == 1048576) = true := by simp; have := HM.out; omega
                clear hkM
                go_wp2_with fail
                go_ret3
                exact ⟨_, by rw [hR.out, HR2.out]; rfl, by rw [hR.out, HR2.out]; exact OwnS.nil _ _ _ _ _ _, HBW.out⟩
              · have q2 : ((k : Int) == 1048576) = false := by simp; have := HM.out; omega
                obtain ⟨hvN, hvl, hvg⟩ := gPick_ok (picks := pk) (i := k) HPE.out
                have HRUN2 : Hid (gRun N es pk M 0 D (fun _ => 0) = gRun N es pk (M - (k + 1)) (k + 1) (borF es (gPick pk k (poorL left N)) left) (putF s (gPick pk k (poorL left N)) (s (gPick pk k (poorL left N)) - 1))) := by
                  show _ = _
                  rw [HRUN.out, show M - k = (M - (k + 1)) + 1 by omega, gRun, if_neg HPE.out, if_neg h5.out]
                generalize gPick pk k (poorL left N) = v at *
                obtain ⟨A, hA⟩ : ∃ A, A = k % np := ⟨_, rfl⟩
                have hAl : A < np := by rw [hA]; exact Nat.mod_lt _ (by omega)
                have rem1 : ((k : Int)).tmod (np : Int) = (A : Int) := by rw [hA, Int.tmod_eq_emod_of_nonneg (by omega)]; rfl
                obtain ⟨Yi, _, hYg, hYi, bP, offP, hoP, _, cY⟩ := (HPK.out.below intR_ok HBW.out).int_at (i := A) (by rw [← HNP.out]; exact hAl)
                subst hoP
                obtain ⟨Y, rfl⟩ := Int.eq_ofNat_of_zero_le (HPZ.out.2.2 Yi (List.mem_of_getElem? hYg))
                have hYb : (Y : Int) ≤ 9223372036854775807 := by unfold I64 at hYi; omega
                obtain ⟨J, hJ⟩ : ∃ J, J = Y % pl := ⟨_, rfl⟩
                have hJl : J < pl := by rw [hJ]; exact Nat.mod_lt _ (by omega)
                have rem2 : ((Y : Int)).tmod (pl : Int) = (J : Int) := by rw [hJ, Int.tmod_eq_emod_of_nonneg (by omega)]; rfl
                rw [← HNP.out, ← HPL.out, ← hA, List.getD_eq_getElem?_getD, hYg, Option.getD_some, Int.toNat_natCast, ← hJ] at hvg
                obtain ⟨x, _, hxg, _, bQ, offQ, hoQ, _, cQ⟩ := HSP.out.int_at (i := J) (by rw [← HPL.out]; exact hJl)
                rw [hvg] at hxg
                injection hxg with hxg
                subst hxg hoQ
                have hkl : k < M := by omega
                clear hYg hA hJ hvg hkM
                have hlb := HLB.out v
                obtain ⟨sv, hsv⟩ : ∃ sv, sv = s v := ⟨_, rfl⟩
                have hsb := HSB.out v
                rw [← hsv] at hsb
                have e0 : wr.cell? ⟨gs, v, none⟩ = some (.int .i64 sv) := by rw [hsv]; exact HGr.out.rs.cell (lst_get s hvN)
                have f0 := HGr.out.rs.free v
                have hv0 : (0 : Int) ≤ v := by omega
                have hv1 : (v : Int) < N := by omega
                have HSV := hide hsv
                obtain ⟨W8, hW8⟩ : ∃ W8, wr.setCell ⟨gs, v, none⟩ (.int .i64 (sv - 1)) = W8 := ⟨_, rfl⟩
                have hlo := HGr.out.lo
                have HG8 : Hid (GMem w2 N gd gs rest left (putF s v (sv - 1)) W8) := by
                  rw [← hW8]
                  have h6 := HGr.out.rs.put (i := v) (by rw [lst_len]; exact hvN) (sv - 1)
                  rw [lst_set] at h6
                  exact ⟨HGr.out.rd.other HGr.out.ne _, h6, HGr.out.ne, HGr.out.lo, HGr.out.be.setCell hlo.2 _⟩
                have bx8 := HX2.out.under HG8.out.be hwl
                have y0 := bx8.cell 0
                have y1 := bx8.cell 1
                simp only [List.getElem?_cons_zero, List.getElem?_cons_succ] at y0 y1
                have HBOR := hide (borrow_any HOK.out oe c F w2 W8 (HS.out.below edgR_ok HB2.out) hc HG8.out.be gd c2 rest left HG8.out.rd hlo.1 hc2' h12 (fun u => by have := HLB.out u; omega) v hvN)
                clear bx8 hsv hlb
                go_wp2_with fail
                refine HBOR.out.mono ?_
                rintro e w9 ⟨rfl, hr9, hf9⟩
                have HG9 : Hid (GMem w2 N gd gs rest (borF es v left) (putF s v (sv - 1)) w9) :=
                  ⟨hr9, HG8.out.rs.keep (hf9.2 gs HG8.out.rs.lt (fun h => HG8.out.ne h.symm)), HG8.out.ne, HG8.out.lo, HG8.out.be.trans hf9.1⟩
                clear hr9 hf9
                go_wp2_with fail
                go_roundg (M - (k + 1))
                case rel => exact ⟨k + 1, borF es v left, putF s v (sv - 1), by omega, rfl, by go_num, HG9, by rw [HSV.out]; exact HRUN2, fun u => by have := borF_bnd HOK.out (v := v) HLB.out u; push_cast; omega, fun u => by
                  have := HSB.out u
                  by_cases e : u = v
                  · subst e; rw [putF_at]; push_cast; omega
                  · rw [putF_ne _ _ e]; push_cast; omega⟩
                case measure => rw [HGM.out]; omega
end Go.Proofs.YtpgopmmobbemcaaGreat

/-
  A solution of the dollar game wins, costs no less than the bound, and no more than a greedy game that was made as cheap as possible: for all graphs, divisors and limits.
  DollarBounds: the walk.
  A solution wins, costs no less than the bound, and no more than a greedy game made cheap: in plain Lean.
  law43.small, and what a won greedy game gives.
  ref08.FewRanks and ref43.Small.
  The reference's Solve.
  The reference's search for a winning script, and its Solve.
  The reference's Wins: borrowing, one vertex in debt after the other.
  Borrowing decides who wins, in plain Lean: the greedy game, and the reference's Wins.
  Solve against the reference's search, in plain Lean.
  The reference's Wins and Verify.
  The dollar game: Verify.
-/
import Derived.Test.YtpgopmmobbemcaaGreatDb5
import Derived.Test.YtpgopmmobbemcaaGreatRows

set_option linter.unusedVariables false
set_option linter.unusedSimpArgs false
set_option linter.unnecessarySimpa false
namespace Go.Proofs.YtpgopmmobbemcaaGreat
open Go.RowKit

def verifyR (n : Int) (es : List Edg) (f : List Nat) (d s : List Int) : Int × Int :=
  if tErr n es f d ≠ 0 then (0, tErr n es f d) else if fErr n es s ≠ 0 then (0, fErr n es s) else if 0 < oweS es d s then (0, 16) else (costS s, 0)
def Int2Post (w : World) (r : Int × Int) (e : Ending) (w' : World) : Prop := e = .returned (.tuple #[.int .i64 r.1, .int .i64 r.2]) ∧ Below w.heap.size w w'
set_option maxRecDepth 100000 in
set_option maxHeartbeats 4000000 in
theorem verify_any (n : Int) (es : List Edg) (oe : Option Addr) (c : Nat) (F : Foot) (w : World) (hs : SliceR edgR 3 F w oe es) (hc : es.length ≤ c) (hc2 : es.length ≤ 1000)
    (f : List Nat) (hU : Hid (gErr n es = 0 → Uf f (eL es))) (d : List Int) (od : Option Addr) (cd : Nat) (G : Foot) (hd : SliceR intR 1 G w od d) (hdc : d.length ≤ cd) (hdl : d.length ≤ 9223372036854775807)
    (s : List Int) (os : Option Addr) (cs : Nat) (S : Foot) (hS : SliceR intR 1 S w os s) (hsc : s.length ≤ cs) (hsl : s.length ≤ 9223372036854775807) :
    Calls Tryz.prog 25 #[.agg #[.int .i64 n, .slice oe es.length c], .slice od d.length cd, .slice os s.length cs] w (Int2Post w (verifyR n es f d s)) := by
  have hb0 := bnew (Below.refl w.heap.size w) (.cells #[.int .i64 n, .slice oe es.length c] 24)
  have bxx := Box.new w [.int .i64 n, .slice oe es.length c] 24
  have HK := hide (dgiven_any n es oe c F _ (hs.below edgR_ok hb0) hc (by omega) f hU d od cd G (hd.below intR_ok hb0) hdc hdl)
  have HD := hide hd
  have HS := hide hs
  have HSS := hide hS
  have HB := hide hb0
  have HX := hide bxx
  clear hs hd hS hb0 bxx
  go_enter Tryz.func25, Tryz.ntmps25
  go_wp2_with fail
  refine HK.out.mono ?_
  rintro e w2 ⟨rfl, hb2⟩
  have HB2 := hide (below_then HB.out hb2)
  have HX2 := hide (HX.out.below hb2)
  have y0 := HX2.out.cell 0
  have y1 := HX2.out.cell 1
  simp only [List.getElem?_cons_zero, List.getElem?_cons_succ] at y0 y1
  clear hb2
  by_cases hV : tErr n es f d = 0
  case neg =>
    have hR : Hid (verifyR n es f d s = (0, tErr n es f d)) := if_pos hV
    have hq : (tErr n es f d != 0) = true := by simpa using hV
    go_wp2_with fail
    go_ret2
    exact ⟨by rw [hR.out]; rfl, HB2.out⟩
  obtain ⟨N, rfl, hT⟩ := tErr_ok hV
  have HT := hide hT
  have h12 := hT.n12
  have hdN := hT.len
  have HFC := hide (fcheckG_any N es oe c F w2 (HS.out.below edgR_ok HB2.out) hc (by omega) s os cs S (HSS.out.below intR_ok HB2.out) hsc hsl)
  have HRR : Hid (verifyR N es f d s = if fErr N es s ≠ 0 then (0, fErr N es s) else if 0 < oweS es d s then (0, 16) else (costS s, 0)) := if_neg (fun h => h hV)
  rw [hV]
  clear hV
  go_wp2_with fail
  refine HFC.out.mono ?_
  rintro e w3 ⟨rfl, hb3⟩
  have HB3 := hide (below_then HB2.out hb3)
  have HX3 := hide (HX2.out.below hb3)
  clear hb3 y0 y1
  have y0 := HX3.out.cell 0
  have y1 := HX3.out.cell 1
  simp only [List.getElem?_cons_zero, List.getElem?_cons_succ] at y0 y1
  by_cases hF : fErr N es s = 0
  case neg =>
    have hR : Hid (verifyR N es f d s = (0, fErr N es s)) := by show _ = _; rw [HRR.out, if_pos hF]
    have hq : (fErr N es s != 0) = true := by simpa using hF
    clear hT hdN
    go_wp2_with fail
    go_ret2
    exact ⟨by rw [hR.out]; rfl, HB3.out⟩
  have hds : dErr N s = 0 := by
    have h5 := hF
    unfold fErr at h5
    rw [if_pos hT.g] at h5
    exact h5
  obtain ⟨_, hsN0, hsB⟩ := dErr_len hds
  have hsN : s.length = N := by omega
  have HR2 : Hid (verifyR N es f d s = if 0 < oweS es d s then (0, 16) else (costS s, 0)) := by show _ = _; rw [HRR.out, if_neg (fun h => h hF)]
  have hok := EOk.of hT.g hc2
  obtain ⟨W4, e4⟩ : ∃ W4, w3.alloc (.cells #[.int .i64 N, .slice oe es.length c, .slice od N cd, .int .i64 0, .int .i64 0] 102) = W4 := ⟨_, rfl⟩
  have bx4 : Box W4 w3.heap.size [.int .i64 N, .slice oe es.length c, .slice od N cd, .int .i64 0, .int .i64 0] 102 := by rw [← e4]; exact Box.new w3 [.int .i64 N, .slice oe es.length c, .slice od N cd, .int .i64 0, .int .i64 0] 102
  have hb4 : Below w.heap.size w W4 := by rw [← e4]; exact HB3.out.alloc HB3.out.size _
  have q1 := bx4.cell 1
  have q2 := bx4.cell 2
  simp only [List.getElem?_cons_zero, List.getElem?_cons_succ] at q1 q2
  have HBE := hide (behind_any hok h12 oe c F W4 (HS.out.below edgR_ok hb4) hc d od cd G (HD.out.below intR_ok hb4) (by omega) hdN w3.heap.size q1 q2 s os cs S (HSS.out.below intR_ok hb4) hsN (fun y hy => by have := hsB y hy; omega) hT.dB)
  have HB4 := hide hb4
  have hmB : ∀ y ∈ movedL s es d, -1000000000000 ≤ y ∧ y ≤ 1000000000000 := fun y hy => by
    have hve : ∀ x ∈ es, (0 ≤ x.m ∧ x.m ≤ 50) ∧ x.a.toNat < d.length ∧ x.b.toNat < d.length := fun x hx => by
      have := hok.at_ x hx
      omega
    have h1 := moved_bound (s := s) (fun y hy => by have := hsB y hy; omega) hve hT.dB es.length (by omega) y (by rw [List.take_length]; exact hy)
    omega
  have HMB := hide hmB
  have hml : (movedL s es d).length = N := by rw [moved_len, hdN]
  have HML := hide hml
  have HCO : Hid (∀ W, Below w.heap.size w W → Calls Tryz.prog 47 #[.slice os N cs] W fun e w' => e = .returned (.int .i64 (costS s)) ∧ W = w') := fun W hW => by
    have h9 := cost_any s os cs S W (HSS.out.below intR_ok hW) hsc (by omega) (fun k hk => by have := hsB k hk; omega)
    rw [hsN] at h9
    exact h9
  rw [hF]
  try rw [hdN]
  try rw [hsN]
  clear hF hT hdN hds hsN0 hsB hsN hok bx4 hb4 q1 q2 hmB hml HRR
  go_wp2_with fail
  refine HBE.out.mono ?_
  rintro e w5 ⟨g, cap, rest, rfl, hcap, hg, hr, hb5⟩
  have HB5 := hide (below_then HB4.out hb5)
  have HOW : Hid (Calls Tryz.prog 64 #[.slice (some ⟨g, 0, none⟩) N cap] w5 fun e w' => e = .returned (.int .i64 (oweS es d s)) ∧ w5 = w') := by
    have h5 := owed_any (movedL s es d) (some ⟨g, 0, none⟩) cap All w5 (hr.ints (fun y hy => by have := HMB.out y hy; unfold I64; omega) trivial) (by rw [HML.out]; exact hcap) (by rw [HML.out]; omega) HMB.out
    rw [HML.out] at h5
    exact h5
  have HCO5 := hide (HCO.out w5 HB5.out)
  generalize oweS es d s = o at *
  clear hr hb5 hg e4
  go_wp2_with fail
  refine HOW.out.mono ?_
  rintro e w6 ⟨rfl, hw6⟩
  subst hw6
  by_cases ho : 0 < o
  · have hR : Hid (verifyR N es f d s = (0, 16)) := by show _ = _; rw [HR2.out, if_pos ho]
    go_wp2_with fail
    go_ret2
    exact ⟨by rw [hR.out]; rfl, HB5.out⟩
  · have hR : Hid (verifyR N es f d s = (costS s, 0)) := by show _ = _; rw [HR2.out, if_neg ho]
    go_wp2_with fail
    refine HCO5.out.mono ?_
    rintro e w7 ⟨rfl, hw7⟩
    subst hw7
    go_wp2_with fail
    go_ret2
    exact ⟨by rw [hR.out]; rfl, HB5.out⟩
end Go.Proofs.YtpgopmmobbemcaaGreat

set_option linter.unusedVariables false
set_option linter.unusedSimpArgs false
set_option linter.unnecessarySimpa false
namespace Go.Proofs.YtpgopmmobbemcaaGreat
open Go.RowKit

theorem owed_paid : ∀ d : List Int, paidL d = decide (owedL d = 0)
  | [] => rfl
  | x :: r => by
    have h1 := owed_paid r
    have h2 := owedL_nn r
    have e1 : paidL (x :: r) = (decide (0 ≤ x) && paidL r) := rfl
    have e2 : owedL (x :: r) = max 0 (-x) + owedL r := rfl
    rw [e1, h1, e2, Bool.eq_iff_iff]
    simp only [Bool.and_eq_true, decide_eq_true_eq]
    omega
end Go.Proofs.YtpgopmmobbemcaaGreat

set_option linter.unusedVariables false
set_option linter.unusedSimpArgs false
namespace Go.Proofs.YtpgopmmobbemcaaGreat
open Go.RowKit

/-- The sum over a list, as a sum over indices. -/
theorem owedL_sum : ∀ (l : List Int), owedL l = owedF l.length (fun v => l.getD v 0) := by
  have key : ∀ (l : List Int) (k : Nat), k ≤ l.length → owedL (l.take k) = owedF k (fun v => l.getD v 0) := by
    intro l k
    induction k with
    | zero => intro _; rfl
    | succ k ih =>
      intro hk
      have hlt : k < l.length := by omega
      have h1 := ih (by omega)
      have h2 : l.drop k = l[k] :: l.drop (k + 1) := (List.drop_eq_getElem_cons hlt)
      rw [owedL_take h2, h1]
      unfold owedF
      rw [sumI]
      congr 1
      show max 0 (-l[k]) = max 0 (-(l.getD k 0))
      rw [List.getD_eq_getElem?_getD, List.getElem?_eq_getElem hlt]
      rfl
  intro l
  have h1 := key l l.length (by omega)
  rw [List.take_length] at h1
  exact h1
theorem oweS_app {N : Nat} {es : List Edg} {d : List Int} (hok : EOk N es) (hd : d.length = N) (s : List Int) : oweS es d s = owedF N (app N (linkE es) (fun u => d.getD u 0) (fun u => s.getD u 0)) := by
  unfold oweS
  rw [owedL_sum, moved_len, hd]
  unfold owedF
  exact sumI_eq fun v hv => by
    show max 0 (-((movedL s es d).getD v 0)) = _
    rw [moved_link (fun y hy => (hok.at_ y hy).1) hd hv]
theorem nud_at (s : List Int) {v : Nat} (hv : v < s.length) (k : Int) (u : Nat) : (nudS s v k).getD u 0 = fireF (oneB v) k (fun u => s.getD u 0) u := by
  unfold nudS fireF oneB
  simp only [List.getD_eq_getElem?_getD, List.getElem?_set]
  by_cases e : v = u
  · subst e
    simp [hv]
  · rw [if_neg e, if_neg (by simp; exact fun h => e h.symm)]
    simp
theorem grtE_ge {es : List Edg} {v : Nat} : ∀ {k : Nat}, v < k → valE es v ≤ grtE es k
  | 0, h => by omega
  | k + 1, h => by
    unfold grtE
    by_cases e : v = k
    · subst e; omega
    · have := grtE_ge (es := es) (v := v) (k := k) (by omega)
      omega
theorem owe_ok {N : Nat} {es : List Edg} {d : List Int} (hV : gErr N es = 0) (hok : EOk N es) (hd : d.length = N) : Owe N (oweS es d) (grtE es N) where
  nn := fun s => owedL_nn _
  mo := (grtE_le (fun v => valE_bound hV hok.len v) N).1
  mv := fun s v k hs hv hk => by
    have hGr : Gr N (linkE es) := linkE_gr fun y hy => by have := (hok.at_ y hy).2; omega
    have h1 := owed_move (D := fun u => d.getD u 0) (s := fun u => s.getD u 0) hGr hv hk
    have h2 := val_link v (fun y hy => (hok.at_ y hy).1)
    have h3 := grtE_ge (es := es) hv
    have e : app N (linkE es) (fun u => d.getD u 0) (fun u => (nudS s v k).getD u 0) = app N (linkE es) (fun u => d.getD u 0) (fireF (oneB v) k fun u => s.getD u 0) := by
      congr 1
      funext u
      exact nud_at s (by omega) k u
    rw [oweS_app hok hd, oweS_app hok hd, e]
    omega
/-- The search of the reference. -/
def refF (N : Nat) (wins : List Int → Bool) : Nat → Nat → List Int × Int × Int
  | 0, _ => ([], 0, 12)
  | fuel + 1, n => match firstS wins N [] n with
    | some s => (s, n, 0)
    | none => refF N wins fuel (n + 1)
theorem sol_ref {N : Nat} {owe : List Int → Int} {most limit : Int} (h : Owe N owe most) : ∀ (fuel n : Nat), (fuel : Int) + n ≤ limit + 1 → solF N owe most limit fuel n = refF N (winsO owe) fuel n
  | 0, _, _ => rfl
  | fuel + 1, n, hl => by
    unfold solF refF
    rw [lay_first (limit := limit) h (cmp := cmpL) (fun s t hs ht => cmpL_lt (by omega)) (n := n) (by push_cast at hl; omega), sol_ref h fuel (n + 1) (by push_cast at hl ⊢; omega)]
    try (cases firstS (winsO owe) N [] n <;> rfl)
def refSolveR (n : Int) (es : List Edg) (f : List Nat) (d : List Int) (limit : Int) (b : Bool) : List Int × Int × Int :=
  if tErr n es f d ≠ 0 then ([], 0, tErr n es f d) else if limit < 0 ∨ 8 < limit then ([], 0, 2) else if b = false then ([], 0, 6) else refF n.toNat (fun s => paidL (movedL s es d)) (limit.toNat + 1) 0
theorem solve_ref (n : Int) (es : List Edg) (f : List Nat) (d : List Int) (limit : Int) (b : Bool) (hc2 : es.length ≤ 1000) : solveR n es f d limit b = refSolveR n es f d limit b := by
  unfold solveR refSolveR
  by_cases h1 : tErr n es f d ≠ 0
  · rw [if_pos h1, if_pos h1]
  rw [if_neg h1, if_neg h1]
  by_cases h2 : limit < 0 ∨ 8 < limit
  · rw [if_pos h2, if_pos h2]
  rw [if_neg h2, if_neg h2]
  by_cases h3 : b = false
  · rw [if_pos h3, if_pos h3]
  rw [if_neg h3, if_neg h3]
  obtain ⟨N, rfl, hT⟩ := tErr_ok (f := f) (d := d) (es := es) (n := n) (by simpa using h1)
  have hok := EOk.of hT.g hc2
  rw [Int.toNat_natCast, sol_ref (owe_ok hT.g hok hT.len) _ _ (by push_cast; omega)]
  congr 1
  funext s
  rw [owed_paid]
  rfl
end Go.Proofs.YtpgopmmobbemcaaGreat

set_option linter.unusedVariables false
set_option linter.unusedSimpArgs false
namespace Go.Proofs.YtpgopmmobbemcaaGreat
open Go.RowKit

/-- What a game of borrowing needs. -/
structure GOk (N : Nat) (es : List Edg) (d : List Int) : Prop where
  ok : EOk N es
  n1 : 1 ≤ N
  conn : Conn N (linkE es)
  sm : SmG N es d
theorem GOk.gr {N : Nat} {es : List Edg} {d : List Int} (h : GOk N es d) : Gr N (linkE es) := linkE_gr fun y hy => by have := (h.ok.at_ y hy).2; omega
theorem GOk.few {N : Nat} {es : List Edg} {d : List Int} (h : GOk N es d) {b : Nat → Nat} (hb : Bor N (linkE es) (fun v => d.getD v 0) b) {z : Nat} (hz : z < N) (hbz : b z = 0) : sumI (fun v => (b v : Int)) N ≤ 11340 := by
  have h6 := h.sm.n6
  have h1 := h.n1
  have hD : ∀ v, v < N → -(60 : Int) ≤ (fun v => d.getD v 0) v := fun v _ => by
    show -(60 : Int) ≤ d.getD v 0
    rw [List.getD_eq_getElem?_getD]
    rcases hx : d[v]? with _ | x
    · simp
    · have := h.sm.dB x (List.mem_of_getElem? hx)
      simpa using this.1
  have h2 : sumI (vlR N (linkE es)) N = sumI (fun v : Nat => valE es v) N := sumI_eq fun v hv => (val_link v fun x hx => (h.ok.at_ x hx).1).symm
  have h3 := val_sum (n := N) (es := es) fun x hx => by have := (h.ok.at_ x hx).2; omega
  have h4 := h.sm.sz
  have h5 : sumI (fun _ => (60 : Int)) N = 60 * N := by
    have : ∀ n : Nat, sumI (fun _ => (60 : Int)) n = 60 * n := fun n => by
      induction n with
      | zero => rfl
      | succ n ih => rw [sumI, ih]; push_cast; omega
    exact this N
  have h7 : sumI (fun u => vlR N (linkE es) u + 60) N ≤ 378 := by
    rw [sumI_add, h5]
    omega
  have h8 : ∀ v, v < N → (b v : Int) ≤ 1890 := fun v hv => by
    have h9 := hb.range h.gr h.conn hD (by omega) hz hbz hv
    have h10 : ((N - 1 : Nat) : Int) * sumI (fun u => vlR N (linkE es) u + 60) N ≤ ((N - 1 : Nat) : Int) * 378 := Int.mul_le_mul_of_nonneg_left h7 (by omega)
    omega
  have h11 := sumI_le (f := fun v => (b v : Int)) (g := fun _ => 1890) (n := N) h8
  have h12 : ∀ n : Nat, sumI (fun _ => (1890 : Int)) n = 1890 * n := fun n => by
    induction n with
    | zero => rfl
    | succ n ih => rw [sumI, ih]; push_cast; omega
  rw [h12] at h11
  omega
/-- A game of borrowing under way. -/
structure GSt (N : Nat) (es : List Edg) (d : List Int) (i : Nat) (b : Nat → Nat) (left : Nat → Int) : Prop where
  bor : Bor N (linkE es) (fun v => d.getD v 0) b
  left : ∀ v, v < N → left v = app N (linkE es) (fun v => d.getD v 0) (negU b) v
  sum : sumI (fun v => (b v : Int)) N = i
  few : i ≤ 11341
theorem GSt.zero {N : Nat} {es : List Edg} {d : List Int} : GSt N es d 0 (fun _ => 0) (fun v => d.getD v 0) where
  bor := .zero
  left := fun v hv => by
    have e : negU (fun _ => 0) = fun _ => 0 := by funext v; simp [negU]
    rw [e, app_zero]
  sum := sumI_zero N
  few := by omega
theorem GSt.step {N : Nat} {es : List Edg} {d : List Int} (h : GOk N es d) {i : Nat} {b : Nat → Nat} {left : Nat → Int} (hg : GSt N es d i b left) {z : Nat} (hz : z < N) (hbz : b z = 0) {v : Nat} (hv : v < N) (hl : left v < 0) : GSt N es d (i + 1) (upU b v 1) (borF es v left) where
  bor := .step hg.bor hv (by rw [← hg.left v hv]; exact hl)
  left := fun u hu => by
    rw [borF_at h.ok hv hu, hg.left u hu, app_up h.gr b hv hu, h.gr.sym v u]
  sum := by
    have h1 := sumI_one (f := fun u => (upU b v 1 u : Int)) (g := fun u => (b u : Int)) hv (fun p hp hne => by rw [upU_ne _ _ hne])
    rw [h1, hg.sum, upU_at]
    push_cast
    omega
  few := by
    have h1 := h.few hg.bor hz hbz
    rw [hg.sum] at h1
    omega
theorem GSt.le {N : Nat} {es : List Edg} {d : List Int} {i : Nat} {b : Nat → Nat} {left : Nat → Int} (hg : GSt N es d i b left) {v : Nat} (hv : v < N) : b v ≤ 11341 := by
  have h1 := sumI_one (f := fun u => (b u : Int)) (g := fun u => if u = v then 0 else (b u : Int)) hv (fun p hp hne => by rw [if_neg hne])
  have h2 : 0 ≤ sumI (fun u => if u = v then 0 else (b u : Int)) N := sumI_nn fun p hp => by split <;> omega
  rw [hg.sum, if_pos rfl] at h1
  have h3 := hg.few
  omega
/-- How a game of borrowing ends. -/
structure GEnd (N : Nat) (es : List Edg) (d : List Int) (a : Bool) (b : Nat → Nat) : Prop where
  bor : Bor N (linkE es) (fun v => d.getD v 0) b
  won : a = true → ∀ v, v < N → 0 ≤ app N (linkE es) (fun v => d.getD v 0) (negU b) v
  lost : a = false → ¬ Winn N (linkE es) (fun v => d.getD v 0)
  le : ∀ v, v < N → b v ≤ 11341
theorem GEnd.iff {N : Nat} {es : List Edg} {d : List Int} {a : Bool} {b : Nat → Nat} (h : GEnd N es d a b) : a = true ↔ Winn N (linkE es) (fun v => d.getD v 0) := by
  constructor
  · intro ha
    exact h.bor.won (h.won ha)
  · intro hw
    cases ha : a
    · exact absurd hw (h.lost ha)
    · rfl
theorem GSt.won {N : Nat} {es : List Edg} {d : List Int} {i : Nat} {b : Nat → Nat} {left : Nat → Int} (hg : GSt N es d i b left) (hp : ∀ v, v < N → 0 ≤ left v) : GEnd N es d true b where
  bor := hg.bor
  won := fun _ v hv => by rw [← hg.left v hv]; exact hp v hv
  lost := fun h => by cases h
  le := fun v hv => hg.le hv
theorem GSt.lost {N : Nat} {es : List Edg} {d : List Int} (h : GOk N es d) {i : Nat} {b : Nat → Nat} {left : Nat → Int} (hg : GSt N es d i b left) (ha : ∀ v, v < N → 1 ≤ b v) : GEnd N es d false b where
  bor := hg.bor
  won := fun h => by cases h
  lost := fun _ => hg.bor.lost h.gr h.n1 ha
  le := fun v hv => hg.le hv
theorem poorL_nil {left : Nat → Int} {N : Nat} (h : poorL left N = []) : ∀ v, v < N → 0 ≤ left v := fun v hv => by
  refine Classical.byContradiction fun hn => ?_
  have : (v : Int) ∈ poorL left N := poorL_mem.2 ⟨v, rfl, hv, by omega⟩
  rw [h] at this
  simp at this
theorem gRun_law {N : Nat} {es : List Edg} {d : List Int} (h : GOk N es d) (picks : List Int) : ∀ (fuel i : Nat) (left s : Nat → Int) (b : Nat → Nat), GSt N es d i b left → (∀ v, v < N → s v = -(b v : Int)) → 11341 ≤ fuel + i →
    ∃ a g, gRun N es picks fuel i left s = (a, lst N (negU g), 0) ∧ GEnd N es d a g := by
  intro fuel
  induction fuel with
  | zero =>
    intro i left s b hg hs hf
    have hls : lst N s = lst N (negU b) := lst_congr fun v hv => hs v hv
    unfold gRun
    by_cases hp : poorL left N = []
    · rw [if_pos hp, hls]
      exact ⟨true, b, rfl, hg.won (poorL_nil hp)⟩
    · rw [if_neg hp]
      by_cases ha : allNeg N s = true
      · rw [if_pos ha, hls]
        exact ⟨false, b, rfl, hg.lost h fun v hv => by have := allNeg_true.1 ha v hv; have := hs v hv; omega⟩
      · obtain ⟨z, hz, hbz⟩ : ∃ z, z < N ∧ b z = 0 := by
          refine Classical.byContradiction fun hn => ha (allNeg_true.2 fun v hv => ?_)
          have : b v ≠ 0 := fun e => hn ⟨v, hv, e⟩
          rw [hs v hv]
          omega
        have h1 := h.few hg.bor hz hbz
        rw [hg.sum] at h1
        omega
  | succ fuel ih =>
    intro i left s b hg hs hf
    have hls : lst N s = lst N (negU b) := lst_congr fun v hv => hs v hv
    unfold gRun
    by_cases hp : poorL left N = []
    · rw [if_pos hp, hls]
      exact ⟨true, b, rfl, hg.won (poorL_nil hp)⟩
    · rw [if_neg hp]
      by_cases ha : allNeg N s = true
      · rw [if_pos ha, hls]
        exact ⟨false, b, rfl, hg.lost h fun v hv => by have := allNeg_true.1 ha v hv; have := hs v hv; omega⟩
      · rw [if_neg ha]
        obtain ⟨z, hz, hbz⟩ : ∃ z, z < N ∧ b z = 0 := by
          refine Classical.byContradiction fun hn => ha (allNeg_true.2 fun v hv => ?_)
          have : b v ≠ 0 := fun e => hn ⟨v, hv, e⟩
          rw [hs v hv]
          omega
        obtain ⟨hv, hl, _⟩ := gPick_ok (picks := picks) (i := i) hp
        refine ih (i + 1) _ _ _ (hg.step h hz hbz hv hl) (fun u hu => ?_) (by omega)
        by_cases e : u = gPick picks i (poorL left N)
        · rw [e, putF_at, upU_at, hs _ hv]
          push_cast
          omega
        · rw [putF_ne _ _ e, upU_ne _ _ e]
          exact hs u hu
/-- Two games end alike. -/
theorem GEnd.same {N : Nat} {es : List Edg} {d : List Int} (h : GOk N es d) {a c : Bool} {b g : Nat → Nat} (h1 : GEnd N es d a b) (h2 : GEnd N es d c g) : a = c ∧ (a = true → lst N (negU b) = lst N (negU g)) := by
  have e : a = c := by rw [Bool.eq_iff_iff, h1.iff, h2.iff]
  refine ⟨e, fun ha => lst_congr fun v hv => ?_⟩
  have h3 := h1.bor.same h.gr h2.bor (h1.won ha) (h2.won (by rw [← e]; exact ha)) v hv
  unfold negU
  rw [h3]
/-- The reference's Wins. -/
def allB (N : Nat) (bor : Nat → Bool) : Bool := (List.range N).all bor
def wRun (N : Nat) (es : List Edg) : Nat → (Nat → Int) → (Nat → Bool) → Bool
  | 0, _, _ => false
  | fuel + 1, left, bor => if debtorL (lst N left) 0 < 0 then true else if allB N bor = true then false else
      wRun N es fuel (borF es (debtorL (lst N left) 0).toNat left) (fun u => if u = (debtorL (lst N left) 0).toNat then true else bor u)
end Go.Proofs.YtpgopmmobbemcaaGreat

set_option linter.unusedVariables false
set_option linter.unusedSimpArgs false
set_option linter.unnecessarySimpa false
namespace Go.Proofs.YtpgopmmobbemcaaGreat
open Go.RowKit

/-- The chips when v borrows, up to vertex k. -/
def refB (es : List Edg) (v : Nat) (left : Nat → Int) (k : Nat) : Nat → Int := fun i => if i = v then left v + valU es v k else if i < k then left i - betw es i v else left i
/-- The chips and the marks, in memory. -/
structure WMem (w0 : World) (N gd gb : Nat) (rest : List Value) (left : Nat → Int) (bor : Nat → Bool) (w : World) : Prop where
  rd : Row1 (Value.int .i64) w gd 3 (lst N left) rest
  rb : Row1 Value.bool w gb 4 ((List.range N).map bor) []
  ne : gd ≠ gb
  lo : w0.heap.size ≤ gd ∧ w0.heap.size ≤ gb
  be : Below w0.heap.size w0 w
theorem WMem.below {w0 w w' : World} {N gd gb : Nat} {rest : List Value} {left : Nat → Int} {bor : Nat → Bool} (h : WMem w0 N gd gb rest left bor w) (hb : Below w.heap.size w w') : WMem w0 N gd gb rest left bor w' :=
  ⟨h.rd.below hb, h.rb.below hb, h.ne, h.lo, below_then h.be hb⟩
theorem WMem.put {w0 w : World} {N gd gb : Nat} {rest : List Value} {left : Nat → Int} {bor : Nat → Bool} (h : WMem w0 N gd gb rest left bor w) {i : Nat} (hi : i < N) (x : Int) : WMem w0 N gd gb rest (updF left i x) bor (w.setCell ⟨gd, i, none⟩ (.int .i64 x)) := by
  have h5 := h.rd.put (i := i) (by rw [lst_len]; exact hi) x
  rw [lst_set] at h5
  exact ⟨h5, h.rb.other (fun e => h.ne e.symm) _, h.ne, h.lo, h.be.setCell h.lo.1 _⟩
theorem WMem.congr {w0 w : World} {N gd gb : Nat} {rest : List Value} {left l2 : Nat → Int} {bor b2 : Nat → Bool} (h : WMem w0 N gd gb rest left bor w) (h1 : ∀ i, i < N → left i = l2 i) (h2 : ∀ i, i < N → bor i = b2 i) : WMem w0 N gd gb rest l2 b2 w := by
  refine ⟨?_, ?_, h.ne, h.lo, h.be⟩
  · rw [← lst_congr h1]; exact h.rd
  · rw [← List.map_congr_left (fun i hi => h2 i (List.mem_range.1 hi))]; exact h.rb
end Go.Proofs.YtpgopmmobbemcaaGreat

set_option linter.unusedVariables false
set_option linter.unusedSimpArgs false
set_option linter.unnecessarySimpa false
namespace Go.Proofs.YtpgopmmobbemcaaGreat
open Go.RowKit

def FirstV (w : World) (v : Value) : Option (List Int) → Prop
  | none => v = .slice none 0 0
  | some s => ∃ b off c, v = .slice (some ⟨b, off, none⟩) s.length c ∧ s.length ≤ c ∧ SliceR intR 1 All w (some ⟨b, off, none⟩) s
theorem FirstV.below {w w' : World} {v : Value} (hb : Below w.heap.size w w') : ∀ {o : Option (List Int)}, FirstV w v o → FirstV w' v o
  | none, h => h
  | some s, ⟨b, off, c, h1, h2, h3⟩ => ⟨b, off, c, h1, h2, h3.below intR_ok hb⟩
def FirstPost (w : World) (o : Option (List Int)) (e : Ending) (w' : World) : Prop := ∃ v, e = .returned v ∧ FirstV w' v o ∧ Below w.heap.size w w'
theorem OwnS.into {w : World} {base : Nat} {v : Value} {xs : List Int} (h : OwnS intR 1 base 3 Non w v xs) : ∃ o c, v = .slice o xs.length c ∧ xs.length ≤ c ∧ SliceR intR 1 All w o xs := by
  obtain ⟨o, c, h1, h2, h3⟩ := h.slice intR_ok
  exact ⟨o, c, h1, h2, h3.all intR_ok (by decide)⟩
end Go.Proofs.YtpgopmmobbemcaaGreat

set_option linter.unusedVariables false
set_option linter.unusedSimpArgs false
set_option linter.unnecessarySimpa false
namespace Go.Proofs.YtpgopmmobbemcaaGreat
open Go.RowKit

theorem GOk.of {N : Nat} {es : List Edg} {f : List Nat} {d : List Int} (hT : TOk N es f d) (hc2 : es.length ≤ 1000) (hU : gErr N es = 0 → Uf f (eL es)) (hS : SmG N es d) : GOk N es d :=
  ⟨EOk.of hT.g hc2, hT.n12.1, conn_link hU hT.j, hS⟩
/-- What the reference's Wins says. -/
def winsB (N : Nat) (es : List Edg) (d : List Int) : Bool := if totL d < 0 then false else wRun N es 10000000 (fun v => d.getD v 0) (fun _ => false)
def RSolvePost (w : World) (n : Int) (es : List Edg) (f : List Nat) (d : List Int) (limit : Int) (e : Ending) (w' : World) : Prop :=
  ∃ b : Bool, (tErr n es f d = 0 → (b = true ↔ Winn n.toNat (linkE es) (fun v => d.getD v 0))) ∧ SolPost w (refSolveR n es f d limit b) e w'
end Go.Proofs.YtpgopmmobbemcaaGreat

set_option linter.unusedVariables false
set_option linter.unusedSimpArgs false
set_option linter.unnecessarySimpa false
namespace Go.Proofs.YtpgopmmobbemcaaGreat
open Go.RowKit

theorem fewR_any (n : Int) (es : List Edg) (oe : Option Addr) (c : Nat) (F : Foot) (w : World) (hs : SliceR edgR 3 F w oe es) (hc : es.length ≤ c) (hc2 : es.length ≤ 9223372036854775807) :
    Calls Tryz.prog 57 #[.agg #[.int .i64 n, .slice oe es.length c]] w fun e w' => e = .returned (.bool (smB n es 5 7)) ∧ Below w.heap.size w w' := by
  have hb0 := bnew (Below.refl w.heap.size w) (.cells #[.int .i64 n, .slice oe es.length c] 24)
  have HK := hide (small_any n es oe c F _ (hs.below edgR_ok hb0) hc hc2 5 7)
  have HB := hide hb0
  clear hs hb0
  go_enter Tryz.func57, Tryz.ntmps57
  go_wp2_with fail
  refine HK.out.mono ?_
  rintro e w2 ⟨rfl, hb2⟩
  have HB2 := hide (below_then HB.out hb2)
  clear hb2
  go_wp2_with fail
  go_ret
  exact ⟨ret_bool rfl, HB2.out⟩
def sm43 (n : Int) (es : List Edg) (f : List Nat) (d : List Int) : Bool := smB n es 5 7 && (decide (d.length ≤ 24) && (smD d || decide (tErr n es f d ≠ 0)))
theorem smB_len {n : Int} {es : List Edg} {N M : Int} (h : smB n es N M = true) : es.length ≤ 40 := by
  unfold smB at h
  split at h
  · assumption
  · cases h
theorem sm43_parts {n : Int} {es : List Edg} {f : List Nat} {d : List Int} (h : sm43 n es f d = true) : es.length ≤ 40 ∧ d.length ≤ 24 ∧ (tErr n es f d = 0 → SmG n.toNat es d) := by
  unfold sm43 at h
  simp only [Bool.and_eq_true, Bool.or_eq_true, decide_eq_true_eq] at h
  obtain ⟨h1, h2, h3⟩ := h
  refine ⟨smB_len h1, h2, fun ht => ?_⟩
  rcases h3 with h3 | h3
  · obtain ⟨N, rfl, hT⟩ := tErr_ok ht
    unfold smB at h1
    rw [if_pos (smB_len (by unfold smB; exact h1)), if_pos hT.g] at h1
    have h4 := of_decide_eq_true h1
    exact ⟨by rw [Int.toNat_natCast]; omega, by omega, smD_yes h3⟩
  · exact absurd ht h3
set_option maxRecDepth 100000 in
set_option maxHeartbeats 4000000 in
theorem small43_any (n : Int) (es : List Edg) (oe : Option Addr) (c : Nat) (F : Foot) (w : World) (hs : SliceR edgR 3 F w oe es) (hc : es.length ≤ c) (hc2 : es.length ≤ 9223372036854775807)
    (f : List Nat) (hU : Hid (gErr n es = 0 → Uf f (eL es))) (d : List Int) (od : Option Addr) (cd : Nat) (G : Foot) (hd : SliceR intR 1 G w od d) (hdc : d.length ≤ cd) (hdl : d.length ≤ 9223372036854775807) :
    Calls Tryz.prog 19 #[.agg #[.int .i64 n, .slice oe es.length c], .slice od d.length cd] w fun e w' => e = .returned (.bool (sm43 n es f d)) ∧ Below w.heap.size w w' := by
  have hb0 := bnew (Below.refl w.heap.size w) (.cells #[.int .i64 n, .slice oe es.length c] 24)
  have bxx := Box.new w [.int .i64 n, .slice oe es.length c] 24
  have HK := hide (fewR_any n es oe c F _ (hs.below edgR_ok hb0) hc hc2)
  have HD := hide hd
  have HS := hide hs
  have HB := hide hb0
  have HX := hide bxx
  have HE : Hid (sm43 n es f d = (smB n es 5 7 && (decide (d.length ≤ 24) && (smD d || decide (tErr n es f d ≠ 0))))) := rfl
  clear hs hd hb0 bxx
  go_enter Tryz.func19, Tryz.ntmps19
  go_wp2_with fail
  refine HK.out.mono ?_
  rintro e w2 ⟨rfl, hb2⟩
  have HB2 := hide (below_then HB.out hb2)
  have HX2 := hide (HX.out.below hb2)
  have HB2x := hide hb2
  clear hb2
  generalize smB n es 5 7 = b1 at *
  cases b1
  · go_wp2_with fail
    go_ret
    exact ⟨ret_bool (by rw [HE.out]; rfl), HB2.out⟩
  go_wp2_with fail
  refine (few17_any d od cd _).mono ?_
  rintro e w3 ⟨rfl, hb3⟩
  have HB3 := hide (below_then HB2.out hb3)
  have HX3 := hide (HX2.out.below hb3)
  clear hb3
  generalize decide (d.length ≤ 24) = b2 at *
  cases b2
  · go_wp2_with fail
    go_ret
    exact ⟨ret_bool (by rw [HE.out]; rfl), HB3.out⟩
  have HSM := hide (smD_any d od cd G w3 (HD.out.below intR_ok HB3.out) hdc hdl)
  go_wp2_with fail
  refine HSM.out.mono ?_
  rintro e w4 ⟨rfl, hb4⟩
  have HB4 := hide (below_then HB3.out hb4)
  have HX4 := hide (HX3.out.below hb4)
  clear hb4 HSM
  generalize smD d = b3 at *
  cases b3
  case true =>
    go_wp2_with fail
    go_ret
    exact ⟨ret_bool (by rw [HE.out]; rfl), HB4.out⟩
  have y0 := HX4.out.cell 0
  have y1 := HX4.out.cell 1
  simp only [List.getElem?_cons_zero, List.getElem?_cons_succ] at y0 y1
  have HGV := hide (rgiven43_any n es oe c F w4 (HS.out.below edgR_ok HB4.out) hc hc2 f hU d od cd G (HD.out.below intR_ok HB4.out) hdc hdl)
  go_wp2_with fail
  refine HGV.out.mono ?_
  rintro e w5 ⟨rfl, hb5⟩
  have HB5 := hide (below_then HB4.out hb5)
  clear hb5 HGV
  by_cases hV : tErr n es f d = 0
  · have hq : (tErr n es f d != 0) = false := by simpa using hV
    have HR : Hid (sm43 n es f d = false) := by show _ = _; rw [HE.out]; simp [hV]
    clear hV
    go_wp2_with fail
    go_ret
    exact ⟨ret_bool HR.out.symm, HB5.out⟩
  · have hq : (tErr n es f d != 0) = true := by simpa using hV
    have HR : Hid (sm43 n es f d = true) := by show _ = _; rw [HE.out]; simp [hV]
    clear hV
    go_wp2_with fail
    go_ret
    exact ⟨ret_bool HR.out.symm, HB5.out⟩
end Go.Proofs.YtpgopmmobbemcaaGreat

set_option linter.unusedVariables false
set_option linter.unusedSimpArgs false
set_option linter.unnecessarySimpa false
namespace Go.Proofs.YtpgopmmobbemcaaGreat
open Go.RowKit

def lsm43 (n : Int) (es : List Edg) (f : List Nat) (d : List Int) : Bool := smB n es 6 9 && (decide (d.length ≤ 24) && (decide (tErr n es f d = 0) && smD d))
theorem lst_getD {N : Nat} {f : Nat → Int} {v : Nat} (h : v < N) : (lst N f).getD v 0 = f v := by
  rw [List.getD_eq_getElem?_getD, lst_get _ h]
  rfl
theorem dErr_ok {N : Nat} {l : List Int} (h12 : 1 ≤ N ∧ N ≤ 12) (hl : l.length = N) (hb : ∀ x ∈ l, -1048576 ≤ x ∧ x ≤ 1048576) : dErr N l = 0 := by
  unfold dErr
  rw [if_pos (by omega), if_pos (by omega)]
  clear hl
  induction l with
  | nil => rfl
  | cons x r ih =>
    have h1 := hb x (by simp)
    have h2 := ih fun y hy => hb y (by simp [hy])
    unfold dScan
    rw [if_pos (show inChips x = true from decide_eq_true h1)]
    exact h2
theorem owed_nil {N : Nat} {d : Nat → Int} (h : ∀ v, v < N → 0 ≤ d v) : owedF N d = 0 := by
  unfold owedF
  have h1 : sumI (fun v => max 0 (-(d v))) N = sumI (fun _ => 0) N := sumI_eq fun v hv => by have := h v hv; omega
  rw [h1, sumI_zero]
/-- A winning script, checked. -/
theorem verify_won {N : Nat} {es : List Edg} {f : List Nat} {d : List Int} (hT : TOk N es f d) (hc2 : es.length ≤ 1000) {s : Nat → Int} (hs : ∀ v, v < N → 0 ≤ app N (linkE es) (fun v => d.getD v 0) s v) (hb : ∀ v, v < N → -1048576 ≤ s v ∧ s v ≤ 1048576) :
    oweS es d (lst N s) = 0 ∧ fErr N es (lst N s) = 0 := by
  have hok := EOk.of hT.g hc2
  refine ⟨?_, ?_⟩
  · rw [oweS_app hok hT.len]
    refine owed_nil fun v hv => ?_
    rw [app_congr (t := s) (fun u hu => lst_getD hu) hv]
    exact hs v hv
  · unfold fErr
    rw [if_pos hT.g]
    exact dErr_ok hT.n12 (lst_len N s) fun x hx => by
      obtain ⟨v, hv, rfl⟩ := List.mem_map.1 hx
      exact hb v (List.mem_range.1 hv)
theorem greedy_small {N : Nat} {es : List Edg} {f : List Nat} {d pk : List Int} (hT : TOk N es f d) (hG : GOk N es d) (hp : pkE pk = 0) : ∃ a g, greedyR 1048576 N es f d pk = (a, lst N (negU g), 0) ∧ GEnd N es d a g := by
  obtain ⟨M, hM⟩ : ∃ M : Nat, M = 1048576 := ⟨_, rfl⟩
  rw [← hM]
  obtain ⟨a, g, h1, h2⟩ := gRun_law hG pk M 0 (fun v => d.getD v 0) (fun _ => 0) (fun _ => 0) GSt.zero (fun v _ => by simp) (by omega)
  refine ⟨a, g, ?_, h2⟩
  have ht : tErr N es f d = 0 := by
    unfold tErr
    rw [if_pos hT.j]
    exact dErr_ok hT.n12 hT.len hT.dB
  unfold greedyR
  rw [if_neg (fun h => h ht), if_neg (fun h => h hp), Int.toNat_natCast]
  exact h1
theorem pick0 : pkE [0] = 0 := by decide
end Go.Proofs.YtpgopmmobbemcaaGreat

set_option linter.unusedVariables false
set_option linter.unusedSimpArgs false
namespace Go.Proofs.YtpgopmmobbemcaaGreat
open Go.RowKit

theorem mid_any {s : List Int} (h : s ≠ []) : ∃ m, MidN s m := by
  obtain ⟨l, hl⟩ : ∃ l, l = s.mergeSort (fun x y : Int => decide (x ≤ y)) := ⟨_, rfl⟩
  have hperm : l.Perm s := by rw [hl]; exact List.mergeSort_perm s _
  have hpos : 0 < s.length := by cases s with
    | nil => exact absurd rfl h
    | cons a b => simp
  have hlen : l.length = s.length := hperm.length_eq
  have hlt : s.length / 2 < l.length := by omega
  exact ⟨l[s.length / 2], mid_sorted hperm (by rw [hl]; exact (List.pairwise_mergeSort (le := fun x y : Int => decide (x ≤ y)) (by intro a b c; simp; omega) (by intro a b; simp; omega) s).imp (by simp)) (List.getElem?_eq_getElem hlt)⟩
theorem raised_len (s : List Int) (k : Int) : (raisedS s k).length = s.length := by simp [raisedS]
theorem raised_at {s : List Int} {k : Int} {v : Nat} (h : v < s.length) : (raisedS s k).getD v 0 = s.getD v 0 + k := by
  unfold raisedS
  rw [List.getD_eq_getElem?_getD, List.getElem?_map, List.getElem?_eq_getElem h, List.getD_eq_getElem?_getD, List.getElem?_eq_getElem h]
  rfl
theorem raised_zero (s : List Int) : raisedS s 0 = s := by
  unfold raisedS
  conv => rhs; rw [← List.map_id s]
  exact List.map_congr_left fun x _ => by simp
/-- A script and a raised one owe the same. -/
theorem owe_raised {N : Nat} {es : List Edg} {d s : List Int} (hok : EOk N es) (hd : d.length = N) (hs : s.length = N) (k : Int) : oweS es d (raisedS s k) = oweS es d s := by
  rw [oweS_app hok hd, oweS_app hok hd]
  unfold owedF
  refine sumI_eq fun v hv => ?_
  rw [app_congr (t := fun w => s.getD w 0 + k) (fun u hu => raised_at (by omega)) hv, app_shift]
theorem owe_zero {N : Nat} {es : List Edg} {d : List Int} (hok : EOk N es) (hd : d.length = N) : oweS es d (List.replicate N 0) = owedL d := by
  rw [oweS_app hok hd, owedL_sum, hd]
  unfold owedF
  refine sumI_eq fun v hv => ?_
  rw [app_congr (t := fun _ => 0) (fun u hu => by rw [List.getD_eq_getElem?_getD, List.getElem?_replicate, if_pos hu]; rfl) hv, app_zero]
/-- What the search of the reference finds. -/
theorem refF_spec (N : Nat) (wins : List Int → Bool) : ∀ (fuel k : Nat), (refF N wins fuel k = ([], 0, 12) ∧ ∀ i, i < fuel → firstS wins N [] (k + i) = none) ∨ ∃ s j, refF N wins fuel k = (s, ((k + j : Nat) : Int), 0) ∧ j < fuel ∧ firstS wins N [] (k + j) = some s ∧ ∀ i, i < j → firstS wins N [] (k + i) = none
  | 0, k => .inl ⟨rfl, fun i hi => by omega⟩
  | fuel + 1, k => by
    rcases hf : firstS wins N [] k with _ | s
    · have e : refF N wins (fuel + 1) k = refF N wins fuel (k + 1) := by rw [refF, hf]
      rcases refF_spec N wins fuel (k + 1) with ⟨h1, h2⟩ | ⟨s, j, h1, h2, h3, h4⟩
      · refine .inl ⟨by rw [e, h1], fun i hi => ?_⟩
        cases i with
        | zero => exact hf
        | succ i =>
          have := h2 i (by omega)
          rwa [show k + 1 + i = k + (i + 1) by omega] at this
      · refine .inr ⟨s, j + 1, by rw [e, h1, show k + 1 + j = k + (j + 1) by omega], by omega, by rw [show k + (j + 1) = k + 1 + j by omega]; exact h3, fun i hi => ?_⟩
        cases i with
        | zero => exact hf
        | succ i =>
          have := h4 i (by omega)
          rwa [show k + 1 + i = k + (i + 1) by omega] at this
    · exact .inr ⟨s, 0, by rw [refF, hf]; rfl, by omega, hf, fun i hi => by omega⟩
theorem first_none {wins : List Int → Bool} {N k : Nat} (h : firstS wins N [] k = none) {t : List Int} (ht : t.length = N) (hc : costS t = k) : wins t = false := by
  have h1 := first_spec wins N [] k
  rw [h] at h1
  rcases hw : wins t with _ | _
  · rfl
  · exact absurd (show WonS wins N [] k t from ⟨t, rfl, ht, hc, hw⟩) (h1 t)
theorem first_some {wins : List Int → Bool} {N k : Nat} {s : List Int} (h : firstS wins N [] k = some s) : s.length = N ∧ costS s = k ∧ wins s = true := by
  have h1 := first_spec wins N [] k
  rw [h] at h1
  obtain ⟨t, e, ht, hc, hw⟩ := LeastW.has h1
  have e : s = t := e
  rw [e] at hw ⊢
  exact ⟨ht, hc, hw⟩
theorem cost_each : ∀ {s : List Int} {x : Int}, x ∈ s → -costS s ≤ x ∧ x ≤ costS s
  | [], x, h => by cases h
  | y :: r, x, h => by
    have h0 := costS_nn r
    have h1 : costS (y :: r) = magI y + costS r := rfl
    have h2 : magI y = max y (-y) := rfl
    rcases List.mem_cons.1 h with e | h
    · rw [e]; omega
    · have h3 := cost_each h
      omega
theorem cost_sum : ∀ {s : List Int} {b : Int}, (∀ x ∈ s, -b ≤ x ∧ x ≤ b) → costS s ≤ s.length * b
  | [], b, _ => by simp [costS]
  | y :: r, b, h => by
    have h1 : costS (y :: r) = magI y + costS r := rfl
    have h2 : magI y = max y (-y) := rfl
    have h3 := h y (by simp)
    have h4 := cost_sum (s := r) (b := b) fun x hx => h x (by simp [hx])
    rw [List.length_cons, h1]
    push_cast
    rw [Int.add_mul, Int.one_mul]
    omega
theorem cheap_ok {N : Nat} {es : List Edg} {f : List Nat} {d : List Int} (hT : TOk N es f d) {t : List Int} (ht : t.length = N) {b : Int} (hb : ∀ x ∈ t, -b ≤ x ∧ x ≤ b) (hb2 : b ≤ 500000) : cheapR N es f t = (cheapS t, costS (cheapS t), 0) ∧ ∃ m, m ∈ t ∧ cheapS t = raisedS t (-m) ∧ costS (cheapS t) ≤ costS t := by
  have h12 := hT.n12
  obtain ⟨m, hm⟩ := mid_any (s := t) (by intro e; rw [e] at ht; simp at ht; omega)
  have hc := cheap_mid hm
  have hmb := hb m hm.mem
  have h1 : tErr N es f t = 0 := by
    unfold tErr
    rw [if_pos hT.j]
    exact dErr_ok h12 ht fun x hx => by have := hb x hx; omega
  have h2 : dErr N (cheapS t) = 0 := by
    rw [hc]
    refine dErr_ok h12 (by rw [raised_len, ht]) fun x hx => ?_
    unfold raisedS at hx
    obtain ⟨y, hy, rfl⟩ := List.mem_map.1 hx
    have := hb y hy
    omega
  refine ⟨by unfold cheapR; rw [if_pos h1, if_pos h2], m, hm.mem, hc, ?_⟩
  have h3 := hm.least 0
  rw [Int.neg_zero, raised_zero] at h3
  rw [hc]
  exact h3
theorem bound_le {N : Nat} {es : List Edg} {d s : List Int} (hV : gErr N es = 0) (hok : EOk N es) (hd : d.length = N) (hs : s.length = N) (hw : oweS es d s = 0) : boundB (owedL d) (grtE es N) ≤ costS s := by
  have hO := owe_ok hV hok hd
  have h1 := hO.good (s := List.replicate N 0) (t := s) (limit := costS s) (by simp) (by rw [← hs]; exact Bel.zero s) hw (Int.le_refl _) (m := 0) (cost_rep N)
  unfold goodS at h1
  have h2 := of_decide_eq_true h1
  rw [owe_zero hok hd] at h2
  unfold boundB
  omega
theorem paid_owe {es : List Edg} {d s : List Int} : paidL (movedL s es d) = true ↔ oweS es d s = 0 := by
  rw [owed_paid]
  exact decide_eq_true_iff
/-- The law of DollarBounds, where the greedy game is won. -/
theorem bounds_law {N : Nat} {es : List Edg} {f : List Nat} {d : List Int} (hT : TOk N es f d) (hG : GOk N es d) (hc2 : es.length ≤ 1000) {L : Nat} (hL : L ≤ 8) {g : Nat → Nat} (hg : GEnd N es d true g) :
    cheapR N es f (lst N (negU g)) = (cheapS (lst N (negU g)), costS (cheapS (lst N (negU g))), 0) ∧ (0 ≤ costS (cheapS (lst N (negU g))) ∧ costS (cheapS (lst N (negU g))) ≤ 1000000) ∧
    ((refF N (fun s => paidL (movedL s es d)) (L + 1) 0 = ([], 0, 12) ∧ (L : Int) < costS (cheapS (lst N (negU g)))) ∨
     ∃ (s : List Int) (j : Nat), refF N (fun s => paidL (movedL s es d)) (L + 1) 0 = (s, (j : Int), 0) ∧ s.length = N ∧ verifyR N es f d s = ((j : Int), 0) ∧ boundB (owedL d) (grtE es N) ≤ j ∧ (j : Int) ≤ costS (cheapS (lst N (negU g))) ∧ j ≤ 8) := by
  have hok := EOk.of hT.g hc2
  have hlen := lst_len N (negU g)
  have hbt : ∀ x ∈ lst N (negU g), -(11341 : Int) ≤ x ∧ x ≤ 11341 := fun x hx => by
    obtain ⟨v, hv, rfl⟩ := List.mem_map.1 hx
    have := hg.le v (List.mem_range.1 hv)
    unfold negU
    omega
  obtain ⟨h1, m, hm, h2, h3⟩ := cheap_ok hT hlen hbt (by omega)
  obtain ⟨hw0, _⟩ := verify_won hT hc2 (hg.won rfl) (fun v hv => by have := hg.le v hv; unfold negU; omega)
  have hw1 : oweS es d (cheapS (lst N (negU g))) = 0 := by rw [h2, owe_raised hok hT.len hlen, hw0]
  have hcl : (cheapS (lst N (negU g))).length = N := by rw [h2, raised_len, hlen]
  have hnn := costS_nn (cheapS (lst N (negU g)))
  have hsum := cost_sum hbt
  rw [hlen] at hsum
  have h12 := hT.n12
  refine ⟨h1, ⟨hnn, by omega⟩, ?_⟩
  obtain ⟨C, hC⟩ := Int.eq_ofNat_of_zero_le hnn
  have hno : ∀ k, firstS (fun s => paidL (movedL s es d)) N [] k = none → C ≠ k := fun k hk e => by
    have h5 := first_none hk hcl (by rw [hC, e])
    rw [paid_owe.2 hw1] at h5
    cases h5
  rcases refF_spec N (fun s => paidL (movedL s es d)) (L + 1) 0 with ⟨h5, h6⟩ | ⟨s, j, h5, h6, h7, h8⟩
  · refine .inl ⟨h5, ?_⟩
    rw [hC]
    refine Classical.byContradiction fun hn => ?_
    have := h6 C (by omega)
    rw [Nat.zero_add] at this
    exact hno C this rfl
  · rw [Nat.zero_add] at h5 h7
    obtain ⟨g1, g2, g3⟩ := first_some h7
    have g4 := paid_owe.1 g3
    have hv : verifyR N es f d s = ((j : Int), 0) := by
      have ht : tErr N es f d = 0 := by
        unfold tErr
        rw [if_pos hT.j]
        exact dErr_ok h12 hT.len hT.dB
      have hf : fErr N es s = 0 := by
        unfold fErr
        rw [if_pos hT.g]
        exact dErr_ok h12 g1 fun x hx => by have := cost_each hx; omega
      unfold verifyR
      rw [if_neg (fun h => h ht), if_neg (fun h => h hf), if_neg (by omega), g2]
    refine .inr ⟨s, j, h5, g1, hv, by rw [← g2]; exact bound_le hT.g hok hT.len g1 g4, ?_, by omega⟩
    rw [hC]
    refine Classical.byContradiction fun hn => ?_
    have := h8 C (by omega)
    rw [Nat.zero_add] at this
    exact hno C this rfl
end Go.Proofs.YtpgopmmobbemcaaGreat

set_option linter.unusedVariables false
set_option linter.unusedSimpArgs false
set_option linter.unnecessarySimpa false
namespace Go.Proofs.YtpgopmmobbemcaaGreat
open Go.RowKit

set_option maxRecDepth 100000 in
set_option maxHeartbeats 8000000 in
theorem bounds_walk (w : World) (n : Int) (es : List Edg) (oe : Option Addr) (c : Nat) (hc : es.length ≤ c) (hc2 : es.length ≤ 9223372036854775807) (hs : SliceR edgR 3 All w oe es)
    (d : List Int) (od : Option Addr) (cd : Nat) (hdc : d.length ≤ cd) (hdl : d.length ≤ 9223372036854775807) (hd : SliceR intR 1 All w od d) (lim : Nat) (hlim : lim < 256) :
    Calls Tryz.prog 8 #[.agg #[.int .i64 n, .slice oe es.length c], .slice od d.length cd, .int .u8 lim] w fun r w' => r = .returned (.bool true) ∧ Below w.heap.size w w' := by
  have HU : Hid (gErr n es = 0 → Uf (forest es) (eL es)) := forest_ok n es
  have hb0 := bnew (Below.refl w.heap.size w) (.cells #[.int .i64 n, .slice oe es.length c] 24)
  have bxx := Box.new w [.int .i64 n, .slice oe es.length c] 24
  have K1 := hide (small43_any n es oe c All _ (hs.below edgR_ok hb0) hc hc2 (forest es) HU d od cd All (hd.below intR_ok hb0) hdc hdl)
  have HD := hide hd
  have HS := hide hs
  have HB := hide hb0
  have HX := hide bxx
  have haw : ∀ W : World, Calls Tryz.prog 12 #[] W fun e w' => e = .returned (.bool true) ∧ Below W.heap.size W w' := fun W => awake43_any W
  have HAW := hide haw
  clear hs hd hb0 bxx haw
  go_enter Tryz.func8, Tryz.ntmps8
  go_wp2_with fail
  refine K1.out.mono ?_
  rintro e w2 ⟨rfl, hb2⟩
  have HB2 := hide (below_then HB.out hb2)
  have HX2 := hide (HX.out.below hb2)
  clear hb2
  rcases hf : sm43 n es (forest es) d with _ | _
  · clear hf
    go_wp2_with fail
    refine (HAW.out _).mono ?_
    rintro e w6 ⟨rfl, hb6⟩
    have HB6 := hide (below_then HB2.out hb6)
    clear hb6
    go_wp2_with fail
    go_ret
    exact ⟨by first | rfl | trivial, HB6.out⟩
  obtain ⟨h40, h24, hsm⟩ := sm43_parts hf
  have HSM := hide hsm
  have y0 := HX2.out.cell 0
  have y1 := HX2.out.cell 1
  simp only [List.getElem?_cons_zero, List.getElem?_cons_succ] at y0 y1
  have HGV := hide (rgiven43_any n es oe c All w2 (HS.out.below edgR_ok HB2.out) hc hc2 (forest es) HU d od cd All (HD.out.below intR_ok HB2.out) hdc hdl)
  clear hf hsm
  go_wp2_with fail
  refine HGV.out.mono ?_
  rintro e w3 ⟨rfl, hb3⟩
  have HB3 := hide (below_then HB2.out hb3)
  have HX3 := hide (HX2.out.below hb3)
  clear hb3 HGV y0 y1
  by_cases hV : tErr n es (forest es) d = 0
  case neg =>
    have hq : (tErr n es (forest es) d != 0) = true := by simpa using hV
    clear hV
    go_wp2_with fail
    refine (HAW.out _).mono ?_
    rintro e w6 ⟨rfl, hb6⟩
    have HB6 := hide (below_then HB3.out hb6)
    clear hb6
    go_wp2_with fail
    go_ret
    exact ⟨by first | rfl | trivial, HB6.out⟩
  obtain ⟨N, rfl, hT⟩ := tErr_ok hV
  have hc3 : es.length ≤ 1000 := by omega
  have hsm := HSM.out hV
  rw [Int.toNat_natCast] at hsm
  have hG := GOk.of hT hc3 HU.out hsm
  obtain ⟨a, g, hr1, hg⟩ := greedy_small hT hG pick0
  obtain ⟨L, hLd⟩ : ∃ L : Nat, L = lim % 6 := ⟨_, rfl⟩
  have hL8 : L ≤ 8 := by omega
  have hrem : (lim : Int) % 6 = (L : Int) := by omega
  have hLAW := fun (ha : a = true) => bounds_law (L := L) hT hG hc3 hL8 (by rw [ha] at hg; exact hg : GEnd N es d true g)
  have HIF := hide hg.iff
  have HTV : Hid (tErr (N : Int) es (forest es) d = 0) := hV
  have HT := hide hT
  have h12 := hT.n12
  obtain ⟨t, ht⟩ : ∃ t, t = lst N (negU g) := ⟨_, rfl⟩
  have HL1 : Hid (t.length = N) := by show _ = _; rw [ht]; exact lst_len _ _
  rw [← ht] at hLAW hr1
  have HLAW := hide hLAW
  have HSO : Hid (∀ W, Below w.heap.size w W → Calls Tryz.prog 20 #[.agg #[.int .i64 N, .slice oe es.length c], .slice od d.length cd, .int .i64 L] W (SolvePost W N es (forest es) d L)) := fun W hW => solve_any N es oe c All W (HS.out.below edgR_ok hW) hc hc3 (forest es) HU d od cd All (HD.out.below intR_ok hW) hdc (by omega) HSM L (by unfold I64; omega)
  have HG1 : Hid (∀ W (oz : Option Addr) (cz : Nat), Below w.heap.size w W → SliceR intR 1 All W oz [0] → 1 ≤ cz → Calls Tryz.prog 17 #[.agg #[.int .i64 N, .slice oe es.length c], .slice od d.length cd, .slice oz 1 cz] W (GrePost W (a, t, 0))) := fun W oz cz hW hz hcz => by
    have h5 := greedy_any N es oe c All W (HS.out.below edgR_ok hW) hc hc3 (forest es) HU d od cd All (HD.out.below intR_ok hW) hdc hdl [0] oz cz All hz hcz (by simp)
    rw [hr1] at h5
    exact h5
  have y0 := HX3.out.cell 0
  have y1 := HX3.out.cell 1
  simp only [List.getElem?_cons_zero, List.getElem?_cons_succ] at y0 y1
  rw [hV]
  clear hr1 hT hG hsm hV hg hLAW ht hLd
  go_wp2_with fail
  rw [hrem]
  refine (HSO.out _ HB3.out).mono ?_
  rintro e w5 ⟨b, hb, oA, cA, rfl, hcA, hsA, hb5⟩
  have hba : b = a := by rw [Bool.eq_iff_iff, hb HTV.out, HIF.out, Int.toNat_natCast]
  subst hba
  have HB5 := hide (below_then HB3.out hb5)
  have HX5 := hide (HX3.out.below hb5)
  have HSA := hide hsA
  have HREF : Hid (solveR N es (forest es) d (L : Int) b = if b = false then ([], 0, 6) else refF N (fun s => paidL (movedL s es d)) (L + 1) 0) := by
    show _ = _
    rw [solve_ref _ _ _ _ _ _ hc3]
    unfold refSolveR
    rw [if_neg (fun h => h HTV.out), if_neg (by omega), Int.toNat_natCast, Int.toNat_natCast]
  clear hb hsA hb5 y0 y1
  have y0 := HX5.out.cell 0
  have y1 := HX5.out.cell 1
  simp only [List.getElem?_cons_zero, List.getElem?_cons_succ] at y0 y1
  have HZ : Hid (SliceR intR 1 All (w5.alloc (.cells #[.int .i64 0] 3)) (some ⟨w5.heap.size, 0, none⟩) [0]) := intlF w5 0 (by unfold I64; omega) trivial
  obtain ⟨R, hR⟩ : ∃ R, R = solveR N es (forest es) d (L : Int) b := ⟨_, rfl⟩
  rw [← hR] at HSA hcA HREF ⊢
  clear hR
  obtain ⟨s1, k1, e1⟩ := R
  simp only at HSA hcA ⊢
  go_wp2_with fail
  refine (HG1.out _ (some ⟨w5.heap.size, 0, none⟩) 1 (HB5.out.alloc HB5.out.size _) HZ.out (by omega)).mono ?_
  rintro e w6 ⟨v6, rfl, ho6, hb6⟩
  have HB6 := hide (below_then (HB5.out.alloc HB5.out.size (.cells #[.int .i64 0] 3)) hb6)
  have HX6 := hide ((HX5.out.next (.cells #[.int .i64 0] 3)).below hb6)
  have HSA6 := hide ((HSA.out.below intR_ok (bnew (Below.refl _ _) (.cells #[.int .i64 0] 3))).below intR_ok hb6)
  obtain ⟨o6, c6, hv6, hc6, hs6⟩ := OwnS.into ho6
  simp only at hv6 hc6 hs6
  rw [HL1.out] at hv6 hc6
  subst hv6
  have HS6 := hide hs6
  clear ho6 hb6 hs6 y0 y1
  have y0 := HX6.out.cell 0
  have y1 := HX6.out.cell 1
  simp only [List.getElem?_cons_zero, List.getElem?_cons_succ] at y0 y1 ⊢
  cases b
  · have h6 : (s1, k1, e1) = ([], 0, 6) := by have := HREF.out; simpa using this
    injection h6 with h6a h6b
    injection h6b with h6b h6c
    subst h6c
    go_wp2_with fail
    refine (HAW.out _).mono ?_
    rintro e w8 ⟨rfl, hb8⟩
    have HB8 := hide (below_then HB6.out hb8)
    clear hb8
    go_wp2_with fail
    go_ret
    exact ⟨by first | rfl | trivial, HB8.out⟩
  obtain ⟨hch, hcb, hcase⟩ := HLAW.out (by first | rfl | trivial)
  have HRF : Hid ((s1, k1, e1) = refF N (fun s => paidL (movedL s es d)) (L + 1) 0) := by have := HREF.out; show _ = _; simpa using this
  have HCH : Hid (∀ W, Below w6.heap.size w6 W → Calls Tryz.prog 13 #[.agg #[.int .i64 N, .slice oe es.length c], .slice o6 N c6] W (ScrPost W (cheapS t, costS (cheapS t), 0))) := fun W hW => by
    have h5 := cheapest_any N es oe c All W ((HS.out.below edgR_ok HB6.out).below edgR_ok hW) hc hc3 (forest es) HU t o6 c6 All (HS6.out.below intR_ok hW) (by rw [HL1.out]; exact hc6) (by rw [HL1.out]; omega)
    rw [hch, HL1.out] at h5
    exact h5
  have HDE : Hid (∀ W, Below w.heap.size w W → Calls Tryz.prog 23 #[.agg #[.int .i64 N, .slice oe es.length c], .slice od d.length cd] W (Int3Post W (owedL d, boundB (owedL d) (grtE es N), 0))) := fun W hW => by
    have h5 := debt_any N es oe c All W (HS.out.below edgR_ok hW) hc hc3 (forest es) HU d od cd All (HD.out.below intR_ok hW) hdc hdl
    unfold debtR at h5
    rw [if_pos HTV.out, Int.toNat_natCast] at h5
    exact h5
  obtain ⟨C, hC⟩ : ∃ C, C = costS (cheapS t) := ⟨_, rfl⟩
  obtain ⟨B, hBd⟩ : ∃ B, B = boundB (owedL d) (grtE es N) := ⟨_, rfl⟩
  rw [← hC] at HCH hcb hcase
  rw [← hBd] at HDE hcase
  have HCASE := hide hcase
  have HE1 : e1 = 12 ∨ e1 = 0 := by
    have := HRF.out
    rcases hcase with ⟨h5, _⟩ | ⟨s, j, h5, _⟩
    · rw [h5] at this; injection this with _ h; injection h with _ h; exact .inl h
    · rw [h5] at this; injection this with _ h; injection h with _ h; exact .inr h
  clear hch hcase hC hBd
  generalize owedL d = od2 at *
  have e16 : ¬ (e1 = 6) := by omega
  go_wp2_with fail
  refine (HCH.out w6 (Below.refl _ _)).mono ?_
  rintro e w7 ⟨v7, rfl, ho7, hb7⟩
  have HB7 := hide (below_then HB6.out hb7)
  have HX7 := hide (HX6.out.below hb7)
  have HSA7 := hide (HSA6.out.below intR_ok hb7)
  clear ho7 hb7 y0 y1
  have y0 := HX7.out.cell 0
  have y1 := HX7.out.cell 1
  simp only [List.getElem?_cons_zero, List.getElem?_cons_succ] at y0 y1
  go_wp2_with fail
  refine (HDE.out w7 HB7.out).mono ?_
  rintro e w8 ⟨rfl, hb8⟩
  have HB8 := hide (below_then HB7.out hb8)
  have HX8 := hide (HX7.out.below hb8)
  have HSA8 := hide (HSA7.out.below intR_ok hb8)
  clear hb8 y0 y1
  have y0 := HX8.out.cell 0
  have y1 := HX8.out.cell 1
  simp only [List.getElem?_cons_zero, List.getElem?_cons_succ] at y0 y1
  rcases HCASE.out with ⟨h5, h6⟩ | ⟨s, j, h5, h6, h7, h8, h9, h10⟩
  · have h11 := HRF.out
    rw [h5] at h11
    injection h11 with h11a h11b
    injection h11b with h11b h11c
    subst h11c
    have hLC : (L : Int) < C := h6
    clear h5 h6 h11a h11b e16 HE1
    go_wp2_with fail
    rw [hrem]
    have hq : decide ((L : Int) < C) = true := decide_eq_true hLC
    go_wp2_with fail
    refine (HAW.out _).mono ?_
    rintro e w9 ⟨rfl, hb9⟩
    have HB9 := hide (below_then HB8.out hb9)
    clear hb9
    go_wp2_with fail
    go_ret
    exact ⟨by first | rfl | trivial, HB9.out⟩
  · have h11 := HRF.out
    rw [h5] at h11
    injection h11 with h11a h11b
    injection h11b with h11b h11c
    subst h11a h11b h11c
    have HVC : Hid (Calls Tryz.prog 25 #[.agg #[.int .i64 N, .slice oe es.length c], .slice od d.length cd, .slice oA s1.length cA] w8 (Int2Post w8 ((j : Int), 0))) := by
      have h5 := verify_any N es oe c All w8 (HS.out.below edgR_ok HB8.out) hc hc3 (forest es) HU d od cd All (HD.out.below intR_ok HB8.out) hdc hdl s1 oA cA All HSA8.out hcA (by omega)
      rw [h7] at h5
      exact h5
    have hjB : B ≤ (j : Int) := h8
    have hjC : (j : Int) ≤ C := h9
    clear h5 h6 h7 h8 h9 e16 HE1
    go_wp2_with fail
    refine HVC.out.mono ?_
    rintro e w9 ⟨rfl, hb9⟩
    have HB9 := hide (below_then HB8.out hb9)
    clear hb9
    go_wp2_with fail
    refine (HAW.out _).mono ?_
    rintro e w10 ⟨rfl, hb10⟩
    have HB10 := hide (below_then HB9.out hb10)
    clear hb10
    go_wp2_with fail
    go_ret
    exact ⟨by first | rfl | trivial, HB10.out⟩
end Go.Proofs.YtpgopmmobbemcaaGreat

set_option linter.unusedVariables false
namespace Go.Proofs.YtpgopmmobbemcaaGreat
open Go.RowKit Go.ChangeShapes Go.WideShapes Go.ChangeAt Go.Deep

set_option maxRecDepth 100000 in
theorem dollarBounds_lifted (os : Os) (started : os.Started) (H : Type) (enc : TypeId × Value → H) :
    ReturnsInHanded {} Tryz.checked os 8 .any (Rows.dollarBoundsSpec.pre6 enc Tryz.prog Tryz.f8 Rows.dollarBoundsRow.domain false) (Rows.dollarBoundsSpec.post enc Tryz.prog Tryz.f8 false true false false) := by
  refine returnsInHanded_of_change (C := Tryz.checked) own_knob started (by kernel_rfl) Tryz.func8
    (ChangeSpec.witness6 (enc := enc) (C := Tryz.checked) false ⟨#[], #[.agg #[.int .i64 0, .slice none 0 0], .slice none 0 0, .int .u8 0], []⟩ 8 (by kernel_rfl) (by kernel_rfl) (by kernel_rfl) (by kernel_rfl)) ?_
  intro W base args ds gs before hval0 hW _ _
  have hval : ∀ (j : Nat) t v, Tryz.f8.params[j]? = some t → args[j]? = some v → Value.okWide Tryz.prog W .any base t v := hval0
  have hW' := hW
  obtain ⟨p, q, hA0, hV, rfl, _, _⟩ := hW
  have hA : DataW.TrodAll enc Tryz.prog W 0 (fun _ => true) true Tryz.f8.params.toList args.toList ds p := hA0
  rw [Tryz.params8] at hA hval
  obtain ⟨v0, v1, v2, d0, d1, d2, p0, p1, p2, rfl, rfl, rfl, h0, h1, h2⟩ := trodAll_three hA
  obtain ⟨rfl, rfl⟩ := trodVars_none hV
  have h0k := h0
  have h1k := h1
  have h2k := h2
  obtain ⟨n0, es0, oe0, c0, rfl, hc0, hl0, he0⟩ := open_graph (hval 0 24 v0 rfl rfl) h0
  obtain ⟨xs1, oa1, c1, rfl, hc1, hd1, hs1⟩ := open_div (hval 1 28 v1 rfl rfl) h1
  obtain ⟨n2, rfl, in2⟩ := open_u8 (hval 2 5 v2 rfl rfl) h2
  clear hA0 hval0
  simp only [List.append_nil] at hW'
  have hlt0 : ∀ y ∈ p0, y.block < W.heap.size := fun y hy => by simpa using hW'.lt y (by simp [hy])
  have hlt1 : ∀ y ∈ p1, y.block < W.heap.size := fun y hy => by simpa using hW'.lt y (by simp [hy])
  have hlt2 : ∀ y ∈ p2, y.block < W.heap.size := fun y hy => by simpa using hW'.lt y (by simp [hy])
  refine (bounds_walk W n0 es0 oe0 c0 hc0 hl0 he0 xs1 oa1 c1 hc1 hd1 hs1 n2 in2).mono fun e W' ⟨he, hn⟩ => ?_
  subst he
  exact ⟨_, rfl, _, _, _, [], _, [], hW', trodAll_mk1 (shut_bool Tryz.underlying4 true), trodAll_mk3 (Below.trod laid_out (by kernel_rfl) (of_decide_eq_true (by kernel_rfl)) h0k hn hlt0) (Below.trod laid_out (by kernel_rfl) (of_decide_eq_true (by kernel_rfl)) h1k hn hlt1) (Below.trod laid_out (by kernel_rfl) (of_decide_eq_true (by kernel_rfl)) h2k hn hlt2), rfl, hn.frame _, fun h => by cases h⟩

theorem dollarBounds_holds : Rows.DollarBoundsSaid :=
  OpenClaim.holds_of_wide 8 Tryz.f8 rfl rfl rfl rfl rfl rfl rfl ⟨rfl, rfl, rfl, rfl, rfl⟩ rfl rfl rfl rfl rfl (by kernel_rfl) Tryz.func8 (by kernel_rfl)
    (of_decide_eq_true (by kernel_rfl)) (by unfold Func.isWrapper; first | (rw [if_pos (by decide +kernel)]; kernel_rfl) | (rw [if_neg (by decide +kernel)]; exact ⟨rfl, rfl⟩))
    (fun os started H enc _ => dollarBounds_lifted os started H enc)

#print axioms dollarBounds_holds
end Go.Proofs.YtpgopmmobbemcaaGreat

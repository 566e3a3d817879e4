/-
  The greedy game is won exactly if the divisor is winnable, and by the same script, however it is picked: for all graphs, divisors and picks.
  DollarDecides: the walk.
  law43.small, and what a won greedy game gives.
  ref08.FewRanks and ref43.Small.
  The reference's Solve.
  The reference's search for a winning script, and its Solve.
  The reference's Wins: borrowing, one vertex in debt after the other.
  Borrowing decides who wins, in plain Lean: the greedy game, and the reference's Wins.
  Solve against the reference's search, in plain Lean.
  The reference's Wins and Verify.
  The dollar game: Verify.
  The dollar game's reference: totals, debts paid, the first debtor.
-/
import Derived.Test.YtpgopmmobbemcaaGreatDd5
import Derived.Test.YtpgopmmobbemcaaGreatRows

set_option linter.unusedVariables false
set_option linter.unusedSimpArgs false
namespace Go.Proofs.YtpgopmmobbemcaaGreat
open Go.RowKit

def paidL (d : List Int) : Bool := d.all fun k => decide (0 ≤ k)
/-- The first vertex in debt, or -1. -/
def debtorL : List Int → Nat → Int
  | [], _ => -1
  | k :: r, i => if k < 0 then i else debtorL r (i + 1)
def totL : List Int → Int
  | [] => 0
  | k :: r => k + totL r
end Go.Proofs.YtpgopmmobbemcaaGreat

set_option linter.unusedVariables false
set_option linter.unusedSimpArgs false
set_option linter.unnecessarySimpa false
namespace Go.Proofs.YtpgopmmobbemcaaGreat
open Go.RowKit

def verifyR (n : Int) (es : List Edg) (f : List Nat) (d s : List Int) : Int × Int :=
  if tErr n es f d ≠ 0 then (0, tErr n es f d) else if fErr n es s ≠ 0 then (0, fErr n es s) else if 0 < oweS es d s then (0, 16) else (costS s, 0)
def Int2Post (w : World) (r : Int × Int) (e : Ending) (w' : World) : Prop := e = .returned (.tuple #[.int .i64 r.1, .int .i64 r.2]) ∧ Below w.heap.size w w'
set_option maxRecDepth 100000 in
set_option maxHeartbeats 4000000 in
theorem verify_any (n : Int) (es : List Edg) (oe : Option Addr) (c : Nat) (F : Foot) (w : World) (hs : SliceR edgR 3 F w oe es) (hc : es.length ≤ c) (hc2 : es.length ≤ 1000)
    (f : List Nat) (hU : Hid (gErr n es = 0 → Uf f (eL es))) (d : List Int) (od : Option Addr) (cd : Nat) (G : Foot) (hd : SliceR intR 1 G w od d) (hdc : d.length ≤ cd) (hdl : d.length ≤ 9223372036854775807)
    (s : List Int) (os : Option Addr) (cs : Nat) (S : Foot) (hS : SliceR intR 1 S w os s) (hsc : s.length ≤ cs) (hsl : s.length ≤ 9223372036854775807) :
    Calls Tryz.prog 25 #[.agg #[.int .i64 n, .slice oe es.length c], .slice od d.length cd, .slice os s.length cs] w (Int2Post w (verifyR n es f d s)) := by
  have hb0 := bnew (Below.refl w.heap.size w) (.cells #[.int .i64 n, .slice oe es.length c] 24)
  have bxx := Box.new w [.int .i64 n, .slice oe es.length c] 24
  have HK := hide (dgiven_any n es oe c F _ (hs.below edgR_ok hb0) hc (by omega) f hU d od cd G (hd.below intR_ok hb0) hdc hdl)
  have HD := hide hd
  have HS := hide hs
  have HSS := hide hS
  have HB := hide hb0
  have HX := hide bxx
  clear hs hd hS hb0 bxx
  go_enter Tryz.func25, Tryz.ntmps25
  go_wp2_with fail
  refine HK.out.mono ?_
  rintro e w2 ⟨rfl, hb2⟩
  have HB2 := hide (below_then HB.out hb2)
  have HX2 := hide (HX.out.below hb2)
  have y0 := HX2.out.cell 0
  have y1 := HX2.out.cell 1
  simp only [List.getElem?_cons_zero, List.getElem?_cons_succ] at y0 y1
  clear hb2
  by_cases hV : tErr n es f d = 0
  case neg =>
    have hR : Hid (verifyR n es f d s = (0, tErr n es f d)) := if_pos hV
    have hq : (tErr n es f d != 0) = true := by simpa using hV
    go_wp2_with fail
    go_ret2
    exact ⟨by rw [hR.out]; rfl, HB2.out⟩
  obtain ⟨N, rfl, hT⟩ := tErr_ok hV
  have HT := hide hT
  have h12 := hT.n12
  have hdN := hT.len
  have HFC := hide (fcheckG_any N es oe c F w2 (HS.out.below edgR_ok HB2.out) hc (by omega) s os cs S (HSS.out.below intR_ok HB2.out) hsc hsl)
  have HRR : Hid (verifyR N es f d s = if fErr N es s ≠ 0 then (0, fErr N es s) else if 0 < oweS es d s then (0, 16) else (costS s, 0)) := if_neg (fun h => h hV)
  rw [hV]
  clear hV
  go_wp2_with fail
  refine HFC.out.mono ?_
  rintro e w3 ⟨rfl, hb3⟩
  have HB3 := hide (below_then HB2.out hb3)
  have HX3 := hide (HX2.out.below hb3)
  clear hb3 y0 y1
  have y0 := HX3.out.cell 0
  have y1 := HX3.out.cell 1
  simp only [List.getElem?_cons_zero, List.getElem?_cons_succ] at y0 y1
  by_cases hF : fErr N es s = 0
  case neg =>
    have hR : Hid (verifyR N es f d s = (0, fErr N es s)) := by show _ = _; rw [HRR.out, if_pos hF]
    have hq : (fErr N es s != 0) = true := by simpa using hF
    clear hT hdN
    go_wp2_with fail
    go_ret2
    exact ⟨by rw [hR.out]; rfl, HB3.out⟩
  have hds : dErr N s = 0 := by
    have h5 := hF
    unfold fErr at h5
    rw [if_pos hT.g] at h5
    exact h5
  obtain ⟨_, hsN0, hsB⟩ := dErr_len hds
  have hsN : s.length = N := by omega
  have HR2 : Hid (verifyR N es f d s = if 0 < oweS es d s then (0, 16) else (costS s, 0)) := by show _ = _; rw [HRR.out, if_neg (fun h => h hF)]
  have hok := EOk.of hT.g hc2
  obtain ⟨W4, e4⟩ : ∃ W4, w3.alloc (.cells #[.int .i64 N, .slice oe es.length c, .slice od N cd, .int .i64 0, .int .i64 0] 102) = W4 := ⟨_, rfl⟩
  have bx4 : Box W4 w3.heap.size [.int .i64 N, .slice oe es.length c, .slice od N cd, .int .i64 0, .int .i64 0] 102 := by rw [← e4]; exact Box.new w3 [.int .i64 N, .slice oe es.length c, .slice od N cd, .int .i64 0, .int .i64 0] 102
  have hb4 : Below w.heap.size w W4 := by rw [← e4]; exact HB3.out.alloc HB3.out.size _
  have q1 := bx4.cell 1
  have q2 := bx4.cell 2
  simp only [List.getElem?_cons_zero, List.getElem?_cons_succ] at q1 q2
  have HBE := hide (behind_any hok h12 oe c F W4 (HS.out.below edgR_ok hb4) hc d od cd G (HD.out.below intR_ok hb4) (by omega) hdN w3.heap.size q1 q2 s os cs S (HSS.out.below intR_ok hb4) hsN (fun y hy => by have := hsB y hy; omega) hT.dB)
  have HB4 := hide hb4
  have hmB : ∀ y ∈ movedL s es d, -1000000000000 ≤ y ∧ y ≤ 1000000000000 := fun y hy => by
    have hve : ∀ x ∈ es, (0 ≤ x.m ∧ x.m ≤ 50) ∧ x.a.toNat < d.length ∧ x.b.toNat < d.length := fun x hx => by
      have := hok.at_ x hx
      omega
    have h1 := moved_bound (s := s) (fun y hy => by have := hsB y hy; omega) hve hT.dB es.length (by omega) y (by rw [List.take_length]; exact hy)
    omega
  have HMB := hide hmB
  have hml : (movedL s es d).length = N := by rw [moved_len, hdN]
  have HML := hide hml
  have HCO : Hid (∀ W, Below w.heap.size w W → Calls Tryz.prog 47 #[.slice os N cs] W fun e w' => e = .returned (.int .i64 (costS s)) ∧ W = w') := fun W hW => by
    have h9 := cost_any s os cs S W (HSS.out.below intR_ok hW) hsc (by omega) (fun k hk => by have := hsB k hk; omega)
    rw [hsN] at h9
    exact h9
  rw [hF]
  try rw [hdN]
  try rw [hsN]
  clear hF hT hdN hds hsN0 hsB hsN hok bx4 hb4 q1 q2 hmB hml HRR
  go_wp2_with fail
  refine HBE.out.mono ?_
  rintro e w5 ⟨g, cap, rest, rfl, hcap, hg, hr, hb5⟩
  have HB5 := hide (below_then HB4.out hb5)
  have HOW : Hid (Calls Tryz.prog 64 #[.slice (some ⟨g, 0, none⟩) N cap] w5 fun e w' => e = .returned (.int .i64 (oweS es d s)) ∧ w5 = w') := by
    have h5 := owed_any (movedL s es d) (some ⟨g, 0, none⟩) cap All w5 (hr.ints (fun y hy => by have := HMB.out y hy; unfold I64; omega) trivial) (by rw [HML.out]; exact hcap) (by rw [HML.out]; omega) HMB.out
    rw [HML.out] at h5
    exact h5
  have HCO5 := hide (HCO.out w5 HB5.out)
  generalize oweS es d s = o at *
  clear hr hb5 hg e4
  go_wp2_with fail
  refine HOW.out.mono ?_
  rintro e w6 ⟨rfl, hw6⟩
  subst hw6
  by_cases ho : 0 < o
  · have hR : Hid (verifyR N es f d s = (0, 16)) := by show _ = _; rw [HR2.out, if_pos ho]
    go_wp2_with fail
    go_ret2
    exact ⟨by rw [hR.out]; rfl, HB5.out⟩
  · have hR : Hid (verifyR N es f d s = (costS s, 0)) := by show _ = _; rw [HR2.out, if_neg ho]
    go_wp2_with fail
    refine HCO5.out.mono ?_
    rintro e w7 ⟨rfl, hw7⟩
    subst hw7
    go_wp2_with fail
    go_ret2
    exact ⟨by rw [hR.out]; rfl, HB5.out⟩
end Go.Proofs.YtpgopmmobbemcaaGreat

set_option linter.unusedVariables false
set_option linter.unusedSimpArgs false
set_option linter.unnecessarySimpa false
namespace Go.Proofs.YtpgopmmobbemcaaGreat
open Go.RowKit

end Go.Proofs.YtpgopmmobbemcaaGreat

set_option linter.unusedVariables false
set_option linter.unusedSimpArgs false
namespace Go.Proofs.YtpgopmmobbemcaaGreat
open Go.RowKit

/-- The sum over a list, as a sum over indices. -/
theorem owedL_sum : ∀ (l : List Int), owedL l = owedF l.length (fun v => l.getD v 0) := by
  have key : ∀ (l : List Int) (k : Nat), k ≤ l.length → owedL (l.take k) = owedF k (fun v => l.getD v 0) := by
    intro l k
    induction k with
    | zero => intro _; rfl
    | succ k ih =>
      intro hk
      have hlt : k < l.length := by omega
      have h1 := ih (by omega)
      have h2 : l.drop k = l[k] :: l.drop (k + 1) := (List.drop_eq_getElem_cons hlt)
      rw [owedL_take h2, h1]
      unfold owedF
      rw [sumI]
      congr 1
      show max 0 (-l[k]) = max 0 (-(l.getD k 0))
      rw [List.getD_eq_getElem?_getD, List.getElem?_eq_getElem hlt]
      rfl
  intro l
  have h1 := key l l.length (by omega)
  rw [List.take_length] at h1
  exact h1
theorem oweS_app {N : Nat} {es : List Edg} {d : List Int} (hok : EOk N es) (hd : d.length = N) (s : List Int) : oweS es d s = owedF N (app N (linkE es) (fun u => d.getD u 0) (fun u => s.getD u 0)) := by
  unfold oweS
  rw [owedL_sum, moved_len, hd]
  unfold owedF
  exact sumI_eq fun v hv => by
    show max 0 (-((movedL s es d).getD v 0)) = _
    rw [moved_link (fun y hy => (hok.at_ y hy).1) hd hv]
/-- The search of the reference. -/
def refF (N : Nat) (wins : List Int → Bool) : Nat → Nat → List Int × Int × Int
  | 0, _ => ([], 0, 12)
  | fuel + 1, n => match firstS wins N [] n with
    | some s => (s, n, 0)
    | none => refF N wins fuel (n + 1)
def refSolveR (n : Int) (es : List Edg) (f : List Nat) (d : List Int) (limit : Int) (b : Bool) : List Int × Int × Int :=
  if tErr n es f d ≠ 0 then ([], 0, tErr n es f d) else if limit < 0 ∨ 8 < limit then ([], 0, 2) else if b = false then ([], 0, 6) else refF n.toNat (fun s => paidL (movedL s es d)) (limit.toNat + 1) 0
end Go.Proofs.YtpgopmmobbemcaaGreat

set_option linter.unusedVariables false
set_option linter.unusedSimpArgs false
namespace Go.Proofs.YtpgopmmobbemcaaGreat
open Go.RowKit

/-- What a game of borrowing needs. -/
structure GOk (N : Nat) (es : List Edg) (d : List Int) : Prop where
  ok : EOk N es
  n1 : 1 ≤ N
  conn : Conn N (linkE es)
  sm : SmG N es d
theorem GOk.gr {N : Nat} {es : List Edg} {d : List Int} (h : GOk N es d) : Gr N (linkE es) := linkE_gr fun y hy => by have := (h.ok.at_ y hy).2; omega
theorem GOk.few {N : Nat} {es : List Edg} {d : List Int} (h : GOk N es d) {b : Nat → Nat} (hb : Bor N (linkE es) (fun v => d.getD v 0) b) {z : Nat} (hz : z < N) (hbz : b z = 0) : sumI (fun v => (b v : Int)) N ≤ 11340 := by
  have h6 := h.sm.n6
  have h1 := h.n1
  have hD : ∀ v, v < N → -(60 : Int) ≤ (fun v => d.getD v 0) v := fun v _ => by
    show -(60 : Int) ≤ d.getD v 0
    rw [List.getD_eq_getElem?_getD]
    rcases hx : d[v]? with _ | x
    · simp
    · have := h.sm.dB x (List.mem_of_getElem? hx)
      simpa using this.1
  have h2 : sumI (vlR N (linkE es)) N = sumI (fun v : Nat => valE es v) N := sumI_eq fun v hv => (val_link v fun x hx => (h.ok.at_ x hx).1).symm
  have h3 := val_sum (n := N) (es := es) fun x hx => by have := (h.ok.at_ x hx).2; omega
  have h4 := h.sm.sz
  have h5 : sumI (fun _ => (60 : Int)) N = 60 * N := by
    have : ∀ n : Nat, sumI (fun _ => (60 : Int)) n = 60 * n := fun n => by
      induction n with
      | zero => rfl
      | succ n ih => rw [sumI, ih]; push_cast; omega
    exact this N
  have h7 : sumI (fun u => vlR N (linkE es) u + 60) N ≤ 378 := by
    rw [sumI_add, h5]
    omega
  have h8 : ∀ v, v < N → (b v : Int) ≤ 1890 := fun v hv => by
    have h9 := hb.range h.gr h.conn hD (by omega) hz hbz hv
    have h10 : ((N - 1 : Nat) : Int) * sumI (fun u => vlR N (linkE es) u + 60) N ≤ ((N - 1 : Nat) : Int) * 378 := Int.mul_le_mul_of_nonneg_left h7 (by omega)
    omega
  have h11 := sumI_le (f := fun v => (b v : Int)) (g := fun _ => 1890) (n := N) h8
  have h12 : ∀ n : Nat, sumI (fun _ => (1890 : Int)) n = 1890 * n := fun n => by
    induction n with
    | zero => rfl
    | succ n ih => rw [sumI, ih]; push_cast; omega
  rw [h12] at h11
  omega
/-- A game of borrowing under way. -/
structure GSt (N : Nat) (es : List Edg) (d : List Int) (i : Nat) (b : Nat → Nat) (left : Nat → Int) : Prop where
  bor : Bor N (linkE es) (fun v => d.getD v 0) b
  left : ∀ v, v < N → left v = app N (linkE es) (fun v => d.getD v 0) (negU b) v
  sum : sumI (fun v => (b v : Int)) N = i
  few : i ≤ 11341
theorem GSt.zero {N : Nat} {es : List Edg} {d : List Int} : GSt N es d 0 (fun _ => 0) (fun v => d.getD v 0) where
  bor := .zero
  left := fun v hv => by
    have e : negU (fun _ => 0) = fun _ => 0 := by funext v; simp [negU]
    rw [e, app_zero]
  sum := sumI_zero N
  few := by omega
theorem GSt.step {N : Nat} {es : List Edg} {d : List Int} (h : GOk N es d) {i : Nat} {b : Nat → Nat} {left : Nat → Int} (hg : GSt N es d i b left) {z : Nat} (hz : z < N) (hbz : b z = 0) {v : Nat} (hv : v < N) (hl : left v < 0) : GSt N es d (i + 1) (upU b v 1) (borF es v left) where
  bor := .step hg.bor hv (by rw [← hg.left v hv]; exact hl)
  left := fun u hu => by
    rw [borF_at h.ok hv hu, hg.left u hu, app_up h.gr b hv hu, h.gr.sym v u]
  sum := by
    have h1 := sumI_one (f := fun u => (upU b v 1 u : Int)) (g := fun u => (b u : Int)) hv (fun p hp hne => by rw [upU_ne _ _ hne])
    rw [h1, hg.sum, upU_at]
    push_cast
    omega
  few := by
    have h1 := h.few hg.bor hz hbz
    rw [hg.sum] at h1
    omega
theorem GSt.le {N : Nat} {es : List Edg} {d : List Int} {i : Nat} {b : Nat → Nat} {left : Nat → Int} (hg : GSt N es d i b left) {v : Nat} (hv : v < N) : b v ≤ 11341 := by
  have h1 := sumI_one (f := fun u => (b u : Int)) (g := fun u => if u = v then 0 else (b u : Int)) hv (fun p hp hne => by rw [if_neg hne])
  have h2 : 0 ≤ sumI (fun u => if u = v then 0 else (b u : Int)) N := sumI_nn fun p hp => by split <;> omega
  rw [hg.sum, if_pos rfl] at h1
  have h3 := hg.few
  omega
/-- How a game of borrowing ends. -/
structure GEnd (N : Nat) (es : List Edg) (d : List Int) (a : Bool) (b : Nat → Nat) : Prop where
  bor : Bor N (linkE es) (fun v => d.getD v 0) b
  won : a = true → ∀ v, v < N → 0 ≤ app N (linkE es) (fun v => d.getD v 0) (negU b) v
  lost : a = false → ¬ Winn N (linkE es) (fun v => d.getD v 0)
  le : ∀ v, v < N → b v ≤ 11341
theorem GEnd.iff {N : Nat} {es : List Edg} {d : List Int} {a : Bool} {b : Nat → Nat} (h : GEnd N es d a b) : a = true ↔ Winn N (linkE es) (fun v => d.getD v 0) := by
  constructor
  · intro ha
    exact h.bor.won (h.won ha)
  · intro hw
    cases ha : a
    · exact absurd hw (h.lost ha)
    · rfl
theorem GSt.won {N : Nat} {es : List Edg} {d : List Int} {i : Nat} {b : Nat → Nat} {left : Nat → Int} (hg : GSt N es d i b left) (hp : ∀ v, v < N → 0 ≤ left v) : GEnd N es d true b where
  bor := hg.bor
  won := fun _ v hv => by rw [← hg.left v hv]; exact hp v hv
  lost := fun h => by cases h
  le := fun v hv => hg.le hv
theorem GSt.lost {N : Nat} {es : List Edg} {d : List Int} (h : GOk N es d) {i : Nat} {b : Nat → Nat} {left : Nat → Int} (hg : GSt N es d i b left) (ha : ∀ v, v < N → 1 ≤ b v) : GEnd N es d false b where
  bor := hg.bor
  won := fun h => by cases h
  lost := fun _ => hg.bor.lost h.gr h.n1 ha
  le := fun v hv => hg.le hv
theorem poorL_nil {left : Nat → Int} {N : Nat} (h : poorL left N = []) : ∀ v, v < N → 0 ≤ left v := fun v hv => by
  refine Classical.byContradiction fun hn => ?_
  have : (v : Int) ∈ poorL left N := poorL_mem.2 ⟨v, rfl, hv, by omega⟩
  rw [h] at this
  simp at this
theorem gRun_law {N : Nat} {es : List Edg} {d : List Int} (h : GOk N es d) (picks : List Int) : ∀ (fuel i : Nat) (left s : Nat → Int) (b : Nat → Nat), GSt N es d i b left → (∀ v, v < N → s v = -(b v : Int)) → 11341 ≤ fuel + i →
    ∃ a g, gRun N es picks fuel i left s = (a, lst N (negU g), 0) ∧ GEnd N es d a g := by
  intro fuel
  induction fuel with
  | zero =>
    intro i left s b hg hs hf
    have hls : lst N s = lst N (negU b) := lst_congr fun v hv => hs v hv
    unfold gRun
    by_cases hp : poorL left N = []
    · rw [if_pos hp, hls]
      exact ⟨true, b, rfl, hg.won (poorL_nil hp)⟩
    · rw [if_neg hp]
      by_cases ha : allNeg N s = true
      · rw [if_pos ha, hls]
        exact ⟨false, b, rfl, hg.lost h fun v hv => by have := allNeg_true.1 ha v hv; have := hs v hv; omega⟩
      · obtain ⟨z, hz, hbz⟩ : ∃ z, z < N ∧ b z = 0 := by
          refine Classical.byContradiction fun hn => ha (allNeg_true.2 fun v hv => ?_)
          have : b v ≠ 0 := fun e => hn ⟨v, hv, e⟩
          rw [hs v hv]
          omega
        have h1 := h.few hg.bor hz hbz
        rw [hg.sum] at h1
        omega
  | succ fuel ih =>
    intro i left s b hg hs hf
    have hls : lst N s = lst N (negU b) := lst_congr fun v hv => hs v hv
    unfold gRun
    by_cases hp : poorL left N = []
    · rw [if_pos hp, hls]
      exact ⟨true, b, rfl, hg.won (poorL_nil hp)⟩
    · rw [if_neg hp]
      by_cases ha : allNeg N s = true
      · rw [if_pos ha, hls]
        exact ⟨false, b, rfl, hg.lost h fun v hv => by have := allNeg_true.1 ha v hv; have := hs v hv; omega⟩
      · rw [if_neg ha]
        obtain ⟨z, hz, hbz⟩ : ∃ z, z < N ∧ b z = 0 := by
          refine Classical.byContradiction fun hn => ha (allNeg_true.2 fun v hv => ?_)
          have : b v ≠ 0 := fun e => hn ⟨v, hv, e⟩
          rw [hs v hv]
          omega
        obtain ⟨hv, hl, _⟩ := gPick_ok (picks := picks) (i := i) hp
        refine ih (i + 1) _ _ _ (hg.step h hz hbz hv hl) (fun u hu => ?_) (by omega)
        by_cases e : u = gPick picks i (poorL left N)
        · rw [e, putF_at, upU_at, hs _ hv]
          push_cast
          omega
        · rw [putF_ne _ _ e, upU_ne _ _ e]
          exact hs u hu
/-- Two games end alike. -/
theorem GEnd.same {N : Nat} {es : List Edg} {d : List Int} (h : GOk N es d) {a c : Bool} {b g : Nat → Nat} (h1 : GEnd N es d a b) (h2 : GEnd N es d c g) : a = c ∧ (a = true → lst N (negU b) = lst N (negU g)) := by
  have e : a = c := by rw [Bool.eq_iff_iff, h1.iff, h2.iff]
  refine ⟨e, fun ha => lst_congr fun v hv => ?_⟩
  have h3 := h1.bor.same h.gr h2.bor (h1.won ha) (h2.won (by rw [← e]; exact ha)) v hv
  unfold negU
  rw [h3]
/-- The reference's Wins. -/
def allB (N : Nat) (bor : Nat → Bool) : Bool := (List.range N).all bor
def wRun (N : Nat) (es : List Edg) : Nat → (Nat → Int) → (Nat → Bool) → Bool
  | 0, _, _ => false
  | fuel + 1, left, bor => if debtorL (lst N left) 0 < 0 then true else if allB N bor = true then false else
      wRun N es fuel (borF es (debtorL (lst N left) 0).toNat left) (fun u => if u = (debtorL (lst N left) 0).toNat then true else bor u)
end Go.Proofs.YtpgopmmobbemcaaGreat

set_option linter.unusedVariables false
set_option linter.unusedSimpArgs false
set_option linter.unnecessarySimpa false
namespace Go.Proofs.YtpgopmmobbemcaaGreat
open Go.RowKit

/-- The chips when v borrows, up to vertex k. -/
def refB (es : List Edg) (v : Nat) (left : Nat → Int) (k : Nat) : Nat → Int := fun i => if i = v then left v + valU es v k else if i < k then left i - betw es i v else left i
/-- The chips and the marks, in memory. -/
structure WMem (w0 : World) (N gd gb : Nat) (rest : List Value) (left : Nat → Int) (bor : Nat → Bool) (w : World) : Prop where
  rd : Row1 (Value.int .i64) w gd 3 (lst N left) rest
  rb : Row1 Value.bool w gb 4 ((List.range N).map bor) []
  ne : gd ≠ gb
  lo : w0.heap.size ≤ gd ∧ w0.heap.size ≤ gb
  be : Below w0.heap.size w0 w
theorem WMem.below {w0 w w' : World} {N gd gb : Nat} {rest : List Value} {left : Nat → Int} {bor : Nat → Bool} (h : WMem w0 N gd gb rest left bor w) (hb : Below w.heap.size w w') : WMem w0 N gd gb rest left bor w' :=
  ⟨h.rd.below hb, h.rb.below hb, h.ne, h.lo, below_then h.be hb⟩
theorem WMem.put {w0 w : World} {N gd gb : Nat} {rest : List Value} {left : Nat → Int} {bor : Nat → Bool} (h : WMem w0 N gd gb rest left bor w) {i : Nat} (hi : i < N) (x : Int) : WMem w0 N gd gb rest (updF left i x) bor (w.setCell ⟨gd, i, none⟩ (.int .i64 x)) := by
  have h5 := h.rd.put (i := i) (by rw [lst_len]; exact hi) x
  rw [lst_set] at h5
  exact ⟨h5, h.rb.other (fun e => h.ne e.symm) _, h.ne, h.lo, h.be.setCell h.lo.1 _⟩
theorem WMem.congr {w0 w : World} {N gd gb : Nat} {rest : List Value} {left l2 : Nat → Int} {bor b2 : Nat → Bool} (h : WMem w0 N gd gb rest left bor w) (h1 : ∀ i, i < N → left i = l2 i) (h2 : ∀ i, i < N → bor i = b2 i) : WMem w0 N gd gb rest l2 b2 w := by
  refine ⟨?_, ?_, h.ne, h.lo, h.be⟩
  · rw [← lst_congr h1]; exact h.rd
  · rw [← List.map_congr_left (fun i hi => h2 i (List.mem_range.1 hi))]; exact h.rb
end Go.Proofs.YtpgopmmobbemcaaGreat

set_option linter.unusedVariables false
set_option linter.unusedSimpArgs false
set_option linter.unnecessarySimpa false
namespace Go.Proofs.YtpgopmmobbemcaaGreat
open Go.RowKit

def FirstV (w : World) (v : Value) : Option (List Int) → Prop
  | none => v = .slice none 0 0
  | some s => ∃ b off c, v = .slice (some ⟨b, off, none⟩) s.length c ∧ s.length ≤ c ∧ SliceR intR 1 All w (some ⟨b, off, none⟩) s
theorem FirstV.below {w w' : World} {v : Value} (hb : Below w.heap.size w w') : ∀ {o : Option (List Int)}, FirstV w v o → FirstV w' v o
  | none, h => h
  | some s, ⟨b, off, c, h1, h2, h3⟩ => ⟨b, off, c, h1, h2, h3.below intR_ok hb⟩
def FirstPost (w : World) (o : Option (List Int)) (e : Ending) (w' : World) : Prop := ∃ v, e = .returned v ∧ FirstV w' v o ∧ Below w.heap.size w w'
theorem OwnS.into {w : World} {base : Nat} {v : Value} {xs : List Int} (h : OwnS intR 1 base 3 Non w v xs) : ∃ o c, v = .slice o xs.length c ∧ xs.length ≤ c ∧ SliceR intR 1 All w o xs := by
  obtain ⟨o, c, h1, h2, h3⟩ := h.slice intR_ok
  exact ⟨o, c, h1, h2, h3.all intR_ok (by decide)⟩
end Go.Proofs.YtpgopmmobbemcaaGreat

set_option linter.unusedVariables false
set_option linter.unusedSimpArgs false
set_option linter.unnecessarySimpa false
namespace Go.Proofs.YtpgopmmobbemcaaGreat
open Go.RowKit

theorem GOk.of {N : Nat} {es : List Edg} {f : List Nat} {d : List Int} (hT : TOk N es f d) (hc2 : es.length ≤ 1000) (hU : gErr N es = 0 → Uf f (eL es)) (hS : SmG N es d) : GOk N es d :=
  ⟨EOk.of hT.g hc2, hT.n12.1, conn_link hU hT.j, hS⟩
/-- What the reference's Wins says. -/
def winsB (N : Nat) (es : List Edg) (d : List Int) : Bool := if totL d < 0 then false else wRun N es 10000000 (fun v => d.getD v 0) (fun _ => false)
def RSolvePost (w : World) (n : Int) (es : List Edg) (f : List Nat) (d : List Int) (limit : Int) (e : Ending) (w' : World) : Prop :=
  ∃ b : Bool, (tErr n es f d = 0 → (b = true ↔ Winn n.toNat (linkE es) (fun v => d.getD v 0))) ∧ SolPost w (refSolveR n es f d limit b) e w'
end Go.Proofs.YtpgopmmobbemcaaGreat

set_option linter.unusedVariables false
set_option linter.unusedSimpArgs false
set_option linter.unnecessarySimpa false
namespace Go.Proofs.YtpgopmmobbemcaaGreat
open Go.RowKit

def sm43 (n : Int) (es : List Edg) (f : List Nat) (d : List Int) : Bool := smB n es 5 7 && (decide (d.length ≤ 24) && (smD d || decide (tErr n es f d ≠ 0)))
theorem smB_len {n : Int} {es : List Edg} {N M : Int} (h : smB n es N M = true) : es.length ≤ 40 := by
  unfold smB at h
  split at h
  · assumption
  · cases h
end Go.Proofs.YtpgopmmobbemcaaGreat

set_option linter.unusedVariables false
set_option linter.unusedSimpArgs false
set_option linter.unnecessarySimpa false
namespace Go.Proofs.YtpgopmmobbemcaaGreat
open Go.RowKit

def lsm43 (n : Int) (es : List Edg) (f : List Nat) (d : List Int) : Bool := smB n es 6 9 && (decide (d.length ≤ 24) && (decide (tErr n es f d = 0) && smD d))
theorem lsm43_parts {n : Int} {es : List Edg} {f : List Nat} {d : List Int} (h : lsm43 n es f d = true) : es.length ≤ 40 ∧ d.length ≤ 24 ∧ tErr n es f d = 0 ∧ SmG n.toNat es d := by
  unfold lsm43 at h
  simp only [Bool.and_eq_true, decide_eq_true_eq] at h
  obtain ⟨h1, h2, h3, h4⟩ := h
  refine ⟨smB_len h1, h2, h3, ?_⟩
  obtain ⟨N, rfl, hT⟩ := tErr_ok h3
  unfold smB at h1
  rw [if_pos (smB_len (by unfold smB; exact h1)), if_pos hT.g] at h1
  have h5 := of_decide_eq_true h1
  exact ⟨by rw [Int.toNat_natCast]; omega, by omega, smD_yes h4⟩
set_option maxRecDepth 100000 in
set_option maxHeartbeats 4000000 in
theorem lsmall43_any (n : Int) (es : List Edg) (oe : Option Addr) (c : Nat) (F : Foot) (w : World) (hs : SliceR edgR 3 F w oe es) (hc : es.length ≤ c) (hc2 : es.length ≤ 9223372036854775807)
    (f : List Nat) (hU : Hid (gErr n es = 0 → Uf f (eL es))) (d : List Int) (od : Option Addr) (cd : Nat) (G : Foot) (hd : SliceR intR 1 G w od d) (hdc : d.length ≤ cd) (hdl : d.length ≤ 9223372036854775807) :
    Calls Tryz.prog 27 #[.agg #[.int .i64 n, .slice oe es.length c], .slice od d.length cd] w fun e w' => e = .returned (.bool (lsm43 n es f d)) ∧ Below w.heap.size w w' := by
  have hb0 := bnew (Below.refl w.heap.size w) (.cells #[.int .i64 n, .slice oe es.length c] 24)
  have bxx := Box.new w [.int .i64 n, .slice oe es.length c] 24
  have HK := hide (rfew_any n es oe c F _ (hs.below edgR_ok hb0) hc hc2)
  have HD := hide hd
  have HS := hide hs
  have HB := hide hb0
  have HX := hide bxx
  have HE : Hid (lsm43 n es f d = (smB n es 6 9 && (decide (d.length ≤ 24) && (decide (tErr n es f d = 0) && smD d)))) := rfl
  clear hs hd hb0 bxx
  go_enter Tryz.func27, Tryz.ntmps27
  go_wp2_with fail
  refine HK.out.mono ?_
  rintro e w2 ⟨rfl, hb2⟩
  have HB2 := hide (below_then HB.out hb2)
  have HX2 := hide (HX.out.below hb2)
  clear hb2
  generalize smB n es 6 9 = b1 at *
  cases b1
  · go_wp2_with fail
    go_ret
    exact ⟨ret_bool (by rw [HE.out]; rfl), HB2.out⟩
  go_wp2_with fail
  refine (few17_any d od cd _).mono ?_
  rintro e w3 ⟨rfl, hb3⟩
  have HB3 := hide (below_then HB2.out hb3)
  have HX3 := hide (HX2.out.below hb3)
  clear hb3
  generalize decide (d.length ≤ 24) = b2 at *
  cases b2
  · go_wp2_with fail
    go_ret
    exact ⟨ret_bool (by rw [HE.out]; rfl), HB3.out⟩
  have y0 := HX3.out.cell 0
  have y1 := HX3.out.cell 1
  simp only [List.getElem?_cons_zero, List.getElem?_cons_succ] at y0 y1
  have HGV := hide (rgiven43_any n es oe c F w3 (HS.out.below edgR_ok HB3.out) hc hc2 f hU d od cd G (HD.out.below intR_ok HB3.out) hdc hdl)
  go_wp2_with fail
  refine HGV.out.mono ?_
  rintro e w4 ⟨rfl, hb4⟩
  have HB4 := hide (below_then HB3.out hb4)
  clear hb4 HGV
  by_cases hV : tErr n es f d = 0
  case neg =>
    have hq : (tErr n es f d == 0) = false := by simpa using hV
    have HR : Hid (lsm43 n es f d = false) := by show _ = _; rw [HE.out]; simp [hV]
    clear hV
    go_wp2_with fail
    go_ret
    exact ⟨ret_bool HR.out.symm, HB4.out⟩
  have hq : (tErr n es f d == 0) = true := by simpa using hV
  have HR : Hid (lsm43 n es f d = smD d) := by show _ = _; rw [HE.out]; simp [hV]
  have HSM := hide (smD_any d od cd G w4 (HD.out.below intR_ok HB4.out) hdc hdl)
  clear hV
  go_wp2_with fail
  refine HSM.out.mono ?_
  rintro e w5 ⟨rfl, hb5⟩
  have HB5 := hide (below_then HB4.out hb5)
  clear hb5 HSM
  go_wp2_with fail
  go_ret
  exact ⟨ret_bool HR.out.symm, HB5.out⟩
theorem lst_getD {N : Nat} {f : Nat → Int} {v : Nat} (h : v < N) : (lst N f).getD v 0 = f v := by
  rw [List.getD_eq_getElem?_getD, lst_get _ h]
  rfl
theorem dErr_ok {N : Nat} {l : List Int} (h12 : 1 ≤ N ∧ N ≤ 12) (hl : l.length = N) (hb : ∀ x ∈ l, -1048576 ≤ x ∧ x ≤ 1048576) : dErr N l = 0 := by
  unfold dErr
  rw [if_pos (by omega), if_pos (by omega)]
  clear hl
  induction l with
  | nil => rfl
  | cons x r ih =>
    have h1 := hb x (by simp)
    have h2 := ih fun y hy => hb y (by simp [hy])
    unfold dScan
    rw [if_pos (show inChips x = true from decide_eq_true h1)]
    exact h2
theorem owed_nil {N : Nat} {d : Nat → Int} (h : ∀ v, v < N → 0 ≤ d v) : owedF N d = 0 := by
  unfold owedF
  have h1 : sumI (fun v => max 0 (-(d v))) N = sumI (fun _ => 0) N := sumI_eq fun v hv => by have := h v hv; omega
  rw [h1, sumI_zero]
/-- A winning script, checked. -/
theorem verify_won {N : Nat} {es : List Edg} {f : List Nat} {d : List Int} (hT : TOk N es f d) (hc2 : es.length ≤ 1000) {s : Nat → Int} (hs : ∀ v, v < N → 0 ≤ app N (linkE es) (fun v => d.getD v 0) s v) (hb : ∀ v, v < N → -1048576 ≤ s v ∧ s v ≤ 1048576) :
    oweS es d (lst N s) = 0 ∧ fErr N es (lst N s) = 0 := by
  have hok := EOk.of hT.g hc2
  refine ⟨?_, ?_⟩
  · rw [oweS_app hok hT.len]
    refine owed_nil fun v hv => ?_
    rw [app_congr (t := s) (fun u hu => lst_getD hu) hv]
    exact hs v hv
  · unfold fErr
    rw [if_pos hT.g]
    exact dErr_ok hT.n12 (lst_len N s) fun x hx => by
      obtain ⟨v, hv, rfl⟩ := List.mem_map.1 hx
      exact hb v (List.mem_range.1 hv)
theorem greedy_small {N : Nat} {es : List Edg} {f : List Nat} {d pk : List Int} (hT : TOk N es f d) (hG : GOk N es d) (hp : pkE pk = 0) : ∃ a g, greedyR 1048576 N es f d pk = (a, lst N (negU g), 0) ∧ GEnd N es d a g := by
  obtain ⟨M, hM⟩ : ∃ M : Nat, M = 1048576 := ⟨_, rfl⟩
  rw [← hM]
  obtain ⟨a, g, h1, h2⟩ := gRun_law hG pk M 0 (fun v => d.getD v 0) (fun _ => 0) (fun _ => 0) GSt.zero (fun v _ => by simp) (by omega)
  refine ⟨a, g, ?_, h2⟩
  have ht : tErr N es f d = 0 := by
    unfold tErr
    rw [if_pos hT.j]
    exact dErr_ok hT.n12 hT.len hT.dB
  unfold greedyR
  rw [if_neg (fun h => h ht), if_neg (fun h => h hp), Int.toNat_natCast]
  exact h1
theorem pick0 : pkE [0] = 0 := by decide
end Go.Proofs.YtpgopmmobbemcaaGreat

set_option linter.unusedVariables false
set_option linter.unusedSimpArgs false
set_option linter.unnecessarySimpa false
namespace Go.Proofs.YtpgopmmobbemcaaGreat
open Go.RowKit

set_option maxRecDepth 100000 in
set_option maxHeartbeats 8000000 in
theorem decides_walk (w : World) (n : Int) (es : List Edg) (oe : Option Addr) (c : Nat) (hc : es.length ≤ c) (hc2 : es.length ≤ 9223372036854775807) (hs : SliceR edgR 3 All w oe es)
    (d : List Int) (od : Option Addr) (cd : Nat) (hdc : d.length ≤ cd) (hdl : d.length ≤ 9223372036854775807) (hd : SliceR intR 1 All w od d)
    (pk : List Int) (op : Option Addr) (cp : Nat) (hpc : pk.length ≤ cp) (hpl : pk.length ≤ 9223372036854775807) (hp : SliceR intR 1 All w op pk) :
    Calls Tryz.prog 7 #[.agg #[.int .i64 n, .slice oe es.length c], .slice od d.length cd, .slice op pk.length cp] w fun r w' => r = .returned (.bool true) ∧ Below w.heap.size w w' := by
  have HU : Hid (gErr n es = 0 → Uf (forest es) (eL es)) := forest_ok n es
  have hb0 := bnew (Below.refl w.heap.size w) (.cells #[.int .i64 n, .slice oe es.length c] 24)
  have bxx := Box.new w [.int .i64 n, .slice oe es.length c] 24
  have K1 := hide (lsmall43_any n es oe c All _ (hs.below edgR_ok hb0) hc hc2 (forest es) HU d od cd All (hd.below intR_ok hb0) hdc hdl)
  have HD := hide hd
  have HS := hide hs
  have HP := hide hp
  have HB := hide hb0
  have HX := hide bxx
  have haw : ∀ W : World, Calls Tryz.prog 12 #[] W fun e w' => e = .returned (.bool true) ∧ Below W.heap.size W w' := fun W => awake43_any W
  have HAW := hide haw
  clear hs hd hp hb0 bxx haw
  go_enter Tryz.func7, Tryz.ntmps7
  go_wp2_with fail
  refine K1.out.mono ?_
  rintro e w2 ⟨rfl, hb2⟩
  have HB2 := hide (below_then HB.out hb2)
  have HX2 := hide (HX.out.below hb2)
  clear hb2
  rcases hf : lsm43 n es (forest es) d with _ | _
  · clear hf
    go_wp2_with fail
    refine (HAW.out _).mono ?_
    rintro e w6 ⟨rfl, hb6⟩
    have HB6 := hide (below_then HB2.out hb6)
    clear hb6
    go_wp2_with fail
    go_ret
    exact ⟨by first | rfl | trivial, HB6.out⟩
  obtain ⟨h40, h24, hV, hsm⟩ := lsm43_parts hf
  have KP := hide (picks_any pk op cp All w2 (HP.out.below intR_ok HB2.out) hpc hpl)
  clear hf
  go_wp2_with fail
  refine KP.out.mono ?_
  rintro e w3 ⟨rfl, hb3⟩
  have HB3 := hide (below_then HB2.out hb3)
  have HX3 := hide (HX2.out.below hb3)
  clear hb3 KP
  by_cases hpk : pkE pk = 0
  case neg =>
    have hq : (pkE pk != 0) = true := by simpa using hpk
    clear hpk hV hsm
    go_wp2_with fail
    refine (HAW.out _).mono ?_
    rintro e w6 ⟨rfl, hb6⟩
    have HB6 := hide (below_then HB3.out hb6)
    clear hb6
    go_wp2_with fail
    go_ret
    exact ⟨by first | rfl | trivial, HB6.out⟩
  have HPK := hide hpk
  rw [hpk]
  clear hpk
  go_wp2_with fail
  refine (fewP_any pk op cp w3).mono ?_
  rintro e w4 ⟨rfl, hb4⟩
  have HB4 := hide (below_then HB3.out hb4)
  have HX4 := hide (HX3.out.below hb4)
  clear hb4
  generalize fewP pk = bf at *
  cases bf
  · clear hV hsm
    go_wp2_with fail
    refine (HAW.out _).mono ?_
    rintro e w6 ⟨rfl, hb6⟩
    have HB6 := hide (below_then HB4.out hb6)
    clear hb6
    go_wp2_with fail
    go_ret
    exact ⟨by first | rfl | trivial, HB6.out⟩
  obtain ⟨N, rfl, hT⟩ := tErr_ok hV
  have hc3 : es.length ≤ 1000 := by omega
  rw [Int.toNat_natCast] at hsm
  have hG := GOk.of hT hc3 HU.out hsm
  obtain ⟨a, g, hr1, hg⟩ := greedy_small hT hG pick0
  obtain ⟨b, g2, hr2, hg2⟩ := greedy_small hT hG HPK.out
  obtain ⟨hab, hsame⟩ := hg.same hG hg2
  subst hab
  have HGE := hide hg
  have HSM : Hid (tErr (N : Int) es (forest es) d = 0 → SmG (N : Int).toNat es d) := fun _ => by rw [Int.toNat_natCast]; exact hsm
  have HS1 : Hid (a = true → lst N (negU g) = lst N (negU g2)) := hsame
  have HVE : Hid (a = true → oweS es d (lst N (negU g)) = 0 ∧ fErr N es (lst N (negU g)) = 0) := fun ha => verify_won hT hc3 (hg.won ha) (fun v hv => by have := hg.le v hv; unfold negU; omega)
  have HTV : Hid (tErr (N : Int) es (forest es) d = 0) := hV
  have HIF := hide hg.iff
  have HL1 : Hid ((lst N (negU g)).length = N) := lst_len _ _
  have HL2 : Hid ((lst N (negU g2)).length = N) := lst_len _ _
  have h12 := hT.n12
  have HG1 : Hid (∀ W (oz : Option Addr) (cz : Nat), Below w.heap.size w W → SliceR intR 1 All W oz [0] → 1 ≤ cz → Calls Tryz.prog 17 #[.agg #[.int .i64 N, .slice oe es.length c], .slice od d.length cd, .slice oz 1 cz] W (GrePost W (a, lst N (negU g), 0))) := fun W oz cz hW hz hcz => by
    have h5 := greedy_any N es oe c All W (HS.out.below edgR_ok hW) hc hc3 (forest es) HU d od cd All (HD.out.below intR_ok hW) hdc hdl [0] oz cz All hz hcz (by simp)
    rw [hr1] at h5
    exact h5
  have HG2 : Hid (∀ W, Below w.heap.size w W → Calls Tryz.prog 17 #[.agg #[.int .i64 N, .slice oe es.length c], .slice od d.length cd, .slice op pk.length cp] W (GrePost W (a, lst N (negU g2), 0))) := fun W hW => by
    have h5 := greedy_any N es oe c All W (HS.out.below edgR_ok hW) hc hc3 (forest es) HU d od cd All (HD.out.below intR_ok hW) hdc hdl pk op cp All (HP.out.below intR_ok hW) hpc hpl
    rw [hr2] at h5
    exact h5
  have HWI : Hid (∀ W, Below w.heap.size w W → Calls Tryz.prog 29 #[.agg #[.int .i64 N, .slice oe es.length c], .slice od d.length cd] W (WinPost W N es d 0)) := fun W hW => by
    have h5 := winnable_any N es oe c All W (HS.out.below edgR_ok hW) hc hc3 (forest es) HU d od cd All (HD.out.below intR_ok hW) hdc (by omega) HSM
    rw [HTV.out, Int.toNat_natCast] at h5
    exact h5
  have y0 := HX4.out.cell 0
  have y1 := HX4.out.cell 1
  simp only [List.getElem?_cons_zero, List.getElem?_cons_succ] at y0 y1
  have HZ : Hid (SliceR intR 1 All (w4.alloc (.cells #[.int .i64 0] 3)) (some ⟨w4.heap.size, 0, none⟩) [0]) := intlF w4 0 (by unfold I64; omega) trivial
  clear hr1 hr2 hT hG hsm hV hg hg2 hsame
  go_wp2_with fail
  refine (HG1.out _ (some ⟨w4.heap.size, 0, none⟩) 1 (HB4.out.alloc HB4.out.size _) HZ.out (by omega)).mono ?_
  rintro e w5 ⟨v5, rfl, ho5, hb5⟩
  have HB5 := hide (below_then (HB4.out.alloc HB4.out.size (.cells #[.int .i64 0] 3)) hb5)
  have HX5 := hide ((HX4.out.next (.cells #[.int .i64 0] 3)).below hb5)
  obtain ⟨o5, c5, hv5, hc5, hs5⟩ := OwnS.into ho5
  simp only at hv5 hc5 hs5
  rw [HL1.out] at hv5 hc5
  subst hv5
  have HS5 := hide hs5
  clear ho5 hb5 hs5 y0 y1
  have y0 := HX5.out.cell 0
  have y1 := HX5.out.cell 1
  simp only [List.getElem?_cons_zero, List.getElem?_cons_succ] at y0 y1 ⊢
  go_wp2_with fail
  refine (HG2.out _ HB5.out).mono ?_
  rintro e w6 ⟨v6, rfl, ho6, hb6⟩
  have HB6 := hide (below_then HB5.out hb6)
  have HX6 := hide (HX5.out.below hb6)
  have HS56 := hide (HS5.out.below intR_ok hb6)
  obtain ⟨o6, c6, hv6, hc6, hs6⟩ := OwnS.into ho6
  simp only at hv6 hc6 hs6
  rw [HL2.out] at hv6 hc6
  subst hv6
  have HS6 := hide hs6
  clear ho6 hb6 hs6 y0 y1
  have y0 := HX6.out.cell 0
  have y1 := HX6.out.cell 1
  simp only [List.getElem?_cons_zero, List.getElem?_cons_succ] at y0 y1 ⊢
  cases a
  · go_wp2_with fail
    refine (HWI.out _ HB6.out).mono ?_
    rintro e w7 ⟨b7, r7, s7, rfl, hb7i, hb7⟩
    have e7 : b7 = false := by
      cases hb : b7
      · rfl
      · exact absurd (HIF.out.2 ((hb7i rfl).1 hb)) (by simp)
    subst e7
    have HB7 := hide (below_then HB6.out hb7)
    clear hb7i hb7
    go_wp2_with fail
    refine (HAW.out _).mono ?_
    rintro e w8 ⟨rfl, hb8⟩
    have HB8 := hide (below_then HB7.out hb8)
    clear hb8
    go_wp2_with fail
    go_ret
    exact ⟨by first | rfl | trivial, HB8.out⟩
  · have HSS : Hid (Calls Tryz.prog 15 #[.slice o5 N c5, .slice o6 N c6] w6 fun e w' => e = .returned (.bool true) ∧ Below w6.heap.size w6 w') := by
      have h5 := same_lit (lst N (negU g)) (lst N (negU g2)) o5 o6 c5 c6 w6 (by rw [HL1.out]; exact hc5) (by rw [HL1.out]; omega) HS56.out HS6.out rfl rfl
      rw [HL1.out, HL2.out, decide_eq_true (HS1.out (by first | rfl | trivial))] at h5
      exact h5
    go_wp2_with fail
    refine HSS.out.mono ?_
    rintro e w7 ⟨rfl, hb7⟩
    have HB7 := hide (below_then HB6.out hb7)
    have HX7 := hide (HX6.out.below hb7)
    have HS57 := hide (HS56.out.below intR_ok hb7)
    clear hb7 y0 y1
    have y0 := HX7.out.cell 0
    have y1 := HX7.out.cell 1
    simp only [List.getElem?_cons_zero, List.getElem?_cons_succ] at y0 y1
    go_wp2_with fail
    refine (HWI.out _ HB7.out).mono ?_
    rintro e w8 ⟨b8, r8, s8, rfl, hb8i, hb8⟩
    have e8 : b8 = true := (hb8i rfl).2 (HIF.out.1 (by first | rfl | trivial))
    subst e8
    have HB8 := hide (below_then HB7.out hb8)
    have HX8 := hide (HX7.out.below hb8)
    have HS58 := hide (HS57.out.below intR_ok hb8)
    have HVC : Hid (Calls Tryz.prog 25 #[.agg #[.int .i64 N, .slice oe es.length c], .slice od d.length cd, .slice o5 N c5] w8 (Int2Post w8 (costS (lst N (negU g)), 0))) := by
      have h5 := verify_any N es oe c All w8 (HS.out.below edgR_ok HB8.out) hc hc3 (forest es) HU d od cd All (HD.out.below intR_ok HB8.out) hdc hdl (lst N (negU g)) o5 c5 All HS58.out (by rw [HL1.out]; exact hc5) (by rw [HL1.out]; omega)
      have h6 : verifyR N es (forest es) d (lst N (negU g)) = (costS (lst N (negU g)), 0) := by
        obtain ⟨h7, h8⟩ := HVE.out (by first | rfl | trivial)
        unfold verifyR
        rw [if_neg (fun h => h HTV.out), if_neg (fun h => h h8), if_neg (by omega)]
      rw [h6, HL1.out] at h5
      exact h5
    clear hb8i hb8 y0 y1
    have y0 := HX8.out.cell 0
    have y1 := HX8.out.cell 1
    simp only [List.getElem?_cons_zero, List.getElem?_cons_succ] at y0 y1
    generalize costS (lst N (negU g)) = cc at *
    go_wp2_with fail
    refine HVC.out.mono ?_
    rintro e w9 ⟨rfl, hb9⟩
    have HB9 := hide (below_then HB8.out hb9)
    clear hb9 y0 y1
    go_wp2_with fail
    refine (HAW.out _).mono ?_
    rintro e w10 ⟨rfl, hb10⟩
    have HB10 := hide (below_then HB9.out hb10)
    clear hb10
    go_wp2_with fail
    go_ret
    exact ⟨by first | rfl | trivial, HB10.out⟩
end Go.Proofs.YtpgopmmobbemcaaGreat

set_option linter.unusedVariables false
namespace Go.Proofs.YtpgopmmobbemcaaGreat
open Go.RowKit Go.ChangeShapes Go.WideShapes Go.ChangeAt Go.Deep

set_option maxRecDepth 100000 in
theorem dollarDecides_lifted (os : Os) (started : os.Started) (H : Type) (enc : TypeId × Value → H) :
    ReturnsInHanded {} Tryz.checked os 7 .any (Rows.dollarDecidesSpec.pre6 enc Tryz.prog Tryz.f7 Rows.dollarDecidesRow.domain false) (Rows.dollarDecidesSpec.post enc Tryz.prog Tryz.f7 false true false false) := by
  refine returnsInHanded_of_change (C := Tryz.checked) own_knob started (by kernel_rfl) Tryz.func7
    (ChangeSpec.witness6 (enc := enc) (C := Tryz.checked) false ⟨#[], #[.agg #[.int .i64 0, .slice none 0 0], .slice none 0 0, .slice none 0 0], []⟩ 8 (by kernel_rfl) (by kernel_rfl) (by kernel_rfl) (by kernel_rfl)) ?_
  intro W base args ds gs before hval0 hW _ _
  have hval : ∀ (j : Nat) t v, Tryz.f7.params[j]? = some t → args[j]? = some v → Value.okWide Tryz.prog W .any base t v := hval0
  have hW' := hW
  obtain ⟨p, q, hA0, hV, rfl, _, _⟩ := hW
  have hA : DataW.TrodAll enc Tryz.prog W 0 (fun _ => true) true Tryz.f7.params.toList args.toList ds p := hA0
  rw [Tryz.params7] at hA hval
  obtain ⟨v0, v1, v2, d0, d1, d2, p0, p1, p2, rfl, rfl, rfl, h0, h1, h2⟩ := trodAll_three hA
  obtain ⟨rfl, rfl⟩ := trodVars_none hV
  have h0k := h0
  have h1k := h1
  have h2k := h2
  obtain ⟨n0, es0, oe0, c0, rfl, hc0, hl0, he0⟩ := open_graph (hval 0 24 v0 rfl rfl) h0
  obtain ⟨xs1, oa1, c1, rfl, hc1, hd1, hs1⟩ := open_div (hval 1 28 v1 rfl rfl) h1
  obtain ⟨xs2, oa2, c2, rfl, hc2, hd2, hs2⟩ := open_is (hval 2 25 v2 rfl rfl) h2
  clear hA0 hval0
  simp only [List.append_nil] at hW'
  have hlt0 : ∀ y ∈ p0, y.block < W.heap.size := fun y hy => by simpa using hW'.lt y (by simp [hy])
  have hlt1 : ∀ y ∈ p1, y.block < W.heap.size := fun y hy => by simpa using hW'.lt y (by simp [hy])
  have hlt2 : ∀ y ∈ p2, y.block < W.heap.size := fun y hy => by simpa using hW'.lt y (by simp [hy])
  refine (decides_walk W n0 es0 oe0 c0 hc0 hl0 he0 xs1 oa1 c1 hc1 hd1 hs1 xs2 oa2 c2 hc2 hd2 hs2).mono fun e W' ⟨he, hn⟩ => ?_
  subst he
  exact ⟨_, rfl, _, _, _, [], _, [], hW', trodAll_mk1 (shut_bool Tryz.underlying4 true), trodAll_mk3 (Below.trod laid_out (by kernel_rfl) (of_decide_eq_true (by kernel_rfl)) h0k hn hlt0) (Below.trod laid_out (by kernel_rfl) (of_decide_eq_true (by kernel_rfl)) h1k hn hlt1) (Below.trod laid_out (by kernel_rfl) (of_decide_eq_true (by kernel_rfl)) h2k hn hlt2), rfl, hn.frame _, fun h => by cases h⟩

theorem dollarDecides_holds : Rows.DollarDecidesSaid :=
  OpenClaim.holds_of_wide 7 Tryz.f7 rfl rfl rfl rfl rfl rfl rfl ⟨rfl, rfl, rfl, rfl, rfl⟩ rfl rfl rfl rfl rfl (by kernel_rfl) Tryz.func7 (by kernel_rfl)
    (of_decide_eq_true (by kernel_rfl)) (by unfold Func.isWrapper; first | (rw [if_pos (by decide +kernel)]; kernel_rfl) | (rw [if_neg (by decide +kernel)]; exact ⟨rfl, rfl⟩))
    (fun os started H enc _ => dollarDecides_lifted os started H enc)

#print axioms dollarDecides_holds
end Go.Proofs.YtpgopmmobbemcaaGreat

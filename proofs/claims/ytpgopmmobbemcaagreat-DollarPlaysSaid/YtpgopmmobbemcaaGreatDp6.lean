/-
  The moves of a script lead where the script does, in either order; the cheapest script changes the same and costs no more: for all graphs, divisors and scripts.
  DollarPlays: the walk.
  The moves of a script lead where the script does, in either order; the cheapest script changes the same: in plain Lean.
  A solution wins, costs no less than the bound, and no more than a greedy game made cheap: in plain Lean.
  The dollar game: Play.
  law43.small, and what a won greedy game gives.
  ref08.FewRanks and ref43.Small.
  The reference's Solve.
  The reference's search for a winning script, and its Solve.
  The reference's Wins: borrowing, one vertex in debt after the other.
  Borrowing decides who wins, in plain Lean: the greedy game, and the reference's Wins.
  Solve against the reference's search, in plain Lean.
-/
import Derived.Test.YtpgopmmobbemcaaGreatDp5
import Derived.Test.YtpgopmmobbemcaaGreatRows

set_option linter.unusedVariables false
set_option linter.unusedSimpArgs false
namespace Go.Proofs.YtpgopmmobbemcaaGreat
open Go.RowKit

/-- The search of the reference. -/
def refF (N : Nat) (wins : List Int → Bool) : Nat → Nat → List Int × Int × Int
  | 0, _ => ([], 0, 12)
  | fuel + 1, n => match firstS wins N [] n with
    | some s => (s, n, 0)
    | none => refF N wins fuel (n + 1)
def refSolveR (n : Int) (es : List Edg) (f : List Nat) (d : List Int) (limit : Int) (b : Bool) : List Int × Int × Int :=
  if tErr n es f d ≠ 0 then ([], 0, tErr n es f d) else if limit < 0 ∨ 8 < limit then ([], 0, 2) else if b = false then ([], 0, 6) else refF n.toNat (fun s => paidL (movedL s es d)) (limit.toNat + 1) 0
end Go.Proofs.YtpgopmmobbemcaaGreat

set_option linter.unusedVariables false
set_option linter.unusedSimpArgs false
namespace Go.Proofs.YtpgopmmobbemcaaGreat
open Go.RowKit

/-- What a game of borrowing needs. -/
structure GOk (N : Nat) (es : List Edg) (d : List Int) : Prop where
  ok : EOk N es
  n1 : 1 ≤ N
  conn : Conn N (linkE es)
  sm : SmG N es d
theorem GOk.gr {N : Nat} {es : List Edg} {d : List Int} (h : GOk N es d) : Gr N (linkE es) := linkE_gr fun y hy => by have := (h.ok.at_ y hy).2; omega
theorem GOk.few {N : Nat} {es : List Edg} {d : List Int} (h : GOk N es d) {b : Nat → Nat} (hb : Bor N (linkE es) (fun v => d.getD v 0) b) {z : Nat} (hz : z < N) (hbz : b z = 0) : sumI (fun v => (b v : Int)) N ≤ 11340 := by
  have h6 := h.sm.n6
  have h1 := h.n1
  have hD : ∀ v, v < N → -(60 : Int) ≤ (fun v => d.getD v 0) v := fun v _ => by
    show -(60 : Int) ≤ d.getD v 0
    rw [List.getD_eq_getElem?_getD]
    rcases hx : d[v]? with _ | x
    · simp
    · have := h.sm.dB x (List.mem_of_getElem? hx)
      simpa using this.1
  have h2 : sumI (vlR N (linkE es)) N = sumI (fun v : Nat => valE es v) N := sumI_eq fun v hv => (val_link v fun x hx => (h.ok.at_ x hx).1).symm
  have h3 := val_sum (n := N) (es := es) fun x hx => by have := (h.ok.at_ x hx).2; omega
  have h4 := h.sm.sz
  have h5 : sumI (fun _ => (60 : Int)) N = 60 * N := by
    have : ∀ n : Nat, sumI (fun _ => (60 : Int)) n = 60 * n := fun n => by
      induction n with
      | zero => rfl
      | succ n ih => rw [sumI, ih]; push_cast; omega
    exact this N
  have h7 : sumI (fun u => vlR N (linkE es) u + 60) N ≤ 378 := by
    rw [sumI_add, h5]
    omega
  have h8 : ∀ v, v < N → (b v : Int) ≤ 1890 := fun v hv => by
    have h9 := hb.range h.gr h.conn hD (by omega) hz hbz hv
    have h10 : ((N - 1 : Nat) : Int) * sumI (fun u => vlR N (linkE es) u + 60) N ≤ ((N - 1 : Nat) : Int) * 378 := Int.mul_le_mul_of_nonneg_left h7 (by omega)
    omega
  have h11 := sumI_le (f := fun v => (b v : Int)) (g := fun _ => 1890) (n := N) h8
  have h12 : ∀ n : Nat, sumI (fun _ => (1890 : Int)) n = 1890 * n := fun n => by
    induction n with
    | zero => rfl
    | succ n ih => rw [sumI, ih]; push_cast; omega
  rw [h12] at h11
  omega
/-- A game of borrowing under way. -/
structure GSt (N : Nat) (es : List Edg) (d : List Int) (i : Nat) (b : Nat → Nat) (left : Nat → Int) : Prop where
  bor : Bor N (linkE es) (fun v => d.getD v 0) b
  left : ∀ v, v < N → left v = app N (linkE es) (fun v => d.getD v 0) (negU b) v
  sum : sumI (fun v => (b v : Int)) N = i
  few : i ≤ 11341
theorem GSt.zero {N : Nat} {es : List Edg} {d : List Int} : GSt N es d 0 (fun _ => 0) (fun v => d.getD v 0) where
  bor := .zero
  left := fun v hv => by
    have e : negU (fun _ => 0) = fun _ => 0 := by funext v; simp [negU]
    rw [e, app_zero]
  sum := sumI_zero N
  few := by omega
theorem GSt.step {N : Nat} {es : List Edg} {d : List Int} (h : GOk N es d) {i : Nat} {b : Nat → Nat} {left : Nat → Int} (hg : GSt N es d i b left) {z : Nat} (hz : z < N) (hbz : b z = 0) {v : Nat} (hv : v < N) (hl : left v < 0) : GSt N es d (i + 1) (upU b v 1) (borF es v left) where
  bor := .step hg.bor hv (by rw [← hg.left v hv]; exact hl)
  left := fun u hu => by
    rw [borF_at h.ok hv hu, hg.left u hu, app_up h.gr b hv hu, h.gr.sym v u]
  sum := by
    have h1 := sumI_one (f := fun u => (upU b v 1 u : Int)) (g := fun u => (b u : Int)) hv (fun p hp hne => by rw [upU_ne _ _ hne])
    rw [h1, hg.sum, upU_at]
    push_cast
    omega
  few := by
    have h1 := h.few hg.bor hz hbz
    rw [hg.sum] at h1
    omega
theorem GSt.le {N : Nat} {es : List Edg} {d : List Int} {i : Nat} {b : Nat → Nat} {left : Nat → Int} (hg : GSt N es d i b left) {v : Nat} (hv : v < N) : b v ≤ 11341 := by
  have h1 := sumI_one (f := fun u => (b u : Int)) (g := fun u => if u = v then 0 else (b u : Int)) hv (fun p hp hne => by rw [if_neg hne])
  have h2 : 0 ≤ sumI (fun u => if u = v then 0 else (b u : Int)) N := sumI_nn fun p hp => by split <;> omega
  rw [hg.sum, if_pos rfl] at h1
  have h3 := hg.few
  omega
/-- How a game of borrowing ends. -/
structure GEnd (N : Nat) (es : List Edg) (d : List Int) (a : Bool) (b : Nat → Nat) : Prop where
  bor : Bor N (linkE es) (fun v => d.getD v 0) b
  won : a = true → ∀ v, v < N → 0 ≤ app N (linkE es) (fun v => d.getD v 0) (negU b) v
  lost : a = false → ¬ Winn N (linkE es) (fun v => d.getD v 0)
  le : ∀ v, v < N → b v ≤ 11341
theorem GEnd.iff {N : Nat} {es : List Edg} {d : List Int} {a : Bool} {b : Nat → Nat} (h : GEnd N es d a b) : a = true ↔ Winn N (linkE es) (fun v => d.getD v 0) := by
  constructor
  · intro ha
    exact h.bor.won (h.won ha)
  · intro hw
    cases ha : a
    · exact absurd hw (h.lost ha)
    · rfl
theorem GSt.won {N : Nat} {es : List Edg} {d : List Int} {i : Nat} {b : Nat → Nat} {left : Nat → Int} (hg : GSt N es d i b left) (hp : ∀ v, v < N → 0 ≤ left v) : GEnd N es d true b where
  bor := hg.bor
  won := fun _ v hv => by rw [← hg.left v hv]; exact hp v hv
  lost := fun h => by cases h
  le := fun v hv => hg.le hv
theorem GSt.lost {N : Nat} {es : List Edg} {d : List Int} (h : GOk N es d) {i : Nat} {b : Nat → Nat} {left : Nat → Int} (hg : GSt N es d i b left) (ha : ∀ v, v < N → 1 ≤ b v) : GEnd N es d false b where
  bor := hg.bor
  won := fun h => by cases h
  lost := fun _ => hg.bor.lost h.gr h.n1 ha
  le := fun v hv => hg.le hv
/-- Two games end alike. -/
theorem GEnd.same {N : Nat} {es : List Edg} {d : List Int} (h : GOk N es d) {a c : Bool} {b g : Nat → Nat} (h1 : GEnd N es d a b) (h2 : GEnd N es d c g) : a = c ∧ (a = true → lst N (negU b) = lst N (negU g)) := by
  have e : a = c := by rw [Bool.eq_iff_iff, h1.iff, h2.iff]
  refine ⟨e, fun ha => lst_congr fun v hv => ?_⟩
  have h3 := h1.bor.same h.gr h2.bor (h1.won ha) (h2.won (by rw [← e]; exact ha)) v hv
  unfold negU
  rw [h3]
/-- The reference's Wins. -/
def allB (N : Nat) (bor : Nat → Bool) : Bool := (List.range N).all bor
def wRun (N : Nat) (es : List Edg) : Nat → (Nat → Int) → (Nat → Bool) → Bool
  | 0, _, _ => false
  | fuel + 1, left, bor => if debtorL (lst N left) 0 < 0 then true else if allB N bor = true then false else
      wRun N es fuel (borF es (debtorL (lst N left) 0).toNat left) (fun u => if u = (debtorL (lst N left) 0).toNat then true else bor u)
end Go.Proofs.YtpgopmmobbemcaaGreat

set_option linter.unusedVariables false
set_option linter.unusedSimpArgs false
set_option linter.unnecessarySimpa false
namespace Go.Proofs.YtpgopmmobbemcaaGreat
open Go.RowKit

/-- The chips when v borrows, up to vertex k. -/
def refB (es : List Edg) (v : Nat) (left : Nat → Int) (k : Nat) : Nat → Int := fun i => if i = v then left v + valU es v k else if i < k then left i - betw es i v else left i
/-- The chips and the marks, in memory. -/
structure WMem (w0 : World) (N gd gb : Nat) (rest : List Value) (left : Nat → Int) (bor : Nat → Bool) (w : World) : Prop where
  rd : Row1 (Value.int .i64) w gd 3 (lst N left) rest
  rb : Row1 Value.bool w gb 4 ((List.range N).map bor) []
  ne : gd ≠ gb
  lo : w0.heap.size ≤ gd ∧ w0.heap.size ≤ gb
  be : Below w0.heap.size w0 w
theorem WMem.below {w0 w w' : World} {N gd gb : Nat} {rest : List Value} {left : Nat → Int} {bor : Nat → Bool} (h : WMem w0 N gd gb rest left bor w) (hb : Below w.heap.size w w') : WMem w0 N gd gb rest left bor w' :=
  ⟨h.rd.below hb, h.rb.below hb, h.ne, h.lo, below_then h.be hb⟩
theorem WMem.put {w0 w : World} {N gd gb : Nat} {rest : List Value} {left : Nat → Int} {bor : Nat → Bool} (h : WMem w0 N gd gb rest left bor w) {i : Nat} (hi : i < N) (x : Int) : WMem w0 N gd gb rest (updF left i x) bor (w.setCell ⟨gd, i, none⟩ (.int .i64 x)) := by
  have h5 := h.rd.put (i := i) (by rw [lst_len]; exact hi) x
  rw [lst_set] at h5
  exact ⟨h5, h.rb.other (fun e => h.ne e.symm) _, h.ne, h.lo, h.be.setCell h.lo.1 _⟩
theorem WMem.congr {w0 w : World} {N gd gb : Nat} {rest : List Value} {left l2 : Nat → Int} {bor b2 : Nat → Bool} (h : WMem w0 N gd gb rest left bor w) (h1 : ∀ i, i < N → left i = l2 i) (h2 : ∀ i, i < N → bor i = b2 i) : WMem w0 N gd gb rest l2 b2 w := by
  refine ⟨?_, ?_, h.ne, h.lo, h.be⟩
  · rw [← lst_congr h1]; exact h.rd
  · rw [← List.map_congr_left (fun i hi => h2 i (List.mem_range.1 hi))]; exact h.rb
end Go.Proofs.YtpgopmmobbemcaaGreat

set_option linter.unusedVariables false
set_option linter.unusedSimpArgs false
set_option linter.unnecessarySimpa false
namespace Go.Proofs.YtpgopmmobbemcaaGreat
open Go.RowKit

def FirstV (w : World) (v : Value) : Option (List Int) → Prop
  | none => v = .slice none 0 0
  | some s => ∃ b off c, v = .slice (some ⟨b, off, none⟩) s.length c ∧ s.length ≤ c ∧ SliceR intR 1 All w (some ⟨b, off, none⟩) s
theorem FirstV.below {w w' : World} {v : Value} (hb : Below w.heap.size w w') : ∀ {o : Option (List Int)}, FirstV w v o → FirstV w' v o
  | none, h => h
  | some s, ⟨b, off, c, h1, h2, h3⟩ => ⟨b, off, c, h1, h2, h3.below intR_ok hb⟩
def FirstPost (w : World) (o : Option (List Int)) (e : Ending) (w' : World) : Prop := ∃ v, e = .returned v ∧ FirstV w' v o ∧ Below w.heap.size w w'
theorem OwnS.into {w : World} {base : Nat} {v : Value} {xs : List Int} (h : OwnS intR 1 base 3 Non w v xs) : ∃ o c, v = .slice o xs.length c ∧ xs.length ≤ c ∧ SliceR intR 1 All w o xs := by
  obtain ⟨o, c, h1, h2, h3⟩ := h.slice intR_ok
  exact ⟨o, c, h1, h2, h3.all intR_ok (by decide)⟩
end Go.Proofs.YtpgopmmobbemcaaGreat

set_option linter.unusedVariables false
set_option linter.unusedSimpArgs false
set_option linter.unnecessarySimpa false
namespace Go.Proofs.YtpgopmmobbemcaaGreat
open Go.RowKit

theorem GOk.of {N : Nat} {es : List Edg} {f : List Nat} {d : List Int} (hT : TOk N es f d) (hc2 : es.length ≤ 1000) (hU : gErr N es = 0 → Uf f (eL es)) (hS : SmG N es d) : GOk N es d :=
  ⟨EOk.of hT.g hc2, hT.n12.1, conn_link hU hT.j, hS⟩
/-- What the reference's Wins says. -/
def winsB (N : Nat) (es : List Edg) (d : List Int) : Bool := if totL d < 0 then false else wRun N es 10000000 (fun v => d.getD v 0) (fun _ => false)
def RSolvePost (w : World) (n : Int) (es : List Edg) (f : List Nat) (d : List Int) (limit : Int) (e : Ending) (w' : World) : Prop :=
  ∃ b : Bool, (tErr n es f d = 0 → (b = true ↔ Winn n.toNat (linkE es) (fun v => d.getD v 0))) ∧ SolPost w (refSolveR n es f d limit b) e w'
end Go.Proofs.YtpgopmmobbemcaaGreat

set_option linter.unusedVariables false
set_option linter.unusedSimpArgs false
set_option linter.unnecessarySimpa false
namespace Go.Proofs.YtpgopmmobbemcaaGreat
open Go.RowKit

def sm43 (n : Int) (es : List Edg) (f : List Nat) (d : List Int) : Bool := smB n es 5 7 && (decide (d.length ≤ 24) && (smD d || decide (tErr n es f d ≠ 0)))
theorem smB_len {n : Int} {es : List Edg} {N M : Int} (h : smB n es N M = true) : es.length ≤ 40 := by
  unfold smB at h
  split at h
  · assumption
  · cases h
end Go.Proofs.YtpgopmmobbemcaaGreat

set_option linter.unusedVariables false
set_option linter.unusedSimpArgs false
set_option linter.unnecessarySimpa false
namespace Go.Proofs.YtpgopmmobbemcaaGreat
open Go.RowKit

def lsm43 (n : Int) (es : List Edg) (f : List Nat) (d : List Int) : Bool := smB n es 6 9 && (decide (d.length ≤ 24) && (decide (tErr n es f d = 0) && smD d))
theorem lsm43_parts {n : Int} {es : List Edg} {f : List Nat} {d : List Int} (h : lsm43 n es f d = true) : es.length ≤ 40 ∧ d.length ≤ 24 ∧ tErr n es f d = 0 ∧ SmG n.toNat es d := by
  unfold lsm43 at h
  simp only [Bool.and_eq_true, decide_eq_true_eq] at h
  obtain ⟨h1, h2, h3, h4⟩ := h
  refine ⟨smB_len h1, h2, h3, ?_⟩
  obtain ⟨N, rfl, hT⟩ := tErr_ok h3
  unfold smB at h1
  rw [if_pos (smB_len (by unfold smB; exact h1)), if_pos hT.g] at h1
  have h5 := of_decide_eq_true h1
  exact ⟨by rw [Int.toNat_natCast]; omega, by omega, smD_yes h4⟩
set_option maxRecDepth 100000 in
set_option maxHeartbeats 4000000 in
theorem lsmall43_any (n : Int) (es : List Edg) (oe : Option Addr) (c : Nat) (F : Foot) (w : World) (hs : SliceR edgR 3 F w oe es) (hc : es.length ≤ c) (hc2 : es.length ≤ 9223372036854775807)
    (f : List Nat) (hU : Hid (gErr n es = 0 → Uf f (eL es))) (d : List Int) (od : Option Addr) (cd : Nat) (G : Foot) (hd : SliceR intR 1 G w od d) (hdc : d.length ≤ cd) (hdl : d.length ≤ 9223372036854775807) :
    Calls Tryz.prog 27 #[.agg #[.int .i64 n, .slice oe es.length c], .slice od d.length cd] w fun e w' => e = .returned (.bool (lsm43 n es f d)) ∧ Below w.heap.size w w' := by
  have hb0 := bnew (Below.refl w.heap.size w) (.cells #[.int .i64 n, .slice oe es.length c] 24)
  have bxx := Box.new w [.int .i64 n, .slice oe es.length c] 24
  have HK := hide (rfew_any n es oe c F _ (hs.below edgR_ok hb0) hc hc2)
  have HD := hide hd
  have HS := hide hs
  have HB := hide hb0
  have HX := hide bxx
  have HE : Hid (lsm43 n es f d = (smB n es 6 9 && (decide (d.length ≤ 24) && (decide (tErr n es f d = 0) && smD d)))) := rfl
  clear hs hd hb0 bxx
  go_enter Tryz.func27, Tryz.ntmps27
  go_wp2_with fail
  refine HK.out.mono ?_
  rintro e w2 ⟨rfl, hb2⟩
  have HB2 := hide (below_then HB.out hb2)
  have HX2 := hide (HX.out.below hb2)
  clear hb2
  generalize smB n es 6 9 = b1 at *
  cases b1
  · go_wp2_with fail
    go_ret
    exact ⟨ret_bool (by rw [HE.out]; rfl), HB2.out⟩
  go_wp2_with fail
  refine (few17_any d od cd _).mono ?_
  rintro e w3 ⟨rfl, hb3⟩
  have HB3 := hide (below_then HB2.out hb3)
  have HX3 := hide (HX2.out.below hb3)
  clear hb3
  generalize decide (d.length ≤ 24) = b2 at *
  cases b2
  · go_wp2_with fail
    go_ret
    exact ⟨ret_bool (by rw [HE.out]; rfl), HB3.out⟩
  have y0 := HX3.out.cell 0
  have y1 := HX3.out.cell 1
  simp only [List.getElem?_cons_zero, List.getElem?_cons_succ] at y0 y1
  have HGV := hide (rgiven43_any n es oe c F w3 (HS.out.below edgR_ok HB3.out) hc hc2 f hU d od cd G (HD.out.below intR_ok HB3.out) hdc hdl)
  go_wp2_with fail
  refine HGV.out.mono ?_
  rintro e w4 ⟨rfl, hb4⟩
  have HB4 := hide (below_then HB3.out hb4)
  clear hb4 HGV
  by_cases hV : tErr n es f d = 0
  case neg =>
    have hq : (tErr n es f d == 0) = false := by simpa using hV
    have HR : Hid (lsm43 n es f d = false) := by show _ = _; rw [HE.out]; simp [hV]
    clear hV
    go_wp2_with fail
    go_ret
    exact ⟨ret_bool HR.out.symm, HB4.out⟩
  have hq : (tErr n es f d == 0) = true := by simpa using hV
  have HR : Hid (lsm43 n es f d = smD d) := by show _ = _; rw [HE.out]; simp [hV]
  have HSM := hide (smD_any d od cd G w4 (HD.out.below intR_ok HB4.out) hdc hdl)
  clear hV
  go_wp2_with fail
  refine HSM.out.mono ?_
  rintro e w5 ⟨rfl, hb5⟩
  have HB5 := hide (below_then HB4.out hb5)
  clear hb5 HSM
  go_wp2_with fail
  go_ret
  exact ⟨ret_bool HR.out.symm, HB5.out⟩
theorem dErr_ok {N : Nat} {l : List Int} (h12 : 1 ≤ N ∧ N ≤ 12) (hl : l.length = N) (hb : ∀ x ∈ l, -1048576 ≤ x ∧ x ≤ 1048576) : dErr N l = 0 := by
  unfold dErr
  rw [if_pos (by omega), if_pos (by omega)]
  clear hl
  induction l with
  | nil => rfl
  | cons x r ih =>
    have h1 := hb x (by simp)
    have h2 := ih fun y hy => hb y (by simp [hy])
    unfold dScan
    rw [if_pos (show inChips x = true from decide_eq_true h1)]
    exact h2
end Go.Proofs.YtpgopmmobbemcaaGreat

set_option linter.unusedVariables false
set_option linter.unusedSimpArgs false
set_option linter.unnecessarySimpa false
namespace Go.Proofs.YtpgopmmobbemcaaGreat
open Go.RowKit

def badM (N : Nat) (l : List Mv) : Bool := l.any fun x => decide (x.v < 0 ∨ (N : Int) ≤ x.v)
def playR (n : Int) (es : List Edg) (f : List Nat) (d : List Int) (l : List Mv) : List Int × Int :=
  if tErr n es f d ≠ 0 then ([], tErr n es f d) else if 4096 < l.length then ([], 5) else if badM n.toNat l = true then ([], 2) else applyR n es d (lst n.toNat (sumM l))
theorem badM_drop {N : Nat} {l : List Mv} {k : Nat} {x : Mv} (h : l.drop k = x :: l.drop (k + 1)) : badM N (l.drop k) = (decide (x.v < 0 ∨ (N : Int) ≤ x.v) || badM N (l.drop (k + 1))) := by rw [h]; rfl
theorem sum_put {l : List Mv} {k u : Nat} {b : Bool} (h : l[k]? = some ⟨(u : Int), b⟩) (N : Nat) : lst N (sumM (l.take (k + 1))) = lst N (updF (sumM (l.take k)) u (sumM (l.take k) u + if b = true then -1 else 1)) := by
  refine lst_congr fun i hi => ?_
  rw [sumM_take h]
  unfold updF
  by_cases e : i = u
  · subst e
    rw [if_pos rfl, if_pos rfl]
  · rw [if_neg e, if_neg (fun e2 : (u : Int) = i => e (by omega))]
    omega
set_option maxRecDepth 100000 in
set_option maxHeartbeats 8000000 in
theorem dplay_any (n : Int) (es : List Edg) (oe : Option Addr) (c : Nat) (F : Foot) (w : World) (hs : SliceR edgR 3 F w oe es) (hc : es.length ≤ c) (hc2 : es.length ≤ 1000)
    (f : List Nat) (hU : Hid (gErr n es = 0 → Uf f (eL es))) (d : List Int) (od : Option Addr) (cd : Nat) (G : Foot) (hd : SliceR intR 1 G w od d) (hdc : d.length ≤ cd) (hdl : d.length ≤ 9223372036854775807)
    (l : List Mv) (ol : Option Addr) (cl : Nat) (H : Foot) (hl : SliceR dmvR 2 H w ol l) (hlc : l.length ≤ cl) (hll : l.length ≤ 9223372036854775807) :
    Calls Tryz.prog 35 #[.agg #[.int .i64 n, .slice oe es.length c], .slice od d.length cd, .slice ol l.length cl] w (DivPost w (playR n es f d l)) := by
  have hb0 := bnew (Below.refl w.heap.size w) (.cells #[.int .i64 n, .slice oe es.length c] 24)
  have bxx := Box.new w [.int .i64 n, .slice oe es.length c] 24
  have HK := hide (dgiven_any n es oe c F _ (hs.below edgR_ok hb0) hc (by omega) f hU d od cd G (hd.below intR_ok hb0) hdc hdl)
  have HD := hide hd
  have HS := hide hs
  have HLM := hide hl
  have HB := hide hb0
  have HX := hide bxx
  clear hs hd hl hb0 bxx
  go_enter Tryz.func35, Tryz.ntmps35
  go_wp2_with fail
  refine HK.out.mono ?_
  rintro e w2 ⟨rfl, hb2⟩
  have HB2 := hide (below_then HB.out hb2)
  have HX2 := hide (HX.out.below hb2)
  have y0 := HX2.out.cell 0
  have y1 := HX2.out.cell 1
  simp only [List.getElem?_cons_zero, List.getElem?_cons_succ] at y0 y1
  clear hb2
  by_cases hV : tErr n es f d = 0
  case neg =>
    have hR : Hid (playR n es f d l = ([], tErr n es f d)) := if_pos hV
    have hq : (tErr n es f d != 0) = true := by simpa using hV
    go_wp2_with fail
    go_ret2
    rw [hR.out]
    exact DivPost.none HB2.out
  obtain ⟨N, rfl, hT⟩ := tErr_ok hV
  have h12 := hT.n12
  have HRR : Hid (playR N es f d l = if 4096 < l.length then ([], 5) else if badM N l = true then ([], 2) else applyR N es d (lst N (sumM l))) := by
    show _ = _
    unfold playR
    rw [if_neg (fun h => h hV), Int.toNat_natCast]
  rw [hV]
  clear hV hT
  by_cases h4 : 4096 < l.length
  · have hR : Hid (playR N es f d l = ([], 5)) := by show _ = _; rw [HRR.out, if_pos h4]
    have hq : decide ((4096 : Int) < (l.length : Int)) = true := by simp; omega
    clear h4
    go_wp2_with fail
    go_ret2
    rw [hR.out]
    exact DivPost.none HB2.out
  have hq : decide ((4096 : Int) < (l.length : Int)) = false := by simp; omega
  have hl4 : l.length ≤ 4096 := by omega
  have HR1 : Hid (playR N es f d l = if badM N l = true then ([], 2) else applyR N es d (lst N (sumM l))) := by show _ = _; rw [HRR.out, if_neg h4]
  clear h4 HRR
  have hwl := HX.out.lt
  go_wp2_with (at_make; refine wpList_make_row (f := Value.int .i64) _ rfl _ _ 26 rfl 3 (0 : Int) 8 Tryz.underlying26 iInfo rfl .i64 .i64 _ _ N rfl rfl rfl rfl (by omega) (by unfold maxLen; omega) (fun w5 hrow5 hb5 hg5 => ?_))
  obtain ⟨gs, hgs⟩ : ∃ gs, gs = w2.heap.size := ⟨_, rfl⟩
  have HB5 := hide (below_then HB2.out hb5)
  have HX5 := hide (HX2.out.below hb5)
  have hgl : w.heap.size ≤ gs := by have := HB2.out.size; omega
  have hgb : w.heap.size < gs := by have := HX2.out.lt; omega
  rw [← hgs] at hrow5 ⊢
  have HR5 : Hid (Row1 (Value.int .i64) w5 gs 3 (lst N (sumM (l.take 0))) []) := by
    show Row1 _ _ _ _ _ _
    rw [lst_congr (g := fun _ => 0) (fun i hi => by simp [sumM]), lst_zero]
    exact hrow5
  clear hrow5 hb5 hg5 hgs y0 y1
  go_wp2_with fail
  go_loopg [11, 26] l.length (fun gm _ iv wx => ∃ k : Nat, k ≤ l.length ∧ gm = l.length - k ∧ iv = .int .i64 k ∧ Hid (Row1 (Value.int .i64) wx gs 3 (lst N (sumM (l.take k))) []) ∧ Hid (Below w.heap.size w wx) ∧ Hid (Box wx w.heap.size [.int .i64 N, .slice oe es.length c] 24) ∧ Hid (badM N l = badM N (l.drop k)))
  case atStart => exact ⟨0, by omega, by omega, rfl, HR5, HB5, HX5, rfl⟩
  case round =>
    obtain ⟨k, hk, hgm, rfl, HR, HBr, HXr, HBD⟩ := hrel
    have HGM := hide hgm
    clear hgm
    by_cases hlt : k < l.length
    · obtain ⟨v, b, hdr, hget, hvi, bl, offl, hol, _, cv, cb⟩ := (HLM.out.below dmvR_ok HBr.out).dmv_at hlt
      subst hol
      have HBD2 : Hid (badM N l = (decide (v < 0 ∨ (N : Int) ≤ v) || badM N (l.drop (k + 1)))) := by show _ = _; rw [HBD.out, badM_drop hdr]
      obtain ⟨W4, hW4⟩ : ∃ W4, wr.alloc (.cells #[.int .i64 v, .bool b] 81) = W4 := ⟨_, rfl⟩
      have hbb := bnew (Below.refl wr.heap.size wr) (.cells #[.int .i64 v, .bool b] 81)
      rw [hW4] at hbb
      have bx4 : Box W4 wr.heap.size [.int .i64 v, .bool b] 81 := by rw [← hW4]; exact Box.new wr [.int .i64 v, .bool b] 81
      have x0 := bx4.cell 0
      have x1 := bx4.cell 1
      have bg4 := HXr.out.below hbb
      have y0 := bg4.cell 0
      have y1 := bg4.cell 1
      simp only [List.getElem?_cons_zero, List.getElem?_cons_succ] at x0 x1 y0 y1
      have HB4 := hide (below_then HBr.out hbb)
      have HX4 := hide bg4
      have hr4 := HR.out.below hbb
      have HR4 := hide hr4
      have HGT := hide hget
      have hvi2 := hvi
      unfold I64 at hvi2
      clear hdr hbb bx4 bg4 hget hr4
      go_upto_region 11 with fail
      clear hW4
      by_cases hv0 : v < 0
      · have hR : Hid (playR N es f d l = ([], 2)) := by show _ = _; rw [HR1.out, HBD2.out, decide_eq_true (.inl hv0)]; rfl
        go_wp2_with fail
        go_ret2
        rw [hR.out]
        exact DivPost.none HB4.out
      by_cases hvN : (N : Int) ≤ v
      · have hR : Hid (playR N es f d l = ([], 2)) := by show _ = _; rw [HR1.out, HBD2.out, decide_eq_true (.inr hvN)]; rfl
        have hq2 : decide ((N : Int) ≤ v) = true := decide_eq_true hvN
        go_wp2_with fail
        go_ret2
        rw [hR.out]
        exact DivPost.none HB4.out
      have HBD3 : Hid (badM N l = badM N (l.drop (k + 1))) := by show _ = _; rw [HBD2.out, decide_eq_false (fun h => by rcases h with h | h <;> omega)]; rfl
      obtain ⟨u, rfl⟩ := Int.eq_ofNat_of_zero_le (show 0 ≤ v by omega)
      have huN : u < N := by omega
      have hq2 : decide ((N : Int) ≤ (u : Int)) = false := by simp; omega
      have hq3 : ¬ ((u : Int) < 0) := by omega
      have HPU := hide (sum_put HGT.out N)
      obtain ⟨z, hz⟩ : ∃ z, z = sumM (l.take k) u := ⟨_, rfl⟩
      have hzb := sumM_bnd (l.take k) u
      have hzl : (l.take k).length ≤ 4096 := by rw [List.length_take]; omega
      rw [← hz] at hzb HPU
      have e0 : W4.cell? ⟨gs, u, none⟩ = some (.int .i64 z) := by rw [hz]; exact HR4.out.cell (lst_get _ huN)
      have f0 := HR4.out.free u
      have hu0 : (0 : Int) ≤ u := by omega
      have hu1 : (u : Int) < N := by omega
      have hnb : w.heap.size ≠ gs := by omega
      clear hz hv0 hvN HBD2
      cases b
      · have HRP : Hid (Row1 (Value.int .i64) (W4.setCell ⟨gs, u, none⟩ (.int .i64 (z + 1))) gs 3 (lst N (sumM (l.take (k + 1)))) []) := by
          have h5 := HR4.out.put (i := u) (by rw [lst_len]; exact huN) (z + 1)
          rw [lst_set] at h5
          rw [HPU.out]
          exact h5
        go_wp2_with fail
        go_roundg (l.length - (k + 1))
        case rel => exact ⟨k + 1, by omega, rfl, by go_num, HRP, HB4.out.setCell hgl _, HX4.out.other hnb _, HBD3⟩
        case measure => rw [HGM.out]; omega
      · have HRP : Hid (Row1 (Value.int .i64) (W4.setCell ⟨gs, u, none⟩ (.int .i64 (z - 1))) gs 3 (lst N (sumM (l.take (k + 1)))) []) := by
          have h5 := HR4.out.put (i := u) (by rw [lst_len]; exact huN) (z - 1)
          rw [lst_set] at h5
          rw [HPU.out]
          exact h5
        go_wp2_with fail
        go_roundg (l.length - (k + 1))
        case rel => exact ⟨k + 1, by omega, rfl, by go_num, HRP, HB4.out.setCell hgl _, HX4.out.other hnb _, HBD3⟩
        case measure => rw [HGM.out]; omega
    · have hke : k = l.length := by omega
      have hR : Hid (playR N es f d l = applyR N es d (lst N (sumM l))) := by
        show _ = _
        rw [HR1.out, HBD.out, hke, List.drop_length]
        rfl
      have hsl : ∀ y ∈ lst N (sumM l), I64 y := fun y hy => by
        obtain ⟨v, _, rfl⟩ := List.mem_map.1 hy
        have := sumM_bnd l v
        unfold I64
        omega
      have HSC : Hid (SliceR intR 1 All wr (some ⟨gs, 0, none⟩) (lst N (sumM l))) := by
        have h5 := HR.out
        rw [hke, List.take_length] at h5
        exact h5.ints hsl trivial
      have HAP := hide (fapply_any N es oe c F wr (HS.out.below edgR_ok HBr.out) hc hc2 d od cd G (HD.out.below intR_ok HBr.out) hdc hdl (lst N (sumM l)) (some ⟨gs, 0, none⟩) N All HSC.out (by rw [lst_len]; omega) (by rw [lst_len]; omega))
      rw [lst_len] at HAP
      have y0 := HXr.out.cell 0
      have y1 := HXr.out.cell 1
      simp only [List.getElem?_cons_zero, List.getElem?_cons_succ] at y0 y1
      clear hke hsl
      go_wp2_with fail
      refine HAP.out.mono ?_
      rintro e w6 ⟨o6, c6, rfl, hc6, hs6, hb6⟩
      have HS6 := hide hs6
      have HB6 := hide (below_then HBr.out hb6)
      clear hs6 hb6
      go_wp2_with fail
      go_ret2
      rw [hR.out]
      exact ⟨o6, c6, rfl, hc6, HS6.out, HB6.out⟩
end Go.Proofs.YtpgopmmobbemcaaGreat

set_option linter.unusedVariables false
set_option linter.unusedSimpArgs false
namespace Go.Proofs.YtpgopmmobbemcaaGreat
open Go.RowKit

theorem mid_any {s : List Int} (h : s ≠ []) : ∃ m, MidN s m := by
  obtain ⟨l, hl⟩ : ∃ l, l = s.mergeSort (fun x y : Int => decide (x ≤ y)) := ⟨_, rfl⟩
  have hperm : l.Perm s := by rw [hl]; exact List.mergeSort_perm s _
  have hpos : 0 < s.length := by cases s with
    | nil => exact absurd rfl h
    | cons a b => simp
  have hlen : l.length = s.length := hperm.length_eq
  have hlt : s.length / 2 < l.length := by omega
  exact ⟨l[s.length / 2], mid_sorted hperm (by rw [hl]; exact (List.pairwise_mergeSort (le := fun x y : Int => decide (x ≤ y)) (by intro a b c; simp; omega) (by intro a b; simp; omega) s).imp (by simp)) (List.getElem?_eq_getElem hlt)⟩
theorem raised_len (s : List Int) (k : Int) : (raisedS s k).length = s.length := by simp [raisedS]
theorem raised_at {s : List Int} {k : Int} {v : Nat} (h : v < s.length) : (raisedS s k).getD v 0 = s.getD v 0 + k := by
  unfold raisedS
  rw [List.getD_eq_getElem?_getD, List.getElem?_map, List.getElem?_eq_getElem h, List.getD_eq_getElem?_getD, List.getElem?_eq_getElem h]
  rfl
theorem raised_zero (s : List Int) : raisedS s 0 = s := by
  unfold raisedS
  conv => rhs; rw [← List.map_id s]
  exact List.map_congr_left fun x _ => by simp
theorem cost_sum : ∀ {s : List Int} {b : Int}, (∀ x ∈ s, -b ≤ x ∧ x ≤ b) → costS s ≤ s.length * b
  | [], b, _ => by simp [costS]
  | y :: r, b, h => by
    have h1 : costS (y :: r) = magI y + costS r := rfl
    have h2 : magI y = max y (-y) := rfl
    have h3 := h y (by simp)
    have h4 := cost_sum (s := r) (b := b) fun x hx => h x (by simp [hx])
    rw [List.length_cons, h1]
    push_cast
    rw [Int.add_mul, Int.one_mul]
    omega
theorem cheap_ok {N : Nat} {es : List Edg} {f : List Nat} {d : List Int} (hT : TOk N es f d) {t : List Int} (ht : t.length = N) {b : Int} (hb : ∀ x ∈ t, -b ≤ x ∧ x ≤ b) (hb2 : b ≤ 500000) : cheapR N es f t = (cheapS t, costS (cheapS t), 0) ∧ ∃ m, m ∈ t ∧ cheapS t = raisedS t (-m) ∧ costS (cheapS t) ≤ costS t := by
  have h12 := hT.n12
  obtain ⟨m, hm⟩ := mid_any (s := t) (by intro e; rw [e] at ht; simp at ht; omega)
  have hc := cheap_mid hm
  have hmb := hb m hm.mem
  have h1 : tErr N es f t = 0 := by
    unfold tErr
    rw [if_pos hT.j]
    exact dErr_ok h12 ht fun x hx => by have := hb x hx; omega
  have h2 : dErr N (cheapS t) = 0 := by
    rw [hc]
    refine dErr_ok h12 (by rw [raised_len, ht]) fun x hx => ?_
    unfold raisedS at hx
    obtain ⟨y, hy, rfl⟩ := List.mem_map.1 hx
    have := hb y hy
    omega
  refine ⟨by unfold cheapR; rw [if_pos h1, if_pos h2], m, hm.mem, hc, ?_⟩
  have h3 := hm.least 0
  rw [Int.neg_zero, raised_zero] at h3
  rw [hc]
  exact h3
end Go.Proofs.YtpgopmmobbemcaaGreat

set_option linter.unusedVariables false
set_option linter.unusedSimpArgs false
namespace Go.Proofs.YtpgopmmobbemcaaGreat
open Go.RowKit

theorem sumM_rep (i : Nat) (b : Bool) (u : Nat) : ∀ m : Nat, sumM (List.replicate m ⟨(i : Int), b⟩) u = if i = u then (if b = true then -(m : Int) else m) else 0
  | 0 => by simp [sumM]
  | m + 1 => by
    rw [List.replicate_succ, sumM, sumM_rep i b u m]
    by_cases e : i = u
    · subst e
      rw [if_pos rfl, if_pos rfl, if_pos rfl]
      cases b <;> simp <;> omega
    · rw [if_neg (show ¬ ((i : Int) = (u : Int)) from fun h => e (by omega)), if_neg e, if_neg e]
      rfl
theorem sumM_from : ∀ (s : List Int) (i u : Nat), sumM (mvFrom i s) u = if i ≤ u then s.getD (u - i) 0 else 0
  | [], i, u => by simp [mvFrom, sumM]
  | k :: r, i, u => by
    rw [mvFrom, sumM_app, sumM_rep, sumM_from r (i + 1) u]
    have hm : ((magI k).toNat : Int) = max k (-k) := by
      have : magI k = max k (-k) := rfl
      omega
    have hk : (if decide (k < 0) = true then -((magI k).toNat : Int) else ((magI k).toNat : Int)) = k := by
      rw [hm]
      by_cases h : k < 0
      · rw [if_pos (decide_eq_true h)]; omega
      · rw [if_neg (by simpa using h)]; omega
    by_cases e : i = u
    · subst e
      rw [if_pos rfl, hk, if_neg (by omega), if_pos (Nat.le_refl _), Nat.sub_self]
      simp
    · rw [if_neg e]
      by_cases h : i ≤ u
      · rw [if_pos h, if_pos (by omega), show u - i = (u - (i + 1)) + 1 by omega]
        simp
      · rw [if_neg h, if_neg (by omega)]
        rfl
theorem mvFrom_in : ∀ (s : List Int) (i : Nat) (x : Mv), x ∈ mvFrom i s → ∃ u : Nat, x.v = u ∧ i ≤ u ∧ u < i + s.length
  | [], i, x, h => by simp [mvFrom] at h
  | k :: r, i, x, h => by
    rw [mvFrom] at h
    rw [List.length_cons]
    rcases List.mem_append.1 h with h | h
    · have := (List.mem_replicate.1 h).2
      exact ⟨i, by rw [this], by omega, by omega⟩
    · obtain ⟨u, h1, h2, h3⟩ := mvFrom_in r (i + 1) x h
      exact ⟨u, h1, by omega, by omega⟩
theorem sumM_rev : ∀ (l : List Mv) (u : Nat), sumM l.reverse u = sumM l u
  | [], _ => rfl
  | x :: r, u => by
    rw [List.reverse_cons, sumM_app, sumM_rev r u, sumM]
    simp only [sumM]
    omega
theorem lst_from {N : Nat} {s : List Int} (h : s.length = N) : lst N (sumM (mvFrom 0 s)) = s := by
  apply List.ext_getElem?
  intro i
  by_cases hi : i < N
  · rw [lst_get _ hi, sumM_from, if_pos (by omega), Nat.sub_zero, List.getElem?_eq_getElem (by omega), List.getD_eq_getElem?_getD, List.getElem?_eq_getElem (by omega)]
    rfl
  · rw [List.getElem?_eq_none (by rw [lst_len]; omega), List.getElem?_eq_none (by omega)]
theorem bad_from {N : Nat} {s : List Int} (h : s.length = N) : badM N (mvFrom 0 s) = false := by
  unfold badM
  rw [List.any_eq_false]
  intro x hx
  obtain ⟨u, h1, h2, h3⟩ := mvFrom_in s 0 x hx
  simp
  omega
theorem bad_rev (N : Nat) (l : List Mv) : badM N l.reverse = badM N l := by
  unfold badM
  rw [List.any_reverse]
theorem moved_raised {N : Nat} {es : List Edg} {d s : List Int} (hok : EOk N es) (hd : d.length = N) (hs : s.length = N) (k : Int) : movedL (raisedS s k) es d = movedL s es d := by
  have hat := fun y hy => (hok.at_ y hy).1
  apply List.ext_getElem?
  intro i
  have l1 : (movedL (raisedS s k) es d).length = N := by rw [moved_len, hd]
  have l2 : (movedL s es d).length = N := by rw [moved_len, hd]
  by_cases hi : i < N
  · have h1 := moved_link (s := raisedS s k) hat hd hi
    have h2 := moved_link (s := s) hat hd hi
    rw [app_congr (t := fun w => s.getD w 0 + k) (fun u hu => raised_at (by omega)) hi, app_shift] at h1
    rw [List.getD_eq_getElem?_getD, List.getElem?_eq_getElem (by omega), Option.getD_some] at h1 h2
    rw [List.getElem?_eq_getElem (by omega), List.getElem?_eq_getElem (by omega), h1, h2]
  · rw [List.getElem?_eq_none (by omega), List.getElem?_eq_none (by omega)]
/-- A small script moves a small divisor to a divisor. -/
theorem moved_in {N : Nat} {es : List Edg} {d s : List Int} (hok : EOk N es) (hd : d.length = N) (hs : s.length = N) (hS : SmG N es d) (hb : ∀ x ∈ s, -60 ≤ x ∧ x ≤ 60) : outB (movedL s es d) = false := by
  have hat := fun y hy => (hok.at_ y hy).1
  have hGr : Gr N (linkE es) := linkE_gr fun y hy => by have := (hok.at_ y hy).2; omega
  have hsg : ∀ u : Nat, -60 ≤ s.getD u 0 ∧ s.getD u 0 ≤ 60 := fun u => by
    rw [List.getD_eq_getElem?_getD]
    cases h : s[u]? with
    | none => simp
    | some x => have := hb x (List.mem_of_getElem? h); simpa using this
  have hdg : ∀ u : Nat, -60 ≤ d.getD u 0 ∧ d.getD u 0 ≤ 60 := fun u => by
    rw [List.getD_eq_getElem?_getD]
    cases h : d[u]? with
    | none => simp
    | some x => have := hS.dB x (List.mem_of_getElem? h); simpa using this
  have hval : ∀ v, v < N → vlR N (linkE es) v ≤ 18 := fun v hv => by
    have h2 : sumI (vlR N (linkE es)) N = sumI (fun v : Nat => valE es v) N := sumI_eq fun v hv => (val_link v fun x hx => (hok.at_ x hx).1).symm
    have h3 := val_sum (n := N) (es := es) fun x hx => by have := (hok.at_ x hx).2; omega
    have h4 := hS.sz
    have h5 := sumI_one (f := vlR N (linkE es)) (g := fun u => if u = v then 0 else vlR N (linkE es) u) hv (fun p hp hne => by rw [if_neg hne])
    have h6 : 0 ≤ sumI (fun u => if u = v then 0 else vlR N (linkE es) u) N := sumI_nn fun p hp => by
      split
      · omega
      · exact sumI_nn fun w hw => hGr.nn p w hp hw
    rw [if_pos rfl] at h5
    omega
  unfold outB
  rw [List.any_eq_false]
  intro y hy
  obtain ⟨v, hv, rfl⟩ := List.mem_iff_getElem.1 hy
  rw [moved_len, hd] at hv
  have h1 := moved_link (s := s) hat hd hv
  rw [List.getD_eq_getElem?_getD, List.getElem?_eq_getElem (by rw [moved_len]; omega), Option.getD_some] at h1
  have h2 : -(120 * vlR N (linkE es) v) ≤ sumI (fun w => linkE es v w * (s.getD v 0 - s.getD w 0)) N ∧ sumI (fun w => linkE es v w * (s.getD v 0 - s.getD w 0)) N ≤ 120 * vlR N (linkE es) v := by
    have h120 : ∀ n, n ≤ N → sumI (fun w => 120 * linkE es v w) n = 120 * sumI (linkE es v) n := fun n hn => by
      induction n with
      | zero => rfl
      | succ n ih => rw [sumI, sumI, ih (by omega), Int.mul_add]
    have e1 := h120 N (Nat.le_refl _)
    have hone : ∀ w, w < N → -(120 * linkE es v w) ≤ linkE es v w * (s.getD v 0 - s.getD w 0) ∧ linkE es v w * (s.getD v 0 - s.getD w 0) ≤ 120 * linkE es v w := fun w hw => by
      have hnn := hGr.nn v w hv hw
      have a1 := hsg v
      have a2 := hsg w
      have b1 := Int.mul_le_mul_of_nonneg_left (show s.getD v 0 - s.getD w 0 ≤ 120 by omega) hnn
      have b2 := Int.mul_le_mul_of_nonneg_left (show -120 ≤ s.getD v 0 - s.getD w 0 by omega) hnn
      constructor
      · have : linkE es v w * -120 = -(120 * linkE es v w) := by rw [Int.mul_comm, Int.neg_mul]
        omega
      · have : linkE es v w * 120 = 120 * linkE es v w := Int.mul_comm _ _
        omega
    have up := sumI_le (n := N) fun w hw => (hone w hw).2
    have dn := sumI_le (f := fun w => -(120 * linkE es v w)) (n := N) fun w hw => (hone w hw).1
    rw [e1] at up
    rw [sumI_neg, e1] at dn
    exact ⟨dn, up⟩
  have h3 := hval v hv
  have h4 := hdg v
  have h5 : inChips ((movedL s es d)[v]'(by rw [moved_len]; omega)) = true := by
    have e : app N (linkE es) (fun u => d.getD u 0) (fun u => s.getD u 0) v = d.getD v 0 - sumI (fun w => linkE es v w * (s.getD v 0 - s.getD w 0)) N := rfl
    rw [h1, e]
    unfold inChips
    refine decide_eq_true ?_
    constructor <;> omega
  simp [h5]
/-- The law of DollarPlays. -/
theorem plays_law {N : Nat} {es : List Edg} {f : List Nat} {d s : List Int} (hT : TOk N es f d) (hT2 : TOk N es f s) (hc2 : es.length ≤ 1000) (hS : SmG N es d) (hb : ∀ x ∈ s, -60 ≤ x ∧ x ≤ 60) :
    movesR N es f s = (mvFrom 0 s, 0) ∧ playR N es f d (mvFrom 0 s) = (movedL s es d, 0) ∧ playR N es f d (mvFrom 0 s).reverse = (movedL s es d, 0) ∧ applyR N es d s = (movedL s es d, 0) ∧
    cheapR N es f s = (cheapS s, costS (cheapS s), 0) ∧ applyR N es d (cheapS s) = (movedL s es d, 0) ∧ costS (cheapS s) ≤ (mvFrom 0 s).length ∧ (mvFrom 0 s).length ≤ 4096 ∧ (cheapS s).length = N ∧ ∀ x ∈ cheapS s, -1000 ≤ x ∧ x ≤ 1000 := by
  have hok := EOk.of hT.g hc2
  have h12 := hT.n12
  have hsN := hT2.len
  have ht : ∀ {x : List Int}, TOk N es f x → tErr N es f x = 0 := fun {x} h => by
    unfold tErr
    rw [if_pos h.j]
    exact dErr_ok h.n12 h.len h.dB
  have hf : ∀ {x : List Int}, x.length = N → (∀ y ∈ x, -1048576 ≤ y ∧ y ≤ 1048576) → fErr N es x = 0 := fun {x} h1 h2 => by
    unfold fErr
    rw [if_pos hT.g]
    exact dErr_ok h12 h1 h2
  have hcs := cost_sum hb
  rw [hsN] at hcs
  have hn6 := hS.n6
  have hlen := mvFrom_len s 0
  have hmv : movesR N es f s = (mvFrom 0 s, 0) := by
    unfold movesR
    rw [if_neg (fun h => h (ht hT2)), if_neg (by omega)]
  have hap : applyR N es d s = (movedL s es d, 0) := by
    unfold applyR
    rw [if_neg (fun h => h (hf hT.len hT.dB)), if_neg (fun h => h (hf hsN hT2.dB)), if_neg (by rw [moved_in hok hT.len hsN hS hb]; simp)]
  have hl4 : (mvFrom 0 s).length ≤ 4096 := by omega
  have hp1 : playR N es f d (mvFrom 0 s) = (movedL s es d, 0) := by
    unfold playR
    rw [if_neg (fun h => h (ht hT)), if_neg (by omega), Int.toNat_natCast, if_neg (by rw [bad_from hsN]; simp), lst_from hsN]
    exact hap
  have hp2 : playR N es f d (mvFrom 0 s).reverse = (movedL s es d, 0) := by
    unfold playR
    rw [if_neg (fun h => h (ht hT)), if_neg (by rw [List.length_reverse]; omega), Int.toNat_natCast, if_neg (by rw [bad_rev, bad_from hsN]; simp), lst_congr (fun i _ => sumM_rev _ i), lst_from hsN]
    exact hap
  obtain ⟨h1, m, hm, h2, h3⟩ := cheap_ok hT hsN hb (by omega)
  have hmb := hb m hm
  have hcl : (cheapS s).length = N := by rw [h2, raised_len, hsN]
  have hcb : ∀ x ∈ cheapS s, -1000 ≤ x ∧ x ≤ 1000 := fun x hx => by
    rw [h2] at hx
    unfold raisedS at hx
    obtain ⟨y, hy, rfl⟩ := List.mem_map.1 hx
    have := hb y hy
    omega
  refine ⟨hmv, hp1, hp2, hap, h1, ?_, by omega, hl4, hcl, hcb⟩
  unfold applyR
  rw [if_neg (fun h => h (hf hT.len hT.dB)), if_neg (fun h => h (hf hcl fun y hy => by have := hcb y hy; omega)), h2, moved_raised hok hT.len hsN, if_neg (by rw [moved_in hok hT.len hsN hS hb]; simp)]
end Go.Proofs.YtpgopmmobbemcaaGreat

set_option linter.unusedVariables false
set_option linter.unusedSimpArgs false
set_option linter.unnecessarySimpa false
namespace Go.Proofs.YtpgopmmobbemcaaGreat
open Go.RowKit

theorem OwnS.intoM {w : World} {base : Nat} {t : TypeId} {v : Value} {xs : List Mv} (h : OwnS dmvR 2 base t Non w v xs) : ∃ o c, v = .slice o xs.length c ∧ xs.length ≤ c ∧ SliceR dmvR 2 All w o xs := by
  obtain ⟨o, c, h1, h2, h3⟩ := h.slice dmvR_ok
  exact ⟨o, c, h1, h2, h3.all dmvR_ok (by decide)⟩
set_option maxRecDepth 100000 in
set_option maxHeartbeats 8000000 in
theorem plays_walk (w : World) (n : Int) (es : List Edg) (oe : Option Addr) (c : Nat) (hc : es.length ≤ c) (hc2 : es.length ≤ 9223372036854775807) (hs : SliceR edgR 3 All w oe es)
    (d : List Int) (od : Option Addr) (cd : Nat) (hdc : d.length ≤ cd) (hdl : d.length ≤ 9223372036854775807) (hd : SliceR intR 1 All w od d)
    (s : List Int) (os : Option Addr) (cs : Nat) (hsc : s.length ≤ cs) (hsl : s.length ≤ 9223372036854775807) (hS : SliceR intR 1 All w os s) :
    Calls Tryz.prog 10 #[.agg #[.int .i64 n, .slice oe es.length c], .slice od d.length cd, .slice os s.length cs] w fun r w' => r = .returned (.bool true) ∧ Below w.heap.size w w' := by
  have HU : Hid (gErr n es = 0 → Uf (forest es) (eL es)) := forest_ok n es
  have hb0 := bnew (Below.refl w.heap.size w) (.cells #[.int .i64 n, .slice oe es.length c] 24)
  have bxx := Box.new w [.int .i64 n, .slice oe es.length c] 24
  have K1 := hide (lsmall43_any n es oe c All _ (hs.below edgR_ok hb0) hc hc2 (forest es) HU d od cd All (hd.below intR_ok hb0) hdc hdl)
  have HD := hide hd
  have HS := hide hs
  have HSS := hide hS
  have HB := hide hb0
  have HX := hide bxx
  have haw : ∀ W : World, Calls Tryz.prog 12 #[] W fun e w' => e = .returned (.bool true) ∧ Below W.heap.size W w' := fun W => awake43_any W
  have HAW := hide haw
  clear hs hd hS hb0 bxx haw
  go_enter Tryz.func10, Tryz.ntmps10
  go_wp2_with fail
  refine K1.out.mono ?_
  rintro e w2 ⟨rfl, hb2⟩
  have HB2 := hide (below_then HB.out hb2)
  have HX2 := hide (HX.out.below hb2)
  clear hb2
  rcases hf : lsm43 n es (forest es) d with _ | _
  · clear hf
    go_wp2_with fail
    refine (HAW.out _).mono ?_
    rintro e w6 ⟨rfl, hb6⟩
    have HB6 := hide (below_then HB2.out hb6)
    clear hb6
    go_wp2_with fail
    go_ret
    exact ⟨by first | rfl | trivial, HB6.out⟩
  obtain ⟨h40, h24, hV, hsm⟩ := lsm43_parts hf
  have K2 := hide (lsmall43_any n es oe c All w2 (HS.out.below edgR_ok HB2.out) hc hc2 (forest es) HU s os cs All (HSS.out.below intR_ok HB2.out) hsc hsl)
  have y0 := HX2.out.cell 0
  have y1 := HX2.out.cell 1
  simp only [List.getElem?_cons_zero, List.getElem?_cons_succ] at y0 y1
  clear hf
  go_wp2_with fail
  refine K2.out.mono ?_
  rintro e w3 ⟨rfl, hb3⟩
  have HB3 := hide (below_then HB2.out hb3)
  have HX3 := hide (HX2.out.below hb3)
  clear hb3 K2 y0 y1
  rcases hf : lsm43 n es (forest es) s with _ | _
  · clear hf hV hsm
    go_wp2_with fail
    refine (HAW.out _).mono ?_
    rintro e w6 ⟨rfl, hb6⟩
    have HB6 := hide (below_then HB3.out hb6)
    clear hb6
    go_wp2_with fail
    go_ret
    exact ⟨by first | rfl | trivial, HB6.out⟩
  obtain ⟨_, h24s, hVs, hsms⟩ := lsm43_parts hf
  obtain ⟨N, rfl, hT⟩ := tErr_ok hV
  obtain ⟨N2, hN2, hT2⟩ := tErr_ok hVs
  have hNN : N2 = N := by omega
  subst hNN
  have hc3 : es.length ≤ 1000 := by omega
  rw [Int.toNat_natCast] at hsm hsms
  have hLAW := plays_law hT hT2 hc3 hsm hsms.dB
  obtain ⟨l, hl⟩ : ∃ l, l = mvFrom 0 s := ⟨_, rfl⟩
  obtain ⟨t, ht⟩ : ∃ t, t = cheapS s := ⟨_, rfl⟩
  obtain ⟨a, ha⟩ : ∃ a, a = movedL s es d := ⟨_, rfl⟩
  have haN : a.length = N2 := by rw [ha, moved_len]; exact hT.len
  have h12 := hT.n12
  have hTD : d.length = N2 := hT.len
  have hTS : s.length = N2 := hT2.len
  rw [← hl, ← ht, ← ha] at hLAW
  obtain ⟨q1, q2, q3, q4, q5, q6, q7, q8, q9, q10⟩ := hLAW
  have HMV : Hid (∀ W, Below w.heap.size w W → Calls Tryz.prog 33 #[.agg #[.int .i64 N2, .slice oe es.length c], .slice os s.length cs] W (MvsPost 81 W (l, 0))) := fun W hW => by
    have h5 := dmoves_any N2 es oe c All W (HS.out.below edgR_ok hW) hc hc3 (forest es) HU s os cs All (HSS.out.below intR_ok hW) hsc hsl
    rw [q1] at h5
    exact h5
  have HPL : Hid (∀ W (ol : Option Addr) (cl : Nat), Below w.heap.size w W → SliceR dmvR 2 All W ol l → l.length ≤ cl → Calls Tryz.prog 35 #[.agg #[.int .i64 N2, .slice oe es.length c], .slice od d.length cd, .slice ol l.length cl] W (DivPost W (a, 0))) := fun W ol cl hW hL hcl => by
    have h5 := dplay_any N2 es oe c All W (HS.out.below edgR_ok hW) hc hc3 (forest es) HU d od cd All (HD.out.below intR_ok hW) hdc hdl l ol cl All hL hcl (by omega)
    rw [q2] at h5
    exact h5
  have HPB : Hid (∀ W (ol : Option Addr) (cl : Nat), Below w.heap.size w W → SliceR dmvR 2 All W ol l.reverse → l.length ≤ cl → Calls Tryz.prog 35 #[.agg #[.int .i64 N2, .slice oe es.length c], .slice od d.length cd, .slice ol l.length cl] W (DivPost W (a, 0))) := fun W ol cl hW hL hcl => by
    have h5 := dplay_any N2 es oe c All W (HS.out.below edgR_ok hW) hc hc3 (forest es) HU d od cd All (HD.out.below intR_ok hW) hdc hdl l.reverse ol cl All hL (by rw [List.length_reverse]; exact hcl) (by rw [List.length_reverse]; omega)
    rw [q3, List.length_reverse] at h5
    exact h5
  have HAP : Hid (∀ W, Below w.heap.size w W → Calls Tryz.prog 39 #[.agg #[.int .i64 N2, .slice oe es.length c], .slice od d.length cd, .slice os s.length cs] W (DivPost W (a, 0))) := fun W hW => by
    have h5 := fapply_any N2 es oe c All W (HS.out.below edgR_ok hW) hc hc3 d od cd All (HD.out.below intR_ok hW) hdc hdl s os cs All (HSS.out.below intR_ok hW) hsc hsl
    rw [q4] at h5
    exact h5
  have HCH : Hid (∀ W, Below w.heap.size w W → Calls Tryz.prog 13 #[.agg #[.int .i64 N2, .slice oe es.length c], .slice os s.length cs] W (ScrPost W (t, costS t, 0))) := fun W hW => by
    have h5 := cheapest_any N2 es oe c All W (HS.out.below edgR_ok hW) hc hc3 (forest es) HU s os cs All (HSS.out.below intR_ok hW) hsc hsl
    rw [q5] at h5
    exact h5
  have HAT : Hid (∀ W (o2 : Option Addr) (c2 : Nat), Below w.heap.size w W → SliceR intR 1 All W o2 t → t.length ≤ c2 → Calls Tryz.prog 39 #[.agg #[.int .i64 N2, .slice oe es.length c], .slice od d.length cd, .slice o2 t.length c2] W (DivPost W (a, 0))) := fun W o2 c2 hW hL hcl => by
    have h5 := fapply_any N2 es oe c All W (HS.out.below edgR_ok hW) hc hc3 d od cd All (HD.out.below intR_ok hW) hdc hdl t o2 c2 All hL hcl (by omega)
    rw [q6] at h5
    exact h5
  have HSA : Hid (∀ W (o2 o3 : Option Addr) (c2 c3 : Nat), SliceR intR 1 All W o2 a → SliceR intR 1 All W o3 a → a.length ≤ c2 → Calls Tryz.prog 38 #[.slice o2 a.length c2, .slice o3 a.length c3] W fun e w' => e = .returned (.bool true) ∧ Below W.heap.size W w') := fun W o2 o3 c2 c3 h2 h3 hcl => by
    have h5 := same_any a a o2 o3 c2 c3 All W h2 h3 hcl (by omega)
    rw [decide_eq_true (rfl : a = a)] at h5
    exact h5
  have HCO : Hid (∀ W (o2 : Option Addr) (c2 : Nat), SliceR intR 1 All W o2 t → t.length ≤ c2 → Calls Tryz.prog 40 #[.slice o2 t.length c2] W fun e w' => e = .returned (.int .i64 (costS t)) ∧ Below W.heap.size W w') := fun W o2 c2 h2 hcl => rcost_any t o2 c2 All W h2 hcl (by omega) (fun k hk => by have := q10 k hk; omega)
  obtain ⟨C, hC⟩ : ∃ C, C = costS t := ⟨_, rfl⟩
  rw [← hC] at HCH HCO q7
  have hCl : decide ((l.length : Int) < C) = false := decide_eq_false (by omega)
  have y0 := HX3.out.cell 0
  have y1 := HX3.out.cell 1
  simp only [List.getElem?_cons_zero, List.getElem?_cons_succ] at y0 y1
  have hll : l.length ≤ 4096 := q8
  clear q1 q2 q3 q4 q5 q6 q7 q8 q9 q10 hf hV hsm hVs hsms hT hT2 hl ht ha hC haN hTD hTS hN2
  go_wp2_with fail
  refine (HMV.out w3 HB3.out).mono ?_
  rintro e w4 ⟨v4, rfl, ho4, hb4⟩
  obtain ⟨ol, cl, hv4, hcl, hsl4⟩ := OwnS.intoM ho4
  simp only at hv4 hcl hsl4
  subst hv4
  have HSL4 := hide hsl4
  have HB4 := hide (below_then HB3.out hb4)
  have HX4 := hide (HX3.out.below hb4)
  clear ho4 hsl4 hb4 y0 y1
  have y0 := HX4.out.cell 0
  have y1 := HX4.out.cell 1
  simp only [List.getElem?_cons_zero, List.getElem?_cons_succ] at y0 y1 ⊢
  go_wp2_with fail
  refine (HPL.out w4 ol cl HB4.out HSL4.out hcl).mono ?_
  rintro e w5 ⟨oa, ca, rfl, hca, hsa, hb5⟩
  simp only at hca hsa
  have HSA5 := hide hsa
  have HSL5 := hide (HSL4.out.below dmvR_ok hb5)
  have HB5 := hide (below_then HB4.out hb5)
  have HX5 := hide (HX4.out.below hb5)
  clear hsa hb5 y0 y1
  have y0 := HX5.out.cell 0
  have y1 := HX5.out.cell 1
  simp only [List.getElem?_cons_zero, List.getElem?_cons_succ] at y0 y1 ⊢
  go_wp2_with fail
  refine (HAP.out w5 HB5.out).mono ?_
  rintro e w6 ⟨ob, cb, rfl, hcb, hsb, hb6⟩
  simp only at hcb hsb
  have HSB6 := hide hsb
  have HSA6 := hide (HSA5.out.below intR_ok hb6)
  have HSL6 := hide (HSL5.out.below dmvR_ok hb6)
  have HB6 := hide (below_then HB5.out hb6)
  have HX6 := hide (HX5.out.below hb6)
  clear hsb hb6 y0 y1
  have y0 := HX6.out.cell 0
  have y1 := HX6.out.cell 1
  simp only [List.getElem?_cons_zero, List.getElem?_cons_succ] at y0 y1 ⊢
  go_wp2_with fail
  refine (HCH.out w6 HB6.out).mono ?_
  rintro e w7 ⟨v7, rfl, ho7, hb7⟩
  obtain ⟨ot, ct, hv7, hct, hst⟩ := OwnS.into ho7
  simp only at hv7 hct hst
  subst hv7
  have HST7 := hide hst
  have HSB7 := hide (HSB6.out.below intR_ok hb7)
  have HSA7 := hide (HSA6.out.below intR_ok hb7)
  have HSL7 := hide (HSL6.out.below dmvR_ok hb7)
  have HB7 := hide (below_then HB6.out hb7)
  have HX7 := hide (HX6.out.below hb7)
  clear ho7 hst hb7 y0 y1
  have y0 := HX7.out.cell 0
  have y1 := HX7.out.cell 1
  simp only [List.getElem?_cons_zero, List.getElem?_cons_succ] at y0 y1 ⊢
  go_wp2_with fail
  refine (HAT.out w7 ot ct HB7.out HST7.out hct).mono ?_
  rintro e w8 ⟨oc, cc, rfl, hcc, hsc8, hb8⟩
  simp only at hcc hsc8
  have HSC8 := hide hsc8
  have HST8 := hide (HST7.out.below intR_ok hb8)
  have HSB8 := hide (HSB7.out.below intR_ok hb8)
  have HSA8 := hide (HSA7.out.below intR_ok hb8)
  have HSL8 := hide (HSL7.out.below dmvR_ok hb8)
  have HB8 := hide (below_then HB7.out hb8)
  have HX8 := hide (HX7.out.below hb8)
  clear hsc8 hb8 y0 y1
  simp only
  go_wp2_with fail
  refine (HSA.out w8 oa ob ca cb HSA8.out HSB8.out hca).mono ?_
  rintro e w9 ⟨rfl, hb9⟩
  have HSC9 := hide (HSC8.out.below intR_ok hb9)
  have HST9 := hide (HST8.out.below intR_ok hb9)
  have HSB9 := hide (HSB8.out.below intR_ok hb9)
  have HSA9 := hide (HSA8.out.below intR_ok hb9)
  have HSL9 := hide (HSL8.out.below dmvR_ok hb9)
  have HB9 := hide (below_then HB8.out hb9)
  have HX9 := hide (HX8.out.below hb9)
  clear hb9
  go_wp2_with fail
  refine (HSA.out w9 oc ob cc cb HSC9.out HSB9.out hcc).mono ?_
  rintro e w10 ⟨rfl, hb10⟩
  have HST10 := hide (HST9.out.below intR_ok hb10)
  have HSA10 := hide (HSA9.out.below intR_ok hb10)
  have HSL10 := hide (HSL9.out.below dmvR_ok hb10)
  have HB10 := hide (below_then HB9.out hb10)
  have HX10 := hide (HX9.out.below hb10)
  clear hb10
  go_wp2_with fail
  refine (HCO.out w10 ot ct HST10.out hct).mono ?_
  rintro e w11 ⟨rfl, hb11⟩
  have HSA11 := hide (HSA10.out.below intR_ok hb11)
  have HSL11 := hide (HSL10.out.below dmvR_ok hb11)
  have HB11 := hide (below_then HB10.out hb11)
  have HX11 := hide (HX10.out.below hb11)
  have hwl := HX11.out.lt
  clear hb11
  go_wp2_with fail
  clear hCl
  go_loopg [18, 19] l.length (fun gm bv iv wx => ∃ k : Nat, k ≤ l.length ∧ gm = l.length - k ∧ iv = .int .i64 ((l.length : Int) - 1 - k) ∧ Hid (OwnS dmvR 2 w11.heap.size 81 Non wx bv (l.reverse.take k)) ∧ Hid (Below w11.heap.size w11 wx))
  case atStart => exact ⟨0, by omega, by omega, by simp, OwnS.nil _ _ _ _ _ _, Below.refl _ _⟩
  case round =>
    obtain ⟨k, hk, hgm, rfl, HO, HBr⟩ := hrel
    have HGM := hide hgm
    clear hgm
    obtain ⟨iv, hiv⟩ : ∃ iv, iv = (l.length : Int) - 1 - k := ⟨_, rfl⟩
    have HIV := hide hiv
    rw [← hiv]
    by_cases hlt : k < l.length
    · obtain ⟨j, hj⟩ : ∃ j, j = l.length - 1 - k := ⟨_, rfl⟩
      have hivj : iv = (j : Int) := by omega
      have hjl : j < l.length := by omega
      obtain ⟨v, b, _, hget, hvi, bl, offl, hol, _, cv, cb2⟩ := (HSL11.out.below dmvR_ok HBr.out).dmv_at hjl
      have HTK : Hid (l.reverse.take (k + 1) = l.reverse.take k ++ [⟨v, b⟩]) := by
        show _ = _
        rw [List.take_add_one, List.getElem?_reverse hlt, ← hj, hget]
        rfl
      have hXl : (l.reverse.take k).length + 1 ≤ 4096 := by rw [List.length_take, List.length_reverse]; omega
      obtain ⟨X, hX⟩ : ∃ X, X = l.reverse.take k := ⟨_, rfl⟩
      rw [← hX] at HO HTK hXl
      have HL1 : Hid (SliceR dmvR 2 All (wr.alloc (.cells #[.int .i64 v, .bool b] 81)) (some ⟨wr.heap.size, 0, none⟩) [⟨v, b⟩]) := lit1 (F := All) dmvR_ok wr 81 [.int .i64 v, .bool b] ⟨v, b⟩ ⟨rfl, hvi⟩ (fun _ _ => trivial) trivial
      have hj0 : (0 : Int) ≤ j := by omega
      have hj1 : (j : Int) < l.length := by omega
      subst hol
      have HIJ := hide hivj
      rw [hivj]
      clear hget hX hj hiv hivj
      go_wp2_with (at_builtin; refine wpList_append_rep rfl (.tmp 107) (.tmp 112) 61 rfl w11.heap.size 81 _ 2 16 Tryz.underlying61 dmvInfoN rfl (by decide) dmvR_ok Non All _ X (by simp [Act.eval, Act.put]) (HO.out.new dmvR_ok _) (some ⟨wr.heap.size, 0, none⟩) 1 [⟨v, b⟩] (by simp [Act.eval, Act.put]) HL1.out (fun _ _ h => h) (fun _ h => h.elim) (by simp; omega) (by simp; omega) (by have := HBr.out.size; simp only [World.size_alloc]; omega) ?_; intro v' w13 ho8 hb8 hg8; have HO8 := hide ho8; have HB8' := hide hb8; clear ho8 hb8 hg8)
      go_roundg (l.length - (k + 1))
      case rel => exact ⟨k + 1, by omega, rfl, by rw [show ((l.length : Int) - 1 - (k + 1 : Nat)) = (j : Int) - 1 from by have := HIV.out; have := HIJ.out; push_cast; omega], by rw [HTK.out]; exact HO8.out, (HBr.out.alloc HBr.out.size _).trans HB8'.out⟩
      case measure => rw [HGM.out]; omega
    · have hke : l.reverse.take k = l.reverse := List.take_of_length_le (by rw [List.length_reverse]; omega)
      have hiv1 : iv = -1 := by omega
      have ho2 := HO.out
      rw [hke] at ho2
      obtain ⟨o2, c2, hu, hc2', hs2⟩ := OwnS.intoM ho2
      rw [List.length_reverse] at hu hc2'
      have HS2 := hide hs2
      have HBW : Hid (Below w.heap.size w wr) := below_then HB11.out HBr.out
      have bx := HX11.out.below HBr.out
      have y0 := bx.cell 0
      have y1 := bx.cell 1
      simp only [List.getElem?_cons_zero, List.getElem?_cons_succ] at y0 y1
      have HSAr := hide (HSA11.out.below intR_ok HBr.out)
      subst hu
      rw [hiv1]
      clear hke hiv1 ho2 hs2 bx hiv
      go_wp2_with fail
      refine (HPB.out wr o2 c2 HBW.out HS2.out hc2').mono ?_
      rintro e w14 ⟨ox, cx, rfl, hcx, hsx, hb14⟩
      simp only at hcx hsx
      have HSX := hide hsx
      have HSA14 := hide (HSAr.out.below intR_ok hb14)
      have HB14 := hide (below_then HBW.out hb14)
      clear hsx hb14 y0 y1
      simp only
      go_wp2_with fail
      refine (HSA.out w14 ox oa cx ca HSX.out HSA14.out hcx).mono ?_
      rintro e w15 ⟨rfl, hb15⟩
      have HB15 := hide (below_then HB14.out hb15)
      clear hb15
      go_wp2_with fail
      refine (HAW.out _).mono ?_
      rintro e w16 ⟨rfl, hb16⟩
      have HB16 := hide (below_then HB15.out hb16)
      clear hb16
      go_wp2_with fail
      go_ret
      exact ⟨by first | rfl | trivial, HB16.out⟩
end Go.Proofs.YtpgopmmobbemcaaGreat

set_option linter.unusedVariables false
namespace Go.Proofs.YtpgopmmobbemcaaGreat
open Go.RowKit Go.ChangeShapes Go.WideShapes Go.ChangeAt Go.Deep

set_option maxRecDepth 100000 in
theorem dollarPlays_lifted (os : Os) (started : os.Started) (H : Type) (enc : TypeId × Value → H) :
    ReturnsInHanded {} Tryz.checked os 10 .any (Rows.dollarPlaysSpec.pre6 enc Tryz.prog Tryz.f10 Rows.dollarPlaysRow.domain false) (Rows.dollarPlaysSpec.post enc Tryz.prog Tryz.f10 false true false false) := by
  refine returnsInHanded_of_change (C := Tryz.checked) own_knob started (by kernel_rfl) Tryz.func10
    (ChangeSpec.witness6 (enc := enc) (C := Tryz.checked) false ⟨#[], #[.agg #[.int .i64 0, .slice none 0 0], .slice none 0 0, .slice none 0 0], []⟩ 8 (by kernel_rfl) (by kernel_rfl) (by kernel_rfl) (by kernel_rfl)) ?_
  intro W base args ds gs before hval0 hW _ _
  have hval : ∀ (j : Nat) t v, Tryz.f10.params[j]? = some t → args[j]? = some v → Value.okWide Tryz.prog W .any base t v := hval0
  have hW' := hW
  obtain ⟨p, q, hA0, hV, rfl, _, _⟩ := hW
  have hA : DataW.TrodAll enc Tryz.prog W 0 (fun _ => true) true Tryz.f10.params.toList args.toList ds p := hA0
  rw [Tryz.params10] at hA hval
  obtain ⟨v0, v1, v2, d0, d1, d2, p0, p1, p2, rfl, rfl, rfl, h0, h1, h2⟩ := trodAll_three hA
  obtain ⟨rfl, rfl⟩ := trodVars_none hV
  have h0k := h0
  have h1k := h1
  have h2k := h2
  obtain ⟨n0, es0, oe0, c0, rfl, hc0, hl0, he0⟩ := open_graph (hval 0 24 v0 rfl rfl) h0
  obtain ⟨xs1, oa1, c1, rfl, hc1, hd1, hs1⟩ := open_div (hval 1 28 v1 rfl rfl) h1
  obtain ⟨xs2, oa2, c2, rfl, hc2, hd2, hs2⟩ := open_scr (hval 2 26 v2 rfl rfl) h2
  clear hA0 hval0
  simp only [List.append_nil] at hW'
  have hlt0 : ∀ y ∈ p0, y.block < W.heap.size := fun y hy => by simpa using hW'.lt y (by simp [hy])
  have hlt1 : ∀ y ∈ p1, y.block < W.heap.size := fun y hy => by simpa using hW'.lt y (by simp [hy])
  have hlt2 : ∀ y ∈ p2, y.block < W.heap.size := fun y hy => by simpa using hW'.lt y (by simp [hy])
  refine (plays_walk W n0 es0 oe0 c0 hc0 hl0 he0 xs1 oa1 c1 hc1 hd1 hs1 xs2 oa2 c2 hc2 hd2 hs2).mono fun e W' ⟨he, hn⟩ => ?_
  subst he
  exact ⟨_, rfl, _, _, _, [], _, [], hW', trodAll_mk1 (shut_bool Tryz.underlying4 true), trodAll_mk3 (Below.trod laid_out (by kernel_rfl) (of_decide_eq_true (by kernel_rfl)) h0k hn hlt0) (Below.trod laid_out (by kernel_rfl) (of_decide_eq_true (by kernel_rfl)) h1k hn hlt1) (Below.trod laid_out (by kernel_rfl) (of_decide_eq_true (by kernel_rfl)) h2k hn hlt2), rfl, hn.frame _, fun h => by cases h⟩

theorem dollarPlays_holds : Rows.DollarPlaysSaid :=
  OpenClaim.holds_of_wide 10 Tryz.f10 rfl rfl rfl rfl rfl rfl rfl ⟨rfl, rfl, rfl, rfl, rfl⟩ rfl rfl rfl rfl rfl (by kernel_rfl) Tryz.func10 (by kernel_rfl)
    (of_decide_eq_true (by kernel_rfl)) (by unfold Func.isWrapper; first | (rw [if_pos (by decide +kernel)]; kernel_rfl) | (rw [if_neg (by decide +kernel)]; exact ⟨rfl, rfl⟩))
    (fun os started H enc _ => dollarPlays_lifted os started H enc)

#print axioms dollarPlays_holds
end Go.Proofs.YtpgopmmobbemcaaGreat

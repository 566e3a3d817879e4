/-
  FractionUndoes: the row, and its card tied to the program's text (what start-up code lays). Printed by mkFrEnd.py.
  law02: FractionUndoes, the walk. Printed by mkLawUnd.py.
  law02: sums.of where all went well.
  law02: short fractions, and what the package does with them; right.
-/
import Derived.Test.YthpknfoahimopaaGreatDoorF5
import Derived.Test.YthpknfoahimopaaGreatDoorRows
import Derived.Test.YthpknfoahimopaaGreatDoorCards
import Derived.Test.YthpknfoahimopaaGreatDoorTie
import Derived.Handed
import Derived.Lay
import Derived.SevenTiedAt
import Derived.MakeChecks

set_option linter.unusedVariables false
set_option linter.unusedSimpArgs false
set_option linter.unnecessarySimpa false
namespace Go.Proofs.YthpknfoahimopaaGreatDoor
open Go.RowKit

/-- A number of at most k digits. -/
def D (k : Nat) (z : Int) : Prop := (dgs z.natAbs).length ≤ k
theorem D.mono {j k : Nat} {z : Int} (h : D j z) (hk : j ≤ k) : D k z := Nat.le_trans h hk
theorem D.mul {j k : Nat} {x y : Int} (hx : D j x) (hy : D k y) : D (j + k) (x * y) := by
  unfold D at *
  rw [Int.natAbs_mul]
  have h1 := dgs_mul x.natAbs y.natAbs
  omega
theorem D.neg {k : Nat} {z : Int} (h : D k z) : D k (-z) := by unfold D; rw [Int.natAbs_neg]; exact h
theorem D.add {k : Nat} {x y : Int} (hx : D k x) (hy : D k y) : D (k + 1) (x + y) := Nat.le_trans (dgs_mono (Int.natAbs_add_le x y)) (dgs_add hx hy)
theorem D.sub {k : Nat} {x y : Int} (hx : D k x) (hy : D k y) : D (k + 1) (x - y) := by rw [Int.sub_eq_add_neg]; exact hx.add hy.neg
theorem D.lim {k : Nat} {z : Int} (h : D k z) (hk : k ≤ 1023) : Lim z := by
  have h1 := len_dgs z.natAbs
  unfold D at h
  show (txtN z.natAbs).length ≤ 1024
  omega
theorem D.fdiv {k : Nat} {x y : Int} (h : D k x) (hy : y ≠ 0) : D k (x.fdiv y) := Nat.le_trans (dgs_mono (fdiv_abs_le hy)) h
theorem lowG_ne {n d : Int} (h0 : d ≠ 0) : lowG n d ≠ 0 := by
  have hg0 : 0 < n.gcd d := Int.gcd_pos_of_ne_zero_right n h0
  unfold lowG
  split <;> omega
/-- A right fraction, its numbers of at most k digits. -/
structure FR (k : Nat) (x : Int × Int) : Prop where
  good : Good x.1 x.2
  num : D k x.1
  den : D k x.2
theorem FR.low {k : Nat} {n d : Int} (hn : D k n) (hd : D k d) (h0 : d ≠ 0) (hk : k ≤ 1023) : FR k (lowF n d) :=
  ⟨good_low (hn.lim hk) (hd.lim hk) h0, hn.fdiv (lowG_ne h0), hd.fdiv (lowG_ne h0)⟩
theorem FR.den0 {j k : Nat} {x y : Int × Int} (hx : FR j x) (hy : FR k y) : x.2 * y.2 ≠ 0 := hx.good.mul0 hy.good
theorem FR.ne {k : Nat} {x : Int × Int} (hx : FR k x) : x.2 ≠ 0 := by have := hx.good.low.1; omega
theorem comb_of {n m o d : Int} (h1 : Lim n) (h2 : Lim m) (h3 : Lim o) (h4 : Lim d) : combK n m o d = true := by
  unfold combK doE
  rw [decide_eq_true h1, decide_eq_true h2, decide_eq_true h3, decide_eq_true h4]
  rfl
theorem do_of {n d : Int} (h1 : Lim n) (h4 : Lim d) : doE (doE true n) d = true := by
  unfold doE
  rw [decide_eq_true h1, decide_eq_true h4]
  rfl
/-- The value of a fraction. -/
abbrev frA (x : Int × Int) : Value := .agg #[.string (strN (txtI x.1)), .string (strN (txtI x.2))]
theorem FR.cross {j k : Nat} {x y : Int × Int} (hx : FR j x) (hy : FR k y) : D (j + k) (x.1 * y.2) ∧ D (j + k) (y.1 * x.2) ∧ D (j + k) (x.2 * y.2) :=
  ⟨hx.num.mul hy.den, by rw [Nat.add_comm]; exact hy.num.mul hx.den, hx.den.mul hy.den⟩
theorem FR.add {j k : Nat} {x y : Int × Int} (hx : FR j x) (hy : FR k y) (h : j + k ≤ 1000) : FR (j + k + 1) (addF x y) ∧ ∀ w, Tbl w → Calls Tryz.prog 21 #[frA x, frA y] w fun e w' => e = .returned (.tuple #[frA (addF x y), .int .i64 0]) ∧ Below w.heap.size w w' := by
  obtain ⟨c1, c2, c3⟩ := hx.cross hy
  refine ⟨FR.low (c1.add c2) (c3.mono (by omega)) (hx.den0 hy) (by omega), fun w ht => ?_⟩
  have h5 := fadd_ok hx.good hy.good ht
  rw [comb_of (c1.lim (by omega)) (c2.lim (by omega)) ((c1.add c2).lim (by omega)) (c3.lim (by omega))] at h5
  exact h5
theorem FR.sub {j k : Nat} {x y : Int × Int} (hx : FR j x) (hy : FR k y) (h : j + k ≤ 1000) : FR (j + k + 1) (subF x y) ∧ ∀ w, Tbl w → Calls Tryz.prog 35 #[frA x, frA y] w fun e w' => e = .returned (.tuple #[frA (subF x y), .int .i64 0]) ∧ Below w.heap.size w w' := by
  obtain ⟨c1, c2, c3⟩ := hx.cross hy
  refine ⟨FR.low (c1.sub c2) (c3.mono (by omega)) (hx.den0 hy) (by omega), fun w ht => ?_⟩
  have h5 := fsub_ok hx.good hy.good ht
  rw [comb_of (c1.lim (by omega)) (c2.lim (by omega)) ((c1.sub c2).lim (by omega)) (c3.lim (by omega))] at h5
  exact h5
theorem FR.mul {j k : Nat} {x y : Int × Int} (hx : FR j x) (hy : FR k y) (h : j + k ≤ 1000) : FR (j + k) (mulF x y) ∧ ∀ w, Tbl w → Calls Tryz.prog 23 #[frA x, frA y] w fun e w' => e = .returned (.tuple #[frA (mulF x y), .int .i64 0]) ∧ Below w.heap.size w w' := by
  have c1 := hx.num.mul hy.num
  have c3 := hx.den.mul hy.den
  refine ⟨FR.low c1 c3 (hx.den0 hy) (by omega), fun w ht => ?_⟩
  have h5 := fmul_ok hx.good hy.good ht
  rw [do_of (c1.lim (by omega)) (c3.lim (by omega))] at h5
  exact h5
theorem FR.div {j k : Nat} {x y : Int × Int} (hx : FR j x) (hy : FR k y) (h : j + k ≤ 1000) (h0 : y.1 ≠ 0) : FR (j + k) (divF x y) ∧ ∀ w, Tbl w → Calls Tryz.prog 38 #[frA x, frA y] w fun e w' => e = .returned (.tuple #[frA (divF x y), .int .i64 0]) ∧ Below w.heap.size w w' := by
  have c1 := hx.num.mul hy.den
  have c3 := hx.den.mul hy.num
  refine ⟨FR.low c1 c3 (Int.mul_ne_zero hx.ne h0) (by omega), fun w ht => ?_⟩
  have h5 := fdiv_ok hx.good hy.good h0 ht
  rw [do_of (c1.lim (by omega)) (c3.lim (by omega))] at h5
  exact h5
theorem FR.cmp {j k : Nat} {x y : Int × Int} (hx : FR j x) (hy : FR k y) (h : j + k ≤ 1000) : ∀ w, Tbl w → Calls Tryz.prog 40 #[frA x, frA y] w fun e w' => e = .returned (.tuple #[.int .i64 (cmpF x y), .int .i64 0]) ∧ Below w.heap.size w w' := by
  obtain ⟨c1, c2, c3⟩ := hx.cross hy
  intro w ht
  have h5 := fcmp_ok hx.good hy.good ht
  unfold cmpV at h5
  rw [do_of (c1.lim (by omega)) (c2.lim (by omega))] at h5
  exact h5
theorem FR.check {k : Nat} {x : Int × Int} (hx : FR k x) : ∀ w, Tbl w → Calls Tryz.prog 25 #[frA x] w fun e w' => e = .returned (.int .i64 0) ∧ Below w.heap.size w w' := fun w ht => hx.good.check ht
theorem len40 {l : List UInt8} {z : Int} (hl : l = txtI z) (h : l.length ≤ 40) : D 40 z := by
  subst hl
  have h1 := dgs_le_len z.natAbs
  have h2 : (txtN z.natAbs).length ≤ (txtI z).length := by
    unfold txtI
    split
    · simp
    · exact Nat.le_refl _
  unfold D
  omega
/-- A short, right fraction. -/
def rightB (l m : List UInt8) : Bool := decide (l.length ≤ 40) && (decide (m.length ≤ 40) && (chkF l m == 0))
theorem rightB_ok {l m : List UInt8} (h : rightB l m = true) : ∃ x : Int × Int, l = txtI x.1 ∧ m = txtI x.2 ∧ FR 40 x := by
  unfold rightB at h
  simp only [Bool.and_eq_true, decide_eq_true_eq, beq_iff_eq] at h
  obtain ⟨h1, h2, h3⟩ := h
  obtain ⟨p, q, e1, e2, hg⟩ := chkF_good h3
  exact ⟨(p, q), e1, e2, hg, len40 e1 h1, len40 e2 h2⟩
set_option maxRecDepth 100000 in
set_option maxHeartbeats 4000000 in
theorem right_any (l m : List UInt8) (hl : l.length ≤ 140737488355328) (hm : m.length ≤ 140737488355328) (w : World) : Calls Tryz.prog 18 #[.agg #[.string (strN l), .string (strN m)]] w fun e w' => e = .returned (.bool (rightB l m)) ∧ Below w.heap.size w w' := by
  have H1 : Hid (∀ w', Calls Tryz.prog 33 #[.agg #[.string (strN l), .string (strN m)]] w' fun e w2 => e = .returned (.int .i64 (chkF l m)) ∧ Below w'.heap.size w' w2) := fun w' => rfcheck_any l m hl hm
  have hz1 : (strN l).size = l.length := rfl
  have hz2 : (strN m).size = m.length := rfl
  have HW : Hid (Below w.heap.size w (w.alloc (.cells #[.string (strN l), .string (strN m)] 26))) := bnew (Below.refl _ _) _
  obtain ⟨r, hr⟩ : ∃ r, r = rightB l m := ⟨_, rfl⟩
  rw [← hr]
  have HR := hide hr
  clear hr hl hm
  by_cases g1 : l.length ≤ 40
  · have q1 : decide ((l.length : Int) ≤ 40) = true := by simp; omega
    by_cases g2 : m.length ≤ 40
    · have q2 : decide ((m.length : Int) ≤ 40) = true := by simp; omega
      have HRV : Hid (r = (chkF l m == 0)) := by show _ = _; rw [HR.out]; unfold rightB; rw [decide_eq_true g1, decide_eq_true g2]; rfl
      generalize chkF l m = e at *
      clear g1 g2
      go_enter Tryz.func18, Tryz.ntmps18
      go_wp2_with (go_at_call 33; (with_reducible refine (H1.out _).mono ?_); rintro ec w5 ⟨rfl, hbz⟩; have HB := hide (below_then HW.out hbz); clear hbz)
      go_ret
      exact ⟨by rw [HRV.out]; rfl, HB.out⟩
    · have q2 : decide ((m.length : Int) ≤ 40) = false := by simp; omega
      have HRV : Hid (r = false) := by show _ = _; rw [HR.out]; unfold rightB; rw [decide_eq_true g1, decide_eq_false g2]; rfl
      clear g1 g2
      go_enter Tryz.func18, Tryz.ntmps18
      go_wp2_with fail
      go_ret
      exact ⟨by rw [HRV.out]; rfl, HW.out⟩
  · have q1 : decide ((l.length : Int) ≤ 40) = false := by simp; omega
    have HRV : Hid (r = false) := by show _ = _; rw [HR.out]; unfold rightB; rw [decide_eq_false g1]; rfl
    clear g1
    go_enter Tryz.func18, Tryz.ntmps18
    go_wp2_with fail
    go_ret
    exact ⟨by rw [HRV.out]; rfl, HW.out⟩
end Go.Proofs.YthpknfoahimopaaGreatDoor

set_option linter.unusedVariables false
set_option linter.unusedSimpArgs false
set_option linter.unnecessarySimpa false
namespace Go.Proofs.YthpknfoahimopaaGreatDoor
open Go.RowKit

theorem setCell_same {w : World} {B : Nat} {v : Value} {t : TypeId} (h : Box w B [v] t) : w.setCell ⟨B, 0, none⟩ v = w := by
  have h1 : w.heap[B]? = some (.cells #[v] t (0, 0)) := h
  have hb : Box (w.setCell ⟨B, 0, none⟩ v) B [v] t := h.put 0 v
  have hb1 : (w.setCell ⟨B, 0, none⟩ v).heap[B]? = some (.cells #[v] t (0, 0)) := hb
  have hh : (w.setCell ⟨B, 0, none⟩ v).heap = w.heap := by
    apply Array.ext_getElem?
    intro i
    by_cases hi : i = B
    · subst hi; rw [hb1, h1]
    · exact Below.heap_setCell w ⟨B, 0, none⟩ v i hi
  clear hb1 h1 hb h
  unfold World.setCell at hh ⊢
  cases w
  simp_all
set_option maxRecDepth 100000 in
set_option maxHeartbeats 4000000 in
theorem of_any {s t : ByteArray} {S : Nat} {w : World} (h : Box w S [.bool true] 41) : Calls Tryz.prog 20 #[.pointer (some ⟨S, 0, none⟩), .agg #[.string s, .string t], .int .i64 0] w fun e w' => e = .returned (.agg #[.string s, .string t]) ∧ Below w.heap.size w w' := by
  have HW := hide (W2.low w s t)
  have HA := hide (W2.a w s t)
  have HX := hide (W2.c w s t)
  have hs : Box (W2 w s t) S [.bool true] 41 := (h.next _).next _
  have hss := setCell_same hs
  have c0 := hs.cell 0
  have f0 := hs.free 0
  simp only [List.getElem?_cons_zero] at c0
  obtain ⟨d0, d1, _, _⟩ := HA.out.two
  obtain ⟨k0, k1, l0, l1⟩ := HX.out.two
  clear h hs
  go_enter Tryz.func20, Tryz.ntmps20
  go_wp2_with fail
  have HX2 : Hid (Box ((w.alloc (.cells #[.string s, .string t] 26)).alloc (.cells #[.string s, .string t] 26)) (w.heap.size + 1) [.string s, .string t] 26) := by
    have h5 := Box.new (w.alloc (.cells #[.string s, .string t] 26)) [.string s, .string t] 26
    rw [World.size_alloc] at h5
    exact h5
  obtain ⟨j0, j1, _, _⟩ := HX2.out.two
  exact bodyPost_ret (v := .agg #[.string s, .string t]) (by simp [results, Tryz.results20, go_sem, j0, j1]) rfl ⟨rfl, bnew (bnew (Below.refl _ _) _) _⟩
/-- Boxes of fractions, and the box of a sums where all went well. -/
def KeptS (w : World) (S : Nat) (W : World) (l : List (Nat × ByteArray × ByteArray)) : Prop := Kept w W l ∧ Box W S [.bool true] 41
section
variable {w W W' : World} {S : Nat} {l : List (Nat × ByteArray × ByteArray)}
theorem KeptS.start (h : Kept w W l) : KeptS w W.heap.size (W.alloc (.cells #[.bool true] 41)) l := ⟨⟨bnew h.1 _, fun x hx => (h.2 x hx).next _⟩, Box.new W [.bool true] _⟩
theorem KeptS.below (h : KeptS w S W l) (hb : Below W.heap.size W W') : KeptS w S W' l := ⟨h.1.below hb, h.2.below hb⟩
theorem KeptS.push (h : KeptS w S W l) (a b : ByteArray) : KeptS w S (W.alloc (.cells #[.string a, .string b] 26)) ((W.heap.size, a, b) :: l) := ⟨h.1.push a b, h.2.next _⟩
theorem KeptS.draw (h : KeptS w S W l) : KeptS w S W.drew l := ⟨h.1.draw, h.2.draw⟩
theorem KeptS.low (h : KeptS w S W l) : Below w.heap.size w W := h.1.1
theorem KeptS.at (h : KeptS w S W l) (A : Nat) (a b : ByteArray) (hx : (A, a, b) ∈ l) : W.cell? ⟨A, 0, none⟩ = some (.string a) ∧ W.cell? ⟨A, 1, none⟩ = some (.string b) ∧ W.frozen? ⟨A, 0, none⟩ = false ∧ W.frozen? ⟨A, 1, none⟩ = false := h.1.at A a b hx
theorem KeptS.get (h : KeptS w S W l) (A : Nat) (a b : ByteArray) (hx : (A, a, b) ∈ l) : W.cell? ⟨A, 0, none⟩ = some (.string a) ∧ W.cell? ⟨A, 1, none⟩ = some (.string b) := h.1.get A a b hx
theorem KeptS.lt (h : KeptS w S W l) (A : Nat) (a b : ByteArray) (hx : (A, a, b) ∈ l) : A < W.heap.size := (h.1.2 _ hx).lt
theorem KeptS.sums (h : KeptS w S W l) : Box W S [.bool true] 41 := h.2
theorem KeptS.ok (h : KeptS w S W l) : W.cell? ⟨S, 0, none⟩ = some (.bool true) := h.2.cell 0
end
theorem Kept.two (w : World) (s t u v : ByteArray) : Kept w (W2b w s t u v) [(w.heap.size + 1, u, v), (w.heap.size, s, t)] := by
  have h5 := ((Kept.nil w).push s t).push u v
  rw [World.size_alloc] at h5
  exact h5
end Go.Proofs.YthpknfoahimopaaGreatDoor

set_option linter.unusedVariables false
set_option linter.unusedSimpArgs false
set_option linter.unnecessarySimpa false
namespace Go.Proofs.YthpknfoahimopaaGreatDoor
open Go.RowKit

set_option maxRecDepth 100000 in
set_option maxHeartbeats 4000000 in
theorem lundoes_any (s t : List UInt8) (hs : s.length ≤ 140737488355328) (ht : t.length ≤ 140737488355328) (u v : List UInt8) (hu : u.length ≤ 140737488355328) (hv : v.length ≤ 140737488355328) {w : World} (htb : Tbl w) : Calls Tryz.prog 7 #[.agg #[.string (strN s), .string (strN t)], .agg #[.string (strN u), .string (strN v)]] w fun e w' => e = .returned (.bool true) ∧ Below w.heap.size w w' := by
  have HR1 : Hid (∀ w', Calls Tryz.prog 18 #[.agg #[.string (strN s), .string (strN t)]] w' fun e w2 => e = .returned (.bool (rightB s t)) ∧ Below w'.heap.size w' w2) := fun w' => right_any s t hs ht w'
  have HR2 : Hid (∀ w', Calls Tryz.prog 18 #[.agg #[.string (strN u), .string (strN v)]] w' fun e w2 => e = .returned (.bool (rightB u v)) ∧ Below w'.heap.size w' w2) := fun w' => right_any u v hu hv w'
  have HT := hide htb
  have HK := hide (Kept.two w (strN s) (strN t) (strN u) (strN v))
  have HO1 : Hid (rightB s t = true → ∃ x : Int × Int, s = txtI x.1 ∧ t = txtI x.2 ∧ FR 40 x) := rightB_ok
  have HO2 : Hid (rightB u v = true → ∃ x : Int × Int, u = txtI x.1 ∧ v = txtI x.2 ∧ FR 40 x) := rightB_ok
  have eqg := eqGuard_fr
  have eqs := eq_self
  have nes := neq_self
  have wz0 : IntKind.i64.wrap 0 = 0 := rfl
  clear hs ht hu hv htb
  generalize rightB s t = r1 at *
  generalize rightB u v = r2 at *
  cases r1
  · clear HO1 HO2
    generalize strN s = sp at *
    generalize strN t = sq at *
    generalize strN u = sr at *
    generalize strN v = ss at *
    go_enter Tryz.func7, Tryz.ntmps7
    go_wp2_with (first
      | (go_at_call 18; (with_reducible refine (HR1.out _).mono ?_); rintro ec wz ⟨rfl, hbz⟩; have HK := hide (HK.out.below hbz); obtain ⟨d0, d1, f0, f1⟩ := HK.out.at (w.heap.size) sp sq (by simp); obtain ⟨d2, d3, f2, f3⟩ := HK.out.at (w.heap.size + 1) sr ss (by simp); clear hbz)
      | (go_at_call 11; (with_reducible refine (awake_any (HT.out.below HK.out.low)).mono ?_); rintro ec wz ⟨rfl, hbz⟩; have HK := hide (HK.out.below hbz); clear hbz))
    go_ret
    exact ⟨rfl, HK.out.low⟩
  cases r2
  · clear HO1 HO2
    generalize strN s = sp at *
    generalize strN t = sq at *
    generalize strN u = sr at *
    generalize strN v = ss at *
    go_enter Tryz.func7, Tryz.ntmps7
    go_wp2_with (first
      | (go_at_call 18; have _t := HR1; (with_reducible refine (HR1.out _).mono ?_); rintro ec wz ⟨rfl, hbz⟩; have HK := hide (HK.out.below hbz); obtain ⟨d0, d1, f0, f1⟩ := HK.out.at (w.heap.size) sp sq (by simp); obtain ⟨d2, d3, f2, f3⟩ := HK.out.at (w.heap.size + 1) sr ss (by simp); clear HR1 _t hbz)
      | (go_at_call 18; (with_reducible refine (HR2.out _).mono ?_); rintro ec wz ⟨rfl, hbz⟩; have HK := hide (HK.out.below hbz); obtain ⟨d0, d1, f0, f1⟩ := HK.out.at (w.heap.size) sp sq (by simp); obtain ⟨d2, d3, f2, f3⟩ := HK.out.at (w.heap.size + 1) sr ss (by simp); clear hbz)
      | (go_at_call 11; (with_reducible refine (awake_any (HT.out.below HK.out.low)).mono ?_); rintro ec wz ⟨rfl, hbz⟩; have HK := hide (HK.out.below hbz); clear hbz))
    go_ret
    exact ⟨rfl, HK.out.low⟩
  obtain ⟨x, rfl, rfl, hx⟩ := HO1.out rfl
  obtain ⟨y, rfl, rfl, hy⟩ := HO2.out rfl
  clear HO1 HO2
  obtain ⟨hd, hsub⟩ := hx.sub hy (by omega)
  have HSUB := hide hsub
  have HADD : Hid (∀ w', Tbl w' → Calls Tryz.prog 21 #[frA (subF x y), frA y] w' fun e w2 => e = .returned (.tuple #[frA x, .int .i64 0]) ∧ Below w'.heap.size w' w2) := by
    have h5 := (hd.add hy (by omega)).2
    rw [subF_add hx.good.low hy.ne] at h5
    exact h5
  have HCM1 := hide (hx.cmp hy (by omega))
  have HCM2 : Hid (∀ w', Tbl w' → Calls Tryz.prog 40 #[frA y, frA x] w' fun e w2 => e = .returned (.tuple #[.int .i64 (-cmpF x y), .int .i64 0]) ∧ Below w'.heap.size w' w2) := by
    have h5 := hy.cmp hx (by omega)
    rw [cmpF_neg x y] at h5
    exact h5
  have HSG : Hid (∀ w', Calls Tryz.prog 42 #[.string (strN (txtI (subF x y).1))] w' fun e w2 => e = .returned (.tuple #[.int .i64 (cmpF x y), .int .i64 0]) ∧ Below w'.heap.size w' w2) := fun w' => by
    rw [← cmpF_sub hx.good.low.1 hy.good.low.1]
    exact isign_any hd.good.num w'
  have hg1 : -1 ≤ cmpF x y ∧ cmpF x y ≤ 1 := by unfold cmpF sgI; split; omega; split <;> omega
  have EQ : Hid (∀ w', (binOp .eql 26 (.agg #[.string (strN (txtI x.1)), .string (strN (txtI x.2))]) (.agg #[.string (strN (txtI y.1)), .string (strN (txtI y.2))])).run Tryz.prog w' = .ok (.bool (cmpF x y == 0)) w') := fun w' => by
    rw [eq_fr]
    congr 2
    have h5 := cmpF_zero hx.good.low hy.good.low
    by_cases hc : cmpF x y = 0
    · have e := h5.1 hc
      rw [hc, e]
      simp
    · have hne : ¬ x = y := fun e => hc (h5.2 e)
      rw [Bool.eq_false_iff.2 (by simpa using hc : (cmpF x y == 0) ≠ true)]
      refine decide_eq_false fun ⟨h1, h2⟩ => hne (Prod.ext ?_ ?_)
      · exact txtI_inj (strN_inj h1)
      · exact txtI_inj (strN_inj h2)
  have HDV : Hid (y.1 = 0 ∧ (∀ w', Tbl w' → Calls Tryz.prog 38 #[frA x, frA y] w' fun e w2 => e = .returned (frT ⟨#[]⟩ ⟨#[]⟩ 10) ∧ Below w'.heap.size w' w2) ∨
      y.1 ≠ 0 ∧ ((∀ w', Tbl w' → Calls Tryz.prog 38 #[frA x, frA y] w' fun e w2 => e = .returned (.tuple #[frA (divF x y), .int .i64 0]) ∧ Below w'.heap.size w' w2) ∧
        (∀ w', Tbl w' → Calls Tryz.prog 23 #[frA (divF x y), frA y] w' fun e w2 => e = .returned (.tuple #[frA x, .int .i64 0]) ∧ Below w'.heap.size w' w2))) := by
    by_cases h0 : y.1 = 0
    · refine .inl ⟨h0, fun w' h => ?_⟩
      have h6 : Good 0 y.2 := by rw [← h0]; exact hy.good
      have h5 := fdiv_zero hx.good h6 h
      rw [← h0] at h5
      exact h5
    · obtain ⟨hq, hdv⟩ := hx.div hy (by omega) h0
      refine .inr ⟨h0, hdv, ?_⟩
      have h5 := (hq.mul hy (by omega)).2
      rw [divF_mul hx.good.low hy.ne h0] at h5
      exact h5
  have HTZ : Hid ((y.1 = 0 → ((strN (txtI y.1)).toList == [48]) = true) ∧ (y.1 ≠ 0 → ((strN (txtI y.1)).toList == [48]) = false)) := ⟨fun h => by rw [strN_toList, h]; rfl, fun h => txtI_ne0 h⟩
  simp only [frA] at HSUB HADD HCM1 HCM2 HDV
  unfold frT at HDV
  generalize cmpF x y = g0 at *
  have wng : IntKind.i64.wrap (-g0) = -g0 := IntWalk.i64_in _ (by omega)
  generalize strN (txtI (subF x y).1) = z1 at *
  generalize strN (txtI (subF x y).2) = z2 at *
  generalize strN (txtI (divF x y).1) = t1 at *
  generalize strN (txtI (divF x y).2) = t2 at *
  generalize strN (txtI x.1) = sp at *
  generalize strN (txtI x.2) = sq at *
  generalize strN (txtI y.1) = sr at *
  generalize strN (txtI y.2) = ss at *
  generalize y.1 = y1 at *
  have eqab := EQ.out
  clear hx hy hd hsub hg1
  go_enter Tryz.func7, Tryz.ntmps7
  go_upto_region 3 with (first
    | (go_at_call 18; have _t := HR1; (with_reducible refine (HR1.out _).mono ?_); rintro ec wz ⟨rfl, hbz⟩; have HK := hide (HK.out.below hbz); obtain ⟨d0, d1, f0, f1⟩ := HK.out.at (w.heap.size) sp sq (by simp); obtain ⟨d2, d3, f2, f3⟩ := HK.out.at (w.heap.size + 1) sr ss (by simp); clear HR1 _t hbz)
    | (go_at_call 18; (with_reducible refine (HR2.out _).mono ?_); rintro ec wz ⟨rfl, hbz⟩; have HK := hide (HK.out.below hbz); obtain ⟨d0, d1, f0, f1⟩ := HK.out.at (w.heap.size) sp sq (by simp); obtain ⟨d2, d3, f2, f3⟩ := HK.out.at (w.heap.size + 1) sr ss (by simp); clear hbz))
  have HK := hide (KeptS.start HK.out)
  obtain ⟨S, hS⟩ : ∃ A, A = wz.heap.size := ⟨_, rfl⟩
  obtain ⟨W0, hW0⟩ : ∃ W, W = wz.alloc (.cells #[.bool true] 41) := ⟨_, rfl⟩
  go_upto_region 4 with fail
  rw [← hS, ← hW0] at HK ⊢
  clear hS hW0
  obtain ⟨d0, d1, f0, f1⟩ := HK.out.at (w.heap.size) sp sq (by simp); obtain ⟨d2, d3, f2, f3⟩ := HK.out.at (w.heap.size + 1) sr ss (by simp); have s0 := HK.out.ok
  go_upto_region 5 with (first
    | (go_at_call 35; (with_reducible refine (HSUB.out _ (HT.out.below HK.out.low)).mono ?_); rintro ec wz ⟨rfl, hbz⟩; have HK := hide (HK.out.below hbz); obtain ⟨d0, d1, f0, f1⟩ := HK.out.at (w.heap.size) sp sq (by simp); obtain ⟨d2, d3, f2, f3⟩ := HK.out.at (w.heap.size + 1) sr ss (by simp); have s0 := HK.out.ok; clear hbz)
    | (go_at_call 20; (with_reducible refine (of_any HK.out.sums).mono ?_); rintro ec w1 ⟨rfl, hbz⟩; have HK := hide (HK.out.below hbz); obtain ⟨d0, d1, f0, f1⟩ := HK.out.at (w.heap.size) sp sq (by simp); obtain ⟨d2, d3, f2, f3⟩ := HK.out.at (w.heap.size + 1) sr ss (by simp); have s0 := HK.out.ok; clear hbz))
  have o0_1 : w.heap.size < w1.heap.size := HK.out.lt (w.heap.size) sp sq (by simp)
  have o1_1 : w.heap.size + 1 < w1.heap.size := HK.out.lt (w.heap.size + 1) sr ss (by simp)
  have g1 : w.heap.size ≤ w1.heap.size := HK.out.low.size
  have HK := hide (HK.out.push z1 z2)
  obtain ⟨A1, hA1⟩ : ∃ A, A = w1.heap.size := ⟨_, rfl⟩
  obtain ⟨W1, hW1⟩ : ∃ W, W = w1.alloc (.cells #[.string z1, .string z2] 26) := ⟨_, rfl⟩
  rw [← hA1, ← hW1] at HK ⊢
  rw [← hA1] at o0_1
  rw [← hA1] at o1_1
  rw [← hA1] at g1
  clear hA1 hW1
  obtain ⟨d0, d1, f0, f1⟩ := HK.out.at (w.heap.size) sp sq (by simp); obtain ⟨d2, d3, f2, f3⟩ := HK.out.at (w.heap.size + 1) sr ss (by simp); obtain ⟨d4, d5, f4, f5⟩ := HK.out.at (A1) z1 z2 (by simp); have s0 := HK.out.ok
  go_upto_region 6 with (first
    | (go_at_call 21; (with_reducible refine (HADD.out _ (HT.out.below HK.out.low)).mono ?_); rintro ec wz ⟨rfl, hbz⟩; have HK := hide (HK.out.below hbz); obtain ⟨d0, d1, f0, f1⟩ := HK.out.at (w.heap.size) sp sq (by simp); obtain ⟨d2, d3, f2, f3⟩ := HK.out.at (w.heap.size + 1) sr ss (by simp); obtain ⟨d4, d5, f4, f5⟩ := HK.out.at (A1) z1 z2 (by simp); have s0 := HK.out.ok; clear hbz)
    | (go_at_call 20; (with_reducible refine (of_any HK.out.sums).mono ?_); rintro ec w2 ⟨rfl, hbz⟩; have HK := hide (HK.out.below hbz); obtain ⟨d0, d1, f0, f1⟩ := HK.out.at (w.heap.size) sp sq (by simp); obtain ⟨d2, d3, f2, f3⟩ := HK.out.at (w.heap.size + 1) sr ss (by simp); obtain ⟨d4, d5, f4, f5⟩ := HK.out.at (A1) z1 z2 (by simp); have s0 := HK.out.ok; clear hbz))
  have o0_2 : w.heap.size < w2.heap.size := HK.out.lt (w.heap.size) sp sq (by simp)
  have o1_2 : w.heap.size + 1 < w2.heap.size := HK.out.lt (w.heap.size + 1) sr ss (by simp)
  have o2_2 : A1 < w2.heap.size := HK.out.lt A1 z1 z2 (by simp)
  have g2 : w.heap.size ≤ w2.heap.size := HK.out.low.size
  have HK := hide (HK.out.push sp sq)
  obtain ⟨A2, hA2⟩ : ∃ A, A = w2.heap.size := ⟨_, rfl⟩
  obtain ⟨W2, hW2⟩ : ∃ W, W = w2.alloc (.cells #[.string sp, .string sq] 26) := ⟨_, rfl⟩
  rw [← hA2, ← hW2] at HK ⊢
  rw [← hA2] at o0_2
  rw [← hA2] at o1_2
  rw [← hA2] at o2_2
  rw [← hA2] at g2
  clear hA2 hW2
  obtain ⟨d0, d1, f0, f1⟩ := HK.out.at (w.heap.size) sp sq (by simp); obtain ⟨d2, d3, f2, f3⟩ := HK.out.at (w.heap.size + 1) sr ss (by simp); obtain ⟨d4, d5, f4, f5⟩ := HK.out.at (A1) z1 z2 (by simp); obtain ⟨d6, d7, f6, f7⟩ := HK.out.at (A2) sp sq (by simp); have s0 := HK.out.ok
  go_upto_region 9 with (first
    | (go_at_call 40; (with_reducible refine (HCM1.out _ (HT.out.below HK.out.low)).mono ?_); rintro ec wz ⟨rfl, hbz⟩; have HK := hide (HK.out.below hbz); obtain ⟨d0, d1, f0, f1⟩ := HK.out.at (w.heap.size) sp sq (by simp); obtain ⟨d2, d3, f2, f3⟩ := HK.out.at (w.heap.size + 1) sr ss (by simp); obtain ⟨d4, d5, f4, f5⟩ := HK.out.at (A1) z1 z2 (by simp); obtain ⟨d6, d7, f6, f7⟩ := HK.out.at (A2) sp sq (by simp); have s0 := HK.out.ok; clear hbz)
    | (go_at_call 42; (with_reducible refine (HSG.out _).mono ?_); rintro ec wz ⟨rfl, hbz⟩; have HK := hide (HK.out.below hbz); obtain ⟨d0, d1, f0, f1⟩ := HK.out.at (w.heap.size) sp sq (by simp); obtain ⟨d2, d3, f2, f3⟩ := HK.out.at (w.heap.size + 1) sr ss (by simp); obtain ⟨d4, d5, f4, f5⟩ := HK.out.at (A1) z1 z2 (by simp); obtain ⟨d6, d7, f6, f7⟩ := HK.out.at (A2) sp sq (by simp); have s0 := HK.out.ok; clear hbz)
    | (go_at_call 40; (with_reducible refine (HCM2.out _ (HT.out.below HK.out.low)).mono ?_); rintro ec wz ⟨rfl, hbz⟩; have HK := hide (HK.out.below hbz); obtain ⟨d0, d1, f0, f1⟩ := HK.out.at (w.heap.size) sp sq (by simp); obtain ⟨d2, d3, f2, f3⟩ := HK.out.at (w.heap.size + 1) sr ss (by simp); obtain ⟨d4, d5, f4, f5⟩ := HK.out.at (A1) z1 z2 (by simp); obtain ⟨d6, d7, f6, f7⟩ := HK.out.at (A2) sp sq (by simp); have s0 := HK.out.ok; clear hbz))
  go_upto_region 11 with fail
  rcases HDV.out with ⟨h0, hdv⟩ | ⟨h0, hdv, hmul⟩
  · have tz := HTZ.out.1 h0
    have HD1 := hide hdv
    clear hdv h0 HDV HTZ
    go_upto_region 12 with (go_at_call 38; (with_reducible refine (HD1.out _ (HT.out.below HK.out.low)).mono ?_); rintro ec w4 ⟨rfl, hbz⟩; have HK := hide (HK.out.below hbz); obtain ⟨d0, d1, f0, f1⟩ := HK.out.at (w.heap.size) sp sq (by simp); obtain ⟨d2, d3, f2, f3⟩ := HK.out.at (w.heap.size + 1) sr ss (by simp); obtain ⟨d4, d5, f4, f5⟩ := HK.out.at (A1) z1 z2 (by simp); obtain ⟨d6, d7, f6, f7⟩ := HK.out.at (A2) sp sq (by simp); have s0 := HK.out.ok; clear hbz)
    have o0_3 : w.heap.size < w4.heap.size := HK.out.lt (w.heap.size) sp sq (by simp)
    have o1_3 : w.heap.size + 1 < w4.heap.size := HK.out.lt (w.heap.size + 1) sr ss (by simp)
    have o2_3 : A1 < w4.heap.size := HK.out.lt A1 z1 z2 (by simp)
    have o3_3 : A2 < w4.heap.size := HK.out.lt A2 sp sq (by simp)
    have g3 : w.heap.size ≤ w4.heap.size := HK.out.low.size
    have HK := hide (HK.out.push ⟨#[]⟩ ⟨#[]⟩)
    obtain ⟨A3, hA3⟩ : ∃ A, A = w4.heap.size := ⟨_, rfl⟩
    obtain ⟨W3, hW3⟩ : ∃ W, W = w4.alloc (.cells #[.string ⟨#[]⟩, .string ⟨#[]⟩] 26) := ⟨_, rfl⟩
    rw [← hA3, ← hW3] at HK ⊢
    rw [← hA3] at o0_3
    rw [← hA3] at o1_3
    rw [← hA3] at o2_3
    rw [← hA3] at o3_3
    rw [← hA3] at g3
    clear hA3 hW3
    obtain ⟨d0, d1, f0, f1⟩ := HK.out.at (w.heap.size) sp sq (by simp); obtain ⟨d2, d3, f2, f3⟩ := HK.out.at (w.heap.size + 1) sr ss (by simp); obtain ⟨d4, d5, f4, f5⟩ := HK.out.at (A1) z1 z2 (by simp); obtain ⟨d6, d7, f6, f7⟩ := HK.out.at (A2) sp sq (by simp); obtain ⟨d8, d9, f8, f9⟩ := HK.out.at (A3) ⟨#[]⟩ ⟨#[]⟩ (by simp); have s0 := HK.out.ok
    go_wp2_with (go_at_call 11; (with_reducible refine (awake_any (HT.out.below HK.out.low)).mono ?_); rintro ec wz ⟨rfl, hbz⟩; have HK := hide (HK.out.below hbz); clear hbz)
    go_ret
    exact ⟨rfl, HK.out.low⟩
  · have tz := HTZ.out.2 h0
    have HD1 := hide hdv
    have HM1 := hide hmul
    clear hdv hmul h0 HDV HTZ
    go_upto_region 12 with (go_at_call 38; (with_reducible refine (HD1.out _ (HT.out.below HK.out.low)).mono ?_); rintro ec w4 ⟨rfl, hbz⟩; have HK := hide (HK.out.below hbz); obtain ⟨d0, d1, f0, f1⟩ := HK.out.at (w.heap.size) sp sq (by simp); obtain ⟨d2, d3, f2, f3⟩ := HK.out.at (w.heap.size + 1) sr ss (by simp); obtain ⟨d4, d5, f4, f5⟩ := HK.out.at (A1) z1 z2 (by simp); obtain ⟨d6, d7, f6, f7⟩ := HK.out.at (A2) sp sq (by simp); have s0 := HK.out.ok; clear hbz)
    have o0_3 : w.heap.size < w4.heap.size := HK.out.lt (w.heap.size) sp sq (by simp)
    have o1_3 : w.heap.size + 1 < w4.heap.size := HK.out.lt (w.heap.size + 1) sr ss (by simp)
    have o2_3 : A1 < w4.heap.size := HK.out.lt A1 z1 z2 (by simp)
    have o3_3 : A2 < w4.heap.size := HK.out.lt A2 sp sq (by simp)
    have g3 : w.heap.size ≤ w4.heap.size := HK.out.low.size
    have HK := hide (HK.out.push t1 t2)
    obtain ⟨A3, hA3⟩ : ∃ A, A = w4.heap.size := ⟨_, rfl⟩
    obtain ⟨W3, hW3⟩ : ∃ W, W = w4.alloc (.cells #[.string t1, .string t2] 26) := ⟨_, rfl⟩
    rw [← hA3, ← hW3] at HK ⊢
    rw [← hA3] at o0_3
    rw [← hA3] at o1_3
    rw [← hA3] at o2_3
    rw [← hA3] at o3_3
    rw [← hA3] at g3
    clear hA3 hW3
    obtain ⟨d0, d1, f0, f1⟩ := HK.out.at (w.heap.size) sp sq (by simp); obtain ⟨d2, d3, f2, f3⟩ := HK.out.at (w.heap.size + 1) sr ss (by simp); obtain ⟨d4, d5, f4, f5⟩ := HK.out.at (A1) z1 z2 (by simp); obtain ⟨d6, d7, f6, f7⟩ := HK.out.at (A2) sp sq (by simp); obtain ⟨d8, d9, f8, f9⟩ := HK.out.at (A3) t1 t2 (by simp); have s0 := HK.out.ok
    go_upto_region 15 with (go_at_call 23; (with_reducible refine (HM1.out _ (HT.out.below HK.out.low)).mono ?_); rintro ec w5 ⟨rfl, hbz⟩; have HK := hide (HK.out.below hbz); obtain ⟨d0, d1, f0, f1⟩ := HK.out.at (w.heap.size) sp sq (by simp); obtain ⟨d2, d3, f2, f3⟩ := HK.out.at (w.heap.size + 1) sr ss (by simp); obtain ⟨d4, d5, f4, f5⟩ := HK.out.at (A1) z1 z2 (by simp); obtain ⟨d6, d7, f6, f7⟩ := HK.out.at (A2) sp sq (by simp); obtain ⟨d8, d9, f8, f9⟩ := HK.out.at (A3) t1 t2 (by simp); have s0 := HK.out.ok; clear hbz)
    have o0_4 : w.heap.size < w5.heap.size := HK.out.lt (w.heap.size) sp sq (by simp)
    have o1_4 : w.heap.size + 1 < w5.heap.size := HK.out.lt (w.heap.size + 1) sr ss (by simp)
    have o2_4 : A1 < w5.heap.size := HK.out.lt A1 z1 z2 (by simp)
    have o3_4 : A2 < w5.heap.size := HK.out.lt A2 sp sq (by simp)
    have o4_4 : A3 < w5.heap.size := HK.out.lt A3 t1 t2 (by simp)
    have g4 : w.heap.size ≤ w5.heap.size := HK.out.low.size
    have HK := hide (HK.out.push sp sq)
    obtain ⟨A4, hA4⟩ : ∃ A, A = w5.heap.size := ⟨_, rfl⟩
    obtain ⟨W4, hW4⟩ : ∃ W, W = w5.alloc (.cells #[.string sp, .string sq] 26) := ⟨_, rfl⟩
    rw [← hA4, ← hW4] at HK ⊢
    rw [← hA4] at o0_4
    rw [← hA4] at o1_4
    rw [← hA4] at o2_4
    rw [← hA4] at o3_4
    rw [← hA4] at o4_4
    rw [← hA4] at g4
    clear hA4 hW4
    obtain ⟨d0, d1, f0, f1⟩ := HK.out.at (w.heap.size) sp sq (by simp); obtain ⟨d2, d3, f2, f3⟩ := HK.out.at (w.heap.size + 1) sr ss (by simp); obtain ⟨d4, d5, f4, f5⟩ := HK.out.at (A1) z1 z2 (by simp); obtain ⟨d6, d7, f6, f7⟩ := HK.out.at (A2) sp sq (by simp); obtain ⟨d8, d9, f8, f9⟩ := HK.out.at (A3) t1 t2 (by simp); obtain ⟨d10, d11, f10, f11⟩ := HK.out.at (A4) sp sq (by simp); have s0 := HK.out.ok
    go_wp2_with (go_at_call 11; (with_reducible refine (awake_any (HT.out.below HK.out.low)).mono ?_); rintro ec wz ⟨rfl, hbz⟩; have HK := hide (HK.out.below hbz); clear hbz)
    go_ret
    exact ⟨rfl, HK.out.low⟩
end Go.Proofs.YthpknfoahimopaaGreatDoor

set_option linter.unusedVariables false
set_option linter.unusedSimpArgs false
namespace Go.Proofs.YthpknfoahimopaaGreatDoor
open Go.RowKit Go.ChangeShapes Go.WideShapes Go.ChangeAt Go.Deep

theorem fractionUndoes_tbl {W : World} (hL : laidMetH Tryz.prog Rows.fractionUndoesRow.laid W) : Tbl W := by
  have h1 : laidMet Tryz.prog Rows.fractionUndoesRow.laid W := by
    rw [MakeChecks.laidMetH_plain _ _ _ (by kernel_rfl)] at hL
    exact hL
  exact tbl_of_laid (by kernel_rfl) h1
set_option maxRecDepth 100000 in
theorem fractionUndoes_lifted (os : Os) (started : os.Started) (H : Type) (enc : TypeId × Value → H) :
    ReturnsInHanded {} Tryz.checked os 7 .any (fun w args => (Rows.fractionUndoesSpec.pre enc Tryz.prog Tryz.f7 Rows.fractionUndoesRow.domain false w args ∧ laidMetH Tryz.prog Rows.fractionUndoesRow.laid w) ∧ sizedMet enc Tryz.prog Tryz.f7 (OpenSpec.ofChange Rows.fractionUndoesSpec) false w args)
      (Rows.fractionUndoesSpec.post enc Tryz.prog Tryz.f7 false true false false) := by
  refine returnsInHanded_of_change_and (C := Tryz.checked) (X := fun w _ => laidMetH Tryz.prog Rows.fractionUndoesRow.laid w) (fun _ _ _ hh h => h.of_heap hh) own_knob started (by kernel_rfl) Tryz.func7
    (ChangeSpec.witness_shaped (enc := enc) (C := Tryz.checked) (os := os) (X := fun w _ => laidMetH Tryz.prog Rows.fractionUndoesRow.laid w) false (World.laidAll Tryz.prog os Rows.fractionUndoesRow.laid) #[.agg #[.string ⟨#[]⟩, .string ⟨#[]⟩], .agg #[.string ⟨#[]⟩, .string ⟨#[]⟩]] 8 (World.laidAll_os _ _ _)
      (World.shaped_of_ZipB (by kernel_rfl) (by kernel_rfl)) (by kernel_rfl) (by kernel_rfl) (by kernel_rfl)
      (by rw [MakeChecks.laidMetH_plain _ _ _ (by kernel_rfl)]; exact laidMet_laidAll _ (by kernel_rfl) (by kernel_rfl))) ?_
  intro W base args ds gs before hval0 hW _ hsz hL _
  have hval : ∀ (j : Nat) t v, Tryz.f7.params[j]? = some t → args[j]? = some v → Value.okWide Tryz.prog W .any base t v := hval0
  have hW' := hW
  obtain ⟨p, q, hA0, hV, rfl, _, _⟩ := hW
  have hA : DataW.TrodAll enc Tryz.prog W 0 (fun _ => true) true Tryz.f7.params.toList args.toList ds p := hA0
  rw [Tryz.params7] at hA hval hsz
  obtain ⟨v0, v1, d0, d1, p0, p1, rfl, rfl, rfl, h0, h1⟩ := trodAll_two hA
  obtain ⟨rfl, rfl⟩ := trodVars_none hV
  have HTB := fractionUndoes_tbl hL
  have hsz2 := hsz
  replace hsz2 : (DataW.weightsEach Tryz.prog [26, 26] [d0, d1]).all (· ≤ reachBytes) = true := hsz
  simp only [DataW.weightsEach, List.append_nil, List.all_append, Bool.and_eq_true] at hsz2
  have h0k := h0
  have h1k := h1
  obtain ⟨l0, m0, rfl, b0, c0⟩ := open_fr (hval 0 26 v0 rfl rfl) h0 hsz2.1
  obtain ⟨l1, m1, rfl, b1, c1⟩ := open_fr (hval 1 26 v1 rfl rfl) h1 hsz2.2
  simp only [List.append_nil] at hW'
  have hlt0 : ∀ y ∈ p0, y.block < W.heap.size := fun y hy => by simpa using hW'.lt y (by simp [hy])
  have hlt1 : ∀ y ∈ p1, y.block < W.heap.size := fun y hy => by simpa using hW'.lt y (by simp [hy])
  refine (lundoes_any l0 m0 b0 c0 l1 m1 b1 c1 HTB).mono fun e W' ⟨he, hn⟩ => ?_
  subst he
  exact ⟨_, rfl, _, _, _, [], _, [], hW', trodAll_mk1 (shut_bool Tryz.underlying4 true), trodAll_mk2 (Below.trod laid_out (by kernel_rfl) (of_decide_eq_true (by kernel_rfl)) h0k hn hlt0) (Below.trod laid_out (by kernel_rfl) (of_decide_eq_true (by kernel_rfl)) h1k hn hlt1), rfl, hn.frame _, fun h => by cases h⟩

theorem fractionUndoes_row : Rows.FractionUndoesSaid :=
  OpenClaim.holds_of_wide 7 Tryz.f7 rfl rfl rfl rfl rfl rfl rfl ⟨rfl, rfl, rfl, rfl, rfl⟩ rfl rfl rfl rfl rfl (by kernel_rfl) Tryz.func7 (by kernel_rfl)
    (of_decide_eq_true (by kernel_rfl)) (by unfold Func.isWrapper; first | (rw [if_pos (by decide +kernel)]; kernel_rfl) | (rw [if_neg (by decide +kernel)]; exact ⟨rfl, rfl⟩))
    (fun os started H enc _ => fractionUndoes_lifted os started H enc)
theorem fractionUndoes_holds : Rows.FractionUndoesCardSaid :=
  Claim7.holds_tied_plain_at .later [] [.data, .data, .data, .sentinel, .sentinel] true (true, "b82a1295ea715ae845548bcfbe437ee53315b98a501120c16e571b4cc909fde4") true
    fractionUndoes_row (fun _ h => by cases h) (by kernel_rfl) (fun _ h => by cases h) fractionUndoes_row_tie rfl ⟨rfl, rfl⟩ (by kernel_rfl) rfl
    (fun f fn hf hfn => by
      obtain rfl : f = 7 := Option.some.inj ((show Tryz.prog.funcNamed "sandpile/sandpilelaw02.FractionUndoes" = some 7 by kernel_rfl).symm.trans hf) |>.symm
      obtain rfl : fn = Tryz.f7 := (Option.some.inj (Tryz.func7.symm.trans hfn)).symm
      exact ⟨by kernel_rfl, fun j t ht => by
        rw [Tryz.params7] at ht
        have hm : t ∈ [26, 26] := by simpa using Array.mem_of_getElem? ht
        have hall : ([26, 26].all fun u => !Tryz.prog.wantsStandIn u) = true := by kernel_rfl
        exact (show Tryz.prog.wantsStandIn t = false by simpa using List.all_eq_true.1 hall t hm)⟩)
    (by kernel_rfl)
end Go.Proofs.YthpknfoahimopaaGreatDoor

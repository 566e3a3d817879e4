/-
  FractionRing: the row, and its card tied to the program's text (what start-up code lays). Printed by mkFrEnd.py.
  law02: FractionRing, the walk. Printed by mkLawRin.py.
  law02: FractionRing's two closures. Printed by mkLawCl.py.
  law02: sums.of where all went well.
  law02: short fractions, and what the package does with them; right.
-/
import Derived.Test.YthpknfoahimopaaGreatDoorF5
import Derived.Test.YthpknfoahimopaaGreatDoorRows
import Derived.Test.YthpknfoahimopaaGreatDoorCards
import Derived.Test.YthpknfoahimopaaGreatDoorTie
import Derived.Handed
import Derived.Lay
import Derived.SevenTiedAt
import Derived.MakeChecks

set_option linter.unusedVariables false
set_option linter.unusedSimpArgs false
set_option linter.unnecessarySimpa false
namespace Go.Proofs.YthpknfoahimopaaGreatDoor
open Go.RowKit

/-- A number of at most k digits. -/
def D (k : Nat) (z : Int) : Prop := (dgs z.natAbs).length ≤ k
theorem D.mono {j k : Nat} {z : Int} (h : D j z) (hk : j ≤ k) : D k z := Nat.le_trans h hk
theorem D.mul {j k : Nat} {x y : Int} (hx : D j x) (hy : D k y) : D (j + k) (x * y) := by
  unfold D at *
  rw [Int.natAbs_mul]
  have h1 := dgs_mul x.natAbs y.natAbs
  omega
theorem D.neg {k : Nat} {z : Int} (h : D k z) : D k (-z) := by unfold D; rw [Int.natAbs_neg]; exact h
theorem D.add {k : Nat} {x y : Int} (hx : D k x) (hy : D k y) : D (k + 1) (x + y) := Nat.le_trans (dgs_mono (Int.natAbs_add_le x y)) (dgs_add hx hy)
theorem D.sub {k : Nat} {x y : Int} (hx : D k x) (hy : D k y) : D (k + 1) (x - y) := by rw [Int.sub_eq_add_neg]; exact hx.add hy.neg
theorem D.lim {k : Nat} {z : Int} (h : D k z) (hk : k ≤ 1023) : Lim z := by
  have h1 := len_dgs z.natAbs
  unfold D at h
  show (txtN z.natAbs).length ≤ 1024
  omega
theorem D.fdiv {k : Nat} {x y : Int} (h : D k x) (hy : y ≠ 0) : D k (x.fdiv y) := Nat.le_trans (dgs_mono (fdiv_abs_le hy)) h
theorem lowG_ne {n d : Int} (h0 : d ≠ 0) : lowG n d ≠ 0 := by
  have hg0 : 0 < n.gcd d := Int.gcd_pos_of_ne_zero_right n h0
  unfold lowG
  split <;> omega
/-- A right fraction, its numbers of at most k digits. -/
structure FR (k : Nat) (x : Int × Int) : Prop where
  good : Good x.1 x.2
  num : D k x.1
  den : D k x.2
theorem FR.low {k : Nat} {n d : Int} (hn : D k n) (hd : D k d) (h0 : d ≠ 0) (hk : k ≤ 1023) : FR k (lowF n d) :=
  ⟨good_low (hn.lim hk) (hd.lim hk) h0, hn.fdiv (lowG_ne h0), hd.fdiv (lowG_ne h0)⟩
theorem FR.den0 {j k : Nat} {x y : Int × Int} (hx : FR j x) (hy : FR k y) : x.2 * y.2 ≠ 0 := hx.good.mul0 hy.good
theorem FR.ne {k : Nat} {x : Int × Int} (hx : FR k x) : x.2 ≠ 0 := by have := hx.good.low.1; omega
theorem comb_of {n m o d : Int} (h1 : Lim n) (h2 : Lim m) (h3 : Lim o) (h4 : Lim d) : combK n m o d = true := by
  unfold combK doE
  rw [decide_eq_true h1, decide_eq_true h2, decide_eq_true h3, decide_eq_true h4]
  rfl
theorem do_of {n d : Int} (h1 : Lim n) (h4 : Lim d) : doE (doE true n) d = true := by
  unfold doE
  rw [decide_eq_true h1, decide_eq_true h4]
  rfl
/-- The value of a fraction. -/
abbrev frA (x : Int × Int) : Value := .agg #[.string (strN (txtI x.1)), .string (strN (txtI x.2))]
theorem FR.cross {j k : Nat} {x y : Int × Int} (hx : FR j x) (hy : FR k y) : D (j + k) (x.1 * y.2) ∧ D (j + k) (y.1 * x.2) ∧ D (j + k) (x.2 * y.2) :=
  ⟨hx.num.mul hy.den, by rw [Nat.add_comm]; exact hy.num.mul hx.den, hx.den.mul hy.den⟩
theorem FR.add {j k : Nat} {x y : Int × Int} (hx : FR j x) (hy : FR k y) (h : j + k ≤ 1000) : FR (j + k + 1) (addF x y) ∧ ∀ w, Tbl w → Calls Tryz.prog 21 #[frA x, frA y] w fun e w' => e = .returned (.tuple #[frA (addF x y), .int .i64 0]) ∧ Below w.heap.size w w' := by
  obtain ⟨c1, c2, c3⟩ := hx.cross hy
  refine ⟨FR.low (c1.add c2) (c3.mono (by omega)) (hx.den0 hy) (by omega), fun w ht => ?_⟩
  have h5 := fadd_ok hx.good hy.good ht
  rw [comb_of (c1.lim (by omega)) (c2.lim (by omega)) ((c1.add c2).lim (by omega)) (c3.lim (by omega))] at h5
  exact h5
theorem FR.sub {j k : Nat} {x y : Int × Int} (hx : FR j x) (hy : FR k y) (h : j + k ≤ 1000) : FR (j + k + 1) (subF x y) ∧ ∀ w, Tbl w → Calls Tryz.prog 35 #[frA x, frA y] w fun e w' => e = .returned (.tuple #[frA (subF x y), .int .i64 0]) ∧ Below w.heap.size w w' := by
  obtain ⟨c1, c2, c3⟩ := hx.cross hy
  refine ⟨FR.low (c1.sub c2) (c3.mono (by omega)) (hx.den0 hy) (by omega), fun w ht => ?_⟩
  have h5 := fsub_ok hx.good hy.good ht
  rw [comb_of (c1.lim (by omega)) (c2.lim (by omega)) ((c1.sub c2).lim (by omega)) (c3.lim (by omega))] at h5
  exact h5
theorem FR.mul {j k : Nat} {x y : Int × Int} (hx : FR j x) (hy : FR k y) (h : j + k ≤ 1000) : FR (j + k) (mulF x y) ∧ ∀ w, Tbl w → Calls Tryz.prog 23 #[frA x, frA y] w fun e w' => e = .returned (.tuple #[frA (mulF x y), .int .i64 0]) ∧ Below w.heap.size w w' := by
  have c1 := hx.num.mul hy.num
  have c3 := hx.den.mul hy.den
  refine ⟨FR.low c1 c3 (hx.den0 hy) (by omega), fun w ht => ?_⟩
  have h5 := fmul_ok hx.good hy.good ht
  rw [do_of (c1.lim (by omega)) (c3.lim (by omega))] at h5
  exact h5
theorem FR.div {j k : Nat} {x y : Int × Int} (hx : FR j x) (hy : FR k y) (h : j + k ≤ 1000) (h0 : y.1 ≠ 0) : FR (j + k) (divF x y) ∧ ∀ w, Tbl w → Calls Tryz.prog 38 #[frA x, frA y] w fun e w' => e = .returned (.tuple #[frA (divF x y), .int .i64 0]) ∧ Below w.heap.size w w' := by
  have c1 := hx.num.mul hy.den
  have c3 := hx.den.mul hy.num
  refine ⟨FR.low c1 c3 (Int.mul_ne_zero hx.ne h0) (by omega), fun w ht => ?_⟩
  have h5 := fdiv_ok hx.good hy.good h0 ht
  rw [do_of (c1.lim (by omega)) (c3.lim (by omega))] at h5
  exact h5
theorem FR.cmp {j k : Nat} {x y : Int × Int} (hx : FR j x) (hy : FR k y) (h : j + k ≤ 1000) : ∀ w, Tbl w → Calls Tryz.prog 40 #[frA x, frA y] w fun e w' => e = .returned (.tuple #[.int .i64 (cmpF x y), .int .i64 0]) ∧ Below w.heap.size w w' := by
  obtain ⟨c1, c2, c3⟩ := hx.cross hy
  intro w ht
  have h5 := fcmp_ok hx.good hy.good ht
  unfold cmpV at h5
  rw [do_of (c1.lim (by omega)) (c2.lim (by omega))] at h5
  exact h5
theorem FR.check {k : Nat} {x : Int × Int} (hx : FR k x) : ∀ w, Tbl w → Calls Tryz.prog 25 #[frA x] w fun e w' => e = .returned (.int .i64 0) ∧ Below w.heap.size w w' := fun w ht => hx.good.check ht
theorem len40 {l : List UInt8} {z : Int} (hl : l = txtI z) (h : l.length ≤ 40) : D 40 z := by
  subst hl
  have h1 := dgs_le_len z.natAbs
  have h2 : (txtN z.natAbs).length ≤ (txtI z).length := by
    unfold txtI
    split
    · simp
    · exact Nat.le_refl _
  unfold D
  omega
/-- A short, right fraction. -/
def rightB (l m : List UInt8) : Bool := decide (l.length ≤ 40) && (decide (m.length ≤ 40) && (chkF l m == 0))
theorem rightB_ok {l m : List UInt8} (h : rightB l m = true) : ∃ x : Int × Int, l = txtI x.1 ∧ m = txtI x.2 ∧ FR 40 x := by
  unfold rightB at h
  simp only [Bool.and_eq_true, decide_eq_true_eq, beq_iff_eq] at h
  obtain ⟨h1, h2, h3⟩ := h
  obtain ⟨p, q, e1, e2, hg⟩ := chkF_good h3
  exact ⟨(p, q), e1, e2, hg, len40 e1 h1, len40 e2 h2⟩
set_option maxRecDepth 100000 in
set_option maxHeartbeats 4000000 in
theorem right_any (l m : List UInt8) (hl : l.length ≤ 140737488355328) (hm : m.length ≤ 140737488355328) (w : World) : Calls Tryz.prog 18 #[.agg #[.string (strN l), .string (strN m)]] w fun e w' => e = .returned (.bool (rightB l m)) ∧ Below w.heap.size w w' := by
  have H1 : Hid (∀ w', Calls Tryz.prog 33 #[.agg #[.string (strN l), .string (strN m)]] w' fun e w2 => e = .returned (.int .i64 (chkF l m)) ∧ Below w'.heap.size w' w2) := fun w' => rfcheck_any l m hl hm
  have hz1 : (strN l).size = l.length := rfl
  have hz2 : (strN m).size = m.length := rfl
  have HW : Hid (Below w.heap.size w (w.alloc (.cells #[.string (strN l), .string (strN m)] 26))) := bnew (Below.refl _ _) _
  obtain ⟨r, hr⟩ : ∃ r, r = rightB l m := ⟨_, rfl⟩
  rw [← hr]
  have HR := hide hr
  clear hr hl hm
  by_cases g1 : l.length ≤ 40
  · have q1 : decide ((l.length : Int) ≤ 40) = true := by simp; omega
    by_cases g2 : m.length ≤ 40
    · have q2 : decide ((m.length : Int) ≤ 40) = true := by simp; omega
      have HRV : Hid (r = (chkF l m == 0)) := by show _ = _; rw [HR.out]; unfold rightB; rw [decide_eq_true g1, decide_eq_true g2]; rfl
      generalize chkF l m = e at *
      clear g1 g2
      go_enter Tryz.func18, Tryz.ntmps18
      go_wp2_with (go_at_call 33; (with_reducible refine (H1.out _).mono ?_); rintro ec w5 ⟨rfl, hbz⟩; have HB := hide (below_then HW.out hbz); clear hbz)
      go_ret
      exact ⟨by rw [HRV.out]; rfl, HB.out⟩
    · have q2 : decide ((m.length : Int) ≤ 40) = false := by simp; omega
      have HRV : Hid (r = false) := by show _ = _; rw [HR.out]; unfold rightB; rw [decide_eq_true g1, decide_eq_false g2]; rfl
      clear g1 g2
      go_enter Tryz.func18, Tryz.ntmps18
      go_wp2_with fail
      go_ret
      exact ⟨by rw [HRV.out]; rfl, HW.out⟩
  · have q1 : decide ((l.length : Int) ≤ 40) = false := by simp; omega
    have HRV : Hid (r = false) := by show _ = _; rw [HR.out]; unfold rightB; rw [decide_eq_false g1]; rfl
    clear g1
    go_enter Tryz.func18, Tryz.ntmps18
    go_wp2_with fail
    go_ret
    exact ⟨by rw [HRV.out]; rfl, HW.out⟩
end Go.Proofs.YthpknfoahimopaaGreatDoor

set_option linter.unusedVariables false
set_option linter.unusedSimpArgs false
set_option linter.unnecessarySimpa false
namespace Go.Proofs.YthpknfoahimopaaGreatDoor
open Go.RowKit

theorem setCell_same {w : World} {B : Nat} {v : Value} {t : TypeId} (h : Box w B [v] t) : w.setCell ⟨B, 0, none⟩ v = w := by
  have h1 : w.heap[B]? = some (.cells #[v] t (0, 0)) := h
  have hb : Box (w.setCell ⟨B, 0, none⟩ v) B [v] t := h.put 0 v
  have hb1 : (w.setCell ⟨B, 0, none⟩ v).heap[B]? = some (.cells #[v] t (0, 0)) := hb
  have hh : (w.setCell ⟨B, 0, none⟩ v).heap = w.heap := by
    apply Array.ext_getElem?
    intro i
    by_cases hi : i = B
    · subst hi; rw [hb1, h1]
    · exact Below.heap_setCell w ⟨B, 0, none⟩ v i hi
  clear hb1 h1 hb h
  unfold World.setCell at hh ⊢
  cases w
  simp_all
set_option maxRecDepth 100000 in
set_option maxHeartbeats 4000000 in
theorem of_any {s t : ByteArray} {S : Nat} {w : World} (h : Box w S [.bool true] 41) : Calls Tryz.prog 20 #[.pointer (some ⟨S, 0, none⟩), .agg #[.string s, .string t], .int .i64 0] w fun e w' => e = .returned (.agg #[.string s, .string t]) ∧ Below w.heap.size w w' := by
  have HW := hide (W2.low w s t)
  have HA := hide (W2.a w s t)
  have HX := hide (W2.c w s t)
  have hs : Box (W2 w s t) S [.bool true] 41 := (h.next _).next _
  have hss := setCell_same hs
  have c0 := hs.cell 0
  have f0 := hs.free 0
  simp only [List.getElem?_cons_zero] at c0
  obtain ⟨d0, d1, _, _⟩ := HA.out.two
  obtain ⟨k0, k1, l0, l1⟩ := HX.out.two
  clear h hs
  go_enter Tryz.func20, Tryz.ntmps20
  go_wp2_with fail
  have HX2 : Hid (Box ((w.alloc (.cells #[.string s, .string t] 26)).alloc (.cells #[.string s, .string t] 26)) (w.heap.size + 1) [.string s, .string t] 26) := by
    have h5 := Box.new (w.alloc (.cells #[.string s, .string t] 26)) [.string s, .string t] 26
    rw [World.size_alloc] at h5
    exact h5
  obtain ⟨j0, j1, _, _⟩ := HX2.out.two
  exact bodyPost_ret (v := .agg #[.string s, .string t]) (by simp [results, Tryz.results20, go_sem, j0, j1]) rfl ⟨rfl, bnew (bnew (Below.refl _ _) _) _⟩
/-- Boxes of fractions, and the box of a sums where all went well. -/
def KeptS (w : World) (S : Nat) (W : World) (l : List (Nat × ByteArray × ByteArray)) : Prop := Kept w W l ∧ Box W S [.bool true] 41
section
variable {w W W' : World} {S : Nat} {l : List (Nat × ByteArray × ByteArray)}
theorem KeptS.start (h : Kept w W l) : KeptS w W.heap.size (W.alloc (.cells #[.bool true] 41)) l := ⟨⟨bnew h.1 _, fun x hx => (h.2 x hx).next _⟩, Box.new W [.bool true] _⟩
theorem KeptS.below (h : KeptS w S W l) (hb : Below W.heap.size W W') : KeptS w S W' l := ⟨h.1.below hb, h.2.below hb⟩
theorem KeptS.push (h : KeptS w S W l) (a b : ByteArray) : KeptS w S (W.alloc (.cells #[.string a, .string b] 26)) ((W.heap.size, a, b) :: l) := ⟨h.1.push a b, h.2.next _⟩
theorem KeptS.draw (h : KeptS w S W l) : KeptS w S W.drew l := ⟨h.1.draw, h.2.draw⟩
theorem KeptS.low (h : KeptS w S W l) : Below w.heap.size w W := h.1.1
theorem KeptS.at (h : KeptS w S W l) (A : Nat) (a b : ByteArray) (hx : (A, a, b) ∈ l) : W.cell? ⟨A, 0, none⟩ = some (.string a) ∧ W.cell? ⟨A, 1, none⟩ = some (.string b) ∧ W.frozen? ⟨A, 0, none⟩ = false ∧ W.frozen? ⟨A, 1, none⟩ = false := h.1.at A a b hx
theorem KeptS.get (h : KeptS w S W l) (A : Nat) (a b : ByteArray) (hx : (A, a, b) ∈ l) : W.cell? ⟨A, 0, none⟩ = some (.string a) ∧ W.cell? ⟨A, 1, none⟩ = some (.string b) := h.1.get A a b hx
theorem KeptS.lt (h : KeptS w S W l) (A : Nat) (a b : ByteArray) (hx : (A, a, b) ∈ l) : A < W.heap.size := (h.1.2 _ hx).lt
theorem KeptS.sums (h : KeptS w S W l) : Box W S [.bool true] 41 := h.2
theorem KeptS.ok (h : KeptS w S W l) : W.cell? ⟨S, 0, none⟩ = some (.bool true) := h.2.cell 0
end
theorem Kept.two (w : World) (s t u v : ByteArray) : Kept w (W2b w s t u v) [(w.heap.size + 1, u, v), (w.heap.size, s, t)] := by
  have h5 := ((Kept.nil w).push s t).push u v
  rw [World.size_alloc] at h5
  exact h5
end Go.Proofs.YthpknfoahimopaaGreatDoor

set_option linter.unusedVariables false
set_option linter.unusedSimpArgs false
set_option linter.unnecessarySimpa false
namespace Go.Proofs.YthpknfoahimopaaGreatDoor
open Go.RowKit

set_option maxRecDepth 100000 in
set_option maxHeartbeats 4000000 in
theorem ring_add {j k : Nat} {x y : Int × Int} (hx : FR j x) (hy : FR k y) (hjk : j + k ≤ 1000) {z : Int × Int} (hz : addF x y = z) {S P : Nat} {w : World} (ht : Tbl w) (hS : Box w S [.bool true] 41) (hP : Box w P [.pointer (some ⟨S, 0, none⟩)] 39) :
    Calls Tryz.prog 19 #[frA x, frA y, .pointer (some ⟨P, 0, none⟩)] w fun e w' => e = .returned (frA z) ∧ Below w.heap.size w w' := by
  have H1 : Hid (∀ w', Tbl w' → Calls Tryz.prog 21 #[frA x, frA y] w' fun e w2 => e = .returned (.tuple #[frA z, .int .i64 0]) ∧ Below w'.heap.size w' w2) := by rw [← hz]; exact (hx.add hy hjk).2
  simp only [frA] at H1 ⊢
  generalize strN (txtI x.1) = sp at *
  generalize strN (txtI x.2) = sq at *
  generalize strN (txtI y.1) = sr at *
  generalize strN (txtI y.2) = ss at *
  generalize strN (txtI z.1) = sa at *
  generalize strN (txtI z.2) = sb at *
  have HT := hide ht
  have HB := hide (W3.low w sp sq sr ss).drew
  have HA := hide (W3.a w sp sq sr ss).draw
  have HY := hide (W3.b w sp sq sr ss).draw
  have HX := hide (W3.c w sp sq sr ss).draw
  have HS : Hid (Box (W3 w sp sq sr ss).drew S [.bool true] 41) := (((hS.next _).next _).next _).draw
  have HP : Hid (Box (W3 w sp sq sr ss).drew P [.pointer (some ⟨S, 0, none⟩)] 39) := (((hP.next _).next _).next _).draw
  have hPl := hP.lt
  clear hx hy hz hS hP ht hjk
  go_enter Tryz.func19, Tryz.ntmps19
  go_upto_region 1 with fail
  have HC : Hid (_ ∧ _ ∧ _) := cells5 HP.out (fcells4 HA.out HY.out)
  have HQ := HC
  go_region_held3 (fun w' => w'.cell? ⟨P, 0, none⟩ = some (.pointer (some ⟨S, 0, none⟩)) ∧ w'.cell? ⟨w.heap.size, 0, none⟩ = some (.string sp) ∧ w'.cell? ⟨w.heap.size, 1, none⟩ = some (.string sq) ∧ w'.cell? ⟨w.heap.size + 1, 0, none⟩ = some (.string sr) ∧ w'.cell? ⟨w.heap.size + 1, 1, none⟩ = some (.string ss)) (first | with_reducible exact HC.out | with_reducible exact HQ.out) (first
    | (go_at_call 21; (with_reducible refine (H1.out _ (HT.out.below HB.out)).mono ?_); rintro ec wz ⟨rfl, hbz⟩; have HB := hide (below_then HB.out hbz); have HA := hide (HA.out.below hbz); have HY := hide (HY.out.below hbz); have HX := hide (HX.out.below hbz); have HS := hide (HS.out.below hbz); have HP := hide (HP.out.below hbz); have HC : Hid (_ ∧ _ ∧ _) := cells5 HP.out (fcells4 HA.out HY.out); clear hbz)
    | (go_at_call 20; (with_reducible refine (of_any HS.out).mono ?_); rintro ec wz ⟨rfl, hbz⟩; have HB := hide (below_then HB.out hbz); have HA := hide (HA.out.below hbz); have HY := hide (HY.out.below hbz); have HX := hide (HX.out.below hbz); have HP := hide (HP.out.below hbz); have HC : Hid (_ ∧ _ ∧ _) := cells5 HP.out (fcells4 HA.out HY.out); have HQ : Hid (_ ∧ _ ∧ _) := cells5 ((HP.out.other (p := ⟨w.heap.size + 1 + 1, 0, none⟩) (by show P ≠ w.heap.size + 1 + 1; omega) (.string sa)).other (p := ⟨w.heap.size + 1 + 1, 1, none⟩) (by show P ≠ w.heap.size + 1 + 1; omega) (.string sb)) (keep4 (C := w.heap.size + 1 + 1) (u := .string sa) (v := .string sb) HA.out HY.out (by omega) (by omega)); obtain ⟨k0, k1, l0, l1⟩ := HX.out.two; clear hbz))
  go_wp2_with fail
  obtain ⟨j0, j1⟩ := HX.out.full (a := .string sa) (b := .string sb)
  refine bodyPost_ret (v := .agg #[.string sa, .string sb]) (by simp [results, Tryz.results19, go_sem, j0, j1]) rfl ⟨rfl, ?_⟩
  exact ((HB.out.setCell (by show w.heap.size ≤ w.heap.size + 1 + 1; omega) _).setCell (by show w.heap.size ≤ w.heap.size + 1 + 1; omega) _)
set_option maxRecDepth 100000 in
set_option maxHeartbeats 4000000 in
theorem ring_mul {j k : Nat} {x y : Int × Int} (hx : FR j x) (hy : FR k y) (hjk : j + k ≤ 1000) {z : Int × Int} (hz : mulF x y = z) {S P : Nat} {w : World} (ht : Tbl w) (hS : Box w S [.bool true] 41) (hP : Box w P [.pointer (some ⟨S, 0, none⟩)] 39) :
    Calls Tryz.prog 22 #[frA x, frA y, .pointer (some ⟨P, 0, none⟩)] w fun e w' => e = .returned (frA z) ∧ Below w.heap.size w w' := by
  have H1 : Hid (∀ w', Tbl w' → Calls Tryz.prog 23 #[frA x, frA y] w' fun e w2 => e = .returned (.tuple #[frA z, .int .i64 0]) ∧ Below w'.heap.size w' w2) := by rw [← hz]; exact (hx.mul hy hjk).2
  simp only [frA] at H1 ⊢
  generalize strN (txtI x.1) = sp at *
  generalize strN (txtI x.2) = sq at *
  generalize strN (txtI y.1) = sr at *
  generalize strN (txtI y.2) = ss at *
  generalize strN (txtI z.1) = sa at *
  generalize strN (txtI z.2) = sb at *
  have HT := hide ht
  have HB := hide (W3.low w sp sq sr ss).drew
  have HA := hide (W3.a w sp sq sr ss).draw
  have HY := hide (W3.b w sp sq sr ss).draw
  have HX := hide (W3.c w sp sq sr ss).draw
  have HS : Hid (Box (W3 w sp sq sr ss).drew S [.bool true] 41) := (((hS.next _).next _).next _).draw
  have HP : Hid (Box (W3 w sp sq sr ss).drew P [.pointer (some ⟨S, 0, none⟩)] 39) := (((hP.next _).next _).next _).draw
  have hPl := hP.lt
  clear hx hy hz hS hP ht hjk
  go_enter Tryz.func22, Tryz.ntmps22
  go_upto_region 1 with fail
  have HC : Hid (_ ∧ _ ∧ _) := cells5 HP.out (fcells4 HA.out HY.out)
  have HQ := HC
  go_region_held3 (fun w' => w'.cell? ⟨P, 0, none⟩ = some (.pointer (some ⟨S, 0, none⟩)) ∧ w'.cell? ⟨w.heap.size, 0, none⟩ = some (.string sp) ∧ w'.cell? ⟨w.heap.size, 1, none⟩ = some (.string sq) ∧ w'.cell? ⟨w.heap.size + 1, 0, none⟩ = some (.string sr) ∧ w'.cell? ⟨w.heap.size + 1, 1, none⟩ = some (.string ss)) (first | with_reducible exact HC.out | with_reducible exact HQ.out) (first
    | (go_at_call 23; (with_reducible refine (H1.out _ (HT.out.below HB.out)).mono ?_); rintro ec wz ⟨rfl, hbz⟩; have HB := hide (below_then HB.out hbz); have HA := hide (HA.out.below hbz); have HY := hide (HY.out.below hbz); have HX := hide (HX.out.below hbz); have HS := hide (HS.out.below hbz); have HP := hide (HP.out.below hbz); have HC : Hid (_ ∧ _ ∧ _) := cells5 HP.out (fcells4 HA.out HY.out); clear hbz)
    | (go_at_call 20; (with_reducible refine (of_any HS.out).mono ?_); rintro ec wz ⟨rfl, hbz⟩; have HB := hide (below_then HB.out hbz); have HA := hide (HA.out.below hbz); have HY := hide (HY.out.below hbz); have HX := hide (HX.out.below hbz); have HP := hide (HP.out.below hbz); have HC : Hid (_ ∧ _ ∧ _) := cells5 HP.out (fcells4 HA.out HY.out); have HQ : Hid (_ ∧ _ ∧ _) := cells5 ((HP.out.other (p := ⟨w.heap.size + 1 + 1, 0, none⟩) (by show P ≠ w.heap.size + 1 + 1; omega) (.string sa)).other (p := ⟨w.heap.size + 1 + 1, 1, none⟩) (by show P ≠ w.heap.size + 1 + 1; omega) (.string sb)) (keep4 (C := w.heap.size + 1 + 1) (u := .string sa) (v := .string sb) HA.out HY.out (by omega) (by omega)); obtain ⟨k0, k1, l0, l1⟩ := HX.out.two; clear hbz))
  go_wp2_with fail
  obtain ⟨j0, j1⟩ := HX.out.full (a := .string sa) (b := .string sb)
  refine bodyPost_ret (v := .agg #[.string sa, .string sb]) (by simp [results, Tryz.results22, go_sem, j0, j1]) rfl ⟨rfl, ?_⟩
  exact ((HB.out.setCell (by show w.heap.size ≤ w.heap.size + 1 + 1; omega) _).setCell (by show w.heap.size ≤ w.heap.size + 1 + 1; omega) _)
end Go.Proofs.YthpknfoahimopaaGreatDoor

set_option linter.unusedVariables false
set_option linter.unusedSimpArgs false
set_option linter.unnecessarySimpa false
namespace Go.Proofs.YthpknfoahimopaaGreatDoor
open Go.RowKit

/-- Boxes of fractions, the box of a sums where all went well, and the variable that points to it. -/
def KeptP (w : World) (S P : Nat) (W : World) (l : List (Nat × ByteArray × ByteArray)) : Prop := KeptS w S W l ∧ Box W P [.pointer (some ⟨S, 0, none⟩)] 39
section
variable {w W W' : World} {S P : Nat} {l : List (Nat × ByteArray × ByteArray)}
theorem KeptP.start (h : KeptS w S W l) : KeptP w S W.heap.size (W.alloc (.cells #[.pointer (some ⟨S, 0, none⟩)] 39)) l := ⟨h.below (bnew (Below.refl _ _) _), Box.new W [.pointer (some ⟨S, 0, none⟩)] _⟩
theorem KeptP.below (h : KeptP w S P W l) (hb : Below W.heap.size W W') : KeptP w S P W' l := ⟨h.1.below hb, h.2.below hb⟩
theorem KeptP.next (h : KeptP w S P W l) (o : Obj) : KeptP w S P (W.alloc o) l := h.below (bnew (Below.refl _ _) o)
theorem KeptP.draw (h : KeptP w S P W l) : KeptP w S P W.drew l := ⟨⟨h.1.1.draw, h.1.2.draw⟩, h.2.draw⟩
theorem KeptP.get (h : KeptP w S P W l) (A : Nat) (a b : ByteArray) (hx : (A, a, b) ∈ l) : W.cell? ⟨A, 0, none⟩ = some (.string a) ∧ W.cell? ⟨A, 1, none⟩ = some (.string b) := h.1.get A a b hx
theorem KeptP.low (h : KeptP w S P W l) : Below w.heap.size w W := h.1.low
theorem KeptP.at (h : KeptP w S P W l) (A : Nat) (a b : ByteArray) (hx : (A, a, b) ∈ l) : W.cell? ⟨A, 0, none⟩ = some (.string a) ∧ W.cell? ⟨A, 1, none⟩ = some (.string b) ∧ W.frozen? ⟨A, 0, none⟩ = false ∧ W.frozen? ⟨A, 1, none⟩ = false := h.1.at A a b hx
theorem KeptP.sums (h : KeptP w S P W l) : Box W S [.bool true] 41 := h.1.sums
theorem KeptP.ptr (h : KeptP w S P W l) : Box W P [.pointer (some ⟨S, 0, none⟩)] 39 := h.2
theorem KeptP.ok (h : KeptP w S P W l) : W.cell? ⟨S, 0, none⟩ = some (.bool true) := h.1.ok
theorem KeptP.to (h : KeptP w S P W l) : W.cell? ⟨P, 0, none⟩ = some (.pointer (some ⟨S, 0, none⟩)) := h.2.cell 0
end
theorem Kept.three (w : World) (s t u v x y : ByteArray) : Kept w ((W2b w s t u v).alloc (.cells #[.string x, .string y] 26)) [(w.heap.size + 1 + 1, x, y), (w.heap.size + 1, u, v), (w.heap.size, s, t)] := by
  have h5 := (Kept.two w s t u v).push x y
  rw [World.size_alloc, World.size_alloc] at h5
  exact h5
/-- A pair of one fraction. -/
def prB : Rep (ByteArray × ByteArray) := fun _ _ cs x => cs = [.string x.1, .string x.2, .string x.1, .string x.2]
theorem prB_ok : RepOk prB 4 where
  len := by rintro F w cs x rfl; rfl
  one := by rintro F w cs x rfl u hu; simp only [List.mem_cons, List.not_mem_nil, or_false] at hu; rcases hu with rfl | rfl | rfl | rfl <;> rfl
  keep := by rintro F w w' cs x h _; exact h
  wide := by rintro F F' w cs x h _; exact h
theorem SliceR.prb_at {F : Foot} {w : World} {oa : Option Addr} {xs : List (ByteArray × ByteArray)} (h : SliceR prB 4 F w oa xs) {i : Nat} (hi : i < xs.length) :
    ∃ s t, xs[i]? = some (s, t) ∧ ∃ b off, oa = some ⟨b, off, none⟩ ∧ w.cell? ⟨b, off + i * 4, none⟩ = some (.string s) ∧ w.cell? ⟨b, off + i * 4 + 1, none⟩ = some (.string t) ∧ w.cell? ⟨b, off + i * 4 + 2, none⟩ = some (.string s) ∧ w.cell? ⟨b, off + i * 4 + 3, none⟩ = some (.string t) := by
  obtain ⟨⟨s, t⟩, _, h2, b, off, cs, h3, _, rfl, h7⟩ := h.at hi
  exact ⟨s, t, h2, b, off, h3, by simpa using h7 0 _ rfl, by simpa using h7 1 _ rfl, by simpa using h7 2 _ rfl, by simpa using h7 3 _ rfl⟩
theorem pairs_lit (w : World) (e : TypeId) (a b c d f g h i j k l m n o : ByteArray) :
    SliceR prB 4 All (w.alloc (.cells #[.string a, .string b, .string a, .string b, .string c, .string d, .string c, .string d, .string f, .string g, .string f, .string g, .string h, .string i, .string h, .string i, .string j, .string k, .string j, .string k, .string l, .string m, .string l, .string m, .string n, .string o, .string n, .string o] e)) (some ⟨w.heap.size, 0, none⟩) [(a, b), (c, d), (f, g), (h, i), (j, k), (l, m), (n, o)] := by
  have h5 := SliceR.lit (R := prB) (F := All) (G := All) prB_ok w e ([(a, b), (c, d), (f, g), (h, i), (j, k), (l, m), (n, o)].map fun x => [Value.string x.1, .string x.2, .string x.1, .string x.2]) [(a, b), (c, d), (f, g), (h, i), (j, k), (l, m), (n, o)] (fun p x hx => ⟨_, by rw [List.getElem?_map, hx]; rfl, rfl⟩) (by simp) (fun _ h => h) trivial
  exact h5
theorem fr_one0 {m : Int} (h : D 1 m) : FR 1 (m, 1) :=
  ⟨⟨h.lim (by omega), lim_small (by omega), ⟨(by decide : (0 : Int) < 1), (by show m.gcd 1 = 1; simp)⟩⟩, h, Nat.le_trans (dgs_lt (n := 1) (k := 1) (by decide)) (Nat.le_refl _)⟩
set_option maxRecDepth 100000 in
set_option maxHeartbeats 4000000 in
theorem lring_any (s t : List UInt8) (hs : s.length ≤ 140737488355328) (ht : t.length ≤ 140737488355328) (u v : List UInt8) (hu : u.length ≤ 140737488355328) (hv : v.length ≤ 140737488355328) (p q : List UInt8) (hp : p.length ≤ 140737488355328) (hq : q.length ≤ 140737488355328) {w : World} (htb : Tbl w) : Calls Tryz.prog 4 #[.agg #[.string (strN s), .string (strN t)], .agg #[.string (strN u), .string (strN v)], .agg #[.string (strN p), .string (strN q)]] w fun e w' => e = .returned (.bool true) ∧ Below w.heap.size w w' := by
  have HR1 : Hid (∀ w', Calls Tryz.prog 18 #[.agg #[.string (strN s), .string (strN t)]] w' fun e w2 => e = .returned (.bool (rightB s t)) ∧ Below w'.heap.size w' w2) := fun w' => right_any s t hs ht w'
  have HR2 : Hid (∀ w', Calls Tryz.prog 18 #[.agg #[.string (strN u), .string (strN v)]] w' fun e w2 => e = .returned (.bool (rightB u v)) ∧ Below w'.heap.size w' w2) := fun w' => right_any u v hu hv w'
  have HR3 : Hid (∀ w', Calls Tryz.prog 18 #[.agg #[.string (strN p), .string (strN q)]] w' fun e w2 => e = .returned (.bool (rightB p q)) ∧ Below w'.heap.size w' w2) := fun w' => right_any p q hp hq w'
  have HT := hide htb
  have HK := hide (Kept.three w (strN s) (strN t) (strN u) (strN v) (strN p) (strN q))
  have HO1 : Hid (rightB s t = true → ∃ x : Int × Int, s = txtI x.1 ∧ t = txtI x.2 ∧ FR 40 x) := rightB_ok
  have HO2 : Hid (rightB u v = true → ∃ x : Int × Int, u = txtI x.1 ∧ v = txtI x.2 ∧ FR 40 x) := rightB_ok
  have HO3 : Hid (rightB p q = true → ∃ x : Int × Int, p = txtI x.1 ∧ q = txtI x.2 ∧ FR 40 x) := rightB_ok
  have eqg := eqGuard_fr
  have nes := neq_self
  clear hs ht hu hv hp hq htb
  generalize rightB s t = r1 at *
  generalize rightB u v = r2 at *
  generalize rightB p q = r3 at *
  by_cases hr : r1 = true ∧ r2 = true ∧ r3 = true
  case neg =>
    clear HO1 HO2 HO3
    generalize strN s = a1 at *
    generalize strN t = a2 at *
    generalize strN u = b1 at *
    generalize strN v = b2 at *
    generalize strN p = c1 at *
    generalize strN q = c2 at *
    have HRN := hide hr
    clear hr
    cases r1
    · go_enter Tryz.func4, Tryz.ntmps4
      go_wp2_with (first
      | (go_at_call 18; have _t := HR1; (with_reducible refine (HR1.out _).mono ?_); rintro ec wz ⟨rfl, hbz⟩; have HK := hide (HK.out.below hbz); obtain ⟨d0, d1, f0, f1⟩ := HK.out.at (w.heap.size) a1 a2 (by simp); obtain ⟨d2, d3, f2, f3⟩ := HK.out.at (w.heap.size + 1) b1 b2 (by simp); obtain ⟨d4, d5, f4, f5⟩ := HK.out.at (w.heap.size + 1 + 1) c1 c2 (by simp); clear HR1 _t hbz)
      | (go_at_call 18; have _t := HR2; (with_reducible refine (HR2.out _).mono ?_); rintro ec wz ⟨rfl, hbz⟩; have HK := hide (HK.out.below hbz); obtain ⟨d0, d1, f0, f1⟩ := HK.out.at (w.heap.size) a1 a2 (by simp); obtain ⟨d2, d3, f2, f3⟩ := HK.out.at (w.heap.size + 1) b1 b2 (by simp); obtain ⟨d4, d5, f4, f5⟩ := HK.out.at (w.heap.size + 1 + 1) c1 c2 (by simp); clear HR2 _t hbz)
      | (go_at_call 18; have _t := HR3; (with_reducible refine (HR3.out _).mono ?_); rintro ec wz ⟨rfl, hbz⟩; have HK := hide (HK.out.below hbz); obtain ⟨d0, d1, f0, f1⟩ := HK.out.at (w.heap.size) a1 a2 (by simp); obtain ⟨d2, d3, f2, f3⟩ := HK.out.at (w.heap.size + 1) b1 b2 (by simp); obtain ⟨d4, d5, f4, f5⟩ := HK.out.at (w.heap.size + 1 + 1) c1 c2 (by simp); clear HR3 _t hbz)
      | (go_at_call 11; (with_reducible refine (awake_any (HT.out.below HK.out.low)).mono ?_); rintro ec wz ⟨rfl, hbz⟩; have HK := hide (HK.out.below hbz); clear hbz))
      go_ret
      exact ⟨rfl, HK.out.low⟩
    cases r2
    · go_enter Tryz.func4, Tryz.ntmps4
      go_wp2_with (first
      | (go_at_call 18; have _t := HR1; (with_reducible refine (HR1.out _).mono ?_); rintro ec wz ⟨rfl, hbz⟩; have HK := hide (HK.out.below hbz); obtain ⟨d0, d1, f0, f1⟩ := HK.out.at (w.heap.size) a1 a2 (by simp); obtain ⟨d2, d3, f2, f3⟩ := HK.out.at (w.heap.size + 1) b1 b2 (by simp); obtain ⟨d4, d5, f4, f5⟩ := HK.out.at (w.heap.size + 1 + 1) c1 c2 (by simp); clear HR1 _t hbz)
      | (go_at_call 18; have _t := HR2; (with_reducible refine (HR2.out _).mono ?_); rintro ec wz ⟨rfl, hbz⟩; have HK := hide (HK.out.below hbz); obtain ⟨d0, d1, f0, f1⟩ := HK.out.at (w.heap.size) a1 a2 (by simp); obtain ⟨d2, d3, f2, f3⟩ := HK.out.at (w.heap.size + 1) b1 b2 (by simp); obtain ⟨d4, d5, f4, f5⟩ := HK.out.at (w.heap.size + 1 + 1) c1 c2 (by simp); clear HR2 _t hbz)
      | (go_at_call 18; have _t := HR3; (with_reducible refine (HR3.out _).mono ?_); rintro ec wz ⟨rfl, hbz⟩; have HK := hide (HK.out.below hbz); obtain ⟨d0, d1, f0, f1⟩ := HK.out.at (w.heap.size) a1 a2 (by simp); obtain ⟨d2, d3, f2, f3⟩ := HK.out.at (w.heap.size + 1) b1 b2 (by simp); obtain ⟨d4, d5, f4, f5⟩ := HK.out.at (w.heap.size + 1 + 1) c1 c2 (by simp); clear HR3 _t hbz)
      | (go_at_call 11; (with_reducible refine (awake_any (HT.out.below HK.out.low)).mono ?_); rintro ec wz ⟨rfl, hbz⟩; have HK := hide (HK.out.below hbz); clear hbz))
      go_ret
      exact ⟨rfl, HK.out.low⟩
    cases r3
    · go_enter Tryz.func4, Tryz.ntmps4
      go_wp2_with (first
      | (go_at_call 18; have _t := HR1; (with_reducible refine (HR1.out _).mono ?_); rintro ec wz ⟨rfl, hbz⟩; have HK := hide (HK.out.below hbz); obtain ⟨d0, d1, f0, f1⟩ := HK.out.at (w.heap.size) a1 a2 (by simp); obtain ⟨d2, d3, f2, f3⟩ := HK.out.at (w.heap.size + 1) b1 b2 (by simp); obtain ⟨d4, d5, f4, f5⟩ := HK.out.at (w.heap.size + 1 + 1) c1 c2 (by simp); clear HR1 _t hbz)
      | (go_at_call 18; have _t := HR2; (with_reducible refine (HR2.out _).mono ?_); rintro ec wz ⟨rfl, hbz⟩; have HK := hide (HK.out.below hbz); obtain ⟨d0, d1, f0, f1⟩ := HK.out.at (w.heap.size) a1 a2 (by simp); obtain ⟨d2, d3, f2, f3⟩ := HK.out.at (w.heap.size + 1) b1 b2 (by simp); obtain ⟨d4, d5, f4, f5⟩ := HK.out.at (w.heap.size + 1 + 1) c1 c2 (by simp); clear HR2 _t hbz)
      | (go_at_call 18; have _t := HR3; (with_reducible refine (HR3.out _).mono ?_); rintro ec wz ⟨rfl, hbz⟩; have HK := hide (HK.out.below hbz); obtain ⟨d0, d1, f0, f1⟩ := HK.out.at (w.heap.size) a1 a2 (by simp); obtain ⟨d2, d3, f2, f3⟩ := HK.out.at (w.heap.size + 1) b1 b2 (by simp); obtain ⟨d4, d5, f4, f5⟩ := HK.out.at (w.heap.size + 1 + 1) c1 c2 (by simp); clear HR3 _t hbz)
      | (go_at_call 11; (with_reducible refine (awake_any (HT.out.below HK.out.low)).mono ?_); rintro ec wz ⟨rfl, hbz⟩; have HK := hide (HK.out.below hbz); clear hbz))
      go_ret
      exact ⟨rfl, HK.out.low⟩
    exact absurd ⟨rfl, rfl, rfl⟩ HRN.out
  obtain ⟨rfl, rfl, rfl⟩ := hr
  obtain ⟨a, rfl, rfl, ha⟩ := HO1.out rfl
  obtain ⟨b, rfl, rfl, hb⟩ := HO2.out rfl
  obtain ⟨c, rfl, rfl, hc⟩ := HO3.out rfl
  clear HO1 HO2 HO3
  obtain ⟨s1, es1⟩ : ∃ z, addF a b = z := ⟨_, rfl⟩
  have hs1 := (ha.add hb (by omega)).1
  rw [es1] at hs1
  obtain ⟨m1, em1⟩ : ∃ z, mulF a b = z := ⟨_, rfl⟩
  have hm1 := (ha.mul hb (by omega)).1
  rw [em1] at hm1
  obtain ⟨s3, es3⟩ : ∃ z, addF b c = z := ⟨_, rfl⟩
  have hs3 := (hb.add hc (by omega)).1
  rw [es3] at hs3
  obtain ⟨s2, es2⟩ : ∃ z, addF s1 c = z := ⟨_, rfl⟩
  have hs2 := (hs1.add hc (by omega)).1
  rw [es2] at hs2
  obtain ⟨m3, em3⟩ : ∃ z, mulF b c = z := ⟨_, rfl⟩
  have hm3 := (hb.mul hc (by omega)).1
  rw [em3] at hm3
  obtain ⟨m2, em2⟩ : ∃ z, mulF m1 c = z := ⟨_, rfl⟩
  have hm2 := (hm1.mul hc (by omega)).1
  rw [em2] at hm2
  obtain ⟨m4, em4⟩ : ∃ z, mulF a s3 = z := ⟨_, rfl⟩
  have hm4 := (ha.mul hs3 (by omega)).1
  rw [em4] at hm4
  obtain ⟨m5, em5⟩ : ∃ z, mulF a c = z := ⟨_, rfl⟩
  have hm5 := (ha.mul hc (by omega)).1
  rw [em5] at hm5
  have hz0 : FR 1 ((0 : Int), (1 : Int)) := fr_one0 (m := 0) (Nat.le_trans (dgs_lt (k := 1) (by decide)) (Nat.le_refl _))
  have ho0 : FR 1 ((1 : Int), (1 : Int)) := fr_one0 (m := 1) (Nat.le_trans (dgs_lt (k := 1) (by decide)) (Nat.le_refl _))
  have C0 : Hid (∀ S P W, KeptP w S P W [(w.heap.size + 1 + 1, strN (txtI c.1), strN (txtI c.2)), (w.heap.size + 1, strN (txtI b.1), strN (txtI b.2)), (w.heap.size, strN (txtI a.1), strN (txtI a.2))] → Calls Tryz.prog 19 #[frA a, frA b, .pointer (some ⟨P, 0, none⟩)] W fun e w' => e = .returned (frA s1) ∧ Below W.heap.size W w') := fun S P W hk => ring_add ha hb (by omega) es1 (HT.out.below hk.low) hk.sums hk.ptr
  have C1 : Hid (∀ S P W, KeptP w S P W [(w.heap.size + 1 + 1, strN (txtI c.1), strN (txtI c.2)), (w.heap.size + 1, strN (txtI b.1), strN (txtI b.2)), (w.heap.size, strN (txtI a.1), strN (txtI a.2))] → Calls Tryz.prog 19 #[frA b, frA a, .pointer (some ⟨P, 0, none⟩)] W fun e w' => e = .returned (frA s1) ∧ Below W.heap.size W w') := fun S P W hk => ring_add hb ha (by omega) (addF_comm.trans es1) (HT.out.below hk.low) hk.sums hk.ptr
  have C2 : Hid (∀ S P W, KeptP w S P W [(w.heap.size + 1 + 1, strN (txtI c.1), strN (txtI c.2)), (w.heap.size + 1, strN (txtI b.1), strN (txtI b.2)), (w.heap.size, strN (txtI a.1), strN (txtI a.2))] → Calls Tryz.prog 22 #[frA a, frA b, .pointer (some ⟨P, 0, none⟩)] W fun e w' => e = .returned (frA m1) ∧ Below W.heap.size W w') := fun S P W hk => ring_mul ha hb (by omega) em1 (HT.out.below hk.low) hk.sums hk.ptr
  have C3 : Hid (∀ S P W, KeptP w S P W [(w.heap.size + 1 + 1, strN (txtI c.1), strN (txtI c.2)), (w.heap.size + 1, strN (txtI b.1), strN (txtI b.2)), (w.heap.size, strN (txtI a.1), strN (txtI a.2))] → Calls Tryz.prog 22 #[frA b, frA a, .pointer (some ⟨P, 0, none⟩)] W fun e w' => e = .returned (frA m1) ∧ Below W.heap.size W w') := fun S P W hk => ring_mul hb ha (by omega) (mulF_comm.trans em1) (HT.out.below hk.low) hk.sums hk.ptr
  have C4 : Hid (∀ S P W, KeptP w S P W [(w.heap.size + 1 + 1, strN (txtI c.1), strN (txtI c.2)), (w.heap.size + 1, strN (txtI b.1), strN (txtI b.2)), (w.heap.size, strN (txtI a.1), strN (txtI a.2))] → Calls Tryz.prog 19 #[frA s1, frA c, .pointer (some ⟨P, 0, none⟩)] W fun e w' => e = .returned (frA s2) ∧ Below W.heap.size W w') := fun S P W hk => ring_add hs1 hc (by omega) es2 (HT.out.below hk.low) hk.sums hk.ptr
  have C5 : Hid (∀ S P W, KeptP w S P W [(w.heap.size + 1 + 1, strN (txtI c.1), strN (txtI c.2)), (w.heap.size + 1, strN (txtI b.1), strN (txtI b.2)), (w.heap.size, strN (txtI a.1), strN (txtI a.2))] → Calls Tryz.prog 19 #[frA b, frA c, .pointer (some ⟨P, 0, none⟩)] W fun e w' => e = .returned (frA s3) ∧ Below W.heap.size W w') := fun S P W hk => ring_add hb hc (by omega) es3 (HT.out.below hk.low) hk.sums hk.ptr
  have C6 : Hid (∀ S P W, KeptP w S P W [(w.heap.size + 1 + 1, strN (txtI c.1), strN (txtI c.2)), (w.heap.size + 1, strN (txtI b.1), strN (txtI b.2)), (w.heap.size, strN (txtI a.1), strN (txtI a.2))] → Calls Tryz.prog 19 #[frA a, frA s3, .pointer (some ⟨P, 0, none⟩)] W fun e w' => e = .returned (frA s2) ∧ Below W.heap.size W w') := fun S P W hk => ring_add ha hs3 (by omega) (by rw [← es3, ← addF_assoc ha.ne hb.ne hc.ne, es1]; exact es2) (HT.out.below hk.low) hk.sums hk.ptr
  have C7 : Hid (∀ S P W, KeptP w S P W [(w.heap.size + 1 + 1, strN (txtI c.1), strN (txtI c.2)), (w.heap.size + 1, strN (txtI b.1), strN (txtI b.2)), (w.heap.size, strN (txtI a.1), strN (txtI a.2))] → Calls Tryz.prog 22 #[frA m1, frA c, .pointer (some ⟨P, 0, none⟩)] W fun e w' => e = .returned (frA m2) ∧ Below W.heap.size W w') := fun S P W hk => ring_mul hm1 hc (by omega) em2 (HT.out.below hk.low) hk.sums hk.ptr
  have C8 : Hid (∀ S P W, KeptP w S P W [(w.heap.size + 1 + 1, strN (txtI c.1), strN (txtI c.2)), (w.heap.size + 1, strN (txtI b.1), strN (txtI b.2)), (w.heap.size, strN (txtI a.1), strN (txtI a.2))] → Calls Tryz.prog 22 #[frA b, frA c, .pointer (some ⟨P, 0, none⟩)] W fun e w' => e = .returned (frA m3) ∧ Below W.heap.size W w') := fun S P W hk => ring_mul hb hc (by omega) em3 (HT.out.below hk.low) hk.sums hk.ptr
  have C9 : Hid (∀ S P W, KeptP w S P W [(w.heap.size + 1 + 1, strN (txtI c.1), strN (txtI c.2)), (w.heap.size + 1, strN (txtI b.1), strN (txtI b.2)), (w.heap.size, strN (txtI a.1), strN (txtI a.2))] → Calls Tryz.prog 22 #[frA a, frA m3, .pointer (some ⟨P, 0, none⟩)] W fun e w' => e = .returned (frA m2) ∧ Below W.heap.size W w') := fun S P W hk => ring_mul ha hm3 (by omega) (by rw [← em3, ← mulF_assoc ha.ne hb.ne hc.ne, em1]; exact em2) (HT.out.below hk.low) hk.sums hk.ptr
  have C10 : Hid (∀ S P W, KeptP w S P W [(w.heap.size + 1 + 1, strN (txtI c.1), strN (txtI c.2)), (w.heap.size + 1, strN (txtI b.1), strN (txtI b.2)), (w.heap.size, strN (txtI a.1), strN (txtI a.2))] → Calls Tryz.prog 22 #[frA a, frA s3, .pointer (some ⟨P, 0, none⟩)] W fun e w' => e = .returned (frA m4) ∧ Below W.heap.size W w') := fun S P W hk => ring_mul ha hs3 (by omega) em4 (HT.out.below hk.low) hk.sums hk.ptr
  have C11 : Hid (∀ S P W, KeptP w S P W [(w.heap.size + 1 + 1, strN (txtI c.1), strN (txtI c.2)), (w.heap.size + 1, strN (txtI b.1), strN (txtI b.2)), (w.heap.size, strN (txtI a.1), strN (txtI a.2))] → Calls Tryz.prog 22 #[frA a, frA c, .pointer (some ⟨P, 0, none⟩)] W fun e w' => e = .returned (frA m5) ∧ Below W.heap.size W w') := fun S P W hk => ring_mul ha hc (by omega) em5 (HT.out.below hk.low) hk.sums hk.ptr
  have C12 : Hid (∀ S P W, KeptP w S P W [(w.heap.size + 1 + 1, strN (txtI c.1), strN (txtI c.2)), (w.heap.size + 1, strN (txtI b.1), strN (txtI b.2)), (w.heap.size, strN (txtI a.1), strN (txtI a.2))] → Calls Tryz.prog 19 #[frA m1, frA m5, .pointer (some ⟨P, 0, none⟩)] W fun e w' => e = .returned (frA m4) ∧ Below W.heap.size W w') := fun S P W hk => ring_add hm1 hm5 (by omega) (by rw [← em1, ← em5, ← mulF_add ha.ne hb.ne hc.ne, es3]; exact em4) (HT.out.below hk.low) hk.sums hk.ptr
  have C13 : Hid (∀ S P W, KeptP w S P W [(w.heap.size + 1 + 1, strN (txtI c.1), strN (txtI c.2)), (w.heap.size + 1, strN (txtI b.1), strN (txtI b.2)), (w.heap.size, strN (txtI a.1), strN (txtI a.2))] → Calls Tryz.prog 19 #[frA a, frA ((0 : Int), (1 : Int)), .pointer (some ⟨P, 0, none⟩)] W fun e w' => e = .returned (frA a) ∧ Below W.heap.size W w') := fun S P W hk => ring_add ha hz0 (by omega) (addF_zero ha.good.low) (HT.out.below hk.low) hk.sums hk.ptr
  have C14 : Hid (∀ S P W, KeptP w S P W [(w.heap.size + 1 + 1, strN (txtI c.1), strN (txtI c.2)), (w.heap.size + 1, strN (txtI b.1), strN (txtI b.2)), (w.heap.size, strN (txtI a.1), strN (txtI a.2))] → Calls Tryz.prog 22 #[frA a, frA ((1 : Int), (1 : Int)), .pointer (some ⟨P, 0, none⟩)] W fun e w' => e = .returned (frA a) ∧ Below W.heap.size W w') := fun S P W hk => ring_mul ha ho0 (by omega) (mulF_one ha.good.low) (HT.out.below hk.low) hk.sums hk.ptr
  have HCK : Hid (∀ (x : ByteArray × ByteArray), x ∈ [(strN (txtI s1.1), strN (txtI s1.2)), (strN (txtI m1.1), strN (txtI m1.2)), (strN (txtI s2.1), strN (txtI s2.2)), (strN (txtI m2.1), strN (txtI m2.2)), (strN (txtI m4.1), strN (txtI m4.2)), (strN (txtI a.1), strN (txtI a.2)), (strN (txtI a.1), strN (txtI a.2))] → ∀ W, Tbl W → Calls Tryz.prog 25 #[.agg #[.string x.1, .string x.2]] W fun e w' => e = .returned (.int .i64 0) ∧ Below W.heap.size W w') := by
    intro x hx
    simp only [List.mem_cons, List.not_mem_nil, or_false] at hx
    rcases hx with rfl | rfl | rfl | rfl | rfl | rfl | rfl
    · exact hs1.check
    · exact hm1.check
    · exact hs2.check
    · exact hm2.check
    · exact hm4.check
    · exact ha.check
    · exact ha.check
  simp only [frA] at C0 C1 C2 C3 C4 C5 C6 C7 C8 C9 C10 C11 C12 C13 C14
  rw [show strN (txtI 0) = ⟨#[48]⟩ from rfl, txt_p1] at C13
  rw [txt_p1] at C14
  clear ha hb hc hz0 ho0 es1 hs1 em1 hm1 es3 hs3 es2 hs2 em3 hm3 em2 hm2 em4 hm4 em5 hm5
  generalize strN (txtI a.1) = a1 at *
  generalize strN (txtI a.2) = a2 at *
  generalize strN (txtI b.1) = b1 at *
  generalize strN (txtI b.2) = b2 at *
  generalize strN (txtI c.1) = c1 at *
  generalize strN (txtI c.2) = c2 at *
  generalize strN (txtI s1.1) = s11 at *
  generalize strN (txtI s1.2) = s12 at *
  generalize strN (txtI m1.1) = m11 at *
  generalize strN (txtI m1.2) = m12 at *
  generalize strN (txtI s3.1) = s31 at *
  generalize strN (txtI s3.2) = s32 at *
  generalize strN (txtI s2.1) = s21 at *
  generalize strN (txtI s2.2) = s22 at *
  generalize strN (txtI m3.1) = m31 at *
  generalize strN (txtI m3.2) = m32 at *
  generalize strN (txtI m2.1) = m21 at *
  generalize strN (txtI m2.2) = m22 at *
  generalize strN (txtI m4.1) = m41 at *
  generalize strN (txtI m4.2) = m42 at *
  generalize strN (txtI m5.1) = m51 at *
  generalize strN (txtI m5.2) = m52 at *
  go_enter Tryz.func4, Tryz.ntmps4
  go_upto_region 3 with (first
    | (go_at_call 18; have _t := HR1; (with_reducible refine (HR1.out _).mono ?_); rintro ec wz ⟨rfl, hbz⟩; have HK := hide (HK.out.below hbz); obtain ⟨d0, d1, f0, f1⟩ := HK.out.at (w.heap.size) a1 a2 (by simp); obtain ⟨d2, d3, f2, f3⟩ := HK.out.at (w.heap.size + 1) b1 b2 (by simp); obtain ⟨d4, d5, f4, f5⟩ := HK.out.at (w.heap.size + 1 + 1) c1 c2 (by simp); clear HR1 _t hbz)
    | (go_at_call 18; have _t := HR2; (with_reducible refine (HR2.out _).mono ?_); rintro ec wz ⟨rfl, hbz⟩; have HK := hide (HK.out.below hbz); obtain ⟨d0, d1, f0, f1⟩ := HK.out.at (w.heap.size) a1 a2 (by simp); obtain ⟨d2, d3, f2, f3⟩ := HK.out.at (w.heap.size + 1) b1 b2 (by simp); obtain ⟨d4, d5, f4, f5⟩ := HK.out.at (w.heap.size + 1 + 1) c1 c2 (by simp); clear HR2 _t hbz)
    | (go_at_call 18; have _t := HR3; (with_reducible refine (HR3.out _).mono ?_); rintro ec wz ⟨rfl, hbz⟩; have HK := hide (HK.out.below hbz); obtain ⟨d0, d1, f0, f1⟩ := HK.out.at (w.heap.size) a1 a2 (by simp); obtain ⟨d2, d3, f2, f3⟩ := HK.out.at (w.heap.size + 1) b1 b2 (by simp); obtain ⟨d4, d5, f4, f5⟩ := HK.out.at (w.heap.size + 1 + 1) c1 c2 (by simp); clear HR3 _t hbz))
  have HK := hide (KeptS.start HK.out)
  have HK := hide (KeptP.start HK.out)
  go_upto_region 4 with fail
  rw [World.size_alloc] at HK
  obtain ⟨W0, hW0⟩ : ∃ W, W = (wz.alloc (.cells #[.bool true] 41)).alloc (.cells #[.pointer (some ⟨wz.heap.size, 0, none⟩)] 39) := ⟨_, rfl⟩
  rw [← hW0] at HK ⊢
  clear hW0
  obtain ⟨P, hP⟩ : ∃ A, A = wz.heap.size + 1 := ⟨_, rfl⟩
  rw [← hP] at HK ⊢
  clear hP
  generalize wz.heap.size = S at *
  obtain ⟨d0, d1, f0, f1⟩ := HK.out.at (w.heap.size) a1 a2 (by simp); obtain ⟨d2, d3, f2, f3⟩ := HK.out.at (w.heap.size + 1) b1 b2 (by simp); obtain ⟨d4, d5, f4, f5⟩ := HK.out.at (w.heap.size + 1 + 1) c1 c2 (by simp); have s0 := HK.out.ok; have s1 := HK.out.to
  have HK := hide HK.out.draw
  have HC : Hid (_ ∧ _ ∧ _) := ⟨HK.out.get (w.heap.size) a1 a2 (by simp), HK.out.get (w.heap.size + 1) b1 b2 (by simp), HK.out.get (w.heap.size + 1 + 1) c1 c2 (by simp)⟩
  have HQ : Hid (∀ o, _ ∧ _ ∧ _) := fun o => ⟨(HK.out.next o).get (w.heap.size) a1 a2 (by simp), (HK.out.next o).get (w.heap.size + 1) b1 b2 (by simp), (HK.out.next o).get (w.heap.size + 1 + 1) c1 c2 (by simp)⟩
  clear d0 f0 d1 f1 d2 f2 d3 f3 d4 f4 d5 f5 s0 s1
  go_upto_region 6 with fail
  simp only [List.append_eq, List.cons_append, List.nil_append]
  refine wp_region_held_drew (S := fun w' => (w'.cell? ⟨w.heap.size, 0, none⟩ = some (.string a1) ∧ w'.cell? ⟨w.heap.size, 1, none⟩ = some (.string a2)) ∧ (w'.cell? ⟨w.heap.size + 1, 0, none⟩ = some (.string b1) ∧ w'.cell? ⟨w.heap.size + 1, 1, none⟩ = some (.string b2)) ∧ (w'.cell? ⟨w.heap.size + 1 + 1, 0, none⟩ = some (.string c1) ∧ w'.cell? ⟨w.heap.size + 1 + 1, 1, none⟩ = some (.string c2))) (by kernel_rfl) ⟨HC.out.1, HC.out.2.1, HC.out.2.2⟩ (fun hHeld => ?_)
  refine wpAnyH_take (i := 0) (oi := ?zoi0) (v := ?zv0) ?zhi0 (by kernel_rfl) (by kernel_rfl) (by kernel_rfl) ?zhq0 ?zhy0 (by assumption) ?zrest0
  case zhi0 => simp only [List.getElem?_toArray, List.getElem?_cons_zero, List.getElem?_cons_succ]; rfl
  case zhq0 => exact fun _ _ _ h => h
  case zhy0 => refine Or.inl ⟨by rfl, ?_⟩; intro w hSw; (try dsimp only at hSw); go_simp; (try with_reducible rfl)
  try simp only [Act.put, List.setIfInBounds_toArray, List.set_cons_zero, List.set_cons_succ]
  refine wpAnyH_take (i := 1) (oi := ?zoi1) (v := ?zv1) ?zhi1 (by kernel_rfl) (by kernel_rfl) (by kernel_rfl) ?zhq1 ?zhy1 (by assumption) ?zrest1
  case zhi1 => simp only [List.getElem?_toArray, List.getElem?_cons_zero, List.getElem?_cons_succ]; rfl
  case zhq1 => exact fun _ _ _ h => h
  case zhy1 => refine Or.inl ⟨by rfl, ?_⟩; intro w hSw; (try dsimp only at hSw); go_simp; (try with_reducible rfl)
  try simp only [Act.put, List.setIfInBounds_toArray, List.set_cons_zero, List.set_cons_succ]
  refine wpAnyH_take (i := 2) (oi := ?zoi2) (v := ?zv2) ?zhi2 (by kernel_rfl) (by kernel_rfl) (by kernel_rfl) ?zhq2 ?zhy2 (by assumption) ?zrest2
  case zhi2 => simp only [List.getElem?_toArray, List.getElem?_cons_zero, List.getElem?_cons_succ]; rfl
  case zhq2 => exact fun _ _ _ h => h
  case zhy2 => refine Or.inl ⟨by rfl, ?_⟩; intro w hSw; (try dsimp only at hSw); go_simp; (try with_reducible rfl)
  try simp only [Act.put, List.setIfInBounds_toArray, List.set_cons_zero, List.set_cons_succ]
  refine wpAnyH_take (i := 4) (oi := ?zoi4) (v := ?zv4) ?zhi4 (by kernel_rfl) (by kernel_rfl) (by kernel_rfl) ?zhq4 ?zhy4 (by assumption) ?zrest4
  case zhi4 => simp only [List.getElem?_toArray, List.getElem?_cons_zero, List.getElem?_cons_succ]; rfl
  case zhq4 => exact fun _ _ _ h => h
  case zhy4 => refine Or.inl ⟨by rfl, ?_⟩; intro w hSw; (try dsimp only at hSw); go_simp; (try with_reducible rfl)
  try simp only [Act.put, List.setIfInBounds_toArray, List.set_cons_zero, List.set_cons_succ]
  refine wpAnyH_take (i := 5) (oi := ?zoi5) (v := ?zv5) ?zhi5 (by kernel_rfl) (by kernel_rfl) (by kernel_rfl) ?zhq5 ?zhy5 (by assumption) ?zrest5
  case zhi5 => simp only [List.getElem?_toArray, List.getElem?_cons_zero, List.getElem?_cons_succ]; rfl
  case zhq5 => exact fun _ _ _ h => h
  case zhy5 => refine Or.inl ⟨by rfl, ?_⟩; intro w hSw; (try dsimp only at hSw); go_simp; (try with_reducible rfl)
  try simp only [Act.put, List.setIfInBounds_toArray, List.set_cons_zero, List.set_cons_succ]
  refine wpAnyH_take (i := 6) (oi := ?zoi6) (v := ?zv6) ?zhi6 (by kernel_rfl) (by kernel_rfl) (by kernel_rfl) ?zhq6 ?zhy6 (by assumption) ?zrest6
  case zhi6 => simp only [List.getElem?_toArray, List.getElem?_cons_zero, List.getElem?_cons_succ]; rfl
  case zhq6 => exact fun _ _ _ h => h
  case zhy6 => refine Or.inl ⟨by rfl, ?_⟩; intro w hSw; (try dsimp only at hSw); go_simp; (try with_reducible rfl)
  try simp only [Act.put, List.setIfInBounds_toArray, List.set_cons_zero, List.set_cons_succ]
  refine wpAnyH_take (i := 9) (oi := ?zoi9) (v := ?zv9) ?zhi9 (by kernel_rfl) (by kernel_rfl) (by kernel_rfl) ?zhq9 ?zhy9 (by assumption) ?zrest9
  case zhi9 => simp only [List.getElem?_toArray, List.getElem?_cons_zero, List.getElem?_cons_succ]; rfl
  case zhq9 => exact fun _ _ _ h => h
  case zhy9 => refine Or.inl ⟨by rfl, ?_⟩; intro w hSw; (try dsimp only at hSw); go_simp; (try with_reducible rfl)
  try simp only [Act.put, List.setIfInBounds_toArray, List.set_cons_zero, List.set_cons_succ]
  refine wpAnyH_take (i := 10) (oi := ?zoi10) (v := ?zv10) ?zhi10 (by kernel_rfl) (by kernel_rfl) (by kernel_rfl) ?zhq10 ?zhy10 (by assumption) ?zrest10
  case zhi10 => simp only [List.getElem?_toArray, List.getElem?_cons_zero, List.getElem?_cons_succ]; rfl
  case zhq10 => exact fun _ _ _ h => h
  case zhy10 => refine Or.inl ⟨by rfl, ?_⟩; intro w hSw; (try dsimp only at hSw); go_simp; (try with_reducible rfl)
  try simp only [Act.put, List.setIfInBounds_toArray, List.set_cons_zero, List.set_cons_succ]
  refine wpAnyH_take (i := 11) (oi := ?zoi11) (v := ?zv11) ?zhi11 (by kernel_rfl) (by kernel_rfl) (by kernel_rfl) ?zhq11 ?zhy11 (by assumption) ?zrest11
  case zhi11 => simp only [List.getElem?_toArray, List.getElem?_cons_zero, List.getElem?_cons_succ]; rfl
  case zhq11 => exact fun _ _ _ h => h
  case zhy11 => refine Or.inl ⟨by rfl, ?_⟩; intro w hSw; (try dsimp only at hSw); go_simp; (try with_reducible rfl)
  try simp only [Act.put, List.setIfInBounds_toArray, List.set_cons_zero, List.set_cons_succ]
  refine wpAnyH_take (i := 13) (oi := ?zoi13) (v := ?zv13) ?zhi13 (by kernel_rfl) (by kernel_rfl) (by kernel_rfl) ?zhq13 ?zhy13 (by assumption) ?zrest13
  case zhi13 => simp only [List.getElem?_toArray, List.getElem?_cons_zero, List.getElem?_cons_succ]; rfl
  case zhq13 => exact fun _ _ _ h => h
  case zhy13 => refine Or.inl ⟨by rfl, ?_⟩; intro w hSw; (try dsimp only at hSw); go_simp; (try with_reducible rfl)
  try simp only [Act.put, List.setIfInBounds_toArray, List.set_cons_zero, List.set_cons_succ]
  refine wpAnyH_take (i := 14) (oi := ?zoi14) (v := ?zv14) ?zhi14 (by kernel_rfl) (by kernel_rfl) (by kernel_rfl) ?zhq14 ?zhy14 (by assumption) ?zrest14
  case zhi14 => simp only [List.getElem?_toArray, List.getElem?_cons_zero, List.getElem?_cons_succ]; rfl
  case zhq14 => exact fun _ _ _ h => h
  case zhy14 => refine Or.inl ⟨by rfl, ?_⟩; intro w hSw; (try dsimp only at hSw); go_simp; (try with_reducible rfl)
  try simp only [Act.put, List.setIfInBounds_toArray, List.set_cons_zero, List.set_cons_succ]
  refine wpAnyH_take (i := 15) (oi := ?zoi15) (v := ?zv15) ?zhi15 (by kernel_rfl) (by kernel_rfl) (by kernel_rfl) ?zhq15 ?zhy15 (by assumption) ?zrest15
  case zhi15 => simp only [List.getElem?_toArray, List.getElem?_cons_zero, List.getElem?_cons_succ]; rfl
  case zhq15 => exact fun _ _ _ h => h
  case zhy15 => refine Or.inl ⟨by rfl, ?_⟩; intro w hSw; (try dsimp only at hSw); go_simp; (try with_reducible rfl)
  try simp only [Act.put, List.setIfInBounds_toArray, List.set_cons_zero, List.set_cons_succ]
  refine wpAnyH_take (i := 18) (oi := ?zoi18) (v := ?zv18) ?zhi18 (by kernel_rfl) (by kernel_rfl) (by kernel_rfl) ?zhq18 ?zhy18 (by assumption) ?zrest18
  case zhi18 => simp only [List.getElem?_toArray, List.getElem?_cons_zero, List.getElem?_cons_succ]; rfl
  case zhq18 => exact fun _ _ _ h => h
  case zhy18 => refine Or.inl ⟨by rfl, ?_⟩; intro w hSw; (try dsimp only at hSw); go_simp; (try with_reducible rfl)
  try simp only [Act.put, List.setIfInBounds_toArray, List.set_cons_zero, List.set_cons_succ]
  refine wpAnyH_take (i := 19) (oi := ?zoi19) (v := ?zv19) ?zhi19 (by kernel_rfl) (by kernel_rfl) (by kernel_rfl) ?zhq19 ?zhy19 (by assumption) ?zrest19
  case zhi19 => simp only [List.getElem?_toArray, List.getElem?_cons_zero, List.getElem?_cons_succ]; rfl
  case zhq19 => exact fun _ _ _ h => h
  case zhy19 => refine Or.inl ⟨by rfl, ?_⟩; intro w hSw; (try dsimp only at hSw); go_simp; (try with_reducible rfl)
  try simp only [Act.put, List.setIfInBounds_toArray, List.set_cons_zero, List.set_cons_succ]
  refine wpAnyH_take (i := 20) (oi := ?zoi20) (v := ?zv20) ?zhi20 (by kernel_rfl) (by kernel_rfl) (by kernel_rfl) ?zhq20 ?zhy20 (by assumption) ?zrest20
  case zhi20 => simp only [List.getElem?_toArray, List.getElem?_cons_zero, List.getElem?_cons_succ]; rfl
  case zhq20 => exact fun _ _ _ h => h
  case zhy20 => refine Or.inl ⟨by rfl, ?_⟩; intro w hSw; (try dsimp only at hSw); go_simp; (try with_reducible rfl)
  try simp only [Act.put, List.setIfInBounds_toArray, List.set_cons_zero, List.set_cons_succ]
  refine wpAnyH_take (i := 21) (oi := ?zoi21) (v := ?zv21) ?zhi21 (by kernel_rfl) (by kernel_rfl) (by kernel_rfl) ?zhq21 ?zhy21 (by assumption) ?zrest21
  case zhi21 => simp only [List.getElem?_toArray, List.getElem?_cons_zero, List.getElem?_cons_succ]; rfl
  case zhq21 => exact fun _ _ _ h => h
  case zhy21 => refine Or.inl ⟨by rfl, ?_⟩; intro w hSw; (try dsimp only at hSw); go_simp; (try with_reducible rfl)
  try simp only [Act.put, List.setIfInBounds_toArray, List.set_cons_zero, List.set_cons_succ]
  refine wpAnyH_take (i := 23) (oi := ?zoi23) (v := ?zv23) ?zhi23 (by kernel_rfl) (by kernel_rfl) (by kernel_rfl) ?zhq23 ?zhy23 (by assumption) ?zrest23
  case zhi23 => simp only [List.getElem?_toArray, List.getElem?_cons_zero, List.getElem?_cons_succ]; rfl
  case zhq23 => exact fun _ _ _ h => h
  case zhy23 => refine Or.inl ⟨by rfl, ?_⟩; intro w hSw; (try dsimp only at hSw); go_simp; (try with_reducible rfl)
  try simp only [Act.put, List.setIfInBounds_toArray, List.set_cons_zero, List.set_cons_succ]
  refine wpAnyH_take (i := 25) (oi := ?zoi25) (v := ?zv25) ?zhi25 (by kernel_rfl) (by kernel_rfl) (by kernel_rfl) ?zhq25 ?zhy25 (by assumption) ?zrest25
  case zhi25 => simp only [List.getElem?_toArray, List.getElem?_cons_zero, List.getElem?_cons_succ]; rfl
  case zhq25 => exact fun _ _ _ h => h
  case zhy25 => refine Or.inl ⟨by rfl, ?_⟩; intro w hSw; (try dsimp only at hSw); go_simp; (try with_reducible rfl)
  try simp only [Act.put, List.setIfInBounds_toArray, List.set_cons_zero, List.set_cons_succ]
  refine wpAnyH_take (i := 26) (oi := ?zoi26) (v := ?zv26) ?zhi26 (by kernel_rfl) (by kernel_rfl) (by kernel_rfl) ?zhq26 ?zhy26 (by assumption) ?zrest26
  case zhi26 => simp only [List.getElem?_toArray, List.getElem?_cons_zero, List.getElem?_cons_succ]; rfl
  case zhq26 => exact fun _ _ _ h => h
  case zhy26 => refine Or.inl ⟨by rfl, ?_⟩; intro w hSw; (try dsimp only at hSw); go_simp; (try with_reducible rfl)
  try simp only [Act.put, List.setIfInBounds_toArray, List.set_cons_zero, List.set_cons_succ]
  refine wpAnyH_take (i := 27) (oi := ?zoi27) (v := ?zv27) ?zhi27 (by kernel_rfl) (by kernel_rfl) (by kernel_rfl) ?zhq27 ?zhy27 (by assumption) ?zrest27
  case zhi27 => simp only [List.getElem?_toArray, List.getElem?_cons_zero, List.getElem?_cons_succ]; rfl
  case zhq27 => exact fun _ _ _ h => h
  case zhy27 => refine Or.inl ⟨by rfl, ?_⟩; intro w hSw; (try dsimp only at hSw); go_simp; (try with_reducible rfl)
  try simp only [Act.put, List.setIfInBounds_toArray, List.set_cons_zero, List.set_cons_succ]
  refine wpAnyH_take (i := 28) (oi := ?zoi28) (v := ?zv28) ?zhi28 (by kernel_rfl) (by kernel_rfl) (by kernel_rfl) ?zhq28 ?zhy28 (by assumption) ?zrest28
  case zhi28 => simp only [List.getElem?_toArray, List.getElem?_cons_zero, List.getElem?_cons_succ]; rfl
  case zhq28 => exact fun _ _ _ h => h
  case zhy28 => refine Or.inl ⟨by rfl, ?_⟩; intro w hSw; (try dsimp only at hSw); go_simp; (try with_reducible rfl)
  try simp only [Act.put, List.setIfInBounds_toArray, List.set_cons_zero, List.set_cons_succ]
  refine wpAnyH_take (i := 29) (oi := ?zoi29) (v := ?zv29) ?zhi29 (by kernel_rfl) (by kernel_rfl) (by kernel_rfl) ?zhq29 ?zhy29 (by assumption) ?zrest29
  case zhi29 => simp only [List.getElem?_toArray, List.getElem?_cons_zero, List.getElem?_cons_succ]; rfl
  case zhq29 => exact fun _ _ _ h => h
  case zhy29 => refine Or.inl ⟨by rfl, ?_⟩; intro w hSw; (try dsimp only at hSw); go_simp; (try with_reducible rfl)
  try simp only [Act.put, List.setIfInBounds_toArray, List.set_cons_zero, List.set_cons_succ]
  refine wpAnyH_take (i := 33) (oi := ?zoi33) (v := ?zv33) ?zhi33 (by kernel_rfl) (by kernel_rfl) (by kernel_rfl) ?zhq33 ?zhy33 (by assumption) ?zrest33
  case zhi33 => simp only [List.getElem?_toArray, List.getElem?_cons_zero, List.getElem?_cons_succ]; rfl
  case zhq33 => exact fun _ _ _ h => h
  case zhy33 => refine Or.inl ⟨by rfl, ?_⟩; intro w hSw; (try dsimp only at hSw); go_simp; (try with_reducible rfl)
  try simp only [Act.put, List.setIfInBounds_toArray, List.set_cons_zero, List.set_cons_succ]
  refine wpAnyH_take (i := 34) (oi := ?zoi34) (v := ?zv34) ?zhi34 (by kernel_rfl) (by kernel_rfl) (by kernel_rfl) ?zhq34 ?zhy34 (by assumption) ?zrest34
  case zhi34 => simp only [List.getElem?_toArray, List.getElem?_cons_zero, List.getElem?_cons_succ]; rfl
  case zhq34 => exact fun _ _ _ h => h
  case zhy34 => refine Or.inl ⟨by rfl, ?_⟩; intro w hSw; (try dsimp only at hSw); go_simp; (try with_reducible rfl)
  try simp only [Act.put, List.setIfInBounds_toArray, List.set_cons_zero, List.set_cons_succ]
  refine wpAnyH_take (i := 35) (oi := ?zoi35) (v := ?zv35) ?zhi35 (by kernel_rfl) (by kernel_rfl) (by kernel_rfl) ?zhq35 ?zhy35 (by assumption) ?zrest35
  case zhi35 => simp only [List.getElem?_toArray, List.getElem?_cons_zero, List.getElem?_cons_succ]; rfl
  case zhq35 => exact fun _ _ _ h => h
  case zhy35 => refine Or.inl ⟨by rfl, ?_⟩; intro w hSw; (try dsimp only at hSw); go_simp; (try with_reducible rfl)
  try simp only [Act.put, List.setIfInBounds_toArray, List.set_cons_zero, List.set_cons_succ]
  refine wpAnyH_take (i := 36) (oi := ?zoi36) (v := ?zv36) ?zhi36 (by kernel_rfl) (by kernel_rfl) (by kernel_rfl) ?zhq36 ?zhy36 (by assumption) ?zrest36
  case zhi36 => simp only [List.getElem?_toArray, List.getElem?_cons_zero, List.getElem?_cons_succ]; rfl
  case zhq36 => exact fun _ _ _ h => h
  case zhy36 => refine Or.inl ⟨by rfl, ?_⟩; intro w hSw; (try dsimp only at hSw); go_simp; (try with_reducible rfl)
  try simp only [Act.put, List.setIfInBounds_toArray, List.set_cons_zero, List.set_cons_succ]
  refine wpAnyH_take (i := 38) (oi := ?zoi38) (v := ?zv38) ?zhi38 (by kernel_rfl) (by kernel_rfl) (by kernel_rfl) ?zhq38 ?zhy38 (by assumption) ?zrest38
  case zhi38 => simp only [List.getElem?_toArray, List.getElem?_cons_zero, List.getElem?_cons_succ]; rfl
  case zhq38 => exact fun _ _ _ h => h
  case zhy38 => refine Or.inl ⟨by rfl, ?_⟩; intro w hSw; (try dsimp only at hSw); go_simp; (try with_reducible rfl)
  try simp only [Act.put, List.setIfInBounds_toArray, List.set_cons_zero, List.set_cons_succ]
  refine wpAnyH_take (i := 40) (oi := ?zoi40) (v := ?zv40) ?zhi40 (by kernel_rfl) (by kernel_rfl) (by kernel_rfl) ?zhq40 ?zhy40 (by assumption) ?zrest40
  case zhi40 => simp only [List.getElem?_toArray, List.getElem?_cons_zero, List.getElem?_cons_succ]; rfl
  case zhq40 => exact fun _ _ _ h => h
  case zhy40 => refine Or.inl ⟨by rfl, ?_⟩; intro w hSw; (try dsimp only at hSw); go_simp; (try with_reducible rfl)
  try simp only [Act.put, List.setIfInBounds_toArray, List.set_cons_zero, List.set_cons_succ]
  refine wpAnyH_take (i := 41) (oi := ?zoi41) (v := ?zv41) ?zhi41 (by kernel_rfl) (by kernel_rfl) (by kernel_rfl) ?zhq41 ?zhy41 (by assumption) ?zrest41
  case zhi41 => simp only [List.getElem?_toArray, List.getElem?_cons_zero, List.getElem?_cons_succ]; rfl
  case zhq41 => exact fun _ _ _ h => h
  case zhy41 => refine Or.inl ⟨by rfl, ?_⟩; intro w hSw; (try dsimp only at hSw); go_simp; (try with_reducible rfl)
  try simp only [Act.put, List.setIfInBounds_toArray, List.set_cons_zero, List.set_cons_succ]
  refine wpAnyH_take (i := 42) (oi := ?zoi42) (v := ?zv42) ?zhi42 (by kernel_rfl) (by kernel_rfl) (by kernel_rfl) ?zhq42 ?zhy42 (by assumption) ?zrest42
  case zhi42 => simp only [List.getElem?_toArray, List.getElem?_cons_zero, List.getElem?_cons_succ]; rfl
  case zhq42 => exact fun _ _ _ h => h
  case zhy42 => refine Or.inl ⟨by rfl, ?_⟩; intro w hSw; (try dsimp only at hSw); go_simp; (try with_reducible rfl)
  try simp only [Act.put, List.setIfInBounds_toArray, List.set_cons_zero, List.set_cons_succ]
  refine wpAnyH_take (i := 43) (oi := ?zoi43) (v := ?zv43) ?zhi43 (by kernel_rfl) (by kernel_rfl) (by kernel_rfl) ?zhq43 ?zhy43 (by assumption) ?zrest43
  case zhi43 => simp only [List.getElem?_toArray, List.getElem?_cons_zero, List.getElem?_cons_succ]; rfl
  case zhq43 => exact fun _ _ _ h => h
  case zhy43 => refine Or.inl ⟨by rfl, ?_⟩; intro w hSw; (try dsimp only at hSw); go_simp; (try with_reducible rfl)
  try simp only [Act.put, List.setIfInBounds_toArray, List.set_cons_zero, List.set_cons_succ]
  refine wpAnyH_take (i := 44) (oi := ?zoi44) (v := ?zv44) ?zhi44 (by kernel_rfl) (by kernel_rfl) (by kernel_rfl) ?zhq44 ?zhy44 (by assumption) ?zrest44
  case zhi44 => simp only [List.getElem?_toArray, List.getElem?_cons_zero, List.getElem?_cons_succ]; rfl
  case zhq44 => exact fun _ _ _ h => h
  case zhy44 => refine Or.inl ⟨by rfl, ?_⟩; intro w hSw; (try dsimp only at hSw); go_simp; (try with_reducible rfl)
  try simp only [Act.put, List.setIfInBounds_toArray, List.set_cons_zero, List.set_cons_succ]
  refine wpAnyH_take (i := 48) (oi := ?zoi48) (v := ?zv48) ?zhi48 (by kernel_rfl) (by kernel_rfl) (by kernel_rfl) ?zhq48 ?zhy48 (by assumption) ?zrest48
  case zhi48 => simp only [List.getElem?_toArray, List.getElem?_cons_zero, List.getElem?_cons_succ]; rfl
  case zhq48 => exact fun _ _ _ h => h
  case zhy48 => refine Or.inl ⟨by rfl, ?_⟩; intro w hSw; (try dsimp only at hSw); go_simp; (try with_reducible rfl)
  try simp only [Act.put, List.setIfInBounds_toArray, List.set_cons_zero, List.set_cons_succ]
  refine wpAnyH_take (i := 49) (oi := ?zoi49) (v := ?zv49) ?zhi49 (by kernel_rfl) (by kernel_rfl) (by kernel_rfl) ?zhq49 ?zhy49 (by assumption) ?zrest49
  case zhi49 => simp only [List.getElem?_toArray, List.getElem?_cons_zero, List.getElem?_cons_succ]; rfl
  case zhq49 => exact fun _ _ _ h => h
  case zhy49 => refine Or.inl ⟨by rfl, ?_⟩; intro w hSw; (try dsimp only at hSw); go_simp; (try with_reducible rfl)
  try simp only [Act.put, List.setIfInBounds_toArray, List.set_cons_zero, List.set_cons_succ]
  refine wpAnyH_take (i := 50) (oi := ?zoi50) (v := ?zv50) ?zhi50 (by kernel_rfl) (by kernel_rfl) (by kernel_rfl) ?zhq50 ?zhy50 (by assumption) ?zrest50
  case zhi50 => simp only [List.getElem?_toArray, List.getElem?_cons_zero, List.getElem?_cons_succ]; rfl
  case zhq50 => exact fun _ _ _ h => h
  case zhy50 => refine Or.inl ⟨by rfl, ?_⟩; intro w hSw; (try dsimp only at hSw); go_simp; (try with_reducible rfl)
  try simp only [Act.put, List.setIfInBounds_toArray, List.set_cons_zero, List.set_cons_succ]
  refine wpAnyH_take (i := 51) (oi := ?zoi51) (v := ?zv51) ?zhi51 (by kernel_rfl) (by kernel_rfl) (by kernel_rfl) ?zhq51 ?zhy51 (by assumption) ?zrest51
  case zhi51 => simp only [List.getElem?_toArray, List.getElem?_cons_zero, List.getElem?_cons_succ]; rfl
  case zhq51 => exact fun _ _ _ h => h
  case zhy51 => refine Or.inl ⟨by rfl, ?_⟩; intro w hSw; (try dsimp only at hSw); go_simp; (try with_reducible rfl)
  try simp only [Act.put, List.setIfInBounds_toArray, List.set_cons_zero, List.set_cons_succ]
  refine wpAnyH_take (i := 52) (oi := ?zoi52) (v := ?zv52) ?zhi52 (by kernel_rfl) (by kernel_rfl) (by kernel_rfl) ?zhq52 ?zhy52 (by assumption) ?zrest52
  case zhi52 => simp only [List.getElem?_toArray, List.getElem?_cons_zero, List.getElem?_cons_succ]; rfl
  case zhq52 => exact fun _ _ _ h => h
  case zhy52 => refine Or.inl ⟨by rfl, ?_⟩; intro w hSw; (try dsimp only at hSw); go_simp; (try with_reducible rfl)
  try simp only [Act.put, List.setIfInBounds_toArray, List.set_cons_zero, List.set_cons_succ]
  refine wpAnyH_take (i := 55) (oi := ?zoi55) (v := ?zv55) ?zhi55 (by kernel_rfl) (by kernel_rfl) (by kernel_rfl) ?zhq55 ?zhy55 (by assumption) ?zrest55
  case zhi55 => simp only [List.getElem?_toArray, List.getElem?_cons_zero, List.getElem?_cons_succ]; rfl
  case zhq55 => exact fun _ _ _ h => h
  case zhy55 => refine Or.inl ⟨by rfl, ?_⟩; intro w hSw; (try dsimp only at hSw); go_simp; (try with_reducible rfl)
  try simp only [Act.put, List.setIfInBounds_toArray, List.set_cons_zero, List.set_cons_succ]
  refine wpAnyH_take (i := 56) (oi := ?zoi56) (v := ?zv56) ?zhi56 (by kernel_rfl) (by kernel_rfl) (by kernel_rfl) ?zhq56 ?zhy56 (by assumption) ?zrest56
  case zhi56 => simp only [List.getElem?_toArray, List.getElem?_cons_zero, List.getElem?_cons_succ]; rfl
  case zhq56 => exact fun _ _ _ h => h
  case zhy56 => refine Or.inl ⟨by rfl, ?_⟩; intro w hSw; (try dsimp only at hSw); go_simp; (try with_reducible rfl)
  try simp only [Act.put, List.setIfInBounds_toArray, List.set_cons_zero, List.set_cons_succ]
  refine wpAnyH_take (i := 57) (oi := ?zoi57) (v := ?zv57) ?zhi57 (by kernel_rfl) (by kernel_rfl) (by kernel_rfl) ?zhq57 ?zhy57 (by assumption) ?zrest57
  case zhi57 => simp only [List.getElem?_toArray, List.getElem?_cons_zero, List.getElem?_cons_succ]; rfl
  case zhq57 => exact fun _ _ _ h => h
  case zhy57 => refine Or.inl ⟨by rfl, ?_⟩; intro w hSw; (try dsimp only at hSw); go_simp; (try with_reducible rfl)
  try simp only [Act.put, List.setIfInBounds_toArray, List.set_cons_zero, List.set_cons_succ]
  refine wpAnyH_take (i := 58) (oi := ?zoi58) (v := ?zv58) ?zhi58 (by kernel_rfl) (by kernel_rfl) (by kernel_rfl) ?zhq58 ?zhy58 (by assumption) ?zrest58
  case zhi58 => simp only [List.getElem?_toArray, List.getElem?_cons_zero, List.getElem?_cons_succ]; rfl
  case zhq58 => exact fun _ _ _ h => h
  case zhy58 => refine Or.inl ⟨by rfl, ?_⟩; intro w hSw; (try dsimp only at hSw); go_simp; (try with_reducible rfl)
  try simp only [Act.put, List.setIfInBounds_toArray, List.set_cons_zero, List.set_cons_succ]
  refine wpAnyH_take (i := 60) (oi := ?zoi60) (v := ?zv60) ?zhi60 (by kernel_rfl) (by kernel_rfl) (by kernel_rfl) ?zhq60 ?zhy60 (by assumption) ?zrest60
  case zhi60 => simp only [List.getElem?_toArray, List.getElem?_cons_zero, List.getElem?_cons_succ]; rfl
  case zhq60 => exact fun _ _ _ h => h
  case zhy60 => refine Or.inl ⟨by rfl, ?_⟩; intro w hSw; (try dsimp only at hSw); go_simp; (try with_reducible rfl)
  try simp only [Act.put, List.setIfInBounds_toArray, List.set_cons_zero, List.set_cons_succ]
  refine wpAnyH_take (i := 61) (oi := ?zoi61) (v := ?zv61) ?zhi61 (by kernel_rfl) (by kernel_rfl) (by kernel_rfl) ?zhq61 ?zhy61 (by assumption) ?zrest61
  case zhi61 => simp only [List.getElem?_toArray, List.getElem?_cons_zero, List.getElem?_cons_succ]; rfl
  case zhq61 => exact fun _ _ _ h => h
  case zhy61 => refine Or.inl ⟨by rfl, ?_⟩; intro w hSw; (try dsimp only at hSw); go_simp; (try with_reducible rfl)
  try simp only [Act.put, List.setIfInBounds_toArray, List.set_cons_zero, List.set_cons_succ]
  refine wpAnyH_take (i := 62) (oi := ?zoi62) (v := ?zv62) ?zhi62 (by kernel_rfl) (by kernel_rfl) (by kernel_rfl) ?zhq62 ?zhy62 (by assumption) ?zrest62
  case zhi62 => simp only [List.getElem?_toArray, List.getElem?_cons_zero, List.getElem?_cons_succ]; rfl
  case zhq62 => exact fun _ _ _ h => h
  case zhy62 => refine Or.inl ⟨by rfl, ?_⟩; intro w hSw; (try dsimp only at hSw); go_simp; (try with_reducible rfl)
  try simp only [Act.put, List.setIfInBounds_toArray, List.set_cons_zero, List.set_cons_succ]
  refine wpAnyH_take (i := 66) (oi := ?zoi66) (v := ?zv66) ?zhi66 (by kernel_rfl) (by kernel_rfl) (by kernel_rfl) ?zhq66 ?zhy66 (by assumption) ?zrest66
  case zhi66 => simp only [List.getElem?_toArray, List.getElem?_cons_zero, List.getElem?_cons_succ]; rfl
  case zhq66 => exact fun _ _ _ h => h
  case zhy66 => refine Or.inl ⟨by rfl, ?_⟩; intro w hSw; (try dsimp only at hSw); go_simp; (try with_reducible rfl)
  try simp only [Act.put, List.setIfInBounds_toArray, List.set_cons_zero, List.set_cons_succ]
  refine wpAnyH_take (i := 67) (oi := ?zoi67) (v := ?zv67) ?zhi67 (by kernel_rfl) (by kernel_rfl) (by kernel_rfl) ?zhq67 ?zhy67 (by assumption) ?zrest67
  case zhi67 => simp only [List.getElem?_toArray, List.getElem?_cons_zero, List.getElem?_cons_succ]; rfl
  case zhq67 => exact fun _ _ _ h => h
  case zhy67 => refine Or.inl ⟨by rfl, ?_⟩; intro w hSw; (try dsimp only at hSw); go_simp; (try with_reducible rfl)
  try simp only [Act.put, List.setIfInBounds_toArray, List.set_cons_zero, List.set_cons_succ]
  refine wpAnyH_take (i := 70) (oi := ?zoi70) (v := ?zv70) ?zhi70 (by kernel_rfl) (by kernel_rfl) (by kernel_rfl) ?zhq70 ?zhy70 (by assumption) ?zrest70
  case zhi70 => simp only [List.getElem?_toArray, List.getElem?_cons_zero, List.getElem?_cons_succ]; rfl
  case zhq70 => exact fun _ _ _ h => h
  case zhy70 => refine Or.inl ⟨by rfl, ?_⟩; intro w hSw; (try dsimp only at hSw); go_simp; (try with_reducible rfl)
  try simp only [Act.put, List.setIfInBounds_toArray, List.set_cons_zero, List.set_cons_succ]
  refine wpAnyH_take (i := 72) (oi := ?zoi72) (v := ?zv72) ?zhi72 (by kernel_rfl) (by kernel_rfl) (by kernel_rfl) ?zhq72 ?zhy72 (by assumption) ?zrest72
  case zhi72 => simp only [List.getElem?_toArray, List.getElem?_cons_zero, List.getElem?_cons_succ]; rfl
  case zhq72 => exact fun _ _ _ h => h
  case zhy72 => refine Or.inl ⟨by rfl, ?_⟩; intro w hSw; (try dsimp only at hSw); go_simp; (try with_reducible rfl)
  try simp only [Act.put, List.setIfInBounds_toArray, List.set_cons_zero, List.set_cons_succ]
  refine wpAnyH_take (i := 73) (oi := ?zoi73) (v := ?zv73) ?zhi73 (by kernel_rfl) (by kernel_rfl) (by kernel_rfl) ?zhq73 ?zhy73 (by assumption) ?zrest73
  case zhi73 => simp only [List.getElem?_toArray, List.getElem?_cons_zero, List.getElem?_cons_succ]; rfl
  case zhq73 => exact fun _ _ _ h => h
  case zhy73 => refine Or.inl ⟨by rfl, ?_⟩; intro w hSw; (try dsimp only at hSw); go_simp; (try with_reducible rfl)
  try simp only [Act.put, List.setIfInBounds_toArray, List.set_cons_zero, List.set_cons_succ]
  refine wpAnyH_take (i := 76) (oi := ?zoi76) (v := ?zv76) ?zhi76 (by kernel_rfl) (by kernel_rfl) (by kernel_rfl) ?zhq76 ?zhy76 (by assumption) ?zrest76
  case zhi76 => simp only [List.getElem?_toArray, List.getElem?_cons_zero, List.getElem?_cons_succ]; rfl
  case zhq76 => exact fun _ _ _ h => h
  case zhy76 => refine Or.inl ⟨by rfl, ?_⟩; intro w hSw; (try dsimp only at hSw); go_simp; (try with_reducible rfl)
  try simp only [Act.put, List.setIfInBounds_toArray, List.set_cons_zero, List.set_cons_succ]
  refine wpAnyH_ready (rs := [3]) (by kernel_rfl) (by simp) ?_
  refine AllReadyH.cons (o := ?zoi3) ?zhi3 ?zrest3 AllReadyH.nil
  case zhi3 => simp only [List.getElem?_toArray, List.getElem?_cons_zero, List.getElem?_cons_succ]; rfl
  intro K hK
  go_simp
  go_at_call 19; with_reducible refine (C0.out _ _ _ HK.out).mono ?_
  rintro ec wz ⟨rfl, hbz⟩
  have HK := hide (HK.out.below hbz)
  have HC : Hid (_ ∧ _ ∧ _) := ⟨HK.out.get (w.heap.size) a1 a2 (by simp), HK.out.get (w.heap.size + 1) b1 b2 (by simp), HK.out.get (w.heap.size + 1 + 1) c1 c2 (by simp)⟩
  clear hbz
  try dsimp only
  refine hK.out _ _ ⟨HC.out.1, HC.out.2.1, HC.out.2.2⟩ (fun hHeld => ?_)
  clear hK K
  try simp only [Act.put, List.setIfInBounds_toArray, List.set_cons_zero, List.set_cons_succ]
  refine wpAnyH_ready (rs := [7]) (by kernel_rfl) (by simp) ?_
  refine AllReadyH.cons (o := ?zoi7) ?zhi7 ?zrest7 AllReadyH.nil
  case zhi7 => simp only [List.getElem?_toArray, List.getElem?_cons_zero, List.getElem?_cons_succ]; rfl
  intro K hK
  go_simp
  go_at_call 19; with_reducible refine (C1.out _ _ _ HK.out).mono ?_
  rintro ec wz ⟨rfl, hbz⟩
  have HK := hide (HK.out.below hbz)
  have HC : Hid (_ ∧ _ ∧ _) := ⟨HK.out.get (w.heap.size) a1 a2 (by simp), HK.out.get (w.heap.size + 1) b1 b2 (by simp), HK.out.get (w.heap.size + 1 + 1) c1 c2 (by simp)⟩
  clear hbz
  try dsimp only
  refine hK.out _ _ ⟨HC.out.1, HC.out.2.1, HC.out.2.2⟩ (fun hHeld => ?_)
  clear hK K
  try simp only [Act.put, List.setIfInBounds_toArray, List.set_cons_zero, List.set_cons_succ]
  refine wpAnyH_take (i := 8) (oi := ?zoi8) (v := ?zv8) ?zhi8 (by kernel_rfl) (by kernel_rfl) (by kernel_rfl) ?zhq8 ?zhy8 (by assumption) ?zrest8
  case zhi8 => simp only [List.getElem?_toArray, List.getElem?_cons_zero, List.getElem?_cons_succ]; rfl
  case zhq8 => exact fun _ _ _ h => h
  case zhy8 => refine Or.inl ⟨by rfl, ?_⟩; intro w hSw; (try dsimp only at hSw); go_simp; (try with_reducible rfl)
  try simp only [Act.put, List.setIfInBounds_toArray, List.set_cons_zero, List.set_cons_succ]
  refine wpAnyH_ready (rs := [12]) (by kernel_rfl) (by simp) ?_
  refine AllReadyH.cons (o := ?zoi12) ?zhi12 ?zrest12 AllReadyH.nil
  case zhi12 => simp only [List.getElem?_toArray, List.getElem?_cons_zero, List.getElem?_cons_succ]; rfl
  intro K hK
  go_simp
  go_at_call 22; with_reducible refine (C2.out _ _ _ HK.out).mono ?_
  rintro ec wz ⟨rfl, hbz⟩
  have HK := hide (HK.out.below hbz)
  have HC : Hid (_ ∧ _ ∧ _) := ⟨HK.out.get (w.heap.size) a1 a2 (by simp), HK.out.get (w.heap.size + 1) b1 b2 (by simp), HK.out.get (w.heap.size + 1 + 1) c1 c2 (by simp)⟩
  clear hbz
  try dsimp only
  refine hK.out _ _ ⟨HC.out.1, HC.out.2.1, HC.out.2.2⟩ (fun hHeld => ?_)
  clear hK K
  try simp only [Act.put, List.setIfInBounds_toArray, List.set_cons_zero, List.set_cons_succ]
  refine wpAnyH_ready (rs := [16]) (by kernel_rfl) (by simp) ?_
  refine AllReadyH.cons (o := ?zoi16) ?zhi16 ?zrest16 AllReadyH.nil
  case zhi16 => simp only [List.getElem?_toArray, List.getElem?_cons_zero, List.getElem?_cons_succ]; rfl
  intro K hK
  go_simp
  go_at_call 22; with_reducible refine (C3.out _ _ _ HK.out).mono ?_
  rintro ec wz ⟨rfl, hbz⟩
  have HK := hide (HK.out.below hbz)
  have HC : Hid (_ ∧ _ ∧ _) := ⟨HK.out.get (w.heap.size) a1 a2 (by simp), HK.out.get (w.heap.size + 1) b1 b2 (by simp), HK.out.get (w.heap.size + 1 + 1) c1 c2 (by simp)⟩
  clear hbz
  try dsimp only
  refine hK.out _ _ ⟨HC.out.1, HC.out.2.1, HC.out.2.2⟩ (fun hHeld => ?_)
  clear hK K
  try simp only [Act.put, List.setIfInBounds_toArray, List.set_cons_zero, List.set_cons_succ]
  refine wpAnyH_take (i := 17) (oi := ?zoi17) (v := ?zv17) ?zhi17 (by kernel_rfl) (by kernel_rfl) (by kernel_rfl) ?zhq17 ?zhy17 (by assumption) ?zrest17
  case zhi17 => simp only [List.getElem?_toArray, List.getElem?_cons_zero, List.getElem?_cons_succ]; rfl
  case zhq17 => exact fun _ _ _ h => h
  case zhy17 => refine Or.inl ⟨by rfl, ?_⟩; intro w hSw; (try dsimp only at hSw); go_simp; (try with_reducible rfl)
  try simp only [Act.put, List.setIfInBounds_toArray, List.set_cons_zero, List.set_cons_succ]
  refine wpAnyH_ready (rs := [22]) (by kernel_rfl) (by simp) ?_
  refine AllReadyH.cons (o := ?zoi22) ?zhi22 ?zrest22 AllReadyH.nil
  case zhi22 => simp only [List.getElem?_toArray, List.getElem?_cons_zero, List.getElem?_cons_succ]; rfl
  intro K hK
  go_simp
  go_at_call 19; with_reducible refine (C0.out _ _ _ HK.out).mono ?_
  rintro ec wz ⟨rfl, hbz⟩
  have HK := hide (HK.out.below hbz)
  have HC : Hid (_ ∧ _ ∧ _) := ⟨HK.out.get (w.heap.size) a1 a2 (by simp), HK.out.get (w.heap.size + 1) b1 b2 (by simp), HK.out.get (w.heap.size + 1 + 1) c1 c2 (by simp)⟩
  clear hbz
  try dsimp only
  refine hK.out _ _ ⟨HC.out.1, HC.out.2.1, HC.out.2.2⟩ (fun hHeld => ?_)
  clear hK K
  try simp only [Act.put, List.setIfInBounds_toArray, List.set_cons_zero, List.set_cons_succ]
  refine wpAnyH_ready (rs := [24]) (by kernel_rfl) (by simp) ?_
  refine AllReadyH.cons (o := ?zoi24) ?zhi24 ?zrest24 AllReadyH.nil
  case zhi24 => simp only [List.getElem?_toArray, List.getElem?_cons_zero, List.getElem?_cons_succ]; rfl
  intro K hK
  go_simp
  go_at_call 19; with_reducible refine (C4.out _ _ _ HK.out).mono ?_
  rintro ec wz ⟨rfl, hbz⟩
  have HK := hide (HK.out.below hbz)
  have HC : Hid (_ ∧ _ ∧ _) := ⟨HK.out.get (w.heap.size) a1 a2 (by simp), HK.out.get (w.heap.size + 1) b1 b2 (by simp), HK.out.get (w.heap.size + 1 + 1) c1 c2 (by simp)⟩
  clear hbz
  try dsimp only
  refine hK.out _ _ ⟨HC.out.1, HC.out.2.1, HC.out.2.2⟩ (fun hHeld => ?_)
  clear hK K
  try simp only [Act.put, List.setIfInBounds_toArray, List.set_cons_zero, List.set_cons_succ]
  refine wpAnyH_ready (rs := [30]) (by kernel_rfl) (by simp) ?_
  refine AllReadyH.cons (o := ?zoi30) ?zhi30 ?zrest30 AllReadyH.nil
  case zhi30 => simp only [List.getElem?_toArray, List.getElem?_cons_zero, List.getElem?_cons_succ]; rfl
  intro K hK
  go_simp
  go_at_call 19; with_reducible refine (C5.out _ _ _ HK.out).mono ?_
  rintro ec wz ⟨rfl, hbz⟩
  have HK := hide (HK.out.below hbz)
  have HC : Hid (_ ∧ _ ∧ _) := ⟨HK.out.get (w.heap.size) a1 a2 (by simp), HK.out.get (w.heap.size + 1) b1 b2 (by simp), HK.out.get (w.heap.size + 1 + 1) c1 c2 (by simp)⟩
  clear hbz
  try dsimp only
  refine hK.out _ _ ⟨HC.out.1, HC.out.2.1, HC.out.2.2⟩ (fun hHeld => ?_)
  clear hK K
  try simp only [Act.put, List.setIfInBounds_toArray, List.set_cons_zero, List.set_cons_succ]
  refine wpAnyH_ready (rs := [31]) (by kernel_rfl) (by simp) ?_
  refine AllReadyH.cons (o := ?zoi31) ?zhi31 ?zrest31 AllReadyH.nil
  case zhi31 => simp only [List.getElem?_toArray, List.getElem?_cons_zero, List.getElem?_cons_succ]; rfl
  intro K hK
  go_simp
  go_at_call 19; with_reducible refine (C6.out _ _ _ HK.out).mono ?_
  rintro ec wz ⟨rfl, hbz⟩
  have HK := hide (HK.out.below hbz)
  have HC : Hid (_ ∧ _ ∧ _) := ⟨HK.out.get (w.heap.size) a1 a2 (by simp), HK.out.get (w.heap.size + 1) b1 b2 (by simp), HK.out.get (w.heap.size + 1 + 1) c1 c2 (by simp)⟩
  clear hbz
  try dsimp only
  refine hK.out _ _ ⟨HC.out.1, HC.out.2.1, HC.out.2.2⟩ (fun hHeld => ?_)
  clear hK K
  try simp only [Act.put, List.setIfInBounds_toArray, List.set_cons_zero, List.set_cons_succ]
  refine wpAnyH_take (i := 32) (oi := ?zoi32) (v := ?zv32) ?zhi32 (by kernel_rfl) (by kernel_rfl) (by kernel_rfl) ?zhq32 ?zhy32 (by assumption) ?zrest32
  case zhi32 => simp only [List.getElem?_toArray, List.getElem?_cons_zero, List.getElem?_cons_succ]; rfl
  case zhq32 => exact fun _ _ _ h => h
  case zhy32 => refine Or.inl ⟨by rfl, ?_⟩; intro w hSw; (try dsimp only at hSw); go_simp; (try with_reducible rfl)
  try simp only [Act.put, List.setIfInBounds_toArray, List.set_cons_zero, List.set_cons_succ]
  refine wpAnyH_ready (rs := [37]) (by kernel_rfl) (by simp) ?_
  refine AllReadyH.cons (o := ?zoi37) ?zhi37 ?zrest37 AllReadyH.nil
  case zhi37 => simp only [List.getElem?_toArray, List.getElem?_cons_zero, List.getElem?_cons_succ]; rfl
  intro K hK
  go_simp
  go_at_call 22; with_reducible refine (C2.out _ _ _ HK.out).mono ?_
  rintro ec wz ⟨rfl, hbz⟩
  have HK := hide (HK.out.below hbz)
  have HC : Hid (_ ∧ _ ∧ _) := ⟨HK.out.get (w.heap.size) a1 a2 (by simp), HK.out.get (w.heap.size + 1) b1 b2 (by simp), HK.out.get (w.heap.size + 1 + 1) c1 c2 (by simp)⟩
  clear hbz
  try dsimp only
  refine hK.out _ _ ⟨HC.out.1, HC.out.2.1, HC.out.2.2⟩ (fun hHeld => ?_)
  clear hK K
  try simp only [Act.put, List.setIfInBounds_toArray, List.set_cons_zero, List.set_cons_succ]
  refine wpAnyH_ready (rs := [39]) (by kernel_rfl) (by simp) ?_
  refine AllReadyH.cons (o := ?zoi39) ?zhi39 ?zrest39 AllReadyH.nil
  case zhi39 => simp only [List.getElem?_toArray, List.getElem?_cons_zero, List.getElem?_cons_succ]; rfl
  intro K hK
  go_simp
  go_at_call 22; with_reducible refine (C7.out _ _ _ HK.out).mono ?_
  rintro ec wz ⟨rfl, hbz⟩
  have HK := hide (HK.out.below hbz)
  have HC : Hid (_ ∧ _ ∧ _) := ⟨HK.out.get (w.heap.size) a1 a2 (by simp), HK.out.get (w.heap.size + 1) b1 b2 (by simp), HK.out.get (w.heap.size + 1 + 1) c1 c2 (by simp)⟩
  clear hbz
  try dsimp only
  refine hK.out _ _ ⟨HC.out.1, HC.out.2.1, HC.out.2.2⟩ (fun hHeld => ?_)
  clear hK K
  try simp only [Act.put, List.setIfInBounds_toArray, List.set_cons_zero, List.set_cons_succ]
  refine wpAnyH_ready (rs := [45]) (by kernel_rfl) (by simp) ?_
  refine AllReadyH.cons (o := ?zoi45) ?zhi45 ?zrest45 AllReadyH.nil
  case zhi45 => simp only [List.getElem?_toArray, List.getElem?_cons_zero, List.getElem?_cons_succ]; rfl
  intro K hK
  go_simp
  go_at_call 22; with_reducible refine (C8.out _ _ _ HK.out).mono ?_
  rintro ec wz ⟨rfl, hbz⟩
  have HK := hide (HK.out.below hbz)
  have HC : Hid (_ ∧ _ ∧ _) := ⟨HK.out.get (w.heap.size) a1 a2 (by simp), HK.out.get (w.heap.size + 1) b1 b2 (by simp), HK.out.get (w.heap.size + 1 + 1) c1 c2 (by simp)⟩
  clear hbz
  try dsimp only
  refine hK.out _ _ ⟨HC.out.1, HC.out.2.1, HC.out.2.2⟩ (fun hHeld => ?_)
  clear hK K
  try simp only [Act.put, List.setIfInBounds_toArray, List.set_cons_zero, List.set_cons_succ]
  refine wpAnyH_ready (rs := [46]) (by kernel_rfl) (by simp) ?_
  refine AllReadyH.cons (o := ?zoi46) ?zhi46 ?zrest46 AllReadyH.nil
  case zhi46 => simp only [List.getElem?_toArray, List.getElem?_cons_zero, List.getElem?_cons_succ]; rfl
  intro K hK
  go_simp
  go_at_call 22; with_reducible refine (C9.out _ _ _ HK.out).mono ?_
  rintro ec wz ⟨rfl, hbz⟩
  have HK := hide (HK.out.below hbz)
  have HC : Hid (_ ∧ _ ∧ _) := ⟨HK.out.get (w.heap.size) a1 a2 (by simp), HK.out.get (w.heap.size + 1) b1 b2 (by simp), HK.out.get (w.heap.size + 1 + 1) c1 c2 (by simp)⟩
  clear hbz
  try dsimp only
  refine hK.out _ _ ⟨HC.out.1, HC.out.2.1, HC.out.2.2⟩ (fun hHeld => ?_)
  clear hK K
  try simp only [Act.put, List.setIfInBounds_toArray, List.set_cons_zero, List.set_cons_succ]
  refine wpAnyH_take (i := 47) (oi := ?zoi47) (v := ?zv47) ?zhi47 (by kernel_rfl) (by kernel_rfl) (by kernel_rfl) ?zhq47 ?zhy47 (by assumption) ?zrest47
  case zhi47 => simp only [List.getElem?_toArray, List.getElem?_cons_zero, List.getElem?_cons_succ]; rfl
  case zhq47 => exact fun _ _ _ h => h
  case zhy47 => refine Or.inl ⟨by rfl, ?_⟩; intro w hSw; (try dsimp only at hSw); go_simp; (try with_reducible rfl)
  try simp only [Act.put, List.setIfInBounds_toArray, List.set_cons_zero, List.set_cons_succ]
  refine wpAnyH_ready (rs := [53]) (by kernel_rfl) (by simp) ?_
  refine AllReadyH.cons (o := ?zoi53) ?zhi53 ?zrest53 AllReadyH.nil
  case zhi53 => simp only [List.getElem?_toArray, List.getElem?_cons_zero, List.getElem?_cons_succ]; rfl
  intro K hK
  go_simp
  go_at_call 19; with_reducible refine (C5.out _ _ _ HK.out).mono ?_
  rintro ec wz ⟨rfl, hbz⟩
  have HK := hide (HK.out.below hbz)
  have HC : Hid (_ ∧ _ ∧ _) := ⟨HK.out.get (w.heap.size) a1 a2 (by simp), HK.out.get (w.heap.size + 1) b1 b2 (by simp), HK.out.get (w.heap.size + 1 + 1) c1 c2 (by simp)⟩
  clear hbz
  try dsimp only
  refine hK.out _ _ ⟨HC.out.1, HC.out.2.1, HC.out.2.2⟩ (fun hHeld => ?_)
  clear hK K
  try simp only [Act.put, List.setIfInBounds_toArray, List.set_cons_zero, List.set_cons_succ]
  refine wpAnyH_ready (rs := [54]) (by kernel_rfl) (by simp) ?_
  refine AllReadyH.cons (o := ?zoi54) ?zhi54 ?zrest54 AllReadyH.nil
  case zhi54 => simp only [List.getElem?_toArray, List.getElem?_cons_zero, List.getElem?_cons_succ]; rfl
  intro K hK
  go_simp
  go_at_call 22; with_reducible refine (C10.out _ _ _ HK.out).mono ?_
  rintro ec wz ⟨rfl, hbz⟩
  have HK := hide (HK.out.below hbz)
  have HC : Hid (_ ∧ _ ∧ _) := ⟨HK.out.get (w.heap.size) a1 a2 (by simp), HK.out.get (w.heap.size + 1) b1 b2 (by simp), HK.out.get (w.heap.size + 1 + 1) c1 c2 (by simp)⟩
  clear hbz
  try dsimp only
  refine hK.out _ _ ⟨HC.out.1, HC.out.2.1, HC.out.2.2⟩ (fun hHeld => ?_)
  clear hK K
  try simp only [Act.put, List.setIfInBounds_toArray, List.set_cons_zero, List.set_cons_succ]
  refine wpAnyH_ready (rs := [59]) (by kernel_rfl) (by simp) ?_
  refine AllReadyH.cons (o := ?zoi59) ?zhi59 ?zrest59 AllReadyH.nil
  case zhi59 => simp only [List.getElem?_toArray, List.getElem?_cons_zero, List.getElem?_cons_succ]; rfl
  intro K hK
  go_simp
  go_at_call 22; with_reducible refine (C2.out _ _ _ HK.out).mono ?_
  rintro ec wz ⟨rfl, hbz⟩
  have HK := hide (HK.out.below hbz)
  have HC : Hid (_ ∧ _ ∧ _) := ⟨HK.out.get (w.heap.size) a1 a2 (by simp), HK.out.get (w.heap.size + 1) b1 b2 (by simp), HK.out.get (w.heap.size + 1 + 1) c1 c2 (by simp)⟩
  clear hbz
  try dsimp only
  refine hK.out _ _ ⟨HC.out.1, HC.out.2.1, HC.out.2.2⟩ (fun hHeld => ?_)
  clear hK K
  try simp only [Act.put, List.setIfInBounds_toArray, List.set_cons_zero, List.set_cons_succ]
  refine wpAnyH_ready (rs := [63]) (by kernel_rfl) (by simp) ?_
  refine AllReadyH.cons (o := ?zoi63) ?zhi63 ?zrest63 AllReadyH.nil
  case zhi63 => simp only [List.getElem?_toArray, List.getElem?_cons_zero, List.getElem?_cons_succ]; rfl
  intro K hK
  go_simp
  go_at_call 22; with_reducible refine (C11.out _ _ _ HK.out).mono ?_
  rintro ec wz ⟨rfl, hbz⟩
  have HK := hide (HK.out.below hbz)
  have HC : Hid (_ ∧ _ ∧ _) := ⟨HK.out.get (w.heap.size) a1 a2 (by simp), HK.out.get (w.heap.size + 1) b1 b2 (by simp), HK.out.get (w.heap.size + 1 + 1) c1 c2 (by simp)⟩
  clear hbz
  try dsimp only
  refine hK.out _ _ ⟨HC.out.1, HC.out.2.1, HC.out.2.2⟩ (fun hHeld => ?_)
  clear hK K
  try simp only [Act.put, List.setIfInBounds_toArray, List.set_cons_zero, List.set_cons_succ]
  refine wpAnyH_ready (rs := [64]) (by kernel_rfl) (by simp) ?_
  refine AllReadyH.cons (o := ?zoi64) ?zhi64 ?zrest64 AllReadyH.nil
  case zhi64 => simp only [List.getElem?_toArray, List.getElem?_cons_zero, List.getElem?_cons_succ]; rfl
  intro K hK
  go_simp
  go_at_call 19; with_reducible refine (C12.out _ _ _ HK.out).mono ?_
  rintro ec wz ⟨rfl, hbz⟩
  have HK := hide (HK.out.below hbz)
  have HC : Hid (_ ∧ _ ∧ _) := ⟨HK.out.get (w.heap.size) a1 a2 (by simp), HK.out.get (w.heap.size + 1) b1 b2 (by simp), HK.out.get (w.heap.size + 1 + 1) c1 c2 (by simp)⟩
  clear hbz
  try dsimp only
  refine hK.out _ _ ⟨HC.out.1, HC.out.2.1, HC.out.2.2⟩ (fun hHeld => ?_)
  clear hK K
  try simp only [Act.put, List.setIfInBounds_toArray, List.set_cons_zero, List.set_cons_succ]
  refine wpAnyH_take (i := 65) (oi := ?zoi65) (v := ?zv65) ?zhi65 (by kernel_rfl) (by kernel_rfl) (by kernel_rfl) ?zhq65 ?zhy65 (by assumption) ?zrest65
  case zhi65 => simp only [List.getElem?_toArray, List.getElem?_cons_zero, List.getElem?_cons_succ]; rfl
  case zhq65 => exact fun _ _ _ h => h
  case zhy65 => refine Or.inl ⟨by rfl, ?_⟩; intro w hSw; (try dsimp only at hSw); go_simp; (try with_reducible rfl)
  try simp only [Act.put, List.setIfInBounds_toArray, List.set_cons_zero, List.set_cons_succ]
  refine wpAnyH_ready (rs := [68]) (by kernel_rfl) (by simp) ?_
  refine AllReadyH.cons (o := ?zoi68) ?zhi68 ?zrest68 AllReadyH.nil
  case zhi68 => simp only [List.getElem?_toArray, List.getElem?_cons_zero, List.getElem?_cons_succ]; rfl
  intro K hK
  go_simp
  go_at_call 24; with_reducible refine (half_any _ _ _).mono ?_
  rintro ec wz ⟨rfl, hbz⟩
  have HK := hide (HK.out.below hbz)
  have HC : Hid (_ ∧ _ ∧ _) := ⟨HK.out.get (w.heap.size) a1 a2 (by simp), HK.out.get (w.heap.size + 1) b1 b2 (by simp), HK.out.get (w.heap.size + 1 + 1) c1 c2 (by simp)⟩
  clear hbz
  try dsimp only
  refine hK.out _ _ ⟨HC.out.1, HC.out.2.1, HC.out.2.2⟩ (fun hHeld => ?_)
  clear hK K
  try simp only [Act.put, List.setIfInBounds_toArray, List.set_cons_zero, List.set_cons_succ]
  refine wpAnyH_ready (rs := [69]) (by kernel_rfl) (by simp) ?_
  refine AllReadyH.cons (o := ?zoi69) ?zhi69 ?zrest69 AllReadyH.nil
  case zhi69 => simp only [List.getElem?_toArray, List.getElem?_cons_zero, List.getElem?_cons_succ]; rfl
  intro K hK
  go_simp
  go_at_call 19; with_reducible refine (C13.out _ _ _ HK.out).mono ?_
  rintro ec wz ⟨rfl, hbz⟩
  have HK := hide (HK.out.below hbz)
  have HC : Hid (_ ∧ _ ∧ _) := ⟨HK.out.get (w.heap.size) a1 a2 (by simp), HK.out.get (w.heap.size + 1) b1 b2 (by simp), HK.out.get (w.heap.size + 1 + 1) c1 c2 (by simp)⟩
  clear hbz
  try dsimp only
  refine hK.out _ _ ⟨HC.out.1, HC.out.2.1, HC.out.2.2⟩ (fun hHeld => ?_)
  clear hK K
  try simp only [Act.put, List.setIfInBounds_toArray, List.set_cons_zero, List.set_cons_succ]
  refine wpAnyH_take (i := 71) (oi := ?zoi71) (v := ?zv71) ?zhi71 (by kernel_rfl) (by kernel_rfl) (by kernel_rfl) ?zhq71 ?zhy71 (by assumption) ?zrest71
  case zhi71 => simp only [List.getElem?_toArray, List.getElem?_cons_zero, List.getElem?_cons_succ]; rfl
  case zhq71 => exact fun _ _ _ h => h
  case zhy71 => refine Or.inl ⟨by rfl, ?_⟩; intro w hSw; (try dsimp only at hSw); go_simp; (try with_reducible rfl)
  try simp only [Act.put, List.setIfInBounds_toArray, List.set_cons_zero, List.set_cons_succ]
  refine wpAnyH_ready (rs := [74]) (by kernel_rfl) (by simp) ?_
  refine AllReadyH.cons (o := ?zoi74) ?zhi74 ?zrest74 AllReadyH.nil
  case zhi74 => simp only [List.getElem?_toArray, List.getElem?_cons_zero, List.getElem?_cons_succ]; rfl
  intro K hK
  go_simp
  go_at_call 24; with_reducible refine (half_any _ _ _).mono ?_
  rintro ec wz ⟨rfl, hbz⟩
  have HK := hide (HK.out.below hbz)
  have HC : Hid (_ ∧ _ ∧ _) := ⟨HK.out.get (w.heap.size) a1 a2 (by simp), HK.out.get (w.heap.size + 1) b1 b2 (by simp), HK.out.get (w.heap.size + 1 + 1) c1 c2 (by simp)⟩
  clear hbz
  try dsimp only
  refine hK.out _ _ ⟨HC.out.1, HC.out.2.1, HC.out.2.2⟩ (fun hHeld => ?_)
  clear hK K
  try simp only [Act.put, List.setIfInBounds_toArray, List.set_cons_zero, List.set_cons_succ]
  refine wpAnyH_ready (rs := [75]) (by kernel_rfl) (by simp) ?_
  refine AllReadyH.cons (o := ?zoi75) ?zhi75 ?zrest75 AllReadyH.nil
  case zhi75 => simp only [List.getElem?_toArray, List.getElem?_cons_zero, List.getElem?_cons_succ]; rfl
  intro K hK
  go_simp
  go_at_call 22; with_reducible refine (C14.out _ _ _ HK.out).mono ?_
  rintro ec wz ⟨rfl, hbz⟩
  have HK := hide (HK.out.below hbz)
  have HC : Hid (_ ∧ _ ∧ _) := ⟨HK.out.get (w.heap.size) a1 a2 (by simp), HK.out.get (w.heap.size + 1) b1 b2 (by simp), HK.out.get (w.heap.size + 1 + 1) c1 c2 (by simp)⟩
  clear hbz
  try dsimp only
  refine hK.out _ _ ⟨HC.out.1, HC.out.2.1, HC.out.2.2⟩ (fun hHeld => ?_)
  clear hK K
  try simp only [Act.put, List.setIfInBounds_toArray, List.set_cons_zero, List.set_cons_succ]
  refine wpAnyH_take (i := 77) (oi := ?zoi77) (v := ?zv77) ?zhi77 (by kernel_rfl) (by kernel_rfl) (by kernel_rfl) ?zhq77 ?zhy77 (by assumption) ?zrest77
  case zhi77 => simp only [List.getElem?_toArray, List.getElem?_cons_zero, List.getElem?_cons_succ]; rfl
  case zhq77 => exact fun _ _ _ h => h
  case zhy77 => refine Or.inl ⟨by rfl, ?_⟩; intro w hSw; (try dsimp only at hSw); go_simp; (try with_reducible rfl)
  try simp only [Act.put, List.setIfInBounds_toArray, List.set_cons_zero, List.set_cons_succ]
  refine wpAnyH_ready (rs := [78]) (by kernel_rfl) (by simp) ?_
  refine AllReadyH.cons (o := ?zoi78) ?zhi78 ?zrest78 AllReadyH.nil
  case zhi78 => simp only [List.getElem?_toArray, List.getElem?_cons_zero, List.getElem?_cons_succ]; rfl
  intro K hK
  go_simp
  have HQ : Hid (∀ o, _ ∧ _ ∧ _) := fun o => ⟨(HK.out.next o).get (w.heap.size) a1 a2 (by simp), (HK.out.next o).get (w.heap.size + 1) b1 b2 (by simp), (HK.out.next o).get (w.heap.size + 1 + 1) c1 c2 (by simp)⟩
  try dsimp only
  refine hK.out _ _ ⟨(HQ.out _).1, (HQ.out _).2.1, (HQ.out _).2.2⟩ (fun hHeld => ?_)
  clear hK K
  try simp only [Act.put, List.setIfInBounds_toArray, List.set_cons_zero, List.set_cons_succ]
  refine wpAnyH_take (i := 79) (oi := ?zoi79) (v := ?zv79) ?zhi79 (by kernel_rfl) (by kernel_rfl) (by kernel_rfl) ?zhq79 ?zhy79 (by assumption) ?zrest79
  case zhi79 => simp only [List.getElem?_toArray, List.getElem?_cons_zero, List.getElem?_cons_succ]; rfl
  case zhq79 => exact fun _ _ _ h => h
  case zhy79 => refine Or.inl ⟨by rfl, ?_⟩; intro w hSw; (try dsimp only at hSw); go_simp; (try with_reducible rfl)
  try simp only [Act.put, List.setIfInBounds_toArray, List.set_cons_zero, List.set_cons_succ]
  refine wpAnyH_done (by kernel_rfl) ?_ _
  clear HC
  have HV : Hid (SliceR prB 4 All (wz.alloc (.cells #[.string s11, .string s12, .string s11, .string s12, .string m11, .string m12, .string m11, .string m12, .string s21, .string s22, .string s21, .string s22, .string m21, .string m22, .string m21, .string m22, .string m41, .string m42, .string m41, .string m42, .string a1, .string a2, .string a1, .string a2, .string a1, .string a2, .string a1, .string a2] 45)) (some ⟨wz.heap.size, 0, none⟩) [(s11, s12), (m11, m12), (s21, s22), (m21, m22), (m41, m42), (a1, a2), (a1, a2)]) := pairs_lit wz _ _ _ _ _ _ _ _ _ _ _ _ _ _ _
  have HK := hide (HK.out.next (.cells #[.string s11, .string s12, .string s11, .string s12, .string m11, .string m12, .string m11, .string m12, .string s21, .string s22, .string s21, .string s22, .string m21, .string m22, .string m21, .string m22, .string m41, .string m42, .string m41, .string m42, .string a1, .string a2, .string a1, .string a2, .string a1, .string a2, .string a1, .string a2] 45))
  obtain ⟨W1, hW1⟩ : ∃ W, W = wz.alloc (.cells #[.string s11, .string s12, .string s11, .string s12, .string m11, .string m12, .string m11, .string m12, .string s21, .string s22, .string s21, .string s22, .string m21, .string m22, .string m21, .string m22, .string m41, .string m42, .string m41, .string m42, .string a1, .string a2, .string a1, .string a2, .string a1, .string a2, .string a1, .string a2] 45) := ⟨_, rfl⟩
  obtain ⟨oa, hoa⟩ : ∃ A, A = some (⟨wz.heap.size, 0, none⟩ : Addr) := ⟨_, rfl⟩
  rw [← hW1] at HK HV ⊢
  rw [← hoa] at HV ⊢
  clear hW1 hoa
  obtain ⟨V, hV⟩ : ∃ V, V = [(s11, s12), (m11, m12), (s21, s22), (m21, m22), (m41, m42), (a1, a2), (a1, a2)] := ⟨_, rfl⟩
  rw [← hV] at HV HCK
  have HVL : Hid (V.length = 7) := by rw [hV]; rfl
  clear hV
  clear C0 C1 C2 C3 C4 C5 C6 C7 C8 C9 C10 C11 C12 C13 C14
  have hw0 := HK.out.low.size
  go_upto_region 8 with fail
  go_loopw [112] (fun i wr => ∃ k : Nat, k ≤ 7 ∧ i = .int .i64 k ∧ Hid (Below W1.heap.size W1 wr)) (fun i _ => 7 - (intOf i).toNat)
  case atStart => exact ⟨0, by omega, rfl, Below.refl _ _⟩
  case round =>
    obtain ⟨k, hk, rfl, HB⟩ := hrel
    have HK2 := hide (HK.out.below HB.out)
    by_cases hlt : k < 7
    · obtain ⟨x, y, hget, bk, off, rfl, c0, c1, c2, c3⟩ := (HV.out.below prB_ok HB.out).prb_at (i := k) (by rw [HVL.out]; exact hlt)
      have hk0 : (0 : Int) ≤ k := by omega
      have hk1 : (k : Int) < 7 := by omega
      have H1 : Hid (∀ W', Tbl W' → Calls Tryz.prog 25 #[.agg #[.string x, .string y]] W' fun e w' => e = .returned (.int .i64 0) ∧ Below W'.heap.size W' w') := HCK.out (x, y) (List.mem_of_getElem? hget)
      clear hget
      go_wp2_with (go_at_call 25; (with_reducible refine (H1.out _ (HT.out.below (HK2.out.next _).low)).mono ?_); rintro ec w5 ⟨rfl, hbz⟩; have HB5 := hide (below_then (bnew HB.out _) hbz); clear hbz)
      go_roundw
      case rel => exact ⟨k + 1, by omega, by go_num, HB5⟩
      case measure => simp [intOf]; omega
    · have hk7 : k = 7 := by omega
      subst hk7
      have s0 := HK2.out.ok
      have s1 := HK2.out.to
      go_wp2_with (go_at_call 11; (with_reducible refine (awake_any (HT.out.below HK2.out.low)).mono ?_); rintro ec w5 ⟨rfl, hbz⟩; have HK3 := hide (HK2.out.below hbz); clear hbz)
      go_ret
      exact ⟨rfl, HK3.out.low⟩
end Go.Proofs.YthpknfoahimopaaGreatDoor

set_option linter.unusedVariables false
set_option linter.unusedSimpArgs false
namespace Go.Proofs.YthpknfoahimopaaGreatDoor
open Go.RowKit Go.ChangeShapes Go.WideShapes Go.ChangeAt Go.Deep

theorem fractionRing_tbl {W : World} (hL : laidMetH Tryz.prog Rows.fractionRingRow.laid W) : Tbl W := by
  have h1 : laidMet Tryz.prog Rows.fractionRingRow.laid W := by
    rw [MakeChecks.laidMetH_plain _ _ _ (by kernel_rfl)] at hL
    exact hL
  exact tbl_of_laid (by kernel_rfl) h1
set_option maxRecDepth 100000 in
theorem fractionRing_lifted (os : Os) (started : os.Started) (H : Type) (enc : TypeId × Value → H) :
    ReturnsInHanded {} Tryz.checked os 4 .any (fun w args => (Rows.fractionRingSpec.pre enc Tryz.prog Tryz.f4 Rows.fractionRingRow.domain false w args ∧ laidMetH Tryz.prog Rows.fractionRingRow.laid w) ∧ sizedMet enc Tryz.prog Tryz.f4 (OpenSpec.ofChange Rows.fractionRingSpec) false w args)
      (Rows.fractionRingSpec.post enc Tryz.prog Tryz.f4 false true false false) := by
  refine returnsInHanded_of_change_and (C := Tryz.checked) (X := fun w _ => laidMetH Tryz.prog Rows.fractionRingRow.laid w) (fun _ _ _ hh h => h.of_heap hh) own_knob started (by kernel_rfl) Tryz.func4
    (ChangeSpec.witness_shaped (enc := enc) (C := Tryz.checked) (os := os) (X := fun w _ => laidMetH Tryz.prog Rows.fractionRingRow.laid w) false (World.laidAll Tryz.prog os Rows.fractionRingRow.laid) #[.agg #[.string ⟨#[]⟩, .string ⟨#[]⟩], .agg #[.string ⟨#[]⟩, .string ⟨#[]⟩], .agg #[.string ⟨#[]⟩, .string ⟨#[]⟩]] 8 (World.laidAll_os _ _ _)
      (World.shaped_of_ZipB (by kernel_rfl) (by kernel_rfl)) (by kernel_rfl) (by kernel_rfl) (by kernel_rfl)
      (by rw [MakeChecks.laidMetH_plain _ _ _ (by kernel_rfl)]; exact laidMet_laidAll _ (by kernel_rfl) (by kernel_rfl))) ?_
  intro W base args ds gs before hval0 hW _ hsz hL _
  have hval : ∀ (j : Nat) t v, Tryz.f4.params[j]? = some t → args[j]? = some v → Value.okWide Tryz.prog W .any base t v := hval0
  have hW' := hW
  obtain ⟨p, q, hA0, hV, rfl, _, _⟩ := hW
  have hA : DataW.TrodAll enc Tryz.prog W 0 (fun _ => true) true Tryz.f4.params.toList args.toList ds p := hA0
  rw [Tryz.params4] at hA hval hsz
  obtain ⟨v0, v1, v2, d0, d1, d2, p0, p1, p2, rfl, rfl, rfl, h0, h1, h2⟩ := trodAll_three hA
  obtain ⟨rfl, rfl⟩ := trodVars_none hV
  have HTB := fractionRing_tbl hL
  have hsz2 := hsz
  replace hsz2 : (DataW.weightsEach Tryz.prog [26, 26, 26] [d0, d1, d2]).all (· ≤ reachBytes) = true := hsz
  simp only [DataW.weightsEach, List.append_nil, List.all_append, Bool.and_eq_true] at hsz2
  have h0k := h0
  have h1k := h1
  have h2k := h2
  obtain ⟨l0, m0, rfl, b0, c0⟩ := open_fr (hval 0 26 v0 rfl rfl) h0 hsz2.1
  obtain ⟨l1, m1, rfl, b1, c1⟩ := open_fr (hval 1 26 v1 rfl rfl) h1 hsz2.2.1
  obtain ⟨l2, m2, rfl, b2, c2⟩ := open_fr (hval 2 26 v2 rfl rfl) h2 hsz2.2.2
  simp only [List.append_nil] at hW'
  have hlt0 : ∀ y ∈ p0, y.block < W.heap.size := fun y hy => by simpa using hW'.lt y (by simp [hy])
  have hlt1 : ∀ y ∈ p1, y.block < W.heap.size := fun y hy => by simpa using hW'.lt y (by simp [hy])
  have hlt2 : ∀ y ∈ p2, y.block < W.heap.size := fun y hy => by simpa using hW'.lt y (by simp [hy])
  refine (lring_any l0 m0 b0 c0 l1 m1 b1 c1 l2 m2 b2 c2 HTB).mono fun e W' ⟨he, hn⟩ => ?_
  subst he
  exact ⟨_, rfl, _, _, _, [], _, [], hW', trodAll_mk1 (shut_bool Tryz.underlying4 true), trodAll_mk3 (Below.trod laid_out (by kernel_rfl) (of_decide_eq_true (by kernel_rfl)) h0k hn hlt0) (Below.trod laid_out (by kernel_rfl) (of_decide_eq_true (by kernel_rfl)) h1k hn hlt1) (Below.trod laid_out (by kernel_rfl) (of_decide_eq_true (by kernel_rfl)) h2k hn hlt2), rfl, hn.frame _, fun h => by cases h⟩

theorem fractionRing_row : Rows.FractionRingSaid :=
  OpenClaim.holds_of_wide 4 Tryz.f4 rfl rfl rfl rfl rfl rfl rfl ⟨rfl, rfl, rfl, rfl, rfl⟩ rfl rfl rfl rfl rfl (by kernel_rfl) Tryz.func4 (by kernel_rfl)
    (of_decide_eq_true (by kernel_rfl)) (by unfold Func.isWrapper; first | (rw [if_pos (by decide +kernel)]; kernel_rfl) | (rw [if_neg (by decide +kernel)]; exact ⟨rfl, rfl⟩))
    (fun os started H enc _ => fractionRing_lifted os started H enc)
theorem fractionRing_holds : Rows.FractionRingCardSaid :=
  Claim7.holds_tied_plain_at .later [] [.data, .data, .data, .sentinel, .sentinel] true (true, "b82a1295ea715ae845548bcfbe437ee53315b98a501120c16e571b4cc909fde4") true
    fractionRing_row (fun _ h => by cases h) (by kernel_rfl) (fun _ h => by cases h) fractionRing_row_tie rfl ⟨rfl, rfl⟩ (by kernel_rfl) rfl
    (fun f fn hf hfn => by
      obtain rfl : f = 4 := Option.some.inj ((show Tryz.prog.funcNamed "sandpile/sandpilelaw02.FractionRing" = some 4 by kernel_rfl).symm.trans hf) |>.symm
      obtain rfl : fn = Tryz.f4 := (Option.some.inj (Tryz.func4.symm.trans hfn)).symm
      exact ⟨by kernel_rfl, fun j t ht => by
        rw [Tryz.params4] at ht
        have hm : t ∈ [26, 26, 26] := by simpa using Array.mem_of_getElem? ht
        have hall : ([26, 26, 26].all fun u => !Tryz.prog.wantsStandIn u) = true := by kernel_rfl
        exact (show Tryz.prog.wantsStandIn t = false by simpa using List.all_eq_true.1 hall t hm)⟩)
    (by kernel_rfl)
end Go.Proofs.YthpknfoahimopaaGreatDoor

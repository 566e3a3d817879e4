/-
  FractionReads: the row, and its card tied to the program's text (what start-up code lays). Printed by mkFrEnd.py.
  law02: FractionReads, the walk. Printed by mkLawRea.py.
  law02: short fractions, and what the package does with them; right.
-/
import Derived.Test.YthpknfoahimopaaGreatDoorF5
import Derived.Test.YthpknfoahimopaaGreatDoorRows
import Derived.Test.YthpknfoahimopaaGreatDoorCards
import Derived.Test.YthpknfoahimopaaGreatDoorTie
import Derived.Handed
import Derived.Lay
import Derived.SevenTiedAt
import Derived.MakeChecks

set_option linter.unusedVariables false
set_option linter.unusedSimpArgs false
set_option linter.unnecessarySimpa false
namespace Go.Proofs.YthpknfoahimopaaGreatDoor
open Go.RowKit

/-- A number of at most k digits. -/
def D (k : Nat) (z : Int) : Prop := (dgs z.natAbs).length ≤ k
theorem D.mono {j k : Nat} {z : Int} (h : D j z) (hk : j ≤ k) : D k z := Nat.le_trans h hk
theorem D.mul {j k : Nat} {x y : Int} (hx : D j x) (hy : D k y) : D (j + k) (x * y) := by
  unfold D at *
  rw [Int.natAbs_mul]
  have h1 := dgs_mul x.natAbs y.natAbs
  omega
theorem D.neg {k : Nat} {z : Int} (h : D k z) : D k (-z) := by unfold D; rw [Int.natAbs_neg]; exact h
theorem D.add {k : Nat} {x y : Int} (hx : D k x) (hy : D k y) : D (k + 1) (x + y) := Nat.le_trans (dgs_mono (Int.natAbs_add_le x y)) (dgs_add hx hy)
theorem D.sub {k : Nat} {x y : Int} (hx : D k x) (hy : D k y) : D (k + 1) (x - y) := by rw [Int.sub_eq_add_neg]; exact hx.add hy.neg
theorem D.lim {k : Nat} {z : Int} (h : D k z) (hk : k ≤ 1023) : Lim z := by
  have h1 := len_dgs z.natAbs
  unfold D at h
  show (txtN z.natAbs).length ≤ 1024
  omega
theorem D.fdiv {k : Nat} {x y : Int} (h : D k x) (hy : y ≠ 0) : D k (x.fdiv y) := Nat.le_trans (dgs_mono (fdiv_abs_le hy)) h
theorem lowG_ne {n d : Int} (h0 : d ≠ 0) : lowG n d ≠ 0 := by
  have hg0 : 0 < n.gcd d := Int.gcd_pos_of_ne_zero_right n h0
  unfold lowG
  split <;> omega
/-- A right fraction, its numbers of at most k digits. -/
structure FR (k : Nat) (x : Int × Int) : Prop where
  good : Good x.1 x.2
  num : D k x.1
  den : D k x.2
theorem FR.low {k : Nat} {n d : Int} (hn : D k n) (hd : D k d) (h0 : d ≠ 0) (hk : k ≤ 1023) : FR k (lowF n d) :=
  ⟨good_low (hn.lim hk) (hd.lim hk) h0, hn.fdiv (lowG_ne h0), hd.fdiv (lowG_ne h0)⟩
theorem FR.den0 {j k : Nat} {x y : Int × Int} (hx : FR j x) (hy : FR k y) : x.2 * y.2 ≠ 0 := hx.good.mul0 hy.good
theorem FR.ne {k : Nat} {x : Int × Int} (hx : FR k x) : x.2 ≠ 0 := by have := hx.good.low.1; omega
theorem comb_of {n m o d : Int} (h1 : Lim n) (h2 : Lim m) (h3 : Lim o) (h4 : Lim d) : combK n m o d = true := by
  unfold combK doE
  rw [decide_eq_true h1, decide_eq_true h2, decide_eq_true h3, decide_eq_true h4]
  rfl
theorem do_of {n d : Int} (h1 : Lim n) (h4 : Lim d) : doE (doE true n) d = true := by
  unfold doE
  rw [decide_eq_true h1, decide_eq_true h4]
  rfl
/-- The value of a fraction. -/
abbrev frA (x : Int × Int) : Value := .agg #[.string (strN (txtI x.1)), .string (strN (txtI x.2))]
theorem FR.cross {j k : Nat} {x y : Int × Int} (hx : FR j x) (hy : FR k y) : D (j + k) (x.1 * y.2) ∧ D (j + k) (y.1 * x.2) ∧ D (j + k) (x.2 * y.2) :=
  ⟨hx.num.mul hy.den, by rw [Nat.add_comm]; exact hy.num.mul hx.den, hx.den.mul hy.den⟩
theorem FR.add {j k : Nat} {x y : Int × Int} (hx : FR j x) (hy : FR k y) (h : j + k ≤ 1000) : FR (j + k + 1) (addF x y) ∧ ∀ w, Tbl w → Calls Tryz.prog 21 #[frA x, frA y] w fun e w' => e = .returned (.tuple #[frA (addF x y), .int .i64 0]) ∧ Below w.heap.size w w' := by
  obtain ⟨c1, c2, c3⟩ := hx.cross hy
  refine ⟨FR.low (c1.add c2) (c3.mono (by omega)) (hx.den0 hy) (by omega), fun w ht => ?_⟩
  have h5 := fadd_ok hx.good hy.good ht
  rw [comb_of (c1.lim (by omega)) (c2.lim (by omega)) ((c1.add c2).lim (by omega)) (c3.lim (by omega))] at h5
  exact h5
theorem FR.sub {j k : Nat} {x y : Int × Int} (hx : FR j x) (hy : FR k y) (h : j + k ≤ 1000) : FR (j + k + 1) (subF x y) ∧ ∀ w, Tbl w → Calls Tryz.prog 35 #[frA x, frA y] w fun e w' => e = .returned (.tuple #[frA (subF x y), .int .i64 0]) ∧ Below w.heap.size w w' := by
  obtain ⟨c1, c2, c3⟩ := hx.cross hy
  refine ⟨FR.low (c1.sub c2) (c3.mono (by omega)) (hx.den0 hy) (by omega), fun w ht => ?_⟩
  have h5 := fsub_ok hx.good hy.good ht
  rw [comb_of (c1.lim (by omega)) (c2.lim (by omega)) ((c1.sub c2).lim (by omega)) (c3.lim (by omega))] at h5
  exact h5
theorem FR.mul {j k : Nat} {x y : Int × Int} (hx : FR j x) (hy : FR k y) (h : j + k ≤ 1000) : FR (j + k) (mulF x y) ∧ ∀ w, Tbl w → Calls Tryz.prog 23 #[frA x, frA y] w fun e w' => e = .returned (.tuple #[frA (mulF x y), .int .i64 0]) ∧ Below w.heap.size w w' := by
  have c1 := hx.num.mul hy.num
  have c3 := hx.den.mul hy.den
  refine ⟨FR.low c1 c3 (hx.den0 hy) (by omega), fun w ht => ?_⟩
  have h5 := fmul_ok hx.good hy.good ht
  rw [do_of (c1.lim (by omega)) (c3.lim (by omega))] at h5
  exact h5
theorem FR.div {j k : Nat} {x y : Int × Int} (hx : FR j x) (hy : FR k y) (h : j + k ≤ 1000) (h0 : y.1 ≠ 0) : FR (j + k) (divF x y) ∧ ∀ w, Tbl w → Calls Tryz.prog 38 #[frA x, frA y] w fun e w' => e = .returned (.tuple #[frA (divF x y), .int .i64 0]) ∧ Below w.heap.size w w' := by
  have c1 := hx.num.mul hy.den
  have c3 := hx.den.mul hy.num
  refine ⟨FR.low c1 c3 (Int.mul_ne_zero hx.ne h0) (by omega), fun w ht => ?_⟩
  have h5 := fdiv_ok hx.good hy.good h0 ht
  rw [do_of (c1.lim (by omega)) (c3.lim (by omega))] at h5
  exact h5
theorem FR.cmp {j k : Nat} {x y : Int × Int} (hx : FR j x) (hy : FR k y) (h : j + k ≤ 1000) : ∀ w, Tbl w → Calls Tryz.prog 40 #[frA x, frA y] w fun e w' => e = .returned (.tuple #[.int .i64 (cmpF x y), .int .i64 0]) ∧ Below w.heap.size w w' := by
  obtain ⟨c1, c2, c3⟩ := hx.cross hy
  intro w ht
  have h5 := fcmp_ok hx.good hy.good ht
  unfold cmpV at h5
  rw [do_of (c1.lim (by omega)) (c2.lim (by omega))] at h5
  exact h5
theorem FR.check {k : Nat} {x : Int × Int} (hx : FR k x) : ∀ w, Tbl w → Calls Tryz.prog 25 #[frA x] w fun e w' => e = .returned (.int .i64 0) ∧ Below w.heap.size w w' := fun w ht => hx.good.check ht
theorem len40 {l : List UInt8} {z : Int} (hl : l = txtI z) (h : l.length ≤ 40) : D 40 z := by
  subst hl
  have h1 := dgs_le_len z.natAbs
  have h2 : (txtN z.natAbs).length ≤ (txtI z).length := by
    unfold txtI
    split
    · simp
    · exact Nat.le_refl _
  unfold D
  omega
/-- A short, right fraction. -/
def rightB (l m : List UInt8) : Bool := decide (l.length ≤ 40) && (decide (m.length ≤ 40) && (chkF l m == 0))
theorem rightB_ok {l m : List UInt8} (h : rightB l m = true) : ∃ x : Int × Int, l = txtI x.1 ∧ m = txtI x.2 ∧ FR 40 x := by
  unfold rightB at h
  simp only [Bool.and_eq_true, decide_eq_true_eq, beq_iff_eq] at h
  obtain ⟨h1, h2, h3⟩ := h
  obtain ⟨p, q, e1, e2, hg⟩ := chkF_good h3
  exact ⟨(p, q), e1, e2, hg, len40 e1 h1, len40 e2 h2⟩
set_option maxRecDepth 100000 in
set_option maxHeartbeats 4000000 in
theorem right_any (l m : List UInt8) (hl : l.length ≤ 140737488355328) (hm : m.length ≤ 140737488355328) (w : World) : Calls Tryz.prog 18 #[.agg #[.string (strN l), .string (strN m)]] w fun e w' => e = .returned (.bool (rightB l m)) ∧ Below w.heap.size w w' := by
  have H1 : Hid (∀ w', Calls Tryz.prog 33 #[.agg #[.string (strN l), .string (strN m)]] w' fun e w2 => e = .returned (.int .i64 (chkF l m)) ∧ Below w'.heap.size w' w2) := fun w' => rfcheck_any l m hl hm
  have hz1 : (strN l).size = l.length := rfl
  have hz2 : (strN m).size = m.length := rfl
  have HW : Hid (Below w.heap.size w (w.alloc (.cells #[.string (strN l), .string (strN m)] 26))) := bnew (Below.refl _ _) _
  obtain ⟨r, hr⟩ : ∃ r, r = rightB l m := ⟨_, rfl⟩
  rw [← hr]
  have HR := hide hr
  clear hr hl hm
  by_cases g1 : l.length ≤ 40
  · have q1 : decide ((l.length : Int) ≤ 40) = true := by simp; omega
    by_cases g2 : m.length ≤ 40
    · have q2 : decide ((m.length : Int) ≤ 40) = true := by simp; omega
      have HRV : Hid (r = (chkF l m == 0)) := by show _ = _; rw [HR.out]; unfold rightB; rw [decide_eq_true g1, decide_eq_true g2]; rfl
      generalize chkF l m = e at *
      clear g1 g2
      go_enter Tryz.func18, Tryz.ntmps18
      go_wp2_with (go_at_call 33; (with_reducible refine (H1.out _).mono ?_); rintro ec w5 ⟨rfl, hbz⟩; have HB := hide (below_then HW.out hbz); clear hbz)
      go_ret
      exact ⟨by rw [HRV.out]; rfl, HB.out⟩
    · have q2 : decide ((m.length : Int) ≤ 40) = false := by simp; omega
      have HRV : Hid (r = false) := by show _ = _; rw [HR.out]; unfold rightB; rw [decide_eq_true g1, decide_eq_false g2]; rfl
      clear g1 g2
      go_enter Tryz.func18, Tryz.ntmps18
      go_wp2_with fail
      go_ret
      exact ⟨by rw [HRV.out]; rfl, HW.out⟩
  · have q1 : decide ((l.length : Int) ≤ 40) = false := by simp; omega
    have HRV : Hid (r = false) := by show _ = _; rw [HR.out]; unfold rightB; rw [decide_eq_false g1]; rfl
    clear g1
    go_enter Tryz.func18, Tryz.ntmps18
    go_wp2_with fail
    go_ret
    exact ⟨by rw [HRV.out]; rfl, HW.out⟩
end Go.Proofs.YthpknfoahimopaaGreatDoor

set_option linter.unusedVariables false
set_option linter.unusedSimpArgs false
set_option linter.unnecessarySimpa false
namespace Go.Proofs.YthpknfoahimopaaGreatDoor
open Go.RowKit

theorem Kept.lt {w W : World} {l : List (Nat × ByteArray × ByteArray)} (h : Kept w W l) (A : Nat) (a b : ByteArray) (hx : (A, a, b) ∈ l) : A < W.heap.size := (h.2 _ hx).lt
theorem Kept.box {w W : World} {l : List (Nat × ByteArray × ByteArray)} (h : Kept w W l) (A : Nat) (a b : ByteArray) (hx : (A, a, b) ∈ l) : Box W A [.string a, .string b] 26 := h.2 _ hx
theorem Kept.put {w W : World} {pre post : List (Nat × ByteArray × ByteArray)} {A : Nat} {a b : ByteArray} (h : Kept w W (pre ++ (A, a, b) :: post)) (c d : ByteArray) (hge : w.heap.size ≤ A) (hne : ∀ x ∈ pre ++ post, x.1 ≠ A) : Kept w ((W.setCell ⟨A, 0, none⟩ (.string c)).setCell ⟨A, 1, none⟩ (.string d)) (pre ++ (A, c, d) :: post) := by
  refine ⟨(h.1.setCell (p := ⟨A, 0, none⟩) hge _).setCell (p := ⟨A, 1, none⟩) hge _, fun x hx => ?_⟩
  have key : ∀ x ∈ pre ++ post, Box ((W.setCell ⟨A, 0, none⟩ (.string c)).setCell ⟨A, 1, none⟩ (.string d)) x.1 [.string x.2.1, .string x.2.2] 26 := fun x hx => by
    have h5 : x ∈ pre ++ (A, a, b) :: post := by
      rcases List.mem_append.1 hx with h6 | h6
      · exact List.mem_append_left _ h6
      · exact List.mem_append_right _ (List.mem_cons_of_mem _ h6)
    exact ((h.2 x h5).other (p := ⟨A, 0, none⟩) (hne x hx) _).other (p := ⟨A, 1, none⟩) (hne x hx) _
  rcases List.mem_append.1 hx with h6 | h6
  · exact key x (List.mem_append_left _ h6)
  · rcases List.mem_cons.1 h6 with rfl | h6
    · exact ((h.2 (A, a, b) (by simp)).put 0 (.string c)).put 1 (.string d)
    · exact key x (List.mem_append_right _ h6)
theorem Kept.two (w : World) (s t u v : ByteArray) : Kept w (W2b w s t u v) [(w.heap.size + 1, u, v), (w.heap.size, s, t)] := by
  have h5 := ((Kept.nil w).push s t).push u v
  rw [World.size_alloc] at h5
  exact h5
theorem Kept.drop {w W : World} {x : Nat × ByteArray × ByteArray} {l : List (Nat × ByteArray × ByteArray)} (h : Kept w W (x :: l)) : Kept w W l := ⟨h.1, fun y hy => h.2 y (List.mem_cons_of_mem _ hy)⟩
theorem Kept.head {w W : World} {A : Nat} {a b : ByteArray} {l : List (Nat × ByteArray × ByteArray)} (h : Kept w W ((A, a, b) :: l)) : W.cell? ⟨A, 0, none⟩ = some (.string a) ∧ W.cell? ⟨A, 1, none⟩ = some (.string b) ∧ W.frozen? ⟨A, 0, none⟩ = false ∧ W.frozen? ⟨A, 1, none⟩ = false := (h.2 (A, a, b) (by simp)).two
theorem txtI_no47 (z : Int) : ∀ c ∈ txtI z, c ≠ 47 := by
  intro c hc
  unfold txtI at hc
  split at hc
  · rcases List.mem_cons.1 hc with rfl | h
    · decide
    · rintro rfl
      exact absurd (txtN_dgt _ _ h).1 (by decide)
  · rintro rfl
    exact absurd (txtN_dgt _ _ hc).1 (by decide)
theorem split_no : ∀ {l : List UInt8}, (∀ c ∈ l, c ≠ 47) → splitS l = (l, none)
  | [], _ => rfl
  | c :: r, h => by
    unfold splitS
    rw [if_neg (h c (by simp)), split_no fun d hd => h d (by simp [hd])]
theorem split_at : ∀ {l m : List UInt8}, (∀ c ∈ l, c ≠ 47) → splitS (l ++ 47 :: m) = (l, some m)
  | [], m, _ => by
    show splitS (47 :: m) = _
    unfold splitS
    rw [if_pos rfl]
  | c :: r, m, h => by
    show splitS (c :: (r ++ 47 :: m)) = _
    unfold splitS
    rw [if_neg (h c (by simp)), split_at fun d hd => h d (by simp [hd])]
theorem par_txt {p q : Int} (h : Good p q) : parV (txtF p q) = frT (strN (txtI p)) (strN (txtI q)) 0 := by
  have hc := h.chkL
  have h1 := chk_lim h.num
  have h2 := chk_lim h.den
  by_cases hq : q = 1
  · have e : splitS (txtF p q) = (txtI p, none) := by unfold txtF; rw [if_pos hq]; exact split_no (txtI_no47 p)
    have e2 : txtI q = [49] := by rw [hq]; exact txtI_one
    have hE : parE (txtF p q) = 0 := by
      unfold parE parN parD
      rw [e]
      simp only [Option.getD_none, reduceCtorEq, or_false]
      rw [← e2, h1, h2, if_neg (by simp)]
      exact hc
    unfold parV
    rw [hE, if_pos rfl]
    unfold parN parD
    rw [e]
    simp only [Option.getD_none]
    rw [e2]
  · have e : splitS (txtF p q) = (txtI p, some (txtI q)) := by unfold txtF; rw [if_neg hq]; exact split_at (txtI_no47 p)
    have e2 : ¬ txtI q = [49] := fun h5 => hq (txtI_inj (h5.trans txtI_one.symm))
    have hE : parE (txtF p q) = 0 := by
      unfold parE parN parD
      rw [e]
      simp only [Option.getD_some, Option.some.injEq]
      rw [h1, h2, if_neg (by simp [e2])]
      exact hc
    unfold parV
    rw [hE, if_pos rfl]
    unfold parN parD
    rw [e]
    rfl
theorem txtF_len {x : Int × Int} (h : FR 40 x) : (strN (txtF x.1 x.2)).size ≤ 140737488355328 := by
  have h1 := lim_size h.good.num
  have h2 := lim_size h.good.den
  have a1 := txtI_len x.1
  have a2 := txtI_len x.2
  have b1 : lenI x.1 ≤ 1024 := h.good.num
  have b2 : lenI x.2 ≤ 1024 := h.good.den
  show (txtF x.1 x.2).length ≤ _
  unfold txtF
  split
  · omega
  · rw [List.length_append, List.length_cons]
    omega
theorem fr_one {m : Int} {k : Nat} (h : D k m) (hk : 1 ≤ k) (hk2 : k ≤ 1023) : FR k (m, 1) := by
  exact ⟨⟨h.lim hk2, lim_small (by omega), ⟨(by decide : (0 : Int) < 1), (by show m.gcd 1 = 1; simp)⟩⟩, h, Nat.le_trans (dgs_lt (n := 1) (k := 1) (by decide)) hk⟩
set_option maxRecDepth 100000 in
set_option maxHeartbeats 4000000 in
theorem lreads_any (l m : List UInt8) (hl : l.length ≤ 140737488355328) (hm : m.length ≤ 140737488355328) (n : Int) (hn : 0 ≤ n ∧ n ≤ 65535) {w : World} (htb : Tbl w) : Calls Tryz.prog 8 #[.agg #[.string (strN l), .string (strN m)], .int .u16 n] w fun e w' => e = .returned (.bool true) ∧ Below w.heap.size w w' := by
  have hrt := fun w => right_any l m hl hm w
  have HT := hide htb
  have HK := hide ((Kept.nil w).push (strN l) (strN m))
  have eqg := eqGuard_fr
  have eqs := eq_self
  have nes := neq_self
  have wz0 : IntKind.i64.wrap 0 = 0 := rfl
  have HRT := hide hrt
  have HOK : Hid (rightB l m = true → ∃ x : Int × Int, l = txtI x.1 ∧ m = txtI x.2 ∧ FR 40 x) := rightB_ok
  clear hrt htb hl hm
  generalize rightB l m = r at *
  cases r
  · clear HOK
    generalize strN l = sp at *
    generalize strN m = sq at *
    go_enter Tryz.func8, Tryz.ntmps8
    go_wp2_with (first
      | (go_at_call 18; (with_reducible refine (HRT.out _).mono ?_); rintro ec wz ⟨rfl, hbz⟩; have HK := hide (HK.out.below hbz); obtain ⟨d0, d1⟩ := HK.out.get w.heap.size sp sq (by simp); clear hbz)
      | (go_at_call 11; (with_reducible refine (awake_any (HT.out.below HK.out.low)).mono ?_); rintro ec wz ⟨rfl, hbz⟩; have HK := hide (HK.out.below hbz); clear hbz))
    go_ret
    exact ⟨rfl, HK.out.low⟩
  · obtain ⟨x, rfl, rfl, hx⟩ := HOK.out rfl
    have hkb : Lim (-1 - n) := lim_i64 ⟨by omega, by omega⟩
    have hkd : D 5 (-1 - n) := dgs_lt (by omega)
    have hk0 : -1 - n ≠ 0 := by omega
    have HTX : Hid (∀ w', Tbl w' → Calls Tryz.prog 31 #[frA x] w' fun e w2 => e = .returned (.tuple #[.string (strN (txtF x.1 x.2)), .int .i64 0]) ∧ Below w'.heap.size w' w2) := fun w' h => ftext_ok hx.good h
    have HPS : Hid (∀ w', Tbl w' → Calls Tryz.prog 14 #[.string (strN (txtF x.1 x.2))] w' fun e w2 => e = .returned (frT (strN (txtI x.1)) (strN (txtI x.2)) 0) ∧ Below w'.heap.size w' w2) := fun w' h => by
      have h5 := fparse_any (strN (txtF x.1 x.2)) (txtF_len hx) h
      rw [strN_data, par_txt hx.good] at h5
      exact h5
    have HOF : Hid (∀ w', Tbl w' → Calls Tryz.prog 43 #[.int .i64 (-1 - n)] w' fun e w2 => e = .returned (.string (strN (txtI (-1 - n)))) ∧ Below w'.heap.size w' w2) := fun w' h => iof_any ⟨by omega, by omega⟩ h
    have HM1 : Hid (∀ w', Tbl w' → Calls Tryz.prog 44 #[.string (strN (txtI x.1)), .string (strN (txtI (-1 - n)))] w' fun e w2 => e = .returned (.tuple #[.string (strN (txtI (x.1 * (-1 - n)))), .int .i64 0]) ∧ Below w'.heap.size w' w2) := fun w' h => by
      rw [← resI_lim ((hx.num.mul hkd).lim (by omega))]
      exact imul_any hx.good.num hkb h
    have HM2 : Hid (∀ w', Tbl w' → Calls Tryz.prog 44 #[.string (strN (txtI x.2)), .string (strN (txtI (-1 - n)))] w' fun e w2 => e = .returned (.tuple #[.string (strN (txtI (x.2 * (-1 - n)))), .int .i64 0]) ∧ Below w'.heap.size w' w2) := fun w' h => by
      rw [← resI_lim ((hx.den.mul hkd).lim (by omega))]
      exact imul_any hx.good.den hkb h
    have HMK : Hid (∀ w', Tbl w' → Calls Tryz.prog 12 #[.string (strN (txtI (x.1 * (-1 - n)))), .string (strN (txtI (x.2 * (-1 - n))))] w' fun e w2 => e = .returned (frT (strN (txtI x.1)) (strN (txtI x.2)) 0) ∧ Below w'.heap.size w' w2) := fun w' h => by
      have h5 := fmake_lim ((hx.num.mul hkd).lim (by omega)) ((hx.den.mul hkd).lim (by omega)) h
      unfold makeV at h5
      rw [if_neg (Int.mul_ne_zero hx.ne hk0), lowF_mul hx.good.low hk0] at h5
      exact h5
    have HFL : Hid (∀ w', Tbl w' → Calls Tryz.prog 29 #[frA x] w' fun e w2 => e = .returned (.tuple #[.string (strN (txtI (x.1.fdiv x.2))), .int .i64 0]) ∧ Below w'.heap.size w' w2) := fun w' h => ffloor_ok hx.good h
    have hmf : FR 40 (x.1.fdiv x.2, 1) := fr_one (hx.num.fdiv hx.ne) (by omega) (by omega)
    obtain ⟨hz, hsb⟩ := hx.sub hmf (by omega)
    have HSB := hide hsb
    obtain ⟨hf1, hf2⟩ := floor_rest hx.good.low
    have hc1 := hz.cmp (fr_one (m := 0) (k := 1) (by exact Nat.le_trans (dgs_lt (k := 1) (by decide)) (Nat.le_refl _)) (by omega) (by omega)) (by omega)
    have hc2 := hz.cmp (fr_one (m := 1) (k := 1) (by exact Nat.le_trans (dgs_lt (k := 1) (by decide)) (Nat.le_refl _)) (by omega) (by omega)) (by omega)
    simp only [frA] at hc1 hc2 HSB HTX HFL
    rw [show strN (txtI 0) = ⟨#[48]⟩ from rfl, txt_p1] at hc1
    rw [txt_p1] at hc2
    rw [txt_p1] at HSB
    have HC1 := hide hc1
    have HC2 := hide hc2
    unfold frT at HPS HMK
    generalize cmpF (subF x (x.1.fdiv x.2, 1)) (0, 1) = g1 at *
    generalize cmpF (subF x (x.1.fdiv x.2, 1)) (1, 1) = g2 at *
    generalize strN (txtI (subF x (x.1.fdiv x.2, 1)).1) = z1 at *
    generalize strN (txtI (subF x (x.1.fdiv x.2, 1)).2) = z2 at *
    generalize strN (txtI (x.1.fdiv x.2)) = sf at *
    generalize strN (txtF x.1 x.2) = st at *
    generalize strN (txtI (x.1 * (-1 - n))) = k1 at *
    generalize strN (txtI (x.2 * (-1 - n))) = k2 at *
    generalize strN (txtI (-1 - n)) = sk at *
    generalize strN (txtI x.1) = sp at *
    generalize strN (txtI x.2) = sq at *
    have q1 : decide (0 ≤ g1) = true := by simpa using hf1
    have q2 : decide (g2 < 0) = true := by simpa using hf2
    have wn : IntKind.i64.wrap (-1 - n) = -1 - n := IntWalk.i64_in _ (by omega)
    clear hx hkb hkd hk0 hz hsb hmf hf1 hf2 hc1 hc2 HOK
    go_enter Tryz.func8, Tryz.ntmps8
    go_upto_region 4 with (first
      | (go_at_call 18; (with_reducible refine (HRT.out _).mono ?_); rintro ec wz ⟨rfl, hbz⟩; have HK := hide (HK.out.below hbz); obtain ⟨d0, d1⟩ := HK.out.get w.heap.size sp sq (by simp); clear hbz)
      | (go_at_call 31; (with_reducible refine (HTX.out _ (HT.out.below HK.out.low)).mono ?_); rintro ec wz ⟨rfl, hbz⟩; have HK := hide (HK.out.below hbz); obtain ⟨d0, d1⟩ := HK.out.get w.heap.size sp sq (by simp); clear hbz))
    go_upto_region 5 with (go_at_call 14; (with_reducible refine (HPS.out _ (HT.out.below HK.out.low)).mono ?_); rintro ec w1 ⟨rfl, hbz⟩; have HK := hide (HK.out.below hbz); obtain ⟨d0, d1⟩ := HK.out.get w.heap.size sp sq (by simp); clear hbz)
    have o0_1 : w.heap.size < w1.heap.size := HK.out.lt w.heap.size sp sq (by simp)
    have g1 : w.heap.size ≤ w1.heap.size := HK.out.low.size
    have HK := hide (HK.out.push sp sq)
    obtain ⟨A1, hA1⟩ : ∃ A, A = w1.heap.size := ⟨_, rfl⟩
    obtain ⟨W1, hW1⟩ : ∃ W, W = w1.alloc (.cells #[.string sp, .string sq] 26) := ⟨_, rfl⟩
    rw [← hA1, ← hW1] at HK ⊢
    rw [← hA1] at o0_1
    rw [← hA1] at g1
    clear hA1 hW1
    obtain ⟨d0, d1⟩ := HK.out.get w.heap.size sp sq (by simp); obtain ⟨d2, d3⟩ := HK.out.get A1 sp sq (by simp)
    go_upto_region 8 with (go_at_call 43; (with_reducible refine (HOF.out _ (HT.out.below HK.out.low)).mono ?_); rintro ec wz ⟨rfl, hbz⟩; have HK := hide (HK.out.below hbz); obtain ⟨d0, d1⟩ := HK.out.get w.heap.size sp sq (by simp); obtain ⟨d2, d3⟩ := HK.out.get A1 sp sq (by simp); clear hbz)
    go_upto_region 9 with (go_at_call 44; (with_reducible refine (HM1.out _ (HT.out.below HK.out.low)).mono ?_); rintro ec wz ⟨rfl, hbz⟩; have HK := hide (HK.out.below hbz); obtain ⟨d0, d1⟩ := HK.out.get w.heap.size sp sq (by simp); obtain ⟨d2, d3⟩ := HK.out.get A1 sp sq (by simp); clear hbz)
    go_upto_region 10 with (go_at_call 44; (with_reducible refine (HM2.out _ (HT.out.below HK.out.low)).mono ?_); rintro ec wz ⟨rfl, hbz⟩; have HK := hide (HK.out.below hbz); obtain ⟨d0, d1⟩ := HK.out.get w.heap.size sp sq (by simp); obtain ⟨d2, d3⟩ := HK.out.get A1 sp sq (by simp); clear hbz)
    go_upto_region 11 with (go_at_call 12; (with_reducible refine (HMK.out _ (HT.out.below HK.out.low)).mono ?_); rintro ec w2 ⟨rfl, hbz⟩; have HK := hide (HK.out.below hbz); obtain ⟨d0, d1⟩ := HK.out.get w.heap.size sp sq (by simp); obtain ⟨d2, d3⟩ := HK.out.get A1 sp sq (by simp); clear hbz)
    have o0_2 : w.heap.size < w2.heap.size := HK.out.lt w.heap.size sp sq (by simp)
    have o1_2 : A1 < w2.heap.size := HK.out.lt A1 sp sq (by simp)
    have g2 : w.heap.size ≤ w2.heap.size := HK.out.low.size
    have HK := hide (HK.out.push sp sq)
    obtain ⟨A2, hA2⟩ : ∃ A, A = w2.heap.size := ⟨_, rfl⟩
    obtain ⟨W2, hW2⟩ : ∃ W, W = w2.alloc (.cells #[.string sp, .string sq] 26) := ⟨_, rfl⟩
    rw [← hA2, ← hW2] at HK ⊢
    rw [← hA2] at o0_2
    rw [← hA2] at o1_2
    rw [← hA2] at g2
    clear hA2 hW2
    obtain ⟨d0, d1⟩ := HK.out.get w.heap.size sp sq (by simp); obtain ⟨d2, d3⟩ := HK.out.get A1 sp sq (by simp); obtain ⟨d4, d5⟩ := HK.out.get A2 sp sq (by simp)
    go_upto_region 14 with (go_at_call 29; (with_reducible refine (HFL.out _ (HT.out.below HK.out.low)).mono ?_); rintro ec w3 ⟨rfl, hbz⟩; have HK := hide (HK.out.below hbz); obtain ⟨d0, d1⟩ := HK.out.get w.heap.size sp sq (by simp); obtain ⟨d2, d3⟩ := HK.out.get A1 sp sq (by simp); obtain ⟨d4, d5⟩ := HK.out.get A2 sp sq (by simp); clear hbz)
    have HK := hide HK.out.drop.drop
    have HK0 := HK
    have HK := hide HK.out.draw
    have HC := hide (HK.out.get w.heap.size sp sq (by simp))
    have HQ := hide ((HK0.out.push ⟨#[]⟩ ⟨#[]⟩).draw.get w.heap.size sp sq (by simp))
    have HQ2 := HQ
    have HQ3 := HQ
    go_region_held3 (fun w' => (w'.cell? ⟨w.heap.size, 0, none⟩ = some (.string sp) ∧ w'.cell? ⟨w.heap.size, 1, none⟩ = some (.string sq))) (first | with_reducible exact HC.out | with_reducible exact HQ.out | with_reducible exact HQ2.out | with_reducible exact HQ3.out) (first
      | (go_at_call 24; (with_reducible refine (half_any _ _ _).mono ?_); rintro ec wh ⟨rfl, hbz⟩; (first | have HK := hide (HK.out.below hbz) | (have o0 := HK0.out.lt w.heap.size sp sq (by simp); have g0 := HK0.out.low.size; have HK := hide ((HK0.out.push ⟨#[]⟩ ⟨#[]⟩).draw.below hbz)) | (have o0 := HK.out.lt w.heap.size sp sq (by simp); have g0 := HK.out.low.size; have HK := hide ((HK.out.push ⟨#[]⟩ ⟨#[]⟩).below hbz))); have HC := hide (HK.out.get w.heap.size sp sq (by simp)); have HQ := hide ((HK.out.push ⟨#[]⟩ ⟨#[]⟩).get w.heap.size sp sq (by simp)); clear hbz)
      | (go_at_call 35; (with_reducible refine (HSB.out _ (HT.out.below (by first | exact HK.out.low | exact (HK.out.push ⟨#[]⟩ ⟨#[]⟩).low))).mono ?_); rintro ec wz ⟨rfl, hbz⟩; (first | have HK := hide (HK.out.below hbz) | (have o0 := HK0.out.lt w.heap.size sp sq (by simp); have g0 := HK0.out.low.size; have HK := hide ((HK0.out.push ⟨#[]⟩ ⟨#[]⟩).draw.below hbz)) | (have o0 := HK.out.lt w.heap.size sp sq (by simp); have g0 := HK.out.low.size; have HK := hide ((HK.out.push ⟨#[]⟩ ⟨#[]⟩).below hbz))); have HC := hide (HK.out.get w.heap.size sp sq (by simp)); obtain ⟨k0, k1, l0, l1⟩ := HK.out.head; have HQ := hide ((HK.out.push ⟨#[]⟩ ⟨#[]⟩).get w.heap.size sp sq (by simp)); have HQ2 := hide ((HK.out.push z1 z2).get w.heap.size sp sq (by simp)); (first | (have HQ3 := hide ((Kept.put (pre := []) (post := [(w.heap.size, sp, sq)]) HK.out z1 z2 g0 (by intro x hx; simp at hx; subst hx; show _ ≠ _; omega)).get w.heap.size sp sq (by simp))) | (have HQ3 := HC)); clear hbz))
    · have HK := hide (HK.out.push z1 z2)
      obtain ⟨A3, hA3⟩ : ∃ A, A = wz.heap.size := ⟨_, rfl⟩
      obtain ⟨W3, hW3⟩ : ∃ W, W = wz.alloc (.cells #[.string z1, .string z2] 26) := ⟨_, rfl⟩
      rw [← hA3, ← hW3] at HK ⊢
      clear hA3 hW3 HC HQ HQ2 HQ3 k0 k1 l0 l1
      have HK := hide HK.out.draw
      have HC := hide (HK.out.get A3 z1 z2 (by simp))
      go_upto_region 15 with fail
      go_region_held3 (fun w' => (w'.cell? ⟨A3, 0, none⟩ = some (.string z1) ∧ w'.cell? ⟨A3, 1, none⟩ = some (.string z2))) (first | with_reducible exact HC.out) (first
        | (go_at_call 24; (with_reducible refine (half_any _ _ _).mono ?_); rintro ec wz ⟨rfl, hbz⟩; have HK := hide (HK.out.below hbz); have HC := hide (HK.out.get A3 z1 z2 (by simp)); clear hbz)
        | (go_at_call 40; (with_reducible refine (HC1.out _ (HT.out.below HK.out.low)).mono ?_); rintro ec wz ⟨rfl, hbz⟩; have HK := hide (HK.out.below hbz); have HC := hide (HK.out.get A3 z1 z2 (by simp)); clear hbz))
      have HK := hide HK.out.draw
      have HC := hide (HK.out.get A3 z1 z2 (by simp))
      go_upto_region 16 with fail
      go_region_held3 (fun w' => (w'.cell? ⟨A3, 0, none⟩ = some (.string z1) ∧ w'.cell? ⟨A3, 1, none⟩ = some (.string z2))) (first | with_reducible exact HC.out) (first
        | (go_at_call 24; (with_reducible refine (half_any _ _ _).mono ?_); rintro ec wz ⟨rfl, hbz⟩; have HK := hide (HK.out.below hbz); have HC := hide (HK.out.get A3 z1 z2 (by simp)); clear hbz)
        | (go_at_call 40; (with_reducible refine (HC2.out _ (HT.out.below HK.out.low)).mono ?_); rintro ec wz ⟨rfl, hbz⟩; have HK := hide (HK.out.below hbz); have HC := hide (HK.out.get A3 z1 z2 (by simp)); clear hbz))
      go_wp2_with (go_at_call 11; (with_reducible refine (awake_any (HT.out.below HK.out.low)).mono ?_); rintro ec wz ⟨rfl, hbz⟩; have HK := hide (HK.out.below hbz); clear hbz)
      go_ret
      exact ⟨rfl, HK.out.low⟩
    · have HK : Hid (Kept w ((wz.setCell ⟨wh.heap.size, 0, none⟩ (.string z1)).setCell ⟨wh.heap.size, 1, none⟩ (.string z2)) [(wh.heap.size, z1, z2), (w.heap.size, sp, sq)]) := Kept.put (pre := []) (post := [(w.heap.size, sp, sq)]) HK.out z1 z2 g0 (by intro x hx; simp at hx; subst hx; show _ ≠ _; omega)
      obtain ⟨W3, hW3⟩ : ∃ W, W = ((wz.setCell ⟨wh.heap.size, 0, none⟩ (.string z1)).setCell ⟨wh.heap.size, 1, none⟩ (.string z2)) := ⟨_, rfl⟩
      rw [← hW3] at HK ⊢
      obtain ⟨A3, hA3⟩ : ∃ A, A = wh.heap.size := ⟨_, rfl⟩
      rw [← hA3] at HK ⊢
      clear hA3 hW3 HC HQ HQ2 HQ3 k0 k1 l0 l1 o0 g0
      have HK := hide HK.out.draw
      have HC := hide (HK.out.get A3 z1 z2 (by simp))
      go_upto_region 15 with fail
      go_region_held3 (fun w' => (w'.cell? ⟨A3, 0, none⟩ = some (.string z1) ∧ w'.cell? ⟨A3, 1, none⟩ = some (.string z2))) (first | with_reducible exact HC.out) (first
        | (go_at_call 24; (with_reducible refine (half_any _ _ _).mono ?_); rintro ec wz ⟨rfl, hbz⟩; have HK := hide (HK.out.below hbz); have HC := hide (HK.out.get A3 z1 z2 (by simp)); clear hbz)
        | (go_at_call 40; (with_reducible refine (HC1.out _ (HT.out.below HK.out.low)).mono ?_); rintro ec wz ⟨rfl, hbz⟩; have HK := hide (HK.out.below hbz); have HC := hide (HK.out.get A3 z1 z2 (by simp)); clear hbz))
      have HK := hide HK.out.draw
      have HC := hide (HK.out.get A3 z1 z2 (by simp))
      go_upto_region 16 with fail
      go_region_held3 (fun w' => (w'.cell? ⟨A3, 0, none⟩ = some (.string z1) ∧ w'.cell? ⟨A3, 1, none⟩ = some (.string z2))) (first | with_reducible exact HC.out) (first
        | (go_at_call 24; (with_reducible refine (half_any _ _ _).mono ?_); rintro ec wz ⟨rfl, hbz⟩; have HK := hide (HK.out.below hbz); have HC := hide (HK.out.get A3 z1 z2 (by simp)); clear hbz)
        | (go_at_call 40; (with_reducible refine (HC2.out _ (HT.out.below HK.out.low)).mono ?_); rintro ec wz ⟨rfl, hbz⟩; have HK := hide (HK.out.below hbz); have HC := hide (HK.out.get A3 z1 z2 (by simp)); clear hbz))
      go_wp2_with (go_at_call 11; (with_reducible refine (awake_any (HT.out.below HK.out.low)).mono ?_); rintro ec wz ⟨rfl, hbz⟩; have HK := hide (HK.out.below hbz); clear hbz)
      go_ret
      exact ⟨rfl, HK.out.low⟩
    · have HK : Hid (Kept w ((wz.setCell ⟨w3.heap.size, 0, none⟩ (.string z1)).setCell ⟨w3.heap.size, 1, none⟩ (.string z2)) [(w3.heap.size, z1, z2), (w.heap.size, sp, sq)]) := Kept.put (pre := []) (post := [(w.heap.size, sp, sq)]) HK.out z1 z2 g0 (by intro x hx; simp at hx; subst hx; show _ ≠ _; omega)
      obtain ⟨W3, hW3⟩ : ∃ W, W = ((wz.setCell ⟨w3.heap.size, 0, none⟩ (.string z1)).setCell ⟨w3.heap.size, 1, none⟩ (.string z2)) := ⟨_, rfl⟩
      rw [← hW3] at HK ⊢
      obtain ⟨A3, hA3⟩ : ∃ A, A = w3.heap.size := ⟨_, rfl⟩
      rw [← hA3] at HK ⊢
      clear hA3 hW3 HC HQ HQ2 HQ3 k0 k1 l0 l1 o0 g0
      have HK := hide HK.out.draw
      have HC := hide (HK.out.get A3 z1 z2 (by simp))
      go_upto_region 15 with fail
      go_region_held3 (fun w' => (w'.cell? ⟨A3, 0, none⟩ = some (.string z1) ∧ w'.cell? ⟨A3, 1, none⟩ = some (.string z2))) (first | with_reducible exact HC.out) (first
        | (go_at_call 24; (with_reducible refine (half_any _ _ _).mono ?_); rintro ec wz ⟨rfl, hbz⟩; have HK := hide (HK.out.below hbz); have HC := hide (HK.out.get A3 z1 z2 (by simp)); clear hbz)
        | (go_at_call 40; (with_reducible refine (HC1.out _ (HT.out.below HK.out.low)).mono ?_); rintro ec wz ⟨rfl, hbz⟩; have HK := hide (HK.out.below hbz); have HC := hide (HK.out.get A3 z1 z2 (by simp)); clear hbz))
      have HK := hide HK.out.draw
      have HC := hide (HK.out.get A3 z1 z2 (by simp))
      go_upto_region 16 with fail
      go_region_held3 (fun w' => (w'.cell? ⟨A3, 0, none⟩ = some (.string z1) ∧ w'.cell? ⟨A3, 1, none⟩ = some (.string z2))) (first | with_reducible exact HC.out) (first
        | (go_at_call 24; (with_reducible refine (half_any _ _ _).mono ?_); rintro ec wz ⟨rfl, hbz⟩; have HK := hide (HK.out.below hbz); have HC := hide (HK.out.get A3 z1 z2 (by simp)); clear hbz)
        | (go_at_call 40; (with_reducible refine (HC2.out _ (HT.out.below HK.out.low)).mono ?_); rintro ec wz ⟨rfl, hbz⟩; have HK := hide (HK.out.below hbz); have HC := hide (HK.out.get A3 z1 z2 (by simp)); clear hbz))
      go_wp2_with (go_at_call 11; (with_reducible refine (awake_any (HT.out.below HK.out.low)).mono ?_); rintro ec wz ⟨rfl, hbz⟩; have HK := hide (HK.out.below hbz); clear hbz)
      go_ret
      exact ⟨rfl, HK.out.low⟩
end Go.Proofs.YthpknfoahimopaaGreatDoor

set_option linter.unusedVariables false
set_option linter.unusedSimpArgs false
namespace Go.Proofs.YthpknfoahimopaaGreatDoor
open Go.RowKit Go.ChangeShapes Go.WideShapes Go.ChangeAt Go.Deep

set_option maxRecDepth 100000 in
theorem open_u16 {H : Type} {enc : TypeId × Value → H} {w : World} {base : Nat} {spare : Nat → Bool} {held : Bool} {r : Reach} {b0 : Nat} {v : Value} {d : DataW H} {p : List MemPlace} (hv : Value.okWide Tryz.prog w r b0 67 v) (h : DataW.Trod enc Tryz.prog w base spare held 67 v d p) :
    ∃ n, v = .int .u16 n ∧ 0 ≤ n ∧ n ≤ 65535 := by
  obtain ⟨n, rfl, rfl, rfl, hw⟩ := open_int Tryz.underlying67 hv h
  exact ⟨n, rfl, by simpa [Lit.wf, IntKind.min, IntKind.max, IntKind.signed, IntKind.bits] using hw⟩
theorem fractionReads_tbl {W : World} (hL : laidMetH Tryz.prog Rows.fractionReadsRow.laid W) : Tbl W := by
  have h1 : laidMet Tryz.prog Rows.fractionReadsRow.laid W := by
    rw [MakeChecks.laidMetH_plain _ _ _ (by kernel_rfl)] at hL
    exact hL
  exact tbl_of_laid (by kernel_rfl) h1
set_option maxRecDepth 100000 in
theorem fractionReads_lifted (os : Os) (started : os.Started) (H : Type) (enc : TypeId × Value → H) :
    ReturnsInHanded {} Tryz.checked os 8 .any (fun w args => (Rows.fractionReadsSpec.pre enc Tryz.prog Tryz.f8 Rows.fractionReadsRow.domain false w args ∧ laidMetH Tryz.prog Rows.fractionReadsRow.laid w) ∧ sizedMet enc Tryz.prog Tryz.f8 (OpenSpec.ofChange Rows.fractionReadsSpec) false w args)
      (Rows.fractionReadsSpec.post enc Tryz.prog Tryz.f8 false true false false) := by
  refine returnsInHanded_of_change_and (C := Tryz.checked) (X := fun w _ => laidMetH Tryz.prog Rows.fractionReadsRow.laid w) (fun _ _ _ hh h => h.of_heap hh) own_knob started (by kernel_rfl) Tryz.func8
    (ChangeSpec.witness_shaped (enc := enc) (C := Tryz.checked) (os := os) (X := fun w _ => laidMetH Tryz.prog Rows.fractionReadsRow.laid w) false (World.laidAll Tryz.prog os Rows.fractionReadsRow.laid) #[.agg #[.string ⟨#[]⟩, .string ⟨#[]⟩], .int .u16 0] 8 (World.laidAll_os _ _ _)
      (World.shaped_of_ZipB (by kernel_rfl) (by kernel_rfl)) (by kernel_rfl) (by kernel_rfl) (by kernel_rfl)
      (by rw [MakeChecks.laidMetH_plain _ _ _ (by kernel_rfl)]; exact laidMet_laidAll _ (by kernel_rfl) (by kernel_rfl))) ?_
  intro W base args ds gs before hval0 hW _ hsz hL _
  have hval : ∀ (j : Nat) t v, Tryz.f8.params[j]? = some t → args[j]? = some v → Value.okWide Tryz.prog W .any base t v := hval0
  have hW' := hW
  obtain ⟨p, q, hA0, hV, rfl, _, _⟩ := hW
  have hA : DataW.TrodAll enc Tryz.prog W 0 (fun _ => true) true Tryz.f8.params.toList args.toList ds p := hA0
  rw [Tryz.params8] at hA hval hsz
  obtain ⟨v0, v1, d0, d1, p0, p1, rfl, rfl, rfl, h0, h1⟩ := trodAll_two hA
  obtain ⟨rfl, rfl⟩ := trodVars_none hV
  have HTB := fractionReads_tbl hL
  have hsz2 := hsz
  replace hsz2 : (DataW.weightsEach Tryz.prog [26, 67] [d0, d1]).all (· ≤ reachBytes) = true := hsz
  simp only [DataW.weightsEach, List.append_nil, List.all_append, Bool.and_eq_true] at hsz2
  have h0k := h0
  have h1k := h1
  obtain ⟨l0, m0, rfl, b0, c0⟩ := open_fr (hval 0 26 v0 rfl rfl) h0 hsz2.1
  obtain ⟨n1, rfl, b1⟩ := open_u16 (hval 1 67 v1 rfl rfl) h1
  simp only [List.append_nil] at hW'
  have hlt0 : ∀ y ∈ p0, y.block < W.heap.size := fun y hy => by simpa using hW'.lt y (by simp [hy])
  have hlt1 : ∀ y ∈ p1, y.block < W.heap.size := fun y hy => by simpa using hW'.lt y (by simp [hy])
  refine (lreads_any l0 m0 b0 c0 n1 b1 HTB).mono fun e W' ⟨he, hn⟩ => ?_
  subst he
  exact ⟨_, rfl, _, _, _, [], _, [], hW', trodAll_mk1 (shut_bool Tryz.underlying4 true), trodAll_mk2 (Below.trod laid_out (by kernel_rfl) (of_decide_eq_true (by kernel_rfl)) h0k hn hlt0) (Below.trod laid_out (by kernel_rfl) (of_decide_eq_true (by kernel_rfl)) h1k hn hlt1), rfl, hn.frame _, fun h => by cases h⟩

theorem fractionReads_row : Rows.FractionReadsSaid :=
  OpenClaim.holds_of_wide 8 Tryz.f8 rfl rfl rfl rfl rfl rfl rfl ⟨rfl, rfl, rfl, rfl, rfl⟩ rfl rfl rfl rfl rfl (by kernel_rfl) Tryz.func8 (by kernel_rfl)
    (of_decide_eq_true (by kernel_rfl)) (by unfold Func.isWrapper; first | (rw [if_pos (by decide +kernel)]; kernel_rfl) | (rw [if_neg (by decide +kernel)]; exact ⟨rfl, rfl⟩))
    (fun os started H enc _ => fractionReads_lifted os started H enc)
theorem fractionReads_holds : Rows.FractionReadsCardSaid :=
  Claim7.holds_tied_plain_at .later [] [.data, .data, .data, .sentinel, .sentinel] true (true, "b82a1295ea715ae845548bcfbe437ee53315b98a501120c16e571b4cc909fde4") true
    fractionReads_row (fun _ h => by cases h) (by kernel_rfl) (fun _ h => by cases h) fractionReads_row_tie rfl ⟨rfl, rfl⟩ (by kernel_rfl) rfl
    (fun f fn hf hfn => by
      obtain rfl : f = 8 := Option.some.inj ((show Tryz.prog.funcNamed "sandpile/sandpilelaw02.FractionReads" = some 8 by kernel_rfl).symm.trans hf) |>.symm
      obtain rfl : fn = Tryz.f8 := (Option.some.inj (Tryz.func8.symm.trans hfn)).symm
      exact ⟨by kernel_rfl, fun j t ht => by
        rw [Tryz.params8] at ht
        have hm : t ∈ [26, 67] := by simpa using Array.mem_of_getElem? ht
        have hall : ([26, 67].all fun u => !Tryz.prog.wantsStandIn u) = true := by kernel_rfl
        exact (show Tryz.prog.wantsStandIn t = false by simpa using List.all_eq_true.1 hall t hm)⟩)
    (by kernel_rfl)
end Go.Proofs.YthpknfoahimopaaGreatDoor

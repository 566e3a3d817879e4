/-
  The half-edges at each vertex.
  slices.Contains at lists of integers.
  slices.BinarySearch at ascending lists of integers.
  The error of the list of a vertex.
  The forest of a graph: joined.
  Components, Connected, and joined of ribbon.
  ribbon.checked and ribbon.Check.
  The reference's counts on graphs: Between, Valence, Degree, Size, Half, At, Holds.
  The reference's Size, Half, At, Valence, Degree.
  The reference's error of the list of a vertex: around.
  The degree is the number of half-edges: plain Lean.
  The reference's Reached: the vertices that are connected with one.
  The reference's Parts, Connected, Joined.
  The reference's Connected and Joined.
  The reference's Check of ribbon graphs, and ribbon.Check.
  Rotor configurations: Check of the program and of the reference.
  slices.Clone of ints.
  A board: the rotors with the vertices to which the half-edges lead; a step.
  boardOf and at: a right rotor configuration's board.
  boardOf and at, where there is no board; at, where there is one.
  Right rotors: what a step does to them (plain law), and the program's Step.
  ref44.Opposite, ref45.Targets.
-/
import Derived.Test.YtopldbnlehjlpaaTr1
import Derived.Test.YtopldbnlehjlpaaProg
import Derived.Deep.RegionHeld3
import Derived.BigQuiet
import Derived.Outline
import Derived.RangeFuncBox

set_option linter.unusedVariables false
set_option linter.unusedSimpArgs false
set_option linter.unnecessarySimpa false
namespace Go.Proofs.Ytopldbnlehjlpaa
open Go.RowKit

/-- The vertex of a half-edge. -/
def hv (l : List (Int × Int)) (h : Nat) : Int := if h % 2 = 0 then (l.getD (h / 2) (0, 0)).1 else (l.getD (h / 2) (0, 0)).2

theorem at_any (l : List (Int × Int)) (oa : Option Addr) (c : Nat) (F : Foot) (w : World) (hs : SliceR prR 2 F w oa l) (hc : l.length ≤ c) (h : Nat) (hh : h < 2 * l.length) (hl : l.length ≤ 1000000000) :
    Calls Try.prog 103 #[.slice oa l.length c, .int .i64 h] w fun e w' => e = .returned (.int .i64 (hv l h)) ∧ w = w' := by
  obtain ⟨q, hq⟩ : ∃ q, q = h / 2 := ⟨_, rfl⟩
  have hq1 : ((h : Int)).tdiv 2 = (q : Int) := by rw [Int.tdiv_eq_ediv_of_nonneg (by omega)]; omega
  have hql : q < l.length := by omega
  have hwq : wrap64 (q : Int) = (q : Int) := by unfold wrap64; omega
  obtain ⟨a, b, hd, hget, _, _, bl, off, hoa, _, c0, c1⟩ := hs.pr_at (i := q) (by omega)
  subst hoa
  have hgd : l.getD q (0, 0) = (a, b) := by rw [List.getD_eq_getElem?_getD, hget]; rfl
  by_cases hr : h % 2 = 0
  · have HR : Hid (hv l h = a) := by show _ = _; rw [hv, if_pos hr, ← hq, hgd]
    have hr1 : ((h : Int)).tmod 2 = 0 := by rw [Int.tmod_eq_emod_of_nonneg (by omega)]; omega
    clear hd hget hgd hq hr
    go_enter Try.func103, Try.ntmps103
    go_wp2_with fail
    go_ret
    exact ⟨ret_int HR.out.symm, rfl⟩
  · have HR : Hid (hv l h = b) := by show _ = _; rw [hv, if_neg hr, ← hq, hgd]
    have hr1 : ((h : Int)).tmod 2 = 1 := by rw [Int.tmod_eq_emod_of_nonneg (by omega)]; omega
    clear hd hget hgd hq hr
    go_enter Try.func103, Try.ntmps103
    go_wp2_with fail
    go_ret
    exact ⟨ret_int HR.out.symm, rfl⟩

/-- The half-edges below H at a vertex. -/
def halfU (l : List (Int × Int)) (H : Nat) (v : Nat) : List Int := ((List.range H).filter fun h : Nat => hv l h == (v : Int)).map fun h : Nat => (h : Int)
theorem halfU_yes {l : List (Int × Int)} {H v : Nat} (h : hv l H = (v : Int)) : halfU l (H + 1) v = halfU l H v ++ [(H : Int)] := by
  simp [halfU, List.range_succ, List.filter_append, h]
theorem halfU_no {l : List (Int × Int)} {H v : Nat} (h : ¬ hv l H = (v : Int)) : halfU l (H + 1) v = halfU l H v := by
  simp [halfU, List.range_succ, List.filter_append, h]
theorem halfU_len (l : List (Int × Int)) (H v : Nat) : (halfU l H v).length ≤ H := by
  have := List.length_filter_le (fun h : Nat => hv l h == (v : Int)) (List.range H)
  simp [halfU]
  simpa using this
def halvesU (n : Nat) (l : List (Int × Int)) (H : Nat) : List (List Int) := (List.range n).map (halfU l H)
theorem halvesU_get {n : Nat} {l : List (Int × Int)} {H v : Nat} (hv : v < n) : (halvesU n l H)[v]? = some (halfU l H v) := by
  simp [halvesU, hv]
theorem halvesU_step {n : Nat} {l : List (Int × Int)} {H V : Nat} (h : hv l H = (V : Int)) (hV : V < n) : halvesU n l (H + 1) = (halvesU n l H).set V (halfU l H V ++ [(H : Int)]) := by
  apply List.ext_getElem?
  intro i
  rcases Nat.lt_or_ge i n with hi | hi
  · rw [halvesU_get hi]
    by_cases e : V = i
    · subst e
      rw [List.getElem?_set_self (by simp [halvesU, hi]), halfU_yes h]
    · rw [List.getElem?_set_ne e, halvesU_get hi, halfU_no (by rw [h]; omega)]
  · rw [List.getElem?_eq_none (by simp [halvesU, hi]), List.getElem?_eq_none (by simp [halvesU, hi])]
theorem halvesU_zero (n : Nat) (l : List (Int × Int)) : halvesU n l 0 = List.replicate n [] := by
  apply List.ext_getElem?
  intro i
  rcases Nat.lt_or_ge i n with hi | hi
  · rw [halvesU_get hi]; simp [hi, halfU]
  · rw [List.getElem?_eq_none (by simp [halvesU, hi]), List.getElem?_eq_none (by simp [hi])]

theorem Lists.made {e lt : TypeId} {w : World} {g n : Nat} (h : w.ownsRow g lt 1 (.slice (some ⟨g, 0, none⟩) n n) n (List.replicate n (.slice none 0 0))) :
    Lists g e lt w (.slice (some ⟨g, 0, none⟩) n n) (List.replicate n (.slice none 0 0)) (List.replicate n []) := by
  refine ⟨by simpa using h, OwnM.nils n, fun i v k hi hk => ?_⟩
  rw [List.getElem?_replicate] at hi
  split at hi
  · injection hi with hi
    subst hi
    simp [Value.ownBlock] at hk
  · cases hi

def HalvesPost (w : World) (n : Nat) (l : List (Int × Int)) (e : Ending) (w' : World) : Prop :=
  ∃ g vs, e = .returned (.slice (some ⟨g, 0, none⟩) n n) ∧ vs.length = n ∧ Lists w.heap.size 3 28 w' (.slice (some ⟨g, 0, none⟩) n n) vs (halvesU n l (2 * l.length)) ∧ Below w.heap.size w w'

set_option maxRecDepth 100000 in
set_option maxHeartbeats 2000000 in
theorem halves_any (n : Nat) (l : List (Int × Int)) (oa : Option Addr) (c : Nat) (F : Foot) (w : World) (hs : SliceR prR 2 F w oa l) (hc : l.length ≤ c) (hl : l.length ≤ 100000) (hn : n ≤ 12)
    (hr : Hid (∀ h, h < 2 * l.length → 0 ≤ hv l h ∧ hv l h < n)) : Calls Try.prog 88 #[.int .i64 n, .slice oa l.length c] w (HalvesPost w n l) := by
  obtain ⟨i0, hi0, hz0, hz1, hz2⟩ := info_parts listInfo
  go_enter Try.func88, Try.ntmps88
  go_wp2_with (at_make; refine wpList_make_full _ rfl _ _ 25 rfl w.heap.size 28 i0 _ 1 Try.underlying25 hi0 hz0 hz1 .i64 .i64 _ _ n rfl rfl rfl rfl (by rw [hz2]; omega) (by unfold maxLen; omega) (Nat.le_refl _) (fun w1 hrow hg1 => ?_))
  have hb1 : Below w.heap.size w w1 := (Below.refl _ _).grown hg1 (Nat.le_refl _) fun k hk => by cases hk
  have HL1 : Lists w.heap.size 3 28 w1 (.slice (some ⟨w.heap.size, 0, none⟩) n n) (List.replicate n (.slice none 0 0)) (List.replicate n []) := Lists.made (by
    have e : (madeCells (Value.slice none 0 0).cells (n * 1)).toList = List.replicate n (.slice none 0 0) := by
      rw [Nat.mul_one]
      exact toList_madeCells_one _ n
    rw [← e]; exact hrow)
  clear hrow hg1
  go_loopw [12] (fun iv wr => ∃ (k : Nat) (vs : List Value), k ≤ 2 * l.length ∧ iv = .int .i64 k ∧ vs.length = n ∧ Lists w.heap.size 3 28 wr (.slice (some ⟨w.heap.size, 0, none⟩) n n) vs (halvesU n l k) ∧ Below w.heap.size w wr) (fun iv _ => 2 * l.length - (intOf iv).toNat)
  case atStart => exact ⟨0, List.replicate n (.slice none 0 0), by omega, rfl, List.length_replicate, by rw [halvesU_zero]; exact HL1, hb1⟩
  case round =>
    clear HL1 hb1
    obtain ⟨k, vs, hk, rfl, hvl, HL, hbW⟩ := hrel
    by_cases hlt : k < 2 * l.length
    · have HL : Lists w.heap.size 3 28 wr (.slice (some ⟨w.heap.size, 0, none⟩) vs.length n) vs (halvesU n l k) := by rw [hvl]; exact HL
      obtain ⟨h0, h1⟩ := hr.out k hlt
      have hs2 := hs.below prR_ok hbW
      obtain ⟨V, hV⟩ := Int.eq_ofNat_of_zero_le h0
      have hVn : V < n := by omega
      have HV : Hid (hv l k = (V : Int)) := hV
      obtain ⟨v, hv'⟩ : ∃ v, vs[V]? = some v := ⟨vs[V], List.getElem?_eq_getElem (by omega)⟩
      have hx := halvesU_get (l := l) (H := k) hVn
      have hcell := HL.row.cellAt V (by omega)
      rw [hv'] at hcell
      have hfree := HL.row.frozenAt V
      have hgl := (HL.row.lt w.heap.size rfl).2
      have hxl := halfU_len l k V
      have hown := HL.ms.own V v _ hv' hx
      have HG := hide (fun w' v' h1 h2 h3 => HL.grow (w' := w') (v' := v') (x := (k : Int)) (o := .cells #[.int .i64 (k : Nat)] 3) hv' hx h1 h2 h3)
      have hoffv : v.ownBlock ≠ some w.heap.size := fun he => HL.off V v w.heap.size hv' he rfl
      have HBW := hide hbW
      have hszW := hbW.size
      have HS := hide (halvesU_step (n := n) HV.out hVn)
      have hone := one_cell (w := wr) (t := 3) (v := .int .i64 (k : Nat)) (j := 0) rfl
      have c2 : (wr.alloc (.cells #[.int .i64 (k : Nat)] 3)).cell? ⟨w.heap.size, V, none⟩ = some v := cell_next hcell _
      generalize halfU l k V = xs at hxl hown HG HS
      clear hv' hx HL hbW h0 h1
      go_wp2_with (first
        | (go_at_call 103; refine (at_any l oa c F _ hs2 hc k hlt (by omega)).mono ?_; rintro e w' ⟨rfl, rfl⟩; rw [hV])
        | (at_builtin; refine wpList_append_n rfl (.tmp 24) (.tmp 26) 28 rfl w.heap.size 3 _ Try.underlying28 intInfo8 rfl v xs rfl (hown.new _) ⟨wr.heap.size, 0, none⟩ 1 (k : Int) rfl hone (by constructor <;> omega) (by omega) (by simp; omega) ?_; intro v' w3 ho3 hb3 hg3 hv3; obtain ⟨oa3, c3, rfl, _, _⟩ := ho3.slice; have hf3 : w3.frozen? ⟨w.heap.size, V, none⟩ = false := (hg3.frozen_far ⟨w.heap.size, V, none⟩ (by simp; omega) (fun he => hoffv he.symm)).trans (((World.grownBy_alloc wr _ none).frozen_far ⟨w.heap.size, V, none⟩ hgl (by simp)).trans hfree); have hc3 : w3.cell? ⟨w.heap.size, V, none⟩ = some v := (hg3.cell_far ⟨w.heap.size, V, none⟩ (by simp; omega) (fun he => hoffv he.symm)).trans (((World.grownBy_alloc wr _ none).cell_far ⟨w.heap.size, V, none⟩ hgl (by simp)).trans hcell))
        | fail)
      have hL := HG.out _ _ ho3 hg3 hv3
      rw [List.length_set] at hL
      have hBf := ((HBW.out.alloc hszW (.cells #[.int .i64 (k : Nat)] 3)).trans hb3).setCell (p := ⟨w.heap.size, V, none⟩) (by simp) (.slice oa3 (xs ++ [(k : Int)]).length c3)
      simp only [List.length_append, List.length_cons, List.length_nil, Nat.zero_add] at hL hBf
      go_roundw
      case rel => exact ⟨k + 1, vs.set V (.slice oa3 (xs.length + 1) c3), by omega, by go_num, by rw [List.length_set]; exact hvl, by rw [HS.out]; rw [hvl] at hL; exact hL, hBf⟩
      case measure => simp [intOf]; omega
    · have : k = 2 * l.length := by omega
      subst this
      go_wp2_with fail
      go_ret
      exact ⟨w.heap.size, vs, rfl, hvl, HL, hbW⟩

end Go.Proofs.Ytopldbnlehjlpaa

set_option linter.unusedVariables false
namespace Go.Proofs.Ytopldbnlehjlpaa
open Go.RowKit

theorem index_any (x : Int) (l : List Int) (oa : Option Addr) (c : Nat) (F : Foot) (w : World) (hs : SliceR intR 1 F w oa l) (hc : l.length ≤ c) (hc2 : l.length ≤ 9223372036854775807) :
    Calls Try.prog 115 #[.slice oa l.length c, .int .i64 x] w fun e w' => ∃ r : Int, e = .returned (.int .i64 r) ∧ (0 ≤ r ↔ x ∈ l) ∧ w = w' := by
  go_enter Try.func115, Try.ntmps115
  go_wp2_with fail
  go_loop [8] (fun i => ∃ k : Nat, k ≤ l.length ∧ i = .int .i64 k ∧ Hid (x ∉ l.take k)) (fun i => l.length - (intOf i).toNat)
  case atStart => exact ⟨0, by omega, rfl, by show _ ∉ _; simp⟩
  case round =>
    obtain ⟨k, hk, rfl, HE⟩ := hrel
    by_cases hlt : k < l.length
    · obtain ⟨y, hd, hget, _, b, off, hoa, _, c0⟩ := hs.int_at hlt
      subst hoa
      by_cases hxy : x = y
      · have hm : Hid (x ∈ l) := by show _ ∈ _; rw [hxy]; exact List.mem_of_getElem? hget
        have hq : (x == y) = true := by simp [hxy]
        have hq2 : (y == x) = true := by simp [hxy]
        have HXY := hide hxy
        clear hd hget hxy
        go_wp2_with fail
        go_ret
        exact ⟨_, rfl, ⟨fun _ => hm.out, fun _ => by omega⟩, rfl⟩
      · have hm : Hid (x ∉ l.take (k + 1)) := by
          show _ ∉ _
          rw [List.take_add_one, hget]
          have := HE.out
          simp [hxy]
          exact this
        have hq : (x == y) = false := by simp [hxy]
        have hq2 : (y == x) = false := by simp; exact fun h => hxy h.symm
        have HXY := hide hxy
        clear hd hget hxy
        go_wp2_with fail
        go_round
        case rel => exact ⟨k + 1, by omega, by go_num, hm⟩
        case measure => simp [intOf]; omega
    · go_wp2_with fail
      go_ret
      refine ⟨_, rfl, ⟨fun h => by omega, fun h => ?_⟩, rfl⟩
      have := HE.out
      rw [List.take_of_length_le (by omega)] at this
      exact absurd h this

theorem contains_any (x : Int) (l : List Int) (oa : Option Addr) (c : Nat) (F : Foot) (w : World) (hs : SliceR intR 1 F w oa l) (hc : l.length ≤ c) (hc2 : l.length ≤ 9223372036854775807) :
    Calls Try.prog 105 #[.slice oa l.length c, .int .i64 x] w fun e w' => e = .returned (.bool (decide (x ∈ l))) ∧ w = w' := by
  go_enter Try.func105, Try.ntmps105
  go_wp2_with fail
  refine (index_any x l oa c F w hs hc hc2).mono ?_
  rintro e w' ⟨r, rfl, hr, rfl⟩
  have HR := hide hr
  clear hr
  go_wp2_with fail
  go_ret
  refine ⟨ret_bool ?_, rfl⟩
  have h := HR.out
  by_cases hx : x ∈ l <;> simp [hx] at h ⊢ <;> omega

end Go.Proofs.Ytopldbnlehjlpaa

set_option linter.unusedVariables false
set_option linter.unusedSimpArgs false
namespace Go.Proofs.Ytopldbnlehjlpaa
open Go.RowKit

theorem lessI_any (x y : Int) (w : World) : Calls Try.prog 113 #[.int .i64 x, .int .i64 y] w fun e w' => e = .returned (.bool (decide (x < y))) ∧ w = w' :=
  by
  have h1 : (x != x) = false := by simp
  have h2 : (y != y) = false := by simp
  by_cases h : x < y
  · go_enter Try.func113, Try.ntmps113
    go_wp2
    go_ret
    exact ⟨ret_bool (by simp [h]), rfl⟩
  · go_enter Try.func113, Try.ntmps113
    go_wp2
    go_ret
    exact ⟨ret_bool (by simp [h]), rfl⟩

theorem up_get {l : List Int} (h : l.Pairwise (· < ·)) {i j : Nat} (hij : i < j) (hj : j < l.length) : l[i]'(by omega) < l[j] := List.pairwise_iff_getElem.1 h i j (by omega) hj hij

set_option maxHeartbeats 1000000 in
theorem bin_any (x : Int) (l : List Int) (hp : Hid (l.Pairwise (· < ·))) (oa : Option Addr) (c : Nat) (F : Foot) (w : World) (hs : SliceR intR 1 F w oa l) (hc : l.length ≤ c) (hc2 : l.length ≤ 1000000000) :
    Calls Try.prog 104 #[.slice oa l.length c, .int .i64 x] w fun e w' => (∃ i : Int, e = .returned (.tuple #[.int .i64 i, .bool (decide (x ∈ l))])) ∧ w = w' := by
  go_enter Try.func104, Try.ntmps104
  go_wp2_with fail
  go_loop [7, 8] (fun iv jv => ∃ i j : Nat, i ≤ j ∧ j ≤ l.length ∧ iv = .int .i64 i ∧ jv = .int .i64 j ∧ Hid ((∀ (k : Nat) (y : Int), k < i → l[k]? = some y → y < x) ∧ ∀ (k : Nat) (y : Int), j ≤ k → l[k]? = some y → x ≤ y)) (fun iv jv => (intOf jv).toNat - (intOf iv).toNat)
  case atStart => exact ⟨0, l.length, by omega, by omega, rfl, rfl, fun k y hk => by omega, fun k y hk h => by
    have := (List.getElem?_eq_some_iff.1 h).1
    omega⟩
  case round =>
    obtain ⟨i, j, hij, hj, rfl, rfl, HI⟩ := hrel
    by_cases hlt : i < j
    · obtain ⟨h, hh⟩ : ∃ h, h = (i + j) / 2 := ⟨_, rfl⟩
      have hmid : ((i : Int) + j) / 2 = (h : Int) := by omega
      have h1 : i ≤ h := by omega
      have h2 : h < j := by omega
      have HH := hide hh
      clear hh
      obtain ⟨y, hd, hget, iy, b, off, hoa, _, c0⟩ := hs.int_at (i := h) (by omega)
      subst hoa
      by_cases hyx : y < x
      · have HI2 : Hid ((∀ (k : Nat) (y : Int), k < h + 1 → l[k]? = some y → y < x) ∧ ∀ (k : Nat) (y : Int), j ≤ k → l[k]? = some y → x ≤ y) := by
          refine ⟨fun k z hk hz => ?_, HI.out.2⟩
          obtain ⟨hhl, hhe⟩ := List.getElem?_eq_some_iff.1 hget
          obtain ⟨hkl, hke⟩ := List.getElem?_eq_some_iff.1 hz
          rcases Nat.lt_or_ge k h with hkh | hkh
          · have := up_get hp.out hkh hhl
            omega
          · have : k = h := by omega
            subst this
            omega
        have hq : decide (y < x) = true := by simp [hyx]
        clear hd hget hyx
        go_wp2_with (go_at_call 113; refine (lessI_any y x _).mono ?_; rintro e w' ⟨rfl, rfl⟩)
        go_round
        case rel => exact ⟨h + 1, j, by omega, hj, by go_num, rfl, HI2⟩
        case measure => simp [intOf]; omega
      · have HI2 : Hid ((∀ (k : Nat) (y : Int), k < i → l[k]? = some y → y < x) ∧ ∀ (k : Nat) (y : Int), h ≤ k → l[k]? = some y → x ≤ y) := by
          refine ⟨HI.out.1, fun k z hk hz => ?_⟩
          obtain ⟨hhl, hhe⟩ := List.getElem?_eq_some_iff.1 hget
          obtain ⟨hkl, hke⟩ := List.getElem?_eq_some_iff.1 hz
          rcases Nat.lt_or_ge h k with hkh | hkh
          · have := up_get hp.out hkh hkl
            omega
          · have : k = h := by omega
            subst this
            omega
        have hq : decide (y < x) = false := by simp; omega
        clear hd hget hyx
        go_wp2_with (go_at_call 113; refine (lessI_any y x _).mono ?_; rintro e w' ⟨rfl, rfl⟩)
        go_round
        case rel => exact ⟨i, h, by omega, by omega, rfl, rfl, HI2⟩
        case measure => simp [intOf]; omega
    · have : i = j := by omega
      subst this
      have hxx : (x != x) = false := by simp
      by_cases hi : i < l.length
      · obtain ⟨y, hd, hget, iy, b, off, hoa, _, c0⟩ := hs.int_at hi
        subst hoa
        have hyy : (y != y) = false := by simp
        by_cases hyx : y = x
        · have HR : Hid (decide (x ∈ l) = true) := by
            show _ = _
            simp
            rw [← hyx]
            exact List.mem_of_getElem? hget
          have hq : (y == x) = true := by simp [hyx]
          have HY := hide hyx
          clear hd hget hyx
          go_wp2
          go_ret2
          exact ⟨⟨_, by rw [HR.out]; rfl⟩, rfl⟩
        · have HR : Hid (decide (x ∈ l) = false) := by
            show _ = _
            simp
            intro hx
            obtain ⟨k, hk, hke⟩ := List.getElem_of_mem hx
            have hz : l[k]? = some x := by rw [List.getElem?_eq_getElem hk, hke]
            rcases Nat.lt_or_ge k i with h1 | h1
            · have := HI.out.1 k x h1 hz; omega
            · have h3 := HI.out.2 i y (by omega) hget
              rcases Nat.lt_or_ge i k with h2 | h2
              · obtain ⟨hhl, hhe⟩ := List.getElem?_eq_some_iff.1 hget
                have := up_get hp.out h2 hk
                omega
              · have : k = i := by omega
                subst this
                rw [hget] at hz
                injection hz with hz
                exact hyx hz
          have hq : (y == x) = false := by simp [hyx]
          have HY := hide hyx
          clear hd hget hyx
          go_wp2
          go_ret2
          exact ⟨⟨_, by rw [HR.out]; rfl⟩, rfl⟩
      · have HR : Hid (decide (x ∈ l) = false) := by
          show _ = _
          simp
          intro hx
          obtain ⟨k, hk, hke⟩ := List.getElem_of_mem hx
          have := HI.out.1 k x (by omega) (by rw [List.getElem?_eq_getElem hk, hke])
          omega
        go_wp2
        go_ret2
        exact ⟨⟨_, by rw [HR.out]; rfl⟩, rfl⟩

end Go.Proofs.Ytopldbnlehjlpaa

set_option linter.unusedVariables false
set_option linter.unusedSimpArgs false
set_option linter.unnecessarySimpa false
namespace Go.Proofs.Ytopldbnlehjlpaa
open Go.RowKit

/-- The first thing that is wrong with the half-edges one by one. -/
def scanE (own : List Int) : List Int → List Int → Int
  | _, [] => 0
  | pre, h :: r => if h ∈ own then (if h ∈ pre then 7 else scanE own (pre ++ [h]) r) else 2
def listE (l own : List Int) : Int := if l.length = own.length then (if scanE own [] l = 0 then (if l.head? = own.head? then 0 else 9) else scanE own [] l) else 8

theorem scanE_cons (own pre r : List Int) (h : Int) : scanE own pre (h :: r) = if h ∈ own then (if h ∈ pre then 7 else scanE own (pre ++ [h]) r) else 2 := rfl
theorem SliceR.pre {α : Type} {R : Rep α} {sz : Nat} {F : Foot} {w : World} {oa : Option Addr} {xs : List α} (h : SliceR R sz F w oa xs) (k : Nat) : SliceR R sz F w oa (xs.take k) := by
  intro i x hx
  rw [List.getElem?_take] at hx
  split at hx
  · exact h i x hx
  · cases hx

set_option maxRecDepth 100000 in
set_option maxHeartbeats 2000000 in
theorem list_any (l own : List Int) (ol oo : Option Addr) (cl co : Nat) (F G : Foot) (w : World) (hs : SliceR intR 1 F w ol l) (hc : l.length ≤ cl) (hl : l.length ≤ 9223372036854775807)
    (hso : SliceR intR 1 G w oo own) (hco : own.length ≤ co) (ho : own.length ≤ 1000000000) (hp : Hid (own.Pairwise (· < ·))) :
    Calls Try.prog 89 #[.slice ol l.length cl, .slice oo own.length co] w (ErrPost w (listE l own)) := by
  by_cases hlen : l.length = own.length
  · have HE : Hid (listE l own = if scanE own [] l = 0 then (if l.head? = own.head? then 0 else 9) else scanE own [] l) := if_pos hlen
    have hq : ((l.length : Int) != (own.length : Int)) = false := by simp [hlen]
    have hlo : l.length ≤ 1000000000 := by omega
    have HLen := hide hlen
    clear hlen
    go_enter Try.func89, Try.ntmps89
    go_wp2_with fail
    go_loop [16] (fun iv => ∃ k : Nat, k ≤ l.length ∧ iv = .int .i64 k ∧ Hid (scanE own [] l = scanE own (l.take k) (l.drop k))) (fun iv => l.length - (intOf iv).toNat)
    case atStart => exact ⟨0, by omega, rfl, rfl⟩
    case round =>
      obtain ⟨k, hk, rfl, HS⟩ := hrel
      by_cases hlt : k < l.length
      · obtain ⟨x, hd, hget, ix, b, off, hoa, _, c0⟩ := hs.int_at hlt
        have hpre := hs.pre k
        have hlp : (l.take k).length = k := by rw [List.length_take]; omega
        have HP : Hid (l.take k ++ [x] = l.take (k + 1)) := by show _ = _; rw [List.take_add_one, hget]; rfl
        have hSS := HS.out
        rw [hd, scanE_cons] at hSS
        have HS2 := hide hSS
        have hcon := fun W (hW : SliceR intR 1 F W ol (l.take k)) => contains_any x (l.take k) ol cl F W hW (by rw [hlp]; omega) (by rw [hlp]; omega)
        simp only [hlp] at hcon
        clear hSS hd hget
        by_cases hxo : x ∈ own
        · have q1 : decide (x ∈ own) = true := by simp [hxo]
          by_cases hxp : x ∈ l.take k
          · have q2 : decide (x ∈ l.take k) = true := by simp [hxp]
            have HR : Hid (listE l own = 7) := by
              show _ = _
              have h := HS2.out
              rw [if_pos hxo, if_pos hxp] at h
              rw [HE.out, h, if_neg (by decide)]
            clear hxo hxp
            subst hoa
            go_wp2_with (first | (go_at_call 104; refine (bin_any x own hp oo co G _ hso hco ho).mono ?_; rintro e w' ⟨⟨ib, rfl⟩, rfl⟩; rw [q1]) | (go_at_call 105; refine (hcon _ hpre).mono ?_; rintro e w' ⟨rfl, rfl⟩; rw [q2]) | fail)
            go_ret
            exact ⟨ret_int HR.out.symm, Below.refl _ _⟩
          · have q2 : decide (x ∈ l.take k) = false := by simp [hxp]
            have HS3 : Hid (scanE own [] l = scanE own (l.take (k + 1)) (l.drop (k + 1))) := by
              show _ = _
              have h := HS2.out
              rw [if_pos hxo, if_neg hxp, HP.out] at h
              exact h
            clear hxo hxp
            subst hoa
            go_wp2_with (first | (go_at_call 104; refine (bin_any x own hp oo co G _ hso hco ho).mono ?_; rintro e w' ⟨⟨ib, rfl⟩, rfl⟩; rw [q1]) | (go_at_call 105; refine (hcon _ hpre).mono ?_; rintro e w' ⟨rfl, rfl⟩; rw [q2]) | fail)
            go_round
            case rel => exact ⟨k + 1, by omega, by go_num, HS3⟩
            case measure => simp [intOf]; omega
        · have q1 : decide (x ∈ own) = false := by simp [hxo]
          have HR : Hid (listE l own = 2) := by
            show _ = _
            have h := HS2.out
            rw [if_neg hxo] at h
            rw [HE.out, h, if_neg (by decide)]
          clear hxo
          subst hoa
          go_wp2_with (first | (go_at_call 104; refine (bin_any x own hp oo co G _ hso hco ho).mono ?_; rintro e w' ⟨⟨ib, rfl⟩, rfl⟩; rw [q1]) | fail)
          go_ret
          exact ⟨ret_int HR.out.symm, Below.refl _ _⟩
      · have HR : Hid (listE l own = if l.head? = own.head? then 0 else 9) := by
          show _ = _
          have h := HS.out
          rw [List.drop_of_length_le (by omega)] at h
          rw [HE.out, if_pos (h.trans (show scanE own (l.take k) [] = 0 from rfl))]
        by_cases hz : 0 < l.length
        · obtain ⟨x, _, hgx, ix, b1, off1, hoa1, _, c0⟩ := hs.int_at hz
          obtain ⟨y, _, hgy, iy, b2, off2, hoa2, _, c1⟩ := hso.int_at (i := 0) (by have := HLen.out; omega)
          simp only [Nat.add_zero] at c0 c1
          subst hoa1 hoa2
          have h1 : l.head? = some x := by rw [List.head?_eq_getElem?]; exact hgx
          have h2 : own.head? = some y := by rw [List.head?_eq_getElem?]; exact hgy
          have hz2 : 0 < own.length := by have := HLen.out; omega
          by_cases hxy : x = y
          · have HR2 : Hid (listE l own = 0) := by show _ = _; rw [HR.out, h1, h2, if_pos (by rw [hxy])]
            have q3 : (x != y) = false := by simp [hxy]
            have HXY := hide hxy
            clear h1 h2 hgx hgy hxy
            go_wp2_with fail
            go_quiet (fail)
            go_wp2_with fail
            go_ret
            exact ⟨ret_int HR2.out.symm, below_drewN (Below.refl _ _) _⟩
          · have HR2 : Hid (listE l own = 9) := by show _ = _; rw [HR.out, h1, h2, if_neg (by simp [hxy])]
            have q3 : (x != y) = true := by simp [hxy]
            have HXY := hide hxy
            clear h1 h2 hgx hgy hxy
            go_wp2_with fail
            go_quiet (fail)
            go_wp2_with fail
            go_ret
            exact ⟨ret_int HR2.out.symm, below_drewN (Below.refl _ _) _⟩
        · have h0 : l.length = 0 := by omega
          have HR2 : Hid (listE l own = 0) := by
            show _ = _
            rw [HR.out, List.eq_nil_of_length_eq_zero h0, List.eq_nil_of_length_eq_zero (show own.length = 0 by have := HLen.out; omega)]
            rfl
          go_wp2_with fail
          go_quiet (fail)
          go_wp2_with fail
          go_ret
          exact ⟨ret_int HR2.out.symm, below_drewN (Below.refl _ _) _⟩
  · have HE : Hid (listE l own = 8) := if_neg hlen
    have hq : ((l.length : Int) != (own.length : Int)) = true := by simp; omega
    go_enter Try.func89, Try.ntmps89
    go_wp2_with fail
    go_ret
    exact ⟨ret_int HE.out.symm, Below.refl _ _⟩

end Go.Proofs.Ytopldbnlehjlpaa

set_option linter.unusedVariables false
set_option linter.unusedSimpArgs false
namespace Go.Proofs.Ytopldbnlehjlpaa
open Go.RowKit

def eL (es : List Edg) : List (Nat × Nat) := es.map fun x => (x.a.toNat, x.b.toNat)
theorem eL_next {es : List Edg} {k : Nat} {a b : Nat} {m : Int} (h : es[k]? = some ⟨a, b, m⟩) : eL (es.take (k + 1)) = eL (es.take k) ++ [(a, b)] := by
  rw [List.take_add_one, h]
  simp [eL]
theorem eL_lt {n : Int} {es : List Edg} (hV : gErr n es = 0) (k : Nat) : ∀ x ∈ eL (es.take k), x.1 < 12 ∧ x.2 < 12 := by
  intro x hx
  simp only [eL, List.mem_map] at hx
  obtain ⟨y, hy, rfl⟩ := hx
  have h := (gErr_zero hV).2.1 y (List.mem_of_mem_take hy)
  have h2 := (gErr_zero hV).1
  constructor
  · simp only; omega
  · simp only; omega

def ForestPost (w : World) (es : List Edg) (e : Ending) (w' : World) : Prop :=
  ∃ f, e = .returned (.agg (castV f).toArray) ∧ Uf f (eL es) ∧ Below w.heap.size w w'

set_option maxRecDepth 100000 in
set_option maxHeartbeats 2000000 in
theorem joinedG_any (n : Int) (es : List Edg) (oe : Option Addr) (c : Nat) (F : Foot) (w : World) (hs : SliceR edgR 3 F w oe es) (hc : es.length ≤ c) (hc2 : es.length ≤ 9223372036854775807) (hV : Hid (gErr n es = 0)) :
    Calls Try.prog 119 #[.agg #[.int .i64 n, .slice oe es.length c]] w (ForestPost w es) := by
  go_enter Try.func119, Try.ntmps119
  go_wp2_with fail
  refine (grown_any _).mono ?_
  rintro e w2 ⟨rfl, hb2⟩
  have hx2 := box_then (box_new (box_refl w (.cells #[.int .i64 n, .slice oe es.length c] 24)) (by simp) (.cells #[.int .i64 0, .int .i64 0, .int .i64 0, .int .i64 0, .int .i64 0, .int .i64 0, .int .i64 0, .int .i64 0, .int .i64 0, .int .i64 0, .int .i64 0, .int .i64 0] 158)) (by simp) hb2
  have hr2 := (Box.new (w.alloc (.cells #[.int .i64 n, .slice oe es.length c] 24)) [.int .i64 0, .int .i64 0, .int .i64 0, .int .i64 0, .int .i64 0, .int .i64 0, .int .i64 0, .int .i64 0, .int .i64 0, .int .i64 0, .int .i64 0, .int .i64 0] 158).below hb2
  rw [World.size_alloc] at hr2
  have hsz2 := hr2.lt
  have d1 := box_cell hx2 1
  simp at d1
  have hszx : w.heap.size < w2.heap.size := by omega
  have d1n := cell_next d1 (.cells #[.int .i64 0, .int .i64 1, .int .i64 2, .int .i64 3, .int .i64 4, .int .i64 5, .int .i64 6, .int .i64 7, .int .i64 8, .int .i64 9, .int .i64 10, .int .i64 11] 158)
  clear hb2
  go_wp2_with fail
  have hx3 := box_new hx2 (by simp) (.cells #[.int .i64 0, .int .i64 1, .int .i64 2, .int .i64 3, .int .i64 4, .int .i64 5, .int .i64 6, .int .i64 7, .int .i64 8, .int .i64 9, .int .i64 10, .int .i64 11] 158)
  have hf3 : Box (w2.alloc (.cells #[.int .i64 0, .int .i64 1, .int .i64 2, .int .i64 3, .int .i64 4, .int .i64 5, .int .i64 6, .int .i64 7, .int .i64 8, .int .i64 9, .int .i64 10, .int .i64 11] 158)) w2.heap.size (castV (List.range 12)) 158 := Box.new w2 (castV (List.range 12)) _
  have hr3 := hr2.next (.cells #[.int .i64 0, .int .i64 1, .int .i64 2, .int .i64 3, .int .i64 4, .int .i64 5, .int .i64 6, .int .i64 7, .int .i64 8, .int .i64 9, .int .i64 10, .int .i64 11] 158)
  have hU := hide (Uf.begin)
  clear hx2 hr2 d1 d1n
  go_loopw [10] (fun iv wr => ∃ (k : Nat) (f : List Nat), k ≤ es.length ∧ iv = .int .i64 k ∧ Hid (Uf f (eL (es.take k))) ∧ Box wr w2.heap.size (castV f) 158 ∧ Box wr (w.heap.size + 1) [.int .i64 0, .int .i64 0, .int .i64 0, .int .i64 0, .int .i64 0, .int .i64 0, .int .i64 0, .int .i64 0, .int .i64 0, .int .i64 0, .int .i64 0, .int .i64 0] 158 ∧
    Below (w.heap.size + 1) (w.alloc (.cells #[.int .i64 n, .slice oe es.length c] 24)) wr) (fun iv _ => es.length - (intOf iv).toNat)
  case atStart => exact ⟨0, _, by omega, rfl, hU, hf3, hr3, hx3⟩
  case round =>
    obtain ⟨k, f, hk, rfl, HU, hf, hr, hb⟩ := hrel
    clear hx3 hf3 hr3 hU
    have hszf := hf.lt
    by_cases hlt : k < es.length
    · obtain ⟨a, b, m, _, hget, _, _, _, bl, off, rfl, _, c0, c1, c2⟩ := (hs.below edgR_ok (below_box hb)).edg_at hlt
      have hve := (gErr_zero hV.out).2.1 _ (List.mem_of_getElem? hget)
      have hvn := (gErr_zero hV.out).1
      simp only at hve
      obtain ⟨a, rfl⟩ := Int.eq_ofNat_of_zero_le hve.1.1
      obtain ⟨b, rfl⟩ := Int.eq_ofNat_of_zero_le hve.2.1.1
      have ha : a < 12 := by omega
      have hbb : b < 12 := by omega
      have hbl := World.block_lt_of_cell? _ _ c0
      simp only at hbl
      have HU2 : Hid (Uf (joinF f a b) (eL (es.take (k + 1)))) := by
        show Uf _ _
        rw [eL_next hget]
        exact HU.out.join ha hbb (eL_lt hV.out k)
      have HF := hide HU.out.fst
      have bx := Box.new wr [.int .i64 a, .int .i64 b, .int .i64 m] 109
      have x0 := bx.cell 0
      have x1 := bx.cell 1
      simp at x0 x1
      clear hget hve bx
      go_wp2_with fail
      refine (join_any f w2.heap.size a b _ (hf.next _) HF ha hbb).mono ?_
      rintro e w4 ⟨rfl, hf4, hb4⟩
      have hb4a := hb4 (w.heap.size + 2) (by omega)
      go_wp2_with fail
      go_roundw
      case rel => exact ⟨k + 1, _, by omega, by go_num, HU2, hf4, (hr.next _).under hb4a (by omega), (box_new hb (by simp) _).trans (hb4a.mono (by omega))⟩
      case measure => simp [intOf]; omega
    · have hk2 : k = es.length := by omega
      have HUF : Hid (Uf f (eL es)) := by
        have := HU.out
        rw [hk2, List.take_length] at this
        exact this
      obtain ⟨a0, a1, a2, a3, a4, a5, a6, a7, a8, a9, a10, a11, rfl⟩ := twelve HU.out.fst.len
      have q : ∀ i, wr.cell? ⟨w2.heap.size, i, none⟩ = ([.int .i64 (a0 : Nat), .int .i64 (a1 : Nat), .int .i64 (a2 : Nat), .int .i64 (a3 : Nat), .int .i64 (a4 : Nat), .int .i64 (a5 : Nat), .int .i64 (a6 : Nat), .int .i64 (a7 : Nat), .int .i64 (a8 : Nat), .int .i64 (a9 : Nat), .int .i64 (a10 : Nat), .int .i64 (a11 : Nat)] : List Value)[i]? := fun i => hf.cell i
      have q0 := q 0
      have q1 := q 1
      have q2 := q 2
      have q3 := q 3
      have q4 := q 4
      have q5 := q 5
      have q6 := q 6
      have q7 := q 7
      have q8 := q 8
      have q9 := q 9
      have q10 := q 10
      have q11 := q 11
      simp only [List.getElem?_cons_zero, List.getElem?_cons_succ] at q0 q1 q2 q3 q4 q5 q6 q7 q8 q9 q10 q11
      have r0 := hr.cell 0
      have r1 := hr.cell 1
      have r2 := hr.cell 2
      have r3 := hr.cell 3
      have r4 := hr.cell 4
      have r5 := hr.cell 5
      have r6 := hr.cell 6
      have r7 := hr.cell 7
      have r8 := hr.cell 8
      have r9 := hr.cell 9
      have r10 := hr.cell 10
      have r11 := hr.cell 11
      simp only [List.getElem?_cons_zero, List.getElem?_cons_succ] at r0 r1 r2 r3 r4 r5 r6 r7 r8 r9 r10 r11
      have fr := fun i => hr.free i
      have hszr := hr.lt
      have hbf := below_box hb
      have HHR := hide hr
      clear hk2 HU q hf hr
      go_wp2_with fail
      have hfin := ((((((((((((HHR.out.put 0 (.int .i64 (a0 : Nat))).put 1 (.int .i64 (a1 : Nat))).put 2 (.int .i64 (a2 : Nat))).put 3 (.int .i64 (a3 : Nat))).put 4 (.int .i64 (a4 : Nat))).put 5 (.int .i64 (a5 : Nat))).put 6 (.int .i64 (a6 : Nat))).put 7 (.int .i64 (a7 : Nat))).put 8 (.int .i64 (a8 : Nat))).put 9 (.int .i64 (a9 : Nat))).put 10 (.int .i64 (a10 : Nat))).put 11 (.int .i64 (a11 : Nat)))
      simp only [List.set_cons_zero, List.set_cons_succ] at hfin
      have z0 := hfin.cell 0
      have z1 := hfin.cell 1
      have z2 := hfin.cell 2
      have z3 := hfin.cell 3
      have z4 := hfin.cell 4
      have z5 := hfin.cell 5
      have z6 := hfin.cell 6
      have z7 := hfin.cell 7
      have z8 := hfin.cell 8
      have z9 := hfin.cell 9
      have z10 := hfin.cell 10
      have z11 := hfin.cell 11
      simp only [List.getElem?_cons_zero, List.getElem?_cons_succ] at z0 z1 z2 z3 z4 z5 z6 z7 z8 z9 z10 z11
      refine bodyPost_ret (v := .agg #[.int .i64 (a0 : Nat), .int .i64 (a1 : Nat), .int .i64 (a2 : Nat), .int .i64 (a3 : Nat), .int .i64 (a4 : Nat), .int .i64 (a5 : Nat), .int .i64 (a6 : Nat), .int .i64 (a7 : Nat), .int .i64 (a8 : Nat), .int .i64 (a9 : Nat), .int .i64 (a10 : Nat), .int .i64 (a11 : Nat)]) ?_ rfl ⟨[a0, a1, a2, a3, a4, a5, a6, a7, a8, a9, a10, a11], rfl, HUF.out, ?_⟩
      · simp [results, Try.results119, go_sem, z0, z1, z2, z3, z4, z5, z6, z7, z8, z9, z10, z11]
      · exact (((((((((((hbf.setCell (by simp) _).setCell (by simp) _).setCell (by simp) _).setCell (by simp) _).setCell (by simp) _).setCell (by simp) _).setCell (by simp) _).setCell (by simp) _).setCell (by simp) _).setCell (by simp) _).setCell (by simp) _).setCell (by simp) _

end Go.Proofs.Ytopldbnlehjlpaa

set_option linter.unusedVariables false
set_option linter.unusedSimpArgs false
set_option linter.unnecessarySimpa false
namespace Go.Proofs.Ytopldbnlehjlpaa
open Go.RowKit

theorem cnt_uf {E : List (Nat × Nat)} {f g : List Nat} (hf : Uf f E) (hg : Uf g E) {n : Nat} (hn : n ≤ 12) : cnt f n = cnt g n := by
  unfold cnt
  congr 1
  refine List.filter_congr fun v hv => ?_
  have hv2 : v < 12 := by have := List.mem_range.1 hv; omega
  have h1 := (hf.least hv2).trans (hg.least hv2).symm
  show (rootF f v == v) = (rootF g v == v)
  by_cases h : rootF f v = v
  · rw [h, h1.1 h]
  · rw [beq_eq_false_iff_ne.2 h, beq_eq_false_iff_ne.2 (fun e => h (h1.2 e))]

/-- How many parts a right graph has; 0 of a wrong one. -/
def partsN (n : Int) (es : List Edg) (f : List Nat) : Nat := if gErr n es = 0 then cnt f n.toNat else 0
def CompPost (w : World) (n : Int) (es : List Edg) (f : List Nat) (e : Ending) (w' : World) : Prop :=
  (∃ oa c, e = .returned (.tuple #[.slice oa (partsN n es f) c, .int .i64 (gErr n es)])) ∧ Below w.heap.size w w'

set_option maxRecDepth 100000 in
set_option maxHeartbeats 2000000 in
theorem comps_any (n : Int) (es : List Edg) (oe : Option Addr) (c : Nat) (F : Foot) (w : World) (hs : SliceR edgR 3 F w oe es) (hc : es.length ≤ c) (hc2 : es.length ≤ 9223372036854775807)
    (f : List Nat) (hU : Hid (gErr n es = 0 → Uf f (eL es))) : Calls Try.prog 112 #[.agg #[.int .i64 n, .slice oe es.length c]] w (CompPost w n es f) := by
  go_enter Try.func112, Try.ntmps112
  go_wp2_with fail
  have hb0 := box_refl w (.cells #[.int .i64 n, .slice oe es.length c] 24)
  refine (gcheck_any n es oe c F _ (hs.below edgR_ok (below_box hb0)) hc hc2).mono ?_
  rintro e w2 ⟨rfl, hb2⟩
  have hx2 := hb2.mono (B' := w.heap.size + 1) (by simp)
  have d0 := box_cell hx2 0
  have d1 := box_cell hx2 1
  simp at d0 d1
  clear hb2 hb0
  have hs2 := hs.below edgR_ok (below_box hx2)
  by_cases hV : gErr n es = 0
  · have HV := hide hV
    have HP : Hid (partsN n es f = cnt f n.toNat) := if_pos hV
    have hn := (gErr_zero hV).1
    rw [hV]
    obtain ⟨N, rfl⟩ := Int.eq_ofNat_of_zero_le (show 0 ≤ n by omega)
    go_wp2_with fail
    refine (joinedG_any N es oe c F _ hs2 hc hc2 HV).mono ?_
    rintro e w3 ⟨g, rfl, hg, hb3⟩
    have hx3 := hx2.trans (hb3.mono (box_lt hx2))
    have d0 := box_cell hx3 0
    simp at d0
    have HG := hide hg
    have hlt3 := box_lt hx3
    clear hb3 d1 hx2 hs2
    obtain ⟨a0, a1, a2, a3, a4, a5, a6, a7, a8, a9, a10, a11, hg12⟩ := twelve hg.fst.len
    have hca : castV g = [.int .i64 (a0 : Nat), .int .i64 (a1 : Nat), .int .i64 (a2 : Nat), .int .i64 (a3 : Nat), .int .i64 (a4 : Nat), .int .i64 (a5 : Nat), .int .i64 (a6 : Nat), .int .i64 (a7 : Nat), .int .i64 (a8 : Nat), .int .i64 (a9 : Nat), .int .i64 (a10 : Nat), .int .i64 (a11 : Nat)] := by rw [hg12]; rfl
    have d0n := cell_next d0 (.cells #[.int .i64 (a0 : Nat), .int .i64 (a1 : Nat), .int .i64 (a2 : Nat), .int .i64 (a3 : Nat), .int .i64 (a4 : Nat), .int .i64 (a5 : Nat), .int .i64 (a6 : Nat), .int .i64 (a7 : Nat), .int .i64 (a8 : Nat), .int .i64 (a9 : Nat), .int .i64 (a10 : Nat), .int .i64 (a11 : Nat)] 158)
    have hbx : Box (w3.alloc (.cells #[.int .i64 (a0 : Nat), .int .i64 (a1 : Nat), .int .i64 (a2 : Nat), .int .i64 (a3 : Nat), .int .i64 (a4 : Nat), .int .i64 (a5 : Nat), .int .i64 (a6 : Nat), .int .i64 (a7 : Nat), .int .i64 (a8 : Nat), .int .i64 (a9 : Nat), .int .i64 (a10 : Nat), .int .i64 (a11 : Nat)] 158)) w3.heap.size (castV g) 158 := by rw [hca]; exact Box.new w3 _ _
    rw [hca]
    have HB3 := hide (box_new hx3 (by simp) (.cells #[.int .i64 (a0 : Nat), .int .i64 (a1 : Nat), .int .i64 (a2 : Nat), .int .i64 (a3 : Nat), .int .i64 (a4 : Nat), .int .i64 (a5 : Nat), .int .i64 (a6 : Nat), .int .i64 (a7 : Nat), .int .i64 (a8 : Nat), .int .i64 (a9 : Nat), .int .i64 (a10 : Nat), .int .i64 (a11 : Nat)] 158))
    clear hca hg12 hg hV hx3
    go_wp2_with fail
    refine (parts_any g w3.heap.size N _ hbx (hide HG.out.fst) (by omega)).mono ?_
    rintro e w4 ⟨oa, c4, rfl, hb4⟩
    have HF : Hid (cnt g N = partsN (N : Int) es f) := by
      show _ = _
      rw [HP.out]
      exact cnt_uf HG.out (hU.out HV.out) (by omega)
    have HB4 := hide (below_then (below_box HB3.out) (hb4.mono (by simp)))
    clear hb4 hbx
    go_wp2_with fail
    go_ret2
    refine ⟨⟨oa, c4, ?_⟩, ?_⟩
    · rw [← HF.out, HV.out]; rfl
    · exact HB4.out
  · have HP : Hid (partsN n es f = 0) := if_neg hV
    have hx := hide (below_box hx2)
    have hq : (gErr n es != 0) = true := by simpa using hV
    go_wp2_with fail
    go_ret2
    exact ⟨⟨none, 0, by rw [HP.out]; rfl⟩, hx.out⟩

def ConnPost (w : World) (n : Int) (es : List Edg) (f : List Nat) (e : Ending) (w' : World) : Prop :=
  e = .returned (.tuple #[.bool (partsN n es f == 1), .int .i64 (gErr n es)]) ∧ Below w.heap.size w w'

set_option maxRecDepth 100000 in
set_option maxHeartbeats 1000000 in
theorem conn_any (n : Int) (es : List Edg) (oe : Option Addr) (c : Nat) (F : Foot) (w : World) (hs : SliceR edgR 3 F w oe es) (hc : es.length ≤ c) (hc2 : es.length ≤ 9223372036854775807)
    (f : List Nat) (hU : Hid (gErr n es = 0 → Uf f (eL es))) : Calls Try.prog 102 #[.agg #[.int .i64 n, .slice oe es.length c]] w (ConnPost w n es f) := by
  go_enter Try.func102, Try.ntmps102
  go_wp2_with fail
  have hb0 := box_refl w (.cells #[.int .i64 n, .slice oe es.length c] 24)
  refine (comps_any n es oe c F _ (hs.below edgR_ok (below_box hb0)) hc hc2 f hU).mono ?_
  rintro e w2 ⟨⟨oa, c2, rfl⟩, hb2⟩
  have hx := hide (below_box (hb2.mono (B' := w.heap.size + 1) (by simp)))
  clear hb2
  have HQ : Hid ((partsN n es f == 1) = decide (((partsN n es f : Nat) : Int) = 1)) := by
    show _ = _
    rw [Bool.eq_iff_iff]
    simp
    omega
  go_wp2_with fail
  go_ret2
  exact ⟨by rw [HQ.out]; rfl, hx.out⟩

/-- The error of a graph that has to be connected. -/
def jErr (n : Int) (es : List Edg) (f : List Nat) : Int := if gErr n es = 0 then (if partsN n es f = 1 then 0 else 13) else gErr n es
def jEnds (n : Int) (es : List Edg) : List (Int × Int) := if gErr n es = 0 then endsL es else []
def JoinedPost (w : World) (n : Int) (es : List Edg) (f : List Nat) (e : Ending) (w' : World) : Prop :=
  ∃ v, e = .returned (.tuple #[v, .int .i64 (jErr n es f)]) ∧ OwnS prR 2 w.heap.size 107 Non w' v (jEnds n es) ∧ Below w.heap.size w w'

set_option maxRecDepth 100000 in
set_option maxHeartbeats 1000000 in
theorem joined_any (n : Int) (es : List Edg) (oe : Option Addr) (c : Nat) (F : Foot) (w : World) (hs : SliceR edgR 3 F w oe es) (hc : es.length ≤ c) (hc2 : es.length ≤ 1000)
    (f : List Nat) (hU : Hid (gErr n es = 0 → Uf f (eL es))) : Calls Try.prog 87 #[.agg #[.int .i64 n, .slice oe es.length c]] w (JoinedPost w n es f) := by
  go_enter Try.func87, Try.ntmps87
  go_wp2_with fail
  have hb0 := box_refl w (.cells #[.int .i64 n, .slice oe es.length c] 24)
  refine (gends_any n es oe c F _ (hs.below edgR_ok (below_box hb0)) hc hc2).mono ?_
  rintro e w2 ⟨v, rfl, ho, hb2⟩
  have hx2 := hb2.mono (B' := w.heap.size + 1) (by simp)
  have d0 := box_cell hx2 0
  have d1 := box_cell hx2 1
  simp at d0 d1
  clear hb2 hb0
  have hs2 := hs.below edgR_ok (below_box hx2)
  by_cases hV : gErr n es = 0
  · have HR : Hid (endsRes n es = (endsL es, 0)) := if_pos hV
    have HJ : Hid (jErr n es f = if partsN n es f = 1 then 0 else 13) := if_pos hV
    have HE : Hid (jEnds n es = endsL es) := if_pos hV
    rw [HR.out] at ho
    rw [HR.out]
    have HO := hide ho
    go_wp2_with fail
    refine (conn_any n es oe c F _ hs2 hc (by omega) f hU).mono ?_
    rintro e w3 ⟨rfl, hb3⟩
    have HO3 := hide (HO.out.below prR_ok hb3)
    have HX := hide (below_box (hx2.trans (hb3.mono (box_lt hx2))))
    clear hb3 ho hs2 d0 d1 hx2
    rw [hV]
    clear hV
    by_cases hp : partsN n es f = 1
    · have HJ2 : Hid (jErr n es f = 0) := by show _ = _; rw [HJ.out, if_pos hp]
      have hq : (partsN n es f == 1) = true := by simpa using hp
      clear hp
      go_wp2_with fail
      go_ret2
      exact ⟨v, by rw [HJ2.out]; rfl, by rw [HE.out]; exact HO3.out.rebase (by simp), HX.out⟩
    · have HJ2 : Hid (jErr n es f = 13) := by show _ = _; rw [HJ.out, if_neg hp]
      have hq : (partsN n es f == 1) = false := by simpa using hp
      clear hp
      go_wp2_with fail
      go_ret2
      exact ⟨v, by rw [HJ2.out]; rfl, by rw [HE.out]; exact HO3.out.rebase (by simp), HX.out⟩
  · have HR : Hid (endsRes n es = ([], gErr n es)) := if_neg hV
    have HJ : Hid (jErr n es f = gErr n es) := if_neg hV
    have HE : Hid (jEnds n es = []) := if_neg hV
    have hx := hide (below_box hx2)
    have hq : (gErr n es != 0) = true := by simpa using hV
    rw [HR.out]
    clear ho
    go_wp2_with fail
    go_ret2
    exact ⟨_, by rw [HJ.out]; rfl, by rw [HE.out]; exact OwnS.nil prR 2 _ _ _ _, hx.out⟩

end Go.Proofs.Ytopldbnlehjlpaa

set_option linter.unusedVariables false
set_option linter.unusedSimpArgs false
set_option linter.unnecessarySimpa false
namespace Go.Proofs.Ytopldbnlehjlpaa
open Go.RowKit

theorem hv_mem {l : List (Int × Int)} {h : Nat} (hh : h < 2 * l.length) : ∃ p ∈ l, hv l h = p.1 ∨ hv l h = p.2 := by
  have hq : h / 2 < l.length := by omega
  have hg : l.getD (h / 2) (0, 0) = l[h / 2] := by rw [List.getD_eq_getElem?_getD, List.getElem?_eq_getElem hq]; rfl
  refine ⟨l[h / 2], List.getElem_mem hq, ?_⟩
  unfold hv
  rw [hg]
  split
  · exact .inl rfl
  · exact .inr rfl
theorem hv_range {n : Int} {es : List Edg} (hV : gErr n es = 0) : ∀ h, h < 2 * (endsL es).length → 0 ≤ hv (endsL es) h ∧ hv (endsL es) h < n := by
  intro h hh
  obtain ⟨p, hp, hpe⟩ := hv_mem hh
  obtain ⟨x, hx, rfl⟩ := endsL_mem hp
  have h1 := (gErr_zero hV).2.1 x hx
  rcases hpe with e | e <;> (rw [e]; simp only; omega)
theorem halfU_up (l : List (Int × Int)) (H v : Nat) : (halfU l H v).Pairwise (· < ·) := by
  unfold halfU
  rw [List.pairwise_map]
  refine (List.Pairwise.filter _ List.pairwise_lt_range).imp fun h => by omega

def rowsE : List (List Int) → List (List Int) → Int
  | a :: r, o :: q => if listE a o = 0 then rowsE r q else listE a o
  | _, _ => 0
theorem rowsE_cons (a o : List Int) (r q : List (List Int)) : rowsE (a :: r) (o :: q) = if listE a o = 0 then rowsE r q else listE a o := rfl
def halfs (n : Int) (es : List Edg) : List (List Int) := halvesU n.toNat (endsL es) (2 * (endsL es).length)
/-- The error of a ribbon graph. -/
def chkE (n : Int) (es : List Edg) (f : List Nat) (ar : List (List Int)) : Int :=
  if jErr n es f = 0 then (if (ar.length : Int) = n then rowsE ar (halfs n es) else 8) else jErr n es f
def CheckedPost (w : World) (n : Int) (es : List Edg) (f : List Nat) (ar : List (List Int)) (e : Ending) (w' : World) : Prop :=
  ∃ v, e = .returned (.tuple #[v, .int .i64 (chkE n es f ar)]) ∧ OwnS prR 2 w.heap.size 107 Non w' v (if chkE n es f ar = 0 then endsL es else []) ∧ Below w.heap.size w w'

theorem jErr_zero {n : Int} {es : List Edg} {f : List Nat} (h : jErr n es f = 0) : gErr n es = 0 := by
  unfold jErr at h
  split at h
  · assumption
  · exact h

set_option maxRecDepth 100000 in
set_option maxHeartbeats 4000000 in
theorem checked_any (n : Int) (es : List Edg) (oe : Option Addr) (c : Nat) (ar : List (List Int)) (oa : Option Addr) (ca : Nat) (F G : Foot) (w : World) (hs : SliceR edgR 3 F w oe es) (hc : es.length ≤ c) (hc2 : es.length ≤ 1000)
    (ha : SliceR (slcR intR 1) 1 G w oa ar) (hac : ar.length ≤ ca) (hac2 : ar.length ≤ 9223372036854775807) (f : List Nat) (hU : Hid (gErr n es = 0 → Uf f (eL es))) :
    Calls Try.prog 73 #[.agg #[.int .i64 n, .slice oe es.length c, .slice oa ar.length ca]] w (CheckedPost w n es f ar) := by
  go_enter Try.func73, Try.ntmps73
  go_wp2_with fail
  have hb0 := box_refl w (.cells #[.int .i64 n, .slice oe es.length c, .slice oa ar.length ca] 27)
  refine (joined_any n es oe c F _ (hs.below edgR_ok (below_box hb0)) hc hc2 f hU).mono ?_
  rintro e w2 ⟨v, rfl, ho, hb2⟩
  have hx2 := hb2.mono (B' := w.heap.size + 1) (by simp)
  have d0 := box_cell hx2 0
  have d2 := box_cell hx2 2
  simp at d0 d2
  clear hb2 hb0
  by_cases hJ : jErr n es f = 0
  · have hV := jErr_zero hJ
    have HC : Hid (chkE n es f ar = if (ar.length : Int) = n then rowsE ar (halfs n es) else 8) := if_pos hJ
    have HE : Hid (jEnds n es = endsL es) := if_pos hV
    rw [HE.out] at ho
    rw [hJ]
    by_cases hn : (ar.length : Int) = n
    · have HC2 : Hid (chkE n es f ar = rowsE ar (halfs n es)) := by show _ = _; rw [HC.out, if_pos hn]
      have hn12 := (gErr_zero hV).1
      have hq : ((ar.length : Int) != n) = false := by simp [hn]
      obtain ⟨N, rfl⟩ := Int.eq_ofNat_of_zero_le (show 0 ≤ n by omega)
      have hNar : ar.length = N := by omega
      have HHV := hide (hv_range hV)
      have hend : (endsL es).length ≤ 50000 := by
        have := endsL_len fun x hx => ((gErr_zero hV).2.1 x hx).2.2.2.1
        omega
      obtain ⟨ox, cx, rfl, hcx, hsx⟩ := ho.slice prR_ok
      have HO := hide ho
      have hb2' := hide (below_box hx2)
      clear ho hn hV hJ
      go_wp2_with fail
      refine (halves_any N (endsL es) ox cx _ _ hsx hcx (by omega) (by omega) HHV).mono ?_
      rintro e w3 ⟨g, vs, rfl, hvl, HL, hb3⟩
      have hx3 := hx2.trans (hb3.mono (box_lt hx2))
      have hgl := (HL.row.lt g rfl).2
      have HO3 := hide (HO.out.below prR_ok hb3)
      clear hb3 d0 d2 hx2
      go_wp2_with fail
      have HH : Hid (halfs (N : Int) es = halvesU N (endsL es) (2 * (endsL es).length)) := rfl
      go_loopw [31] (fun iv wr => ∃ k : Nat, k ≤ N ∧ iv = .int .i64 k ∧ Hid (chkE (N : Int) es f ar = rowsE (ar.drop k) ((halfs (N : Int) es).drop k)) ∧ Below w3.heap.size w3 wr) (fun iv _ => N - (intOf iv).toNat)
      case atStart => exact ⟨0, by omega, rfl, HC2, Below.refl _ _⟩
      case round =>
        obtain ⟨k, hk, rfl, HS, hbr⟩ := hrel
        have hxr := hx3.trans (hbr.mono (box_lt hx3))
        have hbw := below_box hxr
        by_cases hlt : k < N
        · obtain ⟨x, hd, hget, b, off, ol, cl, hoa, _, c0, hxl, hxl2, hsl⟩ := (ha.below (slcR_ok intR_ok (by decide)) hbw).slc_at (i := k) (by omega)
          subst hoa
          have hho := halvesU_get (l := endsL es) (H := 2 * (endsL es).length) hlt
          have HLr := HL.below hbr
          obtain ⟨v, hv'⟩ : ∃ v, vs[k]? = some v := ⟨vs[k], List.getElem?_eq_getElem (by omega)⟩
          have hrow := HLr.row
          rw [hvl] at hrow
          have c1 := hrow.cellAt k (by omega)
          rw [hv'] at c1
          obtain ⟨oo, co, rfl, hco, hso⟩ := (HLr.ms.own k v _ hv' hho).slice
          have hol := halfU_len (endsL es) (2 * (endsL es).length) k
          have hup := hide (halfU_up (endsL es) (2 * (endsL es).length) k)
          have d2 := box_cell hxr 2
          simp at d2
          have HS2 : Hid (chkE (N : Int) es f ar = if listE x (halfU (endsL es) (2 * (endsL es).length) k) = 0 then rowsE (ar.drop (k + 1)) ((halfs (N : Int) es).drop (k + 1)) else listE x (halfU (endsL es) (2 * (endsL es).length) k)) := by
            show _ = _
            have hd2 : (halfs (N : Int) es).drop k = halfU (endsL es) (2 * (endsL es).length) k :: (halfs (N : Int) es).drop (k + 1) := by
              rw [HH.out]
              have hkl : k < (halvesU N (endsL es) (2 * (endsL es).length)).length := by simp [halvesU, hlt]
              rw [List.drop_eq_getElem_cons hkl]
              congr 1
              rw [List.getElem?_eq_getElem hkl] at hho
              injection hho
            rw [HS.out, hd, hd2, rowsE_cons]
          have HOV := hide hvl
          generalize halfU (endsL es) (2 * (endsL es).length) k = own at hco hso hol hup HS2 c1
          clear hv' hho HLr hrow hd hget hvl
          by_cases hle : listE x own = 0
          · have HS3 : Hid (chkE (N : Int) es f ar = rowsE (ar.drop (k + 1)) ((halfs (N : Int) es).drop (k + 1))) := by show _ = _; rw [HS2.out, if_pos hle]
            go_wp2_with fail
            refine (list_any x own ol oo cl co _ _ _ hsl hxl hxl2 hso hco (by omega) hup).mono ?_
            rintro e w5 ⟨rfl, hb5⟩
            rw [hle]
            have hbr5 := hide (below_then hbr hb5)
            clear hle hb5
            go_wp2_with fail
            go_roundw
            case rel => exact ⟨k + 1, by omega, by go_num, HS3, hbr5.out⟩
            case measure => simp [intOf]; omega
          · have HS3 : Hid (chkE (N : Int) es f ar = listE x own) := by show _ = _; rw [HS2.out, if_neg hle]
            have hq2 : (listE x own != 0) = true := by simpa using hle
            have HLE := hide hle
            clear hle
            go_wp2_with fail
            refine (list_any x own ol oo cl co _ _ _ hsl hxl hxl2 hso hco (by omega) hup).mono ?_
            rintro e w5 ⟨rfl, hb5⟩
            have hbr5 := hide (below_then hbw hb5)
            clear hb5
            go_wp2_with fail
            go_ret2
            exact ⟨_, by rw [HS3.out]; rfl, by rw [HS3.out, if_neg HLE.out]; exact OwnS.nil prR 2 _ _ _ _, hbr5.out⟩
        · have hkN : k = N := by omega
          have HS3 : Hid (chkE (N : Int) es f ar = 0) := by
            show _ = _
            rw [HS.out, List.drop_of_length_le (by omega)]
            rfl
          have HOr := hide (HO3.out.below prR_ok hbr)
          clear hbr
          go_wp2_with fail
          go_ret2
          exact ⟨_, by rw [HS3.out]; rfl, by rw [HS3.out, if_pos rfl]; exact HOr.out.rebase (by simp), hbw⟩
    · have HC2 : Hid (chkE n es f ar = 8) := by show _ = _; rw [HC.out, if_neg hn]
      have hq : ((ar.length : Int) != n) = true := by simpa using hn
      have HX := hide (below_box hx2)
      clear hn ho
      go_wp2_with fail
      go_ret2
      exact ⟨_, by rw [HC2.out]; rfl, by rw [HC2.out, if_neg (by decide)]; exact OwnS.nil prR 2 _ _ _ _, HX.out⟩
  · have HC : Hid (chkE n es f ar = jErr n es f) := if_neg hJ
    have hq : (jErr n es f != 0) = true := by simpa using hJ
    have HX := hide (below_box hx2)
    have HJ := hide hJ
    clear ho hJ
    go_wp2_with fail
    go_ret2
    exact ⟨_, by rw [HC.out]; rfl, by rw [HC.out, if_neg HJ.out]; exact OwnS.nil prR 2 _ _ _ _, HX.out⟩

end Go.Proofs.Ytopldbnlehjlpaa

set_option linter.unusedVariables false
set_option linter.unusedSimpArgs false
set_option linter.unnecessarySimpa false
namespace Go.Proofs.Ytopldbnlehjlpaa
open Go.RowKit

set_option maxRecDepth 100000 in
set_option maxHeartbeats 4000000 in
theorem betw_any (n : Int) (es : List Edg) (oe : Option Addr) (c : Nat) (F : Foot) (w : World) (hs : SliceR edgR 3 F w oe es) (hc : es.length ≤ c) (hc2 : es.length ≤ 9223372036854775807) (a b : Int) :
    Calls Try.prog 33 #[.agg #[.int .i64 n, .slice oe es.length c], .int .i64 a, .int .i64 b] w (ErrPost w (betw es a b)) := by
  rcases Int.lt_trichotomy a b with hab | hab | hab
  · have hmin : min a b = a := by omega
    have hmax : max a b = b := by omega
    go_enter Try.func33, Try.ntmps33
    go_wp2_with fail
    have hb0 := box_refl w (.cells #[.int .i64 n, .slice oe es.length c] 24)
    go_loopw [7] (fun iv wr => ∃ k : Nat, k ≤ es.length ∧ iv = .int .i64 k ∧ Hid (betw es a b = betw (es.drop k) a b) ∧ Below (w.heap.size + 1) (w.alloc (.cells #[.int .i64 n, .slice oe es.length c] 24)) wr) (fun iv _ => es.length - (intOf iv).toNat)
    case atStart => exact ⟨0, by omega, rfl, rfl, hb0⟩
    case round =>
      obtain ⟨k, hk, rfl, HB, hb⟩ := hrel
      have d1 := box_cell hb 1
      simp at d1
      clear hb0
      by_cases hlt : k < es.length
      · obtain ⟨x, y, m, hd, hget, _, _, _, bl, off, hoa, _, c0, c1, c2⟩ := (hs.below edgR_ok (below_box hb)).edg_at hlt
        subst hoa
        have hbl := World.block_lt_of_cell? _ _ c0
        simp only at hbl
        have hsz := box_lt hb
        have HS := HB.out
        rw [hd, betw] at HS
        simp only [hmin, hmax] at HS
        have HS := hide HS
        clear hd hget
        by_cases hx : x = a
        · by_cases hy : y = b
          · have HR : Hid (betw es a b = m) := by show _ = _; rw [HS.out, if_pos ⟨hx, hy⟩]
            have q1 : (x == a) = true := by simp [hx]
            have q2 : (y == b) = true := by simp [hy]
            have HX := hide (And.intro hx hy)
            clear hx hy
            go_wp2_with fail
            go_ret
            exact ⟨ret_int HR.out.symm, below_box (box_new hb (by simp) _)⟩
          · have HR : Hid (betw es a b = betw (es.drop (k + 1)) a b) := by show _ = _; rw [HS.out, if_neg (fun h => hy h.2)]
            have q1 : (x == a) = true := by simp [hx]
            have q2 : (y == b) = false := by simp [hy]
            have HX := hide (And.intro hx hy)
            clear hx hy
            go_wp2_with fail
            go_roundw
            case rel => exact ⟨k + 1, by omega, by go_num, HR, box_new hb (by simp) _⟩
            case measure => simp [intOf]; omega
        · have HR : Hid (betw es a b = betw (es.drop (k + 1)) a b) := by show _ = _; rw [HS.out, if_neg (fun h => hx h.1)]
          have q1 : (x == a) = false := by simp [hx]
          have HX := hide hx
          clear hx
          go_wp2_with fail
          go_roundw
          case rel => exact ⟨k + 1, by omega, by go_num, HR, box_new hb (by simp) _⟩
          case measure => simp [intOf]; omega
      · have HR : Hid (betw es a b = 0) := by
          show _ = _
          rw [HB.out, List.drop_of_length_le (by omega)]
          rfl
        go_wp2_with fail
        go_ret
        exact ⟨ret_int HR.out.symm, below_box hb⟩
  · subst hab
    have hmin : min a a = a := by omega
    have hmax : max a a = a := by omega
    go_enter Try.func33, Try.ntmps33
    go_wp2_with fail
    have hb0 := box_refl w (.cells #[.int .i64 n, .slice oe es.length c] 24)
    go_loopw [7] (fun iv wr => ∃ k : Nat, k ≤ es.length ∧ iv = .int .i64 k ∧ Hid (betw es a a = betw (es.drop k) a a) ∧ Below (w.heap.size + 1) (w.alloc (.cells #[.int .i64 n, .slice oe es.length c] 24)) wr) (fun iv _ => es.length - (intOf iv).toNat)
    case atStart => exact ⟨0, by omega, rfl, rfl, hb0⟩
    case round =>
      obtain ⟨k, hk, rfl, HB, hb⟩ := hrel
      have d1 := box_cell hb 1
      simp at d1
      clear hb0
      by_cases hlt : k < es.length
      · obtain ⟨x, y, m, hd, hget, _, _, _, bl, off, hoa, _, c0, c1, c2⟩ := (hs.below edgR_ok (below_box hb)).edg_at hlt
        subst hoa
        have hbl := World.block_lt_of_cell? _ _ c0
        simp only at hbl
        have hsz := box_lt hb
        have HS := HB.out
        rw [hd, betw] at HS
        simp only [hmin, hmax] at HS
        have HS := hide HS
        clear hd hget
        by_cases hx : x = a
        · by_cases hy : y = a
          · have HR : Hid (betw es a a = m) := by show _ = _; rw [HS.out, if_pos ⟨hx, hy⟩]
            have q1 : (x == a) = true := by simp [hx]
            have q2 : (y == a) = true := by simp [hy]
            have HX := hide (And.intro hx hy)
            clear hx hy
            go_wp2_with fail
            go_ret
            exact ⟨ret_int HR.out.symm, below_box (box_new hb (by simp) _)⟩
          · have HR : Hid (betw es a a = betw (es.drop (k + 1)) a a) := by show _ = _; rw [HS.out, if_neg (fun h => hy h.2)]
            have q1 : (x == a) = true := by simp [hx]
            have q2 : (y == a) = false := by simp [hy]
            have HX := hide (And.intro hx hy)
            clear hx hy
            go_wp2_with fail
            go_roundw
            case rel => exact ⟨k + 1, by omega, by go_num, HR, box_new hb (by simp) _⟩
            case measure => simp [intOf]; omega
        · have HR : Hid (betw es a a = betw (es.drop (k + 1)) a a) := by show _ = _; rw [HS.out, if_neg (fun h => hx h.1)]
          have q1 : (x == a) = false := by simp [hx]
          have HX := hide hx
          clear hx
          go_wp2_with fail
          go_roundw
          case rel => exact ⟨k + 1, by omega, by go_num, HR, box_new hb (by simp) _⟩
          case measure => simp [intOf]; omega
      · have HR : Hid (betw es a a = 0) := by
          show _ = _
          rw [HB.out, List.drop_of_length_le (by omega)]
          rfl
        go_wp2_with fail
        go_ret
        exact ⟨ret_int HR.out.symm, below_box hb⟩
  · have hmin : min a b = b := by omega
    have hmax : max a b = a := by omega
    go_enter Try.func33, Try.ntmps33
    go_wp2_with fail
    have hb0 := box_refl w (.cells #[.int .i64 n, .slice oe es.length c] 24)
    go_loopw [7] (fun iv wr => ∃ k : Nat, k ≤ es.length ∧ iv = .int .i64 k ∧ Hid (betw es a b = betw (es.drop k) a b) ∧ Below (w.heap.size + 1) (w.alloc (.cells #[.int .i64 n, .slice oe es.length c] 24)) wr) (fun iv _ => es.length - (intOf iv).toNat)
    case atStart => exact ⟨0, by omega, rfl, rfl, hb0⟩
    case round =>
      obtain ⟨k, hk, rfl, HB, hb⟩ := hrel
      have d1 := box_cell hb 1
      simp at d1
      clear hb0
      by_cases hlt : k < es.length
      · obtain ⟨x, y, m, hd, hget, _, _, _, bl, off, hoa, _, c0, c1, c2⟩ := (hs.below edgR_ok (below_box hb)).edg_at hlt
        subst hoa
        have hbl := World.block_lt_of_cell? _ _ c0
        simp only at hbl
        have hsz := box_lt hb
        have HS := HB.out
        rw [hd, betw] at HS
        simp only [hmin, hmax] at HS
        have HS := hide HS
        clear hd hget
        by_cases hx : x = b
        · by_cases hy : y = a
          · have HR : Hid (betw es a b = m) := by show _ = _; rw [HS.out, if_pos ⟨hx, hy⟩]
            have q1 : (x == b) = true := by simp [hx]
            have q2 : (y == a) = true := by simp [hy]
            have HX := hide (And.intro hx hy)
            clear hx hy
            go_wp2_with fail
            go_ret
            exact ⟨ret_int HR.out.symm, below_box (box_new hb (by simp) _)⟩
          · have HR : Hid (betw es a b = betw (es.drop (k + 1)) a b) := by show _ = _; rw [HS.out, if_neg (fun h => hy h.2)]
            have q1 : (x == b) = true := by simp [hx]
            have q2 : (y == a) = false := by simp [hy]
            have HX := hide (And.intro hx hy)
            clear hx hy
            go_wp2_with fail
            go_roundw
            case rel => exact ⟨k + 1, by omega, by go_num, HR, box_new hb (by simp) _⟩
            case measure => simp [intOf]; omega
        · have HR : Hid (betw es a b = betw (es.drop (k + 1)) a b) := by show _ = _; rw [HS.out, if_neg (fun h => hx h.1)]
          have q1 : (x == b) = false := by simp [hx]
          have HX := hide hx
          clear hx
          go_wp2_with fail
          go_roundw
          case rel => exact ⟨k + 1, by omega, by go_num, HR, box_new hb (by simp) _⟩
          case measure => simp [intOf]; omega
      · have HR : Hid (betw es a b = 0) := by
          show _ = _
          rw [HB.out, List.drop_of_length_le (by omega)]
          rfl
        go_wp2_with fail
        go_ret
        exact ⟨ret_int HR.out.symm, below_box hb⟩

theorem holds_any (x : Int) (l : List Int) (oa : Option Addr) (c : Nat) (F : Foot) (w : World) (hs : SliceR intR 1 F w oa l) (hc : l.length ≤ c) (hc2 : l.length ≤ 9223372036854775807) :
    Calls Try.prog 94 #[.slice oa l.length c, .int .i64 x] w fun e w' => e = .returned (.bool (decide (x ∈ l))) ∧ w = w' := by
  go_enter Try.func94, Try.ntmps94
  go_wp2_with fail
  go_loop [5] (fun i => ∃ k : Nat, k ≤ l.length ∧ i = .int .i64 k ∧ Hid (x ∉ l.take k)) (fun i => l.length - (intOf i).toNat)
  case atStart => exact ⟨0, by omega, rfl, by show _ ∉ _; simp⟩
  case round =>
    obtain ⟨k, hk, rfl, HE⟩ := hrel
    by_cases hlt : k < l.length
    · obtain ⟨y, hd, hget, _, b, off, hoa, _, c0⟩ := hs.int_at hlt
      subst hoa
      by_cases hxy : x = y
      · have hm : Hid (decide (x ∈ l) = true) := by show _ = _; simp; rw [hxy]; exact List.mem_of_getElem? hget
        have hq2 : (y == x) = true := by simp [hxy]
        have HXY := hide hxy
        clear hd hget hxy
        go_wp2_with fail
        go_ret
        exact ⟨ret_bool hm.out.symm, rfl⟩
      · have hm : Hid (x ∉ l.take (k + 1)) := by
          show _ ∉ _
          rw [List.take_add_one, hget]
          have := HE.out
          simp [hxy]
          exact this
        have hq2 : (y == x) = false := by simp; exact fun h => hxy h.symm
        have HXY := hide hxy
        clear hd hget hxy
        go_wp2_with fail
        go_round
        case rel => exact ⟨k + 1, by omega, by go_num, hm⟩
        case measure => simp [intOf]; omega
    · have hm : Hid (decide (x ∈ l) = false) := by
        have := HE.out
        rw [List.take_of_length_le (by omega)] at this
        show _ = _
        simp [this]
      go_wp2_with fail
      go_ret
      exact ⟨ret_bool hm.out.symm, rfl⟩

end Go.Proofs.Ytopldbnlehjlpaa

set_option linter.unusedVariables false
set_option linter.unusedSimpArgs false
set_option linter.unnecessarySimpa false
namespace Go.Proofs.Ytopldbnlehjlpaa
open Go.RowKit

set_option maxRecDepth 100000 in
theorem rsize_any (n : Int) (es : List Edg) (oe : Option Addr) (c : Nat) (F : Foot) (w : World) (hs : SliceR edgR 3 F w oe es) (hc : es.length ≤ c) (hc2 : es.length ≤ 1000) (hm : Hid (∀ x ∈ es, x.m ≤ 50)) :
    Calls Try.prog 101 #[.agg #[.int .i64 n, .slice oe es.length c]] w (ErrPost w ((endsL es).length : Nat)) := by
  go_enter Try.func101, Try.ntmps101
  go_wp2_with fail
  have hb0 := box_refl w (.cells #[.int .i64 n, .slice oe es.length c] 24)
  refine (rgends_any n es oe c F _ (hs.below edgR_ok (below_box hb0)) hc hc2 hm).mono ?_
  rintro e w2 ⟨v, rfl, ho, hb2⟩
  obtain ⟨ov, cv, rfl, _, _⟩ := ho.slice prR_ok
  have hx := below_box (hb2.mono (B' := w.heap.size + 1) (by simp))
  clear ho hb2
  go_wp2_with fail
  go_ret
  exact ⟨rfl, hx⟩

set_option maxRecDepth 100000 in
theorem rhalf_any (n : Int) (es : List Edg) (oe : Option Addr) (c : Nat) (F : Foot) (w : World) (hs : SliceR edgR 3 F w oe es) (hc : es.length ≤ c) (hc2 : es.length ≤ 1000) (hm : Hid (∀ x ∈ es, x.m ≤ 50)) :
    Calls Try.prog 92 #[.agg #[.int .i64 n, .slice oe es.length c]] w (ErrPost w (2 * (endsL es).length : Nat)) := by
  have hcap : (endsL es).length ≤ 50000 := by have := endsL_len hm.out; omega
  go_enter Try.func92, Try.ntmps92
  go_wp2_with fail
  have hb0 := box_refl w (.cells #[.int .i64 n, .slice oe es.length c] 24)
  refine (rsize_any n es oe c F _ (hs.below edgR_ok (below_box hb0)) hc hc2 hm).mono ?_
  rintro e w2 ⟨rfl, hb2⟩
  have hx := below_box (hb2.mono (B' := w.heap.size + 1) (by simp))
  clear hb2
  go_wp2_with fail
  go_ret
  exact ⟨by go_num, hx⟩

set_option maxRecDepth 100000 in
set_option maxHeartbeats 1000000 in
theorem rat_any (n : Int) (es : List Edg) (oe : Option Addr) (c : Nat) (F : Foot) (w : World) (hs : SliceR edgR 3 F w oe es) (hc : es.length ≤ c) (hc2 : es.length ≤ 1000) (hm : Hid (∀ x ∈ es, x.m ≤ 50))
    (h : Nat) (hh : h < 2 * (endsL es).length) : Calls Try.prog 93 #[.agg #[.int .i64 n, .slice oe es.length c], .int .i64 h] w (ErrPost w (hv (endsL es) h)) := by
  have hcap : (endsL es).length ≤ 50000 := by have := endsL_len hm.out; omega
  go_enter Try.func93, Try.ntmps93
  go_wp2_with fail
  have hb0 := box_refl w (.cells #[.int .i64 n, .slice oe es.length c] 24)
  refine (rgends_any n es oe c F _ (hs.below edgR_ok (below_box hb0)) hc hc2 hm).mono ?_
  rintro e w2 ⟨v, rfl, ho, hb2⟩
  obtain ⟨ov, cv, rfl, _, hsl⟩ := ho.slice prR_ok
  have hx := below_box (hb2.mono (B' := w.heap.size + 1) (by simp))
  clear ho hb2 hb0
  generalize endsL es = l at *
  obtain ⟨q, hq⟩ : ∃ q, q = h / 2 := ⟨_, rfl⟩
  have hq1 : ((h : Int)).tdiv 2 = (q : Int) := by rw [Int.tdiv_eq_ediv_of_nonneg (by omega)]; omega
  have hql : q < l.length := by omega
  have hwq : wrap64 (q : Int) = (q : Int) := by unfold wrap64; omega
  obtain ⟨a, b, hd, hget, _, _, bl, off, hoa, _, c0, c1⟩ := hsl.pr_at (i := q) (by omega)
  subst hoa
  have hgd : l.getD q (0, 0) = (a, b) := by rw [List.getD_eq_getElem?_getD, hget]; rfl
  by_cases hr : h % 2 = 0
  · have HR : Hid (hv l h = a) := by show _ = _; rw [hv, if_pos hr, ← hq, hgd]
    have hr1 : ((h : Int)).tmod 2 = 0 := by rw [Int.tmod_eq_emod_of_nonneg (by omega)]; omega
    clear hd hget hgd hq hr
    go_wp2_with fail
    go_ret
    exact ⟨ret_int HR.out.symm, hx⟩
  · have HR : Hid (hv l h = b) := by show _ = _; rw [hv, if_neg hr, ← hq, hgd]
    have hr1 : ((h : Int)).tmod 2 = 1 := by rw [Int.tmod_eq_emod_of_nonneg (by omega)]; omega
    clear hd hget hgd hq hr
    go_wp2_with fail
    go_ret
    exact ⟨ret_int HR.out.symm, hx⟩

/-- The edges from the vertices below u to v. -/
def valU (es : List Edg) (v : Int) : Nat → Int
  | 0 => 0
  | u + 1 => valU es v u + (if (u : Int) = v then 0 else betw es u v)
theorem betw_range {es : List Edg} (h : ∀ x ∈ es, 0 ≤ x.m ∧ x.m ≤ 50) (a b : Int) : 0 ≤ betw es a b ∧ betw es a b ≤ 50 := by
  induction es with
  | nil => simp [betw]
  | cons x r ih =>
    unfold betw
    split
    · exact h x (by simp)
    · exact ih fun y hy => h y (by simp [hy])
theorem valU_range {es : List Edg} (h : ∀ x ∈ es, 0 ≤ x.m ∧ x.m ≤ 50) (v : Int) : ∀ u, 0 ≤ valU es v u ∧ valU es v u ≤ 50 * u
  | 0 => by simp [valU]
  | u + 1 => by
    have h1 := valU_range h v u
    have h2 := betw_range h u v
    unfold valU
    split <;> omega

set_option maxRecDepth 100000 in
set_option maxHeartbeats 1000000 in
theorem val_any (n : Nat) (hn : n ≤ 12) (es : List Edg) (oe : Option Addr) (c : Nat) (F : Foot) (w : World) (hs : SliceR edgR 3 F w oe es) (hc : es.length ≤ c) (hc2 : es.length ≤ 1000) (hm : Hid (∀ x ∈ es, 0 ≤ x.m ∧ x.m ≤ 50)) (v : Int) :
    Calls Try.prog 65 #[.agg #[.int .i64 n, .slice oe es.length c], .int .i64 v] w (ErrPost w (valU es v n)) := by
  go_enter Try.func65, Try.ntmps65
  go_wp2_with fail
  have hb0 := box_refl w (.cells #[.int .i64 n, .slice oe es.length c] 24)
  go_loopw [5, 6] (fun sv iv wr => ∃ k : Nat, k ≤ n ∧ iv = .int .i64 k ∧ sv = .int .i64 (valU es v k) ∧ Below (w.heap.size + 1) (w.alloc (.cells #[.int .i64 n, .slice oe es.length c] 24)) wr) (fun _ iv _ => n - (intOf iv).toNat)
  case atStart => exact ⟨0, by omega, rfl, rfl, hb0⟩
  case round =>
    clear hb0
    obtain ⟨k, hk, rfl, rfl, hb⟩ := hrel
    have d0 := box_cell hb 0
    have d1 := box_cell hb 1
    simp at d0 d1
    have hvr := valU_range hm.out v k
    have hbr := betw_range hm.out k v
    by_cases hlt : k < n
    · by_cases hkv : (k : Int) = v
      · have HR : Hid (valU es v (k + 1) = valU es v k) := by show _ = _; rw [valU, if_pos hkv, Int.add_zero]
        have q1 : ((k : Int) != v) = false := by simp [hkv]
        have HK := hide hkv
        clear hkv
        generalize valU es v k = s at hvr HR
        go_wp2_with fail
        go_roundw
        case rel => exact ⟨k + 1, by omega, by go_num, by rw [HR.out], hb⟩
        case measure => simp [intOf]; omega
      · have HR : Hid (valU es v (k + 1) = valU es v k + betw es k v) := by show _ = _; rw [valU, if_neg hkv]
        have q1 : ((k : Int) != v) = true := by simp [hkv]
        have HK := hide hkv
        have hcall := betw_any n es oe c F wr (hs.below edgR_ok (below_box hb)) hc (by omega) k v
        clear hkv
        generalize valU es v k = s at hvr HR
        generalize betw es k v = t at hbr HR hcall
        go_wp2_with fail
        refine hcall.mono ?_
        rintro e w4 ⟨rfl, hb4⟩
        have HB := hide (hb.trans (hb4.mono (box_lt hb)))
        clear hb4
        go_wp2_with fail
        go_roundw
        case rel => exact ⟨k + 1, by omega, by go_num, by rw [HR.out], HB.out⟩
        case measure => simp [intOf]; omega
    · have : k = n := by omega
      subst this
      go_wp2_with fail
      go_ret
      exact ⟨rfl, below_box hb⟩

def degU (n : Nat) (es : List Edg) (v : Int) : Int := valU es v n + 2 * betw es v v
set_option maxRecDepth 100000 in
set_option maxHeartbeats 2000000 in
theorem deg_any (n : Nat) (hn : n ≤ 12) (es : List Edg) (oe : Option Addr) (c : Nat) (F : Foot) (w : World) (hs : SliceR edgR 3 F w oe es) (hc : es.length ≤ c) (hc2 : es.length ≤ 1000) (hm : Hid (∀ x ∈ es, 0 ≤ x.m ∧ x.m ≤ 50)) (v : Int) :
    Calls Try.prog 38 #[.agg #[.int .i64 n, .slice oe es.length c], .int .i64 v] w (ErrPost w (degU n es v)) := by
  have hvr := valU_range hm.out v n
  have hbr := betw_range hm.out v v
  go_enter Try.func38, Try.ntmps38
  go_wp2_with fail
  have hb := box_refl w (.cells #[.int .i64 n, .slice oe es.length c] 24)
  have d0 : (w.alloc (.cells #[.int .i64 n, .slice oe es.length c] 24)).cell? ⟨w.heap.size, 0, none⟩ = some (.int .i64 n) := box_cell hb 0
  have d1 : (w.alloc (.cells #[.int .i64 n, .slice oe es.length c] 24)).cell? ⟨w.heap.size, 1, none⟩ = some (.slice oe es.length c) := box_cell hb 1
  have HD : Hid (degU n es v = valU es v n + 2 * betw es v v) := rfl
  have hcv := fun W (h : SliceR edgR 3 F W oe es) => val_any n hn es oe c F W h hc hc2 hm v
  have hcb := fun W (h : SliceR edgR 3 F W oe es) => betw_any n es oe c F W h hc (by omega) v v
  generalize valU es v n = s at hvr HD hcv
  generalize betw es v v = t at hbr HD hcb
  go_region_held3 (fun w' => w'.cell? ⟨w.heap.size, 0, none⟩ = some (.int .i64 n) ∧ w'.cell? ⟨w.heap.size, 1, none⟩ = some (.slice oe es.length c)) (first | exact ⟨d0, d1⟩) (first
    | (go_at_call 65; refine (hcv _ (hs.below edgR_ok (below_box hb))).mono ?_; rintro e w5 ⟨rfl, h5⟩; have d0 := (h5.cell (World.block_lt_of_cell? _ _ d0)).trans d0; have d1 := (h5.cell (World.block_lt_of_cell? _ _ d1)).trans d1; have hb := box_then hb (by simp) h5)
    | (go_at_call 65; refine (hcv _ (hs.below edgR_ok (below_box hb.drew))).mono ?_; rintro e w5 ⟨rfl, h5⟩; have d0 := (h5.cell (World.block_lt_of_cell? _ _ d0)).trans d0; have d1 := (h5.cell (World.block_lt_of_cell? _ _ d1)).trans d1; have hb := box_then hb.drew (by simp) h5)
    | (go_at_call 33; refine (hcb _ (hs.below edgR_ok (below_box hb))).mono ?_; rintro e w5 ⟨rfl, h5⟩; have d0 := (h5.cell (World.block_lt_of_cell? _ _ d0)).trans d0; have d1 := (h5.cell (World.block_lt_of_cell? _ _ d1)).trans d1; have hb := box_then hb (by simp) h5)
    | (go_at_call 33; refine (hcb _ (hs.below edgR_ok (below_box hb.drew))).mono ?_; rintro e w5 ⟨rfl, h5⟩; have d0 := (h5.cell (World.block_lt_of_cell? _ _ d0)).trans d0; have d1 := (h5.cell (World.block_lt_of_cell? _ _ d1)).trans d1; have hb := box_then hb.drew (by simp) h5))
  all_goals
    go_wp2_with fail
    go_ret
    refine ⟨ret_int ?_, below_box hb⟩
    rw [HD.out]
    rw [IntWalk.i64_in (2 * t) (by omega), IntWalk.i64_in _ (by omega)]

end Go.Proofs.Ytopldbnlehjlpaa

set_option linter.unusedVariables false
set_option linter.unusedSimpArgs false
set_option linter.unnecessarySimpa false
namespace Go.Proofs.Ytopldbnlehjlpaa
open Go.RowKit

theorem SliceR.drew1 {α : Type} {R : Rep α} {sz : Nat} {F : Foot} {w : World} {oa : Option Addr} {xs : List α} (h : SliceR R sz F w oa xs) (ok : RepOk R sz) : SliceR R sz F w.drew oa xs := h.keep ok fun _ _ _ => rfl
theorem halfU_mem {l : List (Int × Int)} {H v : Nat} {x : Int} : x ∈ halfU l H v ↔ ∃ h : Nat, x = h ∧ h < H ∧ hv l h = (v : Int) := by
  simp only [halfU, List.mem_map, List.mem_filter, List.mem_range, beq_iff_eq]
  constructor
  · rintro ⟨h, ⟨h1, h2⟩, rfl⟩; exact ⟨h, rfl, h1, h2⟩
  · rintro ⟨h, rfl, h1, h2⟩; exact ⟨h, ⟨h1, h2⟩, rfl⟩

theorem scanE_zero {own : List Int} : ∀ {l pre : List Int}, scanE own pre l = 0 → pre.Nodup → (∀ x ∈ pre, x ∈ own) → (pre ++ l).Nodup ∧ ∀ x ∈ l, x ∈ own
  | [], pre, _, hn, _ => by simpa using hn
  | x :: r, pre, h, hn, hp => by
    rw [scanE_cons] at h
    by_cases h1 : x ∈ own
    · rw [if_pos h1] at h
      by_cases h2 : x ∈ pre
      · rw [if_pos h2] at h; cases h
      · rw [if_neg h2] at h
        have hn2 : (pre ++ [x]).Nodup := by
          rw [List.nodup_append]
          exact ⟨hn, by simp, fun a ha b hb => by simp at hb; subst hb; exact fun e => h2 (e ▸ ha)⟩
        have := scanE_zero h hn2 (fun y hy => by
          rcases List.mem_append.1 hy with h3 | h3
          · exact hp y h3
          · simp at h3; subst h3; exact h1)
        refine ⟨by simpa using this.1, fun y hy => ?_⟩
        rcases List.mem_cons.1 hy with h3 | h3
        · subst h3; exact h1
        · exact this.2 y h3
    · rw [if_neg h1] at h; cases h

theorem mem_all {l m : List Int} (hl : l.Nodup) (hs : ∀ x ∈ l, x ∈ m) (hlen : m.length ≤ l.length) : ∀ x ∈ m, x ∈ l := by
  induction l generalizing m with
  | nil =>
    intro x hx
    have : m = [] := List.eq_nil_of_length_eq_zero (by simpa using hlen)
    subst this
    exact hx
  | cons y r ih =>
    intro x hx
    rw [List.nodup_cons] at hl
    by_cases e : x = y
    · subst e; simp
    · have hym : y ∈ m := hs y (by simp)
      have := ih (m := m.erase y) hl.2 (fun z hz => (List.mem_erase_of_ne (fun e : z = y => hl.1 (e ▸ hz))).2 (hs z (by simp [hz]))) (by
        rw [List.length_erase_of_mem hym]
        have : (y :: r).length = r.length + 1 := rfl
        omega) x ((List.mem_erase_of_ne e).2 hx)
      simp [this]

/-- The first of a list of the same numbers is the least exactly if none is less. -/
theorem head_least {l own : List Int} (hlen : l.length = own.length) (hs : scanE own [] l = 0) (hp : own.Pairwise (· < ·)) {x : Int} (hx : l[0]? = some x) :
    l.head? = own.head? ↔ ∀ (i : Nat) (y : Int), l[i]? = some y → x ≤ y := by
  obtain ⟨hnd, hsub⟩ := scanE_zero hs (by simp) (by simp)
  simp at hnd
  have hall := mem_all hnd hsub (by omega)
  cases own with
  | nil => exact absurd (hsub x (List.mem_of_getElem? hx)) (by simp)
  | cons o r =>
    have ho := hall o (by simp)
    rw [List.pairwise_cons] at hp
    have hxm := hsub x (List.mem_of_getElem? hx)
    rw [List.head?_eq_getElem?, hx]
    simp only [List.head?_cons, Option.some.injEq]
    constructor
    · rintro rfl i y hy
      have hym := hsub y (List.mem_of_getElem? hy)
      rcases List.mem_cons.1 hym with h | h
      · omega
      · have := hp.1 y h; omega
    · intro h
      obtain ⟨i, hi, he⟩ := List.getElem_of_mem ho
      have h1 := h i o (by rw [List.getElem?_eq_getElem hi, he])
      rcases List.mem_cons.1 hxm with h2 | h2
      · exact h2
      · have := hp.1 x h2; omega

set_option maxRecDepth 100000 in
set_option maxHeartbeats 8000000 in
theorem raround_any (n : Nat) (es : List Edg) (oe : Option Addr) (c : Nat) (F : Foot) (w : World) (hs : SliceR edgR 3 F w oe es) (hc : es.length ≤ c) (hc2 : es.length ≤ 1000) (hV : Hid (gErr n es = 0))
    (v : Nat) (l : List Int) (ol : Option Addr) (cl : Nat) (G : Foot) (hl : SliceR intR 1 G w ol l) (hcl : l.length ≤ cl) (hll : l.length ≤ 9223372036854775807) (own : List Int)
    (hown : Hid (own = halfU (endsL es) (2 * (endsL es).length) v)) (hdeg : Hid (degU n es v = (own.length : Nat))) :
    Calls Try.prog 75 #[.agg #[.int .i64 n, .slice oe es.length c], .int .i64 v, .slice ol l.length cl] w (ErrPost w (listE l own)) := by
  have hn : n ≤ 12 := by have := (gErr_zero hV.out).1; omega
  have hm1 : Hid (∀ x ∈ es, 0 ≤ x.m ∧ x.m ≤ 50) := fun x hx => by have := (gErr_zero hV.out).2.1 x hx; omega
  have hm2 : Hid (∀ x ∈ es, x.m ≤ 50) := fun x hx => (hm1.out x hx).2
  have hcap : (endsL es).length ≤ 50000 := by have := endsL_len hm2.out; omega
  have hol : own.length ≤ 2 * (endsL es).length := by rw [hown.out]; exact halfU_len _ _ _
  have hMEM : Hid (∀ x : Int, x ∈ own ↔ ∃ h : Nat, x = h ∧ h < 2 * (endsL es).length ∧ hv (endsL es) h = (v : Int)) := fun x => by rw [hown.out]; exact halfU_mem
  have hup : Hid (own.Pairwise (· < ·)) := by show List.Pairwise _ _; rw [hown.out]; exact halfU_up _ _ _
  have hHalf := fun W (h : Below w.heap.size w W) => rhalf_any n es oe c F W (hs.below edgR_ok h) hc hc2 hm2
  have hAT := hide (fun W (h : Below w.heap.size w W) (q : Nat) (hq : q < 2 * (endsL es).length) => rat_any n es oe c F W (hs.below edgR_ok h) hc hc2 hm2 q hq)
  generalize endsL es = E at *
  generalize hH : 2 * E.length = H at *
  have hH2 : H ≤ 100000 := by omega
  clear hH hcap
  go_enter Try.func75, Try.ntmps75
  go_wp2_with fail
  have hbx := box_refl w (.cells #[.int .i64 n, .slice oe es.length c] 24)
  refine (deg_any n hn es oe c F _ (hs.below edgR_ok (below_box hbx)) hc hc2 hm1 v).mono ?_
  rintro e w2 ⟨rfl, hb2⟩
  have hbx := hb2.mono (B' := w.heap.size + 1) (by simp)
  clear hb2
  rw [hdeg.out]
  by_cases hlen : l.length = own.length
  · have HE : Hid (listE l own = if scanE own [] l = 0 then (if l.head? = own.head? then 0 else 9) else scanE own [] l) := if_pos hlen
    have hq : ((l.length : Int) != (own.length : Int)) = false := by simp [hlen]
    have hlo : l.length ≤ 100000 := by omega
    have HLen := hide hlen
    clear hlen
    go_wp2_with fail
    go_loopw [7] (fun iv wr => ∃ k : Nat, k ≤ l.length ∧ iv = .int .i64 k ∧ Hid (scanE own [] l = scanE own (l.take k) (l.drop k)) ∧ Below (w.heap.size + 1) (w.alloc (.cells #[.int .i64 n, .slice oe es.length c] 24)) wr) (fun iv _ => l.length - (intOf iv).toNat)
    case atStart => exact ⟨0, by omega, rfl, rfl, hbx⟩
    case round =>
      clear hbx
      obtain ⟨k, hk, rfl, HS, hbx⟩ := hrel
      have d0 := box_cell hbx 0
      have d1 := box_cell hbx 1
      simp at d0 d1
      have hlr := hl.below intR_ok (below_box hbx)
      by_cases hlt : k < l.length
      · obtain ⟨x, hd, hget, ix, b, off, hoa, _, c0⟩ := hlr.int_at hlt
        have hlp : (l.take k).length = k := by rw [List.length_take]; omega
        have HP : Hid (l.take k ++ [x] = l.take (k + 1)) := by show _ = _; rw [List.take_add_one, hget]; rfl
        have hSS := HS.out
        rw [hd, scanE_cons] at hSS
        have HS2 := hide hSS
        have hcon := fun W (hW : SliceR intR 1 G W ol (l.take k)) => holds_any x (l.take k) ol cl G W hW (by rw [hlp]; omega) (by rw [hlp]; omega)
        simp only [hlp] at hcon
        clear hSS hd hget
        have hE2 : ∀ A : Int, scanE own [] l = A → A ≠ 0 → listE l own = A := fun A h1 h2 => by rw [HE.out, h1, if_neg h2]
        have HE2 := hide hE2
        clear hE2
        subst hoa
        by_cases hx0 : x < 0
        · have HR : Hid (listE l own = 2) := HE2.out 2 (by
            have h := HS2.out
            rw [if_neg (fun hm => by obtain ⟨h, rfl, _⟩ := (hMEM.out x).1 hm; omega)] at h
            exact h) (by decide)
          have q1 : decide (x < 0) = true := by simp [hx0]
          go_wp2_with fail
          go_quiet (fail)
          go_wp2_with fail
          go_ret
          exact ⟨ret_int HR.out.symm, below_drewN (below_box hbx) _⟩
        · obtain ⟨X, rfl⟩ := Int.eq_ofNat_of_zero_le (show 0 ≤ x by omega)
          have q1 : decide ((X : Int) < 0) = false := by simp
          by_cases hXH : X < H
          · have hAt := fun W (h : Below w.heap.size w W) => hAT.out W h X hXH
            have hin : Hid (((X : Int) ∈ own) ↔ hv E X = (v : Int)) := (hMEM.out (X : Int)).trans ⟨fun ⟨h, h1, h2, h3⟩ => by
              have : X = h := by omega
              subst this
              exact h3, fun h => ⟨X, rfl, hXH, h⟩⟩
            have HX0 := hide hx0
            have q5 : decide ((H : Int) ≤ (X : Int)) = false := by simp; omega
            have q6 : decide (H ≤ X) = false := by simp; omega
            clear hx0
            generalize hv E X = t at hAt hin
            by_cases htv : t = (v : Int)
            · have hmem : Hid ((X : Int) ∈ own) := hin.out.2 htv
              have q3 : (t != (v : Int)) = false := by simp [htv]
              have HTV := hide htv
              clear htv
              go_wp2_with fail
              go_region_held3 (fun w' => w'.cell? ⟨w.heap.size, 0, none⟩ = some (.int .i64 n) ∧ w'.cell? ⟨w.heap.size, 1, none⟩ = some (.slice oe es.length c) ∧ w'.cell? ⟨b, off + k, none⟩ = some (.int .i64 X)) (first | exact ⟨d0, d1, c0⟩) (first
                | (go_at_call 92; refine (hHalf _ (below_box hbx)).mono ?_; rintro e w5 ⟨rfl, h5⟩; have d0 := (h5.cell (World.block_lt_of_cell? _ _ d0)).trans d0; have d1 := (h5.cell (World.block_lt_of_cell? _ _ d1)).trans d1; have c0 := (h5.cell (World.block_lt_of_cell? _ _ c0)).trans c0; have hbx := box_then hbx (by simp) h5)
                | (go_at_call 92; refine (hHalf _ (below_box hbx.drew)).mono ?_; rintro e w5 ⟨rfl, h5⟩; have d0 := (h5.cell (World.block_lt_of_cell? _ _ d0)).trans d0; have d1 := (h5.cell (World.block_lt_of_cell? _ _ d1)).trans d1; have c0 := (h5.cell (World.block_lt_of_cell? _ _ c0)).trans c0; have hbx := box_then hbx.drew (by simp) h5)
                | (go_at_call 93; refine (hAt _ (below_box hbx)).mono ?_; rintro e w5 ⟨rfl, h5⟩; have d0 := (h5.cell (World.block_lt_of_cell? _ _ d0)).trans d0; have d1 := (h5.cell (World.block_lt_of_cell? _ _ d1)).trans d1; have c0 := (h5.cell (World.block_lt_of_cell? _ _ c0)).trans c0; have hbx := box_then hbx (by simp) h5)
                | (go_at_call 93; refine (hAt _ (below_box hbx.drew)).mono ?_; rintro e w5 ⟨rfl, h5⟩; have d0 := (h5.cell (World.block_lt_of_cell? _ _ d0)).trans d0; have d1 := (h5.cell (World.block_lt_of_cell? _ _ d1)).trans d1; have c0 := (h5.cell (World.block_lt_of_cell? _ _ c0)).trans c0; have hbx := box_then hbx.drew (by simp) h5))
              all_goals
                have hpre := (hl.below intR_ok (below_box hbx)).pre k
                have hkcl : k ≤ cl := by omega
                by_cases hxp : (X : Int) ∈ l.take k
                · have q2 : decide ((X : Int) ∈ l.take k) = true := by simp [hxp]
                  have HR : Hid (listE l own = 7) := HE2.out 7 (by
                    have h := HS2.out
                    rw [if_pos hmem.out, if_pos hxp] at h
                    exact h) (by decide)
                  have hc7 := fun W (h : SliceR intR 1 G W (some ⟨b, off, none⟩) (l.take k)) => (hcon W h).mono (fun e w' (h : e = .returned (.bool (decide ((X : Int) ∈ l.take k))) ∧ W = w') => (show e = .returned (.bool true) ∧ W = w' from ⟨h.1.trans (by rw [q2]), h.2⟩))
                  clear hxp q2
                  go_wp2_with fail
                  go_region_held3 (fun w' => w'.cell? ⟨b, off + k, none⟩ = some (.int .i64 X)) (first | exact c0) (first
                    | (go_at_call 94; refine (hc7 _ hpre).mono ?_; rintro e w7 ⟨rfl, rfl⟩)
                    | (go_at_call 94; refine (hc7 _ (hpre.drew1 intR_ok)).mono ?_; rintro e w7 ⟨rfl, rfl⟩))
                  all_goals
                    go_wp2_with fail
                    go_ret
                    exact ⟨ret_int HR.out.symm, below_box hbx.drew⟩
                · have q2 : decide ((X : Int) ∈ l.take k) = false := by simp [hxp]
                  have HS3 : Hid (scanE own [] l = scanE own (l.take (k + 1)) (l.drop (k + 1))) := by
                    show _ = _
                    have h := HS2.out
                    rw [if_pos hmem.out, if_neg hxp, HP.out] at h
                    exact h
                  have hc7 := fun W (h : SliceR intR 1 G W (some ⟨b, off, none⟩) (l.take k)) => (hcon W h).mono (fun e w' (h : e = .returned (.bool (decide ((X : Int) ∈ l.take k))) ∧ W = w') => (show e = .returned (.bool false) ∧ W = w' from ⟨h.1.trans (by rw [q2]), h.2⟩))
                  clear hxp q2
                  go_wp2_with fail
                  go_region_held3 (fun w' => w'.cell? ⟨b, off + k, none⟩ = some (.int .i64 X)) (first | exact c0) (first
                    | (go_at_call 94; refine (hc7 _ hpre).mono ?_; rintro e w7 ⟨rfl, rfl⟩)
                    | (go_at_call 94; refine (hc7 _ (hpre.drew1 intR_ok)).mono ?_; rintro e w7 ⟨rfl, rfl⟩))
                  all_goals
                    go_wp2_with fail
                    go_roundw
                    case rel => exact ⟨k + 1, by omega, by go_num, HS3, hbx.drew⟩
                    case measure => simp [intOf]; omega
            · have HR : Hid (listE l own = 2) := HE2.out 2 (by
                have h := HS2.out
                rw [if_neg (fun hm => htv (hin.out.1 hm))] at h
                exact h) (by decide)
              have q3 : (t != (v : Int)) = true := by simp [htv]
              have HTV := hide htv
              clear htv
              go_wp2_with fail
              go_region_held3 (fun w' => w'.cell? ⟨w.heap.size, 0, none⟩ = some (.int .i64 n) ∧ w'.cell? ⟨w.heap.size, 1, none⟩ = some (.slice oe es.length c) ∧ w'.cell? ⟨b, off + k, none⟩ = some (.int .i64 X)) (first | exact ⟨d0, d1, c0⟩) (first
                | (go_at_call 92; refine (hHalf _ (below_box hbx)).mono ?_; rintro e w5 ⟨rfl, h5⟩; have d0 := (h5.cell (World.block_lt_of_cell? _ _ d0)).trans d0; have d1 := (h5.cell (World.block_lt_of_cell? _ _ d1)).trans d1; have c0 := (h5.cell (World.block_lt_of_cell? _ _ c0)).trans c0; have hbx := box_then hbx (by simp) h5)
                | (go_at_call 92; refine (hHalf _ (below_box hbx.drew)).mono ?_; rintro e w5 ⟨rfl, h5⟩; have d0 := (h5.cell (World.block_lt_of_cell? _ _ d0)).trans d0; have d1 := (h5.cell (World.block_lt_of_cell? _ _ d1)).trans d1; have c0 := (h5.cell (World.block_lt_of_cell? _ _ c0)).trans c0; have hbx := box_then hbx.drew (by simp) h5)
                | (go_at_call 93; refine (hAt _ (below_box hbx)).mono ?_; rintro e w5 ⟨rfl, h5⟩; have d0 := (h5.cell (World.block_lt_of_cell? _ _ d0)).trans d0; have d1 := (h5.cell (World.block_lt_of_cell? _ _ d1)).trans d1; have c0 := (h5.cell (World.block_lt_of_cell? _ _ c0)).trans c0; have hbx := box_then hbx (by simp) h5)
                | (go_at_call 93; refine (hAt _ (below_box hbx.drew)).mono ?_; rintro e w5 ⟨rfl, h5⟩; have d0 := (h5.cell (World.block_lt_of_cell? _ _ d0)).trans d0; have d1 := (h5.cell (World.block_lt_of_cell? _ _ d1)).trans d1; have c0 := (h5.cell (World.block_lt_of_cell? _ _ c0)).trans c0; have hbx := box_then hbx.drew (by simp) h5))
              all_goals
                go_wp2_with fail
                go_ret
                exact ⟨ret_int HR.out.symm, below_box hbx⟩
          · have HR : Hid (listE l own = 2) := HE2.out 2 (by
              have h := HS2.out
              rw [if_neg (fun hm => by obtain ⟨q, h1, h2, _⟩ := (hMEM.out (X : Int)).1 hm; omega)] at h
              exact h) (by decide)
            have HX0 := hide hx0
            have q5 : decide ((H : Int) ≤ (X : Int)) = true := by simp; omega
            have q6 : decide (H ≤ X) = true := by simp; omega
            have q7 : decide ((X : Int) < (H : Int)) = false := by simp; omega
            have q8 : decide (X < H) = false := by simp; omega
            clear hx0
            go_wp2_with fail
            refine wp_region_held_drew (S := fun w' => w'.cell? ⟨w.heap.size, 0, none⟩ = some (.int .i64 n) ∧ w'.cell? ⟨w.heap.size, 1, none⟩ = some (.slice oe es.length c) ∧ w'.cell? ⟨b, off + k, none⟩ = some (.int .i64 X)) (by kernel_rfl) ⟨d0, d1, c0⟩ (fun hHeld => ?_)
            refine wpAnyH_take (i := 0) (oi := { dst := some 21, op := Op.move (Operand.tmp 2), type := 28, pos := "ref.go:37", after := #[], guard := none }) (v := ?_) rfl (by kernel_rfl) (by kernel_rfl) (by kernel_rfl) (fun _ _ _ h => h) (Or.inl ⟨by rfl, ?_⟩) (by assumption) ?_
            rotate_left
            · intro w hSw; (try dsimp only at hSw); go_simp; (try with_reducible rfl)
            try simp only [Act.put, List.setIfInBounds_toArray, List.set_cons_zero, List.set_cons_succ]
            refine wpAnyH_take (i := 1) (oi := { dst := some 22, op := Op.move (Operand.tmp 7), type := 3, pos := "ref.go:37", after := #[], guard := none }) (v := ?_) rfl (by kernel_rfl) (by kernel_rfl) (by kernel_rfl) (fun _ _ _ h => h) (Or.inl ⟨by rfl, ?_⟩) (by assumption) ?_
            rotate_left
            · intro w hSw; (try dsimp only at hSw); go_simp; (try with_reducible rfl)
            try simp only [Act.put, List.setIfInBounds_toArray, List.set_cons_zero, List.set_cons_succ]
            refine wpAnyH_take (i := 2) (oi := { dst := some 23, op := Op.indexAddr 28 (Operand.tmp 21) (Operand.tmp 22), type := 0, pos := "ref.go:37", after := #[{ on := 0, ground := Ground.data }, { on := 1, ground := Ground.data }], guard := none }) (v := ?_) rfl (by kernel_rfl) (by kernel_rfl) (by kernel_rfl) (fun _ _ _ h => h) (Or.inl ⟨by rfl, ?_⟩) (by assumption) ?_
            rotate_left
            · intro w hSw; (try dsimp only at hSw); go_simp; (try with_reducible rfl)
            try simp only [Act.put, List.setIfInBounds_toArray, List.set_cons_zero, List.set_cons_succ]
            refine wpAnyH_take (i := 3) (oi := { dst := some 24, op := Op.load 3 (Operand.tmp 23), type := 3, pos := "ref.go:37", after := #[{ on := 2, ground := Ground.data }], guard := none }) (v := ?_) rfl (by kernel_rfl) (by kernel_rfl) (by kernel_rfl) (fun _ _ _ h => h) (Or.inl ⟨by rfl, ?_⟩) (by assumption) ?_
            rotate_left
            · intro w hSw; (try dsimp only at hSw); go_simp; (try with_reducible rfl)
            try simp only [Act.put, List.setIfInBounds_toArray, List.set_cons_zero, List.set_cons_succ]
            refine wpAnyH_take (i := 4) (oi := { dst := some 25, op := Op.binOp BinOp.lss 3 (Operand.tmp 24) (Operand.const (Value.int IntKind.i64 0)) 3, type := 4, pos := "ref.go:37", after := #[{ on := 3, ground := Ground.data }], guard := none }) (v := ?_) rfl (by kernel_rfl) (by kernel_rfl) (by kernel_rfl) (fun _ _ _ h => h) (Or.inl ⟨by rfl, ?_⟩) (by assumption) ?_
            rotate_left
            · intro w hSw; (try dsimp only at hSw); go_simp; (try with_reducible rfl)
            try simp only [Act.put, List.setIfInBounds_toArray, List.set_cons_zero, List.set_cons_succ]
            refine wpAnyH_take (i := 5) (oi := { dst := some 26, op := Op.move (Operand.tmp 25), type := 4, pos := "ref.go:37", after := #[{ on := 4, ground := Ground.data }], guard := none }) (v := ?_) rfl (by kernel_rfl) (by kernel_rfl) (by kernel_rfl) (fun _ _ _ h => h) (Or.inl ⟨by rfl, ?_⟩) (by assumption) ?_
            rotate_left
            · intro w hSw; (try dsimp only at hSw); go_simp; (try with_reducible rfl)
            try simp only [Act.put, List.setIfInBounds_toArray, List.set_cons_zero, List.set_cons_succ]
            refine wpAnyH_take (i := 6) (oi := { dst := some 27, op := Op.move (Operand.tmp 2), type := 28, pos := "ref.go:37", after := #[{ on := 5, ground := Ground.guard }], guard := some (5, false) }) (v := ?_) rfl (by kernel_rfl) (by kernel_rfl) (by kernel_rfl) (fun _ _ _ h => h) (Or.inl ⟨by rfl, ?_⟩) (by assumption) ?_
            rotate_left
            · intro w hSw; (try dsimp only at hSw); go_simp; (try with_reducible rfl)
            try simp only [Act.put, List.setIfInBounds_toArray, List.set_cons_zero, List.set_cons_succ]
            refine wpAnyH_take (i := 7) (oi := { dst := some 28, op := Op.move (Operand.tmp 7), type := 3, pos := "ref.go:37", after := #[{ on := 5, ground := Ground.guard }], guard := some (5, false) }) (v := ?_) rfl (by kernel_rfl) (by kernel_rfl) (by kernel_rfl) (fun _ _ _ h => h) (Or.inl ⟨by rfl, ?_⟩) (by assumption) ?_
            rotate_left
            · intro w hSw; (try dsimp only at hSw); go_simp; (try with_reducible rfl)
            try simp only [Act.put, List.setIfInBounds_toArray, List.set_cons_zero, List.set_cons_succ]
            refine wpAnyH_take (i := 8) (oi := { dst := some 29, op := Op.indexAddr 28 (Operand.tmp 27) (Operand.tmp 28), type := 0, pos := "ref.go:37", after := #[{ on := 6, ground := Ground.data }, { on := 7, ground := Ground.data }, { on := 5, ground := Ground.guard }], guard := some (5, false) }) (v := ?_) rfl (by kernel_rfl) (by kernel_rfl) (by kernel_rfl) (fun _ _ _ h => h) (Or.inl ⟨by rfl, ?_⟩) (by assumption) ?_
            rotate_left
            · intro w hSw; (try dsimp only at hSw); go_simp; (try with_reducible rfl)
            try simp only [Act.put, List.setIfInBounds_toArray, List.set_cons_zero, List.set_cons_succ]
            refine wpAnyH_take (i := 9) (oi := { dst := some 30, op := Op.load 3 (Operand.tmp 29), type := 3, pos := "ref.go:37", after := #[{ on := 8, ground := Ground.data }, { on := 5, ground := Ground.guard }], guard := some (5, false) }) (v := ?_) rfl (by kernel_rfl) (by kernel_rfl) (by kernel_rfl) (fun _ _ _ h => h) (Or.inl ⟨by rfl, ?_⟩) (by assumption) ?_
            rotate_left
            · intro w hSw; (try dsimp only at hSw); go_simp; (try with_reducible rfl)
            try simp only [Act.put, List.setIfInBounds_toArray, List.set_cons_zero, List.set_cons_succ]
            refine wpAnyH_take (i := 10) (oi := { dst := some 31, op := Op.load 24 (Operand.tmp 3), type := 24, pos := "ref.go:37", after := #[{ on := 5, ground := Ground.guard }], guard := some (5, false) }) (v := ?_) rfl (by kernel_rfl) (by kernel_rfl) (by kernel_rfl) (fun _ _ _ h => h) (Or.inl ⟨by rfl, ?_⟩) (by assumption) ?_
            rotate_left
            · intro w hSw; (try dsimp only at hSw); go_simp; (try with_reducible rfl)
            try simp only [Act.put, List.setIfInBounds_toArray, List.set_cons_zero, List.set_cons_succ]
            refine wpAnyH_ready (rs := [11]) (by kernel_rfl) (by simp) ?_
            refine AllReadyH.cons (o := { dst := some 32, op := Op.call { callee := Callee.value (Operand.func 92), args := #[Operand.tmp 31], argTypes := #[24] }, type := 3, pos := "ref.go:37", after := #[{ on := 10, ground := Ground.data }, { on := 5, ground := Ground.chain }, { on := 5, ground := Ground.guard }], guard := some (5, false) }) rfl (fun K hK => ?_) AllReadyH.nil
            go_simp
            go_at_call 92; refine (hHalf _ (below_box hbx.drew)).mono ?_
            rintro e w5 ⟨rfl, h5⟩
            have d0 := (h5.cell (World.block_lt_of_cell? _ _ d0)).trans d0
            have d1 := (h5.cell (World.block_lt_of_cell? _ _ d1)).trans d1
            have c0 := (h5.cell (World.block_lt_of_cell? _ _ c0)).trans c0
            have hbx := box_then hbx.drew (by simp) h5
            try dsimp only
            refine hK.out _ _ ⟨d0, d1, c0⟩ (fun hHeld => ?_)
            clear hK K
            try simp only [Act.put, List.setIfInBounds_toArray, List.set_cons_zero, List.set_cons_succ]
            refine wpAnyH_take (i := 12) (oi := { dst := some 33, op := Op.binOp BinOp.geq 3 (Operand.tmp 30) (Operand.tmp 32) 3, type := 4, pos := "ref.go:37", after := #[{ on := 9, ground := Ground.data }, { on := 11, ground := Ground.data }, { on := 5, ground := Ground.guard }], guard := some (5, false) }) (v := ?_) rfl (by kernel_rfl) (by kernel_rfl) (by kernel_rfl) (fun _ _ _ h => h) (Or.inl ⟨by rfl, ?_⟩) (by assumption) ?_
            rotate_left
            · intro w hSw; (try dsimp only at hSw); go_simp; (try with_reducible rfl)
            try simp only [Act.put, List.setIfInBounds_toArray, List.set_cons_zero, List.set_cons_succ]
            refine wpAnyH_take (i := 13) (oi := { dst := some 34, op := Op.pick (Operand.tmp 26) (Operand.const (Value.bool true)) (Operand.tmp 33), type := 4, pos := "ref.go:37", after := #[{ on := 5, ground := Ground.data }, { on := 12, ground := Ground.data }], guard := none }) (v := ?_) rfl (by kernel_rfl) (by kernel_rfl) (by kernel_rfl) (fun _ _ _ h => h) (Or.inl ⟨by rfl, ?_⟩) (by assumption) ?_
            rotate_left
            · intro w hSw; (try dsimp only at hSw); go_simp; (try with_reducible rfl)
            try simp only [Act.put, List.setIfInBounds_toArray, List.set_cons_zero, List.set_cons_succ]
            refine wpAnyH_take (i := 14) (oi := { dst := some 35, op := Op.move (Operand.tmp 34), type := 4, pos := "ref.go:37", after := #[{ on := 13, ground := Ground.data }, { on := 11, ground := Ground.chain }], guard := none }) (v := ?_) rfl (by kernel_rfl) (by kernel_rfl) (by kernel_rfl) (fun _ _ _ h => h) (Or.inl ⟨by rfl, ?_⟩) (by assumption) ?_
            rotate_left
            · intro w hSw; (try dsimp only at hSw); go_simp; (try with_reducible rfl)
            try simp only [Act.put, List.setIfInBounds_toArray, List.set_cons_zero, List.set_cons_succ]
            refine wpAnyH_take (i := 15) (oi := { dst := some 36, op := Op.load 24 (Operand.tmp 3), type := 24, pos := "ref.go:37", after := #[{ on := 14, ground := Ground.guard }], guard := some (14, false) }) (v := undef) rfl (by kernel_rfl) (by kernel_rfl) (by kernel_rfl) (fun _ _ _ h => h) (Or.inr ⟨by rfl, rfl⟩) (by assumption) ?_
            try simp only [Act.put, List.setIfInBounds_toArray, List.set_cons_zero, List.set_cons_succ]
            refine wpAnyH_take (i := 16) (oi := { dst := some 37, op := Op.move (Operand.tmp 2), type := 28, pos := "ref.go:37", after := #[{ on := 14, ground := Ground.guard }], guard := some (14, false) }) (v := undef) rfl (by kernel_rfl) (by kernel_rfl) (by kernel_rfl) (fun _ _ _ h => h) (Or.inr ⟨by rfl, rfl⟩) (by assumption) ?_
            try simp only [Act.put, List.setIfInBounds_toArray, List.set_cons_zero, List.set_cons_succ]
            refine wpAnyH_take (i := 17) (oi := { dst := some 38, op := Op.move (Operand.tmp 7), type := 3, pos := "ref.go:37", after := #[{ on := 14, ground := Ground.guard }], guard := some (14, false) }) (v := undef) rfl (by kernel_rfl) (by kernel_rfl) (by kernel_rfl) (fun _ _ _ h => h) (Or.inr ⟨by rfl, rfl⟩) (by assumption) ?_
            try simp only [Act.put, List.setIfInBounds_toArray, List.set_cons_zero, List.set_cons_succ]
            refine wpAnyH_take (i := 18) (oi := { dst := some 39, op := Op.indexAddr 28 (Operand.tmp 37) (Operand.tmp 38), type := 0, pos := "ref.go:37", after := #[{ on := 16, ground := Ground.data }, { on := 17, ground := Ground.data }, { on := 14, ground := Ground.guard }], guard := some (14, false) }) (v := undef) rfl (by kernel_rfl) (by kernel_rfl) (by kernel_rfl) (fun _ _ _ h => h) (Or.inr ⟨by rfl, rfl⟩) (by assumption) ?_
            try simp only [Act.put, List.setIfInBounds_toArray, List.set_cons_zero, List.set_cons_succ]
            refine wpAnyH_take (i := 19) (oi := { dst := some 40, op := Op.load 3 (Operand.tmp 39), type := 3, pos := "ref.go:37", after := #[{ on := 18, ground := Ground.data }, { on := 14, ground := Ground.guard }], guard := some (14, false) }) (v := undef) rfl (by kernel_rfl) (by kernel_rfl) (by kernel_rfl) (fun _ _ _ h => h) (Or.inr ⟨by rfl, rfl⟩) (by assumption) ?_
            try simp only [Act.put, List.setIfInBounds_toArray, List.set_cons_zero, List.set_cons_succ]
            refine wpAnyH_take (i := 20) (oi := { dst := some 41, op := Op.call { callee := Callee.value (Operand.func 93), args := #[Operand.tmp 36, Operand.tmp 40], argTypes := #[24, 3] }, type := 3, pos := "ref.go:37", after := #[{ on := 15, ground := Ground.data }, { on := 19, ground := Ground.data }, { on := 14, ground := Ground.chain }, { on := 14, ground := Ground.guard }], guard := some (14, false) }) (v := undef) rfl (by kernel_rfl) (by kernel_rfl) (by kernel_rfl) (fun _ _ _ h => h) (Or.inr ⟨by rfl, rfl⟩) (by assumption) ?_
            try simp only [Act.put, List.setIfInBounds_toArray, List.set_cons_zero, List.set_cons_succ]
            refine wpAnyH_take (i := 21) (oi := { dst := some 42, op := Op.move (Operand.tmp 1), type := 3, pos := "ref.go:37", after := #[{ on := 14, ground := Ground.guard }], guard := some (14, false) }) (v := undef) rfl (by kernel_rfl) (by kernel_rfl) (by kernel_rfl) (fun _ _ _ h => h) (Or.inr ⟨by rfl, rfl⟩) (by assumption) ?_
            try simp only [Act.put, List.setIfInBounds_toArray, List.set_cons_zero, List.set_cons_succ]
            refine wpAnyH_take (i := 22) (oi := { dst := some 43, op := Op.binOp BinOp.neq 3 (Operand.tmp 41) (Operand.tmp 42) 3, type := 4, pos := "ref.go:37", after := #[{ on := 20, ground := Ground.data }, { on := 21, ground := Ground.data }, { on := 14, ground := Ground.guard }], guard := some (14, false) }) (v := undef) rfl (by kernel_rfl) (by kernel_rfl) (by kernel_rfl) (fun _ _ _ h => h) (Or.inr ⟨by rfl, rfl⟩) (by assumption) ?_
            try simp only [Act.put, List.setIfInBounds_toArray, List.set_cons_zero, List.set_cons_succ]
            refine wpAnyH_take (i := 23) (oi := { dst := some 44, op := Op.pick (Operand.tmp 35) (Operand.const (Value.bool true)) (Operand.tmp 43), type := 4, pos := "ref.go:37", after := #[{ on := 14, ground := Ground.data }, { on := 22, ground := Ground.data }], guard := none }) (v := ?_) rfl (by kernel_rfl) (by kernel_rfl) (by kernel_rfl) (fun _ _ _ h => h) (Or.inl ⟨by rfl, ?_⟩) (by assumption) ?_
            rotate_left
            · intro w hSw; (try dsimp only at hSw); go_simp; (try with_reducible rfl)
            try simp only [Act.put, List.setIfInBounds_toArray, List.set_cons_zero, List.set_cons_succ]
            refine wpAnyH_done (by kernel_rfl) ?_ _
            all_goals
              go_wp2_with fail
              go_ret
              exact ⟨ret_int HR.out.symm, below_box hbx⟩
      · have HR : Hid (listE l own = if l.head? = own.head? then 0 else 9) := by
          show _ = _
          have h := HS.out
          rw [List.drop_of_length_le (by omega)] at h
          rw [HE.out, if_pos (h.trans (show scanE own (l.take k) [] = 0 from rfl))]
        have HZ : Hid (scanE own [] l = 0) := by
          have h := HS.out
          rw [List.drop_of_length_le (by omega)] at h
          exact h.trans (show scanE own (l.take k) [] = 0 from rfl)
        by_cases hz : 0 < l.length
        · obtain ⟨x0, _, hgx, _, b, off, hoa, _, c0⟩ := hlr.int_at hz
          subst hoa
          simp only [Nat.add_zero] at c0
          have HLEAST := hide (head_least HLen.out HZ.out hup.out hgx)
          have h1 : Hid (∀ (i : Nat) (y : Int), i < 1 → l[i]? = some y → x0 ≤ y) := by
            intro i y hi hy
            have : i = 0 := by omega
            subst this
            rw [hgx] at hy
            injection hy with hy
            omega
          clear hgx
          go_wp2_with fail
          obtain ⟨wo, rfl⟩ : ∃ wo : World, wo = wr := ⟨_, rfl⟩
          go_loopw [8] (fun iv wr => ∃ j : Nat, 1 ≤ j ∧ j ≤ l.length ∧ iv = .int .i64 j ∧ Hid (∀ (i : Nat) (y : Int), i < j → l[i]? = some y → x0 ≤ y) ∧ Below wo.heap.size wo wr) (fun iv _ => l.length - (intOf iv).toNat)
          case atStart => exact ⟨1, by omega, by omega, rfl, h1, Below.refl _ _⟩
          case round =>
            obtain ⟨j, hj1, hj, rfl, HJ, hbj⟩ := hrel
            have c0 := (hbj.cell (World.block_lt_of_cell? _ _ c0)).trans c0
            have hbw := hide (below_then (below_box hbx) hbj)
            by_cases hjl : j < l.length
            · obtain ⟨y, _, hgy, _, b2, off2, hoa2, _, c1⟩ := (hlr.below intR_ok hbj).int_at hjl
              injection hoa2 with hoa2
              injection hoa2 with q1 q2 q3
              subst q1 q2
              have HGY := hide hgy
              clear hgy
              by_cases hyx : y < x0
              · have HR9 : Hid (listE l own = 9) := by
                  show _ = _
                  rw [HR.out, if_neg (fun h => by have := HLEAST.out.1 h j y HGY.out; omega)]
                have q4 : decide (y < x0) = true := by simp [hyx]
                go_wp2_with fail
                go_quiet (fail)
                go_wp2_with fail
                go_ret
                exact ⟨ret_int HR9.out.symm, below_drewN hbw.out _⟩
              · have HJ2 : Hid (∀ (i : Nat) (y : Int), i < j + 1 → l[i]? = some y → x0 ≤ y) := by
                  intro i z hi hz
                  rcases Nat.lt_or_ge i j with h1 | h1
                  · exact HJ.out i z h1 hz
                  · have : i = j := by omega
                    subst this
                    rw [HGY.out] at hz
                    injection hz with hz
                    omega
                have q4 : decide (y < x0) = false := by simp; omega
                go_wp2_with fail
                go_quiet (fail)
                go_wp2_with fail
                go_roundw
                case rel => exact ⟨j + 1, by omega, by omega, by go_num, HJ2, below_drewN hbj _⟩
                case measure => simp [intOf]; omega
            · have HR0 : Hid (listE l own = 0) := by
                show _ = _
                rw [HR.out, if_pos (HLEAST.out.2 fun i y hy => HJ.out i y (by have := (List.getElem?_eq_some_iff.1 hy).1; omega) hy)]
              go_wp2_with fail
              go_ret
              exact ⟨ret_int HR0.out.symm, hbw.out⟩
        · have h0 : l.length = 0 := by omega
          have HR0 : Hid (listE l own = 0) := by
            show _ = _
            rw [HR.out, List.eq_nil_of_length_eq_zero h0, List.eq_nil_of_length_eq_zero (show own.length = 0 by have := HLen.out; omega)]
            rfl
          have hbw := hide (below_box hbx)
          go_wp2_with fail
          refine wp_loop_rounds 1 ?_
          rw [rounds_succ]
          go_wp2_with fail
          go_ret
          exact ⟨ret_int HR0.out.symm, hbw.out⟩
  · have HE : Hid (listE l own = 8) := if_neg hlen
    have hq : ((l.length : Int) != (own.length : Int)) = true := by simp; omega
    have hX := hide (below_box hbx)
    go_wp2_with fail
    go_ret
    exact ⟨ret_int HE.out.symm, hX.out⟩

end Go.Proofs.Ytopldbnlehjlpaa

set_option linter.unusedVariables false
set_option linter.unusedSimpArgs false
namespace Go.Proofs.Ytopldbnlehjlpaa
open Go.RowKit

def ends2 (v : Int) (p : Int × Int) : Int := (if p.1 = v then 1 else 0) + (if p.2 = v then 1 else 0)
def sumE (v : Int) : List (Int × Int) → Int
  | [] => 0
  | p :: r => ends2 v p + sumE v r
theorem sumE_app (v : Int) (l m : List (Int × Int)) : sumE v (l ++ m) = sumE v l + sumE v m := by
  induction l with
  | nil => simp [sumE]
  | cons p r ih => simp only [List.cons_append, sumE, ih]; omega
theorem sumE_rep (v : Int) (p : Int × Int) (k : Nat) : sumE v (List.replicate k p) = k * ends2 v p := by
  induction k with
  | zero => simp [sumE]
  | succ k ih =>
    rw [List.replicate_succ, sumE, ih]
    have : ((k + 1 : Nat) : Int) = k + 1 := by omega
    rw [this, Int.add_mul, Int.one_mul]
    omega
theorem half_len {l : List (Int × Int)} {v : Nat} : ∀ k, k ≤ l.length → ((halfU l (2 * k) v).length : Int) = sumE v (l.take k)
  | 0, _ => by simp [halfU, sumE]
  | k + 1, hk => by
    have ih := half_len (l := l) (v := v) k (by omega)
    have hg : l.getD k (0, 0) = l[k] := by rw [List.getD_eq_getElem?_getD, List.getElem?_eq_getElem (by omega)]; rfl
    have h1 : hv l (2 * k) = (l[k]).1 := by rw [hv, if_pos (by omega), show 2 * k / 2 = k by omega, hg]
    have h2 : hv l (2 * k + 1) = (l[k]).2 := by rw [hv, if_neg (by omega), show (2 * k + 1) / 2 = k by omega, hg]
    have e : l.take (k + 1) = l.take k ++ [l[k]] := by rw [List.take_add_one, List.getElem?_eq_getElem (by omega)]; rfl
    rw [e, sumE_app, ← ih, show 2 * (k + 1) = (2 * k + 1) + 1 by omega]
    simp only [sumE, ends2]
    by_cases c1 : hv l (2 * k) = (v : Int) <;> by_cases c2 : hv l (2 * k + 1) = (v : Int)
    · rw [halfU_yes c2, halfU_yes c1, if_pos (h1 ▸ c1), if_pos (h2 ▸ c2)]; simp
    · rw [halfU_no c2, halfU_yes c1, if_pos (h1 ▸ c1), if_neg (h2 ▸ c2)]; simp
    · rw [halfU_yes c2, halfU_no c1, if_neg (h1 ▸ c1), if_pos (h2 ▸ c2)]; simp
    · rw [halfU_no c2, halfU_no c1, if_neg (h1 ▸ c1), if_neg (h2 ▸ c2)]; simp

def hit (x : Edg) (a b : Int) : Int := if x.a = min a b ∧ x.b = max a b then x.m else 0
theorem betw_none {r : List Edg} {p q a b : Int} (h : ∀ y ∈ r, ¬ (y.a = p ∧ y.b = q)) (hp : p = min a b) (hq : q = max a b) : betw r a b = 0 := by
  induction r with
  | nil => rfl
  | cons y r ih =>
    rw [betw, if_neg (by rw [← hp, ← hq]; exact h y (by simp)), ih fun z hz => h z (by simp [hz])]
theorem betw_cons {x : Edg} {r : List Edg} (h : ∀ y ∈ r, ¬ (y.a = x.a ∧ y.b = x.b)) (a b : Int) : betw (x :: r) a b = hit x a b + betw r a b := by
  rw [betw, hit]
  split
  · rename_i he
    rw [betw_none h he.1 he.2]
    omega
  · omega
def valH (x : Edg) (v : Int) : Nat → Int
  | 0 => 0
  | u + 1 => valH x v u + (if (u : Int) = v then 0 else hit x u v)
theorem valU_cons {x : Edg} {r : List Edg} (h : ∀ y ∈ r, ¬ (y.a = x.a ∧ y.b = x.b)) (v : Int) : ∀ n, valU (x :: r) v n = valH x v n + valU r v n
  | 0 => rfl
  | n + 1 => by
    rw [valU, valU, valH, valU_cons h v n, betw_cons h]
    split <;> omega
theorem valH_is {x : Edg} (hab : x.a ≤ x.b) {v : Int} (ha : 0 ≤ x.a) (hb : 0 ≤ x.b) : ∀ n : Nat, valH x v n = if x.a = v ∧ x.b ≠ v ∧ x.b < n then x.m else if x.b = v ∧ x.a ≠ v ∧ x.a < n then x.m else 0
  | 0 => by
    rw [valH, if_neg (by omega), if_neg (by omega)]
  | n + 1 => by
    rw [valH, valH_is hab ha hb n]
    unfold hit
    repeat' split
    all_goals omega

theorem deg_sum {n : Nat} : ∀ {es : List Edg}, (∀ x ∈ es, (0 ≤ x.a ∧ x.a < n) ∧ (0 ≤ x.b ∧ x.b < n) ∧ 0 ≤ x.m ∧ x.a ≤ x.b) → (es.Pairwise fun x y => cmpP (x.a, x.b) (y.a, y.b) < 0) → ∀ v : Int, valU es v n + 2 * betw es v v = sumE v (endsL es)
  | [], _, _, v => by
    have : ∀ k, valU [] v k = 0 := fun k => by
      induction k with
      | zero => rfl
      | succ k ih => rw [valU, ih]; simp [betw]
    rw [this]
    simp [betw, endsL, sumE]
  | x :: r, h, hp, v => by
    rw [List.pairwise_cons] at hp
    have hx := h x (by simp)
    have hne : ∀ y ∈ r, ¬ (y.a = x.a ∧ y.b = x.b) := fun y hy he => by
      have := cmpP_neg.1 (hp.1 y hy)
      simp only at this
      omega
    have ih := deg_sum (es := r) (fun y hy => h y (by simp [hy])) hp.2 v
    rw [valU_cons hne, betw_cons hne, endsL_cons, sumE_app, sumE_rep, ← ih, valH_is hx.2.2.2 hx.1.1 hx.2.1.1, hit, ends2]
    have hm : (x.m.toNat : Int) = x.m := by omega
    rw [hm]
    simp only
    by_cases c1 : x.a = v <;> by_cases c2 : x.b = v
    · rw [if_pos c1, if_pos c2, if_neg (by omega), if_neg (by omega), if_pos (by omega)]; omega
    · rw [if_pos c1, if_neg c2, if_pos (by omega), if_neg (by omega)]; omega
    · rw [if_neg c1, if_pos c2, if_neg (by omega), if_pos (by omega), if_neg (by omega)]; omega
    · rw [if_neg c1, if_neg c2, if_neg (by omega), if_neg (by omega), if_neg (by omega)]; omega
/-- The degree of a vertex of a right graph is the number of its half-edges. -/
theorem deg_half {n : Nat} {es : List Edg} (hV : gErr n es = 0) (v : Nat) : degU n es v = ((halfU (endsL es) (2 * (endsL es).length) v).length : Nat) := by
  rw [half_len _ (Nat.le_refl _), List.take_length]
  exact deg_sum (fun x hx => by have := (gErr_zero hV).2.1 x hx; omega) (gErr_zero hV).2.2 v

end Go.Proofs.Ytopldbnlehjlpaa

set_option linter.unusedVariables false
set_option linter.unusedSimpArgs false
namespace Go.Proofs.Ytopldbnlehjlpaa
open Go.RowKit

theorem boolInfoG : (Try.prog.info? 4).map (fun i => (i.zero, i.size, i.bytes)) = some (some (.bool false), 1, 1) := by kernel_rfl

def adjG (es : List Edg) (a b : Nat) : Bool := decide (0 < betw es a b)
def ReachedPost (w : World) (es : List Edg) (n s : Nat) (e : Ending) (w' : World) : Prop :=
  ∃ g bs, e = .returned (.slice (some ⟨g, 0, none⟩) n n) ∧ Leads (nxA (adjG es)) n n s bs ∧ Row1 Value.bool w' g 4 bs [] ∧ w.heap.size ≤ g ∧ Below w.heap.size w w'
theorem nxA_lt {adj : Nat → Nat → Bool} {n : Nat} : ∀ u a, u < n → a < n → nxA adj u a < n := by
  intro u a h1 h2
  unfold nxA
  split <;> omega
def InrG (nx : Nat → Nat → Nat) (L S s k t j : Nat) (bs : List Bool) : Prop := Led nx L S s k t bs ∧ (bs[t]? = some true → ∀ a, a < j → bs[nx t a]? = some true)

set_option maxRecDepth 100000 in
set_option maxHeartbeats 4000000 in
theorem reached_any (n : Nat) (hn : n ≤ 12) (es : List Edg) (oe : Option Addr) (c : Nat) (F : Foot) (w : World) (hs : SliceR edgR 3 F w oe es) (hc : es.length ≤ c) (hc2 : es.length ≤ 9223372036854775807) (s0 : Nat) (hS : s0 < n) :
    Calls Try.prog 116 #[.agg #[.int .i64 n, .slice oe es.length c], .int .i64 s0] w (ReachedPost w es n s0) := by
  have HNX := hide (nxA_lt (adj := adjG es) (n := n))
  go_enter Try.func116, Try.ntmps116
  go_wp2_with (at_make; refine wpList_make_row _ rfl _ _ 153 rfl 4 false 1 Try.underlying153 boolInfoG rfl .i64 .i64 _ _ n rfl rfl rfl rfl (by omega) (by unfold maxLen; omega) (fun w1 hrow hb1 hg1 => ?_); have c0 := hrow.cell (i := s0) (x := false) (by simp [hS]); have f0 := hrow.free s0; simp at c0 f0; have hp := hrow.put (i := s0) (by simp [hS]) true; simp only [World.size_alloc] at hp; have HG := hide hg1; clear hrow hg1)
  have hb0 : Below (w.heap.size + 1) (w.alloc (.cells #[.int .i64 n, .slice oe es.length c] 24)) (w1.setCell ⟨w.heap.size + 1, s0, none⟩ (.bool true)) := by
    have h := hb1
    simp only [World.size_alloc] at h
    exact h.setCell (by simp) _
  clear hb1 c0 f0
  go_loopw [6] (fun iv wr => ∃ (k : Nat) (bs : List Bool), k ≤ n ∧ iv = .int .i64 k ∧ Hid (Led (nxA (adjG es)) n n s0 k 0 bs) ∧ Row1 Value.bool wr (w.heap.size + 1) 4 bs [] ∧
      Below (w.heap.size + 1) (w.alloc (.cells #[.int .i64 n, .slice oe es.length c] 24)) wr) (fun iv _ => n - (intOf iv).toNat)
  case atStart => exact ⟨0, _, by omega, rfl, Led.begin hS, hp, hb0⟩
  case round =>
    obtain ⟨k, bs, hk, rfl, HL, hr, hb⟩ := hrel
    clear hb0 hp HG
    have d0 := box_cell hb 0
    simp at d0
    by_cases hlt : k < n
    · go_wp2_with fail
      obtain ⟨wo, rfl⟩ : ∃ wo : World, wo = wr := ⟨_, rfl⟩
      go_loopw [7] (fun iv wr => ∃ (t : Nat) (bs : List Bool), t ≤ n ∧ iv = .int .i64 t ∧ Hid (Led (nxA (adjG es)) n n s0 k t bs) ∧ Row1 Value.bool wr (w.heap.size + 1) 4 bs [] ∧
        Below (w.heap.size + 1) (w.alloc (.cells #[.int .i64 n, .slice oe es.length c] 24)) wr) (fun iv _ => n - (intOf iv).toNat)
      case atStart => exact ⟨0, _, by omega, rfl, HL, hr, hb⟩
      case round =>
        clear hb hr d0 HL
        obtain ⟨t, bs, ht, rfl, HL, hr, hb⟩ := hrel
        have d0 := box_cell hb 0
        simp at d0
        by_cases htl : t < n
        · go_wp2_with fail
          obtain ⟨wo, rfl⟩ : ∃ wo : World, wo = wr := ⟨_, rfl⟩
          go_loopw [8] (fun iv wr => ∃ (j : Nat) (bs : List Bool), j ≤ n ∧ iv = .int .i64 j ∧ Hid (InrG (nxA (adjG es)) n n s0 k t j bs) ∧ Row1 Value.bool wr (w.heap.size + 1) 4 bs [] ∧
            Below (w.heap.size + 1) (w.alloc (.cells #[.int .i64 n, .slice oe es.length c] 24)) wr) (fun iv _ => n - (intOf iv).toNat)
          case atStart => exact ⟨0, _, by omega, rfl, ⟨HL, fun _ a ha => by omega⟩, hr, hb⟩
          case round =>
            clear hb hr d0 HL
            obtain ⟨j, bs, hj, rfl, HI, hr, hb⟩ := hrel
            have d0 := box_cell hb 0
            have d1 := box_cell hb 1
            simp at d0 d1
            have hbl : bs.length = n := HI.out.1.len
            by_cases hjl : j < n
            · obtain ⟨bt, hbt⟩ : ∃ bt, bs[t]? = some bt := ⟨_, List.getElem?_eq_getElem (by omega)⟩
              have ct := hr.cell hbt
              have HBT := hide hbt
              clear hbt
              cases bt with
              | false =>
                have HI2 : Hid (InrG (nxA (adjG es)) n n s0 k t (j + 1) bs) := ⟨HI.out.1, fun h => by rw [HBT.out] at h; cases h⟩
                clear hbl
                go_wp2_with fail
                go_roundw
                case rel => exact ⟨j + 1, bs, by omega, by go_num, HI2, hr, hb⟩
                case measure => simp [intOf]; omega
              | true =>
                have hcall := betw_any n es oe c F wr (hs.below edgR_ok (below_box hb)) hc hc2 t j
                have HJL := hide hjl
                by_cases had : 0 < betw es t j
                · have hnx : nxA (adjG es) t j = j := by unfold nxA adjG; rw [if_pos (by simpa using had)]
                  have hset := HI.out.1.set HBT.out hjl (by rw [hnx]; exact hjl) (HI.out.2 HBT.out)
                  rw [hnx] at hset
                  have HI2 : Hid (InrG (nxA (adjG es)) n n s0 k t (j + 1) (bs.set j true)) := ⟨hset.1, fun _ => hset.2.2⟩
                  obtain ⟨bn, hbn⟩ : ∃ bn, bs[j]? = some bn := ⟨_, List.getElem?_eq_getElem (by omega)⟩
                  have hjb : j < bs.length := by omega
                  have HR := hide hr
                  clear hset hnx hbl
                  generalize betw es t j = x at had hcall
                  go_wp2_with fail
                  refine hcall.mono ?_
                  rintro e w4 ⟨rfl, hb4⟩
                  have hr4 := HR.out.below hb4
                  have cn := hr4.cell hbn
                  have fn := hr4.free j
                  have hp := hide (hr4.put hjb true)
                  have HB := hide ((hb.trans (hb4.mono (box_lt hb))).setCell (p := ⟨w.heap.size + 1, j, none⟩) (by simp) (.bool true))
                  clear hbn hr4 hr hb4 ct d0 d1
                  go_wp2_with fail
                  go_roundw
                  case rel => exact ⟨j + 1, _, by omega, by go_num, HI2, hp.out, HB.out⟩
                  case measure => simp [intOf]; omega
                · have hnx : nxA (adjG es) t j = t := by unfold nxA adjG; rw [if_neg (by simpa using had)]
                  have HI2 : Hid (InrG (nxA (adjG es)) n n s0 k t (j + 1) bs) := ⟨HI.out.1, fun h a ha => by
                    rcases Nat.lt_or_ge a j with h1 | h1
                    · exact HI.out.2 h a h1
                    · have : a = j := by omega
                      subst this
                      rw [hnx]
                      exact h⟩
                  have HR := hide hr
                  clear hnx hbl
                  generalize betw es t j = x at had hcall
                  go_wp2_with fail
                  refine hcall.mono ?_
                  rintro e w4 ⟨rfl, hb4⟩
                  have hr4 := hide (HR.out.below hb4)
                  have HB := hide (hb.trans (hb4.mono (box_lt hb)))
                  clear hr hb4 ct d0 d1
                  go_wp2_with fail
                  go_roundw
                  case rel => exact ⟨j + 1, bs, by omega, by go_num, HI2, hr4.out, HB.out⟩
                  case measure => simp [intOf]; omega
            · have hj2 : j = n := by omega
              subst hj2
              have HN := hide (HI.out.1.next fun h => HI.out.2 h)
              clear hbl
              go_wp2_with fail
              go_roundw
              case rel => exact ⟨t + 1, bs, by omega, by go_num, HN, hr, hb⟩
              case measure => simp [intOf]; omega
        · have h2 : t = n := by omega
          subst h2
          have HN := hide (HL.out.round hS HNX.out)
          go_wp2_with fail
          go_roundw
          case rel => exact ⟨k + 1, bs, by omega, by go_num, HN, hr, hb⟩
          case measure => simp [intOf]; omega
    · have h2 : k = n := by omega
      subst h2
      have HN := hide (HL.out.all hS HNX.out)
      go_wp2_with fail
      go_ret
      exact ⟨w.heap.size + 1, bs, rfl, HN.out, hr, by omega, below_box hb⟩

end Go.Proofs.Ytopldbnlehjlpaa

set_option linter.unusedVariables false
set_option linter.unusedSimpArgs false
namespace Go.Proofs.Ytopldbnlehjlpaa
open Go.RowKit

/-- a with b laid over its first j places. -/
def mixB (a b : List Bool) (j : Nat) : List Bool := (List.range a.length).map fun i => if i < j then a.getD i false || b.getD i false else a.getD i false
theorem mixB_len (a b : List Bool) (j : Nat) : (mixB a b j).length = a.length := by simp [mixB]
theorem mixB_get {a b : List Bool} {j i : Nat} (hi : i < a.length) : (mixB a b j)[i]? = some (if i < j then a.getD i false || b.getD i false else a.getD i false) := by
  simp [mixB, hi]
theorem mixB_zero (a b : List Bool) : mixB a b 0 = a := by
  apply List.ext_getElem?
  intro i
  rcases Nat.lt_or_ge i a.length with hi | hi
  · rw [mixB_get hi]; simp [hi]
  · rw [List.getElem?_eq_none (by rw [mixB_len]; exact hi), List.getElem?_eq_none hi]
theorem mixB_step {a b : List Bool} {j : Nat} (hj : j < a.length) : (mixB a b j).set j (a.getD j false || b.getD j false) = mixB a b (j + 1) := by
  apply List.ext_getElem?
  intro i
  rcases Nat.lt_or_ge i a.length with hi | hi
  · rw [mixB_get hi]
    by_cases e : j = i
    · subst e
      rw [List.getElem?_set_self (by rw [mixB_len]; exact hj), if_pos (by omega)]
    · rw [List.getElem?_set_ne e, mixB_get hi]
      by_cases h : i < j
      · rw [if_pos h, if_pos (by omega)]
      · rw [if_neg h, if_neg (by omega)]
  · rw [List.getElem?_eq_none (by simp [mixB_len]; exact hi), List.getElem?_eq_none (by rw [mixB_len]; exact hi)]

theorem betw_pos {es : List Edg} (h : ∀ x ∈ es, 1 ≤ x.m ∧ x.a ≤ x.b ∧ 0 ≤ x.a ∧ 0 ≤ x.b) (a b : Nat) : 0 < betw es a b ↔ (a, b) ∈ eL es ∨ (b, a) ∈ eL es := by
  induction es with
  | nil => simp [betw, eL]
  | cons x r ih =>
    have ih := ih fun y hy => h y (by simp [hy])
    have hx := h x (by simp)
    have hmem : ∀ p : Nat × Nat, p ∈ eL (x :: r) ↔ p = (x.a.toNat, x.b.toNat) ∨ p ∈ eL r := fun p => by simp [eL]
    rw [hmem, hmem, betw]
    split
    · rename_i he
      constructor
      · intro _
        rcases Nat.le_total a b with hab | hab
        · left; left
          rw [Prod.mk.injEq]
          omega
        · right; left
          rw [Prod.mk.injEq]
          omega
      · intro _; omega
    · rename_i he
      rw [ih]
      constructor
      · rintro (h1 | h1)
        · exact .inl (.inr h1)
        · exact .inr (.inr h1)
      · rintro ((h1 | h1) | (h1 | h1))
        · exfalso
          rw [Prod.mk.injEq] at h1
          apply he
          omega
        · exact .inl h1
        · exfalso
          rw [Prod.mk.injEq] at h1
          apply he
          omega
        · exact .inr h1
theorem adj_eL {n : Int} {es : List Edg} (hV : gErr n es = 0) (a b : Nat) : adjG es a b = true ↔ (a, b) ∈ eL es ∨ (b, a) ∈ eL es := by
  unfold adjG
  rw [decide_eq_true_iff]
  exact betw_pos (fun x hx => by have := (gErr_zero hV).2.1 x hx; omega) a b
theorem eL_ltN {n : Nat} {es : List Edg} (hV : gErr n es = 0) : ∀ x ∈ eL es, x.1 < n ∧ x.2 < n := by
  intro x hx
  simp only [eL, List.mem_map] at hx
  obtain ⟨y, hy, rfl⟩ := hx
  have h := (gErr_zero hV).2.1 y hy
  constructor
  · simp only; omega
  · simp only; omega
theorem leads_tied {n : Nat} {es : List Edg} (hV : gErr n es = 0) {s : Nat} {bs : List Bool} (h : Leads (nxA (adjG es)) n n s bs) (x : Nat) : bs[x]? = some true ↔ Tied (eL es) s x :=
  (h.2 x).trans (rch_tied (adj_eL hV) (eL_ltN hV))

/-- What was seen so far. -/
structure Seen (E : List (Nat × Nat)) (n k : Nat) (bs : List Bool) : Prop where
  len : bs.length = n
  iff : ∀ x, x < n → (bs[x]? = some true ↔ ∃ u, u < k ∧ Tied E u x)
theorem Seen.begin (E : List (Nat × Nat)) (n : Nat) : Seen E n 0 (List.replicate n false) :=
  ⟨by simp, fun x hx => by simp [hx]⟩
theorem Seen.old {E : List (Nat × Nat)} {n k : Nat} {bs : List Bool} (h : Seen E n k bs) (hk : k < n) (hb : bs[k]? = some true) : Seen E n (k + 1) bs := by
  refine ⟨h.len, fun x hx => ?_⟩
  rw [h.iff x hx]
  obtain ⟨u0, hu0, ht0⟩ := (h.iff k hk).1 hb
  constructor
  · rintro ⟨u, hu, ht⟩; exact ⟨u, by omega, ht⟩
  · rintro ⟨u, hu, ht⟩
    rcases Nat.lt_or_ge u k with h1 | h1
    · exact ⟨u, h1, ht⟩
    · have : u = k := by omega
      subst this
      exact ⟨u0, hu0, ht0.trans ht⟩
theorem Seen.more {E : List (Nat × Nat)} {n k : Nat} {bs cs : List Bool} (h : Seen E n k bs) (hc : cs.length = n) (hr : ∀ x, cs[x]? = some true ↔ Tied E k x) : Seen E n (k + 1) (mixB bs cs n) := by
  refine ⟨by rw [mixB_len, h.len], fun x hx => ?_⟩
  rw [mixB_get (by rw [h.len]; exact hx), if_pos hx]
  have h1 := h.iff x hx
  have h2 := hr x
  have e1 : bs.getD x false = true ↔ bs[x]? = some true := true_of_getD (by rw [h.len]; exact hx)
  have e2 : cs.getD x false = true ↔ cs[x]? = some true := true_of_getD (by rw [hc]; exact hx)
  rw [Option.some.injEq, Bool.or_eq_true, e1, e2, h1, h2]
  constructor
  · rintro (⟨u, hu, ht⟩ | ht)
    · exact ⟨u, by omega, ht⟩
    · exact ⟨k, by omega, ht⟩
  · rintro ⟨u, hu, ht⟩
    rcases Nat.lt_or_ge u k with h1 | h1
    · exact .inl ⟨u, h1, ht⟩
    · have : u = k := by omega
      subst this
      exact .inr ht
theorem Seen.root {E : List (Nat × Nat)} {f : List Nat} (hf : Uf f E) {n k : Nat} {bs : List Bool} (h : Seen E n k bs) (hk : k < n) (hn : n ≤ 12) : bs[k]? = some true ↔ ¬ rootF f k = k := by
  rw [h.iff k hk, hf.least (by omega)]
  constructor
  · rintro ⟨u, hu, ht⟩ h2; exact h2 u hu ht
  · intro h2
    exact Classical.byContradiction fun h3 => h2 fun u hu ht => h3 ⟨u, hu, ht⟩

set_option maxRecDepth 100000 in
set_option maxHeartbeats 4000000 in
theorem rparts_any (n : Nat) (es : List Edg) (oe : Option Addr) (c : Nat) (F : Foot) (w : World) (hs : SliceR edgR 3 F w oe es) (hc : es.length ≤ c) (hc2 : es.length ≤ 9223372036854775807)
    (hV : Hid (gErr n es = 0)) (f : List Nat) (hU : Hid (Uf f (eL es))) : Calls Try.prog 107 #[.agg #[.int .i64 n, .slice oe es.length c]] w (ErrPost w (cnt f n : Nat)) := by
  have hn : n ≤ 12 := by have := (gErr_zero hV.out).1; omega
  go_enter Try.func107, Try.ntmps107
  go_wp2_with (at_make; refine wpList_make_row _ rfl _ _ 153 rfl 4 false 1 Try.underlying153 boolInfoG rfl .i64 .i64 _ _ n rfl rfl rfl rfl (by omega) (by unfold maxLen; omega) (fun w1 hrow hb1 hg1 => ?_); simp only [World.size_alloc] at hrow hb1)
  clear hg1
  go_loopw [3, 5] (fun pv iv wr => ∃ (k : Nat) (bs : List Bool), k ≤ n ∧ iv = .int .i64 k ∧ pv = .int .i64 (cnt f k : Nat) ∧ Hid (Seen (eL es) n k bs) ∧ Row1 Value.bool wr (w.heap.size + 1) 4 bs [] ∧
      Below (w.heap.size + 1) (w.alloc (.cells #[.int .i64 n, .slice oe es.length c] 24)) wr) (fun _ iv _ => n - (intOf iv).toNat)
  case atStart => exact ⟨0, _, by omega, rfl, rfl, Seen.begin _ _, hrow, hb1⟩
  case round =>
    clear hrow hb1
    obtain ⟨k, bs, hk, rfl, rfl, HS, hr, hb⟩ := hrel
    have d0 := box_cell hb 0
    have d1 := box_cell hb 1
    simp at d0 d1
    have hck : cnt f k ≤ k := by
      have := List.length_filter_le (fun v => rootF f v == v) (List.range k)
      simpa [cnt] using this
    by_cases hlt : k < n
    · have HROOT := hide (HS.out.root hU.out hlt hn)
      obtain ⟨bt, hbt⟩ : ∃ bt, bs[k]? = some bt := ⟨_, List.getElem?_eq_getElem (by rw [HS.out.len]; exact hlt)⟩
      have ct := hr.cell hbt
      have HBT := hide hbt
      clear hbt
      cases bt with
      | true =>
        have HC : Hid (cnt f (k + 1) = cnt f k) := cnt_no (HROOT.out.1 HBT.out)
        have HN := hide (HS.out.old hlt HBT.out)
        generalize cnt f k = p at hck HC
        go_wp2_with fail
        go_roundw
        case rel => exact ⟨k + 1, bs, by omega, by go_num, by rw [HC.out], HN, hr, hb⟩
        case measure => simp [intOf]; omega
      | false =>
        have hroot : rootF f k = k := Classical.byContradiction fun h => by
          have := HROOT.out.2 h
          rw [HBT.out] at this
          cases this
        have HC : Hid (cnt f (k + 1) = cnt f k + 1) := cnt_yes hroot
        have hcall := reached_any n hn es oe c F wr (hs.below edgR_ok (below_box hb)) hc hc2 k hlt
        clear hroot
        generalize cnt f k = p at hck HC
        go_wp2_with fail
        refine hcall.mono ?_
        rintro e w4 ⟨g, cs, rfl, hle, hrc, hg, hb4⟩
        have HLT := hide (leads_tied hV.out hle)
        have hcl : cs.length = n := hle.1
        have hr4 := hr.below hb4
        have hx4 := hb.trans (hb4.mono (box_lt hb))
        have hgne : w.heap.size + 1 < g := by have := hr.lt; omega
        have HM : Hid (Seen (eL es) n (k + 1) (mixB bs cs n)) := HS.out.more hcl HLT.out
        have hbl : bs.length = n := HS.out.len
        clear hb4 hr hb ct d0 d1 hle
        have d0 := box_cell hx4 0
        simp at d0
        have hz := mixB_zero bs cs
        go_wp2_with fail
        obtain ⟨wo, rfl⟩ : ∃ wo : World, wo = w4 := ⟨_, rfl⟩
        go_loopw [7] (fun iv wr => ∃ (j : Nat), j ≤ n ∧ iv = .int .i64 j ∧ Row1 Value.bool wr (w.heap.size + 1) 4 (mixB bs cs j) [] ∧ Row1 Value.bool wr g 4 cs [] ∧
          Below (w.heap.size + 1) (w.alloc (.cells #[.int .i64 n, .slice oe es.length c] 24)) wr) (fun iv _ => n - (intOf iv).toNat)
        case atStart => exact ⟨0, by omega, rfl, by rw [hz]; exact hr4, hrc, hx4⟩
        case round =>
          clear hr4 hrc hx4 d0 hz
          obtain ⟨j, hj, rfl, hr, hrc, hb⟩ := hrel
          have d0 := box_cell hb 0
          simp at d0
          by_cases hjl : j < n
          · have h1 : (mixB bs cs j)[j]? = some (bs.getD j false) := by rw [mixB_get (by omega), if_neg (by omega)]
            have h2 : cs[j]? = some (cs.getD j false) := by rw [List.getD_eq_getElem?_getD, List.getElem?_eq_getElem (by omega)]; rfl
            have c1 := hr.cell h1
            have c2 := hrc.cell h2
            have f1 := hr.free j
            have hp := hide (hr.put (i := j) (by rw [mixB_len]; omega) (bs.getD j false || cs.getD j false))
            have HMS := hide (mixB_step (a := bs) (b := cs) (j := j) (by omega))
            have HRC := hide (hrc.other (p := ⟨w.heap.size + 1, j, none⟩) (by simp; omega) (.bool (bs.getD j false || cs.getD j false)))
            have HB := hide (hb.setCell (p := ⟨w.heap.size + 1, j, none⟩) (by simp) (.bool (bs.getD j false || cs.getD j false)))
            clear h1 h2
            generalize bs.getD j false = b1 at *
            generalize cs.getD j false = b2 at *
            cases b1 with
            | true =>
              go_wp2_with fail
              go_roundw
              case rel => exact ⟨j + 1, by omega, by go_num, by rw [← HMS.out]; exact hp.out, HRC.out, HB.out⟩
              case measure => simp [intOf]; omega
            | false =>
              go_wp2_with fail
              go_roundw
              case rel => exact ⟨j + 1, by omega, by go_num, by rw [← HMS.out]; exact hp.out, HRC.out, HB.out⟩
              case measure => simp [intOf]; omega
          · have : j = n := by omega
            subst this
            go_wp2_with fail
            go_roundw
            case rel => exact ⟨k + 1, _, by omega, by go_num, by rw [HC.out]; go_num, HM, hr, hb⟩
            case measure => simp [intOf]; omega
    · have : k = n := by omega
      subst this
      go_wp2_with fail
      go_ret
      exact ⟨rfl, below_box hb⟩

end Go.Proofs.Ytopldbnlehjlpaa

set_option linter.unusedVariables false
set_option linter.unusedSimpArgs false
namespace Go.Proofs.Ytopldbnlehjlpaa
open Go.RowKit

set_option maxRecDepth 100000 in
theorem rconn_any (n : Nat) (es : List Edg) (oe : Option Addr) (c : Nat) (F : Foot) (w : World) (hs : SliceR edgR 3 F w oe es) (hc : es.length ≤ c) (hc2 : es.length ≤ 9223372036854775807)
    (hV : Hid (gErr n es = 0)) (f : List Nat) (hU : Hid (Uf f (eL es))) : Calls Try.prog 91 #[.agg #[.int .i64 n, .slice oe es.length c]] w fun e w' => e = .returned (.bool (cnt f n == 1)) ∧ Below w.heap.size w w' := by
  go_enter Try.func91, Try.ntmps91
  go_wp2_with fail
  have hb0 := box_refl w (.cells #[.int .i64 n, .slice oe es.length c] 24)
  refine (rparts_any n es oe c F _ (hs.below edgR_ok (below_box hb0)) hc hc2 hV f hU).mono ?_
  rintro e w2 ⟨rfl, hb2⟩
  have hx := hide (below_box (hb2.mono (B' := w.heap.size + 1) (by simp)))
  clear hb2 hb0
  go_wp2_with fail
  go_ret
  refine ⟨ret_bool ?_, hx.out⟩
  rw [Bool.eq_iff_iff]
  simp
  omega

set_option maxRecDepth 100000 in
set_option maxHeartbeats 1000000 in
theorem rjoined_any (n : Int) (es : List Edg) (oe : Option Addr) (c : Nat) (F : Foot) (w : World) (hs : SliceR edgR 3 F w oe es) (hc : es.length ≤ c) (hc2 : es.length ≤ 9223372036854775807)
    (f : List Nat) (hU : Hid (gErr n es = 0 → Uf f (eL es))) : Calls Try.prog 74 #[.agg #[.int .i64 n, .slice oe es.length c]] w (ErrPost w (jErr n es f)) := by
  go_enter Try.func74, Try.ntmps74
  go_wp2_with fail
  have hb0 := box_refl w (.cells #[.int .i64 n, .slice oe es.length c] 24)
  refine (rgcheck_any n es oe c F _ (hs.below edgR_ok (below_box hb0)) hc hc2).mono ?_
  rintro e w2 ⟨rfl, hb2⟩
  have hx2 := hb2.mono (B' := w.heap.size + 1) (by simp)
  have d0 := box_cell hx2 0
  have d1 := box_cell hx2 1
  simp at d0 d1
  clear hb2 hb0
  have hs2 := hs.below edgR_ok (below_box hx2)
  by_cases hV : gErr n es = 0
  · have HJ : Hid (jErr n es f = if partsN n es f = 1 then 0 else 13) := if_pos hV
    have HP : Hid (partsN n es f = cnt f n.toNat) := if_pos hV
    have HV := hide hV
    have hn := (gErr_zero hV).1
    rw [hV]
    clear hV
    obtain ⟨N, rfl⟩ := Int.eq_ofNat_of_zero_le (show 0 ≤ n by omega)
    have HUF := hide (hU.out HV.out)
    go_wp2_with fail
    refine (rconn_any N es oe c F _ hs2 hc hc2 HV f HUF).mono ?_
    rintro e w3 ⟨rfl, hb3⟩
    have HX := hide (below_box (hx2.trans (hb3.mono (box_lt hx2))))
    clear hb3 hs2 d0 d1 hx2
    by_cases hp : cnt f N = 1
    · have HJ2 : Hid (jErr (N : Int) es f = 0) := by show _ = _; rw [HJ.out, HP.out]; exact if_pos hp
      have hq : (cnt f N == 1) = true := by simpa using hp
      clear hp
      go_wp2_with fail
      go_ret
      exact ⟨ret_int HJ2.out.symm, HX.out⟩
    · have HJ2 : Hid (jErr (N : Int) es f = 13) := by show _ = _; rw [HJ.out, HP.out]; exact if_neg hp
      have hq : (cnt f N == 1) = false := by simpa using hp
      clear hp
      go_wp2_with fail
      go_ret
      exact ⟨ret_int HJ2.out.symm, HX.out⟩
  · have HJ : Hid (jErr n es f = gErr n es) := if_neg hV
    have hx := hide (below_box hx2)
    have hq : (gErr n es != 0) = true := by simpa using hV
    go_wp2_with fail
    go_ret
    exact ⟨ret_int HJ.out.symm, hx.out⟩

end Go.Proofs.Ytopldbnlehjlpaa

set_option linter.unusedVariables false
set_option linter.unusedSimpArgs false
set_option linter.unnecessarySimpa false
namespace Go.Proofs.Ytopldbnlehjlpaa
open Go.RowKit

set_option maxRecDepth 100000 in
set_option maxHeartbeats 1000000 in
theorem rbcheck_any (n : Int) (es : List Edg) (oe : Option Addr) (c : Nat) (ar : List (List Int)) (oa : Option Addr) (ca : Nat) (F G : Foot) (w : World) (hs : SliceR edgR 3 F w oe es) (hc : es.length ≤ c) (hc2 : es.length ≤ 1000)
    (ha : SliceR (slcR intR 1) 1 G w oa ar) (hac : ar.length ≤ ca) (hac2 : ar.length ≤ 9223372036854775807) (f : List Nat) (hU : Hid (gErr n es = 0 → Uf f (eL es))) :
    Calls Try.prog 47 #[.agg #[.int .i64 n, .slice oe es.length c, .slice oa ar.length ca]] w (ErrPost w (chkE n es f ar)) := by
  go_enter Try.func47, Try.ntmps47
  go_wp2_with fail
  have hb0 := box_refl w (.cells #[.int .i64 n, .slice oe es.length c, .slice oa ar.length ca] 27)
  refine (checked_any n es oe c ar oa ca F G _ (hs.below edgR_ok (below_box hb0)) hc hc2 (ha.below (slcR_ok intR_ok (by decide)) (below_box hb0)) hac hac2 f hU).mono ?_
  rintro e w2 ⟨v, rfl, ho, hb2⟩
  have hx := hide (below_box (hb2.mono (B' := w.heap.size + 1) (by simp)))
  clear ho hb2 hb0
  go_wp2_with fail
  go_ret
  exact ⟨rfl, hx.out⟩

set_option maxRecDepth 100000 in
set_option maxHeartbeats 4000000 in
theorem r44check_any (n : Int) (es : List Edg) (oe : Option Addr) (c : Nat) (ar : List (List Int)) (oa : Option Addr) (ca : Nat) (F G : Foot) (w : World) (hs : SliceR edgR 3 F w oe es) (hc : es.length ≤ c) (hc2 : es.length ≤ 1000)
    (ha : SliceR (slcR intR 1) 1 G w oa ar) (hac : ar.length ≤ ca) (hac2 : ar.length ≤ 9223372036854775807) (f : List Nat) (hU : Hid (gErr n es = 0 → Uf f (eL es))) :
    Calls Try.prog 48 #[.agg #[.int .i64 n, .slice oe es.length c, .slice oa ar.length ca]] w (ErrPost w (chkE n es f ar)) := by
  go_enter Try.func48, Try.ntmps48
  go_wp2_with fail
  have hb0 := box_refl w (.cells #[.int .i64 n, .slice oe es.length c, .slice oa ar.length ca] 27)
  refine (rjoined_any n es oe c F _ (hs.below edgR_ok (below_box hb0)) hc (by omega) f hU).mono ?_
  rintro e w2 ⟨rfl, hb2⟩
  have hx2 := hb2.mono (B' := w.heap.size + 1) (by simp)
  have d0 := box_cell hx2 0
  have d2 := box_cell hx2 2
  simp at d0 d2
  clear hb2 hb0
  by_cases hJ : jErr n es f = 0
  · have hV := jErr_zero hJ
    have HV := hide hV
    have HC : Hid (chkE n es f ar = if (ar.length : Int) = n then rowsE ar (halfs n es) else 8) := if_pos hJ
    rw [hJ]
    by_cases hn : (ar.length : Int) = n
    · have HC2 : Hid (chkE n es f ar = rowsE ar (halfs n es)) := by show _ = _; rw [HC.out, if_pos hn]
      have hn12 := (gErr_zero hV).1
      have hq : ((ar.length : Int) != n) = false := by simp [hn]
      obtain ⟨N, rfl⟩ := Int.eq_ofNat_of_zero_le (show 0 ≤ n by omega)
      have hNar : ar.length = N := by omega
      have HNA := hide hNar
      have HH : Hid (halfs (N : Int) es = halvesU N (endsL es) (2 * (endsL es).length)) := rfl
      clear hn hV hJ hNar
      go_wp2_with fail
      go_loopw [4] (fun iv wr => ∃ k : Nat, k ≤ N ∧ iv = .int .i64 k ∧ Hid (chkE (N : Int) es f ar = rowsE (ar.drop k) ((halfs (N : Int) es).drop k)) ∧ Below (w.heap.size + 1) (w.alloc (.cells #[.int .i64 N, .slice oe es.length c, .slice oa ar.length ca] 27)) wr) (fun iv _ => N - (intOf iv).toNat)
      case atStart => exact ⟨0, by omega, rfl, HC2, hx2⟩
      case round =>
        clear hx2 d0 d2
        obtain ⟨k, hk, rfl, HS, hxr⟩ := hrel
        have hbw := below_box hxr
        have d0 := box_cell hxr 0
        have d1 := box_cell hxr 1
        have d2 := box_cell hxr 2
        simp at d0 d1 d2
        by_cases hlt : k < N
        · obtain ⟨x, hd, hget, b, off, ol, cl, hoa, _, c0, hxl, hxl2, hsl⟩ := (ha.below (slcR_ok intR_ok (by decide)) hbw).slc_at (i := k) (by have := HNA.out; omega)
          subst hoa
          have HNB := HNA.out
          obtain ⟨own, hown⟩ : ∃ own, own = halfU (endsL es) (2 * (endsL es).length) k := ⟨_, rfl⟩
          have HS2 : Hid (chkE (N : Int) es f ar = if listE x own = 0 then rowsE (ar.drop (k + 1)) ((halfs (N : Int) es).drop (k + 1)) else listE x own) := by
            show _ = _
            have hho := halvesU_get (l := endsL es) (H := 2 * (endsL es).length) hlt
            have hd2 : (halfs (N : Int) es).drop k = own :: (halfs (N : Int) es).drop (k + 1) := by
              rw [HH.out]
              have hkl : k < (halvesU N (endsL es) (2 * (endsL es).length)).length := by simp [halvesU, hlt]
              rw [List.drop_eq_getElem_cons hkl]
              congr 1
              rw [List.getElem?_eq_getElem hkl] at hho
              injection hho with hho
              rw [hho, hown]
            rw [HS.out, hd, hd2, rowsE_cons]
          have HDEG : Hid (degU N es (k : Nat) = (own.length : Nat)) := by show _ = _; rw [hown]; exact deg_half HV.out k
          have HOWN := hide hown
          have hkar : k < ar.length := by omega
          clear hown hd hget HNB
          have hcall := fun W (h : Below w.heap.size w W) (h2 : SliceR intR 1 G W ol x) => raround_any N es oe c F W (hs.below edgR_ok h) hc hc2 HV k x ol cl G h2 hxl hxl2 own HOWN HDEG
          have hq1 : (k : Int) < ar.length := by omega
          by_cases hle : listE x own = 0
          · have HS3 : Hid (chkE (N : Int) es f ar = rowsE (ar.drop (k + 1)) ((halfs (N : Int) es).drop (k + 1))) := by show _ = _; rw [HS2.out, if_pos hle]
            go_wp2_with fail
            go_region_held3 (fun w' => w'.cell? ⟨w.heap.size, 0, none⟩ = some (.int .i64 N) ∧ w'.cell? ⟨w.heap.size, 1, none⟩ = some (.slice oe es.length c) ∧ w'.cell? ⟨w.heap.size, 2, none⟩ = some (.slice (some ⟨b, off, none⟩) ar.length ca) ∧ w'.cell? ⟨b, off + k, none⟩ = some (.slice ol x.length cl)) (first | exact ⟨d0, d1, d2, c0⟩) (first
              | (go_at_call 75; refine (hcall _ hbw.drew (hsl.drew1 intR_ok)).mono ?_; rintro e w5 ⟨rfl, h5⟩; rw [hle]; have d0 := (h5.cell (World.block_lt_of_cell? _ _ d0)).trans d0; have d1 := (h5.cell (World.block_lt_of_cell? _ _ d1)).trans d1; have d2 := (h5.cell (World.block_lt_of_cell? _ _ d2)).trans d2; have c0 := (h5.cell (World.block_lt_of_cell? _ _ c0)).trans c0; have hxr := box_then hxr.drew (by simp) h5))
            all_goals
              clear hle
              go_wp2_with fail
              go_roundw
              case rel => exact ⟨k + 1, by omega, by go_num, HS3, hxr⟩
              case measure => simp [intOf]; omega
          · have HS3 : Hid (chkE (N : Int) es f ar = listE x own) := by show _ = _; rw [HS2.out, if_neg hle]
            have hq2 : (listE x own != 0) = true := by simpa using hle
            have HLE := hide hle
            clear hle
            go_wp2_with fail
            go_region_held3 (fun w' => w'.cell? ⟨w.heap.size, 0, none⟩ = some (.int .i64 N) ∧ w'.cell? ⟨w.heap.size, 1, none⟩ = some (.slice oe es.length c) ∧ w'.cell? ⟨w.heap.size, 2, none⟩ = some (.slice (some ⟨b, off, none⟩) ar.length ca) ∧ w'.cell? ⟨b, off + k, none⟩ = some (.slice ol x.length cl)) (first | exact ⟨d0, d1, d2, c0⟩) (first
              | (go_at_call 75; refine (hcall _ hbw.drew (hsl.drew1 intR_ok)).mono ?_; rintro e w5 ⟨rfl, h5⟩; have d0 := (h5.cell (World.block_lt_of_cell? _ _ d0)).trans d0; have d1 := (h5.cell (World.block_lt_of_cell? _ _ d1)).trans d1; have d2 := (h5.cell (World.block_lt_of_cell? _ _ d2)).trans d2; have c0 := (h5.cell (World.block_lt_of_cell? _ _ c0)).trans c0; have hxr := box_then hxr.drew (by simp) h5))
            all_goals
              go_wp2_with fail
              go_ret
              exact ⟨ret_int HS3.out.symm, below_box hxr⟩
        · have HS3 : Hid (chkE (N : Int) es f ar = 0) := by
            show _ = _
            rw [HS.out, List.drop_of_length_le (by have := HNA.out; omega)]
            rfl
          go_wp2_with fail
          go_ret
          exact ⟨ret_int HS3.out.symm, hbw⟩
    · have HC2 : Hid (chkE n es f ar = 8) := by show _ = _; rw [HC.out, if_neg hn]
      have hq : ((ar.length : Int) != n) = true := by simpa using hn
      have HX := hide (below_box hx2)
      clear hn
      go_wp2_with fail
      go_ret
      exact ⟨ret_int HC2.out.symm, HX.out⟩
  · have HC : Hid (chkE n es f ar = jErr n es f) := if_neg hJ
    have hq : (jErr n es f != 0) = true := by simpa using hJ
    have HX := hide (below_box hx2)
    have HJ := hide hJ
    clear hJ
    go_wp2_with fail
    go_ret
    exact ⟨ret_int HC.out.symm, HX.out⟩

end Go.Proofs.Ytopldbnlehjlpaa

set_option linter.unusedVariables false
set_option linter.unusedSimpArgs false
set_option linter.unnecessarySimpa false
namespace Go.Proofs.Ytopldbnlehjlpaa
open Go.RowKit

def badR (q : Int) (v : Nat) (k : Int) (d : Nat) : Prop := k < 0 ∨ ((v : Int) = q ∧ k ≠ 0) ∨ ((v : Int) ≠ q ∧ (d : Int) ≤ k)
instance (q : Int) (v : Nat) (k : Int) (d : Nat) : Decidable (badR q v k d) := by unfold badR; infer_instance
/-- The error of the rotors, from the vertex v on. -/
def rotE (q : Int) : Nat → List (List Int) → List Int → Int
  | v, a :: ar, k :: r => if badR q v k a.length then 2 else rotE q (v + 1) ar r
  | _, _, _ => 0
theorem rotE_cons (q : Int) (v : Nat) (a : List Int) (ar : List (List Int)) (k : Int) (r : List Int) : rotE q v (a :: ar) (k :: r) = if badR q v k a.length then 2 else rotE q (v + 1) ar r := rfl
theorem rotE_nil (q : Int) (v : Nat) (r : List Int) : rotE q v [] r = 0 := by cases r <;> rfl
/-- The error of a rotor configuration. -/
def rtE (n : Int) (es : List Edg) (f : List Nat) (ar : List (List Int)) (q : Int) (rot : List Int) : Int :=
  if chkE n es f ar = 0 then (if vtxB n q = true then (if (rot.length : Int) = n then rotE q 0 ar rot else 8) else 2) else chkE n es f ar
theorem chkE_zero {n : Int} {es : List Edg} {f : List Nat} {ar : List (List Int)} (h : chkE n es f ar = 0) : jErr n es f = 0 ∧ (ar.length : Int) = n ∧ rowsE ar (halfs n es) = 0 := by
  unfold chkE at h
  split at h
  · rename_i h1
    split at h
    · rename_i h2; exact ⟨h1, h2, h⟩
    · cases h
  · rename_i h1; exact absurd h h1
theorem rtE_zero {n : Int} {es : List Edg} {f : List Nat} {ar : List (List Int)} {q : Int} {rot : List Int} (h : rtE n es f ar q rot = 0) :
    chkE n es f ar = 0 ∧ (0 ≤ q ∧ q < n) ∧ (rot.length : Int) = n ∧ rotE q 0 ar rot = 0 := by
  unfold rtE at h
  split at h
  · rename_i h1
    split at h
    · rename_i h2
      split at h
      · rename_i h3; exact ⟨h1, vtxB_iff.1 h2, h3, h⟩
      · cases h
    · cases h
  · rename_i h1; exact absurd h h1

set_option maxRecDepth 100000 in
set_option maxHeartbeats 8000000 in
theorem rotcheck_any (n : Int) (es : List Edg) (oe : Option Addr) (c : Nat) (ar : List (List Int)) (oa : Option Addr) (ca : Nat) (F G : Foot) (w : World) (hs : SliceR edgR 3 F w oe es) (hc : es.length ≤ c) (hc2 : es.length ≤ 1000)
    (ha : SliceR (slcR intR 1) 1 G w oa ar) (hac : ar.length ≤ ca) (hac2 : ar.length ≤ 9223372036854775807) (f : List Nat) (hU : Hid (gErr n es = 0 → Uf f (eL es)))
    (q : Int) (rot : List Int) (ot : Option Addr) (ct : Nat) (H : Foot) (hr : SliceR intR 1 H w ot rot) (hrc : rot.length ≤ ct) (hrl : rot.length ≤ 9223372036854775807) :
    Calls Try.prog 17 #[.agg #[.int .i64 n, .slice oe es.length c, .slice oa ar.length ca], .int .i64 q, .slice ot rot.length ct] w (ErrPost w (rtE n es f ar q rot)) := by
  go_enter Try.func17, Try.ntmps17
  go_wp2_with fail
  have hb0 := box_refl w (.cells #[.int .i64 n, .slice oe es.length c, .slice oa ar.length ca] 27)
  refine (rbcheck_any n es oe c ar oa ca F G _ (hs.below edgR_ok (below_box hb0)) hc hc2 (ha.below (slcR_ok intR_ok (by decide)) (below_box hb0)) hac hac2 f hU).mono ?_
  rintro e w2 ⟨rfl, hb2⟩
  have hx2 := hb2.mono (B' := w.heap.size + 1) (by simp)
  have d0 := box_cell hx2 0
  have d1 := box_cell hx2 1
  simp at d0 d1
  have HX := hide (below_box hx2)
  have HX2 := hide hx2
  clear hb2 hb0 hx2
  by_cases hJ : chkE n es f ar = 0
  · have HC : Hid (rtE n es f ar q rot = if vtxB n q = true then (if (rot.length : Int) = n then rotE q 0 ar rot else 8) else 2) := if_pos hJ
    have HN := hide (chkE_zero hJ).2.1
    rw [hJ]
    clear hJ
    by_cases hV : 0 ≤ q ∧ q < n
    · have HV := hide (vtxB_iff.2 hV)
      have q1 : decide (q < 0) = false := by simp; omega
      have q2 : decide (n ≤ q) = false := by simp; omega
      have q3 : decide (q < n) = true := by simp; omega
      have hqn : 0 ≤ q := hV.1
      clear hV
      by_cases hlen : (rot.length : Int) = n
      · have HC2 : Hid (rtE n es f ar q rot = rotE q 0 ar rot) := by show _ = _; rw [HC.out, if_pos HV.out, if_pos hlen]
        have q4 : ((rot.length : Int) != n) = false := by simp [hlen]
        have hra : Hid (ar.length = rot.length) := by have h1 := HN.out; show _ = _; omega
        have HLen := hide hlen
        clear hlen
        go_wp2_with fail
        go_loopw [32] (fun iv wr => ∃ k : Nat, k ≤ rot.length ∧ iv = .int .i64 k ∧ Hid (rtE n es f ar q rot = rotE q k (ar.drop k) (rot.drop k)) ∧ Below (w.heap.size + 1) (w.alloc (.cells #[.int .i64 n, .slice oe es.length c, .slice oa ar.length ca] 27)) wr) (fun iv _ => rot.length - (intOf iv).toNat)
        case atStart => exact ⟨0, by omega, rfl, HC2, HX2.out⟩
        case round =>
          clear d0 d1
          obtain ⟨k, hk, rfl, HS, hxr⟩ := hrel
          have hbw := below_box hxr
          have d0 := box_cell hxr 0
          have d1 := box_cell hxr 1
          simp at d0 d1
          by_cases hlt : k < rot.length
          · obtain ⟨x, hd, _, _, b, off, hot, _, c0⟩ := (hr.below intR_ok hbw).int_at hlt
            obtain ⟨a, hda, _, b2, off2, ol, cl, hoa, _, c1, hxl, hxl2, _⟩ := (ha.below (slcR_ok intR_ok (by decide)) hbw).slc_at (i := k) (by rw [hra.out]; exact hlt)
            subst hot hoa
            have d2 := box_cell hxr 2
            simp at d2
            have hka : k < ar.length := by rw [hra.out]; exact hlt
            have hkq1 : (k : Int) < ar.length := by omega
            have HS2 : Hid (rtE n es f ar q rot = if badR q k x a.length then 2 else rotE q (k + 1) (ar.drop (k + 1)) (rot.drop (k + 1))) := by
              show _ = _
              rw [HS.out, hd, hda, rotE_cons]
            clear hd hda
            have HB := hide hbw
            clear hbw
            by_cases h0 : x < 0
            · have p0 : decide (x < 0) = true := by simp [h0]
              have HR : Hid (rtE n es f ar q rot = 2) := by show _ = _; rw [HS2.out, if_pos (.inl h0)]
              clear h0
              go_wp2_with fail
              go_ret
              exact ⟨ret_int HR.out.symm, HB.out⟩
            · have p0 : decide (x < 0) = false := by simp; omega
              by_cases hv : (k : Int) = q
              · have p1 : ((k : Int) == q) = true := by simp [hv]
                have p2 : ((k : Int) != q) = false := by simp [hv]
                by_cases hx : x = 0
                · have p3 : (x != 0) = false := by simp [hx]
                  have HR : Hid (rtE n es f ar q rot = rotE q (k + 1) (ar.drop (k + 1)) (rot.drop (k + 1))) := by
                    show _ = _
                    rw [HS2.out, if_neg (by rintro (h | ⟨_, h⟩ | ⟨h, _⟩) <;> first | exact h0 h | exact h hx | exact h hv)]
                  have HXX := hide (And.intro h0 (And.intro hv hx))
                  clear h0 hv hx
                  go_wp2_with fail
                  go_roundw
                  case rel => exact ⟨k + 1, by omega, by go_num, HR, hxr⟩
                  case measure => simp [intOf]; omega
                · have p3 : (x != 0) = true := by simp [hx]
                  have HR : Hid (rtE n es f ar q rot = 2) := by show _ = _; rw [HS2.out, if_pos (.inr (.inl ⟨hv, hx⟩))]
                  have HXX := hide (And.intro h0 (And.intro hv hx))
                  clear h0 hv hx
                  go_wp2_with fail
                  go_ret
                  exact ⟨ret_int HR.out.symm, HB.out⟩
              · have p1 : ((k : Int) == q) = false := by simp [hv]
                have p2 : ((k : Int) != q) = true := by simp [hv]
                by_cases hx : (a.length : Int) ≤ x
                · have p3 : decide ((a.length : Int) ≤ x) = true := by simp [hx]
                  have p4 : decide (x < (a.length : Int)) = false := by simp; omega
                  have HR : Hid (rtE n es f ar q rot = 2) := by show _ = _; rw [HS2.out, if_pos (.inr (.inr ⟨hv, hx⟩))]
                  have HXX := hide (And.intro h0 (And.intro hv hx))
                  clear h0 hv hx
                  go_wp2_with fail
                  go_ret
                  exact ⟨ret_int HR.out.symm, HB.out⟩
                · have p3 : decide ((a.length : Int) ≤ x) = false := by simp; omega
                  have p4 : decide (x < (a.length : Int)) = true := by simp; omega
                  have HR : Hid (rtE n es f ar q rot = rotE q (k + 1) (ar.drop (k + 1)) (rot.drop (k + 1))) := by
                    show _ = _
                    rw [HS2.out, if_neg (by rintro (h | ⟨h, _⟩ | ⟨_, h⟩) <;> first | exact h0 h | exact hv h | exact hx h)]
                  have HXX := hide (And.intro h0 (And.intro hv hx))
                  clear h0 hv hx
                  go_wp2_with fail
                  go_roundw
                  case rel => exact ⟨k + 1, by omega, by go_num, HR, hxr⟩
                  case measure => simp [intOf]; omega
          · have HR : Hid (rtE n es f ar q rot = 0) := by
              show _ = _
              rw [HS.out, List.drop_of_length_le (by rw [hra.out]; omega), rotE_nil]
            have HB := hide hbw
            clear hbw
            go_wp2_with fail
            go_ret
            exact ⟨ret_int HR.out.symm, HB.out⟩
      · have HR : Hid (rtE n es f ar q rot = 8) := by show _ = _; rw [HC.out, if_pos HV.out, if_neg hlen]
        have q4 : ((rot.length : Int) != n) = true := by simp [hlen]
        have HLen := hide hlen
        clear hlen
        go_wp2_with fail
        go_ret
        exact ⟨ret_int HR.out.symm, HX.out⟩
    · have HR : Hid (rtE n es f ar q rot = 2) := by show _ = _; rw [HC.out, if_neg (fun h => hV (vtxB_iff.1 h))]
      by_cases hq : q < 0
      · have q1 : decide (q < 0) = true := by simp [hq]
        clear hV hq
        go_wp2_with fail
        go_ret
        exact ⟨ret_int HR.out.symm, HX.out⟩
      · have q1 : decide (q < 0) = false := by simp; omega
        have q2 : decide (n ≤ q) = true := by simp; omega
        have q3 : decide (q < n) = false := by simp; omega
        have HV := hide (And.intro hV hq)
        clear hV hq
        go_wp2_with fail
        go_ret
        exact ⟨ret_int HR.out.symm, HX.out⟩
  · have HR : Hid (rtE n es f ar q rot = chkE n es f ar) := if_neg hJ
    have hq : (chkE n es f ar != 0) = true := by simpa using hJ
    have HJ := hide hJ
    clear hJ
    go_wp2_with fail
    go_ret
    exact ⟨ret_int HR.out.symm, HX.out⟩

set_option maxRecDepth 100000 in
set_option maxHeartbeats 8000000 in
theorem r45check_any (n : Int) (es : List Edg) (oe : Option Addr) (c : Nat) (ar : List (List Int)) (oa : Option Addr) (ca : Nat) (F G : Foot) (w : World) (hs : SliceR edgR 3 F w oe es) (hc : es.length ≤ c) (hc2 : es.length ≤ 1000)
    (ha : SliceR (slcR intR 1) 1 G w oa ar) (hac : ar.length ≤ ca) (hac2 : ar.length ≤ 9223372036854775807) (f : List Nat) (hU : Hid (gErr n es = 0 → Uf f (eL es)))
    (q : Int) (rot : List Int) (ot : Option Addr) (ct : Nat) (H : Foot) (hr : SliceR intR 1 H w ot rot) (hrc : rot.length ≤ ct) (hrl : rot.length ≤ 9223372036854775807) :
    Calls Try.prog 18 #[.agg #[.int .i64 n, .slice oe es.length c, .slice oa ar.length ca], .int .i64 q, .slice ot rot.length ct] w (ErrPost w (rtE n es f ar q rot)) := by
  go_enter Try.func18, Try.ntmps18
  go_wp2_with fail
  have hb0 := box_refl w (.cells #[.int .i64 n, .slice oe es.length c, .slice oa ar.length ca] 27)
  refine (r44check_any n es oe c ar oa ca F G _ (hs.below edgR_ok (below_box hb0)) hc hc2 (ha.below (slcR_ok intR_ok (by decide)) (below_box hb0)) hac hac2 f hU).mono ?_
  rintro e w2 ⟨rfl, hb2⟩
  have hx2 := hb2.mono (B' := w.heap.size + 1) (by simp)
  have d0 := box_cell hx2 0
  have d1 := box_cell hx2 1
  simp at d0 d1
  have HX := hide (below_box hx2)
  have HX2 := hide hx2
  clear hb2 hb0 hx2
  by_cases hJ : chkE n es f ar = 0
  · have HC : Hid (rtE n es f ar q rot = if vtxB n q = true then (if (rot.length : Int) = n then rotE q 0 ar rot else 8) else 2) := if_pos hJ
    have HN := hide (chkE_zero hJ).2.1
    rw [hJ]
    clear hJ
    by_cases hV : 0 ≤ q ∧ q < n
    · have HV := hide (vtxB_iff.2 hV)
      have q1 : decide (q < 0) = false := by simp; omega
      have q2 : decide (n ≤ q) = false := by simp; omega
      have q3 : decide (q < n) = true := by simp; omega
      have hqn : 0 ≤ q := hV.1
      clear hV
      by_cases hlen : (rot.length : Int) = n
      · have HC2 : Hid (rtE n es f ar q rot = rotE q 0 ar rot) := by show _ = _; rw [HC.out, if_pos HV.out, if_pos hlen]
        have q4 : ((rot.length : Int) != n) = false := by simp [hlen]
        have hra : Hid (ar.length = rot.length) := by have h1 := HN.out; show _ = _; omega
        have HLen := hide hlen
        clear hlen
        go_wp2_with fail
        refine (rvertex_any n q oe es.length c _).mono ?_
        rintro e w3 ⟨rfl, hb3⟩
        rw [HV.out]
        have d0 := (hb3.cell (World.block_lt_of_cell? _ _ d0)).trans d0
        have d1 := (hb3.cell (World.block_lt_of_cell? _ _ d1)).trans d1
        have HX2 := hide (box_then HX2.out (by simp) hb3)
        clear hb3
        go_wp2_with fail
        go_loopw [8] (fun iv wr => ∃ k : Nat, k ≤ rot.length ∧ iv = .int .i64 k ∧ Hid (rtE n es f ar q rot = rotE q k (ar.drop k) (rot.drop k)) ∧ Below (w.heap.size + 1) (w.alloc (.cells #[.int .i64 n, .slice oe es.length c, .slice oa ar.length ca] 27)) wr) (fun iv _ => rot.length - (intOf iv).toNat)
        case atStart => exact ⟨0, by omega, rfl, HC2, HX2.out⟩
        case round =>
          clear d0 d1
          obtain ⟨k, hk, rfl, HS, hxr⟩ := hrel
          have hbw := below_box hxr
          have d0 := box_cell hxr 0
          have d1 := box_cell hxr 1
          simp at d0 d1
          by_cases hlt : k < rot.length
          · obtain ⟨x, hd, _, _, b, off, hot, _, c0⟩ := (hr.below intR_ok hbw).int_at hlt
            obtain ⟨a, hda, _, b2, off2, ol, cl, hoa, _, c1, hxl, hxl2, _⟩ := (ha.below (slcR_ok intR_ok (by decide)) hbw).slc_at (i := k) (by rw [hra.out]; exact hlt)
            subst hot hoa
            have d2 := box_cell hxr 2
            simp at d2
            have hka : k < ar.length := by rw [hra.out]; exact hlt
            have hkq1 : (k : Int) < ar.length := by omega
            have HS2 : Hid (rtE n es f ar q rot = if badR q k x a.length then 2 else rotE q (k + 1) (ar.drop (k + 1)) (rot.drop (k + 1))) := by
              show _ = _
              rw [HS.out, hd, hda, rotE_cons]
            clear hd hda
            have HB := hide hbw
            clear hbw
            by_cases h0 : x < 0
            · have p0 : decide (x < 0) = true := by simp [h0]
              have HR : Hid (rtE n es f ar q rot = 2) := by show _ = _; rw [HS2.out, if_pos (.inl h0)]
              clear h0
              go_wp2_with fail
              go_quiet (fail)
              go_wp2_with fail
              go_ret
              exact ⟨ret_int HR.out.symm, below_drewN HB.out _⟩
            · have p0 : decide (x < 0) = false := by simp; omega
              by_cases hv : (k : Int) = q
              · have p1 : ((k : Int) == q) = true := by simp [hv]
                have p2 : ((k : Int) != q) = false := by simp [hv]
                by_cases hx : x = 0
                · have p3 : (x != 0) = false := by simp [hx]
                  have HR : Hid (rtE n es f ar q rot = rotE q (k + 1) (ar.drop (k + 1)) (rot.drop (k + 1))) := by
                    show _ = _
                    rw [HS2.out, if_neg (by rintro (h | ⟨_, h⟩ | ⟨h, _⟩) <;> first | exact h0 h | exact h hx | exact h hv)]
                  have HXX := hide (And.intro h0 (And.intro hv hx))
                  clear h0 hv hx
                  go_wp2_with fail
                  go_quiet (fail)
                  go_wp2_with fail
                  go_roundw
                  case rel => exact ⟨k + 1, by omega, by go_num, HR, below_drewN hxr _⟩
                  case measure => simp [intOf]; omega
                · have p3 : (x != 0) = true := by simp [hx]
                  have HR : Hid (rtE n es f ar q rot = 2) := by show _ = _; rw [HS2.out, if_pos (.inr (.inl ⟨hv, hx⟩))]
                  have HXX := hide (And.intro h0 (And.intro hv hx))
                  clear h0 hv hx
                  go_wp2_with fail
                  go_quiet (fail)
                  go_wp2_with fail
                  go_ret
                  exact ⟨ret_int HR.out.symm, below_drewN HB.out _⟩
              · have p1 : ((k : Int) == q) = false := by simp [hv]
                have p2 : ((k : Int) != q) = true := by simp [hv]
                by_cases hx : (a.length : Int) ≤ x
                · have p3 : decide ((a.length : Int) ≤ x) = true := by simp [hx]
                  have p4 : decide (x < (a.length : Int)) = false := by simp; omega
                  have HR : Hid (rtE n es f ar q rot = 2) := by show _ = _; rw [HS2.out, if_pos (.inr (.inr ⟨hv, hx⟩))]
                  have HXX := hide (And.intro h0 (And.intro hv hx))
                  clear h0 hv hx
                  go_wp2_with fail
                  go_quiet (fail)
                  go_wp2_with fail
                  go_ret
                  exact ⟨ret_int HR.out.symm, below_drewN HB.out _⟩
                · have p3 : decide ((a.length : Int) ≤ x) = false := by simp; omega
                  have p4 : decide (x < (a.length : Int)) = true := by simp; omega
                  have HR : Hid (rtE n es f ar q rot = rotE q (k + 1) (ar.drop (k + 1)) (rot.drop (k + 1))) := by
                    show _ = _
                    rw [HS2.out, if_neg (by rintro (h | ⟨h, _⟩ | ⟨_, h⟩) <;> first | exact h0 h | exact hv h | exact hx h)]
                  have HXX := hide (And.intro h0 (And.intro hv hx))
                  clear h0 hv hx
                  go_wp2_with fail
                  go_quiet (fail)
                  go_wp2_with fail
                  go_roundw
                  case rel => exact ⟨k + 1, by omega, by go_num, HR, below_drewN hxr _⟩
                  case measure => simp [intOf]; omega
          · have HR : Hid (rtE n es f ar q rot = 0) := by
              show _ = _
              rw [HS.out, List.drop_of_length_le (by rw [hra.out]; omega), rotE_nil]
            have HB := hide hbw
            clear hbw
            go_wp2_with fail
            go_ret
            exact ⟨ret_int HR.out.symm, HB.out⟩
      · have HR : Hid (rtE n es f ar q rot = 8) := by show _ = _; rw [HC.out, if_pos HV.out, if_neg hlen]
        have q4 : ((rot.length : Int) != n) = true := by simp [hlen]
        have HLen := hide hlen
        clear hlen
        go_wp2_with fail
        refine (rvertex_any n q oe es.length c _).mono ?_
        rintro e w3 ⟨rfl, hb3⟩
        rw [HV.out]
        have d0 := (hb3.cell (World.block_lt_of_cell? _ _ d0)).trans d0
        have HX := hide (below_then HX.out hb3)
        clear hb3
        go_wp2_with fail
        go_ret
        exact ⟨ret_int HR.out.symm, HX.out⟩
    · have HR : Hid (rtE n es f ar q rot = 2) := by show _ = _; rw [HC.out, if_neg (fun h => hV (vtxB_iff.1 h))]
      have HV : Hid (vtxB n q = false) := by
        show _ = _
        cases h : vtxB n q with
        | false => rfl
        | true => exact absurd (vtxB_iff.1 h) hV
      clear hV
      go_wp2_with fail
      refine (rvertex_any n q oe es.length c _).mono ?_
      rintro e w3 ⟨rfl, hb3⟩
      rw [HV.out]
      have HX := hide (below_then HX.out hb3)
      clear hb3
      go_wp2_with fail
      go_ret
      exact ⟨ret_int HR.out.symm, HX.out⟩
  · have HR : Hid (rtE n es f ar q rot = chkE n es f ar) := if_neg hJ
    have hq : (chkE n es f ar != 0) = true := by simpa using hJ
    have HJ := hide hJ
    clear hJ
    go_wp2_with fail
    go_ret
    exact ⟨ret_int HR.out.symm, HX.out⟩

end Go.Proofs.Ytopldbnlehjlpaa

set_option linter.unusedVariables false
set_option linter.unusedSimpArgs false
namespace Go.Proofs.Ytopldbnlehjlpaa
open Go.RowKit

theorem iInfo : (Try.prog.info? 3).map (fun i => (i.zero, i.size, i.bytes)) = some (some (.int .i64 0), 1, 8) := by kernel_rfl

/-- An empty slice that the call has just made owns nothing. -/
theorem OwnS.made {α : Type} (R : Rep α) (sz : Nat) (e : TypeId) (F : Foot) (w : World) : OwnS R sz w.heap.size e F (w.alloc (.cells #[] e)) (.slice (some ⟨w.heap.size, 0, none⟩) 0 0) [] :=
  ⟨[], World.ownsRow_made w #[] 0 (Nat.le_refl _) (by unfold maxLen; omega) (by simp), by simp, by simp⟩

set_option maxHeartbeats 400000 in
theorem cloneI_any (l : List Int) (oa : Option Addr) (c : Nat) (F : Foot) (w : World) (hs : SliceR intR 1 F w oa l) (hc : l.length ≤ c) (hc2 : l.length ≤ 1000000000000) :
    Calls Try.prog 77 #[.slice oa l.length c] w fun e w' => ∃ v, e = .returned v ∧ OwnS intR 1 w.heap.size 3 Non w' v l ∧ Below w.heap.size w w' := by
  cases oa with
  | none =>
    have hl : l = [] := by
      cases l with
      | nil => rfl
      | cons x r => obtain ⟨b, off, cs, h, _⟩ := hs 0 x rfl; cases h
    subst hl
    have hq : ∀ w : World, (binOp .eql 28 (.slice none 0 c) (.slice none 0 0)).run Try.prog w = .ok (.bool true) w := fun w => Lib.run_eql_slice_nil w _ 3 none 0 c 0 0 Try.underlying28
    go_enter Try.func77, Try.ntmps77
    go_wp2_with fail
    go_ret
    exact ⟨_, rfl, OwnS.nil _ _ _ _ _ _, Below.refl _ _⟩
  | some ad =>
    have hq : ∀ w : World, (binOp .eql 28 (.slice (some ad) l.length c) (.slice none 0 0)).run Try.prog w = .ok (.bool false) w := fun w => Lib.run_eql_slice_nil w _ 3 (some ad) l.length c 0 0 Try.underlying28
    go_enter Try.func77, Try.ntmps77
    go_wp2_with (at_builtin; refine wpList_append_rep rfl (.tmp 5) (.tmp 6) 28 rfl w.heap.size 3 _ 1 8 Try.underlying28 iInfo rfl (by decide) intR_ok Non F (.slice (some ⟨w.heap.size, 0, none⟩) 0 0) [] rfl (OwnS.made _ _ _ _ _) (some ad) c l rfl (hs.below intR_ok (bnew (Below.refl _ _) _)) (fun _ _ h => h) (fun _ h => h.elim) (by simp; omega) (by simp; omega) (by simp) ?_; intro v' w1 ho hb1 hg)
    go_ret
    exact ⟨_, rfl, by simpa using ho, (bnew (Below.refl _ _) _).trans hb1⟩

set_option maxHeartbeats 400000 in
theorem cloneD_any (l : List Int) (oa : Option Addr) (c : Nat) (F : Foot) (w : World) (hs : SliceR intR 1 F w oa l) (hc : l.length ≤ c) (hc2 : l.length ≤ 1000000000000) :
    Calls Try.prog 80 #[.slice oa l.length c] w fun e w' => ∃ v, e = .returned v ∧ OwnS intR 1 w.heap.size 3 Non w' v l ∧ Below w.heap.size w w' := by
  cases oa with
  | none =>
    have hl : l = [] := by
      cases l with
      | nil => rfl
      | cons x r => obtain ⟨b, off, cs, h, _⟩ := hs 0 x rfl; cases h
    subst hl
    have hq : ∀ w : World, (binOp .eql 52 (.slice none 0 c) (.slice none 0 0)).run Try.prog w = .ok (.bool true) w := fun w => Lib.run_eql_slice_nil w _ 3 none 0 c 0 0 Try.underlying52
    go_enter Try.func80, Try.ntmps80
    go_wp2_with fail
    go_ret
    exact ⟨_, rfl, OwnS.nil _ _ _ _ _ _, Below.refl _ _⟩
  | some ad =>
    have hq : ∀ w : World, (binOp .eql 52 (.slice (some ad) l.length c) (.slice none 0 0)).run Try.prog w = .ok (.bool false) w := fun w => Lib.run_eql_slice_nil w _ 3 (some ad) l.length c 0 0 Try.underlying52
    go_enter Try.func80, Try.ntmps80
    go_wp2_with (at_builtin; refine wpList_append_rep rfl (.tmp 5) (.tmp 6) 52 rfl w.heap.size 3 _ 1 8 Try.underlying52 iInfo rfl (by decide) intR_ok Non F (.slice (some ⟨w.heap.size, 0, none⟩) 0 0) [] rfl (OwnS.made _ _ _ _ _) (some ad) c l rfl (hs.below intR_ok (bnew (Below.refl _ _) _)) (fun _ _ h => h) (fun _ h => h.elim) (by simp; omega) (by simp; omega) (by simp) ?_; intro v' w1 ho hb1 hg)
    go_ret
    exact ⟨_, rfl, by simpa using ho, (bnew (Below.refl _ _) _).trans hb1⟩

end Go.Proofs.Ytopldbnlehjlpaa

set_option linter.unusedVariables false
set_option linter.unusedSimpArgs false
set_option linter.unnecessarySimpa false
namespace Go.Proofs.Ytopldbnlehjlpaa
open Go.RowKit

/-- The pointer p leads to a board: its rotors lie in the row rg. -/
structure Brd (B : Nat) (w : World) (p rg cap : Nat) (tv : Value) (q : Int) (av : Value) (tl rot : List Int) (rest : List Value) : Prop where
  pB : B ≤ p
  box : Box w p [.int .i64 q, av, tv, .slice (some ⟨rg, 0, none⟩) rot.length cap] 85
  gB : B ≤ rg
  row : Row1 (Value.int .i64) w rg 3 rot rest
  len : cap = rot.length + rest.length
  max : cap ≤ maxLen
  tos : OwnS intR 1 B 3 Non w tv tl
  off : tv.ownBlock ≠ some rg

section
variable {B : Nat} {w w' : World} {p rg cap : Nat} {tv : Value} {q : Int} {av : Value} {tl rot : List Int} {rest : List Value}
theorem Brd.ne (h : Brd B w p rg cap tv q av tl rot rest) : p ≠ rg := by
  intro e
  have h1 := h.box
  have h2 := h.row
  unfold Box at h1
  unfold Row1 at h2
  rw [← e, h1] at h2
  injection h2 with h2
  injection h2 with _ h2
  exact absurd h2 (by decide)
theorem Brd.tne (h : Brd B w p rg cap tv q av tl rot rest) : tv.ownBlock ≠ some p := by
  obtain ⟨cells, ho, _⟩ := h.tos
  rcases ho.2 with ⟨rfl, _⟩ | ⟨g, c, cur, rfl, _, hg, _⟩
  · simp [Value.ownBlock]
  · intro e
    simp only [Value.ownBlock, Option.some.injEq] at e
    subst e
    have h1 := h.box
    unfold Box at h1
    rw [h1] at hg
    injection hg with hg
    injection hg with _ hg
    exact absurd hg (by decide)
/-- What a board keeps while its blocks lie. -/
theorem Brd.keep (h : Brd B w p rg cap tv q av tl rot rest) (hb : ∀ k, B ≤ k → k < w.heap.size → k = p ∨ k = rg ∨ tv.ownBlock = some k → w'.heap[k]? = w.heap[k]?) : Brd B w' p rg cap tv q av tl rot rest where
  pB := h.pB
  box := h.box.keep (hb p h.pB h.box.lt (.inl rfl))
  gB := h.gB
  row := h.row.keep (hb rg h.gB h.row.lt (.inr (.inl rfl)))
  len := h.len
  max := h.max
  tos := h.tos.keep intR_ok (fun g hg => hb g (h.tos.block g hg).1 (h.tos.block g hg).2 (.inr (.inr hg))) (fun _ hk _ => hk.elim)
  off := h.off
theorem Brd.below (h : Brd B w p rg cap tv q av tl rot rest) (hb : Below w.heap.size w w') : Brd B w' p rg cap tv q av tl rot rest := h.keep fun k _ hk _ => hb.block k hk
theorem Brd.rebase {B' : Nat} (h : Brd B w p rg cap tv q av tl rot rest) (hb : B' ≤ B) : Brd B' w p rg cap tv q av tl rot rest := ⟨Nat.le_trans hb h.pB, h.box, Nat.le_trans hb h.gB, h.row, h.len, h.max, h.tos.rebase hb, h.off⟩
/-- A rotor is turned. -/
theorem Brd.put (h : Brd B w p rg cap tv q av tl rot rest) {v : Nat} (hv : v < rot.length) (y : Int) : Brd B (w.setCell ⟨rg, v, none⟩ (.int .i64 y)) p rg cap tv q av tl (rot.set v y) rest where
  pB := h.pB
  box := by rw [List.length_set]; exact h.box.other h.ne _
  gB := h.gB
  row := h.row.put hv y
  len := by rw [List.length_set]; exact h.len
  max := h.max
  tos := h.tos.keep intR_ok (fun g hg => Below.heap_setCell w _ _ g (fun e => h.off (by rw [hg]; exact congrArg some e))) (fun _ hk _ => hk.elim)
  off := h.off
theorem Brd.draws (h : Brd B w p rg cap tv q av tl rot rest) (n : Nat) : Brd B (w.drewN n) p rg cap tv q av tl rot rest := h.keep fun _ _ _ _ => rfl
end

theorem grown_drewN {w w' : World} {o : Option Nat} (h : w.grownBy w' o) (n : Nat) : w.grownBy (w'.drewN n) o := ⟨h.os, h.tape, h.output, h.size, h.block⟩

theorem grown_cell (W : World) (b i : Nat) (v : Value) : W.grownBy (W.setCell ⟨b, i, none⟩ v) (some b) :=
  ⟨rfl, rfl, rfl, (KeepsWalks.setCell W _ v).size, fun k _ hk => Below.heap_setCell _ _ _ k (fun e => hk (by rw [e]))⟩

def StepPost (B : Nat) (w : World) (p rg cap : Nat) (tv : Value) (q : Int) (av : Value) (tl rot : List Int) (rest : List Value) (v : Nat) (y t : Int) (e : Ending) (w' : World) : Prop :=
  e = .returned (.int .i64 t) ∧ Brd B w' p rg cap tv q av tl (rot.set v y) rest ∧ w.grownBy w' (some rg)

set_option maxRecDepth 100000 in
set_option maxHeartbeats 4000000 in
theorem step_any (B : Nat) (w : World) (p rg cap : Nat) (tv : Value) (q : Int) (tl rot : List Int) (rest : List Value) (oa : Option Addr) (ca : Nat) (ar : List (List Int))
    (hD : Brd B w p rg cap tv q (.slice oa ar.length ca) tl rot rest) (ha : SliceR (slcR intR 1) 1 (Lt B) w oa ar) (v : Nat) (hvr : v < rot.length) (hva : v < ar.length) (l : List Int) (hl : ar[v]? = some l) (k : Nat) (hk : rot[v]? = some (k : Int)) (hkl : k < l.length)
    (hll : l.length ≤ 1000000) (h : Nat) (hh : l[(k + 1) % l.length]? = some (h : Int)) (t : Int) (ht : tl[h]? = some t) :
    Calls Try.prog 43 #[.pointer (some ⟨p, 0, none⟩), .int .i64 v] w (StepPost B w p rg cap tv q (.slice oa ar.length ca) tl rot rest v ((k + 1) % l.length : Nat) t) := by
  obtain ⟨x, _, hx, b, off, ol, cl, hoa, hbB, c0, hxl, _, hsl⟩ := ha.slc_at hva
  rw [hl] at hx
  injection hx with hx
  subst hx
  subst hoa
  obtain ⟨j, hj⟩ : ∃ j, j = (k + 1) % l.length := ⟨_, rfl⟩
  rw [← hj] at hh ⊢
  have hjl : j < l.length := by rw [hj]; exact Nat.mod_lt _ (by omega)
  have hrem : ((k : Int) + 1).tmod (l.length : Int) = (j : Int) := by
    rw [hj, Int.tmod_eq_emod_of_nonneg (by omega)]
    rfl
  have HJ := hide hj
  have HD := hide hD
  obtain ⟨y, _, hy, iy, b2, off2, hol, hb2, e0⟩ := hsl.int_at hjl
  rw [hh] at hy
  injection hy with hy
  subst hy
  subst hol
  obtain ⟨ot, ct, rfl, htc, hst⟩ := hD.tos.slice intR_ok
  have htl : h < tl.length := (List.getElem?_eq_some_iff.1 ht).1
  obtain ⟨z, _, hz, iz, b3, off3, hot, _, t0⟩ := hst.int_at htl
  rw [ht] at hz
  injection hz with hz
  subst hz
  subst hot
  have d1 := hD.box.cell 1
  have d2 := hD.box.cell 2
  have d3 := hD.box.cell 3
  simp at d1 d2 d3
  have r0 := hD.row.cell hk
  have f0 := hD.row.free v
  have hrg : rot.length ≤ cap := by have := hD.len; omega
  have hgb : b ≠ rg := by have := hD.gB; have h2 : b < B := hbB; omega
  have hgb2 : b2 ≠ rg := by have := hD.gB; have h2 : b2 < B := hb2; omega
  have hgb3 : b3 ≠ rg := by
    have := hD.off
    simp only [Value.ownBlock] at this
    exact fun e => this (by rw [e])
  have hpg : p ≠ rg := hD.ne
  clear hj hl hk hh ht hD
  go_enter Try.func43, Try.ntmps43
  go_wp2_with fail
  go_region
  all_goals
    go_wp2_with fail
    go_quiet (fail)
    go_wp2_with fail
    go_ret
    exact ⟨rfl, (HD.out.put hvr _).keep (fun _ _ _ _ => rfl), grown_drewN (grown_drewN (grown_cell _ _ _ _) 1) _⟩

end Go.Proofs.Ytopldbnlehjlpaa

set_option linter.unusedVariables false
set_option linter.unusedSimpArgs false
set_option linter.unnecessarySimpa false
namespace Go.Proofs.Ytopldbnlehjlpaa
open Go.RowKit

/-- The vertices to which the half-edges lead. -/
def toL (l : List (Int × Int)) : List Int := l.flatMap fun p => [p.2, p.1]
theorem toL_len (l : List (Int × Int)) : (toL l).length = 2 * l.length := by
  induction l with
  | nil => rfl
  | cons x r ih => simp only [toL, List.flatMap_cons, List.length_append, List.length_cons, List.length_nil] at *; omega
theorem toL_snoc (l : List (Int × Int)) (p : Int × Int) : toL (l ++ [p]) = toL l ++ [p.2, p.1] := by simp [toL]
/-- The half-edge opposite. -/
def oppH (h : Nat) : Nat := if h % 2 = 0 then h + 1 else h - 1
theorem toL_get (l : List (Int × Int)) : ∀ h, h < 2 * l.length → (toL l)[h]? = some (hv l (oppH h)) := by
  induction l with
  | nil => intro h hh; simp at hh
  | cons x r ih =>
    intro h hh
    show ([x.2, x.1] ++ toL r)[h]? = _
    match h with
    | 0 => rfl
    | 1 => rfl
    | h + 2 =>
      have h1 := ih h (by simp at hh; omega)
      show (toL r)[h]? = _
      rw [h1]
      have h2 : oppH (h + 2) = oppH h + 2 := by unfold oppH; split <;> (split <;> omega)
      rw [h2]
      unfold hv
      have h3 : (oppH h + 2) % 2 = oppH h % 2 := by omega
      have h4 : (oppH h + 2) / 2 = oppH h / 2 + 1 := by omega
      rw [h3, h4]
      rfl

def BoardPost (w : World) (n : Int) (es : List Edg) (f : List Nat) (ar : List (List Int)) (oa : Option Addr) (ca : Nat) (q : Int) (rot : List Int) (e : Ending) (w' : World) : Prop :=
  ∃ p rg cap tv rest, e = .returned (.tuple #[.pointer (some ⟨p, 0, none⟩), .int .i64 0]) ∧ Brd w.heap.size w' p rg cap tv q (.slice oa ar.length ca) (toL (endsL es)) rot rest ∧ Below w.heap.size w w'
def BoardErr (w : World) (x : Int) (e : Ending) (w' : World) : Prop := e = .returned (.tuple #[.pointer none, .int .i64 x]) ∧ Below w.heap.size w w'

theorem SliceR.grownX {α : Type} {R : Rep α} {sz : Nat} {F : Foot} {w w' : World} {oa : Option Addr} {xs : List α} {p : Nat} (ok : RepOk R sz) (h : SliceR R sz F w oa xs) (hg : w.grownBy w' (some p)) (hF : ¬ F p) : SliceR R sz F w' oa xs :=
  h.keep ok fun k hk hl => hg.block k hl (fun e => hF (by injection e with e; exact e ▸ hk))
theorem grown_trans {a b c : World} {p : Nat} (h : a.grownBy b (some p)) (h2 : b.grownBy c (some p)) : a.grownBy c (some p) :=
  ⟨h2.os.trans h.os, h2.tape.trans h.tape, h2.output.trans h.output, Nat.le_trans h.size h2.size, fun k hk hn => (h2.block k (Nat.lt_of_lt_of_le hk h.size) hn).trans (h.block k hk hn)⟩
theorem grown_below {B p : Nat} {w0 a b : World} (hb : Below B w0 a) (hg : a.grownBy b (some p)) (hp : B ≤ p) (hB : B ≤ a.heap.size) : Below B w0 b :=
  hb.trans ((Below.refl B a).grown hg hB fun k hk => by injection hk with hk; omega)

set_option maxRecDepth 100000 in
set_option maxHeartbeats 8000000 in
theorem boardOf_any (n : Int) (es : List Edg) (oe : Option Addr) (c : Nat) (ar : List (List Int)) (oa : Option Addr) (ca : Nat) (F G : Foot) (w : World) (hs : SliceR edgR 3 F w oe es) (hc : es.length ≤ c) (hc2 : es.length ≤ 1000)
    (ha : SliceR (slcR intR 1) 1 G w oa ar) (hac : ar.length ≤ ca) (hac2 : ar.length ≤ 9223372036854775807) (f : List Nat) (hU : Hid (gErr n es = 0 → Uf f (eL es)))
    (q : Int) (rot : List Int) (ot : Option Addr) (ct : Nat) (H : Foot) (hr : SliceR intR 1 H w ot rot) (hrc : rot.length ≤ ct) (hrl : rot.length ≤ 9223372036854775807) (hE : Hid (rtE n es f ar q rot = 0)) :
    Calls Try.prog 49 #[.agg #[.int .i64 n, .slice oe es.length c, .slice oa ar.length ca], .int .i64 q, .slice ot rot.length ct] w (BoardPost w n es f ar oa ca q rot) := by
  go_enter Try.func49, Try.ntmps49
  go_wp2_with fail
  have hb0 := box_refl w (.cells #[.int .i64 n, .slice oe es.length c, .slice oa ar.length ca] 27)
  refine (rotcheck_any n es oe c ar oa ca F G _ (hs.below edgR_ok (below_box hb0)) hc hc2 (ha.below (slcR_ok intR_ok (by decide)) (below_box hb0)) hac hac2 f hU q rot ot ct H (hr.below intR_ok (below_box hb0)) hrc hrl).mono ?_
  rintro e w2 ⟨rfl, hb2⟩
  have hx2 := hb2.mono (B' := w.heap.size + 1) (by simp)
  have d0 := box_cell hx2 0
  have d1 := box_cell hx2 1
  simp at d0 d1
  have HX2 := hide hx2
  rw [hE.out]
  clear hb2 hb0 hx2
  obtain ⟨z1, z2, z3, _⟩ := rtE_zero hE.out
  have HV : Hid (gErr n es = 0) := jErr_zero (chkE_zero z1).1
  have hn12 := (gErr_zero HV.out).1
  have hrot : rot.length ≤ 12 ∧ 0 < rot.length := by omega
  have HE : Hid (endsRes n es = (endsL es, 0)) := if_pos HV.out
  have hcap : (endsL es).length ≤ 50000 := by have := endsL_len fun x hx => ((gErr_zero HV.out).2.1 x hx).2.2.2.1; omega
  clear z1 z2 z3
  go_wp2_with fail
  refine (gends_any n es oe c F _ (hs.below edgR_ok (below_box HX2.out)) hc hc2).mono ?_
  rintro e w3 ⟨ev, rfl, hoE, hb3⟩
  rw [HE.out] at hoE ⊢
  have d0 := (hb3.cell (World.block_lt_of_cell? _ _ d0)).trans d0
  have d1 := (hb3.cell (World.block_lt_of_cell? _ _ d1)).trans d1
  have HX3 := hide (box_then HX2.out (by simp) hb3)
  have d2 := box_cell HX3.out 2
  simp at d2
  obtain ⟨oE, cE, rfl, hcE, hsE⟩ := hoE.slice prR_ok
  have HsE := hide (hsE.loc prR_ok (by decide))
  clear hsE hoE hb3
  go_wp2_with fail
  have hrD : SliceR intR 1 H w3.drew ot rot := (hr.below intR_ok (below_box HX3.out)).drew1 intR_ok
  have hne : rot ≠ [] := by intro h; rw [h] at hrot; simp at hrot
  go_region_held3 (fun w' => w'.cell? ⟨w.heap.size, 2, none⟩ = some (.slice oa ar.length ca)) (first | exact d2 | exact cell_next d2 _) (first
    | (go_at_call 77; refine (cloneI_any rot ot ct H _ hrD hrc (by omega)).mono ?_; rintro e w5 ⟨rv, rfl, hoR, hb5⟩; obtain ⟨rg, cap, rest, rfl, hgB, hcap2, hmax, hrow, h64⟩ := hoR.row hne; replace hcap2 := hide hcap2; have d2 := (hb5.cell (World.block_lt_of_cell? _ _ d2)).trans d2))
  all_goals
    obtain ⟨p, hp⟩ : ∃ p, p = w5.heap.size := ⟨_, rfl⟩
    have hbx := Box.new w5 [.int .i64 q, .slice oa ar.length ca, .slice none 0 0, .slice (some ⟨rg, 0, none⟩) rot.length cap] 85
    have hrow5 := hrow.new (.cells #[.int .i64 q, .slice oa ar.length ca, .slice none 0 0, .slice (some ⟨rg, 0, none⟩) rot.length cap] 85)
    have hrgp : rg < w5.heap.size := hrow.lt
    have hs3 : w3.heap.size ≤ w5.heap.size := hb5.size
    have hw3 := box_lt HX3.out
    have hB5 : Below w.heap.size w (w5.alloc (.cells #[.int .i64 q, .slice oa ar.length ca, .slice none 0 0, .slice (some ⟨rg, 0, none⟩) rot.length cap] 85)) := ((below_box HX3.out.drew).trans (hb5.mono (by simp; omega))).alloc (by omega) _
    have hE5 : SliceR prR 2 (Lt w3.heap.size) (w5.alloc (.cells #[.int .i64 q, .slice oa ar.length ca, .slice none 0 0, .slice (some ⟨rg, 0, none⟩) rot.length cap] 85)) oE (endsL es) := ((HsE.out.drew1 prR_ok).below prR_ok hb5).below prR_ok (bnew (Below.refl _ _) _)
    rw [← hp] at hbx hrgp hs3
    go_wp2_with fail
    have hgB2 : w.heap.size ≤ rg := by simp at hgB; omega
    rw [← hp]
    generalize hW5 : w5.alloc (.cells #[.int .i64 q, .slice oa ar.length ca, .slice none 0 0, .slice (some ⟨rg, 0, none⟩) rot.length cap] 85) = W5 at *
    have hsz5 : W5.heap.size = p + 1 := by rw [← hW5, hp]; simp
    clear hrow hoR d2 d0 d1 hb5 hgB hp hW5
    go_loopw [39] (fun iv wr => ∃ (k : Nat) (tv : Value), k ≤ (endsL es).length ∧ iv = .int .i64 k ∧ Box wr p [.int .i64 q, .slice oa ar.length ca, tv, .slice (some ⟨rg, 0, none⟩) rot.length cap] 85 ∧ OwnS intR 1 (p + 1) 3 Non wr tv (toL ((endsL es).take k)) ∧ Below p W5 wr) (fun iv _ => (endsL es).length - (intOf iv).toNat)
    case atStart => exact ⟨0, _, by omega, rfl, hbx, OwnS.nil _ _ _ _ _ _, Below.refl _ _⟩
    case round =>
      clear hbx
      obtain ⟨k, tv, hk, rfl, hbx, hown, hbW⟩ := hrel
      have hszW := hbW.size
      by_cases hlt : k < (endsL es).length
      · obtain ⟨a, b, _, hget, ia, ib, bl, off, hoE, _, c0, c1⟩ := (hE5.keep prR_ok fun j hj _ => hbW.block j (by have h2 : j < w3.heap.size := hj; omega)).pr_at hlt
        subst hoE
        have HA : Hid (toL ((endsL es).take (k + 1)) = toL ((endsL es).take k) ++ [b, a]) := by
          show _ = _
          rw [List.take_add_one, hget]
          exact toL_snoc _ (a, b)
        have htl : (toL ((endsL es).take k)).length ≤ 100000 := by rw [toL_len]; simp; omega
        obtain ⟨ov, cv, rfl, hcv, _⟩ := hown.slice intR_ok
        have b2 := hbx.cell 2
        have f2 := hbx.free 2
        simp at b2
        have hpl := hbx.lt
        have hszp : p ≤ wr.heap.size := by omega
        generalize toL ((endsL es).take k) = T at *
        have hlit : SliceR intR 1 All ((wr.alloc (.cells #[.int .i64 a, .int .i64 b] 107)).drew.alloc (.cells #[.int .i64 b, .int .i64 a] 3)) (some ⟨wr.heap.size + 1, 0, none⟩) [b, a] := by
          have := ints_lit (F := All) (G := All) (wr.alloc (.cells #[.int .i64 a, .int .i64 b] 107)).drew 3 [b, a] (by intro x hx; simp at hx; rcases hx with rfl | rfl <;> assumption) trivial
          simpa using this
        clear hget
        go_wp2_with fail
        go_region_law (refine step_append_rep rfl (.tmp 47) (.tmp 52) 28 rfl (p + 1) 3 _ 1 8 Try.underlying28 iInfo rfl (by decide) intR_ok Non All _ T (by simp [Act.eval, Act.put]) (((hown.new intR_ok _).draw intR_ok).new intR_ok _) (some ⟨wr.heap.size + 1, 0, none⟩) 2 [b, a] (by simp [Act.eval, Act.put]) hlit (fun _ _ h => h) (fun _ h => h.elim) (by simp; omega) (by simp; omega) (by simp; omega) ?_; intro v' w8 ho hb8 hg8; obtain ⟨o8, c8, rfl, hc8, _⟩ := ho.slice intR_ok; have hbx8 := (((hbx.next _).draw).next _).under hb8 (by omega); have f8 := hbx8.free 2; have e8 := hbx8.cell 2)
        all_goals
          have ho2 : OwnS intR 1 (p + 1) 3 Non w8 (.slice o8 (T.length + 2) c8) (T ++ [b, a]) := by simpa using ho
          go_wp2_with fail
          go_roundw
          case rel => exact ⟨k + 1, _, by omega, by go_num, by simpa using hbx8.put 2 _, by rw [HA.out]; exact ho2.keep intR_ok (fun g hg => Below.heap_setCell _ _ _ g (by have := (ho2.block g hg).1; simp; omega)) (fun _ hk _ => hk.elim), (((hbW.alloc hszp _).drew.alloc (by simp; omega) _).trans (hb8.mono (by omega))).setCell (by simp) _⟩
          case measure => simp [intOf]; omega
      · have : k = (endsL es).length := by omega
        subst this
        rw [List.take_length] at hown
        have HBX := hide hbx
        have HOWN := hide hown
        clear hbx hown
        go_wp2_with fail
        go_ret2
        exact ⟨p, rg, cap, tv, rest, rfl, ⟨by omega, HBX.out, hgB2, hrow5.keep (hbW.block rg (by omega)), hcap2.out, hmax, HOWN.out.rebase (by omega), fun e => by have := (HOWN.out.block _ e).1; omega⟩, hB5.trans (hbW.mono (by omega))⟩

end Go.Proofs.Ytopldbnlehjlpaa

set_option linter.unusedVariables false
set_option linter.unusedSimpArgs false
set_option linter.unnecessarySimpa false
namespace Go.Proofs.Ytopldbnlehjlpaa
open Go.RowKit

section
variable (n : Int) (es : List Edg) (oe : Option Addr) (c : Nat) (ar : List (List Int)) (oa : Option Addr) (ca : Nat) (F G : Foot) (w : World) (hs : SliceR edgR 3 F w oe es) (hc : es.length ≤ c) (hc2 : es.length ≤ 1000)
    (ha : SliceR (slcR intR 1) 1 G w oa ar) (hac : ar.length ≤ ca) (hac2 : ar.length ≤ 9223372036854775807) (f : List Nat) (hU : Hid (gErr n es = 0 → Uf f (eL es)))
    (q : Int) (rot : List Int) (ot : Option Addr) (ct : Nat) (H : Foot) (hr : SliceR intR 1 H w ot rot) (hrc : rot.length ≤ ct) (hrl : rot.length ≤ 9223372036854775807)
include hs hc hc2 ha hac hac2 hU hr hrc hrl

set_option maxRecDepth 100000 in
set_option maxHeartbeats 2000000 in
theorem boardOf_err (hE : Hid (rtE n es f ar q rot ≠ 0)) :
    Calls Try.prog 49 #[.agg #[.int .i64 n, .slice oe es.length c, .slice oa ar.length ca], .int .i64 q, .slice ot rot.length ct] w (BoardErr w (rtE n es f ar q rot)) := by
  go_enter Try.func49, Try.ntmps49
  go_wp2_with fail
  have hb0 := box_refl w (.cells #[.int .i64 n, .slice oe es.length c, .slice oa ar.length ca] 27)
  refine (rotcheck_any n es oe c ar oa ca F G _ (hs.below edgR_ok (below_box hb0)) hc hc2 (ha.below (slcR_ok intR_ok (by decide)) (below_box hb0)) hac hac2 f hU q rot ot ct H (hr.below intR_ok (below_box hb0)) hrc hrl).mono ?_
  rintro e w2 ⟨rfl, hb2⟩
  have HX := hide (below_box (hb2.mono (B' := w.heap.size + 1) (by simp)))
  have hq : (rtE n es f ar q rot != 0) = true := by simpa using hE.out
  clear hb2 hb0
  go_wp2_with fail
  go_ret2
  exact ⟨rfl, HX.out⟩

/-- The error of rotors and a vertex. -/
def stE (n : Int) (es : List Edg) (f : List Nat) (ar : List (List Int)) (q : Int) (rot : List Int) (v : Int) : Int := if rtE n es f ar q rot = 0 then (if vtxB n v = true then 0 else 2) else rtE n es f ar q rot

set_option maxRecDepth 100000 in
set_option maxHeartbeats 2000000 in
theorem at_yes (v : Int) (hE : Hid (rtE n es f ar q rot = 0)) (hV : 0 ≤ v ∧ v < n) :
    Calls Try.prog 42 #[.agg #[.int .i64 n, .slice oe es.length c, .slice oa ar.length ca], .int .i64 q, .slice ot rot.length ct, .int .i64 v] w (BoardPost w n es f ar oa ca q rot) := by
  go_enter Try.func42, Try.ntmps42
  go_wp2_with fail
  have hb0 := box_refl w (.cells #[.int .i64 n, .slice oe es.length c, .slice oa ar.length ca] 27)
  refine (boardOf_any n es oe c ar oa ca F G _ (hs.below edgR_ok (below_box hb0)) hc hc2 (ha.below (slcR_ok intR_ok (by decide)) (below_box hb0)) hac hac2 f hU q rot ot ct H (hr.below intR_ok (below_box hb0)) hrc hrl hE).mono ?_
  rintro e w2 ⟨p, rg, cap, tv, rest, rfl, hD, hb2⟩
  have hx2 := hb2.mono (B' := w.heap.size + 1) (by simp)
  have d0 := box_cell hx2 0
  simp at d0
  have HX := hide (below_box hx2)
  have HD := hide (hD.rebase (show w.heap.size ≤ _ by simp))
  have q1 : decide (v < 0) = false := by simp; omega
  have q2 : decide (n ≤ v) = false := by simp; omega
  have q3 : decide (v < n) = true := by simp; omega
  clear hb2 hb0 hx2 hD hV
  go_wp2_with fail
  go_ret2
  exact ⟨p, rg, cap, tv, rest, rfl, HD.out, HX.out⟩

set_option maxRecDepth 100000 in
set_option maxHeartbeats 2000000 in
theorem at_no (v : Int) (hE : Hid (stE n es f ar q rot v ≠ 0)) :
    Calls Try.prog 42 #[.agg #[.int .i64 n, .slice oe es.length c, .slice oa ar.length ca], .int .i64 q, .slice ot rot.length ct, .int .i64 v] w (BoardErr w (stE n es f ar q rot v)) := by
  go_enter Try.func42, Try.ntmps42
  go_wp2_with fail
  have hb0 := box_refl w (.cells #[.int .i64 n, .slice oe es.length c, .slice oa ar.length ca] 27)
  by_cases hR : rtE n es f ar q rot = 0
  · have HS : Hid (stE n es f ar q rot v = 2) := by
      show _ = _
      unfold stE
      rw [if_pos hR]
      split
      · rename_i h; exact absurd (by unfold stE; rw [if_pos hR, if_pos h]) hE.out
      · rfl
    have hV : ¬ (0 ≤ v ∧ v < n) := fun h => hE.out (by unfold stE; rw [if_pos hR, if_pos (vtxB_iff.2 h)])
    refine (boardOf_any n es oe c ar oa ca F G _ (hs.below edgR_ok (below_box hb0)) hc hc2 (ha.below (slcR_ok intR_ok (by decide)) (below_box hb0)) hac hac2 f hU q rot ot ct H (hr.below intR_ok (below_box hb0)) hrc hrl hR).mono ?_
    rintro e w2 ⟨p, rg, cap, tv, rest, rfl, hD, hb2⟩
    have hx2 := hb2.mono (B' := w.heap.size + 1) (by simp)
    have d0 := box_cell hx2 0
    simp at d0
    have HX := hide (below_box hx2)
    clear hb2 hb0 hx2 hD
    replace hR := hide hR
    by_cases hv0 : v < 0
    · have q1 : decide (v < 0) = true := by simp [hv0]
      clear hV hv0
      go_wp2_with fail
      go_ret2
      exact ⟨by rw [HS.out]; rfl, HX.out⟩
    · have q1 : decide (v < 0) = false := by simp; omega
      have q2 : decide (n ≤ v) = true := by simp; omega
      have q3 : decide (v < n) = false := by simp; omega
      clear hV hv0
      go_wp2_with fail
      go_ret2
      exact ⟨by rw [HS.out]; rfl, HX.out⟩
  · have HS : Hid (stE n es f ar q rot v = rtE n es f ar q rot) := if_neg hR
    refine (boardOf_err n es oe c ar oa ca F G _ (hs.below edgR_ok (below_box hb0)) hc hc2 (ha.below (slcR_ok intR_ok (by decide)) (below_box hb0)) hac hac2 f hU q rot ot ct H (hr.below intR_ok (below_box hb0)) hrc hrl hR).mono ?_
    rintro e w2 ⟨rfl, hb2⟩
    have HX := hide (below_box (hb2.mono (B' := w.heap.size + 1) (by simp)))
    have hq : (rtE n es f ar q rot != 0) = true := by simpa using hR
    clear hb2 hb0
    replace hR := hide hR
    go_wp2_with fail
    go_ret2
    exact ⟨by rw [HS.out]; rfl, HX.out⟩
end

end Go.Proofs.Ytopldbnlehjlpaa

set_option linter.unusedVariables false
set_option linter.unusedSimpArgs false
set_option linter.unnecessarySimpa false
namespace Go.Proofs.Ytopldbnlehjlpaa
open Go.RowKit

/-- Right rotors of a right ribbon graph. -/
structure RtOk (n : Int) (es : List Edg) (ar : List (List Int)) (q : Nat) (rot : List Int) : Prop where
  nar : (ar.length : Int) = n
  nrot : rot.length = ar.length
  hq : q < ar.length
  n12 : ar.length ≤ 12
  cap : (endsL es).length ≤ 50000
  rng : ∀ h, h < 2 * (endsL es).length → 0 ≤ hv (endsL es) h ∧ hv (endsL es) h < n
  rows : ∀ (v : Nat) (l : List Int), ar[v]? = some l → l.length ≤ 2 * (endsL es).length ∧ ∀ x ∈ l, ∃ h : Nat, x = h ∧ h < 2 * (endsL es).length ∧ hv (endsL es) h = (v : Int)
  rots : ∀ (v : Nat) (k : Int) (l : List Int), rot[v]? = some k → ar[v]? = some l → 0 ≤ k ∧ (v = q → k = 0) ∧ (v ≠ q → k < l.length)

theorem rowsE_zero : ∀ {ar os : List (List Int)}, rowsE ar os = 0 → ∀ (v : Nat) (a o : List Int), ar[v]? = some a → os[v]? = some o → listE a o = 0
  | [], _, _, v, a, o, h, _ => by simp at h
  | _ :: _, [], _, v, a, o, _, h => by simp at h
  | x :: r, y :: s, hz, v, a, o, h1, h2 => by
    rw [rowsE_cons] at hz
    split at hz
    · rename_i h0
      cases v with
      | zero => simp at h1 h2; subst h1 h2; exact h0
      | succ v => exact rowsE_zero hz v a o (by simpa using h1) (by simpa using h2)
    · rename_i h0; exact absurd hz h0
theorem listE_zero {l own : List Int} (h : listE l own = 0) : l.length = own.length ∧ ∀ x ∈ l, x ∈ own := by
  unfold listE at h
  split at h
  · rename_i h1
    split at h
    · rename_i h2
      exact ⟨h1, (scanE_zero h2 (by simp) (by simp)).2⟩
    · rename_i h2; exact absurd h h2
  · cases h
theorem rotE_zero {q : Int} : ∀ {v0 : Nat} {ar : List (List Int)} {rot : List Int}, rotE q v0 ar rot = 0 → ∀ (v : Nat) (k : Int) (l : List Int), rot[v]? = some k → ar[v]? = some l → ¬ badR q (v0 + v) k l.length
  | v0, [], rot, _, v, k, l, _, h => by simp at h
  | v0, _ :: _, [], _, v, k, l, h, _ => by simp at h
  | v0, a :: ar, x :: rot, hz, v, k, l, h1, h2 => by
    rw [rotE_cons] at hz
    split at hz
    · cases hz
    · rename_i h0
      cases v with
      | zero => simp at h1 h2; subst h1 h2; exact h0
      | succ v =>
        have := rotE_zero hz v k l (by simpa using h1) (by simpa using h2)
        rw [show v0 + (v + 1) = v0 + 1 + v from by omega]
        exact this

theorem RtOk.of {n : Int} {es : List Edg} {f : List Nat} {ar : List (List Int)} {q : Int} {rot : List Int} (h : rtE n es f ar q rot = 0) (hc2 : es.length ≤ 1000) : ∃ q' : Nat, q = q' ∧ RtOk n es ar q' rot := by
  obtain ⟨h1, h2, h3, h4⟩ := rtE_zero h
  obtain ⟨j1, j2, j3⟩ := chkE_zero h1
  have hV := jErr_zero j1
  have hn12 := (gErr_zero hV).1
  obtain ⟨q', rfl⟩ := Int.eq_ofNat_of_zero_le h2.1
  refine ⟨q', rfl, ⟨j2, by omega, by omega, by omega, ?_, hv_range hV, ?_, ?_⟩⟩
  · have := endsL_len (es := es) fun x hx => ((gErr_zero hV).2.1 x hx).2.2.2.1
    omega
  · intro v l hl
    have hvl : v < ar.length := (List.getElem?_eq_some_iff.1 hl).1
    have ho : (halfs n es)[v]? = some (halfU (endsL es) (2 * (endsL es).length) v) := halvesU_get (by omega)
    obtain ⟨e1, e2⟩ := listE_zero (rowsE_zero j3 v l _ hl ho)
    refine ⟨by rw [e1]; exact halfU_len _ _ _, fun x hx => halfU_mem.1 (e2 x hx)⟩
  · intro v k l hk hl
    have := rotE_zero h4 v k l hk hl
    rw [Nat.zero_add] at this
    unfold badR at this
    refine ⟨by omega, fun e => ?_, fun e => ?_⟩
    · subst e; omega
    · omega

/-- The rotor behind a step at v, and where the chip goes. -/
def stpK (ar : List (List Int)) (rot : List Int) (v : Nat) : Nat := ((rot.getD v 0).toNat + 1) % (ar.getD v []).length
def stpR (ar : List (List Int)) (rot : List Int) (v : Nat) : List Int := rot.set v (stpK ar rot v : Nat)
def stpV (ar : List (List Int)) (E : List (Int × Int)) (rot : List Int) (v : Nat) : Nat := (hv E (oppH ((ar.getD v []).getD (stpK ar rot v) 0).toNat)).toNat

theorem oppH_lt {h m : Nat} (hh : h < 2 * m) : oppH h < 2 * m := by unfold oppH; split <;> omega
theorem getD_of {α : Type} {l : List α} {i : Nat} {x d : α} (h : l[i]? = some x) : l.getD i d = x := by rw [List.getD_eq_getElem?_getD, h]; rfl

theorem RtOk.step {n : Int} {es : List Edg} {ar : List (List Int)} {q : Nat} {rot : List Int} (h : RtOk n es ar q rot) {v : Nat} (hv' : v < ar.length) (hvq : v ≠ q) :
    (∃ (l : List Int) (k g : Nat), ar[v]? = some l ∧ rot[v]? = some (k : Int) ∧ k < l.length ∧ l.length ≤ 1000000 ∧ stpK ar rot v = (k + 1) % l.length ∧ l[(k + 1) % l.length]? = some (g : Int) ∧ (toL (endsL es))[g]? = some ((stpV ar (endsL es) rot v : Nat) : Int)) ∧
    RtOk n es ar q (stpR ar rot v) ∧ stpV ar (endsL es) rot v < ar.length := by
  have hl : ar[v]? = some ar[v] := List.getElem?_eq_getElem hv'
  have hk0 : rot[v]? = some (rot[v]'(by rw [h.nrot]; exact hv')) := List.getElem?_eq_getElem (by rw [h.nrot]; exact hv')
  obtain ⟨r1, _, r3⟩ := h.rots v _ _ hk0 hl
  generalize rot[v]'(by rw [h.nrot]; exact hv') = k at hk0 r1 r3
  generalize ar[v] = l at *
  obtain ⟨k, rfl⟩ := Int.eq_ofNat_of_zero_le r1
  have hkl : k < l.length := by have := r3 hvq; omega
  obtain ⟨w1, w2⟩ := h.rows v l hl
  have hK : stpK ar rot v = (k + 1) % l.length := by
    unfold stpK
    rw [getD_of hk0, getD_of hl]
    simp
  have hKl : (k + 1) % l.length < l.length := Nat.mod_lt _ (by omega)
  have hx : l[(k + 1) % l.length]? = some l[(k + 1) % l.length] := List.getElem?_eq_getElem hKl
  obtain ⟨g, hg, hg2, _⟩ := w2 _ (List.getElem_mem hKl)
  rw [hg] at hx
  have hV : stpV ar (endsL es) rot v = (hv (endsL es) (oppH g)).toNat := by
    unfold stpV
    rw [hK, getD_of hl, getD_of hx]
    simp
  have hr := h.rng _ (oppH_lt hg2)
  have hr2 := h.nar
  refine ⟨⟨l, k, g, hl, hk0, hkl, by have := h.cap; omega, hK, hx, ?_⟩, ⟨h.nar, ?_, h.hq, h.n12, h.cap, h.rng, h.rows, ?_⟩, by rw [hV]; omega⟩
  · rw [toL_get _ g hg2, hV]
    congr 1
    omega
  · unfold stpR; rw [List.length_set]; exact h.nrot
  · intro u y m hy hm
    unfold stpR at hy
    by_cases hu : v = u
    · subst hu
      rw [List.getElem?_set_self (by rw [h.nrot]; exact hv')] at hy
      injection hy with hy
      subst hy
      rw [hl] at hm
      injection hm with hm
      subst hm
      exact ⟨by omega, fun e => absurd e hvq, fun _ => by rw [hK]; omega⟩
    · rw [List.getElem?_set_ne hu] at hy
      exact h.rots u y m hy hm

/-- The way of a chip: the rotors behind it and the vertices, at most m steps. -/
def wlk (ar : List (List Int)) (E : List (Int × Int)) (q : Nat) : Nat → List Int → Nat → List Nat → Option (List Int × List Nat)
  | 0, rot, v, acc => if v = q then some (rot, acc ++ [v]) else none
  | m + 1, rot, v, acc => if v = q then some (rot, acc ++ [v]) else wlk ar E q m (stpR ar rot v) (stpV ar E rot v) (acc ++ [v])
theorem wlk_end {ar : List (List Int)} {E : List (Int × Int)} {q : Nat} (m : Nat) (rot : List Int) (acc : List Nat) : wlk ar E q m rot q acc = some (rot, acc ++ [q]) := by
  cases m <;> (unfold wlk; rw [if_pos rfl])

/-- A step of the program, at right rotors. -/
theorem step_ok {B : Nat} {w : World} {p rg cap : Nat} {tv : Value} {n : Int} {es : List Edg} {ar : List (List Int)} {q : Nat} {rot : List Int} {rest : List Value} {oa : Option Addr} {ca : Nat}
    (hD : Brd B w p rg cap tv q (.slice oa ar.length ca) (toL (endsL es)) rot rest) (ha : SliceR (slcR intR 1) 1 (Lt B) w oa ar) (h : RtOk n es ar q rot) {v : Nat} (hv' : v < ar.length) (hvq : v ≠ q) :
    Calls Try.prog 43 #[.pointer (some ⟨p, 0, none⟩), .int .i64 v] w fun e w' => e = .returned (.int .i64 (stpV ar (endsL es) rot v : Nat)) ∧ Brd B w' p rg cap tv q (.slice oa ar.length ca) (toL (endsL es)) (stpR ar rot v) rest ∧ w.grownBy w' (some rg) := by
  obtain ⟨⟨l, k, g, h1, h2, h3, h4, h5, h6, h7⟩, _⟩ := h.step hv' hvq
  have := step_any B w p rg cap tv q (toL (endsL es)) rot rest oa ca ar hD ha v (by rw [h.nrot]; exact hv') hv' l h1 k h2 h3 h4 g h6 _ h7
  refine this.mono ?_
  rintro e w' ⟨e1, e2, e3⟩
  refine ⟨e1, ?_, e3⟩
  unfold stpR
  rw [h5]
  exact e2

end Go.Proofs.Ytopldbnlehjlpaa

set_option linter.unusedVariables false
set_option linter.unusedSimpArgs false
set_option linter.unnecessarySimpa false
namespace Go.Proofs.Ytopldbnlehjlpaa
open Go.RowKit

/-- A list of the call's own is put behind: 'out = append(out, row)'. -/
theorem Lists.push {base s0 : Nat} {e lt : TypeId} {w w1 w' : World} {ov ov' v : Value} {vs : List Value} {xss : List (List Int)} {xs : List Int} (h : Lists base e lt w ov vs xss) (hs : w.heap.size = s0) (hb : base ≤ s0) (hb1 : Below s0 w w1) (hv : OwnN s0 e w1 v xs) {o : Obj}
    (hr : w'.ownsRow base lt 1 ov' (vs.length + 1) (vs ++ [v])) (hg : (w1.alloc o).grownBy w' ov.ownBlock)
    (hat : ov'.ownBlock = ov.ownBlock ∨ ov'.ownBlock = some (w1.alloc o).heap.size) : Lists base e lt w' ov' (vs ++ [v]) (xss ++ [xs]) := by
  have hsz := hb1.size
  have key : ∀ (i : Nat) (u : Value), (vs ++ [v])[i]? = some u → (i < vs.length ∧ vs[i]? = some u) ∨ (i = vs.length ∧ u = v) := fun i u hi => by
    rcases Nat.lt_or_ge i vs.length with hj | hj
    · rw [List.getElem?_append_left hj] at hi; exact .inl ⟨hj, hi⟩
    · rw [List.getElem?_append_right hj] at hi
      have h1 := (List.getElem?_eq_some_iff.1 hi).1
      simp at h1
      have : i = vs.length := by omega
      subst this
      simp at hi
      exact .inr ⟨rfl, hi.symm⟩
  have hold : ∀ (i : Nat) (u : Value) (k : Nat), vs[i]? = some u → u.ownBlock = some k → base ≤ k ∧ k < s0 := fun i u k hi hk => by have := h.ms.block hi k hk; omega
  have hovl : ∀ k, ov.ownBlock = some k → k < s0 := fun k hk => by have := (h.row.lt k hk).2; omega
  refine ⟨by rw [List.length_append]; exact hr, ⟨by simp [h.len], fun i u ys hu hy => ?_, fun i j u t k hu ht hku hkt => ?_⟩, fun i u k hi hk he => ?_⟩
  · rcases key i u hu with ⟨a1, a2⟩ | ⟨a1, a2⟩
    · rw [List.getElem?_append_left (by rw [← h.len]; exact a1)] at hy
      refine (h.ms.own i u ys a2 hy).keep fun g hgu => ?_
      have hgl := hold i u g a2 hgu
      rw [hg.block g (by simp; omega) (fun he => h.off i u g a2 hgu he.symm), Below.heap_alloc w1 o g (by omega)]
      exact hb1.block g hgl.2
    · subst a1 a2
      rw [List.getElem?_append_right (by rw [← h.len]; exact Nat.le_refl _), h.len, Nat.sub_self] at hy
      simp at hy
      subst hy
      refine (hv.rebase hb).keep fun g hgu => ?_
      have hgl := hv.block g hgu
      rw [hg.block g (by simp; omega) (fun he => by have := hovl g he.symm; omega), Below.heap_alloc w1 o g (by omega)]
  · rcases key i u hu with ⟨a1, a2⟩ | ⟨a1, a2⟩ <;> rcases key j t ht with ⟨b1, b2⟩ | ⟨b1, b2⟩
    · exact h.ms.apart i j u t k a2 b2 hku hkt
    · subst b2
      have := hold i u k a2 hku
      have := hv.block k hkt
      omega
    · subst a2
      have := hold j t k b2 hkt
      have := hv.block k hku
      omega
    · rw [a1, b1]
  · rcases key i u hi with ⟨a1, a2⟩ | ⟨a1, a2⟩
    · rcases hat with ha | ha
      · exact h.off i u k a2 hk (ha ▸ he)
      · rw [ha] at he
        injection he with he
        have := hold i u k a2 hk
        simp at he
        omega
    · subst a2
      have hkl := hv.block k hk
      rcases hat with ha | ha
      · rw [ha] at he
        have := hovl k he
        omega
      · rw [ha] at he
        injection he with he
        simp at he
        omega

/-- As it is read. -/
theorem Lists.read {base : Nat} {e lt : TypeId} {w : World} {ov : Value} {vs : List Value} {xss : List (List Int)} (h : Lists base e lt w ov vs xss) (hl : ∀ xs ∈ xss, xs.length ≤ 9223372036854775807) : ∃ oa c, ov = .slice oa xss.length c ∧ xss.length ≤ c ∧ SliceR (slcR intR 1) 1 All w oa xss := by
  have hlen := h.len
  rcases h.row.2 with ⟨h1, h2⟩ | ⟨g, c, cur, h1, h2, h3, h4, h5, h6, h7⟩
  · refine ⟨none, 0, by rw [h1, ← hlen, h2], by omega, ?_⟩
    have : xss = [] := List.eq_nil_of_length_eq_zero (by omega)
    subst this
    exact SliceR.nil _ _ _ _ _
  · refine ⟨_, c, by rw [h1, hlen], by omega, fun i xs hx => ?_⟩
    have hil : i < vs.length := by rw [hlen]; exact (List.getElem?_eq_some_iff.1 hx).1
    obtain ⟨oa, c', e1, e2, e3⟩ := (h.ms.own i vs[i] xs (List.getElem?_eq_getElem hil) hx).slice
    refine ⟨g, 0, [vs[i]], rfl, trivial, ⟨oa, c', by rw [e1], e2, hl xs (List.mem_of_getElem? hx), e3.wide intR_ok (by decide) fun _ _ _ => trivial⟩, fun j u hu => ?_⟩
    have hj : j = 0 := by
      have := (List.getElem?_eq_some_iff.1 hu).1
      simp at this
      exact this
    subst hj
    simp at hu
    subst hu
    subst h1
    have := h.row.cellAt i (by omega)
    rw [List.getElem?_eq_getElem hil] at this
    simpa using this

theorem ownsRow_slice' {W : World} {base : Nat} {e : TypeId} {size k : Nat} {v : Value} {xs : List Value} (h : W.ownsRow base e size v k xs) : ∃ a c, v = .slice a k c := by
  rcases h.2 with ⟨rfl, rfl⟩ | ⟨g, cap, cur, rfl, _⟩
  · exact ⟨_, _, rfl⟩
  · exact ⟨_, _, rfl⟩
theorem opp_any (h : Nat) (hh : h < 1000000000) (w : World) : Calls Try.prog 62 #[.int .i64 h] w fun e w' => e = .returned (.int .i64 (oppH h : Nat)) ∧ w = w' := by
  by_cases hp : h % 2 = 0
  · have hr1 : ((h : Int)).tmod 2 = 0 := by rw [Int.tmod_eq_emod_of_nonneg (by omega)]; omega
    have HO : Hid ((h : Int) + 1 = (oppH h : Nat)) := by show _ = _; unfold oppH; rw [if_pos hp]; omega
    clear hp
    go_enter Try.func62, Try.ntmps62
    go_wp2_with fail
    go_ret
    exact ⟨ret_int (by have := HO.out; first | exact this | (simp; omega) | omega), rfl⟩
  · have hr1 : ((h : Int)).tmod 2 = 1 := by rw [Int.tmod_eq_emod_of_nonneg (by omega)]; omega
    have HO : Hid ((h : Int) + 1 - 2 = (oppH h : Nat)) := by show _ = _; unfold oppH; rw [if_neg hp]; omega
    have hp1 : 1 ≤ h := by omega
    clear hp
    go_enter Try.func62, Try.ntmps62
    go_wp2_with fail
    go_ret
    exact ⟨ret_int (by have := HO.out; first | exact this | (simp; omega) | omega), rfl⟩

/-- To which vertex each half-edge in the lists leads. -/
def tgL (ar : List (List Int)) (E : List (Int × Int)) : List (List Int) := ar.map fun l => l.map fun x => hv E (oppH x.toNat)

theorem tgL_get {ar : List (List Int)} {E : List (Int × Int)} {k : Nat} {l : List Int} (h : ar[k]? = some l) : (tgL ar E)[k]? = some (l.map fun x => hv E (oppH x.toNat)) := by
  unfold tgL
  rw [List.getElem?_map, h]
  rfl
theorem tgL_len (ar : List (List Int)) (E : List (Int × Int)) : (tgL ar E).length = ar.length := by simp [tgL]

def TgPost (w : World) (t : List (List Int)) (e : Ending) (w' : World) : Prop := ∃ ot c, e = .returned (.slice ot t.length c) ∧ t.length ≤ c ∧ SliceR (slcR intR 1) 1 All w' ot t ∧ Below w.heap.size w w'

set_option maxRecDepth 100000 in
set_option maxHeartbeats 4000000 in
theorem targets_any (n : Int) (es : List Edg) (oe : Option Addr) (c : Nat) (ar : List (List Int)) (oa : Option Addr) (ca : Nat) (F G : Foot) (w : World) (hs : SliceR edgR 3 F w oe es) (hc : es.length ≤ c) (hc2 : es.length ≤ 1000)
    (ha : SliceR (slcR intR 1) 1 G w oa ar) (hac : ar.length ≤ ca) (hac2 : ar.length ≤ 9223372036854775807) (hm : Hid (∀ x ∈ es, x.m ≤ 50)) (q : Nat) (rot : List Int) (hok : RtOk n es ar q rot) :
    Calls Try.prog 32 #[.agg #[.int .i64 n, .slice oe es.length c, .slice oa ar.length ca]] w (TgPost w (tgL ar (endsL es))) := by
  obtain ⟨i0, hi0, hz0, hz1, hz2⟩ := info_parts listInfo
  have HI := hide (And.intro hi0 (And.intro hz0 (And.intro hz1 hz2)))
  have hn : n = (ar.length : Int) := hok.nar.symm
  have hn12 : ar.length ≤ 12 := hok.n12
  have hcap := hok.cap
  have HOK := hide hok
  clear hok hi0 hz0 hz1 hz2
  subst hn
  go_enter Try.func32, Try.ntmps32
  go_wp2_with fail
  have hb0 := box_refl w (.cells #[.int .i64 (ar.length : Int), .slice oe es.length c, .slice oa ar.length ca] 27)
  refine (rgends_any (ar.length : Int) es oe c F _ (hs.below edgR_ok (below_box hb0)) hc hc2 hm).mono ?_
  rintro e w2 ⟨ev, rfl, hoE, hb2⟩
  obtain ⟨oE, cE, rfl, hcE, hsE⟩ := hoE.slice prR_ok
  have hx2 := hb2.mono (B' := w.heap.size + 1) (by simp)
  have hsz2 := box_lt hx2
  have HSE := hide hsE
  have HX2 := hide hx2
  clear hoE hb2 hb0 hx2 hsE
  go_wp2_with fail
  go_loopw [5, 4] (fun iv ov wr => ∃ (k : Nat) (vs : List Value), k ≤ ar.length ∧ iv = .int .i64 k ∧ Lists w2.heap.size 3 28 wr ov vs ((tgL ar (endsL es)).take k) ∧ Below w2.heap.size w2 wr) (fun iv _ _ => ar.length - (intOf iv).toNat)
  case atStart => exact ⟨0, [], by omega, rfl, Lists.nil _ _ _ _, Below.refl _ _⟩
  case round =>
    obtain ⟨k, vs, hk, rfl, HL, hbW⟩ := hrel
    have hszW := hbW.size
    have hxW : Below (w.heap.size + 1) (w.alloc (.cells #[.int .i64 (ar.length : Int), .slice oe es.length c, .slice oa ar.length ca] 27)) wr := HX2.out.trans (hbW.mono (by omega))
    have d0 := box_cell hxW 0
    simp at d0
    by_cases hlt : k < ar.length
    · obtain ⟨l, _, hl, _⟩ := (ha.below (slcR_ok intR_ok (by decide)) (below_box hxW)).slc_at hlt
      obtain ⟨hll, hlx⟩ := HOK.out.rows k l hl
      have HLX := hide hlx
      have HGL := hide hl
      have HLL := hide HL
      have HT : Hid ((tgL ar (endsL es)).take (k + 1) = (tgL ar (endsL es)).take k ++ [l.map fun x => hv (endsL es) (oppH x.toNat)]) := by
        show _ = _
        rw [List.take_add_one, tgL_get hl]; rfl
      clear hl hlx HL
      go_wp2_with fail
      obtain ⟨wo, hwo⟩ : ∃ wo : World, wo = wr := ⟨_, rfl⟩
      subst hwo
      go_loopw [7, 6] (fun jv rv wi => ∃ (j : Nat), j ≤ l.length ∧ jv = .int .i64 j ∧ OwnN wo.heap.size 3 wi rv ((l.map fun x => hv (endsL es) (oppH x.toNat)).take j) ∧ Below wo.heap.size wo wi) (fun jv _ _ => l.length - (intOf jv).toNat)
      case atStart => exact ⟨0, by omega, rfl, OwnN.nil, Below.refl _ _⟩
      case round =>
        clear d0
        obtain ⟨j, hj, rfl, hown, hbi⟩ := hrel
        have hbi2 := hbW.trans (hbi.mono hszW)
        have hxi : Below (w.heap.size + 1) (w.alloc (.cells #[.int .i64 (ar.length : Int), .slice oe es.length c, .slice oa ar.length ca] 27)) wr := hxW.trans (hbi.mono (by omega))
        have d2 := box_cell hxi 2
        simp at d2
        obtain ⟨l', _, hl', b, off, ol, cl, hoa, hbB, c0, hxl, _, hsl⟩ := (ha.below (slcR_ok intR_ok (by decide)) (below_box hxi)).slc_at hlt
        rw [HGL.out] at hl'
        injection hl' with hl'
        subst hl'
        subst hoa
        by_cases hjl : j < l.length
        · obtain ⟨y, _, hy, iy, b2, off2, hol, hb2, e0⟩ := hsl.int_at hjl
          subst hol
          obtain ⟨g, rfl, hg2, _⟩ := HLX.out y (List.mem_of_getElem? hy)
          have hog : oppH g < 2 * (endsL es).length := oppH_lt hg2
          obtain ⟨o, ho⟩ : ∃ o, o = oppH g := ⟨_, rfl⟩
          have HTJ : Hid ((l.map fun x => hv (endsL es) (oppH x.toNat)).take (j + 1) = (l.map fun x => hv (endsL es) (oppH x.toNat)).take j ++ [hv (endsL es) o]) := by
            show _ = _
            rw [List.take_add_one, List.getElem?_map, hy, ho]
            simp
          obtain ⟨qq, hqq⟩ : ∃ qq, qq = o / 2 := ⟨_, rfl⟩
          rw [← ho] at hog
          have hq1 : ((o : Int)).tdiv 2 = (qq : Int) := by rw [Int.tdiv_eq_ediv_of_nonneg (by omega)]; omega
          have hql : qq < (endsL es).length := by omega
          obtain ⟨A, B, _, hget, iA, iB, bl, of3, hoE, _, e1, e2⟩ := ((HSE.out.below prR_ok hbi2)).pr_at hql
          subst hoE
          have hgd : (endsL es).getD qq (0, 0) = (A, B) := by rw [List.getD_eq_getElem?_getD, hget]; rfl
          have hlr : ((l.map fun x => hv (endsL es) (oppH x.toNat)).take j).length ≤ 200000 := by simp; omega
          have hW0 := hbi.size
          generalize (l.map fun x => hv (endsL es) (oppH x.toNat)).take j = T at hown HTJ hlr
          have hgg : g < 1000000000 := by omega
          have HO := hide ho
          have HBI := hide hbi
          by_cases hp : o % 2 = 0
          · have HV : Hid (hv (endsL es) o = A) := by show _ = _; rw [hv, if_pos hp, ← hqq, hgd]
            have hr1 : ((o : Int)).tmod 2 = 0 := by rw [Int.tmod_eq_emod_of_nonneg (by omega)]; omega
            have hone := one_cell (w := wr) (t := 3) (v := .int .i64 A) (j := 0) rfl
            clear hy hget hgd hp hqq ho hbi hbi2 hxi hb2
            go_wp2_with (first
              | (go_at_call 62; refine (opp_any g hgg _).mono ?_; rintro e w' ⟨rfl, rfl⟩; rw [← HO.out])
              | (at_builtin; refine wpList_append_n rfl (.tmp 38) (.tmp 47) 28 rfl wo.heap.size 3 _ Try.underlying28 intInfo8 rfl _ T rfl (hown.new _) ⟨wr.heap.size, 0, none⟩ 1 A rfl hone iA (by omega) (by simp; omega) ?_; intro v' w3 ho3 hb3 hg3 hv3)
              | fail)
            go_roundw
            case rel => exact ⟨j + 1, by omega, by go_num, by rw [HTJ.out, HV.out]; exact ho3, (HBI.out.alloc (by omega) _).trans hb3⟩
            case measure => simp [intOf]; omega
          · have HV : Hid (hv (endsL es) o = B) := by show _ = _; rw [hv, if_neg hp, ← hqq, hgd]
            have hr1 : ((o : Int)).tmod 2 = 1 := by rw [Int.tmod_eq_emod_of_nonneg (by omega)]; omega
            have hone := one_cell (w := wr) (t := 3) (v := .int .i64 B) (j := 0) rfl
            clear hy hget hgd hp hqq ho hbi hbi2 hxi hb2
            go_wp2_with (first
              | (go_at_call 62; refine (opp_any g hgg _).mono ?_; rintro e w' ⟨rfl, rfl⟩; rw [← HO.out])
              | (at_builtin; refine wpList_append_n rfl (.tmp 38) (.tmp 47) 28 rfl wo.heap.size 3 _ Try.underlying28 intInfo8 rfl _ T rfl (hown.new _) ⟨wr.heap.size, 0, none⟩ 1 B rfl hone iB (by omega) (by simp; omega) ?_; intro v' w3 ho3 hb3 hg3 hv3)
              | fail)
            go_roundw
            case rel => exact ⟨j + 1, by omega, by go_num, by rw [HTJ.out, HV.out]; exact ho3, (HBI.out.alloc (by omega) _).trans hb3⟩
            case measure => simp [intOf]; omega
        · have hje : j = l.length := by omega
          have HT2 : Hid ((l.map fun x => hv (endsL es) (oppH x.toNat)).take j = l.map fun x => hv (endsL es) (oppH x.toNat)) := by
            show _ = _
            rw [hje]
            exact List.take_of_length_le (by simp)
          rw [HT2.out] at hown
          have hW0 := hbi.size
          obtain ⟨o1, c1, rfl⟩ := ownsRow_slice' HLL.out.row
          obtain ⟨o2, c2, hrv, _, _⟩ := hown.slice
          subst hrv
          have hrow1 := (HLL.out.below hbi).row
          have hvl : vs.length ≤ 12 := by have := HLL.out.len; simp [tgL] at this; omega
          have HBI := hide hbi
          have hel : (l.map fun x => hv (endsL es) (oppH x.toNat)).length = l.length := by simp
          generalize (l.map fun x => hv (endsL es) (oppH x.toNat)) = T at hown HT hel
          rw [hel] at hown
          clear hbi2 hxi hje HT2
          go_wp2_with (first
            | (at_builtin; refine wpList_append_own_at _ rfl (.tmp 49) (.tmp 51) 25 rfl w2.heap.size 28 i0 _ 1 24 Try.underlying25 HI.out.1 HI.out.2.1 HI.out.2.2.1 HI.out.2.2.2 rfl (by decide) (.slice o1 vs.length c1) vs.length vs rfl (hrow1.alloc _) ⟨wr.heap.size, 0, none⟩ 1 1 [.slice o2 l.length c2] rfl rfl (fun j u hj => one_cell hj) (by simp [Value.oneCell']) (by unfold maxLen; omega) (by omega) (by simp; omega) ?_; intro ov2 w4 hrow4 hg4 hnil4 hat4)
            | fail)
          have hL4 := HLL.out.push rfl (by omega) HBI.out hown hrow4 hg4 hat4
          have hb4 : Below w2.heap.size w2 w4 := by
            exact ((hbW.trans (HBI.out.mono hszW)).alloc (by omega) _).grown hg4 (by simp; omega) fun i hi => (HLL.out.row.lt i hi).1
          go_roundw
          case rel => exact ⟨k + 1, _, by omega, by go_num, by rw [HT.out]; exact hL4, hb4⟩
          case measure => simp [intOf]; omega
    · have hke : k = ar.length := by omega
      have HK : Hid ((tgL ar (endsL es)).take k = tgL ar (endsL es)) := by
        show _ = _
        rw [hke]
        exact List.take_of_length_le (by simp [tgL])
      rw [HK.out] at HL
      obtain ⟨ro, rc, hov, hrc, hrd⟩ := HL.read (by
        intro xs hxs
        unfold tgL at hxs
        obtain ⟨l, hl, rfl⟩ := List.mem_map.1 hxs
        obtain ⟨i, hi, rfl⟩ := List.getElem_of_mem hl
        have := (HOK.out.rows i _ (List.getElem?_eq_getElem hi)).1
        simp
        omega)
      subst hov
      clear hke HK HL
      go_wp2_with fail
      go_ret
      exact ⟨ro, rc, rfl, hrc, hrd, (below_box hxW)⟩


end Go.Proofs.Ytopldbnlehjlpaa
